/- A part of the proof. -/
import Derived.Test.YtfmpdgeiodnnfaaGreatDoorB9
set_option maxRecDepth 100000
set_option maxHeartbeats 2000000
set_option linter.all false
namespace Go.Proofs.YtfmpdgeiodnnfaaGreatDoor
section
open Go Go.ax QQ
def jh (role:BB) (ps:List PT) (x:Nat):Prop:=∃p,ps[x]? = some p∧(p.fr==role||p.to==role)=true
def aL (s:BB):List D:=[.str s]
theorem SZ:∀a:PR,0+3≤(di a).length∧dV eb (List.take 3 (List.drop 0 (di a)))=some ((fun p=>(p.nm,(p.rt,p.rs.map aL),(p.pt,p.il),())) a):=(fun a=>⟨by simp [di],rfl⟩)
theorem ry:∀a:BB,0+1≤(aL a).length∧dV [DS.str] (List.take 1 (List.drop 0 (aL a)))=some ((fun a=>(a,())) a):=(fun a=>⟨by simp [aL],rfl⟩)
theorem jh.lt {role:BB} {ps:List PT} {x:Nat} (h:jh role ps x):x < ps.length:=by
 obtain ⟨p,h1,_⟩:=h;exact (cw.1 h1).1
theorem qz:∀l:List BB,aW (l.map aL)=l.map aL
 | []=>rfl
 | a::t=>by simp only [gl,aW,qz t];rfl
theorem an1 (l:List BB):lS (l.map aL)=true:=by
 cases l with
 | nil=>rfl
 | cons a t=>simp [lS,tj,xD,aL]
theorem DK (l:List BB) (b:Bool):fT 16 (l.map aL) b=true:=by
 unfold fT;rw [an1];rfl
section
variable {m:Nat} {Q:V→List (List C)→Prop}
theorem RX (q:Nat) (hq:100≤q) {ps:List PT} (role nm:BB) (rs:Bool×RR) (pb lb:Bool) (l:List Nat) (hl:∀x∈l,x < ps.length) (oB:l.length≤50) (b1:Bool) (r1:RR) {K:df.T→OR}
  (h:∀b (l':List Nat),(∀x∈l',jh role ps x)→l'.length≤l.length→Wp (K ((b,l'.map aU),())) Q) :
  ∀(c i:Nat) (o:List Nat),l.length - i < c→i≤l.length→(∀x∈o,jh role ps x)→o.length≤i→
   Wp (Gc (T q) q c role lb (l.map aU) (nm,(.im b1,r1),(.im pb,ps.map cP),()) (o.map aU) (i:Int)) (J df K Q)
 | 0,i,o,hc,_,_,_=>by omega
 | c+1,i,o,hc,hi,ho,Zf=>by
  refine aC alY (aj (fun g1=>eZ ?_) (fun g1=>?_))
  ·have af:i < l.length:=bN g1;have hw:=wI i;have hg:l[i]? = some l[i]:=gE af;have hx:=hl _ (bM af);have E9:ps[l[i]]? = some ps[l[i]]:=gE hx;refine aM gQ rfl hg ?_;refine aM Dl rfl E9 ?_;refine Un (m:=q) (by omega) (aj (fun g2=>?_) (fun g2=>?_))
   ·refine aM gQ rfl hg (aF (gX (by simp;omega) (by omega)) ?_);rw [hw,du];have:=RX q hq role nm rs pb lb l hl oB b1 r1 h c (i+1) (o++[l[i]]) (by omega) (by omega)
     (by intro x hx;rw [dC] at hx;rcases hx with hx | hx;exact ho x hx;simp at hx;subst hx;exact ⟨_,E9,g2⟩) (by simp;omega)
    rw [eB] at this;exact this
   ·rw [hw];exact RX q hq role nm rs pb lb l hl oB b1 r1 h c (i+1) o (by omega) (by omega) ho (by omega)
  ·refine aF (by simp) ?_;rw [du,GN];exact aA (aE rfl (h false o ho (by omega)))
theorem abd (q:Nat) (hq:100≤q) {ps:List PT} (role nm:BB) (pb lb:Bool) (l:List Nat) (hl:∀x∈l,x < ps.length) (oB:l.length≤50) (b1:Bool) (r1:RR) {K:df.T→OR}
  (h:∀b (l':List Nat),(∀x∈l',jh role ps x)→l'.length≤l.length→Wp (K ((b,l'.map aU),())) Q) :
  ∀(c i:Nat),c≤q→l.length - i < c→i≤l.length→
   Wp (KJ (T q) q c role lb (l.map aU) (nm,(.im b1,r1),(.im pb,ps.map cP),()) true [] (i:Int)) (J df K Q)
 | 0,i,_,hc,_=>by omega
 | c+1,i,E0,hc,hi=>by
  refine aC alX (aj (fun g1=>eZ ?_) (fun g1=>?_))
  ·have af:i < l.length:=bN g1;have hw:=wI i;have hg:l[i]? = some l[i]:=gE af;have hx:=hl _ (bM af);have E9:ps[l[i]]? = some ps[l[i]]:=gE hx;refine aM gQ rfl hg ?_;refine aM Dl rfl E9 ?_;refine Un (m:=q) (by omega) (aj (fun g2=>?_) (fun g2=>?_))
   ·refine aM gQ rfl hg (aF rfl ?_);rw [hw];exact RX q hq role nm (b1,r1) pb lb l hl oB b1 r1 h c (i+1) [l[i]] (by omega) (by omega) (by intro x hx;simp at hx;subst hx;exact ⟨_,E9,g2⟩) (by simp)
   ·rw [hw];exact abd q hq role nm pb lb l hl oB b1 r1 h c (i+1) (by omega) (by omega) (by omega)
  ·exact aA (aE rfl (h true [] (by intro x hx;cases hx) (by simp)))
theorem aeg (hm:110≤m) {ps:List PT} {nm role:BB} {b1 b2 b3:Bool} {rs:RR} {l:List Nat} (hl:∀x∈l,x < ps.length) (oB:l.length≤50) {K:df.T→OR}
  (h:∀b (l':List Nat),(∀x∈l',jh role ps x)→l'.length≤l.length→Wp (K ((b,l'.map aU),())) Q) :
  Wp (N' (T m) nm b1 rs b2 (ps.map cP) role b3 (l.map aU) K) Q:=by
 obtain ⟨m,rfl⟩:=cE hm;exact bH ag2 (abd m (by omega) role nm b2 b3 l hl oB b1 rs h m 0 (by omega) (by omega) (by omega))
theorem aqI (hm:120≤m) {ps:List PT} (hP:xT ps) {nm role:BB} {b1 b2:Bool} {rs:RR} {x:Nat} {K:bj.T→OR} (h:∀b,Wp (K (b,())) Q) :
  Wp (Wo (T m) nm b1 rs b2 (ps.map cP) role (x:Int) K) Q:=by
 obtain ⟨m,rfl⟩:=cE hm;have cX:=hP.1;refine bH ag1 ?_;refine aeo (m:=m) (by omega) hP (fr:=[x]) (by simp) fun b l hl fW=>?_
 refine aeg (m:=m) (by omega) hl (by omega) fun b' l' mf arq=>aA ?_
 exact aE rfl (h _)
theorem acY (q:Nat) (a b:List Nat) (hl:a.length=b.length) (oB:a.length≤50) (x y:Bool) {K:bj.T→OR} (h:∀b,Wp (K (b,())) Q):∀(c i:Nat),a.length - i < c→i≤a.length→
  Wp (KK (T q) q c x (a.map aU) y (b.map aU) (i:Int)) (J bj K Q)
 | 0,i,hc,_=>by omega
 | c+1,i,hc,hi=>by
  refine aC alZ (aj (fun g1=>?_) (fun g1=>aA (aE rfl (h true))));have af:i < a.length:=bN g1;refine aM gQ rfl (gE af) ?_;refine aM gQ rfl (gE (show i < b.length by omega)) (aj (fun g2=>aA (aE rfl (h false))) (fun g2=>?_));rw [wI i];exact acY q a b hl oB x y h c (i+1) (by omega) (by omega)
theorem aqR (hm:110≤m) {a b:List Nat} (oB:a.length≤50) {x y:Bool} {K:bj.T→OR} (h:∀b,Wp (K (b,())) Q):Wp (Wq (T m) x (a.map aU) y (b.map aU) K) Q:=by
 obtain ⟨m,rfl⟩:=cE hm;refine bH ag3 (aj (fun g1=>aA (aE rfl (h false))) (fun g1=>?_));have hl:a.length=b.length:=by
  have g2:(ae (a.map aU).length != ae (b.map aU).length)=false:=g1;rw [bI,bI,cy,cy] at g2;have:=U7.1 g2;omega
 exact acY m a b hl oB x y h m 0 (by omega) (by omega)
theorem Ya (q:Nat) (b:Bool) (l:List AM) (oB:l.length≤50) (s:BB) {K:iK.T→OR} (h1:Wp (K (-1,())) Q) (h2:∀i:Nat,i < l.length→Wp (K ((i:Int),())) Q):∀(c i:Nat),l.length - i < c→i≤l.length→
  Wp (KC (T q) q c b (l.map cM) s (i:Int)) (J iK K Q)
 | 0,i,hc,_=>by omega
 | c+1,i,hc,hi=>by
  refine aC alL (aj (fun g1=>?_) (fun g1=>aA (aE rfl h1)));have af:i < l.length:=bN g1;refine aM Dm rfl (gE af) (aj (fun g2=>aA (aE rfl (h2 i af))) (fun g2=>?_));rw [wI i];exact Ya q b l oB s h1 h2 c (i+1) (by omega) (by omega)
theorem aec (hm:110≤m) {b:Bool} {l:List AM} (oB:l.length≤50) {s:BB} {K:iK.T→OR} (h1:Wp (K (-1,())) Q) (h2:∀i:Nat,i < l.length→Wp (K ((i:Int),())) Q):Wp (Oa (T m) b (l.map cM) s K) Q:=by
 obtain ⟨m,rfl⟩:=cE hm;exact bH agX (Ya m b l oB s h1 h2 m 0 (by omega) (by omega))
def D8 (n:Nat) (K:df.T→OR) (Q:V→List (List C)→Prop):Prop:=∀b (l':List BB),l'≠[]→l'.length≤n→Wp (K ((b,l'.map aL),())) Q
theorem SN (q:Nat) (b:Bool) (l:List BB) (h5:l.length≤500) (s:BB) {K:df.T→OR} (h:D8 (l.length+1) K Q) {i:Nat} (hi:i≤l.length) :
  Wp (Kp (T (q+1)) (q+1) (q+1) b (l.map aL) s (i:Int)) (J df K Q):=by
 have ht:List.take (i - 0) (List.drop 0 (l.map aL))=(l.take i).map aL:=by simp
 have hd:List.take ((l.map aL).length - i) (List.drop i (l.map aL))=(l.drop i).map aL:=by
  rw [List.map_drop,Nj (by simp)]
 refine aC als (hC rfl (aF (aY (by simpa using hi)) (aF ?_ (aj (fun g=>?_) (fun g=>?_)))))
 ·rw [ht,DK];simp;omega
 ·refine aC alq (aF rfl (hC rfl (aF (by simp;omega) (aF ?_ (aA ?_)))))
  ·rw [hd,DK];simp;omega
  ·rw [hd];have e:([[D.str []]].set 0 [D.str s]++(l.drop i).map aL)=(s::l.drop i).map aL:=rfl;have e2:aW (whole ([[D.str []]].set 0 [D.str s])++(l.drop i).map aL)=(s::l.drop i).map aL:=by rw [du,e,qz]
   rw [e2];exact aE rfl (h false (s::l.drop i) (by simp) (by simp))
 ·refine aC alr (aF (gX (by simp;omega) (by omega)) (hC rfl (aF (by simp;omega) (aF ?_ (aA ?_)))))
  ·rw [hd,DK,du];simp;omega
  ·rw [hd,ht];have e2:aW ((l.take i).map aL++whole ([[D.str []]].set 0 [D.str s])++(l.drop i).map aL)=(l.take i++[s]++l.drop i).map aL:=by
    rw [du,show ([[D.str []]].set 0 [D.str s])=[s].map aL from rfl,←eB,←eB,qz]
   rw [e2];exact aE rfl (h false _ (by simp) (by simp;omega))
theorem ach (q:Nat) (b:Bool) (l:List BB) (h5:l.length≤500) (s:BB) {K:df.T→OR} (h:D8 (l.length+1) K Q):∀(c i:Nat),l.length - i < c→i≤l.length→
  Wp (Kq (T (q+1)) (q+1) c b (l.map aL) s (i:Int)) (J df K Q)
 | 0,i,hc,_=>by omega
 | c+1,i,hc,hi=>by
  refine aC alu (aj (fun g1=>?_) (fun g1=>?_))
  ·have af:i < l.length:=bN g1;refine aM ry rfl (gE af) (aj (fun g2=>?_) (fun g2=>?_))
   ·rw [wI i];exact ach q b l h5 s h c (i+1) (by omega) (by omega)
   ·refine aC aak (aj (fun g3=>?_) (fun g3=>SN q b l h5 s h (by omega)));refine aM ry rfl (gE af) (aj (fun g4=>?_) (fun g4=>SN q b l h5 s h (by omega)));exact aA (aE rfl (h b l (by intro h0;rw [h0] at af;simp at af) (by omega)))
  ·refine aC aak (aj (fun g3=>?_) (fun g3=>SN q b l h5 s h (by omega)));rw [g1] at g3;cases g3
theorem aek (hm:510≤m) {b:Bool} {l:List BB} (h5:l.length≤500) {s:BB} {K:df.T→OR} (h:D8 (l.length+1) K Q):Wp (c236 (T m) b (l.map aL) s K) Q:=by
 obtain ⟨m,rfl⟩:=bm 2 m;exact bH agR (ach m b l h5 s h (m+1) 0 (by omega) (by omega))
theorem Vj (q:Nat) (hq:510≤q) (a0:Bool) (l:List BB) (h4:l.length≤400) {K:df.T→OR} (h:D8 (l.length+1) K Q):∀(c i:Nat) (b:Bool) (o:List BB),l.length - i < c→i≤l.length→o≠[]→o.length≤i+1→
  Wp (Ko (T q) q c a0 (l.map aL) b (o.map aL) (i:Int)) (J df K Q)
 | 0,i,b,o,hc,_,_,_=>by omega
 | c+1,i,b,o,hc,hi,ho,Zf=>by
  refine aC alp (aj (fun g1=>?_) (fun g1=>aA (aE rfl (h b o ho (by omega)))));have af:i < l.length:=bN g1;refine aM ry rfl (gE af) ?_;refine aek (m:=q) (by omega) (by omega) fun b' o' qn mf=>?_
  rw [wI i];exact Vj q hq a0 l h4 h c (i+1) b' o' (by omega) (by omega) qn (by omega)
theorem aqz (hm:520≤m) {b:Bool} {l:List BB} (h4:l.length≤400) {s:BB} {K:df.T→OR} (h:D8 (l.length+1) K Q):Wp (c218 (T m) b (l.map aL) s K) Q:=by
 obtain ⟨m,rfl⟩:=cE hm;refine bH agQ ?_;obtain ⟨r,hr⟩:=bm 1 m;have e1:Kn (T m) m m=Kn (T m) m (r+1):=by rw [←hr]
 rw [e1];refine aC alo (aj (fun g1=>?_) (fun g1=>aF rfl (aA (aE rfl (h false [s] (by simp) (by simp))))));have af:0 < l.length:=bN g1;refine aM ry (i:=0) rfl (gE af) (aF rfl ?_);refine aek (m:=m) (by omega) (l:=[s]) (by simp) fun b' o' qn mf=>?_
 exact Vj m (by omega) b l h4 h r 1 b' o' (by omega) (by omega) qn (by simpa using mf)
end
end
section
open Go Go.ax QQ
def kI (x:Bool×List Nat):List D:=[.sl (.im x.1) 1 (x.2.map aU)]
structure PK where
 nm:BB
 rb:Bool
 rs:RR
 pb:Bool
 ps:List PT
 role:BB
def WB (k:PK) (t:Tag) (bg:List (Bool×List Nat)):au bw:=(k.nm,(.im k.rb,k.rs),(.im k.pb,k.ps.map cP),k.role,(t,bg.map kI),())
structure PH (k:PK):Prop where
 il:xT k.ps
 ae1:∀x,jh k.role k.ps x→∃p,k.ps[x]? = some p∧p.ms≠[]
structure SH (k:PK) (t:Tag) (bg:List (Bool×List Nat)):Prop where
 no:t = .own∨(t = .im true∧bg=[])
 ne:t = .own→bg≠[]
 ln:bg.length≤40
 ok:∀x∈bg,(∀y∈x.2,jh k.role k.ps y)∧x.2.length≤24
section
variable {m:Nat} {Q:V→List (List C)→Prop} {k:PK} {t:Tag} {bg:List (Bool×List Nat)}
theorem Qa (q:Nat) (hq:100≤q) (hk:PH k) (b:Bool) (l:List Nat) (hl:∀y∈l,jh k.role k.ps y) (cX:l.length≤24) {x2:au bw} {K:Du.T→OR}
  (h:∀kd pr err,(err=0→l≠[]→kd=1∨kd=2)→Wp (K ((kd,pr,err,()),WB k t bg,())) Q):∀(c i:Nat) (kd:Int) (pr:BB),l.length - i < c→i≤l.length→(kd=1∨kd=2)→
   Wp (CK (T q) q x2 c b (l.map aU) (WB k t bg) (i:Int) kd pr) (J Du K Q)
 | 0,i,kd,pr,hc,_,_=>by omega
 | c+1,i,kd,pr,hc,hi,oG=>by
  refine aC alN (aj (fun g1=>eZ ?_) (fun g1=>aA (aE rfl (h kd pr 0 (fun _ _=>oG)))));have af:i < l.length:=bN g1;have hw:=wI i;obtain ⟨p,hp,_⟩:=hl _ (bM af);obtain ⟨r,hr⟩:=bm 1 q;have e1:CM (T q) q x2 c q=CM (T q) q x2 c (r+1):=by rw [←hr]
  have rest:∀(a6:au kZ) (rf:Int) (xX:BB),(rf=1∨rf=2)→Wp (CM (T q) q x2 c q b (l.map aU) (WB k t bg) (i:Int) kd pr a6 rf xX) (J Du K Q):=by
   intro a6 rf xX Jq;rw [e1];refine aC alP (aj (fun g2=>aj (fun g3=>?_) (fun g3=>aj (fun g4=>?_) (fun g4=>?_))) (fun g2=>?_))
   ·exact aA (aE rfl (h 0 [] 802 (fun h0=>by cases h0)))
   ·exact aA (aE rfl (h 0 [] 802 (fun h0=>by cases h0)))
   ·rw [hw];exact Qa q hq hk b l hl cX h c (i+1) rf xX (by omega) (by omega) Jq
   ·rw [hw];exact Qa q hq hk b l hl cX h c (i+1) rf xX (by omega) (by omega) Jq
  refine aM gQ rfl (gE af) ?_;refine aM Dl rfl hp (aj (fun g2=>?_) (fun g2=>?_))
  ·exact rest _ 2 _ (.inr rfl)
  ·exact rest _ 1 _ (.inl rfl)
theorem aqE (hm:110≤m) (hk:PH k) {b:Bool} {l:List Nat} (hl:∀y∈l,jh k.role k.ps y) (cX:l.length≤24) {K:Du.T→OR}
  (h:∀kd pr err,(err=0→l≠[]→kd=1∨kd=2)→Wp (K ((kd,pr,err,()),WB k t bg,())) Q):Wp (c193 (T m) b (l.map aU) (WB k t bg) K) Q:=by
 obtain ⟨m,rfl⟩:=cE hm;refine bH agY ?_;obtain ⟨r,hr⟩:=bm 1 m;have e1:∀x,KD (T m) m x m=KD (T m) m x (r+1):=by intro x;rw [←hr]
 rw [e1];refine aC alM (aj (fun g1=>eZ ?_) (fun g1=>aA (aE rfl (h 0 [] 0 (fun _ h0=>?_)))))
 ·have af:0 < l.length:=bN g1;obtain ⟨p,hp,_⟩:=hl _ (bM af);have e2:∀x,CL (T m) m x r m=CL (T m) m x r (r+1):=by intro x;rw [←hr]
  have rest:∀(x2:au bw) (a6:au kZ) (rf:Int) (xX:BB),(rf=1∨rf=2)→Wp (CL (T m) m x2 r m b (l.map aU) (WB k t bg) 0 [] 0 a6 rf xX) (J Du K Q):=by
   intro x2 a6 rf xX Jq;rw [e2];refine aC alO (dJ rfl ?_);exact Qa m (by omega) hk b l hl cX h r 1 rf xX (by omega) (by omega) Jq
  refine aM gQ (i:=0) rfl (gE af) ?_;refine aM Dl rfl hp (aj (fun g2=>?_) (fun g2=>?_))
  ·exact rest _ _ 2 _ (.inr rfl)
  ·exact rest _ _ 1 _ (.inl rfl)
 ·have g2:¬ (0:Int) < ae (l.map aU).length:=lg g1;rw [bI,cy] at g2;cases l with
  | nil=>exact absurd rfl h0
  | cons=>simp at g2
def Nv (k:PK) (t:Tag) (bg:List (Bool×List Nat)) (l:List Nat) (K:Ay.T→OR) (Q:V→List (List C)→Prop):Prop:=
 ∀b (ls:List BB) al,(l≠[]→ls≠[])→ls.length≤300→Wp (K (((b,ls.map aL),al,()),WB k t bg,())) Q
theorem aaC (q:Nat) (hk:PH k) (b:Bool) (l:List Nat) (hl:∀y∈l,jh k.role k.ps y) (cX:l.length≤24) {x2:au bw} (lb:Bool) (ls:List BB) (h0:l≠[]→ls≠[]) (h3:ls.length≤300) {K:Ay.T→OR} (h:Nv k t bg l K Q):∀(c i:Nat),l.length - i < c→i≤l.length→
  Wp (KE (T q) q x2 c b (l.map aU) (WB k t bg) lb (ls.map aL) (i:Int)) (J Ay K Q)
 | 0,i,hc,_=>by omega
 | c+1,i,hc,hi=>by
  refine aC alQ (aj (fun g1=>eZ ?_) (fun g1=>aA (aE rfl (h lb ls true h0 h3))));have af:i < l.length:=bN g1;obtain ⟨p,hp,_⟩:=hl _ (bM af);refine aM gQ rfl (gE af) ?_;refine aM Mm rfl hp (aj (fun g2=>aA (aE rfl (h lb ls false h0 h3))) (fun g2=>?_));rw [wI i];exact aaC q hk b l hl cX lb ls h0 h3 h c (i+1) (by omega) (by omega)
theorem aaE (q:Nat) (hq:530≤q) (b:Bool) (l:List Nat) {x2:au bw} (c1:Nat) (i:Nat) (cX:i≤24) (pb:Bool) (ms:List AM) (dj:ms.length≤10)
  (h:∀lb (ls:List BB),ls.length≤(i+1) * 10→(ms≠[]→ls≠[])→Wp (Gb (T q) q x2 c1 b (l.map aU) (WB k t bg) lb (ls.map aL) ((i+1:Nat):Int)) Q):∀(c j:Nat) (lb:Bool) (ls:List BB),ms.length - j < c→j≤ms.length→ls.length≤i * 10+j→(1≤j→ls≠[])→
  Wp (KF (T q) q x2 c1 c b (l.map aU) (WB k t bg) lb (ls.map aL) (i:Int) pb (ms.map cM) (j:Int)) Q
 | 0,j,lb,ls,hc,_,_,_=>by omega
 | c+1,j,lb,ls,hc,hj,lN,az=>by
  refine aC alS (aj (fun g1=>?_) (fun g1=>?_))
  ·have af:j < ms.length:=bN g1;refine aM Dm rfl (gE af) ?_;refine aqz (m:=q) (by omega) (by omega) fun b' l' Qz mf=>?_
   rw [wI j];exact aaE q hq b l c1 i cX pb ms dj h c (j+1) b' l' (by omega) (by omega) (by omega) (fun _=>Qz)
  ·rw [wI i];have g2:¬ (j:Int) < ae (ms.map cM).length:=lg g1;rw [bI,cy] at g2;refine h lb ls (by omega) (fun h0=>az ?_);cases ms with
   | nil=>exact absurd rfl h0
   | cons=>simp at g2;omega
theorem aaD (q:Nat) (hq:530≤q) (hk:PH k) (b:Bool) (l:List Nat) (hl:∀y∈l,jh k.role k.ps y) (cX:l.length≤24) {x2:au bw} {K:Ay.T→OR} (h:Nv k t bg l K Q):∀(c i:Nat) (lb:Bool) (ls:List BB),l.length - i < c→i≤l.length→ls.length≤i * 10→(1≤i→ls≠[])→
  Wp (Gb (T q) q x2 c b (l.map aU) (WB k t bg) lb (ls.map aL) (i:Int)) (J Ay K Q)
 | 0,i,lb,ls,hc,_,_,_=>by omega
 | c+1,i,lb,ls,hc,hi,lN,az=>by
  refine aC alR (aj (fun g1=>eZ ?_) (fun g1=>?_))
  ·have af:i < l.length:=bN g1;obtain ⟨p,hp,ajK⟩:=hk.ae1 _ (hl _ (bM af));have dj:=(hk.il.2 p (ft hp)).1;refine aM gQ rfl (gE af) ?_;refine aM Mm rfl hp ?_;exact aaE q hq b l c i (by omega) p.t p.ms dj (fun lb' RH g2 g3=>aaD q hq hk b l hl cX h c (i+1) lb' RH (by omega) (by omega) g2 (fun _=>g3 ajK)) q 0 lb ls (by omega) (by omega) (by omega) (fun h0=>by omega)
  ·have g2:¬ (i:Int) < ae (l.map aU).length:=lg g1;rw [bI,cy] at g2;exact aaC q hk b l hl cX lb ls (fun h0=>az (by cases l with | nil=>exact absurd rfl h0 | cons=>simp at g2;omega)) (by omega) h q 0 (by omega) (by omega)
theorem aqG (hm:540≤m) (hk:PH k) {b:Bool} {l:List Nat} (hl:∀y∈l,jh k.role k.ps y) (cX:l.length≤24) {K:Ay.T→OR} (h:Nv k t bg l K Q):Wp (c194 (T m) b (l.map aU) (WB k t bg) K) Q:=by
 obtain ⟨m,rfl⟩:=cE hm;exact bH agZ (aaD m (by omega) hk b l hl cX h m 0 true [] (by omega) (by omega) (by simp) (fun h0=>by omega))
def Ns (k:PK) (t:Tag) (bg:List (Bool×List Nat)) (K:yl.T→OR) (Q:V→List (List C)→Prop):Prop:=
 ∀kd nm b (to:List Nat) is,to.length≤24→Wp (K (((kd,nm,()),(b,to.map aU),is,()),WB k t bg,())) Q
theorem Oo (q:Nat) (hq:530≤q) (hk:PH k) (b:Bool) (l:List Nat) (hl:∀y∈l,jh k.role k.ps y) (cX:l.length≤24) (s:BB) {x3:au bw} (a4:au kb) {K:yl.T→OR} (h:Ns k t bg K Q):∀(c i:Nat) (a5:au kb) (to:List Nat),l.length - i < c→i≤l.length→to.length≤i→
  Wp (F9 (T q) q x3 c b (l.map aU) s (WB k t bg) a4 a5 (to.map aU) (i:Int)) (J yl K Q)
 | 0,i,a5,to,hc,_,_=>by omega
 | c+1,i,a5,to,hc,hi,QR=>by
  refine aC alI (aj (fun g1=>eZ ?_) (fun g1=>?_))
  ·have af:i < l.length:=bN g1;have hw:=wI i;obtain ⟨p,hp,_⟩:=hl _ (bM af);have dj:=(hk.il.2 p (ft hp)).1;obtain ⟨r,hr⟩:=bm 1 q;have e1:CJ (T q) q x3 c q=CJ (T q) q x3 c (r+1):=by rw [←hr]
   have rest:∀j:Nat,j < p.ms.length→Wp (CJ (T q) q x3 c q b (l.map aU) s (WB k t bg) a4 a5 (to.map aU) (i:Int) p.t (p.ms.map cM) (j:Int)) (J yl K Q):=by
    intro j hj;rw [e1];refine aC alK ?_;refine aM GY rfl (gE hj) ?_;refine aM yd rfl (gE hj) (aF (gX (by simp;omega) (by omega)) ?_);rw [hw,du];have:=Oo (x3:=x3) q hq hk b l hl cX s a4 h c (i+1) (p.ms[j].kd,p.ms[j].nm,()) (to++[p.ms[j].nx]) (by omega) (by omega) (by simp;omega);rw [eB] at this;exact this
   refine aM gQ rfl (gE af) ?_;refine aM Mm rfl hp ?_;refine aec (m:=q) (by omega) (by omega) ?_ (fun j hj=>?_)
   ·refine fK rfl ?_;rw [hw];exact Oo q hq hk b l hl cX s a4 h c (i+1) a5 to (by omega) (by omega) (by omega)
   ·refine dJ (bV (show ¬ ((j:Nat):Int) < 0 by omega)) (aj (fun g2=>?_) (fun g2=>rest j hj));refine aM GY rfl (gE hj) (aj (fun g3=>?_) (fun g3=>rest j hj));exact aA (aE rfl (h a5.1 a5.2.1 true [] false (by simp)))
  ·refine aF (by simp) ?_;rw [du,GN];exact aA (aE rfl (h a5.1 a5.2.1 false to true (by omega)))
theorem WQ (q:Nat) (hq:530≤q) (hk:PH k) (b:Bool) (l:List Nat) (hl:∀y∈l,jh k.role k.ps y) (cX:l.length≤24) (s:BB) {x3:au bw} (a4:au kb) {K:yl.T→OR} (h:Ns k t bg K Q):∀(c i:Nat) (a5:au kb),c≤q→l.length - i < c→i≤l.length→
  Wp (KB (T q) q x3 c b (l.map aU) s (WB k t bg) a4 a5 true [] (i:Int)) (J yl K Q)
 | 0,i,a5,_,hc,_=>by omega
 | c+1,i,a5,E0,hc,hi=>by
  refine aC alH (aj (fun g1=>eZ ?_) (fun g1=>aA (aE rfl (h a5.1 a5.2.1 true [] true (by simp)))));have af:i < l.length:=bN g1;have hw:=wI i;obtain ⟨p,hp,_⟩:=hl _ (bM af);have dj:=(hk.il.2 p (ft hp)).1;obtain ⟨r,hr⟩:=bm 1 q;have e1:Ga (T q) q x3 c q=Ga (T q) q x3 c (r+1):=by rw [←hr]
  refine aM gQ rfl (gE af) ?_;refine aM Mm rfl hp ?_;refine aec (m:=q) (by omega) (by omega) ?_ (fun j hj=>?_)
  ·refine fK rfl ?_;rw [hw];exact WQ q hq hk b l hl cX s a4 h c (i+1) a5 (by omega) (by omega) (by omega)
  ·refine dJ (bV (show ¬ ((j:Nat):Int) < 0 by omega)) (dJ rfl ?_);rw [e1];refine aC alJ ?_;refine aM GY rfl (gE hj) ?_;refine aM yd rfl (gE hj) (aF rfl ?_);rw [hw];exact Oo q hq hk b l hl cX s a4 h c (i+1) (p.ms[j].kd,p.ms[j].nm,()) [p.ms[j].nx] (by omega) (by omega) (by simp)
theorem Uf (hm:540≤m) (hk:PH k) {b:Bool} {l:List Nat} (hl:∀y∈l,jh k.role k.ps y) (cX:l.length≤24) {s:BB} {K:yl.T→OR} (h:Ns k t bg K Q):Wp (Im (T m) b (l.map aU) s (WB k t bg) K) Q:=by
 obtain ⟨m,rfl⟩:=cE hm;exact bH agW (WQ m (by omega) hk b l hl cX s _ h m 0 _ (by omega) (by omega) (by omega))
end
end
section
open Go Go.ax QQ
section
variable {m:Nat} {Q:V→List (List C)→Prop} {k:PK} {t:Tag} {bg:List (Bool×List Nat)}
def D5 (k:PK) (t:Tag) (bg:List (Bool×List Nat)) (K:oT.T→OR) (Q:V→List (List C)→Prop):Prop:=
 (∀err,err≠0→Wp (K ((0,err,()),WB k t bg,())) Q)∧∀t' jw (i:Nat),SH k t' jw→(∃x,jw=bg++x)→i < jw.length→Wp (K (((i:Int),0,()),WB k t' jw,())) Q
theorem SH.app (h:SH k t bg) {b:Bool} {l:List Nat} (hl:∀y∈l,jh k.role k.ps y) (cX:l.length≤24) (hn:bg.length≠40):SH k .own (bg++[(b,l)]):=
 ⟨.inl rfl, fun _ => by simp, by have := h.ln; simp; omega, by
   intro x hx
   rw [dC] at hx
   rcases hx with hx | hx
   · exact h.ok x hx
   · simp at hx; subst hx; exact ⟨hl, cX⟩⟩
theorem anN (q r:Nat) (hS:SH k .own bg) (az:bg≠[]) {x2:au bw} {K:oT.T→OR} (h:∀i:Nat,i < bg.length→Wp (K (((i:Int),0,()),WB k .own bg,())) Q) :
  Wp (CN (T q) q x2 (r+1) (WB k .own bg)) (J oT K Q):=by
 refine aC alT (jb (aA ?_));have hp:0 < bg.length:=by cases bg with | nil=>exact absurd rfl az | cons=>simp
 have I9:=hS.ln;have hw:ak (ae (bg.map kI).length - 1)=((bg.length - 1:Nat):Int):=gM (by rw [bI];simp;omega) (by omega);refine aE (x:=((((bg.length - 1:Nat):Int),0,()),WB k .own bg,())) ?_ (h (bg.length - 1) (by omega));show ig oT (.aq [.one (iC (ak (ae (bg.map kI).length - 1))),_],_)=_;rw [hw];rfl
theorem aaU (q:Nat) (hq:130≤q) (hS:SH k t bg) (b:Bool) (l:List Nat) (hl:∀y∈l,jh k.role k.ps y) (cX:l.length≤24) {x2:au bw} {K:oT.T→OR} (h:D5 k t bg K Q) (hn:bg.length≠40) :
  Wp (CN (T q) q x2 q (WB k .own (bg++[(b,l)]))) (J oT K Q):=by
 obtain ⟨r,hr⟩:=bm 1 q;have e0:CN (T q) q x2 q=CN (T q) q x2 (r+1):=by rw [←hr]
 rw [e0];exact anN q r (hS.app hl cX hn) (by simp) (fun i hi=>h.2 _ _ i (hS.app hl cX hn) ⟨_,rfl⟩ hi)
theorem aaS (q:Nat) (hq:130≤q) (hS:SH k .own bg) (b:Bool) (l:List Nat) (hl:∀y∈l,jh k.role k.ps y) (cX:l.length≤24) {x2:au bw} {K:oT.T→OR} (h:D5 k .own bg K Q):∀(c i:Nat),bg.length - i < c→i≤bg.length→
  Wp (z6 (T q) q x2 c (WB k .own bg) b (l.map aU) (i:Int)) (J oT K Q)
 | 0,i,hc,_=>by omega
 | c+1,i,hc,hi=>by
  have I9:=hS.ln;have self:∃x,bg=bg++x:=⟨[],by simp⟩
  have tV:∀a:Bool×List Nat,0+1≤(kI a).length∧dV [.im 1] (List.take 1 (List.drop 0 (kI a)))=some ((a.1,a.2.map aU),()):=fun a=>⟨by simp [kI],rfl⟩
  refine aC aam (jb (aj (fun g1=>?_) (fun g1=>aj (fun g2=>aA (aE rfl (h.1 805 (by decide)))) (fun g2=>?_))))
  ·have af:i < bg.length:=bN g1;refine oe (enc:=kI) (f:=fun a=>((a.1,a.2.map aU),())) tV rfl (gE af) ?_;refine aqR (m:=q) (by omega) (by have:=(hS.ok _ (bM af)).2;omega) fun bb=>aj (fun g3=>aA (aE rfl (h.2 _ _ i hS self af))) (fun g3=>?_)
   rw [wI i];exact aaS q hq hS b l hl cX h c (i+1) (by omega) (by omega)
  ·have hn:bg.length≠40:=by
    intro h4;have:(ae (bg.map kI).length==40)=true:=by rw [bI,cy,h4];rfl
    have g3:(ae (bg.map kI).length==40)=false:=g2;rw [this] at g3;cases g3
   refine aF (gX (by simp [WB];omega) (by omega)) ?_;have:=aaU (x2:=x2) q hq hS b l hl cX h hn;have e:WB k .own (bg++[(b,l)])=(k.nm,(.im k.rb,k.rs),(.im k.pb,k.ps.map cP),k.role,(.own,bg.map kI++[[.sl (.im b) 1 (l.map aU)]]),()):=by simp [WB,kI]
   rw [e] at this;exact this
theorem anO (q:Nat) (hq:130≤q) (hS:SH k t bg) (b:Bool) (l:List Nat) (hl:∀y∈l,jh k.role k.ps y) (cX:l.length≤24) {x2:au bw} {K:oT.T→OR} (h:D5 k t bg K Q) :
  Wp (z6 (T q) q x2 q (WB k t bg) b (l.map aU) 0) (J oT K Q):=by
 rcases hS.no with ht | ⟨ht,ml⟩
 ·subst ht;have I9:=hS.ln;exact aaS q hq hS b l hl cX h q 0 (by omega) (by omega)
 ·subst ht;have:=aaU (x2:=x2) q hq hS b l hl cX h (by rw [ml];simp);subst ml;obtain ⟨r,hr⟩:=bm 1 q;have e0:z6 (T q) q x2 q=z6 (T q) q x2 (r+1):=by rw [←hr]
  rw [e0];exact aC aam (eZ (dJ rfl (dJ rfl (aF rfl this))))
theorem aaT (q:Nat) (hq:130≤q) (hk:PH k) (hS:SH k t bg) (ab:Bool) (all:List Nat) (ha:∀x∈all,x < k.ps.length) (ai8:all.length≤24) (b:Bool) (l:List Nat) (hl:∀y∈l,jh k.role k.ps y) (cX:l.length≤24) {x2:au bw} {K:oT.T→OR} (h:D5 k t bg K Q):∀(c i:Nat),all.length - i < c→i≤all.length→
  Wp (KG (T q) q x2 c (WB k t bg) ab (all.map aU) b (l.map aU) (i:Int)) (J oT K Q)
 | 0,i,hc,_=>by omega
 | c+1,i,hc,hi=>by
  obtain ⟨r,hr⟩:=bm 1 q;have e3:KI (T q) q x2 c q=KI (T q) q x2 c (r+1):=by rw [←hr]
  have e4:CO (T q) q x2 q=CO (T q) q x2 (r+1):=by rw [←hr]
  have I9:=hS.ln;have fin:Wp (CO (T q) q x2 q (WB k t bg) b (l.map aU)) (J oT K Q):=by
   rw [e4];exact aC alW (anO q hq hS b l hl cX h)
  refine aC alU (aj (fun g1=>aj (fun g2=>?_) (fun g2=>fin)) (fun g1=>fin));have af:i < all.length:=bN g1;rw [e3];refine aC alV (eZ (eZ ?_));refine aM gQ rfl (gE af) ?_;refine aqI (m:=q) (by omega) hk.il fun bb=>aj (fun g3=>aA (aE rfl (h.1 801 (by decide)))) (fun g3=>?_)
  rw [wI i];exact aaT q hq hk hS ab all ha ai8 b l hl cX h c (i+1) (by omega) (by omega)
theorem Ui (hm:140≤m) (hk:PH k) (hS:SH k t bg) {b:Bool} {fr:List Nat} (hf:fr.length≤50) {K:oT.T→OR} (h:D5 k t bg K Q):Wp (c139 (T m) b (fr.map aU) (WB k t bg) K) Q:=by
 obtain ⟨m,rfl⟩:=cE hm;have cX:=hk.il.1;refine bH ag0 (eZ (eZ ?_));refine aeo (m:=m) (by omega) hk.il hf fun b1 l1 h1 jH=>?_
 refine aeg (m:=m) (by omega) h1 (by omega) fun b2 l2 h2 dW=>?_
 exact aaT m (by omega) hk hS b1 l1 h1 (by omega) b2 l2 h2 (by omega) h m 0 (by omega) (by omega)
def HU (k:PK) (bg:List (Bool×List Nat)) (K:s8.T→OR) (Q:V→List (List C)→Prop):Prop:=
 (∀x y err,err≠0→Wp (K ((x,err,()),y,())) Q)∧∀(tn:TN) t' jw,SH k t' jw→(∃x,jw=bg++x)→GL jw.length tn→Wp (K (((tn.kd,tn.pr,(tn.t,tn.ms.map cM),()),0,()),WB k t' jw,())) Q
theorem abN:∀l:List AM,aW (l.map cM)=l.map cM
 | []=>rfl
 | a::t=>by simp only [gl,aW,abN t];rfl
theorem adV (q:Nat) (hq:550≤q) (hk:PH k) (b:Bool) (l:List Nat) (hl:∀y∈l,jh k.role k.ps y) (cX:l.length≤24) (lb:Bool) (ls:List BB) (h6:ls.length≤6) (kd:Int) (oG:kd=1∨kd=2) (pr:BB) (a3:au jz) {x2:au bw} {K:s8.T→OR} (h:HU k bg K Q):∀(c i:Nat) (t:Tag) (jw:List (Bool×List Nat)) (o:List AM),ls.length - i < c→i≤ls.length→SH k t jw→(∃x,jw=bg++x)→(∀a∈o,a.nx < jw.length)→o.length=i→o≠[]→
  Wp (KO (T q) q x2 c b (l.map aU) (WB k t jw) a3 lb (ls.map aL) (kd,pr,o.map cM,()) (i:Int)) (J s8 K Q)
 | 0,i,t,jw,o,hc,_,_,_,_,_,_=>by omega
 | c+1,i,t,jw,o,hc,hi,hS,hx,ho,Zf,az=>by
  refine aC ama (aj (fun g1=>?_) (fun g1=>?_))
  ·have af:i < ls.length:=bN g1;refine aM ry rfl (gE af) ?_;refine Uf (m:=q) (by omega) hk hl cX fun Iw Iz cb to is QR=>?_
   refine Ui (m:=q) (by omega) hk hS (by omega) ⟨fun err he=>?_,fun t' Tw j PI FH hj=>?_⟩
   ·refine fK (by simpa using he) (aA (aE rfl (h.1 _ _ _ he)))
   ·refine dJ rfl ?_;refine aM ry rfl (gE af) (aF (gX (by simp;omega) (by omega)) ?_);obtain ⟨x,hx⟩:=hx;obtain ⟨y,hy⟩:=FH;rw [wI i];have:=adV q hq hk b l hl cX lb ls h6 kd oG pr a3 (x2:=x2) h c (i+1) t' Tw (o++[⟨ls[i],Iw,Iz,j⟩]) (by omega) (by omega) PI ⟨x++y,by rw [hy,hx,ek]⟩
     (by intro a ha;rw [dC] at ha;rcases ha with ha | ha;have:=ho a ha;rw [hy];simp;omega;simp at ha;subst ha;exact hj) (by simp;omega) (by simp)
    rw [eB] at this;exact this
  ·refine aF ?_ (aF (by simp) (aA ?_))
   ·cases o with
    | nil=>exact absurd rfl az
    | cons=>simp
   ·refine aE (x:=(((kd,pr,(false,o.map cM),()),0,()),WB k t jw,())) ?_ (h.2 ⟨kd,pr,false,o⟩ t jw hS hx (.inr ⟨oG,?_,by show o.length≤10;omega,ho⟩))
    ·show ig s8 (.aq [.agg [iC kd,sC pr,lC (.im false) 4 (aW (whole (o.map cM)))],_],_)=_;rw [du,abN];rfl
    ·show 1≤o.length;cases o with
     | nil=>exact absurd rfl az
     | cons=>simp
theorem aqh (q:Nat) (hq:550≤q) (hk:PH k) (hS:SH k t bg) (b:Bool) (l:List Nat) (hl:∀y∈l,jh k.role k.ps y) (cX:l.length≤24) (lb:Bool) (ls:List BB) (h6:ls.length≤6) (lN:ls≠[]) (kd:Int) (oG:kd=1∨kd=2) (pr:BB) (a3:au jz) {x2:au bw} {K:s8.T→OR} (h:HU k bg K Q) :
  Wp (Gg (T q) q x2 q b (l.map aU) (WB k t bg) a3 lb (ls.map aL) (kd,pr,(true,[]),()) 0) (J s8 K Q):=by
 obtain ⟨r,hr⟩:=bm 1 q;have e0:Gg (T q) q x2 q=Gg (T q) q x2 (r+1):=by rw [←hr]
 rw [e0];have af:0 < ls.length:=by cases ls with | nil=>exact absurd rfl lN | cons=>simp
 refine aC al' (fK (aY (by rw [bI];simp;omega)) ?_);refine aM ry (i:=0) rfl (gE af) ?_;refine Uf (m:=q) (by omega) hk hl cX fun Iw Iz cb to is QR=>?_
 refine Ui (m:=q) (by omega) hk hS (by omega) ⟨fun err he=>?_,fun t' Tw j PI FH hj=>?_⟩
 ·refine fK (by simpa using he) (aA (aE rfl (h.1 _ _ _ he)))
 ·refine dJ rfl ?_;refine aM ry (i:=0) rfl (gE af) (aF rfl ?_);exact adV q hq hk b l hl cX lb ls h6 kd oG pr a3 h r 1 t' Tw [⟨ls[0],Iw,Iz,j⟩] (by omega) (by omega) PI FH (by intro a ha;simp at ha;subst ha;exact hj) rfl (by simp)
theorem adW (q:Nat) (hq:550≤q) (hk:PH k) (hS:SH k t bg) (b:Bool) (l:List Nat) (hl:∀y∈l,jh k.role k.ps y) (cX:l.length≤24) (lb:Bool) (ls:List BB) (h6:ls.length≤6) (lN:ls≠[]) (kd:Int) (oG:kd=1∨kd=2) (pr:BB) (a3:au jz) {x2:au bw} {K:s8.T→OR} (h:HU k bg K Q):∀(c i:Nat),ls.length - i < c→i≤ls.length→
  Wp (KP (T q) q x2 c b (l.map aU) (WB k t bg) a3 kd pr lb (ls.map aL) (i:Int)) (J s8 K Q)
 | 0,i,hc,_=>by omega
 | c+1,i,hc,hi=>by
  refine aC amb (aj (fun g1=>?_) (fun g1=>aqh q hq hk hS b l hl cX lb ls h6 lN kd oG pr a3 h));have af:i < ls.length:=bN g1;refine aM ry rfl (gE af) ?_;refine Uf (m:=q) (by omega) hk hl cX fun Iw Iz cb to is QR=>aj (fun g3=>aA (aE rfl (h.1 _ _ 804 (by decide)))) (fun g3=>?_)
  rw [wI i];exact adW q hq hk hS b l hl cX lb ls h6 lN kd oG pr a3 h c (i+1) (by omega) (by omega)
theorem aeq (hm:560≤m) (hk:PH k) (hS:SH k t bg) {b:Bool} {l:List Nat} (hl:∀y∈l,jh k.role k.ps y) (cX:l.length≤24) {K:s8.T→OR} (h:HU k bg K Q):Wp (N7 (T m) b (l.map aU) (WB k t bg) K) Q:=by
 obtain ⟨m,rfl⟩:=cE hm;have self:∃x,bg=bg++x:=⟨[],by simp⟩
 refine bH ag5 (aj (fun g1=>aA (aE rfl (h.2 ⟨0,[],true,[]⟩ t bg hS self (.inl ⟨rfl,rfl⟩)))) (fun g1=>?_));have az:l≠[]:=by intro h0;subst h0;cases g1
 refine aqE (m:=m) (by omega) hk hl cX fun kd pr err ajl=>aj (fun g2=>?_) (fun g2=>?_)
 ·have he:err≠0:=by simpa using g2
  exact aA (aE rfl (h.1 _ _ _ he))
 ·have he:err=0:=by simpa using g2
  have oG:=ajl he az;refine aqG (m:=m) (by omega) hk hl cX fun lb ls al lN Js=>?_
  obtain ⟨r,hr⟩:=bm 1 m;have e2:∀x,CQ (T m) m x m=CQ (T m) m x (r+1):=by intro x;rw [←hr]
  have rest:∀(x2:au bw) (a3:au jz),Wp (CQ (T m) m x2 m b (l.map aU) (WB k t bg) a3 kd pr lb (ls.map aL)) (J s8 K Q):=by
   intro x2 a3;rw [e2];refine aC amc (aj (fun g3=>aA (aE rfl (h.1 _ _ 805 (by decide)))) (fun g3=>?_));have h6:ls.length≤6:=by
    have:¬ ae (ls.map aL).length > 6:=lg g3;rw [bI,cy] at this;omega
   exact adW m (by omega) hk hS b l hl cX lb ls h6 (lN az) kd oG pr a3 h m 0 (by omega) (by omega)
  exact aj (fun g3=>aj (fun g4=>aA (aE rfl (h.1 _ _ 803 (by decide)))) (fun g4=>rest _ _)) (fun g3=>rest _ _)
end
end
section
open Go Go.ax QQ
def So (L:LR):Prop:=1≤L.ts.length∧L.ts.length≤100∧∀t∈L.ts,GL L.ts.length t
theorem Tf (n:Nat) (hn:60≤n) {x:BB} (hx:x∈lR):T n 64 [.one (sC x)] []=some (.one (bC true),[]):=by
 simp only [lR,gT,nD,nF] at hx;rcases hx with rfl | rfl | rfl | rfl | rfl | rfl | rfl | rfl | rfl | rfl | rfl | rfl | rfl | rfl;all_goals (obtain ⟨m,rfl⟩:=bm 60 n;kernel_rfl)
theorem aoR (n:Nat) (hn:60≤n) {k:Int} {x:BB} (hx:(k,x)∈iS):T n 54 [.agg [iC k,sC x]] []=some (.one (bC true),[]):=by
 simp only [iS,gT,nD,nF,fL] at hx;rcases hx with ⟨rfl,rfl⟩ | ⟨rfl,rfl⟩ | ⟨rfl,rfl⟩ | ⟨rfl,rfl⟩ | ⟨rfl,rfl⟩ | ⟨rfl,rfl⟩ | ⟨rfl,rfl⟩ | ⟨rfl,rfl⟩ | ⟨rfl,rfl⟩ | ⟨rfl,rfl⟩ | ⟨rfl,rfl⟩ | ⟨rfl,rfl⟩ | ⟨rfl,rfl⟩;all_goals (obtain ⟨m,rfl⟩:=bm 60 n;kernel_rfl)
theorem ao5 (n:Nat) (hn:20≤n) (b:Bool) {many:Nat} (h2:2≤many) (h4:many≤4):T n 70 [.one (lC (.im b) 1 (c8 many))] []=some (.one (bC true),[]):=by
 obtain ⟨m,rfl⟩:=bm 20 n;have:many=2∨many=3∨many=4:=by omega
 rcases this with rfl | rfl | rfl;all_goals (show _=_;kernel_rfl)
theorem Te (n:Nat) (hn:20≤n) (b:Bool) {many k:Nat} (h4:many≤4) (hk:k < many):T n 71 [.one (lC (.im b) 1 (c8 many)),.one (sC (bJ k))] []=some (.one (bC true),[]):=by
 obtain ⟨m,rfl⟩:=bm 20 n;have h1:many=1∨many=2∨many=3∨many=4:=by omega
 have h2:k=0∨k=1∨k=2∨k=3:=by omega
 rcases h1 with rfl | rfl | rfl | rfl<;>rcases h2 with rfl | rfl | rfl | rfl<;>first | omega | (show _=_;kernel_rfl)
theorem G5 {k:Nat} (h:k < 5):bJ k∈lR:=by
 match k,h with
 | 0,_=>decide
 | 1,_=>decide
 | 2,_=>decide
 | 3,_=>decide
 | 4,_=>decide
theorem aoc {many:Nat} {ps:List PT} (h:kU many ps):xT ps:=by
 refine ⟨by have:=h.2.2.2.1;omega,fun p hp=>?_⟩;rcases h.2.2.2.2 p hp with ⟨_,_,h3⟩ | ⟨k,m,_,_,_,_,_,h3⟩
 ·rw [h3];exact ⟨by simp,fun a ha=>by cases ha⟩
 ·exact ⟨by have:=h3.2.1;omega,fun a ha=>(h3.2.2.2 a ha).2.2⟩
theorem aob {many:Nat} {ps:List PT} (h:kU many ps) {role:BB} (hr:role≠[]) (x:Nat) (hx:jh role ps x):∃p,ps[x]? = some p∧p.ms≠[]:=by
 obtain ⟨p,hp,kO⟩:=hx;refine ⟨p,hp,?_⟩;rcases h.2.2.2.2 p (ft hp) with ⟨h1,h2,_⟩ | ⟨k,m,_,_,_,_,_,h3⟩
 ·rw [h1,h2] at kO;have:([]==role)=false:=by cases role with | nil=>exact absurd rfl hr | cons=>rfl
  rw [this] at kO;cases kO
 ·have:=h3.1;intro h0;rw [h0] at this;simp at this
section
variable {m:Nat} {Q:V→List (List C)→Prop}
theorem VD (q:Nat) {l:List AM} (dj:l.length≤10) (b:Bool) (P:Int) (c1:Nat) {i:Nat} (hi:i < l.length) {K:bj.T→OR} (h:∀b,Wp (K (b,())) Q)
  (hZ:Wp (F7 (T q) q c1 b (l.map cM) P ((i+1:Nat):Int)) (J bj K Q)):∀(c j:Nat),i - j < c→j≤i→
  Wp (Kt (T q) q c1 c b (l.map cM) P (i:Int) (j:Int)) (J bj K Q)
 | 0,j,hc,_=>by omega
 | c+1,j,hc,hj=>by
  refine aC aly (aj (fun g1=>?_) (fun g1=>?_))
  ·have af:j < i:=by have:(j:Int) < (i:Int):=tF g1;omega
   refine aM Dm rfl (gE (show j < l.length by omega)) ?_;refine aM Dm rfl (gE hi) (aj (fun g2=>aA (aE rfl (h false))) (fun g2=>?_));rw [wI j];exact VD q dj b P c1 hi h hZ c (j+1) (by omega) (by omega)
  ·rw [wI i];exact hZ
theorem VC (q:Nat) (hq:60≤q) {P0:Nat} {l:List AM} (hl:nc P0 l) (b:Bool) (P:Int) {K:bj.T→OR} (h:∀b,Wp (K (b,())) Q):∀(c i:Nat),l.length - i < c→i≤l.length→
  Wp (F7 (T q) q c b (l.map cM) P (i:Int)) (J bj K Q)
 | 0,i,hc,_=>by omega
 | c+1,i,hc,hi=>by
  have h3:=hl.2.1;obtain ⟨r,hr⟩:=bm 1 q;have e2:Ku (T q) q c q=Ku (T q) q c (r+1):=by rw [←hr]
  refine aC alx (aj (fun g1=>?_) (fun g1=>aj (fun g2=>aA (aE rfl (h _))) (fun g2=>aA (aE rfl (h false)))));have af:i < l.length:=bN g1;have hg:l[i]? = some l[i]:=gE af;obtain ⟨o1,o2,o3⟩:=hl.2.2.2 l[i] (bM af);refine aM Dm rfl hg ?_;refine ke (x:=(true,())) (Tf q (by omega) (aaB o1)) rfl (dJ rfl ?_);refine aM GY rfl hg ?_;refine ke (x:=(true,())) (aoR q (by omega) o2) rfl (dJ rfl ?_);refine aM yd rfl hg (aj (fun g2=>aA (aE rfl (h false))) (fun g2=>?_));refine aM yd rfl hg (aj (fun g2=>aA (aE rfl (h false))) (fun g2=>?_));rw [e2];refine aC alz ?_;exact VD q (by omega) b P c af h (VC q hq hl b P h c (i+1) (by omega) (by omega)) q 0 (by omega) (by omega)
theorem aqx (hm:70≤m) {P0:Nat} {l:List AM} (hl:nc P0 l) {b:Bool} {P:Int} {K:bj.T→OR} (h:∀b,Wp (K (b,())) Q):Wp (c72 (T m) b (l.map cM) P K) Q:=by
 obtain ⟨m,rfl⟩:=cE hm;have h3:=hl.2.1;exact bH agT (VC m (by omega) hl b P h m 0 (by omega) (by omega))
theorem SE (q:Nat) (hq:80≤q) {many:Nat} {ps:List PT} (hP:kU many ps) (nm:BB) (rb pb:Bool) {K:bj.T→OR} (h:∀b,Wp (K (b,())) Q):∀(c i:Nat),ps.length - i < c→i≤ps.length→
  Wp (Kv (T q) q c (nm,(rb,c8 many),(pb,ps.map cP),()) (i:Int)) (J bj K Q)
 | 0,i,hc,_=>by omega
 | c+1,i,hc,hi=>by
  have h8:=hP.2.2.2.1;have h4:=hP.2.1;obtain ⟨r,hr⟩:=bm 1 q;have e1:zX (T q) q c q=zX (T q) q c (r+1):=by rw [←hr]
  have e2:zY (T q) q c q=zY (T q) q c (r+1):=by rw [←hr]
  refine aC alA (aj (fun g1=>?_) (fun g1=>aA (aE rfl (h true))));have af:i < ps.length:=bN g1;have hg:ps[i]? = some ps[i]:=gE af;have eL:∀a2,Wp (zY (T q) q c q (nm,(rb,c8 many),(pb,ps.map cP),()) (i:Int) a2) (J bj K Q):=by
   intro a2;rw [e2];refine aC aal ?_;rw [wI i];exact SE q hq hP nm rb pb h c (i+1) (by omega) (by omega)
  have arz:∀j a2,Wp (zY (T q) q c (j+1) (nm,(rb,c8 many),(pb,ps.map cP),()) (i:Int) a2) (J bj K Q):=by
   intro j a2;refine aC aal ?_;rw [wI i];exact SE q hq hP nm rb pb h c (i+1) (by omega) (by omega)
  have mid:Wp (zX (T q) q c q (nm,(rb,c8 many),(pb,ps.map cP),()) (i:Int) (ps[i].fr,ps[i].to,(ps[i].t,ps[i].ms.map cM),())) (J bj K Q):=by
   rw [e1];refine aC alB (aj (fun g2=>aA (aE rfl (h false))) (fun g2=>?_));rcases hP.2.2.2.2 _ (bM af) with ⟨o1,o2,o3⟩ | ⟨a,b',oa,ob,oab,of,ot,om⟩
   ·have g3:(ps[i].fr==ps[i].to)=false:=g2;rw [o1,o2] at g3;cases g3
   ·refine ke (x:=(true,())) (by show T q 71 [_,.one (sC ps[i].fr)] []=_;rw [of];exact Te q (by omega) rb h4 oa) rfl (dJ rfl ?_);refine ke (x:=(true,())) (by show T q 71 [_,.one (sC ps[i].to)] []=_;rw [ot];exact Te q (by omega) rb h4 ob) rfl (dJ rfl ?_);refine aqx (m:=q) (by omega) om fun b=>aj (fun g3=>aA (aE rfl (h false))) (fun g3=>eL _)
  refine aM Dl rfl hg ?_;exact aj (fun g2=>aj (fun g3=>aj (fun g4=>eL _) (fun g4=>mid)) (fun g3=>mid)) (fun g2=>mid)
theorem abW (q:Nat) (hq:80≤q) {many:Nat} {ps:List PT} (hP:kU many ps) (nm:BB) (rb pb:Bool) {K:bj.T→OR} (h:∀b,Wp (K (b,())) Q):∀(c i:Nat),many - i < c→i≤many→
  Wp (Kw (T q) q c (nm,(rb,c8 many),(pb,ps.map cP),()) (i:Int)) (J bj K Q)
 | 0,i,hc,_=>by omega
 | c+1,i,hc,hi=>by
  have h4:=hP.2.1;have h8:=hP.2.2.2.1;refine aC alC (aj (fun g1=>?_) (fun g1=>SE q hq hP nm rb pb h q 0 (by omega) (by omega)));have af:i < many:=by
   have g2:(i:Int) < ae (c8 many).length:=tF g1;rw [bI,pN] at g2;omega
  refine aC (iI (v:=(bJ i,())) rfl (nW af) (by simp) rfl rfl) ?_;refine ke (x:=(true,())) (Tf q (by omega) (G5 (by omega))) rfl (dJ rfl ?_);rw [wI i];exact abW q hq hP nm rb pb h c (i+1) (by omega) (by omega)
theorem aej (hm:90≤m) {many:Nat} {ps:List PT} (hP:kU many ps) {nm:BB} (hn:nm∈lR) {rb pb:Bool} {K:bj.T→OR} (h:∀b,Wp (K (b,())) Q):Wp (Ob (T m) nm rb (c8 many) pb (ps.map cP) K) Q:=by
 obtain ⟨m,rfl⟩:=cE hm;have h4:=hP.2.1;refine bH agU ?_;refine ke (x:=(true,())) (Tf m (by omega) hn) rfl (dJ rfl (aj (fun g=>aA (aE rfl (h false))) (fun g=>aj (fun g=>aA (aE rfl (h false))) (fun g=>?_))));refine ke (x:=(true,())) (ao5 m (by omega) rb hP.1 h4) rfl (dJ rfl (aj (fun g=>aA (aE rfl (h false))) (fun g=>aj (fun g=>aA (aE rfl (h false))) (fun g=>?_))));obtain ⟨r,hr⟩:=bm 1 m;have e4:Ky (T m) m m=Ky (T m) m (r+1):=by rw [←hr]
 rw [e4];exact aC alD (abW m (by omega) hP nm rb pb h m 0 (by omega) (by omega))
def NA (nf:BB) (K:yk.T→OR) (Q:V→List (List C)→Prop):Prop:=(∀x err,err≠0→Wp (K ((x,err,()),())) Q)∧∀L:LR,So L→L.nm=nf→Wp (K (((L.nm,(L.tb,L.ts.map cN),()),0,()),())) Q
theorem acE (q:Nat) (hq:570≤q) {k:PK} (hk:PH k) (a0:au oU) (nm:BB) {K:yk.T→OR} (h:NA nm K Q):∀(c i:Nat) (t:Tag) (bg:List (Bool×List Nat)) (ts:List TN),45 - i < c→i≤bg.length→SH k t bg→ts.length=i→ts≠[]→(∀x∈ts,GL bg.length x)→
  Wp (Kz (T q) q c a0 (WB k t bg) (nm,ts.map cN,()) (i:Int)) (J yk K Q)
 | 0,i,t,bg,ts,hc,hi,hS,_,_,_=>by have:=hS.ln;omega
 | c+1,i,t,bg,ts,hc,hi,hS,hts,az,aQ=>by
  have I9:=hS.ln;have Cd:1≤ts.length:=by cases ts with | nil=>exact absurd rfl az | cons=>simp
  have tV:∀a:Bool×List Nat,0+1≤(kI a).length∧dV [.im 1] (List.take 1 (List.drop 0 (kI a)))=some ((a.1,a.2.map aU),()):=fun a=>⟨by simp [kI],rfl⟩
  refine aC alF ?_;have ht:t = .own:=by
   rcases hS.no with ht | ⟨_,hn⟩
   ·exact ht
   ·rw [hn] at hi;simp at hi;omega
  subst ht;refine jb (aj (fun g1=>?_) (fun g1=>?_))
  ·have af:i < bg.length:=bN g1;have hs:=hS.ok _ (bM af);refine oe (enc:=kI) (f:=fun a=>((a.1,a.2.map aU),())) tV rfl (gE af) ?_;refine aeq (m:=q) (by omega) hk hS hs.1 hs.2 ⟨fun x y err he=>?_,fun tn t' jw vd hx QC=>?_⟩
   ·exact fK (by simpa using he) (aA (aE rfl (h.1 _ _ he)))
   ·refine dJ rfl (aF (gX (by simp;omega) (by omega)) ?_);obtain ⟨y,hy⟩:=hx;rw [wI i];have mf:bg.length≤jw.length:=by rw [hy];simp
    have:=acE q hq hk a0 nm h c (i+1) t' jw (ts++[tn]) (by omega) (by omega) vd (by simp;omega) (by simp)
     (by
       intro x hx
       rw [dC] at hx
       rcases hx with hx | hx
       · rcases aQ x hx with h1 | ⟨h1, h2, h3, h4⟩
         · exact .inl h1
         · exact .inr ⟨h1, h2, h3, fun a ha => by have := h4 a ha; omega⟩
       · simp at hx; subst hx; exact QC)
    rw [eB] at this;exact this
  ·have eV:i=bg.length:=by
    have g2:¬ (i:Int) < ae (bg.map kI).length:=lg g1;rw [bI,cy] at g2;omega
   refine aF ?_ (aF (by simp) (aA ?_))
   ·cases ts with
    | nil=>exact absurd rfl az
    | cons=>simp
   ·refine aE (x:=(((nm,(false,ts.map cN),()),0,()),())) ?_ (h.2 ⟨nm,false,ts⟩ ⟨Cd,by show ts.length≤100;omega,by rw [←eV,←hts] at aQ;exact aQ⟩ rfl);show ig yk (.aq [.agg [sC nm,lC (.im false) 3 (aW (whole (ts.map cN)))],_],_)=_;rw [du,Sy];rfl
theorem ao3 (q:Nat) (hq:570≤q) {k:PK} (hk:PH k) (a0:au oU) (nm:BB) {K:yk.T→OR} (h:NA nm K Q) {t:Tag} {bg:List (Bool×List Nat)} (hS:SH k t bg) (hp:0 < bg.length) :
  Wp (F8 (T q) q q a0 (WB k t bg) (nm,(true,[]),()) 0) (J yk K Q):=by
 obtain ⟨r,hr⟩:=bm 1 q;have e0:F8 (T q) q q=F8 (T q) q (r+1):=by rw [←hr]
 have tV:∀a:Bool×List Nat,0+1≤(kI a).length∧dV [.im 1] (List.take 1 (List.drop 0 (kI a)))=some ((a.1,a.2.map aU),()):=fun a=>⟨by simp [kI],rfl⟩
 rw [e0];refine aC alE ?_;have ht:t = .own:=by
  rcases hS.no with ht | ⟨_,hn⟩
  ·exact ht
  ·rw [hn] at hp;simp at hp
 subst ht;refine jb (fK (aY (by show (0:Int) < ae (bg.map kI).length;rw [bI];simp;omega)) ?_);have hs:=hS.ok _ (bM hp);refine oe (enc:=kI) (f:=fun a=>((a.1,a.2.map aU),())) tV (i:=0) rfl (gE hp) ?_;refine aeq (m:=q) (by omega) hk hS hs.1 hs.2 ⟨fun x y err he=>?_,fun tn t' jw vd hx QC=>?_⟩
 ·exact fK (by simpa using he) (aA (aE rfl (h.1 _ _ he)))
 ·obtain ⟨y,hy⟩:=hx;have mf:bg.length≤jw.length:=by rw [hy];simp
  refine dJ rfl (aF rfl ?_);exact acE q hq hk a0 nm h r 1 t' jw [tn] (by omega) (by omega) vd rfl (by simp) (by intro x hx;simp at hx;subst hx;exact QC)
theorem ael (hm:600≤m) {many:Nat} {ps:List PT} (hP:kU many ps) {nm:BB} (hn:nm∈lR) (nO:nm.length≤20) {rb pb:Bool} {i:Nat} (hi:i < many) {K:yk.T→OR} (h:NA (nm++[46]++bJ i) K Q):Wp (Oh (T m) nm rb (c8 many) pb (ps.map cP) (bJ i) K) Q:=by
 obtain ⟨m,rfl⟩:=cE hm;have h4:=hP.2.1;refine bH agV ?_;refine aej (m:=m) (by omega) hP hn fun b=>aj (fun g=>aA (aE rfl (h.1 _ 800 (by decide)))) (fun g=>?_)
 refine ke (x:=(true,())) (Te m (by omega) rb h4 hi) rfl (dJ rfl ?_);obtain ⟨r,hr⟩:=bm 1 m;have e1:KA (T m) m m=KA (T m) m (r+1):=by rw [←hr]
 rw [e1];refine aC alG ?_;have hk:PH ⟨nm,rb,c8 many,pb,ps,bJ i⟩:=⟨aoc hP,aob hP (by simp [bJ])⟩
 have hS:SH ⟨nm,rb,c8 many,pb,ps,bJ i⟩ (.im true) []:=⟨.inr ⟨rfl,rfl⟩,fun h0=>(by cases h0),by simp,fun x hx=>(by cases hx)⟩
 refine Ui (m:=m) (k:=⟨nm,rb,c8 many,pb,ps,bJ i⟩) (fr:=[0]) (by omega) hk hS (by simp) ⟨fun err he=>?_,fun t' jw j vd hx hj=>?_⟩
 ·exact fK (by simpa using he) (aA (aE rfl (h.1 _ _ he)))
 ·refine dJ rfl (cr (by show nm.length+1≤_;omega) (cr (by show (nm++[46]).length+(bJ i).length≤_;simp [bJ];omega) ?_));exact ao3 m (by omega) hk _ _ h vd (by omega)
def GK (nm:BB) (L:LR):Prop:=So L∧∃i,i < 4∧L.nm=nm++[46]++bJ i
def U' (nm:BB) (n:Nat) (K:G'.T→OR) (Q:V→List (List C)→Prop):Prop:=∀b (Ls:List LR) z err,Ls.length≤n→(∀L∈Ls,GK nm L)→Wp (K (((b,Ls.map mP),z,err,()),())) Q
theorem abM:∀l:List LR,aW (l.map mP)=l.map mP
 | []=>rfl
 | a::t=>by simp only [gl,aW,abM t];rfl
theorem Vq (q:Nat) (hq:610≤q) {many:Nat} {ps:List PT} (hP:kU many ps) {nm:BB} (hn:nm∈lR) (nO:nm.length≤20) {rb pb:Bool} {K:G'.T→OR} (h:U' nm many K Q):∀(c i:Nat) (Ls:List LR),many - i < c→i≤many→Ls.length=i→(∀L∈Ls,GK nm L)→
  Wp (Ks (T q) q c (nm,(rb,c8 many),(pb,ps.map cP),()) (Ls.map mP) (i:Int)) (J G' K Q)
 | 0,i,Ls,hc,_,_,_=>by omega
 | c+1,i,Ls,hc,hi,hl,aQ=>by
  have h4:=hP.2.1;refine aC alw (aj (fun g1=>?_) (fun g1=>?_))
  ·have af:i < many:=by
    have g2:(i:Int) < ae (c8 many).length:=tF g1;rw [bI,pN] at g2;omega
   refine aC (iI (v:=(bJ i,())) rfl (nW af) (by simp) rfl rfl) ?_;refine ael (m:=q) (by omega) hP hn nO af ⟨fun x err he=>?_,fun L hL PE=>?_⟩
   ·exact fK (by simpa using he) (aA (aE rfl (h true [] _ _ (by simp) (fun L hL=>by cases hL))))
   ·refine dJ rfl (aF (gX (by simp;omega) (by omega)) ?_);rw [wI i];have:=Vq q hq hP hn nO h c (i+1) (Ls++[L]) (by omega) (by omega) (by simp;omega) (by intro x hx;rw [dC] at hx;rcases hx with hx | hx;exact aQ x hx;simp at hx;subst hx;exact ⟨hL,i,by omega,PE⟩) (rb:=rb) (pb:=pb);rw [eB] at this;exact this
  ·refine aF (by simp) ?_;rw [du,abM];exact aA (aE rfl (h false Ls 0 0 (by omega) aQ))
theorem Ud (hm:620≤m) {many:Nat} {ps:List PT} (hP:kU many ps) {nm:BB} (hn:nm∈lR) (nO:nm.length≤20) {rb pb:Bool} {K:G'.T→OR} (h:U' nm many K Q):Wp (Bf (T m) nm rb (c8 many) pb (ps.map cP) K) Q:=by
 obtain ⟨m,rfl⟩:=cE hm;have h2:=hP.1;have h4:=hP.2.1;refine bH agS ?_;refine aej (m:=m) (by omega) hP hn fun b=>aj (fun g=>aA (aE rfl (h true [] _ _ (by simp) (fun L hL=>by cases hL)))) (fun g=>?_)
 obtain ⟨r,hr⟩:=bm 1 m;have e0:Kr (T m) m m=Kr (T m) m (r+1):=by rw [←hr]
 rw [e0];refine aC alv (fK (aY (by show (0:Int) < ae (c8 many).length;rw [bI,pN];omega)) ?_);refine aC (iI (v:=(bJ 0,())) (i:=0) rfl (nW (by omega)) (by simp) rfl rfl) ?_;refine ael (m:=m) (by omega) hP hn nO (by omega) ⟨fun x err he=>?_,fun L hL PE=>?_⟩
 ·exact fK (by simpa using he) (aA (aE rfl (h true [] _ _ (by simp) (fun L hL=>by cases hL))))
 ·refine dJ rfl (aF rfl ?_);exact Vq m (by omega) hP hn nO h r 1 [L] (by omega) (by omega) rfl (by intro x hx;simp at hx;subst hx;exact ⟨hL,0,by omega,PE⟩)
end
end
section
open Go Go.ax QQ
structure PS where
 kd:Int
 nm:BB
 pr:BB
 lb:BB
 pc:BB
 tm:Int
 gt:Bool
 ag:List Int
 ct:Bool
 cs:List CR
 wb:Bool
 ws:List WR
 nx:Int
def cT (s:PS):List D:=[.int .i64 s.kd,.str s.nm,.str s.pr,.str s.lb,.str s.pc,.int .i64 s.tm,.sl (.im s.gt) 1 (s.ag.map bF),.sl (.im s.ct) 3 (s.cs.map eC),.sl (.im s.wb) 3 (s.ws.map cW),.int .i64 s.nx]
def mC (s:PS):Prop:=s.ag.length≤100∧s.cs.length≤100∧(∀c∈s.cs,c.ag.length≤100)∧s.ws.length≤100
structure PC where
 nm:BB
 pb:Bool
 pm:List (BB×Int×BB)
 tb:Bool
 tm:List TM
 sb:Bool
 ss:List PS
def eK (x:BB×Int×BB):List D:=[.str x.1,.int .i64 x.2.1,.str x.2.2]
theorem GZ:∀a:BB×Int×BB,0+3≤(eK a).length∧dV Dx (List.take 3 (List.drop 0 (eK a)))=some ((fun x=>(x.1,x.2.1,x.2.2,())) a):=(fun a=>⟨by simp [eK],rfl⟩)
def eD (p:PC):List D:=[.str p.nm,.sl (.im p.pb) 3 (p.pm.map eK),.sl (.im p.tb) 6 (p.tm.map bA),.sl (.im p.sb) 10 (p.ss.map cT)]
theorem acn:∀a:PC,1+1≤(eD a).length∧dV [DS.im 3] (List.take 1 (List.drop 1 (eD a)))=some ((fun p=>((p.pb,p.pm.map eK),())) a):=(fun a=>⟨by simp [eD],rfl⟩)
structure gK (p:PC):Prop where
 n1:p.nm.length≤40
 p1:p.pm.length≤2
 p2:∀x∈p.pm,(x.2.1,x.2.2)∈iS∧(x.1=[99]∨x.1=[110])
 t1:p.tm.length≤40000000
 t2:ji p.tm
 s0:1≤p.ss.length
 s1:p.ss.length≤40000000
 s2:∀s∈p.ss,mC s
theorem abU:∀l:List WR,aW (l.map cW)=l.map cW
 | []=>rfl
 | a::t=>by simp only [gl,aW,abU t];rfl
theorem SD:∀l:List TM,aW (l.map bA)=l.map bA
 | []=>rfl
 | a::t=>by simp only [gl,aW,SD t];rfl
theorem Sz:∀l:List (BB×Int×BB),aW (l.map eK)=l.map eK
 | []=>rfl
 | a::t=>by simp only [gl,aW,Sz t];rfl
theorem SA:∀l:List SR,(∀s∈l,nS s)→∃pl:List PS,aW (l.map cS)=pl.map cT∧pl.length=l.length∧∀p∈pl,mC p
 | [],_=>⟨[],rfl,rfl,fun p hp=>(by cases hp)⟩
 | s::t,h=>by
  obtain ⟨pl,h1,h2,h3⟩:=SA t (fun x hx=>h x (kD _ hx));obtain ⟨⟨ag,e1,l1⟩,⟨cs,e2,l2,l2'⟩,⟨ws,e3,l3⟩,hw⟩:=h s jR;have:∃wb,Df (cS s)=cT ⟨s.kd,s.nm,s.pr,s.lb,s.pc,s.tm,s.gt,ag,s.ct,cs,wb,ws,s.nx⟩:=by
   rcases hw with hw | ⟨hw,_⟩
   ·refine ⟨false,?_⟩;show [_,_,_,_,_,_,kV (.sl (.im s.gt) 1 s.ag),kV (.sl (.im s.ct) 3 s.cs),kV (.sl s.wt 3 s.ws),_]=_;rw [hw,e1,e2,e3];show [_,_,_,_,_,_,_,_,D.sl (.im false) 3 (aW (ws.map cW)),_]=_;rw [abU];rfl
   ·refine ⟨true,?_⟩;show [_,_,_,_,_,_,kV (.sl (.im s.gt) 1 s.ag),kV (.sl (.im s.ct) 3 s.cs),kV (.sl s.wt 3 s.ws),_]=_;rw [hw,e1,e2,e3];rfl
  obtain ⟨wb,hp⟩:=this;refine ⟨⟨s.kd,s.nm,s.pr,s.lb,s.pc,s.tm,s.gt,ag,s.ct,cs,wb,ws,s.nx⟩::pl,?_,by simp [h2],?_⟩
  ·simp only [gl,aW,h1,hp]
  ·intro p mn;rcases gT.1 mn with rfl | mn
   ·exact ⟨l1,l2,l2',l3⟩
   ·exact h3 p mn
section
variable {m:Nat} {Q:V→List (List C)→Prop} {d:au ao}
def Ny (K:nY.T→OR) (Q:V→List (List C)→Prop):Prop:=∀(p:PC) d',gK p→cQ d'→Wp (K ((p.nm,(p.pb,p.pm.map eK),(p.tb,p.tm.map bA),(p.sb,p.ss.map cT),()),d',())) Q
theorem zi {r:RR} (h:r≠[]):(r.length==r.length && !r.isEmpty)=true:=by
 cases r with
 | nil=>exact absurd rfl h
 | cons=>simp
theorem aeh (hm:320≤m) {pb:Bool} {dy:List PR} (h0:dy≠[]) (h1:dy.length≤10) (h2:∀p∈dy,ur p) {nm:BB} (hn:nm.length≤20) {rb tb yb:Bool} {rs:List BB} {il:RR} {Ls:List LR} {i:Nat} {L:LR} (hi:i < rs.length) (gB:∀s∈rs,s.length≤20) (hL:Ls[i]? = some L) (aQ:So L) {carry:BB} (hc:((5:Int),carry)∈iS) (hd:cQ d) {K:nY.T→OR} (h:Ny K Q) :
  Wp (Oc (T m) pb (dy.map di) nm rb (rs.map fun s=>[.str s]) tb il yb (Ls.map mP) (i:Int) carry d K) Q:=by
 obtain ⟨m,rfl⟩:=cE hm;refine bH agG ?_;refine aM (enc:=fun s:BB=>[D.str s]) (f:=fun s=>(s,())) (fun a=>⟨by simp,rfl⟩) rfl (zh hi) ?_;refine Hs (m:=m) (by omega) hn (gB _ (bM hi)) fun s hs=>?_
 refine jQ (m:=m) (n:=7) (by omega) (by omega) (by omega) hd fun j d1 hj cJ=>?_
 have hw:ak (9+(j:Int))=((9+j:Nat):Int):=gM;rw [hw];have hk:KH ⟨pb,dy,s,(.own,[(([99]:BB),(5:Int),carry),([110],1,[])].map eK),s,yb,Ls,(i:Int)⟩:=⟨h0,h1,h2,⟨i,L,rfl,hL,aQ⟩⟩
 have hR:RL ⟨pb,dy,s,(.own,[(([99]:BB),(5:Int),carry),([110],1,[])].map eK),s,yb,Ls,(i:Int)⟩ L:=⟨⟨i,rfl,hL⟩,aQ.1,aQ.2.1,aQ.2.2⟩
 have H:WH 0 (.im true) [] (.im true) [] 0 ((9+j:Nat):Int):=⟨.inr ⟨rfl,rfl⟩,.inr ⟨rfl,rfl⟩,by simp,by simp,(fun i t ht=>by simp at ht),(fun s hs=>by cases hs),⟨0,rfl,by omega⟩,by omega,by omega,(fun h=>by cases h),(fun h=>by cases h)⟩
 refine VP 5 (by omega) m 0 _ L (.im true) (.im true) [] [] 0 ((9+j:Nat):Int) d1 0 _ _ (by omega) (by decide) hk hR (by have:=aQ.1;omega) H cJ ?_;intro la dB ss' oP gR d' H' hx dq;obtain ⟨pl,e1,e2,e3⟩:=SA ss' H'.kS;have hB:0+Bd 5≤40000000:=by decide
 have qm:=H'.nt;have Ft:=H'.ns;have mo:=H'.se rfl;have Ch:(ss'.map cS)≠[]:=by simpa using mo
 have nL:1≤pl.length:=by
  rw [e2];cases ss' with | nil=>exact absurd rfl mo | cons=>simp
 have fin:∀tb,Wp (K ((s,(false,[(([99]:BB),(5:Int),carry),([110],1,[])].map eK),(tb,dB.map bA),(false,pl.map cT),()),d',())) Q:=fun tb=>
  h ⟨s,false,[([99],5,carry),([110],1,[])],tb,dB,false,pl⟩ d' ⟨hs,by simp,(by intro x hx;simp at hx;rcases hx with rfl | rfl;exact ⟨hc,.inl rfl⟩;exact ⟨by decide,.inr rfl⟩),by show dB.length≤_;omega,H'.kT,nL,by show pl.length≤_;omega,e3⟩ dq
 refine jb ?_;rcases H'.ot with ht | ⟨ht,_⟩<;>subst ht
 ·have Ci:=H'.te rfl;have FD:(dB.map bA)≠[]:=by simpa using Ci
  refine jb (jb (aF rfl (aF (zi FD) (aF (zi Ch) (aF rfl (aF (by simp) (aF (by simp) (aA ?_))))))));refine aE (x:=((s,(false,[(([99]:BB),(5:Int),carry),([110],1,[])].map eK),(false,dB.map bA),(false,pl.map cT),()),d',())) ?_ (fin false);show ig nY (.agg [sC s,lC (.im false) 3 (aW (whole ([(([99]:BB),(5:Int),carry),([110],1,[])].map eK))),lC (.im false) 6 (aW (whole (dB.map bA))),lC (.im false) 10 (aW (whole (ss'.map cS)))],_)=_;rw [du,du,du,Sz,SD,e1];rfl
 ·refine eZ (jb (aF rfl (aF (zi Ch) (aF rfl (aF (by simp) (aA ?_))))));refine aE (x:=((s,(false,[(([99]:BB),(5:Int),carry),([110],1,[])].map eK),(true,dB.map bA),(false,pl.map cT),()),d',())) ?_ (fin true);show ig nY (.agg [sC s,lC (.im false) 3 (aW (whole ([(([99]:BB),(5:Int),carry),([110],1,[])].map eK))),lC (.im true) 6 (dB.map bA),lC (.im false) 10 (aW (whole (ss'.map cS)))],_)=_;rw [du,du,Sz,e1];rfl
def mK (pb:Bool) (dy:List PR):WK:=⟨pb,dy,[109,97,105,110],(.im true,[]),[],true,[],0⟩
theorem aaW (q:Nat) (hq:200≤q) {pb:Bool} {dy:List PR} {n i N:Nat} (hN:N≤1000) (hi:i < n) (hn:n≤3) {tt st:Tag} {tm:List TM} {ss:List SR} {nz rm:Int} (H:WH N tt tm st ss nz rm) (hd:cQ d) {p:PR} (hp:ur p) {ro:BB} (zF:ro.length≤20) {e:BB} {x2:au ao} {c1:Nat} {a3:au fw} {aO:Int} {K:nY.T→OR}
  (h:∀la dB ss' gR d',WH (N+3) la dB .own ss' nz gR→cQ d'→Wp (F4 (T q) q x2 c1 pb (dy.map di) d' a3 (Ws (mK pb dy) la dB ss' nz gR) (n:Int) ((i+1:Nat):Int)) (J nY K Q)) :
  Wp (uh (T q) q x2 c1 q pb (dy.map di) d a3 (W (mK pb dy) tt tm st ss nz rm) (n:Int) (i:Int) (p.nm,(p.rt,p.rs.map fun s=>[.str s]),(p.pt,p.il),()) ro e (aO,[],[],[],[],-1,(true,[]),(true,[]),(true,[]),-1,())) (J nY K Q):=by
 obtain ⟨r,hr⟩:=bm 1 q;have e1:uh (T q) q x2 c1 q=uh (T q) q x2 c1 (r+1):=by rw [←hr]
 rw [e1];have lt:=H.nt;have ls:=H.ns;have r1:=H.r1;have r2:=H.r2;have hw:=wI i;refine aC ak6 ?_;refine Hs (m:=q) (by omega) hp.1 zF fun s hs=>?_
 refine rP (m:=q) (k:=mK pb dy) (by omega) (by omega) H.ot ?_;refine jQ (m:=q) (n:=4) (by omega) (by omega) (by omega) hd fun j d1 hj cJ=>?_
 refine w_num (m:=q) (k:=mK pb dy) (by omega) (by simp;omega) (.inl rfl) ?_;have H2:=H.terms (M:=N+2) (dB:=tm++[⟨0,e,0,[],-1,-1⟩]++[⟨1,[],(j:Int),[],-1,-1⟩]) (by omega) (by simp;omega) (qx (qx H.kT ⟨.inl rfl,rfl,rfl,iZ⟩) ⟨.inr (.inl rfl),rfl,rfl,iZ⟩);have okc:∀{y1 y2:Int} {z:Int} {a:Int},nS ⟨a,[],[],[],s,-1,false,[[.int .i64 y1],[.int .i64 y2]],true,[],.im true,[],z⟩:=fun {y1 y2 z a} => ⟨⟨[y1,y2],rfl,by simp⟩,⟨[],rfl,by simp,by simp⟩,⟨[],rfl,by simp⟩,.inr ⟨rfl,rfl⟩⟩
 refine aj (fun g=>?_) (fun g=>?_)
 ·refine wD (m:=q) (k:=mK pb dy) (by omega) (by omega) H.os (by omega) (by omega) ?_;rw [hw];exact h _ _ _ _ _ (H2.step okc) cJ
 ·refine uH (m:=q) (k:=mK pb dy) (by omega) (by omega) H.os (by omega) (by omega) ?_;rw [hw];exact h _ _ _ _ _ (H2.step okc) cJ
theorem aaV (q:Nat) (hq:200≤q) {pb:Bool} {dy:List PR} (h0:dy≠[]) (h1:dy.length≤10) (h2:∀p∈dy,ur p) {n:Nat} (hn:n≤3) {x2:au ao} {a3:au fw} {K:nY.T→OR} (h:Ny K Q):∀(c i:Nat) (tt:Tag) (tm:List TM) (ss:List SR) (nz rm:Int) (d:au ao),5 - i < c→i≤n→WH (20 * i) tt tm .own ss nz rm→cQ d→
  Wp (F4 (T q) q x2 c pb (dy.map di) d a3 (Ws (mK pb dy) tt tm ss nz rm) (n:Int) (i:Int)) (J nY K Q)
 | 0,i,tt,tm,ss,nz,rm,d,hc,hi,_,_=>by omega
 | c+1,i,tt,tm,ss,nz,rm,d,hc,hi,H,hd=>by
  have cK:1≤dy.length:=by cases dy with | nil=>exact absurd rfl h0 | cons=>simp
  refine aC ak5 (aj (fun g1=>?_) (fun g1=>?_))
  ·have af:i < n:=by have:(i:Int) < (n:Int):=tF g1;omega
   refine jQ (m:=q) (n:=(dy.map di).length) (by omega) (by simp;omega) (by simp;omega) hd fun j d1 hj cJ=>?_
   have vp:j < dy.length:=by simpa using hj
   have hp:=h2 _ (bM vp);refine aM Au rfl (gE vp) ?_;refine jQ (m:=q) (n:=(dy[j].rs.map fun s=>[D.str s]).length) (by omega) (by have:=hp.2.1;simp;omega) (by have:=hp.2.2.1;simp;omega) cJ fun j2 d2 lp fk=>?_
   have Fa:j2 < dy[j].rs.length:=by simpa using lp
   refine aM (enc:=fun s:BB=>[D.str s]) (f:=fun s=>(s,())) (fun a=>⟨by simp,rfl⟩) rfl (zh Fa) ?_;refine Uk (m:=q) (k:=mK pb dy) (tm:=tm) (st:=.own) (ss:=ss) (by omega) (N:=20 * i) (by omega) H fk hp fun s ti rJ wq sW s7 d3 H1 vE sA=>mI (m:=q) (by omega) ?_
   have eL:∀aO,Wp (uh (T q) q x2 c q pb (dy.map di) d3 a3 (W (mK pb dy) ti rJ .own wq sW s7) (n:Int) (i:Int) (dy[j].nm,(dy[j].rt,dy[j].rs.map fun s=>[.str s]),(dy[j].pt,dy[j].il),()) dy[j].rs[j2] s (aO,[],[],[],[],-1,(true,[]),(true,[]),(true,[]),-1,())) (J nY K Q):=fun aO=>
    aaW q hq (N:=20 * i+12) (by omega) af hn H1 sA hp (hp.2.2.2 _ (bM Fa)) fun DJ DC yp Dp d4 H2 zu=>
     aaV q hq h0 h1 h2 hn h c (i+1) DJ DC yp sW Dp d4 (by omega) (by omega) (H2.le (by omega)) zu
   exact aj (fun g2=>mI (m:=q) (by omega) (eL _)) (fun g2=>eL _)
  ·obtain ⟨pl,e1,e2,e3⟩:=SA ss H.kS;have qm:=H.nt;have Ft:=H.ns;have mo:=H.se rfl;have Ch:(ss.map cS)≠[]:=by simpa using mo
   have nL:1≤pl.length:=by
    rw [e2];cases ss with | nil=>exact absurd rfl mo | cons=>simp
   have fin:∀tb,Wp (K (([109,97,105,110],(true,[]),(tb,tm.map bA),(false,pl.map cT),()),d,())) Q:=fun tb=>
    h ⟨[109,97,105,110],true,[],tb,tm,false,pl⟩ d ⟨by simp,by simp,(by intro x hx;simp at hx),by show tm.length≤_;omega,H.kT,nL,by show pl.length≤_;omega,e3⟩ hd
   refine eZ ?_;rcases H.ot with ht | ⟨ht,_⟩<;>subst ht
   ·have Ci:=H.te rfl;have FD:(tm.map bA)≠[]:=by simpa using Ci
    refine jb (aF (zi FD) (aF (zi Ch) (aF (by simp) (aF (by simp) (aA ?_)))));refine aE (x:=(([109,97,105,110],(true,[]),(false,tm.map bA),(false,pl.map cT),()),d,())) ?_ (fin false);show ig nY (.agg [sC _,lC (.im true) 3 [],lC (.im false) 6 (aW (whole (tm.map bA))),lC (.im false) 10 (aW (whole (ss.map cS)))],_)=_;rw [du,du,SD,e1];rfl
   ·refine eZ (aF (zi Ch) (aF (by simp) (aA ?_)));refine aE (x:=(([109,97,105,110],(true,[]),(true,tm.map bA),(false,pl.map cT),()),d,())) ?_ (fin true);show ig nY (.agg [sC _,lC (.im true) 3 [],lC (.im true) 6 (tm.map bA),lC (.im false) 10 (aW (whole (ss.map cS)))],_)=_;rw [du,e1];rfl
theorem aef (hm:320≤m) {pb:Bool} {dy:List PR} (h0:dy≠[]) (h1:dy.length≤10) (h2:∀p∈dy,ur p) (hd:cQ d) {K:nY.T→OR} (h:Ny K Q):Wp (Od (T m) pb (dy.map di) d K) Q:=by
 obtain ⟨m,rfl⟩:=cE hm;have cK:1≤dy.length:=by cases dy with | nil=>exact absurd rfl h0 | cons=>simp
 refine bH agC ?_;refine jQ (m:=m) (n:=3) (by omega) (by omega) (by omega) hd fun j d1 hj cJ=>?_
 have hw:ak (1+(j:Int))=((1+j:Nat):Int):=gM;rw [hw];obtain ⟨r,hr⟩:=bm 1 m;have e0:∀x,Kh (T m) m x m=Kh (T m) m x (r+1):=by intro x;rw [←hr]
 rw [e0];refine aC ak4 (fK (aY (by omega)) ?_);refine jQ (m:=m) (n:=(dy.map di).length) (by omega) (by simp;omega) (by simp;omega) cJ fun j1 d2 xm fk=>?_
 have vp:j1 < dy.length:=by simpa using xm
 have hp:=h2 _ (bM vp);refine aM Au rfl (gE vp) ?_;refine jQ (m:=m) (n:=(dy[j1].rs.map fun s=>[D.str s]).length) (by omega) (by have:=hp.2.1;simp;omega) (by have:=hp.2.2.1;simp;omega) fk fun j2 d3 lp sA=>?_
 have Fa:j2 < dy[j1].rs.length:=by simpa using lp
 refine aM (enc:=fun s:BB=>[D.str s]) (f:=fun s=>(s,())) (fun a=>⟨by simp,rfl⟩) rfl (zh Fa) ?_;have H:WH 0 (.im true) [] (.im true) [] 0 0:=⟨.inr ⟨rfl,rfl⟩,.inr ⟨rfl,rfl⟩,by simp,by simp,(fun i t ht=>by simp at ht),(fun s hs=>by cases hs),⟨0,rfl,by omega⟩,by omega,by omega,(fun h=>by cases h),(fun h=>by cases h)⟩
 refine Uk (m:=m) (k:=mK pb dy) (tt:=.im true) (tm:=[]) (st:=.im true) (ss:=[]) (nz:=0) (rm:=0) (by omega) (N:=0) (by omega) H sA hp fun s ti rJ wq sW s7 d4 H1 vE zu=>mI (m:=m) (by omega) ?_
 have eL:∀(x2:au ao) (a3:au fw) (aO:Int),Wp (uh (T m) m x2 r m pb (dy.map di) d4 a3 (W (mK pb dy) ti rJ .own wq sW s7) ((1+j:Nat):Int) ((0:Nat):Int) (dy[j1].nm,(dy[j1].rt,dy[j1].rs.map fun s=>[.str s]),(dy[j1].pt,dy[j1].il),()) dy[j1].rs[j2] s (aO,[],[],[],[],-1,(true,[]),(true,[]),(true,[]),-1,())) (J nY K Q):=fun x2 a3 aO=>
  aaW m (by omega) (N:=12) (by omega) (by omega) (by omega) (H1.le (by omega)) zu hp (hp.2.2.2 _ (bM Fa)) fun DJ DC yp Dp d5 H2 E2=>
   aaV m (by omega) h0 h1 h2 (by omega) h r 1 DJ DC yp sW Dp d5 (by omega) (by omega) (H2.le (by omega)) E2
 exact aj (fun g2=>mI (m:=m) (by omega) (eL _ _ _)) (fun g2=>eL _ _ _)
end
end
section
open Go Go.ax PT QQ
def NL (s:List UInt8):Prop:=∀c∈s,c≠10
theorem eI {a b:List UInt8}:NL (a++b)↔NL a∧NL b:=by
 simp only [NL,dC];exact ⟨fun h=>⟨fun c hc=>h c (.inl hc),fun c hc=>h c (.inr hc)⟩,fun h c hc=>hc.elim (h.1 c) (h.2 c)⟩
theorem yI:NL []:=fun c hc=>by cases hc
theorem ch {l:List UInt8} (h:(l.all fun c=>c != 10)=true:=by rfl):NL l:=fun c hc=>by simpa using lI.1 h c hc
theorem uT {a:UInt8} {l:List UInt8}:NL (a::l)↔a≠10∧NL l:=by simp [NL]
theorem JS {c:UInt8} (h:qq c=true):c≠10∧c≠32∧c≠125∧c≠123:=by
 refine ⟨?_,?_,?_,?_⟩<;>(rintro rfl;exact absurd h (by decide))
theorem Lz {s:List UInt8} (h:gJ s=true):NL s∧s.length≤12∧∃c r,s=c::r∧qq c=true:=by
 cases s with
 | nil=>cases h
 | cons c r=>
  simp only [gJ,bK,fA] at h;obtain ⟨⟨⟨h1,h2⟩,_⟩,h4⟩:=h;have hc:qq c=true:=by simp [qq,h2]
  refine ⟨fun x hx=>?_,by simpa using h1,c,r,rfl,hc⟩;rcases gT.1 hx with rfl | hx
  ·exact (JS hc).1
  ·exact (JS (lI.1 h4 x hx)).1
theorem Xn {l:List UInt8} (h:∀c∈l,re c=true):NL l:=fun c hc=>(JS (show qq c=true by simp [qq,h c hc])).1
theorem ake {n:Int} (h0 : -9223372036854775808≤n) (h1:n≤9223372036854775807):NL (pG n):=by
 have e2:(10:Nat) ^ (19+1)=100000000000000000000:=by decide
 unfold pG;split
 ·exact uT.2 ⟨by decide,Xn (yZ 19 n.natAbs (by rw [e2];omega)).1⟩
 ·exact Xn (yZ 19 n.toNat (by rw [e2];omega)).1
theorem YU (v:Nat):pA v≠10:=by
 by_cases h:v < 16
 ·have:((List.range 16).all fun v=>pA v != 10)=true:=by decide
  simpa using Vr this v h
 ·have:pA v=0:=by simp [pA,List.getD,pV (show B3.length≤v from Nat.le_of_not_lt h)]
  rw [this];decide
theorem aoN (c:UInt8):NL (qc c)∧(qc c).length≤4:=by
 have ne:c.toNat≠10→c≠10:=fun h h'=>h (by rw [h'];rfl)
 unfold qc;split
 ·exact ⟨uT.2 ⟨by decide,uT.2 ⟨ne (by omega),yI⟩⟩,by simp⟩
 ·split
  ·exact ⟨ch,by simp⟩
  ·split
   ·exact ⟨uT.2 ⟨by decide,uT.2 ⟨by decide,uT.2 ⟨YU _,uT.2 ⟨YU _,yI⟩⟩⟩⟩,by simp⟩
   ·exact ⟨uT.2 ⟨ne (by omega),yI⟩,by simp⟩
theorem aoO (s:List UInt8):NL (ya s)∧(ya s).length≤4 * s.length+2:=by
 have:NL (s.flatMap qc)∧(s.flatMap qc).length≤4 * s.length:=by
  induction s with
  | nil=>exact ⟨yI,by simp⟩
  | cons c r ih=>
   rw [HB];have:=aoN c;exact ⟨eI.2 ⟨this.1,ih.1⟩,by simp only [eu,gk];omega⟩
 unfold ya;exact ⟨uT.2 ⟨by decide,eI.2 ⟨this.1,ch⟩⟩,by simp only [gk,eu,jB];omega⟩
theorem apu (k:Int):NL (rD k):=by
 unfold rD;repeat' split
 all_goals exact ch
theorem W8 (k:Int):NL (tM k):=by
 unfold tM;repeat' split
 all_goals exact ch
theorem MR:∀{t:TT},vT t→NL (gj t)∧(gj t).length≤110 * t.size
 | .lf k nm z tx,h=>by
  rcases h with ⟨rfl,h,rfl,rfl⟩ | ⟨rfl,rfl,rfl,h,h'⟩ | ⟨rfl,rfl,rfl,h⟩ | ⟨rfl,rfl,rfl,h⟩ | ⟨rfl,rfl,rfl,rfl⟩ | ⟨rfl,rfl,rfl,rfl⟩
  ·have:=Lz h;exact ⟨this.1,show nm.length≤110 by omega⟩
  ·have:=akf h h';exact ⟨ake h h',show (pG z).length≤110 by omega⟩
  ·rcases h with rfl | rfl<;>exact ⟨ch,by decide⟩
  ·have:=aoO tx;exact ⟨this.1,show (ya tx).length≤110 by omega⟩
  ·exact ⟨ch,by decide⟩
  ·exact ⟨ch,by decide⟩
 | .un k a,h=>by
  have ih:=MR h.2;have:=Iy k;have:=W8 k;simp only [gj,TT.size];split<;>simp only [eI,eu,gk,jB]<;>exact ⟨by simp only [ih.1,this,lh,and_true];exact ⟨ch,ch⟩,by omega⟩
 | .bi k a b,h=>by
  have ih:=MR h.2.1;have FK:=MR h.2.2;have:=Iy k;have:=ac8 k;have c:=W8 k;have s:=apu k;simp only [gj,TT.size];split<;>simp only [eI,eu,gk,jB]<;>refine ⟨?_,by omega⟩
  ·exact ⟨⟨⟨⟨ch,ih.1⟩,⟨ch,s⟩,ch⟩,FK.1⟩,ch⟩
  ·exact ⟨⟨⟨⟨⟨c,ch⟩,ih.1⟩,ch⟩,FK.1⟩,ch⟩
theorem FN {l:List (List UInt8)} (h:∀y∈l,NL y):NL (ik l):=by
 cases l with
 | nil=>exact yI
 | cons x t=>
  refine eI.2 ⟨h x jR,fun c hc=>?_⟩;unfold kR at hc;obtain ⟨y,hy,hc⟩:=Nd.1 hc;exact eI.2 ⟨ch,h y (kD _ hy)⟩ c hc
theorem JT {l:List (List UInt8)} {N:Nat} (h:∀y∈l,y.length≤N):(ik l).length≤(N+2) * l.length:=by
 have tl:∀t:List (List UInt8),(∀y∈t,y.length≤N)→(kR t).length≤(N+2) * t.length:=by
  intro t;induction t with
  | nil=>intro _;simp [kR]
  | cons y t ih=>
   intro h;have h1:=h y jR;have h2:=ih fun y hy=>h y (kD _ hy)
   simp only [kR,HB,eu,gk,jB,Nat.mul_add,uO] at h2 ⊢;omega
 cases l with
 | nil=>simp [ik]
 | cons x t=>
  have h1:=h x jR;have h2:=tl t fun y hy=>h y (kD _ hy)
  simp only [ik,eu,gk,Nat.mul_add,uO] at h2 ⊢;omega
theorem WO {k:Int} {x:List UInt8} (h:(k,x)∈iS):NL (ma k x):=by
 simp only [iS,gT,nD,nF,fL] at h;rcases h with ⟨rfl,rfl⟩ | ⟨rfl,rfl⟩ | ⟨rfl,rfl⟩ | ⟨rfl,rfl⟩ | ⟨rfl,rfl⟩ | ⟨rfl,rfl⟩ | ⟨rfl,rfl⟩ | ⟨rfl,rfl⟩ | ⟨rfl,rfl⟩ | ⟨rfl,rfl⟩ | ⟨rfl,rfl⟩ | ⟨rfl,rfl⟩ | ⟨rfl,rfl⟩;all_goals exact ch
theorem apH {tm:List TM} (hT:ji tm) {t:TT} {i:Int} (h:t.at_ (tm.map bA) i):t.size≤3:=by
 have leaf:∀{a:TT} {x:Int} {j:Nat} {u:TM},a.at_ (tm.map bA) x→x=(j:Int)→tm[j]? = some u→xJ u→a.size=1:=by
  intro a x j u ha hx hj hl;have g:(tm.map bA)[j]? = some (bA u):=by rw [bS,hj];rfl
  cases a with
  | lf=>rfl
  | un k a=>
   obtain ⟨j',x',e,hr,BS⟩:=ha;rw [show j'=j by omega,g] at hr;obtain ⟨y,hy⟩:=TT.yM BS;simp [bA,row] at hr;have:=hl.2.1;omega
  | bi k a b=>
   obtain ⟨j',x',y',e,hr,BS,_⟩:=ha;rw [show j'=j by omega,g] at hr;obtain ⟨y,hy⟩:=TT.yM BS;simp [bA,row] at hr;have:=hl.2.1;omega
 cases t with
 | lf=>simp [TT.size]
 | un k a=>
  obtain ⟨j,x,e,hr,ha⟩:=h;obtain ⟨y,hy⟩:=TT.yM ha;obtain ⟨u,hu,he⟩:∃u,tm[j]? = some u∧bA u=row k [] 0 [] x (-1):=by
   rw [bS] at hr;cases hj:tm[j]? with
   | none=>rw [hj] at hr;cases hr
   | some u=>rw [hj] at hr;exact ⟨u,rfl,oY hr⟩
  simp [bA,row] at he;rcases hT j u hu with hl | ⟨_,_,a',b',_,_,_,h2,_⟩
  ·have:=hl.2.1;omega
  ·omega
 | bi k a b=>
  obtain ⟨j,x,y,e,hr,ha,hb⟩:=h;obtain ⟨x',fH⟩:=TT.yM ha;obtain ⟨u,hu,he⟩:∃u,tm[j]? = some u∧bA u=row k [] 0 [] x y:=by
   rw [bS] at hr;cases hj:tm[j]? with
   | none=>rw [hj] at hr;cases hr
   | some u=>rw [hj] at hr;exact ⟨u,rfl,oY hr⟩
  simp [bA,row] at he;rcases hT j u hu with hl | ⟨_,_,a',b',u1,u2,h1,h2,_,_,_,h6,h7,h8,h9,_⟩
  ·have:=hl.2.1;omega
  ·have:=leaf ha (by omega) h6 h8;have:=leaf hb (by omega) h7 h9;simp [TT.size];omega
end
section
open Go Go.ax QQ
structure GP where
 nm:BB
 M:Nat
 ps:List PT
def jZ (g:GP):Prop:=(g.nm=[112]∨g.nm=[113])∧kU g.M g.ps
def eQ (g:GP):PR:=⟨g.nm,false,(List.range g.M).map bJ,false,g.ps.map cP⟩
theorem G6 (M:Nat):c8 M=((List.range M).map bJ).map fun s=>[D.str s]:=by simp [c8]
theorem T4 {g:GP} (h:jZ g):ur (eQ g):=by
 have h2:=h.2.1;have h4:=h.2.2.1;refine ⟨?_,?_,?_,?_⟩
 ·rcases h.1 with e | e<;>(show g.nm.length≤20;rw [e];simp)
 ·show 1≤((List.range g.M).map bJ).length;simp;omega
 ·show ((List.range g.M).map bJ).length≤10;simp;omega
 ·intro s hs;simp only [eQ,iz] at hs;obtain ⟨a,_,rfl⟩:=hs;simp [bJ]
theorem Ve {g:GP} (h:jZ g):g.nm∈lR:=by rcases h.1 with e | e<;>rw [e]<;>decide
theorem Vd {g:GP} (h:jZ g):g.nm.length≤20:=by rcases h.1 with e | e<;>rw [e]<;>simp
section
variable {m:Nat} {Q:V→List (List C)→Prop} {d:au ao}
def Nz (nm:BB) (K:yj.T→OR) (Q:V→List (List C)→Prop):Prop:=∀M ps d',kU M ps→cQ d'→Wp (K ((nm,(false,c8 M),(false,ps.map cP),()),d',())) Q
theorem aqO (hm:60≤m) {nm:BB} {s:List BB} (hs:nR s) {b:Bool} (hd:cQ d) {K:yj.T→OR} (h:Nz nm K Q):Wp (Wc (T m) nm b (gY s) d K) Q:=by
 obtain ⟨M,ps,d',h1,h2,e⟩:=aoH (nm:=nm) m (by omega) b hs hd;exact ke (x:=((nm,(false,c8 M),(false,ps.map cP),()),d',())) e rfl (h M ps d' h1 h2)
theorem aqB (hm:60≤m) {nm:BB} {s:List BB} (hs:nR s) {b:Bool} (hd:cQ d) {K:yj.T→OR} (h:Nz nm K Q):Wp (c138 (T m) nm 2 b (gY s) d K) Q:=by
 obtain ⟨ps,d',h1,h2,e⟩:=NJ (nm:=nm) m (by omega) b hs 2 (by omega) (by omega) hd;exact ke (x:=((nm,(false,c8 2),(false,ps.map cP),()),d',())) e rfl (h 2 ps d' h1 h2)
theorem aen (hm:640≤m) {nm:BB} (hn:nm∈lR) (nO:nm.length≤20) {s:List BB} (hs:nR s) {b:Bool} (hd:cQ d) {K:yj.T→OR} (h:Nz nm K Q):Wp (c80 (T m) nm b (gY s) d K) Q:=by
 obtain ⟨m,rfl⟩:=cE hm;refine bH ago ?_;refine aqO (m:=m) (by omega) hs hd fun M ps d' hP dq=>?_
 refine Ud (m:=m) (by omega) hP hn nO fun b' Ls z err hl aQ=>aj (fun g=>aA (aE rfl (h M ps d' hP dq))) (fun g=>?_)
 exact aqB (m:=m) (by omega) hs dq fun M2 SL d2 zn fk=>aA (aE rfl (h M2 SL d2 zn fk))
def AG (i:Nat):List BB:=(List.range i).map fun k=>[112,46]++bJ k
theorem aqk (i:Nat):AG (i+1)=AG i++[[112,46]++bJ i]:=by simp [AG,Ni]
theorem abT:∀l:List BB,aW (gY l)=gY l
 | []=>rfl
 | a::t=>by
  have:=abT t;simp only [gY,gl,aW] at this ⊢;rw [this];rfl
theorem aqj {M:Nat} (h:M≤4):nR (AG M):=by
 have:M=0∨M=1∨M=2∨M=3∨M=4:=by omega
 rcases this with rfl | rfl | rfl | rfl | rfl<;>exact ⟨by decide,by decide⟩
theorem aa' (q:Nat) {M:Nat} (h4:M≤4) (rb pb:Bool) (il:RR) {K:df.T→OR} (h:∀b s,nR s→Wp (K ((b,gY s),())) Q):∀(c i:Nat),M - i < c→i≤M→
  Wp (Ke (T q) q c ([112],(rb,c8 M),(pb,il),()) (gY (AG i)) (i:Int)) (J df K Q)
 | 0,i,hc,_=>by omega
 | c+1,i,hc,hi=>by
  have hl:(gY (AG i)).length=i:=by simp [gY,AG]
  refine aC akV (aj (fun g1=>?_) (fun g1=>?_))
  ·have af:i < M:=by
    have g2:(i:Int) < ae (c8 M).length:=tF g1;rw [bI,pN] at g2;omega
   refine cr (by simp) (aC (iI (v:=(bJ i,())) rfl (nW af) (by simp) rfl rfl) (cr (by simp [bJ]) (aF (gX (by rw [hl];omega) (by omega)) ?_)));rw [wI i,du];have:=aa' q h4 rb pb il h c (i+1) (by omega) (by omega);rw [aqk,gY,eB] at this;exact this
  ·obtain rfl:i=M:=by
    have g2:¬ (i:Int) < ae (c8 M).length:=lg g1;rw [bI,pN] at g2;omega
   refine aF (by simp) ?_;rw [du,abT];exact aA (aE rfl (h false _ (aqj h4)))
theorem aq0 (hm:60≤m) {M:Nat} (h2:2≤M) (h4:M≤4) {rb pb:Bool} {il:RR} {K:df.T→OR} (h:∀b s,nR s→Wp (K ((b,gY s),())) Q):Wp (WJ (T m) [112] rb (c8 M) pb il K) Q:=by
 obtain ⟨m,rfl⟩:=cE hm;refine bH agp ?_;obtain ⟨r,hr⟩:=bm 1 m;have e0:Kd (T m) m m=Kd (T m) m (r+1):=by rw [←hr]
 rw [e0];refine aC akU (fK (aY (by show (0:Int) < ae (c8 M).length;rw [bI,pN];omega)) ?_);refine cr (by simp) (aC (iI (v:=(bJ 0,())) (i:=0) rfl (nW (by omega)) (by simp) rfl rfl) (cr (by simp [bJ]) (aF rfl ?_)));exact aa' m h4 rb pb il h r 1 (by omega) (by omega)
def PsK (K:Tk.T→OR) (Q:V→List (List C)→Prop):Prop:=∀(gs:List GP) d',gs≠[]→gs.length≤2→(∀g∈gs,jZ g)→cQ d'→Wp (K ((false,(gs.map eQ).map di),d',())) Q
theorem WN (nm:BB) (M:Nat) (ps:List PT):di (eQ ⟨nm,M,ps⟩)=[.str nm,.sl (.im false) 1 (c8 M),.sl (.im false) 3 (ps.map cP)]:=by rw [G6];rfl
theorem aqP (hm:650≤m) (hd:cQ d) {K:Tk.T→OR} (h:PsK K Q):Wp (c31 (T m) d K) Q:=by
 obtain ⟨m,rfl⟩:=cE hm;have h0:nR []:=⟨by simp,fun x hx=>by cases hx⟩
 refine bH agn ?_;refine aen (m:=m) (s:=[]) (by omega) (by decide) (by simp) h0 hd fun M ps d1 hP cJ=>?_
 have g1:jZ ⟨[112],M,ps⟩:=⟨.inl rfl,hP⟩
 refine jQ (m:=m) (n:=2) (by omega) (by omega) (by omega) cJ fun j d2 hj fk=>aj (fun g=>?_) (fun g=>aA ?_)
 ·refine aq0 (m:=m) (by omega) hP.1 hP.2.1 fun b s hs=>?_
  refine aen (m:=m) (by omega) (by decide) (by simp) hs fk fun M2 SL d3 zn sA=>aA ?_
  have:=h [⟨[112],M,ps⟩,⟨[113],M2,SL⟩] d3 (by simp) (by simp) (by intro g hg;simp at hg;rcases hg with rfl | rfl;exact g1;exact ⟨.inr rfl,zn⟩) sA;simp only [gl,AV,WN] at this;exact aE rfl this
 ·have:=h [⟨[112],M,ps⟩] d2 (by simp) (by simp) (by intro g hg;simp at hg;subst hg;exact g1) fk;simp only [gl,AV,WN] at this;exact aE rfl this
theorem aqy (hm:1≤m) {l:List Int} (hl:l.length * 8≤140737488355328) {b:Bool} {K:rs4.T→OR} (h:∀d,cQ d→Wp (K ((),d,())) Q):Wp (c28 (T m) b (l.map bF) K) Q:=by
 obtain ⟨m,rfl⟩:=cE hm;have hn:lS (l.map bF)=true:=by
  cases l with
  | nil=>rfl
  | cons a t=>simp [lS,tj,xD,bF]
 refine bH agk (aF (by simp only [fT,hn];simp;omega) (aj (fun g=>aA ?_) (fun g=>aA ?_)))
 ·exact aE rfl (h _ ⟨.im true,l,0,rfl,by omega,by omega⟩)
 ·exact aE rfl (h _ ⟨.own,l,0,rfl,by omega,by omega⟩)
def HS (K:nX.T→OR) (Q:V→List (List C)→Prop):Prop:=∀(gs:List GP) (ay:List PC),gs≠[]→gs.length≤2→(∀g∈gs,jZ g)→ay≠[]→ay.length≤20→(∀p∈ay,gK p)→Wp (K (((false,(gs.map eQ).map di),(true,[]),(false,ay.map eD),()),())) Q
theorem abQ:∀l:List PC,aW (l.map eD)=l.map eD
 | []=>rfl
 | a::t=>by simp only [gl,aW,abQ t];rfl
end
end
section
open Go Go.ax QQ
section
variable {m:Nat} {Q:V→List (List C)→Prop}
theorem MQ {gs:List GP} (h:gs≠[]):gs.map eQ≠[]:=by simpa using h
theorem MP {gs:List GP} (h:∀g∈gs,jZ g):∀p∈gs.map eQ,ur p:=by
 intro p hp;simp only [iz] at hp;obtain ⟨g,hg,rfl⟩:=hp;exact T4 (h g hg)
theorem WS {g:GP} (h:jZ g) {L:LR} (hL:GK g.nm L):((5:Int),L.nm)∈iS:=by
 obtain ⟨_,i,hi,e⟩:=hL;rw [e];rcases h.1 with e | e<;>rw [e]<;>(have:i=0∨i=1∨i=2∨i=3:=by omega)<;>rcases this with rfl | rfl | rfl | rfl<;>decide
theorem aoF (q:Nat) (hq:330≤q) {gs:List GP} (g0:gs≠[]) (g1:gs.length≤2) (g2:∀g∈gs,jZ g) {K:nX.T→OR} (h:HS K Q) {c i:Nat} (hi:¬ i < gs.length) {a0:au cZ} {d:au ao} (hd:cQ d) {ay:List PC} (cK:ay.length≤19) (vx:∀p∈ay,gK p) :
  Wp (CD (T q) q (c+1) a0 d ((false,(gs.map eQ).map di),(true,[]),ay.map eD,()) (i:Int)) (J nX K Q):=by
 refine aC Z8 (dJ (bV (by show ¬ (i:Int) < ae ((gs.map eQ).map di).length;rw [bI];simp;omega)) ?_);refine aef (m:=q) (by omega) (MQ g0) (by simp;omega) (MP g2) hd fun p d' hp dq=>?_
 have e:ay.map eD++[[D.str [],D.sl (.im true) 3 [],D.sl (.im true) 6 [],D.sl (.im true) 10 []]].set 0 [D.str p.nm,D.sl (.im p.pb) 3 (p.pm.map eK),D.sl (.im p.tb) 6 (p.tm.map bA),D.sl (.im p.sb) 10 (p.ss.map cT)]=(ay++[p]).map eD:=by rw [eB];rfl
 dsimp only;rw [e];refine aF (gX (by simp;omega) (by omega)) (aF (zi (by simp)) (aF (by simp) (aA ?_)));rw [du,abQ];exact aE rfl (h gs (ay++[p]) g0 g1 g2 (by simp) (by simp;omega) (by intro x hx;rw [dC] at hx;rcases hx with hx | hx;exact vx x hx;simp at hx;subst hx;exact hp))
theorem SK (q:Nat) (hq:630≤q) {gs:List GP} (g0:gs≠[]) (g1:gs.length≤2) (g2:∀g∈gs,jZ g) {c i B:Nat} {g:GP} (hg:gs[i]? = some g) {a0:au cZ} {lb:Bool} {Ls:List LR} (PD:Ls.length≤g.M) (zm:∀L∈Ls,GK g.nm L) {K:nX.T→OR}
  (h:∀(d:au ao) (ay:List PC),cQ d→ay.length≤B+4→(∀p∈ay,gK p)→Wp (CD (T q) q c a0 d ((false,(gs.map eQ).map di),(true,[]),ay.map eD,()) ((i+1:Nat):Int)) (J nX K Q)) :
  ∀(e k:Nat) (d:au ao) (ay:List PC),Ls.length - k < e→k≤Ls.length→cQ d→ay.length≤B+k→(∀p∈ay,gK p)→B≤10→
   Wp (F3 (T q) q c e a0 d ((false,(gs.map eQ).map di),(true,[]),ay.map eD,()) (i:Int) lb (Ls.map mP) (k:Int)) (J nX K Q)
 | 0,k,d,ay,he,_,_,_,_,_=>by omega
 | e+1,k,d,ay,he,hk,hd,cK,vx,hB=>by
  have mY:=g2 g (ft hg);have h4:=mY.2.2.1;have kN:i < gs.length:=(cw.1 hg).1;refine aC akT (aj (fun r1=>?_) (fun r1=>?_))
  ·have af:k < Ls.length:=bN r1;refine aM Au (a:=eQ g) rfl (by rw [bS,hg];rfl) ?_;refine aM aco rfl (gE af) ?_;have ER:=T4 mY;refine aeh (m:=q) (L:=Ls[k]) (by omega) (MQ g0) (by simp;omega) (MP g2) ER.1 (by show k < ((List.range g.M).map bJ).length;simp;omega) ER.2.2.2 (gE af) (zm _ (bM af)).1 (WS mY (zm _ (bM af))) hd fun p d' hp dq=>?_
   refine aF (gX (by simp;omega) (by omega)) ?_;rw [wI k];have:=SK q hq g0 g1 g2 hg (lb:=lb) PD zm h e (k+1) d' (ay++[p]) (by omega) (by omega) dq (by simp;omega) (by intro x hx;rw [dC] at hx;rcases hx with hx | hx;exact vx x hx;simp at hx;subst hx;exact hp) hB;rw [eB] at this;exact this
  ·rw [wI i];exact h d ay hd (by omega) vx
theorem ab1 (q:Nat) (hq:630≤q) {gs:List GP} (g0:gs≠[]) (g1:gs.length≤2) (g2:∀g∈gs,jZ g) {a0:au cZ} {K:nX.T→OR} (h:HS K Q) :
  ∀(c i:Nat) (d:au ao) (ay:List PC),gs.length - i < c→i≤gs.length→cQ d→ay.length≤4 * i→(∀p∈ay,gK p)→
   Wp (CD (T q) q c a0 d ((false,(gs.map eQ).map di),(true,[]),ay.map eD,()) (i:Int)) (J nX K Q)
 | 0,i,d,ay,hc,_,_,_,_=>by omega
 | c+1,i,d,ay,hc,hi,hd,cK,vx=>by
  by_cases af:i < gs.length
  ·have hg:gs[i]? = some gs[i]:=gE af;have mY:=g2 _ (bM af);have h4:=mY.2.2.1;refine aC Z8 (fK (aY (by show (i:Int) < ae ((gs.map eQ).map di).length;rw [bI];simp;omega)) ?_);refine aM Au (a:=eQ gs[i]) rfl (by rw [bS,hg];rfl) ?_;show Wp (Bf _ gs[i].nm false (((List.range gs[i].M).map bJ).map fun s=>[D.str s]) false (gs[i].ps.map cP) _) _;rw [←G6];refine Ud (m:=q) (by omega) mY.2 (Ve mY) (Vd mY) fun lb Ls z err hl aQ=>?_
   exact SK q hq g0 g1 g2 (B:=4 * i) hg (lb:=lb) hl aQ (fun d' Sx dq ajR QF=>ab1 q hq g0 g1 g2 h c (i+1) d' Sx (by omega) (by omega) dq (by omega) QF) q 0 d ay (by omega) (by omega) hd (by omega) vx (by omega)
  ·exact aoF q (by omega) g0 g1 g2 h af hd (by omega) vx
theorem aoE (q:Nat) (hq:630≤q) {gs:List GP} (g0:gs≠[]) (g1:gs.length≤2) (g2:∀g∈gs,jZ g) {c i:Nat} {g:GP} (hg:gs[i]? = some g) {a0:au cZ} {lb:Bool} {Ls:List LR} (PD:Ls.length≤g.M) (zm:∀L∈Ls,GK g.nm L) {K:nX.T→OR} {d:au ao} (hd:cQ d)
  (h:∀(d:au ao) (ay:List PC),cQ d→ay.length≤4→(∀p∈ay,gK p)→Wp (CD (T q) q c a0 d ((false,(gs.map eQ).map di),(true,[]),ay.map eD,()) ((i+1:Nat):Int)) (J nX K Q))
  (h':Wp (FZ (T q) q c a0 d ((false,(gs.map eQ).map di),(true,[]),(true,[]),()) ((i+1:Nat):Int)) (J nX K Q)) :
  Wp (F0 (T q) q c q a0 d ((false,(gs.map eQ).map di),(true,[]),(true,[]),()) (i:Int) lb (Ls.map mP) 0) (J nX K Q):=by
 obtain ⟨r,hr⟩:=bm 1 q;have e0:F0 (T q) q c q=F0 (T q) q c (r+1):=by rw [←hr]
 have mY:=g2 g (ft hg);have h4:=mY.2.2.1;have kN:i < gs.length:=(cw.1 hg).1;rw [e0];refine aC akS (aj (fun r1=>?_) (fun r1=>?_))
 ·have af:0 < Ls.length:=bN r1;refine aM Au (a:=eQ g) rfl (by rw [bS,hg];rfl) ?_;refine aM aco (i:=0) rfl (gE af) ?_;have ER:=T4 mY;refine aeh (m:=q) (L:=Ls[0]) (i:=0) (by omega) (MQ g0) (by simp;omega) (MP g2) ER.1 (by show 0 < ((List.range g.M).map bJ).length;simp;omega) ER.2.2.2 (gE af) (zm _ (bM af)).1 (WS mY (zm _ (bM af))) hd fun p d' hp dq=>aF rfl ?_
  exact SK q hq g0 g1 g2 (B:=0) hg (lb:=lb) PD zm (fun d ay hd cK vx=>h d ay hd (by omega) vx) r 1 d' [p] (by omega) (by omega) dq (by simp) (by intro x hx;simp at hx;subst hx;exact hp) (by omega)
 ·rw [wI i];exact h'
theorem ab0 (q:Nat) (hq:630≤q) {gs:List GP} (g0:gs≠[]) (g1:gs.length≤2) (g2:∀g∈gs,jZ g) {a0:au cZ} {K:nX.T→OR} (h:HS K Q) :
  ∀(c i:Nat) (d:au ao),c≤q→gs.length - i < c→i≤gs.length→cQ d→
   Wp (FZ (T q) q c a0 d ((false,(gs.map eQ).map di),(true,[]),(true,[]),()) (i:Int)) (J nX K Q)
 | 0,i,d,_,hc,_,_=>by omega
 | c+1,i,d,E0,hc,hi,hd=>by
  by_cases af:i < gs.length
  ·have hg:gs[i]? = some gs[i]:=gE af;have mY:=g2 _ (bM af);have h4:=mY.2.2.1;refine aC Z7 (fK (aY (by show (i:Int) < ae ((gs.map eQ).map di).length;rw [bI];simp;omega)) ?_);refine aM Au (a:=eQ gs[i]) rfl (by rw [bS,hg];rfl) ?_;show Wp (Bf _ gs[i].nm false (((List.range gs[i].M).map bJ).map fun s=>[D.str s]) false (gs[i].ps.map cP) _) _;rw [←G6];refine Ud (m:=q) (by omega) mY.2 (Ve mY) (Vd mY) fun lb Ls z err hl aQ=>?_
   exact aoE q hq g0 g1 g2 hg (lb:=lb) hl aQ hd (fun d' Sx dq ajR QF=>ab1 q hq g0 g1 g2 h c (i+1) d' Sx (by omega) (by omega) dq (by omega) QF) (ab0 q hq g0 g1 g2 h c (i+1) d (by omega) (by omega) (by omega) hd)
  ·refine aC Z7 (dJ (bV (by show ¬ (i:Int) < ae ((gs.map eQ).map di).length;rw [bI];simp;omega)) ?_);refine aef (m:=q) (by omega) (MQ g0) (by simp;omega) (MP g2) hd fun p d' hp dq=>aF rfl (aA ?_)
   exact aE rfl (h gs [p] g0 g1 g2 (by simp) (by simp) (by intro x hx;simp at hx;subst hx;exact hp))
theorem aqN (hm:660≤m) {l:List Int} (hl:l.length * 8≤140737488355328) {b:Bool} {K:nX.T→OR} (h:HS K Q):Wp (V8 (T m) b (l.map bF) K) Q:=by
 obtain ⟨m,rfl⟩:=cE hm;refine bH agm ?_;refine aqy (m:=m) (by omega) hl fun d hd=>?_
 refine aqP (m:=m) (by omega) hd fun gs d' g0 g1 g2 dq=>?_
 exact ab0 m (by omega) g0 g1 g2 h m 0 d' (by omega) (by omega) (by omega) dq
end
end
section
open Go Go.ax QQ
def kM (k:Int):Bool:=k==1||k==2||k==4||k==7||k==8||k==9
structure uR (s:PS):Prop where
 k0:0≤s.kd∧s.kd≤10
 go:s.kd≠3→s.kd≠5→s.ws=[]
 ng:kM s.kd=false→s.nx = -1
 i2:s.kd=3→s.ws.length=2
 h1:s.kd=5→1≤s.ws.length∧∀w∈s.ws,(w.lb=[]∨gJ w.lb=true)∧(w.nm=[]∨gJ w.nm=true)
 n1:(s.kd=1∨s.kd=9∨s.kd=4∨s.kd=5∨s.kd=8)→gJ s.nm=true
 n2:(s.kd=4∨s.kd=5∨s.kd=8)→gJ s.pr=true
 n3:(s.kd=4∨s.kd=8)→gJ s.lb=true
 n4:(s.kd=6∨s.kd=7)→gJ s.pc=true
 n5:s.kd=8→∀c∈s.cs,gJ c.ro=true∧gJ c.pc=true
def br (s:PS):List Int:=if kM s.kd then [s.nx] else s.ws.map WR.nx
section
variable {m:Nat} {Q:V→List (List C)→Prop}
theorem gZ (hm:20≤m) {s:BB} {K:bj.T→OR} (h:Wp (K (gJ s,())) Q):Wp (fE (T m) s K) Q:=
 ke (x:=(gJ s,())) (Go.Proofs.YtfmpdgeiodnnfaaGreatDoor.vL m hm s) rfl h
theorem abL (q:Nat) (b:Bool) (l:List BB) (hl:l.length≤1000000) (s:BB) {K:iK.T→OR} (h1:Wp (K (-1,())) Q) (h2:∀i:Nat,i < l.length→Wp (K ((i:Int),())) Q):∀(c i:Nat),l.length - i < c→i≤l.length→
  Wp (J2 (T q) q c b (l.map aL) s (ae (l.map aL).length) (i:Int)) (J iK K Q)
 | 0,i,hc,_=>by omega
 | c+1,i,hc,hi=>by
  refine aC akx (aj (fun g1=>?_) (fun g1=>aA (aE rfl h1)));have af:i < l.length:=bN g1;refine aM ry rfl (gE af) (aj (fun g2=>aA (aE rfl (h2 i af))) (fun g2=>?_));rw [wI i];exact abL q b l hl s h1 h2 c (i+1) (by omega) (by omega)
theorem aei {N:Nat} (hm:N+5≤m) {b:Bool} {l:List BB} (hl:l.length≤N) (hN:N≤1000000) {s:BB} {K:iK.T→OR} (h1:Wp (K (-1,())) Q) (h2:∀i:Nat,i < l.length→Wp (K ((i:Int),())) Q):Wp (c152 (T m) b (l.map aL) s K) Q:=by
 obtain ⟨m,rfl⟩:=cE hm;exact bH af3 (abL m b l (by omega) s h1 h2 m 0 (by omega) (by omega))
theorem Ug {N:Nat} (hm:N+10≤m) {b:Bool} {l:List BB} (hl:l.length≤N) (hN:N≤1000000) {s:BB} {K:bj.T→OR} (h:∀b,Wp (K (b,())) Q):Wp (yQ (T m) b (l.map aL) s K) Q:=by
 obtain ⟨m,rfl⟩:=cE hm;refine bH afZ ?_;exact aei (m:=m) (N:=N) (by omega) hl hN (aA (aE rfl (h _))) (fun i hi=>aA (aE rfl (h _)))
theorem abu (q N:Nat) (hq:N+10≤q) (b:Bool) (l:List BB) (hl:l.length≤N) (hN:N≤1000000) {K:bj.T→OR} (h:∀b,Wp (K (b,())) Q):∀(c i:Nat),l.length - i < c→i≤l.length→
  Wp (FV (T q) q c b (l.map aL) (ae (l.map aL).length) (i:Int)) (J bj K Q)
 | 0,i,hc,_=>by omega
 | c+1,i,hc,hi=>by
  refine aC akw (aj (fun g1=>?_) (fun g1=>aA (aE rfl (h true))));have af:i < l.length:=bN g1;have eL:Wp (FV (T q) q c b (l.map aL) (ae (l.map aL).length) (ak ((i:Int)+1))) (J bj K Q):=by
   rw [wI i];exact abu q N hq b l hl hN h c (i+1) (by omega) (by omega)
  refine aM ry rfl (gE af) ?_;refine aei (m:=q) (N:=N) (by omega) hl hN (aj (fun _=>aA (aE rfl (h false))) (fun _=>eL)) (fun j hj=>aj (fun _=>aA (aE rfl (h false))) (fun _=>eL))
theorem M0 {N:Nat} (hm:N+20≤m) {b:Bool} {l:List BB} (hl:l.length≤N) (hN:N≤1000000) {K:bj.T→OR} (h:∀b,Wp (K (b,())) Q):Wp (uW (T m) b (l.map aL) K) Q:=by
 obtain ⟨m,rfl⟩:=cE hm;exact bH af2 (abu m N (by omega) b l hl hN h m 0 (by omega) (by omega))
def okW (w:WR):Prop:=(w.lb=[]∨gJ w.lb=true)∧(w.nm=[]∨gJ w.nm=true)
theorem aex (q:Nat) (hq:160≤q) (wb:Bool) (ws:List WR) (hl:ws.length≤100) {K:bj.T→OR} (h:∀b,(b=true→∀w∈ws,okW w)→Wp (K (b,())) Q) {a1:Bool}:∀(c i:Nat) (o:List BB),ws.length - i < c→i≤ws.length→o.length=i→(∀(j:Nat) w,j < i→ws[j]? = some w→okW w)→
  Wp (ly (T q) q c (o.map aL) wb (ws.map cW) (ae (ws.map cW).length) (i:Int)) (J bj K Q)
 | 0,i,o,hc,_,_,_=>by omega
 | c+1,i,o,hc,hi,ho,aQ=>by
  have fl:Wp (rF) (J bj K Q):=aA (aE rfl (h false (fun h0=>by cases h0)));refine aC ana (aj (fun g1=>?_) (fun g1=>?_))
  ·have af:i < ws.length:=bN g1;have hg:ws[i]? = some ws[i]:=gE af;have eL:okW ws[i]→Wp (gd ((o.map aL).length==(o.map aL).length&&true&&decide (((o.map aL).length+1) * 16≤140737488355328)) (ly (T q) q c (o.map aL++whole ([[D.str []]].set 0 [D.str ws[i].lb])) wb (ws.map cW) (ae (ws.map cW).length) (ak ((i:Int)+1)))) (J bj K Q):=by
    intro hw;refine aF (gX (by simp;omega) (by omega)) ?_;rw [wI i,du]
    have := aex q hq wb ws hl h (a1 := a1) c (i + 1) (o ++ [ws[i].lb]) (by omega) (by omega) (by simp; omega) (by
      intro j w hj pD
      by_cases Fc : j < i
      · exact aQ j w Fc pD
      · rw [show j = i by omega, hg] at pD; cases pD; exact hw)
    rw [eB] at this;exact this
   refine aM At rfl hg ?_;dsimp only;have e1:∀{x:BB},(x==[])=true→x=[]:=fun h=>by simpa using h
   have e2:∀{x:BB},(!x==[])=false→x=[]:=fun h=>by simpa using h
   have e3:∀{b:Bool},(!b)=false→b=true:=fun h=>by simpa using h
   refine aj (fun g2=>aj (fun _=>fl) (fun g3=>aj (fun g4=>?_) (fun g4=>aj (fun g5=>?_) (fun g5=>eL ⟨.inl (e1 g2),.inl (e2 g5)⟩)))) (fun g2=>aj (fun g4=>?_) (fun g4=>aj (fun g5=>?_) (fun g5=>eL ⟨.inl (e2 g4),.inl (e2 g5)⟩)))
   ·refine gZ (m:=q) (by omega) (aj (fun _=>fl) (fun g5=>aj (fun g6=>gZ (m:=q) (by omega) (aj (fun _=>fl) (fun g7=>eL ⟨.inr (e3 g5),.inr (e3 g7)⟩))) (fun g6=>eL ⟨.inr (e3 g5),.inl (e2 g6)⟩)))
   ·exact gZ (m:=q) (by omega) (aj (fun _=>fl) (fun g7=>eL ⟨.inl (e1 g2),.inr (e3 g7)⟩))
   ·refine gZ (m:=q) (by omega) (aj (fun _=>fl) (fun g5=>aj (fun g6=>gZ (m:=q) (by omega) (aj (fun _=>fl) (fun g7=>eL ⟨.inr (e3 g5),.inr (e3 g7)⟩))) (fun g6=>eL ⟨.inr (e3 g5),.inl (e2 g6)⟩)))
   ·exact gZ (m:=q) (by omega) (aj (fun _=>fl) (fun g7=>eL ⟨.inl (e2 g4),.inr (e3 g7)⟩))
  ·have eV:i=ws.length:=by
    have g2:¬ (i:Int) < ae (ws.map cW).length:=lg g1;rw [bI,cy] at g2;omega
   refine aF (by simp) ?_;rw [du,qz];refine M0 (m:=q) (N:=100) (by omega) (by omega) (by omega) fun b=>aA (aE rfl (h b (fun _ w hw=>?_)))
   obtain ⟨j,hj,Qq⟩:=DQ hw;exact aQ j w (by omega) (by rw [gE hj,Qq])
end
end
section
open Go Go.ax QQ
section
variable {m:Nat} {Q:V→List (List C)→Prop}
theorem aet (hm:170≤m) {kd:Int} {x1 x2 x3 x4:BB} {x5:Int} {x6:Bool} {x7:RR} {x8:Bool} {x9:RR} {wb:Bool} {ws:List WR} (hl:ws.length≤100) {ec:Int} {K:bj.T→OR}
  (h:∀b,(b=true→(kd=3→ws.length=2)∧(kd≠3→1≤ws.length∧∀w∈ws,okW w))→Wp (K (b,())) Q):Wp (c154 (T m) kd x1 x2 x3 x4 x5 x6 x7 x8 x9 wb (ws.map cW) ec K) Q:=by
 obtain ⟨m,rfl⟩:=cE hm;have fl:Wp (rF) (J bj K Q):=aA (aE rfl (h false (fun h0=>by cases h0)));refine bH ahu (aj (fun g1=>aj (fun g2=>?_) (fun _=>fl)) (fun g1=>?_))
 ·have hk:kd=3:=by simpa using g1
  have h2:ws.length=2:=by
   have g3:(ae (ws.map cW).length==2)=true:=g2;rw [bI,cy] at g3;have:=eU.1 g3;omega
  have g0:(ws.map cW)[0]? = some (cW (ws[0]'(by omega))):=by rw [bS,gE (by omega)];rfl
  have px:(ws.map cW)[1]? = some (cW (ws[1]'(by omega))):=by rw [bS,gE (by omega)];rfl
  have l8:∀b,Wp (some (.one (bC b),[])) (J bj K Q):=fun b=>aA (aE rfl (h b (fun _=>⟨fun _=>h2,fun h0=>absurd hk h0⟩)))
  refine aC (yc (r:=cW (ws[0]'(by omega))) (v:=((ws[0]'(by omega)).lb,())) g0 (by simp [cW]) rfl rfl) (aj (fun _=>?_) (fun _=>fl));refine aC (yc (r:=cW (ws[0]'(by omega))) (v:=((ws[0]'(by omega)).nm,())) g0 (by simp [cW]) rfl rfl) (aj (fun _=>?_) (fun _=>fl));refine aC (yc (r:=cW (ws[1]'(by omega))) (v:=((ws[1]'(by omega)).lb,())) px (by simp [cW]) rfl rfl) (aj (fun _=>?_) (fun _=>fl));exact aC (yc (r:=cW (ws[1]'(by omega))) (v:=((ws[1]'(by omega)).nm,())) px (by simp [cW]) rfl rfl) (l8 _)
 ·have hk:kd≠3:=by simpa using g1
  refine aj (fun _=>fl) (fun g2=>aj (fun _=>fl) (fun g3=>?_));have h1:1≤ws.length:=by
   have g4:¬ ae (ws.map cW).length < 1:=lg g2;rw [bI,cy] at g4;omega
  obtain ⟨r,hr⟩:=bm 1 m;have e1:Lp (T m) m m=Lp (T m) m (r+1):=by rw [←hr]
  have e0:Lo (T m) m m=Lo (T m) m (r+1):=by rw [←hr]
  rw [e1];refine aC anb ?_;rw [e0];refine aC am' (fK (aY (by show (0:Int) < ae (ws.map cW).length;rw [bI,cy];omega)) ?_);have eL:okW (ws[0]'(by omega))→Wp (gd (true&&true&&true) (ly (T m) m r [[.str (ws[0]'(by omega)).lb]] wb (ws.map cW) (ae (ws.map cW).length) (ak (0+1)))) (J bj K Q):=by
   intro hw;refine aF rfl ?_
   exact aex m (by omega) wb ws hl (fun b hb => h b (fun h0 => ⟨fun h0' => absurd h0' hk, fun _ => ⟨h1, hb h0⟩⟩)) (a1 := true) r 1 [(ws[0]'(by omega)).lb] (by omega) (by omega) rfl (by
     intro j w hj pD
     rw [show j = 0 by omega, gE (by omega)] at pD; cases pD; exact hw)
  refine aM At (i:=0) rfl (gE (show 0 < ws.length by omega)) ?_;dsimp only;have e1:∀{x:BB},(x==[])=true→x=[]:=fun h=>by simpa using h
  have e2:∀{x:BB},(!x==[])=false→x=[]:=fun h=>by simpa using h
  have e3:∀{b:Bool},(!b)=false→b=true:=fun h=>by simpa using h
  refine aj (fun g2=>aj (fun _=>fl) (fun g3=>aj (fun g4=>?_) (fun g4=>aj (fun g5=>?_) (fun g5=>eL ⟨.inl (e1 g2),.inl (e2 g5)⟩)))) (fun g2=>aj (fun g4=>?_) (fun g4=>aj (fun g5=>?_) (fun g5=>eL ⟨.inl (e2 g4),.inl (e2 g5)⟩)))
  ·refine gZ (m:=m) (by omega) (aj (fun _=>fl) (fun g5=>aj (fun g6=>gZ (m:=m) (by omega) (aj (fun _=>fl) (fun g7=>eL ⟨.inr (e3 g5),.inr (e3 g7)⟩))) (fun g6=>eL ⟨.inr (e3 g5),.inl (e2 g6)⟩)))
  ·exact gZ (m:=m) (by omega) (aj (fun _=>fl) (fun g7=>eL ⟨.inl (e1 g2),.inr (e3 g7)⟩))
  ·refine gZ (m:=m) (by omega) (aj (fun _=>fl) (fun g5=>aj (fun g6=>gZ (m:=m) (by omega) (aj (fun _=>fl) (fun g7=>eL ⟨.inr (e3 g5),.inr (e3 g7)⟩))) (fun g6=>eL ⟨.inr (e3 g5),.inl (e2 g6)⟩)))
  ·exact gZ (m:=m) (by omega) (aj (fun _=>fl) (fun g7=>eL ⟨.inl (e2 g4),.inr (e3 g7)⟩))
theorem aee (hm:1≤m) {k:Int} {K:bj.T→OR} (h:Wp (K (kM k,())) Q):Wp (N6 (T m) k K) Q:=by
 obtain ⟨m,rfl⟩:=cE hm;refine bH ahk ?_;have l8:∀b,kM k=b→Wp (some (.one (bC b),[])) (J bj K Q):=fun b hb=>aA (aE rfl (by rw [←hb];exact h))
 refine aj (fun g1=>l8 true (by simp only [kM,g1];rfl)) (fun g1=>?_);refine aj (fun g2=>l8 true (by simp only [kM,g1,g2];rfl)) (fun g2=>?_);refine aj (fun g3=>l8 true (by simp only [kM,g1,g2,g3];rfl)) (fun g3=>?_);refine aj (fun g4=>l8 true (by simp only [kM,g1,g2,g3,g4];rfl)) (fun g4=>?_);refine aj (fun g5=>l8 true (by simp only [kM,g1,g2,g3,g4,g5];rfl)) (fun g5=>?_);exact aj (fun g6=>l8 true (by simp only [kM,g1,g2,g3,g4,g5,g6];rfl)) (fun g6=>l8 false (by simp only [kM,g1,g2,g3,g4,g5,g6];rfl))
theorem aqS (hm:5≤m) {kd:Int} {x1 x2 x3 x4:BB} {x5:Int} {x6:Bool} {x7:RR} {x8:Bool} {x9:RR} {wb:Bool} {ws:RR} {nx:Int} {K:G8.T→OR}
  (h:∀y1 y2 y3 y4 y5 y6 y8 b e8 LH,(kd≠3→kd≠5→e8=ws)→(kM kd=false→LH=nx)→Wp (K ((kd,y1,y2,y3,y4,y5,y6,y8,(b,e8),LH,()),())) Q):Wp (Wh (T m) kd x1 x2 x3 x4 x5 x6 x7 x8 x9 wb ws nx K) Q:=by
 obtain ⟨m,rfl⟩:=bm 2 m;refine bH ahf ?_;have rest:∀(y1 y2 y3 y4:BB) (y5:Int) (y6 y8:Bool×RR) (b:Bool) (e8:RR) (a1:au eA),(kd≠3→kd≠5→e8=ws)→Wp (ri (T (m+1)) (m+1) (m+1) (kd,y1,y2,y3,y4,y5,y6,y8,(b,e8),nx,()) a1) (J G8 K Q):=by
  intro y1 y2 y3 y4 y5 y6 y8 b e8 a1 hw;refine aC amt (aee (m:=m+1) (by omega) (aj (fun g=>aA ?_) (fun g=>aA ?_)))
  ·exact aE rfl (h y1 y2 y3 y4 y5 y6 y8 b e8 (-1) hw (fun h0=>by have g':kM kd=true:=g;rw [h0] at g';cases g'))
  ·exact aE rfl (h y1 y2 y3 y4 y5 y6 y8 b e8 nx hw (fun _=>rfl))
 have e:∀{z:Int},(kd==z)=true→kd=z:=fun h=>by simpa using h
 exact aj (fun _=>rest _ _ _ _ _ _ _ _ _ _ (fun _ _=>rfl)) (fun _=>aj (fun _=>rest _ _ _ _ _ _ _ _ _ _ (fun _ _=>rfl)) (fun _=>aj (fun g=>rest _ _ _ _ _ _ _ _ _ _ (fun h0 _=>absurd (e g) h0)) (fun _=>aj (fun _=>rest _ _ _ _ _ _ _ _ _ _ (fun _ _=>rfl)) (fun _=>aj (fun g=>rest _ _ _ _ _ _ _ _ _ _ (fun _ h0=>absurd (e g) h0)) (fun _=>aj (fun _=>rest _ _ _ _ _ _ _ _ _ _ (fun _ _=>rfl)) (fun _=>aj (fun _=>rest _ _ _ _ _ _ _ _ _ _ (fun _ _=>rfl)) (fun _=>aj (fun _=>rest _ _ _ _ _ _ _ _ _ _ (fun _ _=>rfl)) (fun _=>aj (fun _=>rest _ _ _ _ _ _ _ _ _ _ (fun _ _=>rfl)) (fun _=>rest _ _ _ _ _ _ _ _ _ _ (fun _ _=>rfl))))))))))
theorem WT (q:Nat) (hq:100≤q) (cb:Bool) (cs:List CR) (hl:cs.length≤100) {K:bj.T→OR} (h:∀b,(b=true→∀c∈cs,gJ c.ro=true∧gJ c.pc=true)→Wp (K (b,())) Q):∀(c i:Nat),cs.length - i < c→i≤cs.length→(∀(j:Nat) x,j < i→cs[j]? = some x→gJ x.ro=true∧gJ x.pc=true)→
  Wp (K4 (T q) q c cb (cs.map eC) (ae (cs.map eC).length) (i:Int)) (J bj K Q)
 | 0,i,hc,_,_=>by omega
 | c+1,i,hc,hi,aQ=>by
  have fl:Wp (rF) (J bj K Q):=aA (aE rfl (h false (fun h0=>by cases h0)));have e3:∀{b:Bool},(!b)=false→b=true:=fun h=>by simpa using h
  refine aC amB (aj (fun g1=>?_) (fun g1=>?_))
  ·have af:i < cs.length:=bN g1;have hg:cs[i]? = some cs[i]:=gE af;refine aM (enc:=eC) (f:=fun c=>(c.ro,c.pc,(c.gt,c.ag.map bF),())) (fun a=>⟨by simp [eC],rfl⟩) rfl hg ?_;refine gZ (m:=q) (by omega) (aj (fun _=>fl) (fun g2=>gZ (m:=q) (by omega) (aj (fun _=>fl) (fun g3=>aj (fun _=>fl) (fun _=>?_)))));rw [wI i];refine WT q hq cb cs hl h c (i+1) (by omega) (by omega) ?_;intro j w hj pD;by_cases Fc:j < i
   ·exact aQ j w Fc pD
   ·rw [show j=i by omega,hg] at pD;cases pD;exact ⟨e3 g2,e3 g3⟩
  ·have eV:i=cs.length:=by
    have g2:¬ (i:Int) < ae (cs.map eC).length:=lg g1;rw [bI,cy] at g2;omega
   refine aA (aE rfl (h true (fun _ w hw=>?_)));obtain ⟨j,hj,Qq⟩:=DQ hw;exact aQ j w (by omega) (by rw [gE hj,Qq])
end
end
section
open Go Go.ax QQ
section
variable {m:Nat} {Q:V→List (List C)→Prop}
def tS (s:PS):au eA:=(s.kd,s.nm,s.pr,s.lb,s.pc,s.tm,(s.gt,s.ag.map bF),(s.ct,s.cs.map eC),(s.wb,s.ws.map cW),s.nx,())
structure Nu (s:PS):Prop where
 k0:0≤s.kd∧s.kd≤10
 go:s.kd≠3→s.kd≠5→s.ws=[]
 ng:kM s.kd=false→s.nx = -1
theorem Nu.mk' {s:PS} (h:Nu s) (i2:s.kd=3→s.ws.length=2) (h1:s.kd=5→1≤s.ws.length∧∀w∈s.ws,okW w) (n1:(s.kd=1∨s.kd=9∨s.kd=4∨s.kd=5∨s.kd=8)→gJ s.nm=true)
  (n2:(s.kd=4∨s.kd=5∨s.kd=8)→gJ s.pr=true) (n3:(s.kd=4∨s.kd=8)→gJ s.lb=true) (n4:(s.kd=6∨s.kd=7)→gJ s.pc=true) (n5:s.kd=8→∀c∈s.cs,gJ c.ro=true∧gJ c.pc=true):uR s:=
 ⟨h.k0,h.go,h.ng,i2,h1,n1,n2,n3,n4,n5⟩
theorem anS (q:Nat) (hq:180≤q) {s:PS} (ho:mC s) (h0:Nu s) (a1:au eA) {K:bj.T→OR} (h:∀b,(b=true→uR s)→Wp (K (b,())) Q) :
  Wp (Gi (T q) q q (tS s) a1) (J bj K Q):=by
 obtain ⟨r,hr⟩:=bm 1 q;have e2:Gi (T q) q q=Gi (T q) q (r+1):=by rw [←hr]
 have e1:K5 (T q) q q=K5 (T q) q (r+1):=by rw [←hr]
 have fl:Wp (rF) (J bj K Q):=aA (aE rfl (h false (fun h0=>by cases h0)));have l8:∀b,(b=true→uR s)→Wp (some (.one (bC b),[])) (J bj K Q):=fun b hb=>aA (aE rfl (h b hb))
 have eq:∀{z:Int},(s.kd==z)=true→s.kd=z:=fun h=>by simpa using h
 have e3:∀{b:Bool},(!b)=false→b=true:=fun h=>by simpa using h
 have ne:∀{z:Int},(s.kd==z)=false→s.kd≠z:=fun h=>by simpa using h
 rw [e2];refine aC amD ?_;refine aj (fun g=>gZ (m:=q) (by omega) (l8 _ fun hb=>?_)) (fun g1=>?_)
 ·have:=eq g;exact h0.mk' (fun _=>by omega) (fun _=>by omega) (fun _=>hb) (fun _=>by omega) (fun _=>by omega) (fun _=>by omega) (fun _=>by omega)
 refine aj (fun g=>gZ (m:=q) (by omega) (l8 _ fun hb=>?_)) (fun g2=>?_)
 ·have:=eq g;exact h0.mk' (fun _=>by omega) (fun _=>by omega) (fun _=>hb) (fun _=>by omega) (fun _=>by omega) (fun _=>by omega) (fun _=>by omega)
 refine aj (fun g=>aet (m:=q) (by omega) ho.2.2.2 fun b hb=>l8 _ fun sx=>?_) (fun g3=>?_)
 ·have:=eq g;exact h0.mk' (hb sx).1 (fun _=>by omega) (fun _=>by omega) (fun _=>by omega) (fun _=>by omega) (fun _=>by omega) (fun _=>by omega)
 refine aj (fun g=>gZ (m:=q) (by omega) (aj (fun b1=>gZ (m:=q) (by omega) (aj (fun b2=>gZ (m:=q) (by omega) (l8 _ fun b3=>?_)) (fun _=>fl))) (fun _=>fl))) (fun g4=>?_)
 ·have:=eq g;exact h0.mk' (fun _=>by omega) (fun _=>by omega) (fun _=>b1) (fun _=>b2) (fun _=>b3) (fun _=>by omega) (fun _=>by omega)
 refine aj (fun g=>gZ (m:=q) (by omega) (aj (fun b1=>gZ (m:=q) (by omega) (aj (fun b2=>aet (m:=q) (by omega) ho.2.2.2 fun b hb=>l8 _ fun sx=>?_) (fun _=>fl))) (fun _=>fl))) (fun g5=>?_)
 ·have:=eq g;exact h0.mk' (fun _=>by omega) (fun _=>(hb sx).2 (by show s.kd≠3;omega)) (fun _=>b1) (fun _=>b2) (fun _=>by omega) (fun _=>by omega) (fun _=>by omega)
 refine aj (fun g=>gZ (m:=q) (by omega) (aj (fun b1=>l8 _ fun _=>?_) (fun _=>fl))) (fun g6=>?_)
 ·have:=eq g;exact h0.mk' (fun _=>by omega) (fun _=>by omega) (fun _=>by omega) (fun _=>by omega) (fun _=>by omega) (fun _=>b1) (fun _=>by omega)
 refine aj (fun g=>gZ (m:=q) (by omega) (aj (fun b1=>l8 _ fun _=>?_) (fun _=>fl))) (fun g7=>?_)
 ·have:=eq g;exact h0.mk' (fun _=>by omega) (fun _=>by omega) (fun _=>by omega) (fun _=>by omega) (fun _=>by omega) (fun _=>b1) (fun _=>by omega)
 refine aj (fun g=>gZ (m:=q) (by omega) (aj (fun _=>fl) (fun b1=>gZ (m:=q) (by omega) (aj (fun _=>fl) (fun b2=>gZ (m:=q) (by omega) (aj (fun _=>fl) (fun b3=>aj (fun _=>fl) (fun _=>aj (fun _=>fl) (fun _=>?_))))))))) (fun g8=>l8 true fun _=>?_)
 ·have:=eq g;rw [e1];refine aC amC ?_;refine WT q (by omega) s.ct s.cs ho.2.1 (fun b hb=>h b fun sx=>?_) q 0 (by have:=ho.2.1;omega) (by omega) (fun j x hj=>by omega);exact h0.mk' (fun _=>by omega) (fun _=>by omega) (fun _=>e3 b1) (fun _=>e3 b3) (fun _=>e3 b2) (fun _=>by omega) (fun _=>hb sx)
 ·have:=ne g1;have:=ne g2;have:=ne g3;have:=ne g4;have:=ne g5;have:=ne g6;have:=ne g7;have:=ne g8;exact h0.mk' (fun _=>by omega) (fun _=>by omega) (fun _=>by omega) (fun _=>by omega) (fun _=>by omega) (fun _=>by omega) (fun _=>by omega)
theorem aqJ (hm:190≤m) {s:PS} (ho:mC s) {K:bj.T→OR} (h:∀b,(b=true→uR s)→Wp (K (b,())) Q) :
  Wp (WL (T m) s.kd s.nm s.pr s.lb s.pc s.tm s.gt (s.ag.map bF) s.ct (s.cs.map eC) s.wb (s.ws.map cW) s.nx K) Q:=by
 obtain ⟨m,rfl⟩:=cE hm;have fl:Wp (rF) (J bj K Q):=aA (aE rfl (h false (fun h0=>by cases h0)));refine bH ahm (aj (fun _=>fl) (fun k1=>aj (fun _=>fl) (fun k2=>?_)));obtain ⟨r,hr⟩:=bm 1 m;have e3:K6 (T m) m m=K6 (T m) m (r+1):=by rw [←hr]
 rw [e3];refine aC amE ?_;refine aqS (m:=m) (by omega) fun y1 y2 y3 y4 y5 y6 y8 b e8 LH hw hn=>?_
 refine aj (fun _=>fl) (fun _=>aj (fun _=>fl) (fun _=>aj (fun _=>fl) (fun _=>aj (fun _=>fl) (fun _=>aj (fun _=>fl) (fun _=>aj (fun _=>fl) (fun _=>aj (fun _=>fl) (fun _=>aj (fun _=>fl) (fun f8=>aj (fun _=>fl) (fun f9=>?_)))))))));refine anS m (by omega) ho ⟨⟨?_,?_⟩,fun h3 h5=>?_,fun hg=>?_⟩ _ h
 ·have:¬ s.kd < 0:=lg k1;omega
 ·have:¬ s.kd > 10:=lg k2;omega
 ·have f:¬ ae e8.length > 0:=lg f8;rw [hw h3 h5,bI,cy] at f;exact pW.1 (by omega)
 ·have f:(LH != -1)=false:=f9;rw [hn hg] at f;exact U7.1 f
theorem abf (q:Nat) (wb:Bool) (ws:List WR) (hl:ws.length≤100) {K:df.T→OR} (h:∀b,Wp (K ((b,(ws.map WR.nx).map bF),())) Q):∀(c i:Nat),ws.length - i < c→i≤ws.length→
  Wp (K8 (T q) q c (((ws.map WR.nx).take i).map bF) wb (ws.map cW) (ae (ws.map cW).length) (i:Int)) (J df K Q)
 | 0,i,hc,_=>by omega
 | c+1,i,hc,hi=>by
  refine aC amG (aj (fun g1=>?_) (fun g1=>?_))
  ·have af:i < ws.length:=bN g1;have hg:ws[i]? = some ws[i]:=gE af;refine aM At rfl hg (aF (gX (by simp;omega) (by omega)) ?_);rw [wI i,du];have:=abf q wb ws hl h c (i+1) (by omega) (by omega);rw [uM,show (ws.map WR.nx)[i]?.toList=[ws[i].nx] by rw [bS,hg];rfl,eB] at this;exact this
  ·have eV:i=ws.length:=by
    have g2:¬ (i:Int) < ae (ws.map cW).length:=lg g1;rw [bI,cy] at g2;omega
   refine aF (by simp) ?_;rw [du,Mc,Nj (by simp;omega)];exact aA (aE rfl (h false))
theorem Uj (hm:190≤m) {s:PS} (ho:mC s) {K:df.T→OR} (h:∀b,Wp (K ((b,(br s).map bF),())) Q) :
  Wp (Bh (T m) s.kd s.nm s.pr s.lb s.pc s.tm s.gt (s.ag.map bF) s.ct (s.cs.map eC) s.wb (s.ws.map cW) s.nx K) Q:=by
 obtain ⟨m,rfl⟩:=cE hm;have hl:=ho.2.2.2;refine bH ahn (aee (m:=m) (by omega) (aj (fun g=>aA ?_) (fun g=>?_)))
 ·have:=h false;unfold br at this;rw [aJ (show kM s.kd=true from g)] at this;exact aE rfl this
 ·unfold br at h;rw [aB (by rw [show kM s.kd=false from g];simp)] at h;obtain ⟨r,hr⟩:=bm 1 m;have e0:K7 (T m) m m=K7 (T m) m (r+1):=by rw [←hr]
  rw [e0];refine aC amF (aj (fun g1=>?_) (fun g1=>?_))
  ·have af:0 < s.ws.length:=bN g1;have hg:s.ws[0]? = some s.ws[0]:=gE af;refine aM At (i:=0) rfl hg (aF rfl ?_);have:=abf m s.wb s.ws hl h r 1 (by omega) (by omega);rw [uM,show (s.ws.map WR.nx)[0]?.toList=[s.ws[0].nx] by rw [bS,hg];rfl] at this;exact this
  ·have:s.ws=[]:=by
    have g2:¬ (0:Int) < ae (s.ws.map cW).length:=lg g1;rw [bI,cy] at g2;exact pW.1 (by omega)
   have:=h true;rw [‹s.ws=[]›] at this;exact aA (aE rfl this)
end
end
section
open Go Go.ax QQ
theorem an0 (l:List Int):lS (l.map bF)=true:=by
 cases l with
 | nil=>rfl
 | cons a t=>simp [lS,tj,xD,bF]
theorem MU (l:List Int) (n:Nat) (b:Bool):fT n (l.map bF) b=true:=by
 unfold fT;rw [an0];rfl
section
variable {m:Nat} {Q:V→List (List C)→Prop}
def ND (K:df.T→OR) (Q:V→List (List C)→Prop):Prop:=∀b (l:List Int),l.length≤20000→Wp (K ((b,l.map bF),())) Q
theorem MJ (q:Nat) (cb:Bool) (cs:List CR) (hl:cs.length≤100) (hc:∀c∈cs,c.ag.length≤100) {K:df.T→OR} (h:ND K Q):∀(c i:Nat) (o:List Int),cs.length - i < c→i≤cs.length→o.length≤101+100 * i→
  Wp (Gm (T q) q c (o.map bF) cb (cs.map eC) (ae (cs.map eC).length) (i:Int)) (J df K Q)
 | 0,i,o,hc,_,_=>by omega
 | c+1,i,o,c7,hi,ho=>by
  refine aC am5 (aj (fun g1=>?_) (fun g1=>?_))
  ·have af:i < cs.length:=bN g1;have ve:=hc _ (bM af);refine aM (enc:=eC) (f:=fun c=>(c.ro,c.pc,(c.gt,c.ag.map bF),())) (fun a=>⟨by simp [eC],rfl⟩) rfl (gE af) (aF ?_ ?_)
   ·dsimp only;rw [MU];simp;omega
   ·rw [wI i];dsimp only;rw [←eB];exact MJ q cb cs hl hc h c (i+1) _ (by omega) (by omega) (by simp;omega)
  ·refine aF (by simp) ?_;rw [du,Mc];exact aA (aE rfl (h false o (by omega)))
theorem adJ (q:Nat) (cb:Bool) (cs:List CR) (hl:cs.length≤100) (hc:∀c∈cs,c.ag.length≤100) {K:df.T→OR} (h:ND K Q):∀(c i:Nat),cs.length - i < c→i≤cs.length→
  Wp (Lm (T q) q c true [] cb (cs.map eC) (ae (cs.map eC).length) (i:Int)) (J df K Q)
 | 0,i,c7,_=>by omega
 | c+1,i,c7,hi=>by
  refine aC am6 (aj (fun g1=>?_) (fun g1=>aA (aE rfl (h true [] (by simp)))));have af:i < cs.length:=bN g1;have ve:=hc _ (bM af);refine aM (enc:=eC) (f:=fun c=>(c.ro,c.pc,(c.gt,c.ag.map bF),())) (fun a=>⟨by simp [eC],rfl⟩) rfl (gE af) (aF ?_ ?_)
  ·dsimp only;rw [MU];simp;omega
  ·rw [wI i];refine aj (fun g2=>?_) (fun g2=>?_)
   ·have e:cs[i].ag.map bF=[]:=by simpa using g2
    dsimp only;rw [e];exact adJ q cb cs hl hc h c (i+1) (by omega) (by omega)
   ·exact MJ q cb cs hl hc h c (i+1) _ (by omega) (by omega) (by omega)
theorem aep (hm:210≤m) {s:PS} (ho:mC s) {K:df.T→OR} (h:ND K Q) :
  Wp (Oj (T m) s.kd s.nm s.pr s.lb s.pc s.tm s.gt (s.ag.map bF) s.ct (s.cs.map eC) s.wb (s.ws.map cW) s.nx K) Q:=by
 obtain ⟨m,rfl⟩:=cE hm;obtain ⟨r,hr⟩:=bm 1 m;have e20:xH (T m) m m=xH (T m) m (r+1):=by rw [←hr]
 have e21:CV (T m) m m=CV (T m) m (r+1):=by rw [←hr]
 have Xq:Gn (T m) m m=Gn (T m) m (r+1):=by rw [←hr]
 have e11:Ln (T m) m m=Ln (T m) m (r+1):=by rw [←hr]
 have ve:=ho.1;have aS:=ho.2.1;have one:Wp (xH (T m) m m (tS s) ([s.tm].map bF)) (J df K Q):=by
  rw [e20];refine aC am8 (aF ?_ ?_)
  ·show (fT 8 (s.ag.map bF) _&&true&&true&&_&&true&&decide ((([s.tm].map bF).length+(s.ag.map bF).length) * 8≤_))=true;rw [MU];simp;omega
  ·rw [Xq];refine aC aat ?_;have:=MJ m s.ct s.cs aS ho.2.2.1 h m 0 ([s.tm]++s.ag) (by omega) (by omega) (by simp;omega);rw [eB] at this;exact this
 have two:Wp (CV (T m) m m (tS s) true []) (J df K Q):=by
  rw [e21];refine aC am9 (aF ?_ (aj (fun g=>?_) (fun g=>?_)))
  ·show (fT 8 (s.ag.map bF) _&&(true&&true&&decide ((s.ag.map bF).length * 8≤_)))=true;rw [MU];simp;omega
  ·have e:s.ag.map bF=[]:=by
    have:(s.ag.map bF).isEmpty=true:=g;simpa using this
   rw [e11];refine aC am7 ?_;have:=adJ m s.ct s.cs aS ho.2.2.1 h m 0 (by omega) (by omega);rw [←e] at this;exact this
  ·rw [Xq];refine aC aat ?_;exact MJ m s.ct s.cs aS ho.2.2.1 h m 0 s.ag (by omega) (by omega) (by omega)
 exact bH ahs (aj (fun _=>one) (fun _=>aj (fun _=>one) (fun _=>aj (fun _=>one) (fun _=>aj (fun _=>aj (fun _=>one) (fun _=>two)) (fun _=>two)))))
def iW (r:RR):au [.tg 1]:=(nq r,())
def tB (b:Bool) (tm:List TM):au [.tg 6]:=((.im b,tm.map bA),())
theorem adS (hm:1≤m) {x1:au nn} {x2:au [.tg 6]} {x3:au [.tg 1]} {K:qH.T→OR} (h:Wp (K ((),((),()),x2,x3,())) Q):Wp (aH qH ((T m) 155 [(.one (iC (-1))),pE,(.one (.ptr (.e 1) 0 0)),(.one (.ptr (.e 2) 0 0))] [(bx nn x1),(bx [.tg 6] x2),(bx [.tg 1] x3)]) K) Q:=by
 obtain ⟨m,rfl⟩:=cE hm;exact bH OX (fK rfl (aA (aE rfl h)))
theorem abF {o:List Nat} (h:o.length≤1000):((iW (o.map aU)).1.2.length==(iW (o.map aU)).1.2.length&&true&&decide (((iW (o.map aU)).1.2.length+1) * 8≤140737488355328))=true:=by
 have e:(iW (o.map aU)).1.2.length=o.length:=by cases o<;>simp [iW,nq]
 rw [e];exact gX (by omega) (by omega)
theorem Vx {o:List Nat} {Z:Tag→OR} (hX:o=[]→Wp (Z (.im true)) Q) (hY:o≠[]→Wp (Z .own) Q):Wp (zZ (nq (o.map aU)).1 Z) Q:=by
 cases o with
 | nil=>exact eZ (hX rfl)
 | cons a t=>exact jb (hY (by simp))
theorem aqd (hm:2≤m) {b:Bool} {tm:List TM} {t:TM} {i:Nat} (hi:tm[i]? = some t) {o:List Nat} (ho:o.length≤10) {x1:au nn} {K:qH.T→OR}
  (hl:∀{K':qH.T→OR} {Q':V→List (List C)→Prop} {y1:au nn},(∀(o':List Nat),(∀x∈o',x∈o∨x < tm.length)→o'.length≤o.length+1→Wp (K' ((),((),()),tB b tm,iW (o'.map aU),())) Q')→Wp (aH qH ((T (m - 1)) 155 [(.one (iC t.l)),pE,(.one (.ptr (.e 1) 0 0)),(.one (.ptr (.e 2) 0 0))] [(bx nn y1),(bx [.tg 6] (tB b tm)),(bx [.tg 1] (iW (o.map aU)))]) K') Q')
  (hr:∀{K':qH.T→OR} {Q':V→List (List C)→Prop} {y1:au nn} {o1:List Nat},o1.length≤o.length+1→(∀(o':List Nat),(∀x∈o',x∈o1∨x < tm.length)→o'.length≤o1.length+1→Wp (K' ((),((),()),tB b tm,iW (o'.map aU),())) Q')→Wp (aH qH ((T (m - 1)) 155 [(.one (iC t.r)),pE,(.one (.ptr (.e 1) 0 0)),(.one (.ptr (.e 2) 0 0))] [(bx nn y1),(bx [.tg 6] (tB b tm)),(bx [.tg 1] (iW (o1.map aU)))]) K') Q')
  (h:∀(o':List Nat),(∀x∈o',x∈o∨x < tm.length)→o'.length≤o.length+3→Wp (K ((),((),()),tB b tm,iW (o'.map aU),())) Q) :
  Wp (aH qH ((T m) 155 [(.one (iC (i:Int))),pE,(.one (.ptr (.e 1) 0 0)),(.one (.ptr (.e 2) 0 0))] [(bx nn x1),(bx [.tg 6] (tB b tm)),(bx [.tg 1] (iW (o.map aU)))]) K) Q:=by
 obtain ⟨m,rfl⟩:=cE hm;have kN:i < tm.length:=(cw.1 hi).1;have qf:∀a:TM,4+1≤(bA a).length∧dV cf (List.take 1 (List.drop 4 (bA a)))=some (a.l,()):=fun a=>⟨by simp [bA],rfl⟩
 have E4:∀a:TM,5+1≤(bA a).length∧dV cf (List.take 1 (List.drop 5 (bA a)))=some (a.r,()):=fun a=>⟨by simp [bA],rfl⟩
 refine bH OX (dJ (bV (by omega)) (eZ ?_));refine aM (enc:=bA) (f:=fun t=>(t.l,())) qf rfl hi ?_;refine hl (fun o1 h1 jH=>eZ ?_);refine aM (enc:=bA) (f:=fun t=>(t.r,())) E4 rfl hi ?_;refine hr jH (fun o2 h2 dW=>?_);have mem:∀x∈o2++[i],x∈o∨x < tm.length:=by
  intro x hx;rw [dC] at hx;rcases hx with hx | hx
  ·rcases h2 x hx with h3 | h3
   ·exact h1 x h3
   ·exact .inr h3
  ·simp at hx;subst hx;exact .inr kN
 have fin:=h (o2++[i]) mem (by simp;omega);refine Vx (o:=o2) (fun he=>aF rfl (aA ?_)) (fun he=>aF (abF (o:=o2) (by omega)) (aA ?_))
 ·subst he;exact aE rfl fin
 ·rw [du];have e:iW ((o2++[i]).map aU)=((.own,o2.map aU++[aU i]),()):=by
   rw [eB];cases o2 with
   | nil=>exact absurd rfl he
   | cons a t=>rfl
  rw [e] at fin;exact aE rfl fin
theorem T6 (hm:3≤m) {b:Bool} {tm:List TM} {t:TM} {i:Nat} (hi:tm[i]? = some t) (hl:t.l = -1) (hr:t.r = -1) {o:List Nat} (ho:o.length≤10) {x1:au nn} {K:qH.T→OR}
  (h:∀(o':List Nat),(∀x∈o',x∈o∨x < tm.length)→o'.length≤o.length+1→Wp (K ((),((),()),tB b tm,iW (o'.map aU),())) Q) :
  Wp (aH qH ((T m) 155 [(.one (iC (i:Int))),pE,(.one (.ptr (.e 1) 0 0)),(.one (.ptr (.e 2) 0 0))] [(bx nn x1),(bx [.tg 6] (tB b tm)),(bx [.tg 1] (iW (o.map aU)))]) K) Q:=by
 obtain ⟨m,rfl⟩:=cE hm;have kN:i < tm.length:=(cw.1 hi).1;have qf:∀a:TM,4+1≤(bA a).length∧dV cf (List.take 1 (List.drop 4 (bA a)))=some (a.l,()):=fun a=>⟨by simp [bA],rfl⟩
 have E4:∀a:TM,5+1≤(bA a).length∧dV cf (List.take 1 (List.drop 5 (bA a)))=some (a.r,()):=fun a=>⟨by simp [bA],rfl⟩
 refine bH OX (dJ (bV (by omega)) (eZ ?_));refine aM (enc:=bA) (f:=fun t=>(t.l,())) qf rfl hi ?_;dsimp only;rw [hl];refine adS (by omega) (eZ ?_);refine aM (enc:=bA) (f:=fun t=>(t.r,())) E4 rfl hi ?_;dsimp only;rw [hr];refine adS (by omega) ?_
 have fin := h (o ++ [i]) (by
   intro x hx
   rw [dC] at hx
   rcases hx with hx | hx
   · exact .inl hx
   · simp at hx; subst hx; exact .inr kN) (by simp)
 refine Vx (o:=o) (fun he=>aF rfl (aA ?_)) (fun he=>aF (abF (o:=o) (by omega)) (aA ?_))
 ·subst he;exact aE rfl fin
 ·rw [du];have e:iW ((o++[i]).map aU)=((.own,o.map aU++[aU i]),()):=by
   rw [eB];cases o with
   | nil=>exact absurd rfl he
   | cons a t=>rfl
  rw [e] at fin;exact aE rfl fin
theorem aqZ (hm:10≤m) {b:Bool} {tm:List TM} (hT:ji tm) {i:Nat} (hi:i < tm.length) {K:df.T→OR} (h:∀b (l:List Nat),(∀x∈l,x < tm.length)→l.length≤3→Wp (K ((b,l.map aU),())) Q):Wp (WM (T m) b (tm.map bA) (i:Int) K) Q:=by
 obtain ⟨m,rfl⟩:=cE hm;have hg:tm[i]? = some tm[i]:=gE hi;refine bH aht ?_;have fin:∀o:List Nat,(∀x∈o,x∈([]:List Nat)∨x < tm.length)→o.length≤3→Wp (zZ (iW (o.map aU)).1.1 fun t=>zO t (decide (0+(iW (o.map aU)).1.2.length≤(iW (o.map aU)).1.2.length)) (some ((.one (lC (.im (zB t)) 1 (zW t (iW (o.map aU)).1.2))),[]))) (J df K Q):=by
  intro o ho hl;have af:∀x∈o,x < tm.length:=fun x hx=>(ho x hx).elim (fun h=>by cases h) id
  cases o with
  | nil=>exact eZ (aA (aE rfl (h true [] af (by simp))))
  | cons a t=>
   refine jb (aF (by simp) ?_);have e:zW .own (iW ((a::t).map aU)).1.2=(a::t).map aU:=by show aW (whole _)=_;rw [du];exact GN (a::t)
   rw [e];exact aA (aE rfl (h false (a::t) af hl))
 rcases hT i _ hg with Fh | ⟨_,_,a,c,x,y,h1,h2,_,_,_,h6,h7,h8,h9,_⟩
 ·exact T6 (m:=m) (b:=b) (tm:=tm) (o:=[]) (by omega) hg Fh.2.1 Fh.2.2.1 (by simp) fun o ho hl=>fin o ho (by have:o.length≤0+1:=hl;omega)
 ·refine aqd (m:=m) (b:=b) (tm:=tm) (o:=[]) (by omega) hg (by simp) ?_ ?_ fun o ho hl=>fin o ho hl
  ·intro K' Q' y1 hk;rw [h1];exact T6 (m:=m - 1) (by omega) h6 h8.2.1 h8.2.2.1 (by simp) hk
  ·intro K' Q' y1 o1 Fu hk;rw [h2];exact T6 (m:=m - 1) (by omega) h7 h9.2.1 h9.2.2.1 (by have:o1.length≤0+1:=Fu;omega) hk
end
end
section
open Go Go.ax QQ
def inc (s:PS):Nat:=if s.kd=3∨s.kd=5 then 1 else 0
def PP (ss:List PS) (at_:Nat):List Int:=(ss.take at_).flatMap br
theorem Vh {ss:List PS} {i:Nat} {s:PS} (h:ss[i]? = some s):PP ss (i+1)=PP ss i++br s:=by
 unfold PP;rw [uM,h];simp
theorem aeT {ss:List PS} {n i:Nat} {s:PS} {t:Int} (hi:i < n) (h:ss[i]? = some s) (ht:t∈br s):t∈PP ss n:=by
 unfold PP;rw [Nd];refine ⟨s,?_,ht⟩;refine ft (i:=i) ?_;rw [Na,aJ hi,h]
structure SI (ss:List PS) (n:Nat) (cn dp:List Nat):Prop where
 lc:cn.length=ss.length
 ld:dp.length=ss.length
 c:∀k,k < ss.length→cn[k]? = some ((PP ss n).count (k:Int))
 f:∀i s,i < n→ss[i]? = some s→uR s
 e:∀i s t,i < n→ss[i]? = some s→t∈br s→∃k:Nat,t=(k:Int)∧i < k∧k < ss.length
 u:∀k:Nat,1≤k→k < n→(PP ss n).count (k:Int)=1
 d:∀i s,i < n→ss[i]? = some s→∃x,dp[i]? = some x∧x≤24∧∀k:Nat,(k:Int)∈br s→(PP ss n).count (k:Int)≤1→∀s',ss[k]? = some s'→dp[k]? = some (if k < n then x+inc s' else x)
 b:∀(k x:Nat),dp[k]? = some x→x≤24
structure SJ (ss:List PS) (n:Nat) (s:PS) (j:Nat) (cn dp:List Nat):Prop where
 lc:cn.length=ss.length
 ld:dp.length=ss.length
 c:∀k,k < ss.length→cn[k]? = some ((PP ss n++(br s).take j).count (k:Int))
 f:∀i s,i≤n→ss[i]? = some s→uR s
 e:∀i s t,i < n→ss[i]? = some s→t∈br s→∃k:Nat,t=(k:Int)∧i < k∧k < ss.length
 e':∀t∈(br s).take j,∃k:Nat,t=(k:Int)∧n < k∧k < ss.length
 u:∀k:Nat,1≤k→k≤n→(PP ss n).count (k:Int)=1
 d':∃x,dp[n]? = some x∧∀k:Nat,(k:Int)∈(br s).take j→dp[k]? = some x
 d:∀i s1,i < n→ss[i]? = some s1→∃x,dp[i]? = some x∧x≤24∧∀k:Nat,(k:Int)∈br s1→(PP ss n++(br s).take j).count (k:Int)≤1→∀s',ss[k]? = some s'→dp[k]? = some (if k≤n then x+inc s' else x)
 b:∀(k x:Nat),dp[k]? = some x→x≤24∨dp[n]? = some x
theorem SI.zero (ss:List PS):SI ss 0 (List.replicate ss.length 0) (List.replicate ss.length 0):=
 ⟨by simp,by simp,fun k hk=>by simp [PP,hk],fun i s h=>by omega,fun i s t h=>by omega,(fun k h1 h2=>by omega),(fun i s h=>by omega),(fun k x hx=>by rw [US] at hx;split at hx<;>cases hx;omega)⟩
theorem SI.start {ss:List PS} {n:Nat} {cn dp:List Nat} (h:SI ss n cn dp) {s:PS} (hs:ss[n]? = some s) (hf:uR s) (hc:n=0∨cn[n]? = some 1) {x:Nat} (hx:dp[n]? = some x):SJ ss n s 0 cn (dp.set n (x+inc s)):=by
 have hn:n < ss.length:=(cw.1 hs).1;refine ⟨h.lc,by simpa using h.ld,fun k hk=>by rw [HJ,mJ];exact h.c k hk,?_,h.e,by simp,?_,⟨x+inc s,by rw [yz (by rw [h.ld];exact hn)],by simp⟩,?_,?_⟩;rotate_left 3
 ·intro k y hy;by_cases hk:k=n
  ·subst hk;exact .inr hy
  ·rw [qL (by omega)] at hy;exact .inl (h.b k y hy)
 ·intro i s1 hi h1;by_cases h2:i < n
  ·exact h.f i s1 h2 h1
  ·rw [show i=n by omega,hs] at h1;cases h1;exact hf
 ·intro k h1 h2;by_cases h3:k < n
  ·exact h.u k h1 h3
  ·have hk:k=n:=by omega
   subst hk;rcases hc with hc | hc
   ·omega
   ·have:=h.c k hn;rw [hc] at this;exact (oY this).symm
 ·intro i s1 hi h1;obtain ⟨y,e1,e2,e3⟩:=h.d i s1 hi h1;refine ⟨y,by rw [qL (by omega)];exact e1,e2,fun k hk qZ s' jI=>?_⟩;rw [HJ,mJ] at qZ;have g:=e3 k hk qZ s' jI;by_cases hkn:k=n
  ·subst hkn;rw [hs] at jI;cases jI;rw [aB (by omega),hx] at g;cases g;rw [yz (by rw [h.ld];exact hn),aJ (bT _)]
  ·rw [qL (by omega),g];by_cases h4:k < n
   ·rw [aJ h4,aJ (by omega)]
   ·rw [aB h4,aB (by omega)]
theorem SJ.ahF {ss:List PS} {n:Nat} {s:PS} {j:Nat} {cn dp:List Nat} (h:SJ ss n s j cn dp) {k:Nat} (hj:(br s)[j]? = some (k:Int)) (h1:n < k) (h2:k < ss.length) {c x:Nat} (hc:cn[k]? = some c) (hx:dp[n]? = some x):SJ ss n s (j+1) (cn.set k (c+1)) (dp.set k x):=by
 have ht:(br s).take (j+1)=(br s).take j++[(k:Int)]:=by rw [uM,hj];rfl
 have dP:∀k':Nat,(PP ss n++(br s).take (j+1)).count (k':Int)=(PP ss n++(br s).take j).count (k':Int)+(if k'=k then 1 else 0):=by
  intro k';rw [ht,←ek,UM];congr 1;by_cases hk:k'=k
  ·subst hk;simp
  ·rw [aB hk];exact M9.2 (by simp;omega)
 refine ⟨by simpa using h.lc,by simpa using h.ld,?_,h.f,h.e,?_,h.u,?_,?_,?_⟩;rotate_left 4
 ·intro k' y hy;rw [qL (by omega)];by_cases hk:k'=k
  ·subst hk;rw [yz (by rw [h.ld];exact h2)] at hy;cases hy;exact .inr hx
  ·rw [qL (by omega)] at hy;exact h.b k' y hy
 ·intro k' iG;rw [dP];by_cases hk:k'=k
  ·subst hk;rw [yz (by rw [h.lc];exact h2),aJ rfl];have:=h.c k' iG;rw [hc] at this;rw [oY this]
  ·rw [qL (by omega),aB hk];exact h.c k' iG
 ·intro t h3;rw [ht,dC] at h3;rcases h3 with h3 | h3
  ·exact h.e' t h3
  ·simp at h3;exact ⟨k,h3,h1,h2⟩
 ·obtain ⟨y,e1,e2⟩:=h.d';rw [hx] at e1;cases e1;refine ⟨x,by rw [qL (by omega)];exact hx,fun k' iG=>?_⟩;by_cases hk:k'=k
  ·subst hk;rw [yz (by rw [h.ld];exact h2)]
  ·rw [qL (by omega)];refine e2 k' ?_;rw [ht,dC] at iG;rcases iG with iG | iG
   ·exact iG
   ·simp at iG;omega
 ·intro i s1 hi kx;obtain ⟨y,e1,e2,e3⟩:=h.d i s1 hi kx;refine ⟨y,by rw [qL (by omega)];exact e1,e2,fun k' iG qZ s' jI=>?_⟩;rw [dP] at qZ;by_cases hk:k'=k
  ·subst hk;have:1≤(PP ss n++(br s).take j).count (k':Int):=List.count_pos_iff.2 (HF _ (aeT hi kx iG));rw [aJ rfl] at qZ;omega
  ·rw [qL (by omega)];rw [aB hk] at qZ;exact e3 k' iG (by omega) s' jI
theorem SJ.fin {ss:List PS} {n:Nat} {s:PS} {j:Nat} {cn dp:List Nat} (h:SJ ss n s j cn dp) (hs:ss[n]? = some s) (hj:(br s).length≤j) {x:Nat} (hx:dp[n]? = some x) (cX:x≤24):SI ss (n+1) cn dp:=by
 have ht:(br s).take j=br s:=Nj hj;have hp:=Vh hs;have lM:=h.c;have cY:=h.e';have dq:=h.d';have hd:=h.d;rw [ht] at lM cY dq hd;rw [←hp] at lM hd;refine ⟨h.lc,h.ld,lM,fun i s1 hi=>h.f i s1 (by omega),?_,?_,?_,fun k y hy=>?_⟩;rotate_left 3
 ·rcases h.b k y hy with g | g
  ·exact g
  ·rw [hx] at g;cases g;exact cX
 ·intro i s1 t hi h1 h2;by_cases h3:i < n
  ·exact h.e i s1 t h3 h1 h2
  ·rw [show i=n by omega] at h1 ⊢;rw [hs] at h1;cases h1;exact cY t h2
 ·intro k h1 h2;rw [hp,UM,h.u k h1 (by omega)]
  have : (br s).count (k : Int) = 0 := M9.2 (fun hm => by
    obtain ⟨k', e1, e2, _⟩ := cY _ hm
    omega)
  omega
 ·intro i s1 hi h1;by_cases h3:i < n
  ·obtain ⟨y,e1,e2,e3⟩:=hd i s1 h3 h1;refine ⟨y,e1,e2,fun k hk qZ s' jI=>?_⟩;rw [e3 k hk qZ s' jI];by_cases h4:k≤n
   ·rw [aJ h4,aJ (by omega)]
   ·rw [aB h4,aB (by omega)]
  ·rw [show i=n by omega] at h1 ⊢;rw [hs] at h1;cases h1;obtain ⟨y,e1,e2⟩:=dq;rw [hx] at e1;cases e1;refine ⟨x,hx,cX,fun k hk qZ s' jI=>?_⟩;obtain ⟨k',g1,g2,_⟩:=cY _ hk;rw [e2 k hk,aB (by omega)]
structure SF (ss:List PS):Prop where
 f:∀s∈ss,uR s
 e:∀i s t,ss[i]? = some s→t∈br s→∃k:Nat,t=(k:Int)∧i < k∧k < ss.length
 u:∀k:Nat,1≤k→k < ss.length→(ss.flatMap br).count (k:Int)=1
 d:∃D:Nat→Nat,∀i s,ss[i]? = some s→D i≤24∧∀k:Nat,(k:Int)∈br s→∀s',ss[k]? = some s'→D k=D i+inc s'
theorem SI.all {ss:List PS} {cn dp:List Nat} (h:SI ss ss.length cn dp):SF ss:=by
 have hp:PP ss ss.length=ss.flatMap br:=by simp [PP]
 refine ⟨?_,?_,?_,⟨fun i=>dp.getD i 0,?_⟩⟩
 ·intro s hs;obtain ⟨i,hi,rfl⟩:=DQ hs;exact h.f i _ hi (gE hi)
 ·intro i s t h1 h2;exact h.e i s t (cw.1 h1).1 h1 h2
 ·intro k h1 h2;rw [←hp];exact h.u k h1 h2
 ·intro i s h1;have hi:=(cw.1 h1).1;obtain ⟨x,e1,e2,e3⟩:=h.d i s hi h1;have g1:dp.getD i 0=x:=by simp [List.getD,e1]
  refine ⟨by show dp.getD i 0≤24;rw [g1];exact e2,fun k hk s' jI=>?_⟩;obtain ⟨k',q1,q2,q3⟩:=h.e i s _ hi h1 hk;have hkk:k=k':=by omega
  have qZ:=h.u k (by omega) (by omega);have:=e3 k hk (by omega) s' jI;rw [aJ (by omega)] at this;show dp.getD k 0=dp.getD i 0+inc s';rw [g1];simp [List.getD,this]
end
section
open Go Go.ax QQ
def wA (t:TM):TR:=⟨t.kd,t.nm,t.n,t.tx,t.l,t.r⟩
theorem Ok (tm:List TM):tm.map bA=(tm.map wA).map cR:=by rw [UW];rfl
def tP (p:PC):au fw:=(p.nm,(p.pb,p.pm.map eK),(p.tb,p.tm.map bA),(p.sb,p.ss.map cT),())
theorem Tn {l:List Nat} {i:Nat} (h:i < l.length) {v:Nat}:cd (l.map aU) (0+i) 0 (.int .i64 (v:Int))=(l.set i v).map aU:=by
 have:(l.map aU).getD (0+i) []=aU l[i]:=by simp [List.getD,h]
 unfold cd;rw [this,db,AW];rfl
section
variable {m:Nat} {Q:V→List (List C)→Prop}
theorem aeb (hm:1≤m) {a b c:Int} {K:dw.T→OR} (h:Wp (K ((a,b,c,()),())) Q):Wp (c46 (T m) a b c K) Q:=by
 obtain ⟨m,rfl⟩:=cE hm;exact bH ahj (aA (aE rfl h))
theorem Um (hm:100≤m) {b:Bool} {tm:List TM} {z:Int} {K:bj.T→OR} (h:Wp (K (sU (tm.map wA) z,())) Q):Wp (Ek (T m) b (tm.map bA) z K) Q:=by
 rw [Ok];exact ke (x:=(sU (tm.map wA) z,())) (aa3 z m hm) rfl h
theorem aa4 {l:List TR} {z:Int} (h:sU l z=true):∃i:Nat,z=(i:Int)∧i < l.length:=by
 simp only [sU,bK,fA] at h;exact ⟨z.toNat,by omega,by omega⟩
def oi (K:dw.T→OR) (Q:V→List (List C)→Prop):Prop:=∀e a b,e≠0→Wp (K ((e,a,b,()),())) Q
variable {K:dw.T→OR}
theorem mT (hF:oi K Q) (hm:1≤m) {e a b:Int} (he:e≠0):Wp (c46 (T m) e a b fun v=>(some ((.agg [(iC v.1.1),(iC v.1.2.1),(iC v.1.2.2.1)]),[]))) (J dw K Q):=
 aeb hm (aA (aE rfl (hF e a b he)))
theorem adg (q:Nat) (hq:230≤q) (hF:oi K Q) {p:PC} {cn dp:RR} {a0 a8 a9 aO:Int} {a1:au eO} {a6 cH:Bool} {a7 a12:RR} {fO:Int} {r c1 c0:Nat} (hr:r≤100000) {tb:Bool} {tl:List Nat} (sI:∀x∈tl,x < p.tm.length) (h3:tl.length≤3)
  (hZ:∀us:List Bool,us.length=p.tm.length→Wp (Gk (T q) q c0 c1 a0 a1 (tP p) cn dp (us.map gn) a6 a7 a8 a9 aO cH a12 fO ((r+1:Nat):Int)) (J dw K Q)) :
  ∀(c i:Nat) (us:List Bool),tl.length - i < c→i≤tl.length→us.length=p.tm.length→Wp (Le (T q) q c0 c1 c a0 a1 (tP p) cn dp (us.map gn) a6 a7 a8 a9 aO cH a12 fO (r:Int) tb (tl.map aU) (ae (tl.map aU).length) (i:Int)) (J dw K Q)
 | 0,i,us,hc,_,_=>by omega
 | c+1,i,us,hc,hi,nP=>by
  refine aC amR (aj (fun g1=>?_) (fun g1=>?_))
  ·have af:i < tl.length:=bN g1;have hx:=sI _ (bM af);have JM:tl[i] < us.length:=by omega
   refine aM gQ rfl (gE af) ?_;refine oe Dk rfl (gE JM) (aj (fun _=>mT hF (by omega) (by decide)) (fun _=>?_));refine hC rfl (aF (aY (by simpa using JM)) (fq (b:=gn us[tl[i]]) (by rw [db,bS,gE JM];rfl) (aF rfl (iN (v:=(us[tl[i]],())) rfl ?_))));rw [MA JM,wI i];exact adg q hq hF hr sI h3 hZ c (i+1) (us.set tl[i] true) (by omega) (by omega) (by simpa using nP)
  ·rw [wI r];exact hZ us nP
theorem adf (q:Nat) (hq:21000≤q) (hF:oi K Q) {p:PC} (hT:ji p.tm) {cn dp:RR} {a0 a8 a9 aO:Int} {a1:au eO} {a6 cH:Bool} {a7:RR} {c0:Nat} {rl:List Int} (hl:rl.length≤20000)
  (hZ:∀us:List Bool,us.length=p.tm.length→Wp (Aa (T q) q c0 a0 a1 (tP p) cn dp (us.map gn) a6 a7 a8 (ak (a9+1))) (J dw K Q)) :
  ∀(c r:Nat) (us:List Bool),rl.length - r < c→r≤rl.length→us.length=p.tm.length→Wp (Gk (T q) q c0 c a0 a1 (tP p) cn dp (us.map gn) a6 a7 a8 a9 aO cH (rl.map bF) (ae (rl.map bF).length) (r:Int)) (J dw K Q)
 | 0,r,us,hc,_,_=>by omega
 | c+1,r,us,hc,hr,nP=>by
  refine aC amQ (aj (fun g1=>?_) (fun g1=>hZ us nP));have af:r < rl.length:=bN g1;refine aM nV rfl (gE af) ?_;refine Um (m:=q) (by omega) (aj (fun _=>mT hF (by omega) (by decide)) (fun g2=>?_));have Fp:sU (p.tm.map wA) rl[r]=true:=by simpa using g2
  obtain ⟨i,hi,kN⟩:=aa4 Fp;rw [cy] at kN;dsimp only;rw [hi];refine aqZ (m:=q) (by omega) hT kN fun b tl sI h3=>?_
  exact adg q (by omega) hF (by omega) sI h3 (fun Hp FF=>adf q hq hF hT hl hZ c (r+1) Hp (by omega) (by omega) FF) q 0 us (by omega) (by omega) nP
theorem adh (q:Nat) (hq:21000≤q) (hF:oi K Q) {p:PC} (hp:gK p) (me:p.ss.length≤80) {n:Nat} {s:PS} (hs:p.ss[n]? = some s) {a0 a8:Int} {a1:au eO} {a6:Bool} {a7:RR} {c0:Nat} {nb:Bool}
  (hZ:∀cn dp (us:List Bool),SI p.ss (n+1) cn dp→us.length=p.tm.length→Wp (Aa (T q) q c0 a0 a1 (tP p) (cn.map aU) (dp.map aU) (us.map gn) a6 a7 a8 ((n+1:Nat):Int)) (J dw K Q)) (us:List Bool) (nP:us.length=p.tm.length) :
  ∀(c j:Nat) (cn dp:List Nat),(br s).length - j < c→j≤(br s).length→SJ p.ss n s j cn dp→Wp (Lf (T q) q c0 c a0 a1 (tP p) (cn.map aU) (dp.map aU) (us.map gn) a6 a7 a8 (n:Int) (tS s) (n:Int) nb ((br s).map bF) (ae ((br s).map bF).length) (j:Int)) (J dw K Q)
 | 0,j,cn,dp,hc,_,_=>by omega
 | c+1,j,cn,dp,hc,hj,h=>by
  have hn:n < p.ss.length:=(cw.1 hs).1;have oH:=hp.s2 s (ft hs);have nO:(br s).length≤100:=by
   unfold br;split
   ·simp
   ·simpa using oH.2.2.2
  have Jh:n < dp.length:=by rw [h.ld];exact hn
  refine aC amS (aj (fun g1=>?_) (fun g1=>?_))
  ·have af:j < (br s).length:=bN g1;have hg:(br s)[j]? = some (br s)[j]:=gE af;refine aM nV rfl hg (aj (fun _=>mT hF (by omega) (by decide)) (fun g2=>aj (fun _=>mT hF (by omega) (by decide)) (fun g3=>?_)));have k1:¬ (br s)[j]≤(n:Int):=lg g2;have k2:¬ (br s)[j]≥ae (p.ss.map cT).length:=lg g3;rw [bI,cy] at k2;obtain ⟨k,hk⟩:∃k:Nat,(br s)[j]=(k:Int):=⟨(br s)[j].toNat,by omega⟩
   have tZ:n < k:=by omega
   have ku:k < p.ss.length:=by omega
   have xn:k < cn.length:=by rw [h.lc];exact ku
   have oG:k < dp.length:=by rw [h.ld];exact ku
   obtain ⟨r,hr⟩:=bm 1 q;have e4:Lg (T q) q c0 c q=Lg (T q) q c0 c (r+1):=by rw [←hr]
   have YN:=h.c k ku;have P3:cn[k]≤10000:=by
    have q1:cn[k]=(PP p.ss n++(br s).take j).count (k:Int):=by
     rw [gE xn] at YN;exact oY YN
    rw [q1];refine jd HA ?_;rw [eu];have q2:(PP p.ss n).length≤80 * 100:=by
     unfold PP;rw [List.length_flatMap];have:∀(l:List PS),(∀x∈l,x∈p.ss)→((l.map fun a=>(br a).length).sum)≤l.length * 100:=by
      intro l;induction l with
      | nil=>intro _;simp
      | cons a t ih=>
       intro hm;have:=ih (fun x hx=>hm x (kD _ hx));have ha:=hp.s2 a (hm a jR);have ve:(br a).length≤100:=by
        unfold br;split
        ·simp
        ·simpa using ha.2.2.2
       simp only [gl,yC,gk];omega
     have:=this (p.ss.take n) (fun x hx=>DT hx);have:(p.ss.take n).length≤80:=by simp;omega
     omega
    have:((br s).take j).length≤100:=by simp;omega
    omega
   dsimp only;rw [hk,e4];refine aC amT ?_;refine oe gQ rfl (gE xn) ?_;refine hC rfl (aF (aY (by simpa using xn)) (fq (b:=aU cn[k]) (by rw [db,bS,gE xn];rfl) (aF rfl (iN (v:=((cn[k]:Int),())) rfl ?_))));refine oe gQ rfl (gE Jh) ?_;refine hC rfl (aF (aY (by simpa using oG)) (fq (b:=aU dp[k]) (by rw [db,bS,gE oG];rfl) (aF rfl (iN (v:=((dp[k]:Int),())) rfl ?_))));dsimp only;rw [show ak ((cn[k]:Int)+1)=((cn[k]+1:Nat):Int) from gM,Tn xn,Tn oG,wI j];exact adh q hq hF hp me hs hZ us nP c (j+1) _ _ (by omega) (by omega) (h.ahF (by rw [hg,hk]) tZ ku (gE xn) (gE Jh))
  ·have eV:(br s).length≤j:=by
    have g2:¬ (j:Int) < ae ((br s).map bF).length:=lg g1;rw [bI,cy] at g2;omega
   refine oe gQ rfl (gE Jh) (aj (fun _=>mT hF (by omega) (by decide)) (fun g2=>?_));have cX:dp[n]≤24:=by
    have:¬ ((dp[n]:Nat):Int) > 24:=lg g2;omega
   have hSI:=h.fin hs eV (gE Jh) cX;refine aep (m:=q) (by omega) oH fun tb rl gB=>?_
   refine adf q hq hF hp.t2 gB (fun Hp FF=>?_) q 0 us (by omega) (by omega) nP;rw [wI n];exact hZ cn dp Hp hSI FF
theorem ade (q:Nat) (hq:21000≤q) (hF:oi K Q) {p:PC} (hp:gK p) (me:p.ss.length≤80) {a0:Int} {a1:au eO} {a6:Bool} (h:SF p.ss→Wp (K ((0,0,0,()),())) Q) :
  ∀(c n:Nat) (cn dp:List Nat) (us:List Bool),p.ss.length - n < c→n≤p.ss.length→SI p.ss n cn dp→us.length=p.tm.length→
   Wp (Aa (T q) q c a0 a1 (tP p) (cn.map aU) (dp.map aU) (us.map gn) a6 (p.ss.map cT) (ae (p.ss.map cT).length) (n:Int)) (J dw K Q)
 | 0,n,cn,dp,us,hc,_,_,_=>by omega
 | c+1,n,cn,dp,us,hc,hn,hI,nP=>by
  refine aC amP (aj (fun g1=>?_) (fun g1=>?_))
  ·have af:n < p.ss.length:=bN g1;have hs:p.ss[n]? = some p.ss[n]:=gE af;generalize p.ss[n]=s at hs;have oH:=hp.s2 s (ft hs);have aS:n < cn.length:=by rw [hI.lc];exact af
   have qf:n < dp.length:=by rw [hI.ld];exact af
   obtain ⟨r,hr⟩:=bm 1 q;have e5:xG (T q) q c q=xG (T q) q c (r+1):=by rw [←hr]
   have e6:CT (T q) q c q=CT (T q) q c (r+1):=by rw [←hr]
   refine aM (enc:=cT) (f:=tS) (fun a=>⟨by simp [cT],rfl⟩) rfl hs ?_;refine aqJ (m:=q) (by omega) oH fun b hb=>aj (fun _=>mT hF (by omega) (by decide)) (fun g2=>?_)
   have Qe:=hb (by simpa using g2);have five:∀II,SJ p.ss n s 0 cn II→Wp (xG (T q) q c q a0 a1 (tP p) (cn.map aU) (II.map aU) (us.map gn) a6 (p.ss.map cT) (ae (p.ss.map cT).length) (n:Int) (tS s) (n:Int)) (J dw K Q):=by
    intro II hJ;rw [e5];refine aC amU ?_;refine Uj (m:=q) (by omega) oH fun nb=>?_
    have nO:(br s).length≤100:=by
     unfold br;split
     ·simp
     ·simpa using oH.2.2.2
    exact adh q hq hF hp me hs (fun cn' afR Hp hI' FF=>ade q hq hF hp me h c (n+1) cn' afR Hp (by omega) (by omega) hI' FF) us nP q 0 cn II (by omega) (by omega) hJ
   have cX:dp[n]≤100000→∀(dF:n=0∨cn[n]? = some 1),Wp (CT (T q) q c q a0 a1 (tP p) (cn.map aU) (dp.map aU) (us.map gn) a6 (p.ss.map cT) (ae (p.ss.map cT).length) (n:Int) (tS s) (n:Int)) (J dw K Q):=by
    intro PQ dF;have bp:=hI.start hs Qe dF (gE qf);rw [e6];have up:s.kd=3∨s.kd=5→Wp (xG (T q) q c q a0 a1 (tP p) (cn.map aU) (cd (dp.map aU) (0+n) 0 (.int .i64 (ak ((dp[n]:Int)+1)))) (us.map gn) a6 (p.ss.map cT) (ae (p.ss.map cT).length) (n:Int) (tS s) (n:Int)) (J dw K Q):=by
     intro hk;rw [show ak ((dp[n]:Int)+1)=((dp[n]+1:Nat):Int) from gM,Tn qf];have:inc s=1:=by unfold inc;rw [aJ hk]
     rw [this] at bp;exact five _ bp
    refine aC amV (aj (fun g3=>?_) (fun g3=>aj (fun g4=>?_) (fun g4=>?_)))
    ·refine oe gQ rfl (gE qf) ?_;refine hC rfl (aF (aY (by simpa using qf)) (fq (b:=aU dp[n]) (by rw [db,bS,gE qf];rfl) (aF rfl (iN (v:=((dp[n]:Int),())) rfl ?_))));exact up (.inl (by have:(s.kd==3)=true:=g3;simpa using this))
    ·refine oe gQ rfl (gE qf) ?_;refine hC rfl (aF (aY (by simpa using qf)) (fq (b:=aU dp[n]) (by rw [db,bS,gE qf];rfl) (aF rfl (iN (v:=((dp[n]:Int),())) rfl ?_))));exact up (.inr (by have:(s.kd==5)=true:=g4;simpa using this))
    ·have h3:s.kd≠3:=by have:(s.kd==3)=false:=g3;simpa using this
     have h5:s.kd≠5:=by have:(s.kd==5)=false:=g4;simpa using this
     have:inc s=0:=by unfold inc;rw [aB (by omega)]
     rw [this,jC,aeN] at bp;exact five _ bp
   have PQ:=cX (by have:=hI.b n dp[n] (gE qf);omega);refine aj (fun g3=>?_) (fun g3=>PQ (.inl ?_))
   ·refine oe gQ rfl (gE aS) (aj (fun _=>mT hF (by omega) (by decide)) (fun g4=>PQ (.inr ?_)));have:(((cn[n]:Nat):Int) != 1)=false:=g4;have:=U7.1 this;rw [gE aS,show cn[n]=1 by omega]
   ·have:¬ (n:Int) > 0:=lg g3;omega
  ·have eV:n=p.ss.length:=by
    have g2:¬ (n:Int) < ae (p.ss.map cT).length:=lg g1;rw [bI,cy] at g2;omega
   rw [eV] at hI;exact aA (aE rfl (h hI.all))
theorem aqU (hm:21010≤m) (hF:oi K Q) {b1 b2 b3:Bool} {r1 r2:RR} {ay:List PC} {i:Nat} {p:PC} (hi:ay[i]? = some p) (hp:gK p) (me:p.ss.length≤80) (ari:p.tm.length≤160) (h:SF p.ss→Wp (K ((0,0,0,()),())) Q) :
  Wp (WC (T m) b1 r1 b2 r2 b3 (ay.map eD) (i:Int) K) Q:=by
 obtain ⟨m,rfl⟩:=cE hm;refine bH ahq ?_;refine aM (enc:=eD) (f:=tP) (fun a=>⟨by simp [eD],rfl⟩) rfl hi ?_;have e1:∀n:Nat,List.replicate n [D.int .i64 0]=(List.replicate n 0).map aU:=by intro n;simp [aU]
 have e2:∀n:Nat,List.replicate n [D.bool false]=(List.replicate n false).map gn:=by intro n;simp [gn]
 have g:∀(n k:Nat),n≤1000→k≤8→(decide (n≤n)&&decide (n * k≤140737488355328)&&decide (n≤9223372036854775807)&&true&&(!n==0||n==0))=true:=by
  intro n k hn hk;have:n * k≤1000 * 8:=U3 hn hk;simp;omega
 have l1:(p.ss.map cT).length=p.ss.length:=cy _;have l2:(p.tm.map bA).length=p.tm.length:=cy _;have gs:=g p.ss.length 8 (by omega) (by omega);have gt:=g p.tm.length 2 (by omega) (by omega);rw [←l1] at gs;rw [←l2] at gt;refine aF gs (aF gs (aF gt ?_));show Wp (Aa (T m) m m (i:Int) (0,0,0,()) (tP p) (List.replicate (p.ss.map cT).length [D.int .i64 0]) (List.replicate (p.ss.map cT).length [D.int .i64 0]) (List.replicate (p.tm.map bA).length [D.bool false]) p.sb (p.ss.map cT) (ae (p.ss.map cT).length) 0) _;rw [e1,e2,l1,l2];have:=ade m (by omega) hF hp me h (a0:=(i:Int)) (a1:=(0,0,0,())) (a6:=p.sb) m 0 _ _ (List.replicate p.tm.length false) (by omega) (by omega) (SI.zero p.ss) (by simp);rw [l1] at this;exact this
end
end
section
open Go Go.ax QQ
section
variable {m:Nat} {Q:V→List (List C)→Prop}
theorem ac7 (q:Nat) (ay:List PC) (hl:ay.length≤100) (s:BB) (x y:Tag×RR) {b:Bool} {K:iK.T→OR} (h1:Wp (K (-1,())) Q) (h2:∀i:Nat,i < ay.length→Wp (K ((i:Int),())) Q):∀(c i:Nat),ay.length - i < c→i≤ay.length→
  Wp (KV (T q) q c s (x,y,(.im b,ay.map eD),()) (ae (ay.map eD).length) (i:Int)) (J iK K Q)
 | 0,i,hc,_=>by omega
 | c+1,i,hc,hi=>by
  refine aC amp (aj (fun g1=>eZ ?_) (fun g1=>aA (aE rfl h1)));have af:i < ay.length:=bN g1;refine aM (enc:=eD) (f:=fun a=>(a.nm,())) (fun a=>⟨by simp [eD],rfl⟩) rfl (gE af) (aj (fun g2=>aA (aE rfl (h2 i af))) (fun g2=>?_));rw [wI i];exact ac7 q ay hl s x y h1 h2 c (i+1) (by omega) (by omega)
theorem M5 (hm:110≤m) {b1 b2 b3:Bool} {r1 r2:RR} {ay:List PC} (hl:ay.length≤100) {s:BB} {K:iK.T→OR} (h1:Wp (K (-1,())) Q) (h2:∀i:Nat,i < ay.length→Wp (K ((i:Int),())) Q):Wp (El (T m) b1 r1 b2 r2 b3 (ay.map eD) s K) Q:=by
 obtain ⟨m,rfl⟩:=cE hm;exact bH ahd (ac7 m ay hl s _ _ h1 h2 m 0 (by omega) (by omega))
theorem ad8 (hm:120≤m) {k:Int} {x:BB} (h:(k,x)∈iS) {K:bj.T→OR} (hK:Wp (K (true,())) Q):Wp (Oi (T m) k x K) Q:=by
 obtain ⟨m,rfl⟩:=cE hm;refine bH ahi ?_;have hx:nc 1 [⟨[120],k,x,0⟩]:=⟨by simp,by simp,by simp,fun a ha=>by simp at ha;subst ha;exact ⟨show ([120]:BB)∈qt by decide,h,show (0:Nat) < 1 by decide⟩⟩
 have := MN m (by omega) false [] (l := [⟨1, [120], false, [⟨[120], k, x, 0⟩]⟩]) (by simp) (by simp) (by
   intro p hp
   simp at hp; subst hp
   exact .inr ⟨.inl rfl, show ([120] : BB) ∈ lR by decide, hx⟩)
 exact ke (x:=(true,())) this rfl (aA (aE rfl hK))
structure HD (p:PC):Prop where
 hn:gJ p.nm=true
 hp:p.pm.length≤6
 hs:p.ss.length≤80
 ht:p.tm.length≤160
theorem adi (q:Nat) (hq:200≤q) {ay:List PC} (cK:ay.length≤100) {p:PC} (hp:gK p) {b1 b2 b3:Bool} {r1 r2:RR} {a0:Nat} {a2:au eO} {K:dw.T→OR} (hF:oi K Q) {oz:Bool} (hg:oz=true→HD p) (h:HD p→Wp (K ((0,0,0,()),())) Q):∀(c i:Nat) (g:Bool) (o:List BB),p.pm.length - i < c→i≤p.pm.length→o.length=i→(g=true→oz=true)→
  Wp (uj (T q) q c (a0:Int) ((b1,r1),(b2,r2),(b3,ay.map eD),()) a2 (tP p) g (o.map aL) p.pb (p.pm.map eK) (ae (p.pm.map eK).length) (i:Int)) (J dw K Q)
 | 0,i,g,o,hc,_,_,_=>by omega
 | c+1,i,g,o,hc,hi,ho,jW=>by
  have h2:=hp.p1;refine aC amy (aj (fun g1=>?_) (fun g1=>aj (fun _=>mT hF (by omega) (by decide)) (fun g2=>?_)))
  ·have af:i < p.pm.length:=bN g1;have hx:=hp.p2 _ (bM af);have eL:∀g':Bool,(g'=true→oz=true)→Wp (gd ((o.map aL).length==(o.map aL).length&&true&&decide (((o.map aL).length+1) * 16≤140737488355328)) (uj (T q) q c (a0:Int) ((b1,r1),(b2,r2),(b3,ay.map eD),()) a2 (tP p) g' (o.map aL++whole ([[D.str []]].set 0 [D.str p.pm[i].1])) p.pb (p.pm.map eK) (ae (p.pm.map eK).length) (ak ((i:Int)+1)))) (J dw K Q):=by
    intro g' sD;refine aF (gX (by simp;omega) (by omega)) ?_;rw [wI i,du];have:=adi q hq cK hp (b1:=b1) (b2:=b2) (b3:=b3) (r1:=r1) (r2:=r2) (a0:=a0) (a2:=a2) hF hg h c (i+1) g' (o++[p.pm[i].1]) (by omega) (by omega) (by simp;omega) sD;rw [eB] at this;exact this
   refine aM GZ rfl (gE af) (aj (fun g3=>?_) (fun g3=>?_))
   ·refine gZ (m:=q) (by omega) (aj (fun g4=>ad8 (m:=q) (by omega) hx.1 ?_) (fun g4=>?_))
    ·exact eL true (fun _=>jW g3)
    ·exact eL false (fun h0=>by cases h0)
   ·exact eL false (fun h0=>by cases h0)
  ·have sF:oz=true:=jW (by simpa using g2);have ok:=hg sF;have fin:Wp (some ((.agg [(iC 0),(iC 0),(iC 0)]),[])) (J dw K Q):=aA (aE rfl (h ok));have fZ:Wp (gd (decide (0+(o.map aL).length≤(o.map aL).length)) (uW (T q) false (aW (whole (o.map aL))) fun nr=>(bif (!nr.1) then (c46 (T q) 1501 (a0:Int) (-1) fun aX=>(some ((.agg [(iC aX.1.1),(iC aX.1.2.1),(iC aX.1.2.2.1)]),[]))) else (some ((.agg [(iC 0),(iC 0),(iC 0)]),[]))))) (J dw K Q):=by
    refine aF (by simp) ?_;rw [du,qz];exact M0 (m:=q) (N:=10) (by omega) (by omega) (by omega) fun b=>aj (fun _=>mT hF (by omega) (by decide)) (fun _=>fin)
   exact M5 (m:=q) (by omega) cK (aj (fun _=>mT hF (by omega) (by decide)) (fun _=>fZ)) (fun j hj=>aj (fun _=>mT hF (by omega) (by decide)) (fun _=>fZ))
theorem apE (q:Nat) (hq:200≤q) {ay:List PC} (cK:ay.length≤100) {p:PC} (hp:gK p) {b1 b2 b3:Bool} {r1 r2:RR} {a0:Nat} {a2:au eO} {K:dw.T→OR} (hF:oi K Q) {oz:Bool} (hg:oz=true→HD p) (h:HD p→Wp (K ((0,0,0,()),())) Q) :
  Wp (Gh (T q) q q (a0:Int) ((b1,r1),(b2,r2),(b3,ay.map eD),()) a2 (tP p) oz true [] p.pb (p.pm.map eK) (ae (p.pm.map eK).length) 0) (J dw K Q):=by
 have h2:=hp.p1;obtain ⟨r,hr⟩:=bm 1 q;have e0:Gh (T q) q q=Gh (T q) q (r+1):=by rw [←hr]
 rw [e0];refine aC amx (aj (fun g1=>?_) (fun g1=>aj (fun _=>mT hF (by omega) (by decide)) (fun g2=>?_)))
 ·have af:0 < p.pm.length:=bN g1;have hx:=hp.p2 _ (bM af);have eL:∀g':Bool,(g'=true→oz=true)→Wp (gd (true&&true&&true) (uj (T q) q r (a0:Int) ((b1,r1),(b2,r2),(b3,ay.map eD),()) a2 (tP p) g' [[.str p.pm[0].1]] p.pb (p.pm.map eK) (ae (p.pm.map eK).length) (ak (0+1)))) (J dw K Q):=by
   intro g' sD;refine aF rfl ?_;exact adi q hq cK hp hF hg h r 1 g' [p.pm[0].1] (by omega) (by omega) rfl sD
  refine aM GZ (i:=0) rfl (gE af) (aj (fun g3=>?_) (fun g3=>eL false (fun h0=>by cases h0)));exact gZ (m:=q) (by omega) (aj (fun g4=>ad8 (m:=q) (by omega) hx.1 (eL true (fun _=>g3))) (fun g4=>eL false (fun h0=>by cases h0)))
 ·have ok:=hg (by simpa using g2);have fin:Wp (some ((.agg [(iC 0),(iC 0),(iC 0)]),[])) (J dw K Q):=aA (aE rfl (h ok));have fZ:Wp (uW (T q) true [] fun nr=>(bif (!nr.1) then (c46 (T q) 1501 (a0:Int) (-1) fun aX=>(some ((.agg [(iC aX.1.1),(iC aX.1.2.1),(iC aX.1.2.2.1)]),[]))) else (some ((.agg [(iC 0),(iC 0),(iC 0)]),[])))) (J dw K Q):=
   M0 (m:=q) (l:=[]) (N:=10) (by omega) (by simp) (by omega) fun b=>aj (fun _=>mT hF (by omega) (by decide)) (fun _=>fin)
  exact M5 (m:=q) (by omega) cK (aj (fun _=>mT hF (by omega) (by decide)) (fun _=>fZ)) (fun j hj=>aj (fun _=>mT hF (by omega) (by decide)) (fun _=>fZ))
theorem aqV (hm:210≤m) {b1 b2 b3:Bool} {r1 r2:RR} {ay:List PC} (cK:ay.length≤100) {i:Nat} {p:PC} (hi:ay[i]? = some p) (hp:gK p) {K:dw.T→OR} (hF:oi K Q) (h:HD p→Wp (K ((0,0,0,()),())) Q):Wp (WA (T m) b1 r1 b2 r2 b3 (ay.map eD) (i:Int) K) Q:=by
 obtain ⟨m,rfl⟩:=cE hm;obtain ⟨r,hr⟩:=bm 1 m;have e1:vI (T m) m m=vI (T m) m (r+1):=by rw [←hr]
 have go:∀oz,(oz=true→HD p)→Wp (vI (T m) m m (i:Int) ((b1,r1),(b2,r2),(b3,ay.map eD),()) (0,0,0,()) (tP p) oz) (J dw K Q):=by
  intro oz hg;rw [e1];exact aC amA (apE m (by omega) cK hp hF hg h)
 have no:=go false (fun h0=>by cases h0);refine bH ahl ?_;refine aM (enc:=eD) (f:=tP) (fun a=>⟨by simp [eD],rfl⟩) rfl hi ?_;refine gZ (m:=m) (by omega) (aj (fun g1=>aj (fun g2=>aj (fun g3=>aj (fun g4=>go _ fun g5=>⟨g1,?_,?_,?_⟩) (fun _=>no)) (fun _=>no)) (fun _=>no)) (fun _=>no))
 ·have:ae (p.pm.map eK).length≤6:=tF g2;rw [bI,cy] at this;omega
 ·have:ae (p.ss.map cT).length≤80:=tF g4;rw [bI,cy] at this;omega
 ·have:ae (p.tm.map bA).length≤160:=tF g5;rw [bI,cy] at this;omega
end
end
section
open Go Go.ax QQ
theorem zg {X Y:Type} {L:List X} {f:X→Y} {i:Nat} (g:decide ((i:Int) < ae (L.map f).length)=false):L.length≤i:=by
 have:=lg g;rw [bI,cy] at this;omega
theorem w1 {i:Nat} (h:i≤100000000):ak ((i:Int)+1)=((i+1:Nat):Int):=gM
theorem apI (m:Nat) (b:Bool):T (m+60) 204 [.one (lC (.im b) 1 [])] []=some (.aq [],[]):=by kernel_rfl
theorem apJ (m:Nat) (b:Bool) (s:BB):T (m+60) 204 [.one (lC (.im b) 1 [[.str s]])] []=some (.aq [],[]):=by kernel_rfl
section
variable {m:Nat} {Q:V→List (List C)→Prop}
theorem Ur {L:List BB} {z:Int} {i:Nat} {a:BB} {K:au [.str]→OR} (hz:z=(i:Int)) (ha:L[i]? = some a) (h:Wp (K (a,())) Q):Wp (iR [.str] 0 1 (L.map aL) z K) Q:=
 aM ry hz ha h
abbrev cV (Cl:bX) (z:Int) (x1:au s9) (x2:au [.tg 6]) (x3:au [.tg 1]) (K:Dv.T→OR):OR:=aH Dv (Cl 203 [(.one (iC z)),pE,(.one (.ptr (.e 1) 0 0)),(.one (.ptr (.e 2) 0 0))] [(bx s9 x1),(bx [.tg 6] x2),(bx [.tg 1] x3)]) K
def VK (m:Nat) (z:Int) (b:Bool) (tm:List TM) (n:Nat):Prop:=∀(K:Dv.T→OR) (Q:V→List (List C)→Prop) (y:au s9) (o:List BB),o.length+n≤10→(∀o':List BB,o'.length≤o.length+n→Wp (K ((),((),()),tB b tm,iW (o'.map aL),())) Q)→Wp (cV (T m) z y (tB b tm) (iW (o.map aL)) K) Q
theorem VK.mono {z:Int} {b:Bool} {tm:List TM} {n n':Nat} (h:VK m z b tm n) (hn:n≤n'):VK m z b tm n':=
 fun K Q y o ho hk=>h K Q y o (by omega) fun o' h'=>hk o' (by omega)
theorem aqt {b:Bool} {tm:List TM}:VK (m+1) (-1) b tm 0:=fun K Q y o ho hk=>
 bH Xv (fK rfl (aA (aE rfl (hk o (by omega)))))
theorem Vy {o:List BB} {Z:Tag→OR} (hX:o=[]→Wp (Z (.im true)) Q) (hY:o≠[]→Wp (Z .own) Q):Wp (zZ (nq (o.map aL)).1 Z) Q:=by
 cases o with
 | nil=>exact eZ (hX rfl)
 | cons a t=>exact jb (hY (by simp))
theorem ad3 {b:Bool} {tm:List TM} {t:TM} {i x y:Nat} (hi:tm[i]? = some t) (hl:VK m t.l b tm x) (hr:VK m t.r b tm y):VK (m+1) (i:Int) b tm (x+y+if t.kd=0 then 1 else 0):=by
 intro K Q yy o ho hk;have d:∀c,c < 6→∀(v:TM→Int),(∀a:TM,(bA a)[c]? = some (.int .i64 (v a)))→∀a:TM,c+1≤(bA a).length∧dV cf (List.take 1 (List.drop c (bA a)))=some (v a,()):=by
  intro c hc v hv a;refine ⟨by simp [bA];omega,?_⟩;have:List.take 1 (List.drop c (bA a))=[.int .i64 (v a)]:=by
   have g:c < (bA a).length:=by simp [bA];omega
   rw [tA g];have:=hv a;rw [gE g] at this;simp [oY this]
  rw [this];rfl
 refine bH Xv (dJ (bV (by omega)) (eZ ?_));refine aM (enc:=bA) (f:=fun t=>(t.l,())) (d 4 (by omega) _ fun a=>rfl) rfl hi ?_;refine hl _ _ _ o (by omega) fun o1 h1=>eZ ?_
 refine aM (enc:=bA) (f:=fun t=>(t.r,())) (d 5 (by omega) _ fun a=>rfl) rfl hi ?_;refine hr _ _ _ o1 (by omega) fun o2 h2=>eZ ?_
 refine aM (enc:=bA) (f:=fun t=>(t.kd,())) (d 0 (by omega) _ fun a=>rfl) rfl hi (aj (fun g=>?_) (fun g=>aA (aE rfl (hk o2 (by omega)))));have nK:t.kd=0:=by have:(t.kd==0)=true:=g;simpa using this
 rw [aJ nK] at hk;have fin:=hk (o2++[t.nm]) (by simp;omega);have dn:∀a:TM,1+1≤(bA a).length∧dV [.str] (List.take 1 (List.drop 1 (bA a)))=some (a.nm,()):=fun a=>⟨by simp [bA],rfl⟩
 refine Vy (o:=o2) (fun he=>?_) (fun he=>?_)
 ·subst he;exact aM (enc:=bA) (f:=fun t=>(t.nm,())) dn rfl hi (aF rfl (aA (by exact aE rfl fin)))
 ·refine aM (enc:=bA) (f:=fun t=>(t.nm,())) dn rfl hi (aF ?_ (aA ?_))
  ·have e:(iW (o2.map aL)).1.2.length=o2.length:=by cases o2<;>simp [iW,nq]
   rw [e];exact gX (by omega) (by omega)
  ·rw [du];have e:iW ((o2++[t.nm]).map aL)=((.own,o2.map aL++[aL t.nm]),()):=by
    rw [eB];cases o2 with
    | nil=>exact absurd rfl he
    | cons a t=>rfl
   rw [e] at fin;exact aE rfl fin
theorem Uc {b:Bool} {tm:List TM} {t:TM} {i:Nat} (hi:tm[i]? = some t) (h:xJ t):VK (m+2) (i:Int) b tm (if t.kd=0 then 1 else 0):=by
 have n:=aqt (m:=m) (b:=b) (tm:=tm);exact (ad3 (m:=m+1) (x:=0) (y:=0) hi (by rw [h.2.1];exact n) (by rw [h.2.2.1];exact n)).mono (by omega)
theorem aqu {b:Bool} {tm:List TM} (hT:ji tm) {i:Nat} (hi:i < tm.length):VK (m+3) (i:Int) b tm 1:=by
 have hg:tm[i]? = some tm[i]:=gE hi;rcases hT i _ hg with h | ⟨_,hk,a,c,x,y,h1,h2,_,_,_,h6,h7,h8,h9,hv⟩
 ·exact (Uc (m:=m+1) hg h).mono (by split<;>omega)
 ·refine (ad3 (m:=m+2) (x:=if x.kd=0 then 1 else 0) (y:=if y.kd=0 then 1 else 0) hg (by rw [h1];exact Uc h6 h8) (by rw [h2];exact Uc h7 h9)).mono ?_;have:tm[i].kd≠0:=by omega
  rw [aB this];rcases hv with hv | hv<;>rw [aB hv]<;>split<;>omega
theorem ad9 (hm:2≤m) {b:Bool} {l:List BB} (hl:l.length≤1) {K:df.T→OR} (h:Wp (K ((b,l.map aL),())) Q):Wp (Wx (T m) b (l.map aL) K) Q:=by
 obtain ⟨m,rfl⟩:=cE hm;refine bH ahv (fK (aY ?_) (aA (aE rfl h)));rw [bI,cy];omega
theorem aem (hm:60≤m) {b:Bool} {l:List BB} (hl:l.length≤1) {K:acO.T→OR} (h:∀x,Wp (K x) Q):Wp (Ww (T m) b (l.map aL) K) Q:=by
 obtain ⟨m,rfl⟩:=bm 60 m;match l,hl with
 | [],_=>exact ke (apI m b) rfl (h _)
 | [s],_=>exact ke (apJ m b s) rfl (h _)
 | a::c::t,hl=>simp at hl
theorem aes (hm:120≤m) {b:Bool} {tm:List TM} (hT:ji tm) {z:Int} {K:df.T→OR} (h:∀b (l:List BB),l.length≤1→Wp (K ((b,l.map aL),())) Q):Wp (c156 (T m) b (tm.map bA) z K) Q:=by
 obtain ⟨m,rfl⟩:=bm 4 m;refine bH ahA (Um (m:=m+3) (by omega) (aj (fun _=>aA (aE rfl (h true [] (by simp)))) (fun g=>?_)));obtain ⟨i,rfl,hi⟩:=aa4 (show sU (tm.map wA) z=true by simpa using g);rw [cy] at hi;refine aqu hT hi _ _ _ [] (by simp) fun o ho=>?_
 have hl:o.length≤1:=ho;refine Vy (o:=o) (fun he=>?_) (fun he=>?_)
 ·subst he;exact aem (m:=m+3) (l:=[]) (by omega) (by simp) fun _=>(ad9 (m:=m+3) (l:=[]) (by omega) (by simp) (aA (aE rfl (h _ [] (by simp)))))
 ·have e:aW (whole (iW (o.map aL)).1.2)=o.map aL:=by
   rw [du,show (iW (o.map aL)).1.2=o.map aL by cases o<;>rfl];exact qz o
  refine aF (by simp) ?_;dsimp only [zB,zW,zO];rw [e];refine aem (m:=m+3) (by omega) hl fun _=>(aF (by simp) ?_)
  exact ad9 (m:=m+3) (by omega) hl (aA (aE rfl (h _ o hl)))
theorem VN (q:Nat) (wb:Bool) (ws:List WR) (hl:ws.length≤100) {K:df.T→OR} (h:∀b (l:List BB),l.length=ws.length→Wp (K ((b,l.map aL),())) Q):∀(c i:Nat) (o:List BB),ws.length - i < c→i≤ws.length→o.length=i→
  Wp (K0 (T q) q c (o.map aL) wb (ws.map cW) (ae (ws.map cW).length) (i:Int)) (J df K Q)
 | 0,i,o,hc,_,_=>by omega
 | c+1,i,o,hc,hi,ho=>by
  refine aC amv (aj (fun g1=>?_) (fun g1=>?_))
  ·have af:=bN g1;refine aM At rfl (gE af) (aF (gX (by simp;omega) (by omega)) ?_);rw [w1 (by omega),du];have:=VN q wb ws hl h c (i+1) (o++[ws[i].nm]) (by omega) (by omega) (by simp;omega);rw [eB] at this;exact this
  ·have:=zg g1;refine aF (by simp) ?_;rw [du,qz];exact aA (aE rfl (h false o (by omega)))
theorem ad6 (hm:210≤m) {s:PS} (ho:mC s) {K:df.T→OR} (h:∀b (l:List BB),l.length=(br s).length→Wp (K ((b,l.map aL),())) Q) :
  Wp (yP (T m) s.kd s.nm s.pr s.lb s.pc s.tm s.gt (s.ag.map bF) s.ct (s.cs.map eC) s.wb (s.ws.map cW) s.nx K) Q:=by
 obtain ⟨m,rfl⟩:=cE hm;obtain ⟨r,hr⟩:=bm 1 m;have hl:=ho.2.2.2;have e1:K3 (T m) m m=K3 (T m) m (r+1):=by rw [←hr]
 have e0:KZ (T m) m m=KZ (T m) m (r+1):=by rw [←hr]
 have one:(s.kd=1∨s.kd=8)→Wp (some ((.one (lC (.im false) 1 [[(.str s.nm)]])),[])) (J df K Q):=fun hk=>
  aA (aE rfl (h false [s.nm] (by unfold br kM;rw [aJ (by rcases hk with e | e<;>rw [e]<;>rfl)];rfl)))
 refine bH ahg (aj (fun g=>one (.inl (by simpa using g))) (fun g1=>aj (fun g=>one (.inr (by simpa using g))) (fun g2=>aj (fun g=>?_) (fun g3=>?_))))
 ·have hk:s.kd=5:=by simpa using g
  have hn:(br s).length=s.ws.length:=by unfold br kM;rw [aB (by rw [hk];decide)];simp
  rw [hn] at h;rw [e0];refine aC amu (aj (fun g1=>?_) (fun g1=>?_))
  ·have af:=bN (i:=0) g1;refine aM At (i:=0) rfl (gE af) (aF rfl ?_);exact VN m s.wb s.ws hl h r 1 [s.ws[0].nm] (by omega) (by omega) rfl
  ·have:=zg (i:=0) g1;exact aA (aE rfl (h true [] (by simp;omega)))
 ·rw [e1];refine aC amw (Uj (m:=m) (by omega) ho fun b=>?_);have nO:(br s).length≤100:=by
   unfold br;split
   ·simp
   ·simpa using hl
  refine aF ?_ ?_
  ·have:((br s).map bF).length=(br s).length:=by simp
   dsimp only;rw [this];simp;omega
  ·have e:∀n:Nat,aW (List.replicate n [D.str []])=(List.replicate n ([]:BB)).map aL:=by
    intro n;rw [show List.replicate n [D.str []]=(List.replicate n ([]:BB)).map aL by simp [aL],qz]
   rw [e];exact aA (aE rfl (h false _ (by simp)))
theorem ad7 (hm:120≤m) {b1 b2 b3:Bool} {r1 r2:RR} {ay:List PC} (hl:ay.length≤100) {s:BB} {z:Int} {K:bj.T→OR} (h:∀b,Wp (K (b,())) Q):Wp (c157 (T m) b1 r1 b2 r2 b3 (ay.map eD) s z K) Q:=by
 obtain ⟨m,rfl⟩:=cE hm;have f:∀b,Wp (some (.one (bC b),[])) (J bj K Q):=fun b=>aA (aE rfl (h b))
 refine bH ahh (M5 (m:=m) (by omega) hl (dJ rfl (f false)) (fun i hi=>aj (fun _=>?_) (fun _=>f false)));exact aM acn rfl (gE hi) (f _)
end
end
section
open Go Go.ax QQ
abbrev GR (b1 b2 b3:Bool) (ps:List PR) (r2:RR) (ay:List PC):au cZ:=((b1,ps.map di),(b2,r2),(b3,ay.map eD),())
section
variable {m:Nat} {Q:V→List (List C)→Prop} {b1 b2 b3:Bool} {ps:List PR} {r2:RR} {ay:List PC}
theorem adp (q:Nat) (hq:230≤q) {p:PR} (hp:p.rs.length≤100) {K:bj.T→OR} (h:∀b,Wp (K (b,())) Q) {c0:Nat} (o:List BB) (hl:o.length≤200):∀(c i:Nat),o.length - i < c→i≤o.length→
  Wp (La (T q) q c0 c (p.nm,(p.rt,p.rs.map aL),(p.pt,p.il),()) (o.map aL) 0 (o.map aL).length (ae (o.map aL).length) (i:Int)) (J bj K Q)
 | 0,i,hc,_=>by omega
 | c+1,i,hc,hi=>by
  refine aC amI (aj (fun g1=>?_) (fun _=>aA (aE rfl (h true))));have af:=bN g1;refine hC rfl (aF (aY (by simpa using af)) (fq (b:=aL o[i]) (by rw [db,bS,gE af];rfl) (aF rfl (iN (v:=(o[i],())) rfl ?_))));refine Ug (m:=q) (N:=200) (by omega) (by omega) (by omega) fun b=>aj (fun _=>aA (aE rfl (h false))) (fun _=>?_)
  rw [w1 (by omega)];exact adp q hq hp h o hl c (i+1) (by omega) (by omega)
theorem adq (q:Nat) (hq:230≤q) {p:PR} (hp:p.rs.length≤100) {K:bj.T→OR} (h:∀b,Wp (K (b,())) Q) {c0:Nat} {cb:Bool} (cs:List CR) (hl:cs.length≤100):∀(c i:Nat) (o:List BB),cs.length - i < c→i≤cs.length→o.length=i+1→
  Wp (Ld (T q) q c0 c (p.nm,(p.rt,p.rs.map aL),(p.pt,p.il),()) (o.map aL) cb (cs.map eC) (ae (cs.map eC).length) (i:Int)) (J bj K Q)
 | 0,i,o,hc,_,_=>by omega
 | c+1,i,o,hc,hi,ho=>by
  have fl:Wp rF (J bj K Q):=aA (aE rfl (h false));refine aC amK (aj (fun g1=>?_) (fun _=>aj (fun _=>fl) (fun _=>aF (by simp) ?_)))
  ·have af:=bN g1;refine aM (enc:=eC) (f:=fun c=>(c.ro,c.pc,(c.gt,c.ag.map bF),())) (fun a=>⟨by simp [eC],rfl⟩) rfl (gE af) (aF (gX (by simp;omega) (by omega)) ?_);rw [w1 (by omega),du];have:=adq q hq hp h (c0:=c0) (cb:=cb) cs hl c (i+1) (o++[cs[i].ro]) (by omega) (by omega) (by simp;omega);rw [eB] at this;exact this
  ·rw [du,qz];obtain ⟨r,hr⟩:=bm 1 q;have e2:Lb (T q) q c0 q=Lb (T q) q c0 (r+1):=by rw [←hr]
   refine M0 (m:=q) (N:=200) (by omega) (by omega) (by omega) fun b=>aj (fun _=>fl) (fun _=>?_)
   rw [e2];exact aC amJ (adp q hq hp h o (by omega) q 0 (by omega) (by omega))
theorem ado (q:Nat) (hq:230≤q) (e9:ps.length≤100) (fG:∀p∈ps,p.rs.length≤100) {s:PS} (ho:mC s) {bb:Bool} {K:bj.T→OR} (h:∀b,Wp (K (b,())) Q):∀(c i:Nat),ps.length - i < c→i≤ps.length→
  Wp (K9 (T q) q c (tS s) bb (ps.map di) (ae (ps.map di).length) (i:Int)) (J bj K Q)
 | 0,i,hc,_=>by omega
 | c+1,i,hc,hi=>by
  refine aC amH (aj (fun g1=>?_) (fun _=>aA (aE rfl (h false))));have af:=bN g1;refine aM SZ rfl (gE af) (aj (fun _=>?_) (fun _=>?_))
  ·rw [w1 (by omega)];exact ado q hq e9 fG ho h c (i+1) (by omega) (by omega)
  ·exact adq q hq (fG _ (bM af)) h s.cs ho.2.1 q 0 [s.pr] (by have:=ho.2.1;omega) (by omega) rfl
theorem aqW (hm:240≤m) (e9:ps.length≤100) (fG:∀p∈ps,p.rs.length≤100) {r3:RR} {s:PS} (ho:mC s) {K:bj.T→OR} (h:∀b,Wp (K (b,())) Q) :
  Wp (Wi (T m) b1 (ps.map di) b2 r2 b3 r3 s.kd s.nm s.pr s.lb s.pc s.tm s.gt (s.ag.map bF) s.ct (s.cs.map eC) s.wb (s.ws.map cW) s.nx K) Q:=by
 obtain ⟨m,rfl⟩:=cE hm;exact bH aho (ado m (by omega) e9 fG ho h m 0 (by omega) (by omega))
variable {K:iK.T→OR}
theorem adx (q:Nat) (hq:240≤q) (e9:ps.length≤100) (fG:∀p∈ps,p.rs.length≤100) (gH:ay.length≤100) {s:PS} (ho:mC s) (h:∀e,Wp (K (e,())) Q):∀(c i:Nat),s.cs.length - i < c→i≤s.cs.length→
  Wp (Lh (T q) q c (GR b1 b2 b3 ps r2 ay) (tS s) s.ct (s.cs.map eC) (ae (s.cs.map eC).length) (i:Int)) (J iK K Q)
 | 0,i,hc,_=>by omega
 | c+1,i,hc,hi=>by
  have hl:=ho.2.1;have an:∀z,Wp (some ((.one (iC z)),[])) (J iK K Q):=fun z=>aA (aE rfl (h z))
  refine aC amW (aj (fun g1=>?_) (fun _=>aj (fun _=>aqW (m:=q) (by omega) e9 fG ho fun b=>aj (fun _=>an _) (fun _=>an _)) (fun _=>an _)));have af:=bN g1;refine aM (enc:=eC) (f:=fun c=>(c.ro,c.pc,(c.gt,c.ag.map bF),())) (fun a=>⟨by simp [eC],rfl⟩) rfl (gE af) ?_;refine ad7 (m:=q) (by omega) gH fun b=>aj (fun _=>an _) (fun _=>?_)
  rw [w1 (by omega)];exact adx q hq e9 fG gH ho h c (i+1) (by omega) (by omega)
theorem apS (q:Nat) (hq:240≤q) (e9:ps.length≤100) (fG:∀p∈ps,p.rs.length≤100) (gH:ay.length≤100) {s:PS} (ho:mC s) (h:∀e,Wp (K (e,())) Q) :
  Wp (CU (T q) q q (GR b1 b2 b3 ps r2 ay) (tS s)) (J iK K Q):=by
 obtain ⟨r,hr⟩:=bm 1 q;have e1:CU (T q) q q=CU (T q) q (r+1):=by rw [←hr]
 rw [e1];exact aC amX (adx q hq e9 fG gH ho h q 0 (by have:=ho.2.1;omega) (by omega))
theorem ady (q:Nat) (hq:240≤q) (e9:ps.length≤100) (fG:∀p∈ps,p.rs.length≤100) (gH:ay.length≤100) {s:PS} (ho:mC s) (h:∀e,Wp (K (e,())) Q) {bb:Bool} {bd:List BB} (hb:bd.length≤200) {lb:Bool} (l:List BB) (hl:l.length≤100):∀(c i:Nat),l.length - i < c→i≤l.length→
  Wp (Ab (T q) q c bb (bd.map aL) (GR b1 b2 b3 ps r2 ay) (tS s) lb (l.map aL) (ae (l.map aL).length) (i:Int)) (J iK K Q)
 | 0,i,hc,_=>by omega
 | c+1,i,hc,hi=>by
  have an:∀z,Wp (some ((.one (iC z)),[])) (J iK K Q):=fun z=>aA (aE rfl (h z))
  have go:=apS q hq e9 fG gH (b1:=b1) (b2:=b2) (b3:=b3) (r2:=r2) ho h;refine aC amY (aj (fun g1=>?_) (fun _=>aj (fun _=>ad7 (m:=q) (by omega) gH fun b=>aj (fun _=>an _) (fun _=>go)) (fun _=>go)));have af:=bN g1;rw [w1 (by omega)];have nx:=ady q hq e9 fG gH ho h (bb:=bb) hb (lb:=lb) l hl c (i+1) (by omega) (by omega);exact Ur rfl (gE af) (aj (fun _=>Ug (m:=q) (N:=200) (by omega) hb (by omega) fun b=>aj (fun _=>an _) (fun _=>nx)) (fun _=>nx))
theorem adD (q:Nat) (hq:240≤q) (e9:ps.length≤100) (fG:∀p∈ps,p.rs.length≤100) (gH:ay.length≤100) {s:PS} (ho:mC s) (h:∀e,Wp (K (e,())) Q) {bb:Bool} {bd:List BB} (hb:bd.length≤200) :
  Wp (yP (T q) s.kd s.nm s.pr s.lb s.pc s.tm s.gt (s.ag.map bF) s.ct (s.cs.map eC) s.wb (s.ws.map cW) s.nx fun aP=>Ab (T q) q q bb (bd.map aL) (GR b1 b2 b3 ps r2 ay) (tS s) aP.1.1 aP.1.2 (ae aP.1.2.length) 0) (J iK K Q):=by
 have nO:(br s).length≤100:=by
  unfold br;split
  ·simp
  ·simpa using ho.2.2.2
 exact ad6 (m:=q) (by omega) ho fun b l hl=>ady q hq e9 fG gH ho h hb l (by omega) q 0 (by omega) (by omega)
theorem adz (q:Nat) (hq:240≤q) (e9:ps.length≤100) (fG:∀p∈ps,p.rs.length≤100) (gH:ay.length≤100) {s:PS} (ho:mC s) (h:∀e,Wp (K (e,())) Q) {bb:Bool} {bd:List BB} (hb:bd.length≤200) (o:List BB) (hl:o.length≤30000):∀(c i:Nat),o.length - i < c→i≤o.length→
  Wp (Li (T q) q c bb (bd.map aL) (GR b1 b2 b3 ps r2 ay) (tS s) (o.map aL) 0 (o.map aL).length (ae (o.map aL).length) (i:Int)) (J iK K Q)
 | 0,i,hc,_=>by omega
 | c+1,i,hc,hi=>by
  refine aC amZ (aj (fun g1=>?_) (fun _=>adD q hq e9 fG gH ho h hb));have af:=bN g1;refine hC rfl (aF (aY (by simpa using af)) (fq (b:=aL o[i]) (by rw [db,bS,gE af];rfl) (aF rfl (iN (v:=(o[i],())) rfl ?_))));refine Ug (m:=q) (N:=200) (by omega) hb (by omega) fun b=>aj (fun _=>aA (aE rfl (h _))) (fun _=>?_)
  rw [w1 (by omega)];exact adz q hq e9 fG gH ho h hb o hl c (i+1) (by omega) (by omega)
theorem adA (q:Nat) (hq:30010≤q) (e9:ps.length≤100) (fG:∀p∈ps,p.rs.length≤100) (gH:ay.length≤100) {s:PS} (ho:mC s) (h:∀e,Wp (K (e,())) Q) {bb:Bool} {bd:List BB} (hb:bd.length≤200) (o:List BB) (hl:o.length≤30000) {x:au fw} :
  Wp (pH (T q) q q bb (bd.map aL) (GR b1 b2 b3 ps r2 ay) x (tS s) (o.map aL)) (J iK K Q):=by
 obtain ⟨r,hr⟩:=bm 1 q;have e1:pH (T q) q q=pH (T q) q (r+1):=by rw [←hr]
 rw [e1];exact aC am1 (adz q (by omega) e9 fG gH ho h hb o hl q 0 (by omega) (by omega))
theorem adB (q:Nat) (hq:30010≤q) (e9:ps.length≤100) (fG:∀p∈ps,p.rs.length≤100) (gH:ay.length≤100) {s:PS} (ho:mC s) (h:∀e,Wp (K (e,())) Q) {bb:Bool} {bd:List BB} (hb:bd.length≤200) {p:PC} (hT:ji p.tm) {lb:Bool} (l:List Int) (hl:l.length≤20000):∀(c i:Nat) (o:List BB),l.length - i < c→i≤l.length→o.length≤i→
  Wp (Ll (T q) q c bb (bd.map aL) (GR b1 b2 b3 ps r2 ay) (tP p) (tS s) (o.map aL) lb (l.map bF) (ae (l.map bF).length) (i:Int)) (J iK K Q)
 | 0,i,o,hc,_,_=>by omega
 | c+1,i,o,hc,hi,hol=>by
  have go:∀o:List BB,o.length≤30000→Wp (pH (T q) q q bb (bd.map aL) (GR b1 b2 b3 ps r2 ay) (tP p) (tS s) (o.map aL)) (J iK K Q):=fun o hl=>adA q hq e9 fG gH ho h hb o hl
  have more:Wp (gd ((o.map aL).length==(o.map aL).length&&true&&decide (((o.map aL).length+1) * 16≤140737488355328)) (pH (T q) q q bb (bd.map aL) (GR b1 b2 b3 ps r2 ay) (tP p) (tS s) (o.map aL++whole ([[D.str []]].set 0 [D.str s.nm])))) (J iK K Q):=by
   refine aF (gX (by simp;omega) (by omega)) ?_;rw [du];have:=go (o++[s.nm]) (by simp;omega);rw [eB] at this;exact this
  refine aC am4 (aj (fun g1=>?_) (fun _=>aj (fun _=>more) (fun _=>aj (fun _=>more) (fun _=>aj (fun _=>more) (fun _=>go o (by omega))))));have af:=bN g1;refine aM nV rfl (gE af) ?_;refine aes (m:=q) (by omega) hT fun b l' mf=>aF ?_ ?_
  ·dsimp only;rw [DK];simp;omega
  ·dsimp only;rw [w1 (by omega),←eB];exact adB q hq e9 fG gH ho h hb hT l hl c (i+1) (o++l') (by omega) (by omega) (by simp;omega)
theorem adC (q:Nat) (hq:30010≤q) (e9:ps.length≤100) (fG:∀p∈ps,p.rs.length≤100) (gH:ay.length≤100) {s:PS} (ho:mC s) (h:∀e,Wp (K (e,())) Q) {bb:Bool} {bd:List BB} (hb:bd.length≤200) {p:PC} (hT:ji p.tm) {lb:Bool} (l:List Int) (hl:l.length≤20000):∀(c i:Nat),l.length - i < c→i≤l.length→
  Wp (Lk (T q) q c bb (bd.map aL) (GR b1 b2 b3 ps r2 ay) (tP p) (tS s) true [] lb (l.map bF) (ae (l.map bF).length) (i:Int)) (J iK K Q)
 | 0,i,hc,_=>by omega
 | c+1,i,hc,hi=>by
  obtain ⟨r,hr⟩:=bm 1 q;have e1:Lj (T q) q q=Lj (T q) q (r+1):=by rw [←hr]
  have e2:Gl (T q) q q=Gl (T q) q (r+1):=by rw [←hr]
  have go:Wp (pH (T q) q q bb (bd.map aL) (GR b1 b2 b3 ps r2 ay) (tP p) (tS s) [[.str s.nm]]) (J iK K Q):=adA q hq e9 fG gH ho h hb [s.nm] (by simp);refine aC am3 (aj (fun g1=>?_) (fun _=>aj (fun _=>aF rfl go) (fun _=>aj (fun _=>aF rfl go) (fun _=>aj (fun _=>aF rfl go) (fun _=>?_)))))
  ·have af:=bN g1;refine aM nV rfl (gE af) ?_;refine aes (m:=q) (by omega) hT fun b l' mf=>aF ?_ ?_
   ·dsimp only;rw [DK];simp;omega
   ·dsimp only;rw [w1 (by omega)];refine aj (fun g=>?_) (fun g=>?_)
    ·rw [show l'.map aL=[] by simpa using g];exact adC q hq e9 fG gH ho h hb hT l hl c (i+1) (by omega) (by omega)
    ·exact adB q hq e9 fG gH ho h hb hT l hl c (i+1) l' (by omega) (by omega) (by omega)
  ·rw [e1];refine aC am2 ?_;rw [e2];exact aC am0 (dJ rfl (adD q (by omega) e9 fG gH ho h hb))
theorem aqX (hm:30020≤m) (e9:ps.length≤100) (fG:∀p∈ps,p.rs.length≤100) (gH:ay.length≤100) {s:PS} (ho:mC s) (h:∀e,Wp (K (e,())) Q) {bb:Bool} {bd:List BB} (hb:bd.length≤200) {p:PC} (hT:ji p.tm) :
  Wp (Ik (T m) b1 (ps.map di) b2 r2 b3 (ay.map eD) p.nm p.pb (p.pm.map eK) p.tb (p.tm.map bA) p.sb (p.ss.map cT) s.kd s.nm s.pr s.lb s.pc s.tm s.gt (s.ag.map bF) s.ct (s.cs.map eC) s.wb (s.ws.map cW) s.nx bb (bd.map aL) K) Q:=by
 obtain ⟨m,rfl⟩:=cE hm;exact bH ahr (aep (m:=m) (by omega) ho fun b l hl=>adC m (by omega) e9 fG gH ho h hb hT l hl m 0 (by omega) (by omega))
end
end
section
open Go Go.ax QQ
def vD (o:Option (List BB)):List BB:=o.getD []
def gD (o:Option (List BB)):Tag:=match o with | none=>.im true | some _=>.own
def cD (o:Option (List BB)):List D:=[.sl (gD o) 1 ((vD o).map aL)]
theorem Tm {l:List (Option (List BB))} {i:Nat} (h:i < l.length) {v:List BB}:cd (l.map cD) (0+i) 0 (.sl .own 1 (v.map aL))=(l.set i (some v)).map cD:=by
 have:(l.map cD).getD (0+i) []=cD l[i]:=by simp [List.getD,h]
 unfold cd;rw [this,db,AW];rfl
theorem acP {l:List (Option (List BB))} {i:Nat} (h:i < l.length) {v:List BB}:cd (cd (l.map cD) (0+i) 0 .dead) (0+i) 0 (.sl .own 1 (v.map aL))=(l.set i (some v)).map cD:=by
 rw [←Tm h];unfold cd;have e:(((l.map cD).set (0+i) (((l.map cD).getD (0+i) []).set 0 .dead)).getD (0+i) [])=((l.map cD).getD (0+i) []).set 0 .dead:=by
  simp [List.getD,h]
 rw [e,UZ,UZ]
def SB (l:List (Option (List BB))) (n:Nat):Prop:=l.length=n∧∀k o,l[k]? = some o→(vD o).length≤10+k
theorem SB.set {l:List (Option (List BB))} {n k:Nat} {v:List BB} (h:SB l n) (hv:v.length≤10+k):SB (l.set k (some v)) n:=by
 refine ⟨by simpa using h.1,fun j o hj=>?_⟩;by_cases e:k=j
 ·subst e;by_cases hk:k < l.length
  ·rw [yz hk] at hj;cases hj;exact hv
  ·rw [pV (by simp;omega)] at hj;cases hj
 ·rw [qL e] at hj;exact h.2 j o hj
theorem aiI (l:List BB):sj (l.map aL)=true:=by
 simp [sj,aL,D.flat]
section
variable {m:Nat} {Q:V→List (List C)→Prop} {b1 b2 b3:Bool} {ps:List PR} {r2:RR} {ay:List PC} {K:dw.T→OR}
theorem Bk {l:List (Option (List BB))} {i:Nat} (h:i < l.length):(l.map cD)[0+i]? = some (cD l[i]):=by
 rw [db,bS,gE h];rfl
theorem W2 {l:List (Option (List BB))} {i:Nat} (h:i < l.length) {z:Int} (hz:z=(i:Int)) {F:Bool→List D→au [.sl 1]→OR} {G:Nat→au [.sl 1]→OR} (hF:gD l[i] = .im true→vD l[i]=[]→Wp (F true (cD l[i]) ((.im true,[]),())) Q) (hG:gD l[i] = .own→Wp (G i ((.own,(vD l[i]).map aL),())) Q) :
  Wp (aD (bY z) fun rn=>gd (decide (rn < (l.map cD).length)) (aD ((l.map cD)[0+rn]?) fun oQ=>gd (decide (0+1≤oQ.length)) (cA [.sl 1] (List.take 1 (List.drop 0 oQ)) fun fJ=>zZ fJ.1.1 fun t38=>zM t38 (fun b=>F b oQ fJ) (G rn fJ)))) Q:=by
 refine hC hz (aF (aY (by simpa using h)) (fq (Bk h) (aF rfl (iN (v:=((gD l[i],(vD l[i]).map aL),())) rfl ?_))));cases hx:l[i] with
 | none=>rw [hx] at hF;exact eZ (hF rfl rfl)
 | some o=>rw [hx] at hG;exact jb (hG rfl)
theorem Bl {l:List (Option (List BB))} {i:Nat} (h:i < l.length) (ho:gD l[i] = .own) {F:RR→OR} (hF:Wp (F ((vD l[i]).map aL)) Q) :
  Wp (aD ((l.map cD)[0+i]?) fun Sg=>aD (Sg[0]?) fun Sh=>iX Sh fun Uz Mj=>gd (Uz==1) (F Mj)) Q:=
 fq (Bk h) (fq (b:=.sl .own 1 ((vD l[i]).map aL)) (by rw [←ho];rfl) (Us (aF rfl hF)))
theorem W3 {l:List (Option (List BB))} {i:Nat} (h:i < l.length) {z:Int} (hz:z=(i:Int)) {F:Nat→OR} (hF:Wp (F i) Q) :
  Wp (aD (bY z) fun vQ=>gd (decide (vQ < (l.map cD).length)) (aD ((l.map cD)[0+vQ]?) fun Ag=>gd (decide (0+1≤Ag.length)&&true) (cA [.any] (List.take 1 (List.drop 0 Ag)) fun v49=>F vQ))) Q:=
 hC hz (aF (aY (by simpa using h)) (fq (Bk h) (aF rfl (iN (v:=(.sl (gD l[i]) 1 ((vD l[i]).map aL),())) rfl hF))))
theorem WZ {l:List (Option (List BB))} {i:Nat} (h:i < l.length):(cd (l.map cD) (0+i) 0 D.dead)[0+i]? = some [.dead]:=by
 have:(l.map cD).getD (0+i) []=cD l[i]:=by simp [List.getD,h]
 unfold cd;rw [this];simp [h,cD]
variable (e9:ps.length≤100) (fG:∀p∈ps,p.rs.length≤100) (gH:ay.length≤100) {p:PC} (hp:gK p) (me:p.ss.length≤80) (xc:SF p.ss) (hF:oi K Q) (h:Wp (K ((0,0,0,()),())) Q) {a0:Nat} {a2:au eO}
include hp me xc hF h in
theorem ac1 (q:Nat) (hq:30030≤q) {c0 n:Nat} {s:PS} (hs:p.ss[n]? = some s) {mb nb:Bool} {mr:List BB} (hm:mr.length=(br s).length)
  (hZ:∀l,SB l p.ss.length→Wp (Gj (T q) q c0 (a0:Int) (GR b1 b2 b3 ps r2 ay) a2 (tP p) (l.map cD) p.sb (p.ss.map cT) (ae (p.ss.map cT).length) ((n+1:Nat):Int)) (J dw K Q)):∀(c j:Nat) (l:List (Option (List BB))),(br s).length - j < c→j≤(br s).length→SB l p.ss.length→
  Wp (xF (T q) q c0 c (a0:Int) (GR b1 b2 b3 ps r2 ay) a2 (tP p) (l.map cD) p.sb (p.ss.map cT) (ae (p.ss.map cT).length) (n:Int) (n:Int) mb (mr.map aL) nb ((br s).map bF) (ae ((br s).map bF).length) (j:Int)) (J dw K Q)
 | 0,j,l,hc,_,_=>by omega
 | c+1,j,l,hc,hj,hl=>by
  have hn:n < p.ss.length:=(cw.1 hs).1;have nO:(br s).length≤100:=by
   unfold br;split
   ·simp
   ·simpa using (hp.s2 s (ft hs)).2.2.2
  refine aC amM (aj (fun g1=>?_) (fun _=>?_))
  ·have af:=bN g1;have hg:(br s)[j]? = some (br s)[j]:=gE af;obtain ⟨k,hk,tZ,ku⟩:=xc.e n s _ hs (ft hg);have nl:n < l.length:=by rw [hl.1];exact hn
   have kl:k < l.length:=by rw [hl.1];exact ku
   obtain ⟨r,hr⟩:=bm 1 q;have e2:CS (T q) q c0 c q=CS (T q) q c0 c (r+1):=by rw [←hr]
   have Ck:=hl.2 n _ (gE nl);generalize hv:vD l[n]=v at Ck;refine aM nV rfl hg ?_;dsimp only;rw [hk];have go:Wp (CS (T q) q c0 c q (a0:Int) (GR b1 b2 b3 ps r2 ay) a2 (tP p) (cd (l.map cD) (0+k) 0 (.sl .own 1 (v.map aL))) p.sb (p.ss.map cT) (ae (p.ss.map cT).length) (n:Int) (n:Int) mb (mr.map aL) nb ((br s).map bF) (ae ((br s).map bF).length) (j:Int) (j:Int) (k:Int)) (J dw K Q):=by
    rw [Tm kl,e2];have dW:SB (l.set k (some v)) p.ss.length:=hl.set (by omega);have nx:∀l,SB l p.ss.length→Wp (xF (T q) q c0 c (a0:Int) (GR b1 b2 b3 ps r2 ay) a2 (tP p) (l.map cD) p.sb (p.ss.map cT) (ae (p.ss.map cT).length) (n:Int) (n:Int) mb (mr.map aL) nb ((br s).map bF) (ae ((br s).map bF).length) (ak ((j:Int)+1))) (J dw K Q):=by
     intro l hl;rw [w1 (by omega)];exact ac1 q hq hs hm hZ c (j+1) l (by omega) (by omega) hl
    have FP:k < (l.set k (some v)).length:=by simpa using kl
    have Qg:(l.set k (some v))[k]=some v:=by simp
    have Y5:mr[j]? = some (mr[j]'(by omega)):=gE (by omega);refine aC amN (Ur rfl Y5 (aj (fun _=>?_) (fun _=>nx _ dW)));have own:gD (l.set k (some v))[k] = .own:=by rw [Qg];rfl
    have val:vD (l.set k (some v))[k]=v:=by rw [Qg];rfl
    refine hC rfl (aF (aY (by simpa using kl)) (fq (Bk FP) (aF rfl (iN (v:=(v.map aL,())) (by rw [Qg];rfl) (Ur rfl Y5 (Bl FP own (aF ?_ (hC rfl (aF (aY (by simpa using kl)) (aF (Nat.beq_refl _) (Bl FP own (fq (WZ FP) (aF rfl (iN (v:=(.dead,())) rfl ?_))))))))))))))
    ·rw [val];exact gX (by simp;omega) (by omega)
    ·rw [val,du];have:v.map aL++[[D.str []]].set 0 [D.str (mr[j]'(by omega))]=(v++[mr[j]'(by omega)]).map aL:=by rw [eB];rfl
     dsimp only;rw [this,acP FP];exact nx _ (dW.set (by simp;omega))
   refine W2 nl rfl (fun g g'=>?_) (fun g=>Bl nl g ?_)
   ·rw [g'] at hv;subst hv;exact aF rfl (W3 kl rfl go)
   ·have e:List.take ((vD l[n]).map aL).length (List.drop 0 ((vD l[n]).map aL))=v.map aL:=by rw [hv,AT,AX]
    dsimp only;rw [e];refine aF ?_ (aF ?_ (W3 kl rfl go))
    ·rw [aiI];simp
    ·rw [DK];simp;omega
  ·rw [w1 (by omega)];exact hZ l hl
include e9 fG gH hp me xc hF h in
theorem ac0 (q:Nat) (hq:30030≤q):∀(c n:Nat) (l:List (Option (List BB))),p.ss.length - n < c→n≤p.ss.length→SB l p.ss.length→
  Wp (Gj (T q) q c (a0:Int) (GR b1 b2 b3 ps r2 ay) a2 (tP p) (l.map cD) p.sb (p.ss.map cT) (ae (p.ss.map cT).length) (n:Int)) (J dw K Q)
 | 0,n,l,hc,_,_=>by omega
 | c+1,n,l,hc,hn,hl=>by
  refine aC amL (aj (fun g1=>?_) (fun _=>aA (aE rfl h)));have af:=bN g1;have hs:p.ss[n]? = some p.ss[n]:=gE af;generalize p.ss[n]=s at hs;have ho:=hp.s2 s (ft hs);have nl:n < l.length:=by rw [hl.1];exact af
  have Ck:=hl.2 n _ (gE nl);generalize hv:vD l[n]=v at Ck;refine aM (enc:=cT) (f:=tS) (fun a=>⟨by simp [cT],rfl⟩) rfl hs ?_;have go:∀bb,Wp (Ik (T q) b1 (ps.map di) b2 r2 b3 (ay.map eD) p.nm p.pb (p.pm.map eK) p.tb (p.tm.map bA) p.sb (p.ss.map cT) s.kd s.nm s.pr s.lb s.pc s.tm s.gt (s.ag.map bF) s.ct (s.cs.map eC) s.wb (s.ws.map cW) s.nx bb (v.map aL) fun v28=>(bif (v28.1 != 0) then (c46 (T q) v28.1 (a0:Int) (n:Int) fun ja=>(some ((.agg [(iC ja.1.1),(iC ja.1.2.1),(iC ja.1.2.2.1)]),[]))) else (yP (T q) s.kd s.nm s.pr s.lb s.pc s.tm s.gt (s.ag.map bF) s.ct (s.cs.map eC) s.wb (s.ws.map cW) s.nx fun v30=>(Bh (T q) s.kd s.nm s.pr s.lb s.pc s.tm s.gt (s.ag.map bF) s.ct (s.cs.map eC) s.wb (s.ws.map cW) s.nx fun v31=>(xF (T q) q c q (a0:Int) (GR b1 b2 b3 ps r2 ay) a2 (tP p) (l.map cD) p.sb (p.ss.map cT) (ae (p.ss.map cT).length) (n:Int) (n:Int) v30.1.1 v30.1.2 v31.1.1 v31.1.2 (ae v31.1.2.length) 0))))) (J dw K Q):=by
   intro bb;refine aqX (m:=q) (by omega) e9 fG gH ho (fun e=>?_) (by omega) hp.t2;refine aj (fun g=>mT hF (by omega) (DX.1 g)) (fun _=>ad6 (m:=q) (by omega) ho fun mb mr hm=>Uj (m:=q) (by omega) ho fun nb=>?_);have nO:(br s).length≤100:=by
    unfold br;split
    ·simp
    ·simpa using ho.2.2.2
   exact ac1 hp me xc hF h q hq hs hm (fun l hl=>ac0 q hq c (n+1) l (by omega) (by omega) hl) q 0 l (by omega) (by omega) hl
  refine W2 nl rfl (fun g g'=>?_) (fun g=>Bl nl g (aF (by simp) ?_))
  ·rw [g'] at hv;subst hv;exact go true
  ·have e:aW (List.take ((vD l[n]).map aL).length (List.drop 0 ((vD l[n]).map aL)))=v.map aL:=by rw [hv,AT,AX,qz]
   dsimp only;rw [e];exact go false
include e9 fG gH hp me xc hF h in
theorem ac2 (q:Nat) (hq:30030≤q):∀(c i:Nat) (l:List (Option (List BB))),p.pm.length - i < c→i≤p.pm.length→SB l p.ss.length→(∀o,l[0]? = some o→(vD o).length≤i)→
  Wp (z8 (T q) q c (a0:Int) (GR b1 b2 b3 ps r2 ay) a2 (tP p) (l.map cD) p.pb (p.pm.map eK) (ae (p.pm.map eK).length) (i:Int)) (J dw K Q)
 | 0,i,l,hc,_,_,_=>by omega
 | c+1,i,l,hc,hi,hl,h0=>by
  refine aC amO (aj (fun g1=>?_) (fun _=>ac0 e9 fG gH hp me xc hF h q hq q 0 l (by omega) (by omega) hl));have af:=bN g1;have h2:=hp.p1;have zl:0 < l.length:=by rw [hl.1];exact hp.s0
  have z1:decide (Int.toNat 0 < (l.map cD).length)=true:=aY (by simpa using zl);have Ck:=h0 _ (gE zl);have nx:∀v:List BB,v.length≤i+1→Wp (z8 (T q) q c (a0:Int) (GR b1 b2 b3 ps r2 ay) a2 (tP p) ((l.set 0 (some v)).map cD) p.pb (p.pm.map eK) (ae (p.pm.map eK).length) (ak ((i:Int)+1))) (J dw K Q):=by
   intro v hv;rw [w1 (by omega)];refine ac2 q hq c (i+1) _ (by omega) (by omega) (hl.set (by omega)) (fun o ho=>?_);rw [yz zl] at ho;cases ho;exact hv
  refine aM GZ rfl (gE af) ?_;refine aF z1 (fq (Bk zl) (aF rfl (iN (v:=((gD l[0],(vD l[0]).map aL),())) rfl ?_)));cases hx:gD l[0] with
  | im b=>
   have hb:b=true:=by
    cases hy:l[0] with
    | none=>rw [hy] at hx;cases hx;rfl
    | some o=>rw [hy] at hx;cases hx
   subst hb;refine eZ (aF rfl (aF z1 (fq (Bk zl) (aF rfl (iN (v:=(.sl (gD l[0]) 1 ((vD l[0]).map aL),())) rfl ?_)))));have:=nx [p.pm[i].1] (by simp);rw [←Tm zl] at this;exact this
  | own=>
   refine jb (Bl zl hx (aF (gX (by simp;omega) (by omega)) (aF z1 (Bl zl hx (fq (WZ zl) (aF rfl (iN (v:=(.dead,())) rfl ?_)))))));have:=nx (vD l[0]++[p.pm[i].1]) (by simp;omega);rw [←acP zl,eB] at this;rw [du];exact this
end
section
variable {m:Nat} {Q:V→List (List C)→Prop}
theorem aqT (hm:30040≤m) {b1 b2 b3:Bool} {ps:List PR} {r2:RR} {ay:List PC} {K:dw.T→OR} (e9:ps.length≤100) (fG:∀p∈ps,p.rs.length≤100) (gH:ay.length≤100) {p:PC} {i:Nat} (hi:ay[i]? = some p) (hp:gK p) (me:p.ss.length≤80) (xc:SF p.ss) (hF:oi K Q) (h:Wp (K ((0,0,0,()),())) Q) :
  Wp (WD (T m) b1 (ps.map di) b2 r2 b3 (ay.map eD) (i:Int) K) Q:=by
 obtain ⟨m,rfl⟩:=cE hm;have h2:=hp.p1;refine bH ahp (aM (enc:=eD) (f:=tP) (fun a=>⟨by simp [eD],rfl⟩) rfl hi (aF ?_ ?_))
 ·have:(p.ss.map cT).length=p.ss.length:=by simp
  show (decide ((p.ss.map cT).length≤(p.ss.map cT).length)&&decide ((p.ss.map cT).length * 24≤_)&&decide ((p.ss.map cT).length≤_)&&true&&(!(p.ss.map cT).length==0||(p.ss.map cT).length==0))=true;rw [this];simp;omega
 ·show Wp (z8 (T m) m m (i:Int) (GR b1 b2 b3 ps r2 ay) (0,0,0,()) (tP p) (List.replicate (p.ss.map cT).length [D.sl (.im true) 1 []]) p.pb (p.pm.map eK) (ae (p.pm.map eK).length) 0) _;have e:List.replicate (p.ss.map cT).length [D.sl (.im true) 1 []]=(List.replicate p.ss.length none).map cD:=by simp [cD,gD,vD]
  rw [e];have hv:∀(k:Nat) o,(List.replicate p.ss.length (none:Option (List BB)))[k]? = some o→(vD o).length=0:=by
   intro k o ho;rw [US] at ho;split at ho
   ·cases ho;rfl
   ·cases ho
  exact ac2 e9 fG gH hp me xc hF h m (by omega) m 0 _ (by omega) (by omega) ⟨by simp,fun k o ho=>by rw [hv k o ho];omega⟩ (fun o ho=>by rw [hv 0 o ho];omega)
end
end
section
open Go Go.ax QQ
abbrev GT (b1 b2 b3:Bool) (ps:List PR) (r2:RR) (ay:List PC):au ka:=((.im b1,ps.map di),(.im b2,r2),(.im b3,ay.map eD),())
structure LK where
 b:Bool
 nm:BB
 ts:List TN
def kH (l:LK):List D:=[.str l.nm,.sl (.im l.b) 3 (l.ts.map cN)]
def xS (l:LK):Prop:=l.nm=[122,122]∧Ak l.ts
section
variable {m:Nat} {Q:V→List (List C)→Prop} {b1 b2 b3:Bool} {ps:List PR} {r2:RR} {ay:List PC}
theorem acU (q:Nat) (hq:150≤q) {ls:List LK} (fW:ls.length≤100) (hg:∀l∈ls,xS l) {K:dw.T→OR} (hF:oi K Q) (h:Wp (K ((0,0,0,()),())) Q) {a1:au eO}:∀(c i:Nat),ls.length - i < c→i≤ls.length→
  Wp (KW (T q) q c a1 b2 (ls.map kH) (ae (ls.map kH).length) (i:Int)) (J dw K Q)
 | 0,i,hc,_=>by omega
 | c+1,i,hc,hi=>by
  refine aC amq (aj (fun g1=>?_) (fun _=>aA (aE rfl h)));have af:=bN g1;obtain ⟨hn,h1,h6,ho⟩:=hg _ (bM af);refine aM (enc:=kH) (f:=fun l=>(l.nm,(l.b,l.ts.map cN),())) (fun a=>⟨by simp [kH],rfl⟩) rfl (gE af) ?_;have t:=MN q (by omega) ls[i].b ls[i].nm h1 (by omega) fun p hp=>abl (ho p hp)
  refine ke (x:=(true,())) t rfl (dJ rfl (gZ (m:=q) (by omega) ?_));dsimp only;rw [hn,w1 (by omega)];exact dJ rfl (acU q hq fW hg hF h c (i+1) (by omega) (by omega))
theorem acV (q:Nat) (hq:150≤q) {gs:List GP} {ls:List LK} (fW:ls.length≤100) (nM:∀l∈ls,xS l) (gA:gs.length≤100) (hg:∀g∈gs,jZ g) {K:dw.T→OR} (hF:oi K Q) (h:Wp (K ((0,0,0,()),())) Q) {bb:Bool} {a1:au eO}:∀(c i:Nat),gs.length - i < c→i≤gs.length→
  Wp (KX (T q) q c (GR b1 b2 b3 (gs.map eQ) (ls.map kH) ay) a1 bb ((gs.map eQ).map di) (ae ((gs.map eQ).map di).length) (i:Int)) (J dw K Q)
 | 0,i,hc,_=>by omega
 | c+1,i,hc,hi=>by
  refine aC amr (aj (fun g1=>?_) (fun _=>?_))
  ·have zA:=bN g1;have af:i < gs.length:=by simpa using zA
   have ok:=hg _ (bM af);refine aM SZ rfl (a:=eQ gs[i]) (by rw [bS,gE af];rfl) ?_;have hn:(gs[i]).nm∈lR:=by rcases ok.1 with e | e<;>rw [e]<;>decide
   have t:=Yu hn q (by omega) false false ok.2;rw [G6] at t;refine ke (x:=(true,())) t rfl (dJ rfl ?_);rw [w1 (by omega)];exact acV q hq fW nM gA hg hF h c (i+1) (by omega) (by omega)
  ·exact acU q hq fW nM hF h q 0 (by omega) (by omega)
theorem aqQ (hm:160≤m) {gs:List GP} {ls:List LK} (fW:ls.length≤100) (nM:∀l∈ls,xS l) (gA:gs.length≤100) (hg:∀g∈gs,jZ g) {K:dw.T→OR} (hF:oi K Q) (h:Wp (K ((0,0,0,()),())) Q):Wp (Wz (T m) b1 ((gs.map eQ).map di) b2 (ls.map kH) b3 (ay.map eD) K) Q:=by
 obtain ⟨m,rfl⟩:=cE hm;obtain ⟨r,hr⟩:=bm 1 m;have e0:KY (T m) m m=KY (T m) m (r+1):=by rw [←hr]
 have fl:=mT hF (m:=m) (by omega) (e:=1500) (a:=-1) (b:=-1) (by decide);refine bH ahe (aj (fun _=>fl) (fun _=>aj (fun _=>fl) (fun _=>aj (fun _=>fl) (fun _=>?_))));rw [e0];exact aC ams (acV m (by omega) fW nM gA hg hF h m 0 (by omega) (by omega))
theorem Xw (q:Nat) (hq:30050≤q) {r1:RR} (jX:r1=ps.map di) (cK:ay.length≤20) (hp:∀p∈ay,gK p) {K:My.T→OR} (hf:∀e a b,e≠0→Wp (K ((e,a,b,()),GR b1 b2 b3 ps r2 ay,((),()),())) Q)
  (h:(∀p∈ay,HD p∧SF p.ss)→Wp (K ((0,0,0,()),GR b1 b2 b3 ps r2 ay,((),()),())) Q) {x0:au cZ} {x1 a1:au jN} {a2:au eO}:∀(c i:Nat) (a1:au jN),ay.length - i < c→i≤ay.length→(∀(j:Nat) p,j < i→ay[j]? = some p→HD p∧SF p.ss)→
  Wp (KR (T q) q x0 x1 c (GT b1 b2 b3 ps r2 ay) a1 a2 (ae (ay.map eD).length) (i:Int)) (J My K Q)
 | 0,i,a1,hc,_,_=>by omega
 | c+1,i,a1,hc,hi,aQ=>by
  refine aC ami (aj (fun g1=>?_) (fun g1=>aA (aE rfl (h fun p hp=>?_))))
  ·have af:=bN g1;have hg:ay[i]? = some ay[i]:=gE af;have ok:=hp _ (bM af);obtain ⟨r,hr⟩:=bm 3 q;have e0:KS (T q) q x0 x1 c q=KS (T q) q x0 x1 c (r+2+1):=by rw [show r+2+1=q by omega]
   rw [e0];have fail:∀{X:OR},∀e a b,e≠0→Wp (bif (e != 0) then (some ((.agg [(iC e),(iC a),(iC b)]),[(bx ka (GT b1 b2 b3 ps r2 ay)),(bx jN ((),()))])) else X) (J My K Q):=fun e a b he=>fK (DX.2 he) (aA (aE rfl (hf e a b he)))
   refine aC amj (eZ (eZ (eZ ?_)));refine aqV (m:=q) (by omega) (by omega) hg ok fail fun hd=>dJ rfl ?_
   refine aC amk (eZ (eZ (eZ ?_)));refine aqU (m:=q) (by omega) (by exact fail) hg ok hd.hs hd.ht fun hsf=>dJ rfl ?_
   refine aC aml ?_;rw [w1 (by omega)];refine Xw q hq jX cK hp hf h (a1:=a1) c (i+1) _ (by omega) (by omega) fun j p hj QE=>?_
   by_cases Fc:j < i
   ·exact aQ j p Fc QE
   ·rw [show j=i by omega,hg] at QE;cases QE;exact ⟨hd,hsf⟩
  ·have:=zg g1;obtain ⟨j,hj,rfl⟩:=DQ hp;exact aQ j _ (by omega) (gE hj)
theorem Xx (q:Nat) (hq:30050≤q) (e9:ps.length≤100) (fG:∀p∈ps,p.rs.length≤100) (cK:ay.length≤20) (hp:∀p∈ay,gK p) (hh:∀p∈ay,HD p∧SF p.ss) {K:Mz.T→OR} (hf:∀e a b,e≠0→Wp (K ((e,a,b,()),GR b1 b2 b3 ps r2 ay,((),()),())) Q)
  (h:Wp (K ((0,0,0,()),GR b1 b2 b3 ps r2 ay,((),()),())) Q) {x0:au cZ} {x1:au kY} {a2:au eO}:∀(c i:Nat) (a1:au kY),ay.length - i < c→i≤ay.length→
  Wp (KT (T q) q x0 x1 c (GT b1 b2 b3 ps r2 ay) a1 a2 (ae (ay.map eD).length) (i:Int)) (J Mz K Q)
 | 0,i,a1,hc,_=>by omega
 | c+1,i,a1,hc,hi=>by
  refine aC amm (aj (fun g1=>?_) (fun g1=>aA (aE rfl h)));have af:=bN g1;have hg:ay[i]? = some ay[i]:=gE af;have hm:=bM af;obtain ⟨r,hr⟩:=bm 3 q;have e0:KU (T q) q x0 x1 c q=KU (T q) q x0 x1 c (r+2+1):=by rw [show r+2+1=q by omega]
  rw [e0];have fail:∀{X:OR},∀e a b,e≠0→Wp (bif (e != 0) then (some ((.agg [(iC e),(iC a),(iC b)]),[(bx ka (GT b1 b2 b3 ps r2 ay)),(bx kY ((),()))])) else X) (J Mz K Q):=fun e a b he=>fK (DX.2 he) (aA (aE rfl (hf e a b he)))
  refine aC amn (eZ (eZ (eZ ?_)));refine aqT (m:=q) (by omega) e9 fG (by omega) hg (hp _ hm) (hh _ hm).1.hs (hh _ hm).2 fail (dJ rfl ?_);refine aC amo ?_;rw [w1 (by omega)];exact Xx q hq e9 fG cK hp hh hf h c (i+1) _ (by omega) (by omega)
def CkK (ay:List PC) (K:dw.T→OR) (Q:V→List (List C)→Prop):Prop:=oi K Q∧((∀p∈ay,HD p∧SF p.ss)→Wp (K ((0,0,0,()),())) Q)
theorem aqC (hm:30060≤m) {gs:List GP} {ls:List LK} (fW:ls.length≤100) (nM:∀l∈ls,xS l) (gA:gs.length≤100) (hg:∀g∈gs,jZ g) (cK:ay.length≤20) (hp:∀p∈ay,gK p) {K:dw.T→OR} (hK:CkK ay K Q):Wp (c12 (T m) b1 ((gs.map eQ).map di) b2 (ls.map kH) b3 (ay.map eD) K) Q:=by
 obtain ⟨m,rfl⟩:=bm 2 m;obtain ⟨r,hr⟩:∃r,m+1=r+5:=⟨m - 4,by omega⟩
 have e0:KQ (T (m+1)) (m+1) (m+1)=KQ (T (m+1)) (m+1) (r+4+1):=by rw [show r+4+1=m+1 by omega]
 have aju:(gs.map eQ).length≤100:=by simpa using gA
 have Qh:∀p∈gs.map eQ,p.rs.length≤100:=by
  intro p hp;obtain ⟨g,sD,rfl⟩:=iz.1 hp;have:=(hg g sD).2.2.1;simp [eQ];omega
 obtain ⟨hF,h⟩:=hK;refine bH ag7 ?_;refine bH ag8 (aA (aE rfl ?_));refine bH aha (aA (aE rfl ?_));rw [e0];have fail:∀{X:OR} (e a b:Int),e≠0→Wp (bif (e != 0) then (some ((.agg [(iC e),(iC a),(iC b)]),[])) else X) (J dw K Q):=fun e a b he=>fK (DX.2 he) (aA (aE rfl (hF e a b he)))
 refine aC amd ?_;have Hd:Wp (Ry (T (m+1)) (m+1) (r+4) (GR b1 b2 b3 (gs.map eQ) (ls.map kH) ay) (0,0,0,()) ((),()) ((),())) (J dw K Q):=by
  refine aC ame (bH ag9 (Xw (b1:=b1) (b2:=b2) (b3:=b3) (ps:=gs.map eQ) (r2:=ls.map kH) m (by omega) rfl cK hp (fun e a b he=>fail e a b he) (fun hh=>dJ rfl ?_) (a1:=((),())) m 0 _ (by omega) (by omega) (fun j p hj=>by omega)));have st4:∀x:au eO,Wp (Rz (T (m+1)) (m+1) (r+2) (GR b1 b2 b3 (gs.map eQ) (ls.map kH) ay) x ((),()) ((),())) (J dw K Q):=by
   intro x;refine aC amg (bH ag' (Xx (b1:=b1) (b2:=b2) (b3:=b3) (ps:=gs.map eQ) (r2:=ls.map kH) m (by omega) aju Qh cK hp hh (fun e a b he=>fail e a b he) (dJ rfl ?_) m 0 _ (by omega) (by omega)));exact aC amh (aA (aE rfl (h hh)))
  refine aC amf (bH ahc ?_);have no:∀{F:Mx.T→OR} {Q':V→List (List C)→Prop},(∀e a b,e≠0→Wp (F ((e,a,b,()),GR b1 b2 b3 (gs.map eQ) (ls.map kH) ay,())) Q')→Wp (c46 (T m) 1504 (-1) (-1) fun v1=>(some ((.agg [(iC v1.1.1),(iC v1.1.2.1),(iC v1.1.2.2.1)]),[(bx ka (GT b1 b2 b3 (gs.map eQ) (ls.map kH) ay))]))) (J Mx F Q'):=fun hk=>aeb (by omega) (aA (aE rfl (hk _ _ _ (by decide))))
  refine M5 (m:=m) (by omega) (by omega) (fK rfl (no fun e a b he=>fail e a b he)) (fun i hi=>dJ (show decide ((i:Int) < 0)=false from bV (by omega)) ?_);refine aM acn rfl (gE hi) (aj (fun _=>no fun e a b he=>fail e a b he) (fun _=>aA (aE rfl (dJ rfl (st4 _)))))
 refine bH ahb (aqQ (m:=m) (by omega) fW nM gA hg (fun e a b he=>aA (aE rfl (fail e a b he))) (aA (aE rfl (dJ rfl Hd))))
end
end
section
open Go Go.ax PT
theorem apd (m:Nat):((List.range 52).map fun d:Nat=>T (m+60) 149 [.one (sC [32,32]),.one (iC (d:Int))] [])=(List.range 52).map fun d=>some (.one (sC (List.replicate (2 * d) 32)),[]):=by kernel_rfl
end
section
open Go Go.ax PT
open QQ (ik strs ma Oz bF nV)
structure LN where
 d:Nat
 s:List UInt8
def qu (l:LN):List UInt8:=List.replicate (2 * l.d) 32++l.s++[10]
def eW (l:List LN):List UInt8:=l.flatMap qu
theorem sT (a b:List LN):eW (a++b)=eW a++eW b:=List.flatMap_append
theorem vJ (a:LN) (b:List LN):eW (a::b)=qu a++eW b:=rfl
theorem uk (l:LN):(qu l).length=2 * l.d+l.s.length+1:=by simp [qu];omega
theorem rp {m d:Nat} (hm:60≤m) (hd:d < 52):T m 149 [.one (sC [32,32]),.one (iC (d:Int))] []=some (.one (sC (List.replicate (2 * d) 32)),[]):=by
 obtain ⟨m,rfl⟩:=bm 60 m;have:=fX (fun l=>l[d]?) (apd m);simp only [bS,HC hd,fh] at this;exact oY this
section
variable {m:Nat} {Q:V→List (List C)→Prop} {s t:List UInt8}
theorem Uo (hm:2≤m) (hl:t.length+s.length≤100000000000000) {K:Tl.T→OR} (h:∀n,Wp (K ((n,true,()),bB (t++s),())) Q):Wp (dv (T m) s (bB t) K) Q:=by
 rw [dv,rQ m hm s t hl,rB];exact h _
theorem g9 {n:Nat} (h:n≤100000000000000):n≤9223372036854775807:=by omega
theorem uG (hm:70≤m) {d:Nat} (hd:d < 52) (hl:t.length+s.length+2 * d+1≤100000000000000) {K:j8.T→OR} (h:Wp (K ((),bB (t++qu ⟨d,s⟩),())) Q):Wp (ie (T m) (d:Int) s (bB t) K) Q:=by
 obtain ⟨m,rfl⟩:=cE hm;refine bH agc (ke (x:=(List.replicate (2 * d) 32,())) (rp (by omega) hd) rfl ?_);refine cr (g9 (by simp;omega)) (cr (g9 (by simp;omega)) (Uo (m:=m) (by omega) (by simp;omega) fun n=>fK rfl (aA ?_)));unfold J;rw [rC];exact h
def TxK (K:fI.T→OR) (Q:V→List (List C)→Prop) (N:Nat):Prop:=∀τ:List UInt8,NL τ→τ.length≤N→Wp (K (τ,())) Q
theorem DM (hm:300≤m) {b:Bool} {tm:List TM} (hT:ji tm) {z:Int} {K:fI.T→OR} (h:TxK K Q 330):Wp (wW (T m) b (tm.map bA) z K) Q:=by
 have hr:∀t∈tm.map wA,Cn t:=by
  intro t ht;obtain ⟨u,hu,rfl⟩:=iz.1 ht;obtain ⟨i,hi,rfl⟩:=DQ hu;have g:tm[i]? = some tm[i]:=gE hi;generalize tm[i]=u at g;rcases hT i u g with hl | ⟨h0,_⟩
  ·have:=hl.2.2.2;simpa [yg,Cn,wA] using this
  ·show _≤u.n∧u.n≤_;omega
 cases Fp:sU (tm.map wA) z with
 | false=>
  obtain ⟨m,rfl⟩:=cE hm;refine bH Xs (Um (m:=m) (by omega) ?_);rw [Fp];exact fK rfl (aA (aE rfl (h [] yI (by simp))))
 | true=>
  obtain ⟨t,ok,ha,_,_⟩:=anT hr Fp;rw [←Ok] at ha;have h3:=apH hT ha;have tx:=MR ok
  have := apZ b (tm.map bA) ok ha (by omega) (n := m) (by omega) (fun k hk => by
    have := aa3 (x0 := b) (l := tm.map wA) z k (by omega)
    rw [Fp] at this
    rw [Ok]; exact this)
  exact ke (x:=(gj t,())) this rfl (h _ tx.1 (by omega))
def Nq (K:fI.T→OR) (Q:V→List (List C)→Prop):Prop:=∀τ:List UInt8,NL τ→τ.length≤34000→τ.getLast? = some 41→Wp (K (τ,())) Q
theorem Uh {l:List (List UInt8)} (hm:l.length+10≤m) {b:Bool} (hl:l.length≤200) (hy:∀y∈l,y.length≤10000000) {K:fI.T→OR} (h:Wp (K (ik l,())) Q):Wp (oo (T m) b (l.map aL) [44,32] K) Q:=
 aC (Oz hm b hl hy rfl) h
theorem VA (hm:220≤m) {b:Bool} {o:List (List UInt8)} (hl:o.length≤100) (ho:∀y∈o,NL y∧y.length≤330) {K:fI.T→OR} (h:Nq K Q) :
  Wp (oo (T m) b (o.map aL) [44,32] fun v4=>(aN (1+List.length v4.1) (aN (([40]++v4.1).length+1) (some ((.one (sC ([40]++v4.1++[41]))),[]))))) (J fI K Q):=by
 have hj:=JT (N:=330) fun y hy=>(ho y hy).2
 refine Uh (by omega) (by omega) (fun y hy=>by have:=(ho y hy).2;omega) (cr (by dsimp only;omega) (cr (by simp;omega) (aA (aE rfl (h _ ?_ ?_ ?_)))))
 ·exact eI.2 ⟨eI.2 ⟨ch,FN fun y hy=>(ho y hy).1⟩,ch⟩
 ·simp;omega
 ·rw [DR];rfl
theorem Vz (q:Nat) (hq:300≤q) {p:PC} (hT:ji p.tm) {gb:Bool} {l:List Int} (hl:l.length≤100) {K:fI.T→OR} (h:Nq K Q):∀(c i:Nat) (o:List (List UInt8)),l.length - i < c→i≤l.length→o.length=i→(∀y∈o,NL y∧y.length≤330)→
  Wp (J5 (T q) q c (tP p) (o.map aL) gb (l.map bF) (ae (l.map bF).length) (i:Int)) (J fI K Q)
 | 0,i,o,hc,_,_,_=>by omega
 | c+1,i,o,hc,hi,ho,hy=>by
  refine aC akC (aj (fun g1=>?_) (fun _=>aF (by simp) ?_))
  ·have af:=bN g1;refine aM nV rfl (gE af) ?_;refine DM (m:=q) (by omega) hT fun τ h1 h2=>aF (gX (by simp;omega) (by omega)) ?_
   rw [w1 (by omega),du]
   have := Vz q hq hT (gb := gb) hl h c (i + 1) (o ++ [τ]) (by omega) (by omega) (by simp; omega) (fun y fR => by
     rw [dC] at fR
     rcases fR with fR | fR
     · exact hy y fR
     · simp at fR; subst fR; exact ⟨h1, h2⟩)
   rw [eB] at this;exact this
  ·rw [du,qz];exact VA (by omega) (by omega) hy h
theorem Ue (hm:310≤m) {p:PC} (hT:ji p.tm) {gb:Bool} {l:List Int} (hl:l.length≤100) {K:fI.T→OR} (h:Nq K Q):Wp (Bc (T m) p.nm p.pb (p.pm.map eK) p.tb (p.tm.map bA) p.sb (p.ss.map cT) gb (l.map bF) K) Q:=by
 obtain ⟨m,rfl⟩:=cE hm;obtain ⟨r,hr⟩:=bm 1 m;have e0:J4 (T m) m m=J4 (T m) m (r+1):=by rw [←hr]
 refine bH af8 ?_;rw [e0];refine aC akB (aj (fun g1=>?_) (fun _=>?_))
 ·have af:=bN (i:=0) g1;refine aM nV (i:=0) rfl (gE af) ?_;refine DM (m:=m) (by omega) hT fun τ h1 h2=>aF rfl ?_
  exact Vz m (by omega) hT hl h r 1 [τ] (by omega) (by omega) rfl (fun y hy=>by simp at hy;subst hy;exact ⟨h1,h2⟩)
 ·exact VA (o:=[]) (by omega) (by simp) (fun y hy=>by cases hy) h
end
end
section
open Go Go.ax PT
open QQ (ik ma bF nV)
section
variable {m:Nat} {Q:V→List (List C)→Prop} {K:fI.T→OR}
structure TL (a b:UInt8) (s:List UInt8):Prop where
 nl:NL s
 h:s.head? = some a
 l:s.getLast? = some b
def oO (s:List UInt8):Prop:=NL s∧s.length≤12
theorem mB {s:List UInt8} (h:gJ s=true):oO s:=⟨(Lz h).1,(Lz h).2.1⟩
def Sn (cs:List CR):Prop:=cs.length≤100∧∀c∈cs,c.ag.length≤100∧oO c.ro∧oO c.pc
theorem abw (hm:220≤m) {s:PS} (h1:oO s.nm) (h2:oO s.lb) (h3:oO s.pr) {b:Bool} {o:List (List UInt8)} (hl:o.length≤100) (ho:∀y∈o,NL y∧y.length≤34026) (h:∀τ,TL 111 59 τ→τ.length≤3500000→Wp (K (τ,())) Q) :
  Wp (oo (T m) b (o.map aL) [44,32] fun v4=>(aN (([111,112,101,110,32]++s.nm++[32,61,32]++s.lb++[32,97,115,32]++s.pr++[32,119,105,116,104,32]).length+List.length v4.1) (aN (([111,112,101,110,32]++s.nm++[32,61,32]++s.lb++[32,97,115,32]++s.pr++[32,119,105,116,104,32]++v4.1).length+1) (some ((.one (sC ([111,112,101,110,32]++s.nm++[32,61,32]++s.lb++[32,97,115,32]++s.pr++[32,119,105,116,104,32]++v4.1++[59]))),[]))))) (J fI K Q):=by
 have hj:=JT (N:=34026) fun y hy=>(ho y hy).2
 have:=h1.2;have:=h2.2;have:=h3.2;refine Uh (by omega) (by omega) (fun y hy=>by have:=(ho y hy).2;omega) (cr (by simp;omega) (cr (by simp;omega) (aA (aE rfl (h _ ⟨?_,rfl,by rw [DR];rfl⟩ ?_)))))
 ·simp only [eI];exact ⟨⟨⟨⟨⟨⟨⟨⟨ch,h1.1⟩,ch⟩,h2.1⟩,ch⟩,h3.1⟩,ch⟩,FN fun y hy=>(ho y hy).1⟩,ch⟩
 ·simp;omega
theorem abv (q:Nat) (hq:310≤q) {p:PC} (hT:ji p.tm) {c:CR} (hc:c.ag.length≤100∧oO c.ro∧oO c.pc) {F:List UInt8→OR} {Q':V→List (List C)→Prop} (h:∀y,NL y→y.length≤34026→Wp (F y) Q') :
  Wp (aN (List.length c.ro+2) (aN ((c.ro++[58,32]).length+List.length c.pc) (Bc (T q) p.nm p.pb (p.pm.map eK) p.tb (p.tm.map bA) p.sb (p.ss.map cT) c.gt (c.ag.map bF) fun v3=>(aN ((c.ro++[58,32]++c.pc).length+List.length v3.1) (F (c.ro++[58,32]++c.pc++v3.1)))))) Q':=by
 have:=hc.2.1.2;have:=hc.2.2.2;refine cr (by omega) (cr (by simp;omega) (Ue (by omega) hT hc.1 fun τ h1 h2 _=>cr (by simp;omega) (h _ ?_ (by simp;omega))));simp only [eI];exact ⟨⟨⟨hc.2.1.1,ch⟩,hc.2.2.1⟩,h1⟩
theorem open_1 (q:Nat) (hq:310≤q) {p:PC} (hT:ji p.tm) {s:PS} (h1:oO s.nm) (h2:oO s.lb) (h3:oO s.pr) (hc:Sn s.cs) (h:∀τ,TL 111 59 τ→τ.length≤3500000→Wp (K (τ,())) Q):∀(c i:Nat) (o:List (List UInt8)),s.cs.length - i < c→i≤s.cs.length→o.length=i→(∀y∈o,NL y∧y.length≤34026)→
  Wp (Cy (T q) q c (tP p) (tS s) (o.map aL) s.ct (s.cs.map eC) (ae (s.cs.map eC).length) (i:Int)) (J fI K Q)
 | 0,i,o,c7,_,_,_=>by omega
 | c+1,i,o,c7,hi,ho,hy=>by
  have:=h1.2;have:=h2.2;have:=h3.2;have hl:=hc.1;refine aC akJ (aj (fun g1=>?_) (fun _=>?_))
  ·have af:=bN g1;refine aM (enc:=eC) (f:=fun c=>(c.ro,c.pc,(c.gt,c.ag.map bF),())) (fun a=>⟨by simp [eC],rfl⟩) rfl (gE af) ?_;refine abv q hq hT (hc.2 _ (bM af)) (F:=fun y=>gd ((o.map aL).length==(o.map aL).length&&true&&decide (((o.map aL).length+1) * 16≤140737488355328)) (Cy (T q) q c (tP p) (tS s) (o.map aL++whole ([[D.str []]].set 0 [D.str y])) s.ct (s.cs.map eC) (ae (s.cs.map eC).length) (ak ((i:Int)+1)))) fun y hn QV=>aF (gX (by simp;omega) (by omega)) ?_
   rw [w1 (by omega),du]
   have := open_1 q hq hT h1 h2 h3 hc h c (i + 1) (o ++ [y]) (by omega) (by omega) (by simp; omega) (fun y' fR => by
     rw [dC] at fR
     rcases fR with fR | fR
     · exact hy y' fR
     · simp at fR; subst fR; exact ⟨hn, QV⟩)
   rw [eB] at this;exact this
  ·have e:aW (whole (o.map aL))=o.map aL:=by rw [du,qz]
   refine cr (by dsimp only [tS];omega) (cr (by simp [tS];omega) (cr (by simp [tS];omega) (cr (by simp [tS];omega) (cr (by simp [tS];omega) (cr (by simp [tS];omega) (aF (by simp) ?_))))));rw [e];exact abw (by omega) h1 h2 h3 (by omega) hy h
theorem aqK (hm:320≤m) {p:PC} (hT:ji p.tm) {s:PS} (h1:oO s.nm) (h2:oO s.lb) (h3:oO s.pr) (hc:Sn s.cs) (h:∀τ,TL 111 59 τ→τ.length≤3500000→Wp (K (τ,())) Q) :
  Wp (Wg (T m) p.nm p.pb (p.pm.map eK) p.tb (p.tm.map bA) p.sb (p.ss.map cT) s.kd s.nm s.pr s.lb s.pc s.tm s.gt (s.ag.map bF) s.ct (s.cs.map eC) s.wb (s.ws.map cW) s.nx K) Q:=by
 obtain ⟨m,rfl⟩:=cE hm;obtain ⟨r,hr⟩:=bm 1 m;have e0:J8 (T m) m m=J8 (T m) m (r+1):=by rw [←hr]
 have:=h1.2;have:=h2.2;have:=h3.2;have hl:=hc.1;refine bH agd ?_;rw [e0];refine aC akI (aj (fun g1=>?_) (fun _=>?_))
 ·have af:=bN (i:=0) g1;refine aM (enc:=eC) (f:=fun c=>(c.ro,c.pc,(c.gt,c.ag.map bF),())) (fun a=>⟨by simp [eC],rfl⟩) (i:=0) rfl (gE af) ?_;refine abv m (by omega) hT (hc.2 _ (bM af)) (F:=fun y=>gd (true&&true&&true) (Cy (T m) m r (tP p) (tS s) [[.str y]] s.ct (s.cs.map eC) (ae (s.cs.map eC).length) (ak (0+1)))) fun y hn QV=>aF rfl ?_
  exact open_1 m (by omega) hT h1 h2 h3 hc h r 1 [y] (by omega) (by omega) rfl (fun y' fR=>by simp at fR;subst fR;exact ⟨hn,QV⟩)
 ·refine cr (by dsimp only [tS];omega) (cr (by simp [tS];omega) (cr (by simp [tS];omega) (cr (by simp [tS];omega) (cr (by simp [tS];omega) (cr (by simp [tS];omega) ?_)))));exact abw (o:=[]) (by omega) h1 h2 h3 (by simp) (fun y hy=>by cases hy) h
end
end
section
open Go Go.ax PT
open QQ (ik ma bF nV)
def step1 (o:Int) (l:LN):Option Int:=
 let o1:=if l.s.head? = some 125 then o - 1 else o
 if (l.d:Int)=o1 then some (if l.s.getLast? = some 123 then o1+1 else o1) else none
def run:Int→List LN→Option Int
 | o,[]=>some o
 | o,l::t=>(step1 o l).bind fun o'=>run o' t
theorem acQ:∀{o:Int} (a b:List LN),run o (a++b)=(run o a).bind fun o'=>run o' b
 | o,[],b=>rfl
 | o,l::t,b=>by
  show (step1 o l).bind _=((step1 o l).bind _).bind _;cases step1 o l with
  | none=>rfl
  | some o'=>exact acQ t b
def okL (l:LN):Prop:=NL l.s∧∃a,l.s.head? = some a∧a≠32
structure ev (e:Nat) (o o':Int) (n:Nat) (ls:List LN):Prop where
 ok:∀l∈ls,okL l∧e≤l.d
 run:run o ls=some o'
 len:ls.length=n
 sz:(eW ls).length≤4000000 * n
theorem ev.app {e:Nat} {o o' eY:Int} {n n':Nat} {a b:List LN} (h:ev e o o' n a) (h':ev e o' eY n' b):ev e o eY (n+n') (a++b):=by
 refine ⟨fun l hl=>(dC.1 hl).elim (h.ok l) (h'.ok l),by rw [acQ,h.run];exact h'.run,by rw [eu,h.len,h'.len],?_⟩;have:=h.sz;have:=h'.sz;rw [sT,eu];omega
theorem ev.deep {e e':Nat} {o o':Int} {n:Nat} {a:List LN} (h:ev e o o' n a) (he:e'≤e):ev e' o o' n a:=⟨fun l hl=>⟨(h.ok l hl).1,jd he (h.ok l hl).2⟩,h.run,h.len,h.sz⟩
theorem ev.nil {e:Nat} {o:Int}:ev e o o 0 []:=⟨(fun l hl=>by cases hl),rfl,rfl,yE _⟩
theorem ev.one {e d:Nat} {o o':Int} {a b:UInt8} {s:List UInt8} (h:TL a b s) (ha:a≠32) (hd:e≤d) (h6:d≤60) (hl:s.length≤3600000) (hr:step1 o ⟨d,s⟩=some o'):ev e o o' 1 [⟨d,s⟩]:=by
 refine ⟨fun l hl=>?_,by show (step1 o ⟨d,s⟩).bind _=_;rw [hr];rfl,rfl,?_⟩
 ·rw [uK.1 hl];exact ⟨⟨h.nl,a,h.h,ha⟩,hd⟩
 ·rw [vJ,eu,uk];simp only [eW,List.flatMap_nil,jB];omega
theorem TU {d:Nat} {a b:UInt8} {s:List UInt8} (h:TL a b s) (ha:a≠125) (hb:b≠123):step1 d ⟨d,s⟩=some d:=by simp [step1,h.h,h.l,ha,hb]
theorem Hg {d:Nat} {a:UInt8} {s:List UInt8} (h:TL a 123 s) (ha:a≠125):step1 d ⟨d,s⟩=some (d+1:Nat):=by simp [step1,h.h,h.l,ha]
theorem apP {d:Nat}:step1 (d+1:Nat) ⟨d,[125,32,101,108,115,101,32,123]⟩=some (d+1:Nat):=by simp [step1]
theorem Hf {d:Nat}:step1 (d+1:Nat) ⟨d,[125]⟩=some d:=by simp [step1]
theorem tl {x y:List UInt8} {a b:UInt8} (hn:NL (x++y)) (hh:(x++y).head? = some a) (hl:y.getLast? = some b):TL a b (x++y):=⟨hn,hh,by rw [DR,hl];rfl⟩
theorem Hk:TL 125 125 [125]:=⟨ch,rfl,rfl⟩
theorem ap1:TL 125 123 [125,32,101,108,115,101,32,123]:=⟨ch,rfl,rfl⟩
def lA (s:PS):Nat:=if s.kd=3 then 3 else if s.kd=5 then 2+2 * s.ws.length else 1
section
variable {m:Nat} {Q:V→List (List C)→Prop} {p:PC} {W D:Nat→Nat}
def Nr (m:Nat) (p:PC) (W D:Nat→Nat) (k:Nat) (s:PS):Prop:=∀(d:Nat) (t:List UInt8) (K:j8.T→OR) (Q:V→List (List C)→Prop),d+2 * inc s≤3+2 * D k→t.length+4000000 * W k≤100000000000000→(∀ls,ev d d d (W k) ls→Wp (K ((),bB (t++eW ls),())) Q)→
 Wp (c93 (T m) p.nm p.pb (p.pm.map eK) p.tb (p.tm.map bA) p.sb (p.ss.map cT) (k:Int) (d:Int) (bB t) K) Q
structure BG (m:Nat) (p:PC) (W D:Nat→Nat) (n:Nat) (s:PS):Prop where
 hm:1000≤m
 ok:gK p
 hs:p.ss[n]? = some s
 f:uR s
 e:∀t∈br s,∃(k:Nat) (s':PS),t=(k:Int)∧p.ss[k]? = some s'∧Nr m p W D k s'∧D k=D n+inc s'
 w:W n=lA s+((br s).map fun z=>W z.toNat).sum
 d:D n≤24
theorem NW {n:Nat} {s:PS} (g:BG m p W D n s) {d:Nat} (hd:d+2 * inc s≤3+2 * D n) {t:List UInt8} (ht:t.length+4000000 * W n≤100000000000000) {K:j8.T→OR} {x9:au bl} (h:∀ls,ev d d d (W n) ls→Wp (K ((),bB (t++eW ls),())) Q)
  {Gs:List LN} {n0:Nat} (h0:ev d d d n0 Gs) (hn:if kM s.kd then n0=lA s else n0=W n):Wp (lP (T m) m x9 m (d:Int) (bB (t++eW Gs)) (tP p) (tS s)) (J j8 K Q):=by
 have hm:=g.hm;obtain ⟨r,hr⟩:=bm 1 m;have e0:lP (T m) m x9 m=lP (T m) m x9 (r+1):=by rw [←hr]
 rw [e0];refine aC akH ?_;cases hg:kM s.kd with
 | false=>
  rw [hg] at hn;have hx:=g.f.ng hg;rw [show W n=n0 by simpa using hn.symm] at h;refine dJ (bV (show ¬ s.nx≥0 by omega)) (aA ?_);unfold J;rw [rC];exact h Gs h0
 | true=>
  rw [hg] at hn;have sH:n0=lA s:=by simpa using hn
  have q9:br s=[s.nx]:=by unfold br;rw [aJ hg]
  obtain ⟨k,s',hk,jI,bk,hD⟩:=g.e s.nx (by rw [q9];simp);have hw:=g.w;rw [q9,hk] at hw;simp only [gl,AV,yC,U0,jC,UK] at hw;have h3:=h0.sz;refine fK (aY (show s.nx≥0 by omega)) ?_;show Wp (c93 (T m) p.nm p.pb (p.pm.map eK) p.tb (p.tm.map bA) p.sb (p.ss.map cT) s.nx (d:Int) (bB (t++eW Gs)) _) _;rw [hk];refine bk d _ _ _ (by omega) (by rw [eu];omega) fun ls lN=>aA ?_
  unfold J;rw [rC];have:=h (Gs++ls) (by rw [hw,←sH];exact h0.app lN);rw [sT,←ek] at this;exact this
theorem afa {n:Nat} {s:PS} (g:BG m p W D n s) {d:Nat} (hd:d+2 * inc s≤3+2 * D n) {t:List UInt8} (ht:t.length+4000000 * W n≤100000000000000) {K:j8.T→OR} {x9:au bl} (h:∀ls,ev d d d (W n) ls→Wp (K ((),bB (t++eW ls),())) Q)
  (hk:s.kd≠3∧s.kd≠5) {τ:List UInt8} {a b:UInt8} (hτ:TL a b τ) (ha:a≠32∧a≠125) (hb:b≠123) (hl:τ.length≤3600000):Wp (ie (T m) (d:Int) τ (bB t) fun v=>lP (T m) m x9 m (d:Int) v.2.1 (tP p) (tS s)) (J j8 K Q):=by
 have hD:=g.d;have hm:=g.hm;have hw:=g.w;have ho:lA s=1:=by unfold lA;rw [aB hk.1,aB hk.2]
 refine uG (m:=m) (by omega) (by omega) (by omega) ?_
 have := NW g hd ht (x9 := x9) h (ev.one hτ ha.1 (bT d) (by omega) hl (TU hτ ha.2 hb)) (by
   cases hg : kM s.kd with
   | true => rw [aJ rfl, ho]
   | false =>
     have : br s = [] := by unfold br; rw [aB (by rw [hg]; simp), g.f.go hk.1 hk.2]; rfl
     rw [this] at hw
     simp at hw
     rw [aB (by simp), hw, ho])
 rw [vJ,show eW []=[] from rfl,mJ] at this;exact this
theorem VW {n:Nat} {s:PS} (g:BG m p W D n s) (hk:s.kd=5) {d:Nat} (hd:d+2 * inc s≤3+2 * D n) {K:j8.T→OR} {x9:au bl}:∀(c i:Nat) (t:List UInt8),s.ws.length - i < c→i≤s.ws.length→
  t.length+4000000 * (1+2 * (s.ws.length - i)+(((br s).drop i).map fun z=>W z.toNat).sum)≤100000000000000→
  (∀ls,ev d (d+1:Nat) d (1+2 * (s.ws.length - i)+(((br s).drop i).map fun z=>W z.toNat).sum) ls→Wp (lP (T m) m x9 m (d:Int) (bB (t++eW ls)) (tP p) (tS s)) (J j8 K Q))→
  Wp (J7 (T m) m x9 c (d:Int) (bB t) (tP p) (tS s) s.wb (s.ws.map cW) (ae (s.ws.map cW).length) (i:Int)) (J j8 K Q)
 | 0,i,t,hc,_,_,_=>by omega
 | c+1,i,t,hc,hi,hl,h=>by
  have hD:=g.d;have hm:=g.hm;have Y1:inc s=1:=by unfold inc;rw [aJ (.inr hk)]
  have q9:br s=s.ws.map WR.nx:=by unfold br;rw [aB (by rw [hk];decide)]
  have hwl:=(g.ok.s2 s (ft g.hs)).2.2.2;refine aC akF (aj (fun g1=>?_) (fun g1=>?_))
  ·have af:=bN g1;have hg:s.ws[i]? = some s.ws[i]:=gE af;have Ze:=(g.f.h1 hk).2 _ (bM af);have E4:(br s).drop i=s.ws[i].nx::(br s).drop (i+1):=by
    rw [q9,tA (by simpa using af)];simp
   obtain ⟨k,s',iG,jI,bk,hDk⟩:=g.e s.ws[i].nx (by rw [q9];exact List.mem_map_of_mem (bM af));rw [E4] at hl h;simp only [gl,yC] at hl h;rw [iG,UK] at hl h;obtain ⟨r,hr⟩:=bm 1 m;have e0:Cx (T m) m x9 c m=Cx (T m) m x9 c (r+1):=by rw [←hr]
   have wd:∀j:Nat,j≤10→ak ((d:Int)+(j:Nat))=((d+j:Nat):Int):=fun j hj=>gM
   have rest:∀τ a,TL a 123 τ→a≠32→a≠125→τ.length≤100→Wp (ie (T m) (ak ((d:Int)+1)) τ (bB t) fun fc=>Cx (T m) m x9 c m (d:Int) fc.2.1 (tP p) (tS s) s.wb (s.ws.map cW) (ae (s.ws.map cW).length) (i:Int) (s.ws[i].lb,s.ws[i].nm,s.ws[i].nx,())) (J j8 K Q):=by
    intro τ a hτ h32 ai2 hτl;rw [show ak ((d:Int)+1)=((d+1:Nat):Int) from wd 1 (by omega)];refine uG (m:=m) (by omega) (by omega) (by omega) ?_;rw [e0];refine aC akG ?_;show Wp (c93 (T m) p.nm p.pb (p.pm.map eK) p.tb (p.tm.map bA) p.sb (p.ss.map cT) s.ws[i].nx (ak ((d:Int)+2)) (bB (t++qu ⟨d+1,τ⟩)) _) _;rw [iG,show ak ((d:Int)+2)=((d+2:Nat):Int) from wd 2 (by omega)];refine bk (d+2) _ _ _ (by omega) (by rw [eu,uk];dsimp only;omega) fun ls lN=>?_
    dsimp only;rw [show ak ((d:Int)+1)=((d+1:Nat):Int) from wd 1 (by omega)];have hz:=lN.sz;refine uG (m:=m) (by omega) (by omega) (by simp only [eu,uk,gk,jB];omega) ?_;dsimp only;rw [w1 (by omega)];have sg:ev d (d+1:Nat) (d+1:Nat) (1+W k+1) ([⟨d+1,τ⟩]++ls++[⟨d+1,[125]⟩]):=
     ((ev.one hτ h32 (by omega) (by omega) (by omega) (Hg hτ ai2)).app (lN.deep (by omega))).app (ev.one Hk (by decide) (by omega) (by omega) (by simp) Hf)
    have bf:=sg.sz;have et:t++qu ⟨d+1,τ⟩++eW ls++qu ⟨d+1,[125]⟩=t++eW ([⟨d+1,τ⟩]++ls++[⟨d+1,[125]⟩]):=by simp [sT,eW,ek]
    rw [et];refine VW g hk hd c (i+1) _ (by omega) (by omega) (by rw [eu];omega) fun RH ajD=>?_
    have := h (([⟨d + 1, τ⟩] ++ ls ++ [⟨d + 1, [125]⟩]) ++ RH) (by
      have := sg.app ajD
      rw [show 1 + W k + 1 + (1 + 2 * (s.ws.length - (i + 1)) + (((br s).drop (i + 1)).map fun z => W z.toNat).sum) = 1 + 2 * (s.ws.length - i) + (W k + (((br s).drop (i + 1)).map fun z => W z.toNat).sum) by omega] at this
      exact this)
    rw [sT,←ek] at this;exact this
   refine aM At rfl hg (aj (fun _=>?_) (fun g2=>?_))
   ·exact rest [108,111,115,116,32,123] 108 ⟨ch,rfl,rfl⟩ (by decide) (by decide) (by decide)
   have Qs:gJ s.ws[i].lb=true:=by
    rcases Ze.1 with e | e
    ·have:(s.ws[i].lb==[])=false:=g2;rw [e] at this;cases this
    ·exact e
   have Fh:=Lz Qs;obtain ⟨a,r',en,ha⟩:=Fh.2.2;have jr:oO s.ws[i].nm:=by
    rcases Ze.2 with e | e
    ·rw [e];exact ⟨yI,by simp⟩
    ·exact mB e
   have:=jr.2;have:=JS ha;refine cr (by dsimp only;omega) (cr (by simp;omega) (cr (by simp;omega) ?_));refine rest (s.ws[i].lb++[40]++s.ws[i].nm++[41,32,123]) a (tl ?_ ?_ rfl) this.2.1 this.2.2.1 (by simp;omega)
   ·simp only [eI];exact ⟨⟨⟨Fh.1,ch⟩,jr.1⟩,ch⟩
   ·rw [en];rfl
  ·have eV:=zg g1;have e:(br s).drop i=[]:=DP (by rw [q9];simp;omega);rw [e] at hl h;obtain ⟨r,hr⟩:=bm 1 m;refine uG (m:=m) (by omega) (by omega) (by simp at hl ⊢;omega) ?_
   have := h [⟨d, [125]⟩] (by
     rw [show 1 + 2 * (s.ws.length - i) + ((([] : List Int)).map fun z => W z.toNat).sum = 1 by simp; omega]
     exact ev.one Hk (by decide) (bT d) (by omega) (by simp) Hf)
   rw [vJ,show eW []=[] from rfl,mJ] at this;exact this
end
end
end Go.Proofs.YtfmpdgeiodnnfaaGreatDoor
