/- A part of the proof. -/
import Derived.Test.YtfmpdgeiodnnfaaGreatDoorQ9
set_option maxRecDepth 100000
set_option maxHeartbeats 2000000
set_option linter.all false
namespace Go.Proofs.YtfmpdgeiodnnfaaGreatDoor
section
open Go Go.ax QQ
def aU (n:Nat):List D:=[.int .i64 (n:Int)]
theorem gR:∀a:Nat,0+1≤(aU a).length∧eb cd (List.take 1 (List.drop 0 (aU a)))=some ((fun b=>((b:Int),())) a):=(fun a=>⟨by simp [aU],rfl⟩)
def gn (b:Bool):List D:=[.bool b]
theorem Dq:∀a:Bool,0+1≤(gn a).length∧eb [DS.bool] (List.take 1 (List.drop 0 (gn a)))=some ((fun b=>(b,())) a):=(fun a=>⟨by simp [gn],rfl⟩)
def yf (ps:List PT):Prop:=ps.length≤24∧∀p∈ps,p.ms.length≤10∧∀a∈p.ms,a.nx < ps.length
theorem GX:∀l:List Nat,aV (l.map aU)=l.map aU
 | []=>rfl
 | a::t=>by simp only [fY,aV,GX t];rfl
theorem count_set:∀(l:List Bool) (i:Nat),l[i]? = some false→(l.set i true).count true=l.count true+1
 | [],i,h=>by simp at h
 | a::t,0,h=>by
  simp at h;subst h;simp [U0]
 | a::t,i+1,h=>by
  simp at h;simp only [List.set_cons_succ,U0];rw [count_set t i (by simpa using h)];omega
theorem Mz {l:List Bool} {i:Nat} (h:i < l.length) {b:Bool}:bY (l.map gn) (0+i) 0 (.bool b)=(l.set i b).map gn:=by
 have:(l.map gn).getD (0+i) []=gn l[i]:=by simp [List.getD,h]
 unfold bY;rw [this,de,A3];rfl
section
variable {m:Nat} {Q:V→List (List C)→Prop}
theorem UA (hm:1≤m) {a b:BB} {c:Bool} {r:RR} {e:BB} {K:bj.T→OR} (h:Wp (K (a==e||b==e,())) Q):Wp (Io (T m) a b c r e K) Q:=by
 obtain ⟨m,rfl⟩:=cG hm;refine bJ ahg (ai (fun h1=>az ?_) (fun h1=>az ?_))
 ·rw [h1] at h;exact aE rfl h
 ·rw [h1] at h;exact aE rfl h
theorem T0 (q:Nat) (met:List Bool) (hM:met.length≤100) {K:dh.T→OR} (h:∀b (l:List Nat),(∀x∈l,x < met.length)→l.length≤met.length→Wp (K ((b,l.map aU),())) Q) :
  ∀(c i:Nat) (l:List Nat),met.length - i < c→i≤met.length→(∀x∈l,x < met.length)→l.length≤i→Wp (Gi (T q) q c (met.map gn) (l.map aU) (i:Int)) (J dh K Q)
 | 0,i,l,hc,_,_,_=>by omega
 | c+1,i,l,hc,hi,hl,Zp=>by
  refine aC al7 (ai (fun h1=>?_) (fun h1=>?_))
  ·have af:i < met.length:=bN h1;have hw:=wI i;refine oi Dq rfl (gE af) (ai (fun h2=>?_) (fun h2=>?_))
   ·refine aD (ia (by simp;omega) (by omega)) ?_;rw [hw,dj];have:=T0 q met hM h c (i+1) (l++[i]) (by omega) (by omega) (by intro x hx;rw [dA] at hx;rcases hx with hx | hx;exact hl x hx;simp at hx;omega) (by simp;omega);rw [ev] at this;exact this
   ·rw [hw];exact T0 q met hM h c (i+1) l (by omega) (by omega) hl (by omega)
  ·refine aD (by simp) ?_;rw [dj,GX];exact az (aE rfl (h false l hl (by omega)))
theorem TY (q:Nat) (met:List Bool) (hM:met.length≤100) {K:dh.T→OR} (h:∀b (l:List Nat),(∀x∈l,x < met.length)→l.length≤met.length→Wp (K ((b,l.map aU),())) Q) :
  ∀(c i:Nat),c≤q→met.length - i < c→i≤met.length→Wp (Gh (T q) q c (met.map gn) true [] (i:Int)) (J dh K Q)
 | 0,i,_,hc,_=>by omega
 | c+1,i,hq,hc,hi=>by
  refine aC al6 (ai (fun h1=>?_) (fun h1=>?_))
  ·have af:i < met.length:=bN h1;have hw:=wI i;refine oi Dq rfl (gE af) (ai (fun h2=>?_) (fun h2=>?_))
   ·refine aD rfl ?_;rw [hw];exact T0 q met hM h c (i+1) [i] (by omega) (by omega) (by intro x hx;simp at hx;omega) (by simp)
   ·rw [hw];exact TY q met hM h c (i+1) (by omega) (by omega) (by omega)
  ·exact az (aE rfl (h true [] (by intro x hx;cases hx) (by simp)))
theorem T1 (q:Nat) (hq:100≤q) {ps:List PT} (hP:yf ps) (role:BB) (a1:au dW) (c1:Nat) (i:Nat) {p:PT} (hp:p∈ps)
  (hZ:∀(met:List Bool) (todo:List Nat),met.length=ps.length→todo.length=met.count true→(∀x∈todo,x < ps.length)→i < todo.length→Wp (CY (T q) q c1 role a1 (met.map gn) (todo.map aU) ((i+1:Nat):Int)) Q) :
  ∀(c j:Nat) (met:List Bool) (todo:List Nat),p.ms.length - j < c→j≤p.ms.length→met.length=ps.length→todo.length=met.count true→(∀x∈todo,x < ps.length)→i < todo.length→
   Wp (Gj (T q) q c1 c role a1 (met.map gn) (todo.map aU) (i:Int) (p.fr,p.to,(p.t,p.ms.map cM),()) (j:Int)) Q
 | 0,j,met,todo,hc,_,_,_,_,_=>by omega
 | c+1,j,met,todo,hc,hj,h1,h2,h3,h4=>by
  have dk:=(hP.2 p hp).1;have aS:met.count true≤met.length:=HC;have cY:=hP.1;have JH:=wI i;refine aC ama (ai (fun g1=>?_) (fun g1=>?_))
  ·have af:j < p.ms.length:=bN g1;refine UA (m:=q) (by omega) (ai (fun g2=>?_) (fun g2=>?_))
   ·obtain ⟨r,hr⟩:=bl 1 q;have e1:KJ (T q) q c1 c q=KJ (T q) q c1 c (r+1):=by rw [←hr]
    have hg:p.ms[j]? = some p.ms[j]:=gE af;have Cj:=(hP.2 p hp).2 _ (bM af);have ju:p.ms[j].nx < met.length:=by omega
    have ZX:=wI j;rw [e1];refine aC amb ?_;refine aM yo rfl hg ?_;refine oi Dq rfl (gE ju) (ai (fun g3=>?_) (fun g3=>?_))
    ·have xt:met[p.ms[j].nx]? = some false:=by
      rw [gE ju];have:met[p.ms[j].nx]=false:=by simpa using g3
      rw [this]
     refine aM yo rfl hg ?_;refine ig rfl (aD (aX (by simpa using ju)) (fm (b:=gn false) (by rw [de,bQ,xt];rfl) (aD rfl (iA (v:=(false,())) rfl ?_))));refine aM yo rfl hg (aD (ia (by simp;omega) (by omega)) ?_);rw [Mz ju,dj,ZX];have eE:=count_set met _ xt;have:=T1 q hq hP role a1 c1 i hp hZ c (j+1) (met.set p.ms[j].nx true) (todo++[p.ms[j].nx]) (by omega) (by omega) (by simpa using h1) (by rw [eE];simp;omega)
      (by intro x hx;rw [dA] at hx;rcases hx with hx | hx;exact h3 x hx;simp at hx;omega) (by simp;omega)
     rw [ev] at this;exact this
    ·rw [ZX];exact T1 q hq hP role a1 c1 i hp hZ c (j+1) met todo (by omega) (by omega) h1 h2 h3 h4
   ·rw [JH];exact hZ met todo h1 h2 h3 h4
  ·rw [JH];exact hZ met todo h1 h2 h3 h4
theorem adG (q:Nat) (hq:100≤q) {ps:List PT} (hP:yf ps) (role:BB) (nm:BB) (rs:Bool×RR) (pb:Bool) {K:dh.T→OR} (h:∀b (l:List Nat),(∀x∈l,x < ps.length)→l.length≤ps.length→Wp (K ((b,l.map aU),())) Q) :
  ∀(c i:Nat) (met:List Bool) (todo:List Nat),ps.length - i < c→i≤todo.length→met.length=ps.length→todo.length=met.count true→(∀x∈todo,x < ps.length)→
   Wp (CY (T q) q c role (nm,rs,(pb,ps.map cP),()) (met.map gn) (todo.map aU) (i:Int)) (J dh K Q)
 | 0,i,met,todo,hc,_,_,_,_=>by omega
 | c+1,i,met,todo,hc,hi,h1,h2,h3=>by
  have aS:met.count true≤met.length:=HC;have cY:=hP.1;refine aC al9 (ai (fun g1=>?_) (fun g1=>?_))
  ·have af:i < todo.length:=bN g1;have hx:=h3 _ (bM af);refine oi gR rfl (gE af) ?_;refine aM Dr rfl (gE hx) ?_;have hp:=(hP.2 _ (bM hx)).1;exact T1 q hq hP role _ c i (bM hx) (fun met todo g1 g2 g3 g4=>adG q hq hP role nm rs pb h c (i+1) met todo (by omega) (by omega) g1 g2 g3) q 0 met todo (by omega) (by omega) h1 h2 h3 af
  ·have:=TY q met (by omega) (by rw [h1];exact h) q 0 (by omega) (by omega) (by omega);exact this
theorem adI (q:Nat) (hq:100≤q) {ps:List PT} (hP:yf ps) (role:BB) (nm:BB) (rs:Bool×RR) (pb fb:Bool) (fr:List Nat) (hf:fr.length≤50) {K:dh.T→OR} (h:∀b (l:List Nat),(∀x∈l,x < ps.length)→l.length≤ps.length→Wp (K ((b,l.map aU),())) Q) :
  ∀(c i:Nat) (met:List Bool) (todo:List Nat),fr.length - i < c→i≤fr.length→met.length=ps.length→todo.length=met.count true→(∀x∈todo,x < ps.length)→
   Wp (RG (T q) q c role fb (fr.map aU) (nm,rs,(pb,ps.map cP),()) (met.map gn) (todo.map aU) (i:Int)) (J dh K Q)
 | 0,i,met,todo,hc,_,_,_,_=>by omega
 | c+1,i,met,todo,hc,hi,h1,h2,h3=>by
  have aS:met.count true≤met.length:=HC;have cY:=hP.1;obtain ⟨r,hr⟩:=bl 1 q;refine aC amd (ai (fun g1=>?_) (fun g1=>?_))
  ·have af:i < fr.length:=bN g1;have hw:=wI i;have hg:fr[i]? = some fr[i]:=gE af;have e1:sS (T q) q c q=sS (T q) q c (r+1):=by rw [←hr]
   have eK:∀(met:List Bool) (todo:List Nat),met.length=ps.length→todo.length=met.count true→(∀x∈todo,x < ps.length)→Wp (sS (T q) q c q role fb (fr.map aU) (nm,rs,(pb,ps.map cP),()) (met.map gn) (todo.map aU) (i:Int)) (J dh K Q):=by
    intro met todo k1 k2 k3;rw [e1];refine aC aaE ?_;rw [hw];exact adI q hq hP role nm rs pb fb fr hf h c (i+1) met todo (by omega) (by omega) k1 k2 k3
   refine aM gR rfl hg (ai (fun g2=>?_) (fun g2=>?_))
   ·refine aM gR rfl hg (ai (fun g3=>?_) (fun g3=>?_))
    ·have ju:fr[i] < met.length:=bN g3;refine aM gR rfl hg ?_;refine oi Dq rfl (gE ju) (ai (fun g4=>?_) (fun g4=>?_))
     ·have xt:met[fr[i]]? = some false:=by
       rw [gE ju];have:met[fr[i]]=false:=by simpa using g4
       rw [this]
      refine aM gR rfl hg ?_;refine ig rfl (aD (aX (by simpa using ju)) (fm (b:=gn false) (by rw [de,bQ,xt];rfl) (aD rfl (iA (v:=(false,())) rfl ?_))));refine aM gR rfl hg (aD (ia (by simp;omega) (by omega)) ?_);rw [Mz ju,dj];have eE:=count_set met _ xt;have:=eK (met.set fr[i] true) (todo++[fr[i]]) (by simpa using h1) (by rw [eE];simp;omega) (by intro x hx;rw [dA] at hx;rcases hx with hx | hx;exact h3 x hx;simp at hx;omega);rw [ev] at this;exact this
     ·exact eK met todo h1 h2 h3
    ·exact eK met todo h1 h2 h3
   ·exact eK met todo h1 h2 h3
  ·exact adG q hq hP role nm rs pb h q 0 met todo (by omega) (by omega) h1 h2 h3
theorem adH (q:Nat) (hq:100≤q) {ps:List PT} (hP:yf ps) (role:BB) (nm:BB) (rs:Bool×RR) (pb fb:Bool) (fr:List Nat) (hf:fr.length≤50) (met:List Bool) (h1:met.length=ps.length) (h2:met.count true=0) {K:dh.T→OR} (h:∀b (l:List Nat),(∀x∈l,x < ps.length)→l.length≤ps.length→Wp (K ((b,l.map aU),())) Q) :
  ∀(c i:Nat),c≤q→fr.length - i < c→i≤fr.length→
   Wp (KK (T q) q c role fb (fr.map aU) (nm,rs,(pb,ps.map cP),()) (met.map gn) true [] (i:Int)) (J dh K Q)
 | 0,i,_,hc,_=>by omega
 | c+1,i,E7,hc,hi=>by
  have cY:=hP.1;obtain ⟨r,hr⟩:=bl 1 q;refine aC amc (ai (fun g1=>?_) (fun g1=>?_))
  ·have af:i < fr.length:=bN g1;have hw:=wI i;have hg:fr[i]? = some fr[i]:=gE af;have e1:sS (T q) q c q=sS (T q) q c (r+1):=by rw [←hr]
   have e2:Ah (T q) q c q=Ah (T q) q c (r+1):=by rw [←hr]
   have eK:Wp (Ah (T q) q c q role fb (fr.map aU) (nm,rs,(pb,ps.map cP),()) (met.map gn) true [] (i:Int)) (J dh K Q):=by
    rw [e2];refine aC ame ?_;rw [hw];exact adH q hq hP role nm rs pb fb fr hf met h1 h2 h c (i+1) (by omega) (by omega) (by omega)
   refine aM gR rfl hg (ai (fun g2=>?_) (fun g2=>eK));refine aM gR rfl hg (ai (fun g3=>?_) (fun g3=>eK));have ju:fr[i] < met.length:=bN g3;refine aM gR rfl hg ?_;refine oi Dq rfl (gE ju) (ai (fun g4=>?_) (fun g4=>eK));have xt:met[fr[i]]? = some false:=by
    rw [gE ju];have:met[fr[i]]=false:=by simpa using g4
    rw [this]
   refine aM gR rfl hg ?_;refine ig rfl (aD (aX (by simpa using ju)) (fm (b:=gn false) (by rw [de,bQ,xt];rfl) (aD rfl (iA (v:=(false,())) rfl ?_))));refine aM gR rfl hg (aD rfl ?_);rw [Mz ju,e1];refine aC aaE ?_;rw [hw];have eE:=count_set met _ xt;exact adI q hq hP role nm rs pb fb fr hf h c (i+1) (met.set fr[i] true) [fr[i]] (by omega) (by omega) (by simpa using h1) (by rw [eE,h2];simp) (by intro x hx;simp at hx;omega)
  ·have e3:KI (T q) q q=KI (T q) q (r+1):=by rw [←hr]
   rw [e3];refine aC al8 (eh rfl ?_);exact TY q met (by omega) (by rw [h1];exact h) q 0 (by omega) (by omega) (by omega)
theorem aeE (hm:110≤m) {ps:List PT} (hP:yf ps) {nm role:BB} {b1 b2 b3:Bool} {rs:RR} {fr:List Nat} (hf:fr.length≤50) {K:dh.T→OR} (h:∀b (l:List Nat),(∀x∈l,x < ps.length)→l.length≤ps.length→Wp (K ((b,l.map aU),())) Q) :
  Wp (N9 (T m) nm b1 rs b2 (ps.map cP) role b3 (fr.map aU) K) Q:=by
 obtain ⟨m,rfl⟩:=cG hm;have cY:=hP.1;refine bJ ahe (aD ?_ ?_)
 ·simp;omega
 ·have e1:List.replicate (ps.map cP).length [D.bool false]=(List.replicate ps.length false).map gn:=by simp [gn]
  rw [e1];exact adH m (by omega) hP role nm (b1,rs) b2 b3 fr hf _ (by simp) (by simp [List.count_replicate]) h m 0 (by omega) (by omega) (by omega)
end
end
section
open Go Go.ax QQ
def ji (role:BB) (ps:List PT) (x:Nat):Prop:=∃p,ps[x]? = some p∧(p.fr==role||p.to==role)=true
def aL (s:BB):List D:=[.str s]
theorem Mj:∀a:PR,0+3≤(cX a).length∧eb dW (List.take 3 (List.drop 0 (cX a)))=some ((fun p=>(p.nm,(p.rt,p.rs.map aL),(p.pt,p.iu),())) a):=(fun a=>⟨by simp [cX],rfl⟩)
theorem rG:∀a:BB,0+1≤(aL a).length∧eb [DS.str] (List.take 1 (List.drop 0 (aL a)))=some ((fun a=>(a,())) a):=(fun a=>⟨by simp [aL],rfl⟩)
theorem ji.lt {role:BB} {ps:List PT} {x:Nat} (h:ji role ps x):x < ps.length:=by
 obtain ⟨p,h1,_⟩:=h;exact (cA.1 h1).1
theorem qG:∀l:List BB,aV (l.map aL)=l.map aL
 | []=>rfl
 | a::t=>by simp only [fY,aV,qG t];rfl
theorem an8 (l:List BB):lZ (l.map aL)=true:=by
 cases l with
 | nil=>rfl
 | cons a t=>simp [lZ,tw,xO,aL]
theorem DR (l:List BB) (b:Bool):fS 16 (l.map aL) b=true:=by
 unfold fS;rw [an8];rfl
section
variable {m:Nat} {Q:V→List (List C)→Prop}
theorem Se (q:Nat) (hq:100≤q) {ps:List PT} (role nm:BB) (rs:Bool×RR) (pb lb:Bool) (l:List Nat) (hl:∀x∈l,x < ps.length) (oH:l.length≤50) (b1:Bool) (r1:RR) {K:dh.T→OR}
  (h:∀b (l':List Nat),(∀x∈l',ji role ps x)→l'.length≤l.length→Wp (K ((b,l'.map aU),())) Q) :
  ∀(c i:Nat) (o:List Nat),l.length - i < c→i≤l.length→(∀x∈o,ji role ps x)→o.length≤i→
   Wp (Gg (T q) q c role lb (l.map aU) (nm,(.im b1,r1),(.im pb,ps.map cP),()) (o.map aU) (i:Int)) (J dh K Q)
 | 0,i,o,hc,_,_,_=>by omega
 | c+1,i,o,hc,hi,ho,Zw=>by
  refine aC al4 (ai (fun g1=>eZ ?_) (fun g1=>?_))
  ·have af:i < l.length:=bN g1;have hw:=wI i;have hg:l[i]? = some l[i]:=gE af;have hx:=hl _ (bM af);have Ff:ps[l[i]]? = some ps[l[i]]:=gE hx;refine aM gR rfl hg ?_;refine aM Dr rfl Ff ?_;refine UA (m:=q) (by omega) (ai (fun g2=>?_) (fun g2=>?_))
   ·refine aM gR rfl hg (aD (ia (by simp;omega) (by omega)) ?_);rw [hw,dj];have:=Se q hq role nm rs pb lb l hl oH b1 r1 h c (i+1) (o++[l[i]]) (by omega) (by omega)
     (by intro x hx;rw [dA] at hx;rcases hx with hx | hx;exact ho x hx;simp at hx;subst hx;exact ⟨_,Ff,g2⟩) (by simp;omega)
    rw [ev] at this;exact this
   ·rw [hw];exact Se q hq role nm rs pb lb l hl oH b1 r1 h c (i+1) o (by omega) (by omega) ho (by omega)
  ·refine aD (by simp) ?_;rw [dj,GX];exact az (aE rfl (h false o ho (by omega)))
theorem abv (q:Nat) (hq:100≤q) {ps:List PT} (role nm:BB) (pb lb:Bool) (l:List Nat) (hl:∀x∈l,x < ps.length) (oH:l.length≤50) (b1:Bool) (r1:RR) {K:dh.T→OR}
  (h:∀b (l':List Nat),(∀x∈l',ji role ps x)→l'.length≤l.length→Wp (K ((b,l'.map aU),())) Q) :
  ∀(c i:Nat),c≤q→l.length - i < c→i≤l.length→
   Wp (KF (T q) q c role lb (l.map aU) (nm,(.im b1,r1),(.im pb,ps.map cP),()) true [] (i:Int)) (J dh K Q)
 | 0,i,_,hc,_=>by omega
 | c+1,i,E7,hc,hi=>by
  refine aC al3 (ai (fun g1=>eZ ?_) (fun g1=>?_))
  ·have af:i < l.length:=bN g1;have hw:=wI i;have hg:l[i]? = some l[i]:=gE af;have hx:=hl _ (bM af);have Ff:ps[l[i]]? = some ps[l[i]]:=gE hx;refine aM gR rfl hg ?_;refine aM Dr rfl Ff ?_;refine UA (m:=q) (by omega) (ai (fun g2=>?_) (fun g2=>?_))
   ·refine aM gR rfl hg (aD rfl ?_);rw [hw];exact Se q hq role nm (b1,r1) pb lb l hl oH b1 r1 h c (i+1) [l[i]] (by omega) (by omega) (by intro x hx;simp at hx;subst hx;exact ⟨_,Ff,g2⟩) (by simp)
   ·rw [hw];exact abv q hq role nm pb lb l hl oH b1 r1 h c (i+1) (by omega) (by omega) (by omega)
  ·exact az (aE rfl (h true [] (by intro x hx;cases hx) (by simp)))
theorem aev (hm:110≤m) {ps:List PT} {nm role:BB} {b1 b2 b3:Bool} {rs:RR} {l:List Nat} (hl:∀x∈l,x < ps.length) (oH:l.length≤50) {K:dh.T→OR}
  (h:∀b (l':List Nat),(∀x∈l',ji role ps x)→l'.length≤l.length→Wp (K ((b,l'.map aU),())) Q) :
  Wp (Oa (T m) nm b1 rs b2 (ps.map cP) role b3 (l.map aU) K) Q:=by
 obtain ⟨m,rfl⟩:=cG hm;exact bJ ahc (abv m (by omega) role nm b2 b3 l hl oH b1 rs h m 0 (by omega) (by omega) (by omega))
theorem aqM (hm:120≤m) {ps:List PT} (hP:yf ps) {nm role:BB} {b1 b2:Bool} {rs:RR} {x:Nat} {K:bj.T→OR} (h:∀b,Wp (K (b,())) Q) :
  Wp (WJ (T m) nm b1 rs b2 (ps.map cP) role (x:Int) K) Q:=by
 obtain ⟨m,rfl⟩:=cG hm;have cY:=hP.1;refine bJ ahb ?_;refine aeE (m:=m) (by omega) hP (fr:=[x]) (by simp) fun b l hl gg=>?_
 refine aev (m:=m) (by omega) hl (by omega) fun b' l' mo arv=>az ?_
 exact aE rfl (h _)
theorem ade (q:Nat) (a b:List Nat) (hl:a.length=b.length) (oH:a.length≤50) (x y:Bool) {K:bj.T→OR} (h:∀b,Wp (K (b,())) Q):∀(c i:Nat),a.length - i < c→i≤a.length→
  Wp (KG (T q) q c x (a.map aU) y (b.map aU) (i:Int)) (J bj K Q)
 | 0,i,hc,_=>by omega
 | c+1,i,hc,hi=>by
  refine aC al5 (ai (fun g1=>?_) (fun g1=>az (aE rfl (h true))));have af:i < a.length:=bN g1;refine aM gR rfl (gE af) ?_;refine aM gR rfl (gE (show i < b.length by omega)) (ai (fun g2=>az (aE rfl (h false))) (fun g2=>?_));rw [wI i];exact ade q a b hl oH x y h c (i+1) (by omega) (by omega)
theorem aqU (hm:110≤m) {a b:List Nat} (oH:a.length≤50) {x y:Bool} {K:bj.T→OR} (h:∀b,Wp (K (b,())) Q):Wp (WL (T m) x (a.map aU) y (b.map aU) K) Q:=by
 obtain ⟨m,rfl⟩:=cG hm;refine bJ ahd (ai (fun g1=>az (aE rfl (h false))) (fun g1=>?_));have hl:a.length=b.length:=by
  have g2:(ae (a.map aU).length != ae (b.map aU).length)=false:=g1;rw [bI,bI,cf,cf] at g2;have:=Vm.1 g2;omega
 exact ade m a b hl oH x y h m 0 (by omega) (by omega)
theorem Yq (q:Nat) (b:Bool) (l:List AM) (oH:l.length≤50) (s:BB) {K:iM.T→OR} (h1:Wp (K (-1,())) Q) (h2:∀i:Nat,i < l.length→Wp (K ((i:Int),())) Q):∀(c i:Nat),l.length - i < c→i≤l.length→
  Wp (Kz (T q) q c b (l.map cM) s (i:Int)) (J iM K Q)
 | 0,i,hc,_=>by omega
 | c+1,i,hc,hi=>by
  refine aC alR (ai (fun g1=>?_) (fun g1=>az (aE rfl h1)));have af:i < l.length:=bN g1;refine aM Ds rfl (gE af) (ai (fun g2=>az (aE rfl (h2 i af))) (fun g2=>?_));rw [wI i];exact Yq q b l oH s h1 h2 c (i+1) (by omega) (by omega)
theorem aer (hm:110≤m) {b:Bool} {l:List AM} (oH:l.length≤50) {s:BB} {K:iM.T→OR} (h1:Wp (K (-1,())) Q) (h2:∀i:Nat,i < l.length→Wp (K ((i:Int),())) Q):Wp (Ob (T m) b (l.map cM) s K) Q:=by
 obtain ⟨m,rfl⟩:=cG hm;exact bJ ag8 (Yq m b l oH s h1 h2 m 0 (by omega) (by omega))
def Ed (n:Nat) (K:dh.T→OR) (Q:V→List (List C)→Prop):Prop:=∀b (l':List BB),l'≠[]→l'.length≤n→Wp (K ((b,l'.map aL),())) Q
theorem S7 (q:Nat) (b:Bool) (l:List BB) (h5:l.length≤500) (s:BB) {K:dh.T→OR} (h:Ed (l.length+1) K Q) {i:Nat} (hi:i≤l.length) :
  Wp (Km (T (q+1)) (q+1) (q+1) b (l.map aL) s (i:Int)) (J dh K Q):=by
 have ht:List.take (i - 0) (List.drop 0 (l.map aL))=(l.take i).map aL:=by simp
 have hd:List.take ((l.map aL).length - i) (List.drop i (l.map aL))=(l.drop i).map aL:=by
  rw [List.map_drop,HJ (by simp)]
 refine aC alz (ig rfl (aD (aX (by simpa using hi)) (aD ?_ (ai (fun g=>?_) (fun g=>?_)))))
 ·rw [ht,DR];simp;omega
 ·refine aC alx (aD rfl (ig rfl (aD (by simp;omega) (aD ?_ (az ?_)))))
  ·rw [hd,DR];simp;omega
  ·rw [hd];have e:([[D.str []]].set 0 [D.str s]++(l.drop i).map aL)=(s::l.drop i).map aL:=rfl;have e2:aV (whole ([[D.str []]].set 0 [D.str s])++(l.drop i).map aL)=(s::l.drop i).map aL:=by rw [dj,e,qG]
   rw [e2];exact aE rfl (h false (s::l.drop i) (by simp) (by simp))
 ·refine aC aly (aD (ia (by simp;omega) (by omega)) (ig rfl (aD (by simp;omega) (aD ?_ (az ?_)))))
  ·rw [hd,DR,dj];simp;omega
  ·rw [hd,ht];have e2:aV ((l.take i).map aL++whole ([[D.str []]].set 0 [D.str s])++(l.drop i).map aL)=(l.take i++[s]++l.drop i).map aL:=by
    rw [dj,show ([[D.str []]].set 0 [D.str s])=[s].map aL from rfl,←ev,←ev,qG]
   rw [e2];exact aE rfl (h false _ (by simp) (by simp;omega))
theorem acz (q:Nat) (b:Bool) (l:List BB) (h5:l.length≤500) (s:BB) {K:dh.T→OR} (h:Ed (l.length+1) K Q):∀(c i:Nat),l.length - i < c→i≤l.length→
  Wp (Kn (T (q+1)) (q+1) c b (l.map aL) s (i:Int)) (J dh K Q)
 | 0,i,hc,_=>by omega
 | c+1,i,hc,hi=>by
  refine aC alA (ai (fun g1=>?_) (fun g1=>?_))
  ·have af:i < l.length:=bN g1;refine aM rG rfl (gE af) (ai (fun g2=>?_) (fun g2=>?_))
   ·rw [wI i];exact acz q b l h5 s h c (i+1) (by omega) (by omega)
   ·refine aC aaB (ai (fun g3=>?_) (fun g3=>S7 q b l h5 s h (by omega)));refine aM rG rfl (gE af) (ai (fun g4=>?_) (fun g4=>S7 q b l h5 s h (by omega)));exact az (aE rfl (h b l (by intro h0;rw [h0] at af;simp at af) (by omega)))
  ·refine aC aaB (ai (fun g3=>?_) (fun g3=>S7 q b l h5 s h (by omega)));rw [g1] at g3;cases g3
theorem aeA (hm:510≤m) {b:Bool} {l:List BB} (h5:l.length≤500) {s:BB} {K:dh.T→OR} (h:Ed (l.length+1) K Q):Wp (c236 (T m) b (l.map aL) s K) Q:=by
 obtain ⟨m,rfl⟩:=bl 2 m;exact bJ ag2 (acz m b l h5 s h (m+1) 0 (by omega) (by omega))
theorem Vz (q:Nat) (hq:510≤q) (a0:Bool) (l:List BB) (h4:l.length≤400) {K:dh.T→OR} (h:Ed (l.length+1) K Q):∀(c i:Nat) (b:Bool) (o:List BB),l.length - i < c→i≤l.length→o≠[]→o.length≤i+1→
  Wp (Kl (T q) q c a0 (l.map aL) b (o.map aL) (i:Int)) (J dh K Q)
 | 0,i,b,o,hc,_,_,_=>by omega
 | c+1,i,b,o,hc,hi,ho,Zw=>by
  refine aC alw (ai (fun g1=>?_) (fun g1=>az (aE rfl (h b o ho (by omega)))));have af:i < l.length:=bN g1;refine aM rG rfl (gE af) ?_;refine aeA (m:=q) (by omega) (by omega) fun b' o' qw mo=>?_
  rw [wI i];exact Vz q hq a0 l h4 h c (i+1) b' o' (by omega) (by omega) qw (by omega)
theorem aqD (hm:520≤m) {b:Bool} {l:List BB} (h4:l.length≤400) {s:BB} {K:dh.T→OR} (h:Ed (l.length+1) K Q):Wp (c218 (T m) b (l.map aL) s K) Q:=by
 obtain ⟨m,rfl⟩:=cG hm;refine bJ ag1 ?_;obtain ⟨r,hr⟩:=bl 1 m;have e1:Kk (T m) m m=Kk (T m) m (r+1):=by rw [←hr]
 rw [e1];refine aC alv (ai (fun g1=>?_) (fun g1=>aD rfl (az (aE rfl (h false [s] (by simp) (by simp))))));have af:0 < l.length:=bN g1;refine aM rG (i:=0) rfl (gE af) (aD rfl ?_);refine aeA (m:=m) (by omega) (l:=[s]) (by simp) fun b' o' qw mo=>?_
 exact Vz m (by omega) b l h4 h r 1 b' o' (by omega) (by omega) qw (by simpa using mo)
end
end
section
open Go Go.ax QQ
def kJ (x:Bool×List Nat):List D:=[.sl (.im x.1) 1 (x.2.map aU)]
structure PK where
 nm:BB
 rb:Bool
 rs:RR
 pb:Bool
 ps:List PT
 role:BB
def WB (k:PK) (t:Tag) (bg:List (Bool×List Nat)):au bu:=(k.nm,(.im k.rb,k.rs),(.im k.pb,k.ps.map cP),k.role,(t,bg.map kJ),())
structure PH (k:PK):Prop where
 iu:yf k.ps
 afe:∀x,ji k.role k.ps x→∃p,k.ps[x]? = some p∧p.ms≠[]
structure SH (k:PK) (t:Tag) (bg:List (Bool×List Nat)):Prop where
 no:t = .own∨(t = .im true∧bg=[])
 ne:t = .own→bg≠[]
 ln:bg.length≤40
 ok:∀x∈bg,(∀y∈x.2,ji k.role k.ps y)∧x.2.length≤24
section
variable {m:Nat} {Q:V→List (List C)→Prop} {k:PK} {t:Tag} {bg:List (Bool×List Nat)}
theorem Qd (q:Nat) (hq:100≤q) (hk:PH k) (b:Bool) (l:List Nat) (hl:∀y∈l,ji k.role k.ps y) (cY:l.length≤24) {x2:au bu} {K:DA.T→OR}
  (h:∀kd pr err,(err=0→l≠[]→kd=1∨kd=2)→Wp (K ((kd,pr,err,()),WB k t bg,())) Q):∀(c i:Nat) (kd:Int) (pr:BB),l.length - i < c→i≤l.length→(kd=1∨kd=2)→
   Wp (CS (T q) q x2 c b (l.map aU) (WB k t bg) (i:Int) kd pr) (J DA K Q)
 | 0,i,kd,pr,hc,_,_=>by omega
 | c+1,i,kd,pr,hc,hi,oM=>by
  refine aC alT (ai (fun g1=>eZ ?_) (fun g1=>az (aE rfl (h kd pr 0 (fun _ _=>oM)))));have af:i < l.length:=bN g1;have hw:=wI i;obtain ⟨p,hp,_⟩:=hl _ (bM af);obtain ⟨r,hr⟩:=bl 1 q;have e1:CU (T q) q x2 c q=CU (T q) q x2 c (r+1):=by rw [←hr]
  have rest:∀(a6:au lg) (rq:Int) (yj:BB),(rq=1∨rq=2)→Wp (CU (T q) q x2 c q b (l.map aU) (WB k t bg) (i:Int) kd pr a6 rq yj) (J DA K Q):=by
   intro a6 rq yj Jp;rw [e1];refine aC alV (ai (fun g2=>ai (fun g3=>?_) (fun g3=>ai (fun g4=>?_) (fun g4=>?_))) (fun g2=>?_))
   ·exact az (aE rfl (h 0 [] 802 (fun h0=>by cases h0)))
   ·exact az (aE rfl (h 0 [] 802 (fun h0=>by cases h0)))
   ·rw [hw];exact Qd q hq hk b l hl cY h c (i+1) rq yj (by omega) (by omega) Jp
   ·rw [hw];exact Qd q hq hk b l hl cY h c (i+1) rq yj (by omega) (by omega) Jp
  refine aM gR rfl (gE af) ?_;refine aM Dr rfl hp (ai (fun g2=>?_) (fun g2=>?_))
  ·exact rest _ 2 _ (.inr rfl)
  ·exact rest _ 1 _ (.inl rfl)
theorem aqI (hm:110≤m) (hk:PH k) {b:Bool} {l:List Nat} (hl:∀y∈l,ji k.role k.ps y) (cY:l.length≤24) {K:DA.T→OR}
  (h:∀kd pr err,(err=0→l≠[]→kd=1∨kd=2)→Wp (K ((kd,pr,err,()),WB k t bg,())) Q):Wp (c193 (T m) b (l.map aU) (WB k t bg) K) Q:=by
 obtain ⟨m,rfl⟩:=cG hm;refine bJ ag9 ?_;obtain ⟨r,hr⟩:=bl 1 m;have e1:∀x,KA (T m) m x m=KA (T m) m x (r+1):=by intro x;rw [←hr]
 rw [e1];refine aC alS (ai (fun g1=>eZ ?_) (fun g1=>az (aE rfl (h 0 [] 0 (fun _ h0=>?_)))))
 ·have af:0 < l.length:=bN g1;obtain ⟨p,hp,_⟩:=hl _ (bM af);have e2:∀x,CT (T m) m x r m=CT (T m) m x r (r+1):=by intro x;rw [←hr]
  have rest:∀(x2:au bu) (a6:au lg) (rq:Int) (yj:BB),(rq=1∨rq=2)→Wp (CT (T m) m x2 r m b (l.map aU) (WB k t bg) 0 [] 0 a6 rq yj) (J DA K Q):=by
   intro x2 a6 rq yj Jp;rw [e2];refine aC alU (eh rfl ?_);exact Qd m (by omega) hk b l hl cY h r 1 rq yj (by omega) (by omega) Jp
  refine aM gR (i:=0) rfl (gE af) ?_;refine aM Dr rfl hp (ai (fun g2=>?_) (fun g2=>?_))
  ·exact rest _ _ 2 _ (.inr rfl)
  ·exact rest _ _ 1 _ (.inl rfl)
 ·have g2:¬ (0:Int) < ae (l.map aU).length:=lk g1;rw [bI,cf] at g2;cases l with
  | nil=>exact absurd rfl h0
  | cons=>simp at g2
def Nw (k:PK) (t:Tag) (bg:List (Bool×List Nat)) (l:List Nat) (K:AH.T→OR) (Q:V→List (List C)→Prop):Prop:=
 ∀b (ls:List BB) al,(l≠[]→ls≠[])→ls.length≤300→Wp (K (((b,ls.map aL),al,()),WB k t bg,())) Q
theorem aaT (q:Nat) (hk:PH k) (b:Bool) (l:List Nat) (hl:∀y∈l,ji k.role k.ps y) (cY:l.length≤24) {x2:au bu} (lb:Bool) (ls:List BB) (h0:l≠[]→ls≠[]) (h3:ls.length≤300) {K:AH.T→OR} (h:Nw k t bg l K Q):∀(c i:Nat),l.length - i < c→i≤l.length→
  Wp (KB (T q) q x2 c b (l.map aU) (WB k t bg) lb (ls.map aL) (i:Int)) (J AH K Q)
 | 0,i,hc,_=>by omega
 | c+1,i,hc,hi=>by
  refine aC alW (ai (fun g1=>eZ ?_) (fun g1=>az (aE rfl (h lb ls true h0 h3))));have af:i < l.length:=bN g1;obtain ⟨p,hp,_⟩:=hl _ (bM af);refine aM gR rfl (gE af) ?_;refine aM Mk rfl hp (ai (fun g2=>az (aE rfl (h lb ls false h0 h3))) (fun g2=>?_));rw [wI i];exact aaT q hk b l hl cY lb ls h0 h3 h c (i+1) (by omega) (by omega)
theorem aaV (q:Nat) (hq:530≤q) (b:Bool) (l:List Nat) {x2:au bu} (c1:Nat) (i:Nat) (cY:i≤24) (pb:Bool) (ms:List AM) (dk:ms.length≤10)
  (h:∀lb (ls:List BB),ls.length≤(i+1) * 10→(ms≠[]→ls≠[])→Wp (Gf (T q) q x2 c1 b (l.map aU) (WB k t bg) lb (ls.map aL) ((i+1:Nat):Int)) Q):∀(c j:Nat) (lb:Bool) (ls:List BB),ms.length - j < c→j≤ms.length→ls.length≤i * 10+j→(1≤j→ls≠[])→
  Wp (KC (T q) q x2 c1 c b (l.map aU) (WB k t bg) lb (ls.map aL) (i:Int) pb (ms.map cM) (j:Int)) Q
 | 0,j,lb,ls,hc,_,_,_=>by omega
 | c+1,j,lb,ls,hc,hj,lR,aA=>by
  refine aC alY (ai (fun g1=>?_) (fun g1=>?_))
  ·have af:j < ms.length:=bN g1;refine aM Ds rfl (gE af) ?_;refine aqD (m:=q) (by omega) (by omega) fun b' l' QE mo=>?_
   rw [wI j];exact aaV q hq b l c1 i cY pb ms dk h c (j+1) b' l' (by omega) (by omega) (by omega) (fun _=>QE)
  ·rw [wI i];have g2:¬ (j:Int) < ae (ms.map cM).length:=lk g1;rw [bI,cf] at g2;refine h lb ls (by omega) (fun h0=>aA ?_);cases ms with
   | nil=>exact absurd rfl h0
   | cons=>simp at g2;omega
theorem aaU (q:Nat) (hq:530≤q) (hk:PH k) (b:Bool) (l:List Nat) (hl:∀y∈l,ji k.role k.ps y) (cY:l.length≤24) {x2:au bu} {K:AH.T→OR} (h:Nw k t bg l K Q):∀(c i:Nat) (lb:Bool) (ls:List BB),l.length - i < c→i≤l.length→ls.length≤i * 10→(1≤i→ls≠[])→
  Wp (Gf (T q) q x2 c b (l.map aU) (WB k t bg) lb (ls.map aL) (i:Int)) (J AH K Q)
 | 0,i,lb,ls,hc,_,_,_=>by omega
 | c+1,i,lb,ls,hc,hi,lR,aA=>by
  refine aC alX (ai (fun g1=>eZ ?_) (fun g1=>?_))
  ·have af:i < l.length:=bN g1;obtain ⟨p,hp,ajU⟩:=hk.afe _ (hl _ (bM af));have dk:=(hk.iu.2 p (fp hp)).1;refine aM gR rfl (gE af) ?_;refine aM Mk rfl hp ?_;exact aaV q hq b l c i (by omega) p.t p.ms dk (fun lb' RX g2 g3=>aaU q hq hk b l hl cY h c (i+1) lb' RX (by omega) (by omega) g2 (fun _=>g3 ajU)) q 0 lb ls (by omega) (by omega) (by omega) (fun h0=>by omega)
  ·have g2:¬ (i:Int) < ae (l.map aU).length:=lk g1;rw [bI,cf] at g2;exact aaT q hk b l hl cY lb ls (fun h0=>aA (by cases l with | nil=>exact absurd rfl h0 | cons=>simp at g2;omega)) (by omega) h q 0 (by omega) (by omega)
theorem aqK (hm:540≤m) (hk:PH k) {b:Bool} {l:List Nat} (hl:∀y∈l,ji k.role k.ps y) (cY:l.length≤24) {K:AH.T→OR} (h:Nw k t bg l K Q):Wp (c194 (T m) b (l.map aU) (WB k t bg) K) Q:=by
 obtain ⟨m,rfl⟩:=cG hm;exact bJ ag' (aaU m (by omega) hk b l hl cY h m 0 true [] (by omega) (by omega) (by simp) (fun h0=>by omega))
def Nt (k:PK) (t:Tag) (bg:List (Bool×List Nat)) (K:yz.T→OR) (Q:V→List (List C)→Prop):Prop:=
 ∀kd nm b (to:List Nat) is,to.length≤24→Wp (K (((kd,nm,()),(b,to.map aU),is,()),WB k t bg,())) Q
theorem Ot (q:Nat) (hq:530≤q) (hk:PH k) (b:Bool) (l:List Nat) (hl:∀y∈l,ji k.role k.ps y) (cY:l.length≤24) (s:BB) {x3:au bu} (a4:au ka) {K:yz.T→OR} (h:Nt k t bg K Q):∀(c i:Nat) (a5:au ka) (to:List Nat),l.length - i < c→i≤l.length→to.length≤i→
  Wp (Gd (T q) q x3 c b (l.map aU) s (WB k t bg) a4 a5 (to.map aU) (i:Int)) (J yz K Q)
 | 0,i,a5,to,hc,_,_=>by omega
 | c+1,i,a5,to,hc,hi,QW=>by
  refine aC alO (ai (fun g1=>eZ ?_) (fun g1=>?_))
  ·have af:i < l.length:=bN g1;have hw:=wI i;obtain ⟨p,hp,_⟩:=hl _ (bM af);have dk:=(hk.iu.2 p (fp hp)).1;obtain ⟨r,hr⟩:=bl 1 q;have e1:CQ (T q) q x3 c q=CQ (T q) q x3 c (r+1):=by rw [←hr]
   have rest:∀j:Nat,j < p.ms.length→Wp (CQ (T q) q x3 c q b (l.map aU) s (WB k t bg) a4 a5 (to.map aU) (i:Int) p.t (p.ms.map cM) (j:Int)) (J yz K Q):=by
    intro j hj;rw [e1];refine aC alQ ?_;refine aM G3 rfl (gE hj) ?_;refine aM yo rfl (gE hj) (aD (ia (by simp;omega) (by omega)) ?_);rw [hw,dj];have:=Ot (x3:=x3) q hq hk b l hl cY s a4 h c (i+1) (p.ms[j].kd,p.ms[j].nm,()) (to++[p.ms[j].nx]) (by omega) (by omega) (by simp;omega);rw [ev] at this;exact this
   refine aM gR rfl (gE af) ?_;refine aM Mk rfl hp ?_;refine aer (m:=q) (by omega) (by omega) ?_ (fun j hj=>?_)
   ·refine gl rfl ?_;rw [hw];exact Ot q hq hk b l hl cY s a4 h c (i+1) a5 to (by omega) (by omega) (by omega)
   ·refine eh (bR (show ¬ ((j:Nat):Int) < 0 by omega)) (ai (fun g2=>?_) (fun g2=>rest j hj));refine aM G3 rfl (gE hj) (ai (fun g3=>?_) (fun g3=>rest j hj));exact az (aE rfl (h a5.1 a5.2.1 true [] false (by simp)))
  ·refine aD (by simp) ?_;rw [dj,GX];exact az (aE rfl (h a5.1 a5.2.1 false to true (by omega)))
theorem W6 (q:Nat) (hq:530≤q) (hk:PH k) (b:Bool) (l:List Nat) (hl:∀y∈l,ji k.role k.ps y) (cY:l.length≤24) (s:BB) {x3:au bu} (a4:au ka) {K:yz.T→OR} (h:Nt k t bg K Q):∀(c i:Nat) (a5:au ka),c≤q→l.length - i < c→i≤l.length→
  Wp (Ky (T q) q x3 c b (l.map aU) s (WB k t bg) a4 a5 true [] (i:Int)) (J yz K Q)
 | 0,i,a5,_,hc,_=>by omega
 | c+1,i,a5,E7,hc,hi=>by
  refine aC alN (ai (fun g1=>eZ ?_) (fun g1=>az (aE rfl (h a5.1 a5.2.1 true [] true (by simp)))));have af:i < l.length:=bN g1;have hw:=wI i;obtain ⟨p,hp,_⟩:=hl _ (bM af);have dk:=(hk.iu.2 p (fp hp)).1;obtain ⟨r,hr⟩:=bl 1 q;have e1:Ge (T q) q x3 c q=Ge (T q) q x3 c (r+1):=by rw [←hr]
  refine aM gR rfl (gE af) ?_;refine aM Mk rfl hp ?_;refine aer (m:=q) (by omega) (by omega) ?_ (fun j hj=>?_)
  ·refine gl rfl ?_;rw [hw];exact W6 q hq hk b l hl cY s a4 h c (i+1) a5 (by omega) (by omega) (by omega)
  ·refine eh (bR (show ¬ ((j:Nat):Int) < 0 by omega)) (eh rfl ?_);rw [e1];refine aC alP ?_;refine aM G3 rfl (gE hj) ?_;refine aM yo rfl (gE hj) (aD rfl ?_);rw [hw];exact Ot q hq hk b l hl cY s a4 h c (i+1) (p.ms[j].kd,p.ms[j].nm,()) [p.ms[j].nx] (by omega) (by omega) (by simp)
theorem Us (hm:540≤m) (hk:PH k) {b:Bool} {l:List Nat} (hl:∀y∈l,ji k.role k.ps y) (cY:l.length≤24) {s:BB} {K:yz.T→OR} (h:Nt k t bg K Q):Wp (Im (T m) b (l.map aU) s (WB k t bg) K) Q:=by
 obtain ⟨m,rfl⟩:=cG hm;exact bJ ag7 (W6 m (by omega) hk b l hl cY s _ h m 0 _ (by omega) (by omega) (by omega))
end
end
section
open Go Go.ax QQ
section
variable {m:Nat} {Q:V→List (List C)→Prop} {k:PK} {t:Tag} {bg:List (Bool×List Nat)}
def Ea (k:PK) (t:Tag) (bg:List (Bool×List Nat)) (K:oZ.T→OR) (Q:V→List (List C)→Prop):Prop:=
 (∀err,err≠0→Wp (K ((0,err,()),WB k t bg,())) Q)∧∀t' jA (i:Nat),SH k t' jA→(∃x,jA=bg++x)→i < jA.length→Wp (K (((i:Int),0,()),WB k t' jA,())) Q
theorem SH.app (h:SH k t bg) {b:Bool} {l:List Nat} (hl:∀y∈l,ji k.role k.ps y) (cY:l.length≤24) (hn:bg.length≠40):SH k .own (bg++[(b,l)]):=
 ⟨.inl rfl, fun _ => by simp, by have := h.ln; simp; omega, by
   intro x hx
   rw [dA] at hx
   rcases hx with hx | hx
   · exact h.ok x hx
   · simp at hx; subst hx; exact ⟨hl, cY⟩⟩
theorem anU (q r:Nat) (hS:SH k .own bg) (aA:bg≠[]) {x2:au bu} {K:oZ.T→OR} (h:∀i:Nat,i < bg.length→Wp (K (((i:Int),0,()),WB k .own bg,())) Q) :
  Wp (CV (T q) q x2 (r+1) (WB k .own bg)) (J oZ K Q):=by
 refine aC alZ (jc (az ?_));have hp:0 < bg.length:=by cases bg with | nil=>exact absurd rfl aA | cons=>simp
 have I8:=hS.ln;have hw:ao (ae (bg.map kJ).length - 1)=((bg.length - 1:Nat):Int):=gF (by rw [bI];simp;omega) (by omega);refine aE (x:=((((bg.length - 1:Nat):Int),0,()),WB k .own bg,())) ?_ (h (bg.length - 1) (by omega));show gW oZ (.aq [.one (iC (ao (ae (bg.map kJ).length - 1))),_],_)=_;rw [hw];rfl
theorem abb (q:Nat) (hq:130≤q) (hS:SH k t bg) (b:Bool) (l:List Nat) (hl:∀y∈l,ji k.role k.ps y) (cY:l.length≤24) {x2:au bu} {K:oZ.T→OR} (h:Ea k t bg K Q) (hn:bg.length≠40) :
  Wp (CV (T q) q x2 q (WB k .own (bg++[(b,l)]))) (J oZ K Q):=by
 obtain ⟨r,hr⟩:=bl 1 q;have e0:CV (T q) q x2 q=CV (T q) q x2 (r+1):=by rw [←hr]
 rw [e0];exact anU q r (hS.app hl cY hn) (by simp) (fun i hi=>h.2 _ _ i (hS.app hl cY hn) ⟨_,rfl⟩ hi)
theorem aa9 (q:Nat) (hq:130≤q) (hS:SH k .own bg) (b:Bool) (l:List Nat) (hl:∀y∈l,ji k.role k.ps y) (cY:l.length≤24) {x2:au bu} {K:oZ.T→OR} (h:Ea k .own bg K Q):∀(c i:Nat),bg.length - i < c→i≤bg.length→
  Wp (Ag (T q) q x2 c (WB k .own bg) b (l.map aU) (i:Int)) (J oZ K Q)
 | 0,i,hc,_=>by omega
 | c+1,i,hc,hi=>by
  have I8:=hS.ln;have self:∃x,bg=bg++x:=⟨[],by simp⟩
  have ue:∀a:Bool×List Nat,0+1≤(kJ a).length∧eb [.im 1] (List.take 1 (List.drop 0 (kJ a)))=some ((a.1,a.2.map aU),()):=fun a=>⟨by simp [kJ],rfl⟩
  refine aC aaD (jc (ai (fun g1=>?_) (fun g1=>ai (fun g2=>az (aE rfl (h.1 805 (by decide)))) (fun g2=>?_))))
  ·have af:i < bg.length:=bN g1;refine oi (enc:=kJ) (f:=fun a=>((a.1,a.2.map aU),())) ue rfl (gE af) ?_;refine aqU (m:=q) (by omega) (by have:=(hS.ok _ (bM af)).2;omega) fun bb=>ai (fun g3=>az (aE rfl (h.2 _ _ i hS self af))) (fun g3=>?_)
   rw [wI i];exact aa9 q hq hS b l hl cY h c (i+1) (by omega) (by omega)
  ·have hn:bg.length≠40:=by
    intro h4;have:(ae (bg.map kJ).length==40)=true:=by rw [bI,cf,h4];rfl
    have g3:(ae (bg.map kJ).length==40)=false:=g2;rw [this] at g3;cases g3
   refine aD (ia (by simp [WB];omega) (by omega)) ?_;have:=abb (x2:=x2) q hq hS b l hl cY h hn;have e:WB k .own (bg++[(b,l)])=(k.nm,(.im k.rb,k.rs),(.im k.pb,k.ps.map cP),k.role,(.own,bg.map kJ++[[.sl (.im b) 1 (l.map aU)]]),()):=by simp [WB,kJ]
   rw [e] at this;exact this
theorem anV (q:Nat) (hq:130≤q) (hS:SH k t bg) (b:Bool) (l:List Nat) (hl:∀y∈l,ji k.role k.ps y) (cY:l.length≤24) {x2:au bu} {K:oZ.T→OR} (h:Ea k t bg K Q) :
  Wp (Ag (T q) q x2 q (WB k t bg) b (l.map aU) 0) (J oZ K Q):=by
 rcases hS.no with ht | ⟨ht,mw⟩
 ·subst ht;have I8:=hS.ln;exact aa9 q hq hS b l hl cY h q 0 (by omega) (by omega)
 ·subst ht;have:=abb (x2:=x2) q hq hS b l hl cY h (by rw [mw];simp);subst mw;obtain ⟨r,hr⟩:=bl 1 q;have e0:Ag (T q) q x2 q=Ag (T q) q x2 (r+1):=by rw [←hr]
  rw [e0];exact aC aaD (eZ (eh rfl (eh rfl (aD rfl this))))
theorem aa' (q:Nat) (hq:130≤q) (hk:PH k) (hS:SH k t bg) (ab:Bool) (all:List Nat) (ha:∀x∈all,x < k.ps.length) (ajj:all.length≤24) (b:Bool) (l:List Nat) (hl:∀y∈l,ji k.role k.ps y) (cY:l.length≤24) {x2:au bu} {K:oZ.T→OR} (h:Ea k t bg K Q):∀(c i:Nat),all.length - i < c→i≤all.length→
  Wp (KD (T q) q x2 c (WB k t bg) ab (all.map aU) b (l.map aU) (i:Int)) (J oZ K Q)
 | 0,i,hc,_=>by omega
 | c+1,i,hc,hi=>by
  obtain ⟨r,hr⟩:=bl 1 q;have e3:KE (T q) q x2 c q=KE (T q) q x2 c (r+1):=by rw [←hr]
  have e4:CW (T q) q x2 q=CW (T q) q x2 (r+1):=by rw [←hr]
  have I8:=hS.ln;have fin:Wp (CW (T q) q x2 q (WB k t bg) b (l.map aU)) (J oZ K Q):=by
   rw [e4];exact aC al2 (anV q hq hS b l hl cY h)
  refine aC al0 (ai (fun g1=>ai (fun g2=>?_) (fun g2=>fin)) (fun g1=>fin));have af:i < all.length:=bN g1;rw [e3];refine aC al1 (eZ (eZ ?_));refine aM gR rfl (gE af) ?_;refine aqM (m:=q) (by omega) hk.iu fun bb=>ai (fun g3=>az (aE rfl (h.1 801 (by decide)))) (fun g3=>?_)
  rw [wI i];exact aa' q hq hk hS ab all ha ajj b l hl cY h c (i+1) (by omega) (by omega)
theorem Uv (hm:140≤m) (hk:PH k) (hS:SH k t bg) {b:Bool} {fr:List Nat} (hf:fr.length≤50) {K:oZ.T→OR} (h:Ea k t bg K Q):Wp (c139 (T m) b (fr.map aU) (WB k t bg) K) Q:=by
 obtain ⟨m,rfl⟩:=cG hm;have cY:=hk.iu.1;refine bJ aha (eZ (eZ ?_));refine aeE (m:=m) (by omega) hk.iu hf fun b1 l1 h1 jJ=>?_
 refine aev (m:=m) (by omega) h1 (by omega) fun b2 l2 h2 dO=>?_
 exact aa' m (by omega) hk hS b1 l1 h1 (by omega) b2 l2 h2 (by omega) h m 0 (by omega) (by omega)
def HV (k:PK) (bg:List (Bool×List Nat)) (K:ti.T→OR) (Q:V→List (List C)→Prop):Prop:=
 (∀x y err,err≠0→Wp (K ((x,err,()),y,())) Q)∧∀(tn:TN) t' jA,SH k t' jA→(∃x,jA=bg++x)→GU jA.length tn→Wp (K (((tn.kd,tn.pr,(tn.t,tn.ms.map cM),()),0,()),WB k t' jA,())) Q
theorem ab7:∀l:List AM,aV (l.map cM)=l.map cM
 | []=>rfl
 | a::t=>by simp only [fY,aV,ab7 t];rfl
theorem ad9 (q:Nat) (hq:550≤q) (hk:PH k) (b:Bool) (l:List Nat) (hl:∀y∈l,ji k.role k.ps y) (cY:l.length≤24) (lb:Bool) (ls:List BB) (h6:ls.length≤6) (kd:Int) (oM:kd=1∨kd=2) (pr:BB) (a3:au jB) {x2:au bu} {K:ti.T→OR} (h:HV k bg K Q):∀(c i:Nat) (t:Tag) (jA:List (Bool×List Nat)) (o:List AM),ls.length - i < c→i≤ls.length→SH k t jA→(∃x,jA=bg++x)→(∀a∈o,a.nx < jA.length)→o.length=i→o≠[]→
  Wp (KL (T q) q x2 c b (l.map aU) (WB k t jA) a3 lb (ls.map aL) (kd,pr,o.map cM,()) (i:Int)) (J ti K Q)
 | 0,i,t,jA,o,hc,_,_,_,_,_,_=>by omega
 | c+1,i,t,jA,o,hc,hi,hS,hx,ho,Zw,aA=>by
  refine aC amg (ai (fun g1=>?_) (fun g1=>?_))
  ·have af:i < ls.length:=bN g1;refine aM rG rfl (gE af) ?_;refine Us (m:=q) (by omega) hk hl cY fun Iw Iz cb to is QW=>?_
   refine Uv (m:=q) (by omega) hk hS (by omega) ⟨fun err he=>?_,fun t' TP j PN FL hj=>?_⟩
   ·refine gl (by simpa using he) (az (aE rfl (h.1 _ _ _ he)))
   ·refine eh rfl ?_;refine aM rG rfl (gE af) (aD (ia (by simp;omega) (by omega)) ?_);obtain ⟨x,hx⟩:=hx;obtain ⟨y,hy⟩:=FL;rw [wI i];have:=ad9 q hq hk b l hl cY lb ls h6 kd oM pr a3 (x2:=x2) h c (i+1) t' TP (o++[⟨ls[i],Iw,Iz,j⟩]) (by omega) (by omega) PN ⟨x++y,by rw [hy,hx,ej]⟩
     (by intro a ha;rw [dA] at ha;rcases ha with ha | ha;have:=ho a ha;rw [hy];simp;omega;simp at ha;subst ha;exact hj) (by simp;omega) (by simp)
    rw [ev] at this;exact this
  ·refine aD ?_ (aD (by simp) (az ?_))
   ·cases o with
    | nil=>exact absurd rfl aA
    | cons=>simp
   ·refine aE (x:=(((kd,pr,(false,o.map cM),()),0,()),WB k t jA,())) ?_ (h.2 ⟨kd,pr,false,o⟩ t jA hS hx (.inr ⟨oM,?_,by show o.length≤10;omega,ho⟩))
    ·show gW ti (.aq [.agg [iC kd,sC pr,lC (.im false) 4 (aV (whole (o.map cM)))],_],_)=_;rw [dj,ab7];rfl
    ·show 1≤o.length;cases o with
     | nil=>exact absurd rfl aA
     | cons=>simp
theorem aqm (q:Nat) (hq:550≤q) (hk:PH k) (hS:SH k t bg) (b:Bool) (l:List Nat) (hl:∀y∈l,ji k.role k.ps y) (cY:l.length≤24) (lb:Bool) (ls:List BB) (h6:ls.length≤6) (lR:ls≠[]) (kd:Int) (oM:kd=1∨kd=2) (pr:BB) (a3:au jB) {x2:au bu} {K:ti.T→OR} (h:HV k bg K Q) :
  Wp (Gk (T q) q x2 q b (l.map aU) (WB k t bg) a3 lb (ls.map aL) (kd,pr,(true,[]),()) 0) (J ti K Q):=by
 obtain ⟨r,hr⟩:=bl 1 q;have e0:Gk (T q) q x2 q=Gk (T q) q x2 (r+1):=by rw [←hr]
 rw [e0];have af:0 < ls.length:=by cases ls with | nil=>exact absurd rfl lR | cons=>simp
 refine aC amf (gl (aX (by rw [bI];simp;omega)) ?_);refine aM rG (i:=0) rfl (gE af) ?_;refine Us (m:=q) (by omega) hk hl cY fun Iw Iz cb to is QW=>?_
 refine Uv (m:=q) (by omega) hk hS (by omega) ⟨fun err he=>?_,fun t' TP j PN FL hj=>?_⟩
 ·refine gl (by simpa using he) (az (aE rfl (h.1 _ _ _ he)))
 ·refine eh rfl ?_;refine aM rG (i:=0) rfl (gE af) (aD rfl ?_);exact ad9 q hq hk b l hl cY lb ls h6 kd oM pr a3 h r 1 t' TP [⟨ls[0],Iw,Iz,j⟩] (by omega) (by omega) PN FL (by intro a ha;simp at ha;subst ha;exact hj) rfl (by simp)
theorem aea (q:Nat) (hq:550≤q) (hk:PH k) (hS:SH k t bg) (b:Bool) (l:List Nat) (hl:∀y∈l,ji k.role k.ps y) (cY:l.length≤24) (lb:Bool) (ls:List BB) (h6:ls.length≤6) (lR:ls≠[]) (kd:Int) (oM:kd=1∨kd=2) (pr:BB) (a3:au jB) {x2:au bu} {K:ti.T→OR} (h:HV k bg K Q):∀(c i:Nat),ls.length - i < c→i≤ls.length→
  Wp (KM (T q) q x2 c b (l.map aU) (WB k t bg) a3 kd pr lb (ls.map aL) (i:Int)) (J ti K Q)
 | 0,i,hc,_=>by omega
 | c+1,i,hc,hi=>by
  refine aC amh (ai (fun g1=>?_) (fun g1=>aqm q hq hk hS b l hl cY lb ls h6 lR kd oM pr a3 h));have af:i < ls.length:=bN g1;refine aM rG rfl (gE af) ?_;refine Us (m:=q) (by omega) hk hl cY fun Iw Iz cb to is QW=>ai (fun g3=>az (aE rfl (h.1 _ _ 804 (by decide)))) (fun g3=>?_)
  rw [wI i];exact aea q hq hk hS b l hl cY lb ls h6 lR kd oM pr a3 h c (i+1) (by omega) (by omega)
theorem aeG (hm:560≤m) (hk:PH k) (hS:SH k t bg) {b:Bool} {l:List Nat} (hl:∀y∈l,ji k.role k.ps y) (cY:l.length≤24) {K:ti.T→OR} (h:HV k bg K Q):Wp (N7 (T m) b (l.map aU) (WB k t bg) K) Q:=by
 obtain ⟨m,rfl⟩:=cG hm;have self:∃x,bg=bg++x:=⟨[],by simp⟩
 refine bJ ahf (ai (fun g1=>az (aE rfl (h.2 ⟨0,[],true,[]⟩ t bg hS self (.inl ⟨rfl,rfl⟩)))) (fun g1=>?_));have aA:l≠[]:=by intro h0;subst h0;cases g1
 refine aqI (m:=m) (by omega) hk hl cY fun kd pr err ajx=>ai (fun g2=>?_) (fun g2=>?_)
 ·have he:err≠0:=by simpa using g2
  exact az (aE rfl (h.1 _ _ _ he))
 ·have he:err=0:=by simpa using g2
  have oM:=ajx he aA;refine aqK (m:=m) (by omega) hk hl cY fun lb ls al lR Jr=>?_
  obtain ⟨r,hr⟩:=bl 1 m;have e2:∀x,CZ (T m) m x m=CZ (T m) m x (r+1):=by intro x;rw [←hr]
  have rest:∀(x2:au bu) (a3:au jB),Wp (CZ (T m) m x2 m b (l.map aU) (WB k t bg) a3 kd pr lb (ls.map aL)) (J ti K Q):=by
   intro x2 a3;rw [e2];refine aC ami (ai (fun g3=>az (aE rfl (h.1 _ _ 805 (by decide)))) (fun g3=>?_));have h6:ls.length≤6:=by
    have:¬ ae (ls.map aL).length > 6:=lk g3;rw [bI,cf] at this;omega
   exact aea m (by omega) hk hS b l hl cY lb ls h6 (lR aA) kd oM pr a3 h m 0 (by omega) (by omega)
  exact ai (fun g3=>ai (fun g4=>az (aE rfl (h.1 _ _ 803 (by decide)))) (fun g4=>rest _ _)) (fun g3=>rest _ _)
end
end
section
open Go Go.ax QQ
def SA (L:LR):Prop:=1≤L.ts.length∧L.ts.length≤100∧∀t∈L.ts,GU L.ts.length t
theorem Tt (n:Nat) (hn:60≤n) {x:BB} (hx:x∈lD):T n 64 [.one (sC x)] []=some (.one (bC true),[]):=by
 simp only [lD,gU,nK,nL] at hx;rcases hx with rfl | rfl | rfl | rfl | rfl | rfl | rfl | rfl | rfl | rfl | rfl | rfl | rfl | rfl;all_goals (obtain ⟨m,rfl⟩:=bl 60 n;kernel_rfl)
theorem aoZ (n:Nat) (hn:60≤n) {k:Int} {x:BB} (hx:(k,x)∈iT):T n 54 [.agg [iC k,sC x]] []=some (.one (bC true),[]):=by
 simp only [iT,gU,nK,nL,fK] at hx;rcases hx with ⟨rfl,rfl⟩ | ⟨rfl,rfl⟩ | ⟨rfl,rfl⟩ | ⟨rfl,rfl⟩ | ⟨rfl,rfl⟩ | ⟨rfl,rfl⟩ | ⟨rfl,rfl⟩ | ⟨rfl,rfl⟩ | ⟨rfl,rfl⟩ | ⟨rfl,rfl⟩ | ⟨rfl,rfl⟩ | ⟨rfl,rfl⟩ | ⟨rfl,rfl⟩;all_goals (obtain ⟨m,rfl⟩:=bl 60 n;kernel_rfl)
theorem apc (n:Nat) (hn:20≤n) (b:Bool) {many:Nat} (h2:2≤many) (h4:many≤4):T n 70 [.one (lC (.im b) 1 (db many))] []=some (.one (bC true),[]):=by
 obtain ⟨m,rfl⟩:=bl 20 n;have:many=2∨many=3∨many=4:=by omega
 rcases this with rfl | rfl | rfl;all_goals (show _=_;kernel_rfl)
theorem Ts (n:Nat) (hn:20≤n) (b:Bool) {many k:Nat} (h4:many≤4) (hk:k < many):T n 71 [.one (lC (.im b) 1 (db many)),.one (sC (bG k))] []=some (.one (bC true),[]):=by
 obtain ⟨m,rfl⟩:=bl 20 n;have h1:many=1∨many=2∨many=3∨many=4:=by omega
 have h2:k=0∨k=1∨k=2∨k=3:=by omega
 rcases h1 with rfl | rfl | rfl | rfl<;>rcases h2 with rfl | rfl | rfl | rfl<;>first | omega | (show _=_;kernel_rfl)
theorem G' {k:Nat} (h:k < 5):bG k∈lD:=by
 match k,h with
 | 0,_=>decide
 | 1,_=>decide
 | 2,_=>decide
 | 3,_=>decide
 | 4,_=>decide
theorem aoj {many:Nat} {ps:List PT} (h:kW many ps):yf ps:=by
 refine ⟨by have:=h.2.2.2.1;omega,fun p hp=>?_⟩;rcases h.2.2.2.2 p hp with ⟨_,_,h3⟩ | ⟨k,m,_,_,_,_,_,h3⟩
 ·rw [h3];exact ⟨by simp,fun a ha=>by cases ha⟩
 ·exact ⟨by have:=h3.2.1;omega,fun a ha=>(h3.2.2.2 a ha).2.2⟩
theorem aoi {many:Nat} {ps:List PT} (h:kW many ps) {role:BB} (hr:role≠[]) (x:Nat) (hx:ji role ps x):∃p,ps[x]? = some p∧p.ms≠[]:=by
 obtain ⟨p,hp,kQ⟩:=hx;refine ⟨p,hp,?_⟩;rcases h.2.2.2.2 p (fp hp) with ⟨h1,h2,_⟩ | ⟨k,m,_,_,_,_,_,h3⟩
 ·rw [h1,h2] at kQ;have:([]==role)=false:=by cases role with | nil=>exact absurd rfl hr | cons=>rfl
  rw [this] at kQ;cases kQ
 ·have:=h3.1;intro h0;rw [h0] at this;simp at this
section
variable {m:Nat} {Q:V→List (List C)→Prop}
theorem VW (q:Nat) {l:List AM} (dk:l.length≤10) (b:Bool) (P:Int) (c1:Nat) {i:Nat} (hi:i < l.length) {K:bj.T→OR} (h:∀b,Wp (K (b,())) Q)
  (hZ:Wp (Gb (T q) q c1 b (l.map cM) P ((i+1:Nat):Int)) (J bj K Q)):∀(c j:Nat),i - j < c→j≤i→
  Wp (Kq (T q) q c1 c b (l.map cM) P (i:Int) (j:Int)) (J bj K Q)
 | 0,j,hc,_=>by omega
 | c+1,j,hc,hj=>by
  refine aC alE (ai (fun g1=>?_) (fun g1=>?_))
  ·have af:j < i:=by have:(j:Int) < (i:Int):=tN g1;omega
   refine aM Ds rfl (gE (show j < l.length by omega)) ?_;refine aM Ds rfl (gE hi) (ai (fun g2=>az (aE rfl (h false))) (fun g2=>?_));rw [wI j];exact VW q dk b P c1 hi h hZ c (j+1) (by omega) (by omega)
  ·rw [wI i];exact hZ
theorem VU (q:Nat) (hq:60≤q) {P0:Nat} {l:List AM} (hl:nr P0 l) (b:Bool) (P:Int) {K:bj.T→OR} (h:∀b,Wp (K (b,())) Q):∀(c i:Nat),l.length - i < c→i≤l.length→
  Wp (Gb (T q) q c b (l.map cM) P (i:Int)) (J bj K Q)
 | 0,i,hc,_=>by omega
 | c+1,i,hc,hi=>by
  have h3:=hl.2.1;obtain ⟨r,hr⟩:=bl 1 q;have e2:Kr (T q) q c q=Kr (T q) q c (r+1):=by rw [←hr]
  refine aC alD (ai (fun g1=>?_) (fun g1=>ai (fun g2=>az (aE rfl (h _))) (fun g2=>az (aE rfl (h false)))));have af:i < l.length:=bN g1;have hg:l[i]? = some l[i]:=gE af;obtain ⟨o1,o2,o3⟩:=hl.2.2.2 l[i] (bM af);refine aM Ds rfl hg ?_;refine kb (x:=(true,())) (Tt q (by omega) (aaS o1)) rfl (eh rfl ?_);refine aM G3 rfl hg ?_;refine kb (x:=(true,())) (aoZ q (by omega) o2) rfl (eh rfl ?_);refine aM yo rfl hg (ai (fun g2=>az (aE rfl (h false))) (fun g2=>?_));refine aM yo rfl hg (ai (fun g2=>az (aE rfl (h false))) (fun g2=>?_));rw [e2];refine aC alF ?_;exact VW q (by omega) b P c af h (VU q hq hl b P h c (i+1) (by omega) (by omega)) q 0 (by omega) (by omega)
theorem aqC (hm:70≤m) {P0:Nat} {l:List AM} (hl:nr P0 l) {b:Bool} {P:Int} {K:bj.T→OR} (h:∀b,Wp (K (b,())) Q):Wp (c72 (T m) b (l.map cM) P K) Q:=by
 obtain ⟨m,rfl⟩:=cG hm;have h3:=hl.2.1;exact bJ ag4 (VU m (by omega) hl b P h m 0 (by omega) (by omega))
theorem SV (q:Nat) (hq:80≤q) {many:Nat} {ps:List PT} (hP:kW many ps) (nm:BB) (rb pb:Bool) {K:bj.T→OR} (h:∀b,Wp (K (b,())) Q):∀(c i:Nat),ps.length - i < c→i≤ps.length→
  Wp (Ks (T q) q c (nm,(rb,db many),(pb,ps.map cP),()) (i:Int)) (J bj K Q)
 | 0,i,hc,_=>by omega
 | c+1,i,hc,hi=>by
  have h8:=hP.2.2.2.1;have h4:=hP.2.1;obtain ⟨r,hr⟩:=bl 1 q;have e1:Ae (T q) q c q=Ae (T q) q c (r+1):=by rw [←hr]
  have e2:Af (T q) q c q=Af (T q) q c (r+1):=by rw [←hr]
  refine aC alG (ai (fun g1=>?_) (fun g1=>az (aE rfl (h true))));have af:i < ps.length:=bN g1;have hg:ps[i]? = some ps[i]:=gE af;have eK:∀a2,Wp (Af (T q) q c q (nm,(rb,db many),(pb,ps.map cP),()) (i:Int) a2) (J bj K Q):=by
   intro a2;rw [e2];refine aC aaC ?_;rw [wI i];exact SV q hq hP nm rb pb h c (i+1) (by omega) (by omega)
  have arC:∀j a2,Wp (Af (T q) q c (j+1) (nm,(rb,db many),(pb,ps.map cP),()) (i:Int) a2) (J bj K Q):=by
   intro j a2;refine aC aaC ?_;rw [wI i];exact SV q hq hP nm rb pb h c (i+1) (by omega) (by omega)
  have mid:Wp (Ae (T q) q c q (nm,(rb,db many),(pb,ps.map cP),()) (i:Int) (ps[i].fr,ps[i].to,(ps[i].t,ps[i].ms.map cM),())) (J bj K Q):=by
   rw [e1];refine aC alH (ai (fun g2=>az (aE rfl (h false))) (fun g2=>?_));rcases hP.2.2.2.2 _ (bM af) with ⟨o1,o2,o3⟩ | ⟨a,b',oa,ob,oab,of,ot,om⟩
   ·have g3:(ps[i].fr==ps[i].to)=false:=g2;rw [o1,o2] at g3;cases g3
   ·refine kb (x:=(true,())) (by show T q 71 [_,.one (sC ps[i].fr)] []=_;rw [of];exact Ts q (by omega) rb h4 oa) rfl (eh rfl ?_);refine kb (x:=(true,())) (by show T q 71 [_,.one (sC ps[i].to)] []=_;rw [ot];exact Ts q (by omega) rb h4 ob) rfl (eh rfl ?_);refine aqC (m:=q) (by omega) om fun b=>ai (fun g3=>az (aE rfl (h false))) (fun g3=>eK _)
  refine aM Dr rfl hg ?_;exact ai (fun g2=>ai (fun g3=>ai (fun g4=>eK _) (fun g4=>mid)) (fun g3=>mid)) (fun g2=>mid)
theorem acg (q:Nat) (hq:80≤q) {many:Nat} {ps:List PT} (hP:kW many ps) (nm:BB) (rb pb:Bool) {K:bj.T→OR} (h:∀b,Wp (K (b,())) Q):∀(c i:Nat),many - i < c→i≤many→
  Wp (Kt (T q) q c (nm,(rb,db many),(pb,ps.map cP),()) (i:Int)) (J bj K Q)
 | 0,i,hc,_=>by omega
 | c+1,i,hc,hi=>by
  have h4:=hP.2.1;have h8:=hP.2.2.2.1;refine aC alI (ai (fun g1=>?_) (fun g1=>SV q hq hP nm rb pb h q 0 (by omega) (by omega)));have af:i < many:=by
   have g2:(i:Int) < ae (db many).length:=tN g1;rw [bI,pQ] at g2;omega
  refine aC (gZ (v:=(bG i,())) rfl (nZ af) (by simp) rfl rfl) ?_;refine kb (x:=(true,())) (Tt q (by omega) (G' (by omega))) rfl (eh rfl ?_);rw [wI i];exact acg q hq hP nm rb pb h c (i+1) (by omega) (by omega)
theorem aey (hm:90≤m) {many:Nat} {ps:List PT} (hP:kW many ps) {nm:BB} (hn:nm∈lD) {rb pb:Bool} {K:bj.T→OR} (h:∀b,Wp (K (b,())) Q):Wp (Oc (T m) nm rb (db many) pb (ps.map cP) K) Q:=by
 obtain ⟨m,rfl⟩:=cG hm;have h4:=hP.2.1;refine bJ ag5 ?_;refine kb (x:=(true,())) (Tt m (by omega) hn) rfl (eh rfl (ai (fun g=>az (aE rfl (h false))) (fun g=>ai (fun g=>az (aE rfl (h false))) (fun g=>?_))));refine kb (x:=(true,())) (apc m (by omega) rb hP.1 h4) rfl (eh rfl (ai (fun g=>az (aE rfl (h false))) (fun g=>ai (fun g=>az (aE rfl (h false))) (fun g=>?_))));obtain ⟨r,hr⟩:=bl 1 m;have e4:Ku (T m) m m=Ku (T m) m (r+1):=by rw [←hr]
 rw [e4];exact aC alJ (acg m (by omega) hP nm rb pb h m 0 (by omega) (by omega))
def NB (nf:BB) (K:yx.T→OR) (Q:V→List (List C)→Prop):Prop:=(∀x err,err≠0→Wp (K ((x,err,()),())) Q)∧∀L:LR,SA L→L.nm=nf→Wp (K (((L.nm,(L.tb,L.ts.map cN),()),0,()),())) Q
theorem acU (q:Nat) (hq:570≤q) {k:PK} (hk:PH k) (a0:au nD) (nm:BB) {K:yx.T→OR} (h:NB nm K Q):∀(c i:Nat) (t:Tag) (bg:List (Bool×List Nat)) (ts:List TN),45 - i < c→i≤bg.length→SH k t bg→ts.length=i→ts≠[]→(∀x∈ts,GU bg.length x)→
  Wp (Kv (T q) q c a0 (WB k t bg) (nm,ts.map cN,()) (i:Int)) (J yx K Q)
 | 0,i,t,bg,ts,hc,hi,hS,_,_,_=>by have:=hS.ln;omega
 | c+1,i,t,bg,ts,hc,hi,hS,QX,aA,aQ=>by
  have I8:=hS.ln;have Cm:1≤ts.length:=by cases ts with | nil=>exact absurd rfl aA | cons=>simp
  have ue:∀a:Bool×List Nat,0+1≤(kJ a).length∧eb [.im 1] (List.take 1 (List.drop 0 (kJ a)))=some ((a.1,a.2.map aU),()):=fun a=>⟨by simp [kJ],rfl⟩
  refine aC alL ?_;have ht:t = .own:=by
   rcases hS.no with ht | ⟨_,hn⟩
   ·exact ht
   ·rw [hn] at hi;simp at hi;omega
  subst ht;refine jc (ai (fun g1=>?_) (fun g1=>?_))
  ·have af:i < bg.length:=bN g1;have hs:=hS.ok _ (bM af);refine oi (enc:=kJ) (f:=fun a=>((a.1,a.2.map aU),())) ue rfl (gE af) ?_;refine aeG (m:=q) (by omega) hk hS hs.1 hs.2 ⟨fun x y err he=>?_,fun tn t' jA vq hx QH=>?_⟩
   ·exact gl (by simpa using he) (az (aE rfl (h.1 _ _ he)))
   ·refine eh rfl (aD (ia (by simp;omega) (by omega)) ?_);obtain ⟨y,hy⟩:=hx;rw [wI i];have mo:bg.length≤jA.length:=by rw [hy];simp
    have:=acU q hq hk a0 nm h c (i+1) t' jA (ts++[tn]) (by omega) (by omega) vq (by simp;omega) (by simp)
     (by
       intro x hx
       rw [dA] at hx
       rcases hx with hx | hx
       · rcases aQ x hx with h1 | ⟨h1, h2, h3, h4⟩
         · exact .inl h1
         · exact .inr ⟨h1, h2, h3, fun a ha => by have := h4 a ha; omega⟩
       · simp at hx; subst hx; exact QH)
    rw [ev] at this;exact this
  ·have eP:i=bg.length:=by
    have g2:¬ (i:Int) < ae (bg.map kJ).length:=lk g1;rw [bI,cf] at g2;omega
   refine aD ?_ (aD (by simp) (az ?_))
   ·cases ts with
    | nil=>exact absurd rfl aA
    | cons=>simp
   ·refine aE (x:=(((nm,(false,ts.map cN),()),0,()),())) ?_ (h.2 ⟨nm,false,ts⟩ ⟨Cm,by show ts.length≤100;omega,by rw [←eP,←QX] at aQ;exact aQ⟩ rfl);show gW yx (.aq [.agg [sC nm,lC (.im false) 3 (aV (whole (ts.map cN)))],_],_)=_;rw [dj,L9];rfl
theorem apa (q:Nat) (hq:570≤q) {k:PK} (hk:PH k) (a0:au nD) (nm:BB) {K:yx.T→OR} (h:NB nm K Q) {t:Tag} {bg:List (Bool×List Nat)} (hS:SH k t bg) (hp:0 < bg.length) :
  Wp (Gc (T q) q q a0 (WB k t bg) (nm,(true,[]),()) 0) (J yx K Q):=by
 obtain ⟨r,hr⟩:=bl 1 q;have e0:Gc (T q) q q=Gc (T q) q (r+1):=by rw [←hr]
 have ue:∀a:Bool×List Nat,0+1≤(kJ a).length∧eb [.im 1] (List.take 1 (List.drop 0 (kJ a)))=some ((a.1,a.2.map aU),()):=fun a=>⟨by simp [kJ],rfl⟩
 rw [e0];refine aC alK ?_;have ht:t = .own:=by
  rcases hS.no with ht | ⟨_,hn⟩
  ·exact ht
  ·rw [hn] at hp;simp at hp
 subst ht;refine jc (gl (aX (by show (0:Int) < ae (bg.map kJ).length;rw [bI];simp;omega)) ?_);have hs:=hS.ok _ (bM hp);refine oi (enc:=kJ) (f:=fun a=>((a.1,a.2.map aU),())) ue (i:=0) rfl (gE hp) ?_;refine aeG (m:=q) (by omega) hk hS hs.1 hs.2 ⟨fun x y err he=>?_,fun tn t' jA vq hx QH=>?_⟩
 ·exact gl (by simpa using he) (az (aE rfl (h.1 _ _ he)))
 ·obtain ⟨y,hy⟩:=hx;have mo:bg.length≤jA.length:=by rw [hy];simp
  refine eh rfl (aD rfl ?_);exact acU q hq hk a0 nm h r 1 t' jA [tn] (by omega) (by omega) vq rfl (by simp) (by intro x hx;simp at hx;subst hx;exact QH)
theorem aeB (hm:600≤m) {many:Nat} {ps:List PT} (hP:kW many ps) {nm:BB} (hn:nm∈lD) (mz:nm.length≤20) {rb pb:Bool} {i:Nat} (hi:i < many) {K:yx.T→OR} (h:NB (nm++[46]++bG i) K Q):Wp (Oj (T m) nm rb (db many) pb (ps.map cP) (bG i) K) Q:=by
 obtain ⟨m,rfl⟩:=cG hm;have h4:=hP.2.1;refine bJ ag6 ?_;refine aey (m:=m) (by omega) hP hn fun b=>ai (fun g=>az (aE rfl (h.1 _ 800 (by decide)))) (fun g=>?_)
 refine kb (x:=(true,())) (Ts m (by omega) rb h4 hi) rfl (eh rfl ?_);obtain ⟨r,hr⟩:=bl 1 m;have e1:Kw (T m) m m=Kw (T m) m (r+1):=by rw [←hr]
 rw [e1];refine aC alM ?_;have hk:PH ⟨nm,rb,db many,pb,ps,bG i⟩:=⟨aoj hP,aoi hP (by simp [bG])⟩
 have hS:SH ⟨nm,rb,db many,pb,ps,bG i⟩ (.im true) []:=⟨.inr ⟨rfl,rfl⟩,fun h0=>(by cases h0),by simp,fun x hx=>(by cases hx)⟩
 refine Uv (m:=m) (k:=⟨nm,rb,db many,pb,ps,bG i⟩) (fr:=[0]) (by omega) hk hS (by simp) ⟨fun err he=>?_,fun t' jA j vq hx hj=>?_⟩
 ·exact gl (by simpa using he) (az (aE rfl (h.1 _ _ he)))
 ·refine eh rfl (cg (by show nm.length+1≤_;omega) (cg (by show (nm++[46]).length+(bG i).length≤_;simp [bG];omega) ?_));exact apa m (by omega) hk _ _ h vq (by omega)
def GQ (nm:BB) (L:LR):Prop:=SA L∧∃i,i < 4∧L.nm=nm++[46]++bG i
def Vp (nm:BB) (n:Nat) (K:Hd.T→OR) (Q:V→List (List C)→Prop):Prop:=∀b (Ls:List LR) z err,Ls.length≤n→(∀L∈Ls,GQ nm L)→Wp (K (((b,Ls.map mY),z,err,()),())) Q
theorem ab5:∀l:List LR,aV (l.map mY)=l.map mY
 | []=>rfl
 | a::t=>by simp only [fY,aV,ab5 t];rfl
theorem VG (q:Nat) (hq:610≤q) {many:Nat} {ps:List PT} (hP:kW many ps) {nm:BB} (hn:nm∈lD) (mz:nm.length≤20) {rb pb:Bool} {K:Hd.T→OR} (h:Vp nm many K Q):∀(c i:Nat) (Ls:List LR),many - i < c→i≤many→Ls.length=i→(∀L∈Ls,GQ nm L)→
  Wp (Kp (T q) q c (nm,(rb,db many),(pb,ps.map cP),()) (Ls.map mY) (i:Int)) (J Hd K Q)
 | 0,i,Ls,hc,_,_,_=>by omega
 | c+1,i,Ls,hc,hi,hl,aQ=>by
  have h4:=hP.2.1;refine aC alC (ai (fun g1=>?_) (fun g1=>?_))
  ·have af:i < many:=by
    have g2:(i:Int) < ae (db many).length:=tN g1;rw [bI,pQ] at g2;omega
   refine aC (gZ (v:=(bG i,())) rfl (nZ af) (by simp) rfl rfl) ?_;refine aeB (m:=q) (by omega) hP hn mz af ⟨fun x err he=>?_,fun L hL PI=>?_⟩
   ·exact gl (by simpa using he) (az (aE rfl (h true [] _ _ (by simp) (fun L hL=>by cases hL))))
   ·refine eh rfl (aD (ia (by simp;omega) (by omega)) ?_);rw [wI i];have:=VG q hq hP hn mz h c (i+1) (Ls++[L]) (by omega) (by omega) (by simp;omega) (by intro x hx;rw [dA] at hx;rcases hx with hx | hx;exact aQ x hx;simp at hx;subst hx;exact ⟨hL,i,by omega,PI⟩) (rb:=rb) (pb:=pb);rw [ev] at this;exact this
  ·refine aD (by simp) ?_;rw [dj,ab5];exact az (aE rfl (h false Ls 0 0 (by omega) aQ))
theorem Uq (hm:620≤m) {many:Nat} {ps:List PT} (hP:kW many ps) {nm:BB} (hn:nm∈lD) (mz:nm.length≤20) {rb pb:Bool} {K:Hd.T→OR} (h:Vp nm many K Q):Wp (Bo (T m) nm rb (db many) pb (ps.map cP) K) Q:=by
 obtain ⟨m,rfl⟩:=cG hm;have h2:=hP.1;have h4:=hP.2.1;refine bJ ag3 ?_;refine aey (m:=m) (by omega) hP hn fun b=>ai (fun g=>az (aE rfl (h true [] _ _ (by simp) (fun L hL=>by cases hL)))) (fun g=>?_)
 obtain ⟨r,hr⟩:=bl 1 m;have e0:Ko (T m) m m=Ko (T m) m (r+1):=by rw [←hr]
 rw [e0];refine aC alB (gl (aX (by show (0:Int) < ae (db many).length;rw [bI,pQ];omega)) ?_);refine aC (gZ (v:=(bG 0,())) (i:=0) rfl (nZ (by omega)) (by simp) rfl rfl) ?_;refine aeB (m:=m) (by omega) hP hn mz (by omega) ⟨fun x err he=>?_,fun L hL PI=>?_⟩
 ·exact gl (by simpa using he) (az (aE rfl (h true [] _ _ (by simp) (fun L hL=>by cases hL))))
 ·refine eh rfl (aD rfl ?_);exact VG m (by omega) hP hn mz h r 1 [L] (by omega) (by omega) rfl (by intro x hx;simp at hx;subst hx;exact ⟨hL,0,by omega,PI⟩)
end
end
section
open Go Go.ax QQ
structure PS where
 kd:Int
 nm:BB
 pr:BB
 lb:BB
 pc:BB
 tm:Int
 gt:Bool
 ag:List Int
 ct:Bool
 cs:List CR
 wb:Bool
 ws:List WR
 nx:Int
def cT (s:PS):List D:=[.int .i64 s.kd,.str s.nm,.str s.pr,.str s.lb,.str s.pc,.int .i64 s.tm,.sl (.im s.gt) 1 (s.ag.map bF),.sl (.im s.ct) 3 (s.cs.map eC),.sl (.im s.wb) 3 (s.ws.map cW),.int .i64 s.nx]
def mJ (s:PS):Prop:=s.ag.length≤100∧s.cs.length≤100∧(∀c∈s.cs,c.ag.length≤100)∧s.ws.length≤100
structure PC where
 nm:BB
 pb:Bool
 pm:List (BB×Int×BB)
 tb:Bool
 tm:List TM
 sb:Bool
 ss:List PS
def eJ (x:BB×Int×BB):List D:=[.str x.1,.int .i64 x.2.1,.str x.2.2]
theorem G4:∀a:BB×Int×BB,0+3≤(eJ a).length∧eb DE (List.take 3 (List.drop 0 (eJ a)))=some ((fun x=>(x.1,x.2.1,x.2.2,())) a):=(fun a=>⟨by simp [eJ],rfl⟩)
def dS (p:PC):List D:=[.str p.nm,.sl (.im p.pb) 3 (p.pm.map eJ),.sl (.im p.tb) 6 (p.tm.map bz),.sl (.im p.sb) 10 (p.ss.map cT)]
theorem acE:∀a:PC,1+1≤(dS a).length∧eb [DS.im 3] (List.take 1 (List.drop 1 (dS a)))=some ((fun p=>((p.pb,p.pm.map eJ),())) a):=(fun a=>⟨by simp [dS],rfl⟩)
structure gQ (p:PC):Prop where
 n1:p.nm.length≤40
 p1:p.pm.length≤2
 p2:∀x∈p.pm,(x.2.1,x.2.2)∈iT∧(x.1=[99]∨x.1=[110])
 t1:p.tm.length≤40000000
 t2:jj p.tm
 s0:1≤p.ss.length
 s1:p.ss.length≤40000000
 s2:∀s∈p.ss,mJ s
theorem ace:∀l:List WR,aV (l.map cW)=l.map cW
 | []=>rfl
 | a::t=>by simp only [fY,aV,ace t];rfl
theorem SU:∀l:List TM,aV (l.map bz)=l.map bz
 | []=>rfl
 | a::t=>by simp only [fY,aV,SU t];rfl
theorem SP:∀l:List (BB×Int×BB),aV (l.map eJ)=l.map eJ
 | []=>rfl
 | a::t=>by simp only [fY,aV,SP t];rfl
theorem SQ:∀l:List SR,(∀s∈l,nV s)→∃pl:List PS,aV (l.map cS)=pl.map cT∧pl.length=l.length∧∀p∈pl,mJ p
 | [],_=>⟨[],rfl,rfl,fun p hp=>(by cases hp)⟩
 | s::t,h=>by
  obtain ⟨pl,h1,h2,h3⟩:=SQ t (fun x hx=>h x (kF _ hx));obtain ⟨⟨ag,e1,l1⟩,⟨cs,e2,l2,l2'⟩,⟨ws,e3,l3⟩,hw⟩:=h s kf;have:∃wb,Dl (cS s)=cT ⟨s.kd,s.nm,s.pr,s.lb,s.pc,s.tm,s.gt,ag,s.ct,cs,wb,ws,s.nx⟩:=by
   rcases hw with hw | ⟨hw,_⟩
   ·refine ⟨false,?_⟩;show [_,_,_,_,_,_,kX (.sl (.im s.gt) 1 s.ag),kX (.sl (.im s.ct) 3 s.cs),kX (.sl s.wt 3 s.ws),_]=_;rw [hw,e1,e2,e3];show [_,_,_,_,_,_,_,_,D.sl (.im false) 3 (aV (ws.map cW)),_]=_;rw [ace];rfl
   ·refine ⟨true,?_⟩;show [_,_,_,_,_,_,kX (.sl (.im s.gt) 1 s.ag),kX (.sl (.im s.ct) 3 s.cs),kX (.sl s.wt 3 s.ws),_]=_;rw [hw,e1,e2,e3];rfl
  obtain ⟨wb,hp⟩:=this;refine ⟨⟨s.kd,s.nm,s.pr,s.lb,s.pc,s.tm,s.gt,ag,s.ct,cs,wb,ws,s.nx⟩::pl,?_,by simp [h2],?_⟩
  ·simp only [fY,aV,h1,hp]
  ·intro p mA;rcases gU.1 mA with rfl | mA
   ·exact ⟨l1,l2,l2',l3⟩
   ·exact h3 p mA
section
variable {m:Nat} {Q:V→List (List C)→Prop} {d:au ak}
def Nz (K:od.T→OR) (Q:V→List (List C)→Prop):Prop:=∀(p:PC) d',gQ p→cB d'→Wp (K ((p.nm,(p.pb,p.pm.map eJ),(p.tb,p.tm.map bz),(p.sb,p.ss.map cT),()),d',())) Q
theorem zu {r:RR} (h:r≠[]):(r.length==r.length && !r.isEmpty)=true:=by
 cases r with
 | nil=>exact absurd rfl h
 | cons=>simp
theorem aew (hm:320≤m) {pb:Bool} {dz:List PR} (h0:dz≠[]) (h1:dz.length≤10) (h2:∀p∈dz,uE p) {nm:BB} (hn:nm.length≤20) {rb tb yb:Bool} {rs:List BB} {iu:RR} {Ls:List LR} {i:Nat} {L:LR} (hi:i < rs.length) (gC:∀s∈rs,s.length≤20) (hL:Ls[i]? = some L) (aQ:SA L) {carry:BB} (hc:((5:Int),carry)∈iT) (hd:cB d) {K:od.T→OR} (h:Nz K Q) :
  Wp (Od (T m) pb (dz.map cX) nm rb (rs.map fun s=>[.str s]) tb iu yb (Ls.map mY) (i:Int) carry d K) Q:=by
 obtain ⟨m,rfl⟩:=cG hm;refine bJ agR ?_;refine aM (enc:=fun s:BB=>[D.str s]) (f:=fun s=>(s,())) (fun a=>⟨by simp,rfl⟩) rfl (zt hi) ?_;refine Hv (m:=m) (by omega) hn (gC _ (bM hi)) fun s hs=>?_
 refine jR (m:=m) (n:=7) (by omega) (by omega) (by omega) hd fun j d1 hj cq=>?_
 have hw:ao (9+(j:Int))=((9+j:Nat):Int):=gF;rw [hw];have hk:KH ⟨pb,dz,s,(.own,[(([99]:BB),(5:Int),carry),([110],1,[])].map eJ),s,yb,Ls,(i:Int)⟩:=⟨h0,h1,h2,⟨i,L,rfl,hL,aQ⟩⟩
 have hR:RL ⟨pb,dz,s,(.own,[(([99]:BB),(5:Int),carry),([110],1,[])].map eJ),s,yb,Ls,(i:Int)⟩ L:=⟨⟨i,rfl,hL⟩,aQ.1,aQ.2.1,aQ.2.2⟩
 have H:WH 0 (.im true) [] (.im true) [] 0 ((9+j:Nat):Int):=⟨.inr ⟨rfl,rfl⟩,.inr ⟨rfl,rfl⟩,by simp,by simp,(fun i t ht=>by simp at ht),(fun s hs=>by cases hs),⟨0,rfl,by omega⟩,by omega,by omega,(fun h=>by cases h),(fun h=>by cases h)⟩
 refine Wb 5 (by omega) m 0 _ L (.im true) (.im true) [] [] 0 ((9+j:Nat):Int) d1 0 _ _ (by omega) (by decide) hk hR (by have:=aQ.1;omega) H cq ?_;intro lj dE ss' oV gS d' H' hx dy;obtain ⟨pl,e1,e2,e3⟩:=SQ ss' H'.kS;have hB:0+Bd 5≤40000000:=by decide
 have qv:=H'.nt;have Fz:=H'.ns;have mB:=H'.se rfl;have Cr:(ss'.map cS)≠[]:=by simpa using mB
 have nR:1≤pl.length:=by
  rw [e2];cases ss' with | nil=>exact absurd rfl mB | cons=>simp
 have fin:∀tb,Wp (K ((s,(false,[(([99]:BB),(5:Int),carry),([110],1,[])].map eJ),(tb,dE.map bz),(false,pl.map cT),()),d',())) Q:=fun tb=>
  h ⟨s,false,[([99],5,carry),([110],1,[])],tb,dE,false,pl⟩ d' ⟨hs,by simp,(by intro x hx;simp at hx;rcases hx with rfl | rfl;exact ⟨hc,.inl rfl⟩;exact ⟨by decide,.inr rfl⟩),by show dE.length≤_;omega,H'.kT,nR,by show pl.length≤_;omega,e3⟩ dy
 refine jc ?_;rcases H'.ot with ht | ⟨ht,_⟩<;>subst ht
 ·have Cs:=H'.te rfl;have FH:(dE.map bz)≠[]:=by simpa using Cs
  refine jc (jc (aD rfl (aD (zu FH) (aD (zu Cr) (aD rfl (aD (by simp) (aD (by simp) (az ?_))))))));refine aE (x:=((s,(false,[(([99]:BB),(5:Int),carry),([110],1,[])].map eJ),(false,dE.map bz),(false,pl.map cT),()),d',())) ?_ (fin false);show gW od (.agg [sC s,lC (.im false) 3 (aV (whole ([(([99]:BB),(5:Int),carry),([110],1,[])].map eJ))),lC (.im false) 6 (aV (whole (dE.map bz))),lC (.im false) 10 (aV (whole (ss'.map cS)))],_)=_;rw [dj,dj,dj,SP,SU,e1];rfl
 ·refine eZ (jc (aD rfl (aD (zu Cr) (aD rfl (aD (by simp) (az ?_))))));refine aE (x:=((s,(false,[(([99]:BB),(5:Int),carry),([110],1,[])].map eJ),(true,dE.map bz),(false,pl.map cT),()),d',())) ?_ (fin true);show gW od (.agg [sC s,lC (.im false) 3 (aV (whole ([(([99]:BB),(5:Int),carry),([110],1,[])].map eJ))),lC (.im true) 6 (dE.map bz),lC (.im false) 10 (aV (whole (ss'.map cS)))],_)=_;rw [dj,dj,SP,e1];rfl
def mK (pb:Bool) (dz:List PR):WK:=⟨pb,dz,[109,97,105,110],(.im true,[]),[],true,[],0⟩
theorem abe (q:Nat) (hq:200≤q) {pb:Bool} {dz:List PR} {n i N:Nat} (hN:N≤1000) (hi:i < n) (hn:n≤3) {tt st:Tag} {tm:List TM} {ss:List SR} {nz rm:Int} (H:WH N tt tm st ss nz rm) (hd:cB d) {p:PR} (hp:uE p) {ro:BB} (zS:ro.length≤20) {e:BB} {x2:au ak} {c1:Nat} {a3:au fx} {aP:Int} {K:od.T→OR}
  (h:∀lj dE ss' gS d',WH (N+3) lj dE .own ss' nz gS→cB d'→Wp (F8 (T q) q x2 c1 pb (dz.map cX) d' a3 (Ws (mK pb dz) lj dE ss' nz gS) (n:Int) ((i+1:Nat):Int)) (J od K Q)) :
  Wp (uw (T q) q x2 c1 q pb (dz.map cX) d a3 (W (mK pb dz) tt tm st ss nz rm) (n:Int) (i:Int) (p.nm,(p.rt,p.rs.map fun s=>[.str s]),(p.pt,p.iu),()) ro e (aP,[],[],[],[],-1,(true,[]),(true,[]),(true,[]),-1,())) (J od K Q):=by
 obtain ⟨r,hr⟩:=bl 1 q;have e1:uw (T q) q x2 c1 q=uw (T q) q x2 c1 (r+1):=by rw [←hr]
 rw [e1];have lt:=H.nt;have ls:=H.ns;have r1:=H.r1;have r2:=H.r2;have hw:=wI i;refine aC alb ?_;refine Hv (m:=q) (by omega) hp.1 zS fun s hs=>?_
 refine rZ (m:=q) (k:=mK pb dz) (by omega) (by omega) H.ot ?_;refine jR (m:=q) (n:=4) (by omega) (by omega) (by omega) hd fun j d1 hj cq=>?_
 refine w_num (m:=q) (k:=mK pb dz) (by omega) (by simp;omega) (.inl rfl) ?_;have H2:=H.terms (M:=N+2) (dE:=tm++[⟨0,e,0,[],-1,-1⟩]++[⟨1,[],(j:Int),[],-1,-1⟩]) (by omega) (by simp;omega) (qE (qE H.kT ⟨.inl rfl,rfl,rfl,ja⟩) ⟨.inr (.inl rfl),rfl,rfl,ja⟩);have okc:∀{y1 y2:Int} {z:Int} {a:Int},nV ⟨a,[],[],[],s,-1,false,[[.int .i64 y1],[.int .i64 y2]],true,[],.im true,[],z⟩:=fun {y1 y2 z a} => ⟨⟨[y1,y2],rfl,by simp⟩,⟨[],rfl,by simp,by simp⟩,⟨[],rfl,by simp⟩,.inr ⟨rfl,rfl⟩⟩
 refine ai (fun g=>?_) (fun g=>?_)
 ·refine wL (m:=q) (k:=mK pb dz) (by omega) (by omega) H.os (by omega) (by omega) ?_;rw [hw];exact h _ _ _ _ _ (H2.step okc) cq
 ·refine uS (m:=q) (k:=mK pb dz) (by omega) (by omega) H.os (by omega) (by omega) ?_;rw [hw];exact h _ _ _ _ _ (H2.step okc) cq
theorem abd (q:Nat) (hq:200≤q) {pb:Bool} {dz:List PR} (h0:dz≠[]) (h1:dz.length≤10) (h2:∀p∈dz,uE p) {n:Nat} (hn:n≤3) {x2:au ak} {a3:au fx} {K:od.T→OR} (h:Nz K Q):∀(c i:Nat) (tt:Tag) (tm:List TM) (ss:List SR) (nz rm:Int) (d:au ak),5 - i < c→i≤n→WH (20 * i) tt tm .own ss nz rm→cB d→
  Wp (F8 (T q) q x2 c pb (dz.map cX) d a3 (Ws (mK pb dz) tt tm ss nz rm) (n:Int) (i:Int)) (J od K Q)
 | 0,i,tt,tm,ss,nz,rm,d,hc,hi,_,_=>by omega
 | c+1,i,tt,tm,ss,nz,rm,d,hc,hi,H,hd=>by
  have cL:1≤dz.length:=by cases dz with | nil=>exact absurd rfl h0 | cons=>simp
  refine aC ala (ai (fun g1=>?_) (fun g1=>?_))
  ·have af:i < n:=by have:(i:Int) < (n:Int):=tN g1;omega
   refine jR (m:=q) (n:=(dz.map cX).length) (by omega) (by simp;omega) (by simp;omega) hd fun j d1 hj cq=>?_
   have vA:j < dz.length:=by simpa using hj
   have hp:=h2 _ (bM vA);refine aM AB rfl (gE vA) ?_;refine jR (m:=q) (n:=(dz[j].rs.map fun s=>[D.str s]).length) (by omega) (by have:=hp.2.1;simp;omega) (by have:=hp.2.2.1;simp;omega) cq fun j2 d2 lu eO=>?_
   have Fh:j2 < dz[j].rs.length:=by simpa using lu
   refine aM (enc:=fun s:BB=>[D.str s]) (f:=fun s=>(s,())) (fun a=>⟨by simp,rfl⟩) rfl (zt Fh) ?_;refine Ux (m:=q) (k:=mK pb dz) (tm:=tm) (st:=.own) (ss:=ss) (by omega) (N:=20 * i) (by omega) H eO hp fun s tv rU wE sZ tf d3 H1 vQ qk=>mQ (m:=q) (by omega) ?_
   have eK:∀aP,Wp (uw (T q) q x2 c q pb (dz.map cX) d3 a3 (W (mK pb dz) tv rU .own wE sZ tf) (n:Int) (i:Int) (dz[j].nm,(dz[j].rt,dz[j].rs.map fun s=>[.str s]),(dz[j].pt,dz[j].iu),()) dz[j].rs[j2] s (aP,[],[],[],[],-1,(true,[]),(true,[]),(true,[]),-1,())) (J od K Q):=fun aP=>
    abe q hq (N:=20 * i+12) (by omega) af hn H1 qk hp (hp.2.2.2 _ (bM Fh)) fun DQ DK yD Du d4 H2 zG=>
     abd q hq h0 h1 h2 hn h c (i+1) DQ DK yD sZ Du d4 (by omega) (by omega) (H2.le (by omega)) zG
   exact ai (fun g2=>mQ (m:=q) (by omega) (eK _)) (fun g2=>eK _)
  ·obtain ⟨pl,e1,e2,e3⟩:=SQ ss H.kS;have qv:=H.nt;have Fz:=H.ns;have mB:=H.se rfl;have Cr:(ss.map cS)≠[]:=by simpa using mB
   have nR:1≤pl.length:=by
    rw [e2];cases ss with | nil=>exact absurd rfl mB | cons=>simp
   have fin:∀tb,Wp (K (([109,97,105,110],(true,[]),(tb,tm.map bz),(false,pl.map cT),()),d,())) Q:=fun tb=>
    h ⟨[109,97,105,110],true,[],tb,tm,false,pl⟩ d ⟨by simp,by simp,(by intro x hx;simp at hx),by show tm.length≤_;omega,H.kT,nR,by show pl.length≤_;omega,e3⟩ hd
   refine eZ ?_;rcases H.ot with ht | ⟨ht,_⟩<;>subst ht
   ·have Cs:=H.te rfl;have FH:(tm.map bz)≠[]:=by simpa using Cs
    refine jc (aD (zu FH) (aD (zu Cr) (aD (by simp) (aD (by simp) (az ?_)))));refine aE (x:=(([109,97,105,110],(true,[]),(false,tm.map bz),(false,pl.map cT),()),d,())) ?_ (fin false);show gW od (.agg [sC _,lC (.im true) 3 [],lC (.im false) 6 (aV (whole (tm.map bz))),lC (.im false) 10 (aV (whole (ss.map cS)))],_)=_;rw [dj,dj,SU,e1];rfl
   ·refine eZ (aD (zu Cr) (aD (by simp) (az ?_)));refine aE (x:=(([109,97,105,110],(true,[]),(true,tm.map bz),(false,pl.map cT),()),d,())) ?_ (fin true);show gW od (.agg [sC _,lC (.im true) 3 [],lC (.im true) 6 (tm.map bz),lC (.im false) 10 (aV (whole (ss.map cS)))],_)=_;rw [dj,e1];rfl
theorem aeu (hm:320≤m) {pb:Bool} {dz:List PR} (h0:dz≠[]) (h1:dz.length≤10) (h2:∀p∈dz,uE p) (hd:cB d) {K:od.T→OR} (h:Nz K Q):Wp (Oe (T m) pb (dz.map cX) d K) Q:=by
 obtain ⟨m,rfl⟩:=cG hm;have cL:1≤dz.length:=by cases dz with | nil=>exact absurd rfl h0 | cons=>simp
 refine bJ agN ?_;refine jR (m:=m) (n:=3) (by omega) (by omega) (by omega) hd fun j d1 hj cq=>?_
 have hw:ao (1+(j:Int))=((1+j:Nat):Int):=gF;rw [hw];obtain ⟨r,hr⟩:=bl 1 m;have e0:∀x,Ke (T m) m x m=Ke (T m) m x (r+1):=by intro x;rw [←hr]
 rw [e0];refine aC ak' (gl (aX (by omega)) ?_);refine jR (m:=m) (n:=(dz.map cX).length) (by omega) (by simp;omega) (by simp;omega) cq fun j1 d2 xw eO=>?_
 have vA:j1 < dz.length:=by simpa using xw
 have hp:=h2 _ (bM vA);refine aM AB rfl (gE vA) ?_;refine jR (m:=m) (n:=(dz[j1].rs.map fun s=>[D.str s]).length) (by omega) (by have:=hp.2.1;simp;omega) (by have:=hp.2.2.1;simp;omega) eO fun j2 d3 lu qk=>?_
 have Fh:j2 < dz[j1].rs.length:=by simpa using lu
 refine aM (enc:=fun s:BB=>[D.str s]) (f:=fun s=>(s,())) (fun a=>⟨by simp,rfl⟩) rfl (zt Fh) ?_;have H:WH 0 (.im true) [] (.im true) [] 0 0:=⟨.inr ⟨rfl,rfl⟩,.inr ⟨rfl,rfl⟩,by simp,by simp,(fun i t ht=>by simp at ht),(fun s hs=>by cases hs),⟨0,rfl,by omega⟩,by omega,by omega,(fun h=>by cases h),(fun h=>by cases h)⟩
 refine Ux (m:=m) (k:=mK pb dz) (tt:=.im true) (tm:=[]) (st:=.im true) (ss:=[]) (nz:=0) (rm:=0) (by omega) (N:=0) (by omega) H qk hp fun s tv rU wE sZ tf d4 H1 vQ zG=>mQ (m:=m) (by omega) ?_
 have eK:∀(x2:au ak) (a3:au fx) (aP:Int),Wp (uw (T m) m x2 r m pb (dz.map cX) d4 a3 (W (mK pb dz) tv rU .own wE sZ tf) ((1+j:Nat):Int) ((0:Nat):Int) (dz[j1].nm,(dz[j1].rt,dz[j1].rs.map fun s=>[.str s]),(dz[j1].pt,dz[j1].iu),()) dz[j1].rs[j2] s (aP,[],[],[],[],-1,(true,[]),(true,[]),(true,[]),-1,())) (J od K Q):=fun x2 a3 aP=>
  abe m (by omega) (N:=12) (by omega) (by omega) (by omega) (H1.le (by omega)) zG hp (hp.2.2.2 _ (bM Fh)) fun DQ DK yD Du d5 H2 E9=>
   abd m (by omega) h0 h1 h2 (by omega) h r 1 DQ DK yD sZ Du d5 (by omega) (by omega) (H2.le (by omega)) E9
 exact ai (fun g2=>mQ (m:=m) (by omega) (eK _ _ _)) (fun g2=>eK _ _ _)
end
end
section
open Go Go.ax PT QQ
def NL (s:List UInt8):Prop:=∀c∈s,c≠10
theorem eH {a b:List UInt8}:NL (a++b)↔NL a∧NL b:=by
 simp only [NL,dA];exact ⟨fun h=>⟨fun c hc=>h c (.inl hc),fun c hc=>h c (.inr hc)⟩,fun h c hc=>hc.elim (h.1 c) (h.2 c)⟩
theorem yV:NL []:=fun c hc=>by cases hc
theorem cj {l:List UInt8} (h:(l.all fun c=>c != 10)=true:=by rfl):NL l:=fun c hc=>by simpa using lM.1 h c hc
theorem u5 {a:UInt8} {l:List UInt8}:NL (a::l)↔a≠10∧NL l:=by simp [NL]
theorem JP {c:UInt8} (h:qz c=true):c≠10∧c≠32∧c≠125∧c≠123:=by
 refine ⟨?_,?_,?_,?_⟩<;>(rintro rfl;exact absurd h (by decide))
theorem Lw {s:List UInt8} (h:gK s=true):NL s∧s.length≤12∧∃c r,s=c::r∧qz c=true:=by
 cases s with
 | nil=>cases h
 | cons c r=>
  simp only [gK,bK,fB] at h;obtain ⟨⟨⟨h1,h2⟩,_⟩,h4⟩:=h;have hc:qz c=true:=by simp [qz,h2]
  refine ⟨fun x hx=>?_,by simpa using h1,c,r,rfl,hc⟩;rcases gU.1 hx with rfl | hx
  ·exact (JP hc).1
  ·exact (JP (lM.1 h4 x hx)).1
theorem XD {l:List UInt8} (h:∀c∈l,rn c=true):NL l:=fun c hc=>(JP (show qz c=true by simp [qz,h c hc])).1
theorem ako {n:Int} (h0 : -9223372036854775808≤n) (h1:n≤9223372036854775807):NL (pJ n):=by
 have e2:(10:Nat) ^ (19+1)=100000000000000000000:=by decide
 unfold pJ;split
 ·exact u5.2 ⟨by decide,XD (zj 19 n.natAbs (by rw [e2];omega)).1⟩
 ·exact XD (zj 19 n.toNat (by rw [e2];omega)).1
theorem Za (v:Nat):pF v≠10:=by
 by_cases h:v < 16
 ·have:((List.range 16).all fun v=>pF v != 10)=true:=by decide
  simpa using VH this v h
 ·have:pF v=0:=by simp [pF,List.getD,pY (show Cc.length≤v from Nat.le_of_not_lt h)]
  rw [this];decide
theorem aoV (c:UInt8):NL (qc c)∧(qc c).length≤4:=by
 have ne:c.toNat≠10→c≠10:=fun h h'=>h (by rw [h'];rfl)
 unfold qc;split
 ·exact ⟨u5.2 ⟨by decide,u5.2 ⟨ne (by omega),yV⟩⟩,by simp⟩
 ·split
  ·exact ⟨cj,by simp⟩
  ·split
   ·exact ⟨u5.2 ⟨by decide,u5.2 ⟨by decide,u5.2 ⟨Za _,u5.2 ⟨Za _,yV⟩⟩⟩⟩,by simp⟩
   ·exact ⟨u5.2 ⟨ne (by omega),yV⟩,by simp⟩
theorem aoW (s:List UInt8):NL (ym s)∧(ym s).length≤4 * s.length+2:=by
 have:NL (s.flatMap qc)∧(s.flatMap qc).length≤4 * s.length:=by
  induction s with
  | nil=>exact ⟨yV,by simp⟩
  | cons c r ih=>
   rw [DY];have:=aoV c;exact ⟨eH.2 ⟨this.1,ih.1⟩,by simp only [dL,fX];omega⟩
 unfold ym;exact ⟨u5.2 ⟨by decide,eH.2 ⟨this.1,cj⟩⟩,by simp only [fX,dL,jE];omega⟩
theorem apB (k:Int):NL (rM k):=by
 unfold rM;repeat' split
 all_goals exact cj
theorem Xm (k:Int):NL (tW k):=by
 unfold tW;repeat' split
 all_goals exact cj
theorem MT:∀{t:TT},wi t→NL (gk t)∧(gk t).length≤110 * t.size
 | .lf k nm z tx,h=>by
  rcases h with ⟨rfl,h,rfl,rfl⟩ | ⟨rfl,rfl,rfl,h,h'⟩ | ⟨rfl,rfl,rfl,h⟩ | ⟨rfl,rfl,rfl,h⟩ | ⟨rfl,rfl,rfl,rfl⟩ | ⟨rfl,rfl,rfl,rfl⟩
  ·have:=Lw h;exact ⟨this.1,show nm.length≤110 by omega⟩
  ·have:=akp h h';exact ⟨ako h h',show (pJ z).length≤110 by omega⟩
  ·rcases h with rfl | rfl<;>exact ⟨cj,by decide⟩
  ·have:=aoW tx;exact ⟨this.1,show (ym tx).length≤110 by omega⟩
  ·exact ⟨cj,by decide⟩
  ·exact ⟨cj,by decide⟩
 | .un k a,h=>by
  have ih:=MT h.2;have:=Iy k;have:=Xm k;simp only [gk,TT.size];split<;>simp only [eH,dL,fX,jE]<;>exact ⟨by simp only [ih.1,this,ll,and_true];exact ⟨cj,cj⟩,by omega⟩
 | .bi k a b,h=>by
  have ih:=MT h.2.1;have FO:=MT h.2.2;have:=Iy k;have:=adp k;have c:=Xm k;have s:=apB k;simp only [gk,TT.size];split<;>simp only [eH,dL,fX,jE]<;>refine ⟨?_,by omega⟩
  ·exact ⟨⟨⟨⟨cj,ih.1⟩,⟨cj,s⟩,cj⟩,FO.1⟩,cj⟩
  ·exact ⟨⟨⟨⟨⟨c,cj⟩,ih.1⟩,cj⟩,FO.1⟩,cj⟩
theorem FR {l:List (List UInt8)} (h:∀y∈l,NL y):NL (hC l):=by
 cases l with
 | nil=>exact yV
 | cons x t=>
  refine eH.2 ⟨h x kf,fun c hc=>?_⟩;unfold kV at hc;obtain ⟨y,hy,hc⟩:=Nh.1 hc;exact eH.2 ⟨cj,h y (kF _ hy)⟩ c hc
theorem JQ {l:List (List UInt8)} {N:Nat} (h:∀y∈l,y.length≤N):(hC l).length≤(N+2) * l.length:=by
 have tl:∀t:List (List UInt8),(∀y∈t,y.length≤N)→(kV t).length≤(N+2) * t.length:=by
  intro t;induction t with
  | nil=>intro _;simp [kV]
  | cons y t ih=>
   intro h;have h1:=h y kf;have h2:=ih fun y hy=>h y (kF _ hy)
   simp only [kV,DY,dL,fX,jE,Nat.mul_add,uX] at h2 ⊢;omega
 cases l with
 | nil=>simp [hC]
 | cons x t=>
  have h1:=h x kf;have h2:=tl t fun y hy=>h y (kF _ hy)
  simp only [hC,dL,fX,Nat.mul_add,uX] at h2 ⊢;omega
theorem W5 {k:Int} {x:List UInt8} (h:(k,x)∈iT):NL (lQ k x):=by
 simp only [iT,gU,nK,nL,fK] at h;rcases h with ⟨rfl,rfl⟩ | ⟨rfl,rfl⟩ | ⟨rfl,rfl⟩ | ⟨rfl,rfl⟩ | ⟨rfl,rfl⟩ | ⟨rfl,rfl⟩ | ⟨rfl,rfl⟩ | ⟨rfl,rfl⟩ | ⟨rfl,rfl⟩ | ⟨rfl,rfl⟩ | ⟨rfl,rfl⟩ | ⟨rfl,rfl⟩ | ⟨rfl,rfl⟩;all_goals exact cj
theorem apO {tm:List TM} (hT:jj tm) {t:TT} {i:Int} (h:t.at_ (tm.map bz) i):t.size≤3:=by
 have leaf:∀{a:TT} {x:Int} {j:Nat} {u:TM},a.at_ (tm.map bz) x→x=(j:Int)→tm[j]? = some u→xU u→a.size=1:=by
  intro a x j u ha hx hj hl;have g:(tm.map bz)[j]? = some (bz u):=by rw [bQ,hj];rfl
  cases a with
  | lf=>rfl
  | un k a=>
   obtain ⟨j',x',e,hr,B5⟩:=ha;rw [show j'=j by omega,g] at hr;obtain ⟨y,hy⟩:=TT.yZ B5;simp [bz,row] at hr;have:=hl.2.1;omega
  | bi k a b=>
   obtain ⟨j',x',y',e,hr,B5,_⟩:=ha;rw [show j'=j by omega,g] at hr;obtain ⟨y,hy⟩:=TT.yZ B5;simp [bz,row] at hr;have:=hl.2.1;omega
 cases t with
 | lf=>simp [TT.size]
 | un k a=>
  obtain ⟨j,x,e,hr,ha⟩:=h;obtain ⟨y,hy⟩:=TT.yZ ha;obtain ⟨u,hu,he⟩:∃u,tm[j]? = some u∧bz u=row k [] 0 [] x (-1):=by
   rw [bQ] at hr;cases hj:tm[j]? with
   | none=>rw [hj] at hr;cases hr
   | some u=>rw [hj] at hr;exact ⟨u,rfl,tM hr⟩
  simp [bz,row] at he;rcases hT j u hu with hl | ⟨_,_,a',b',_,_,_,h2,_⟩
  ·have:=hl.2.1;omega
  ·omega
 | bi k a b=>
  obtain ⟨j,x,y,e,hr,ha,hb⟩:=h;obtain ⟨x',fI⟩:=TT.yZ ha;obtain ⟨u,hu,he⟩:∃u,tm[j]? = some u∧bz u=row k [] 0 [] x y:=by
   rw [bQ] at hr;cases hj:tm[j]? with
   | none=>rw [hj] at hr;cases hr
   | some u=>rw [hj] at hr;exact ⟨u,rfl,tM hr⟩
  simp [bz,row] at he;rcases hT j u hu with hl | ⟨_,_,a',b',u1,u2,h1,h2,_,_,_,h6,h7,h8,h9,_⟩
  ·have:=hl.2.1;omega
  ·have:=leaf ha (by omega) h6 h8;have:=leaf hb (by omega) h7 h9;simp [TT.size];omega
end
section
open Go Go.ax QQ
structure GP where
 nm:BB
 M:Nat
 ps:List PT
def ky (g:GP):Prop:=(g.nm=[112]∨g.nm=[113])∧kW g.M g.ps
def eo (g:GP):PR:=⟨g.nm,false,(List.range g.M).map bG,false,g.ps.map cP⟩
theorem Dw (M:Nat):db M=((List.range M).map bG).map fun s=>[D.str s]:=by simp [db]
theorem Uh {g:GP} (h:ky g):uE (eo g):=by
 have h2:=h.2.1;have h4:=h.2.2.1;refine ⟨?_,?_,?_,?_⟩
 ·rcases h.1 with e | e<;>(show g.nm.length≤20;rw [e];simp)
 ·show 1≤((List.range g.M).map bG).length;simp;omega
 ·show ((List.range g.M).map bG).length≤10;simp;omega
 ·intro s hs;simp only [eo,iD] at hs;obtain ⟨a,_,rfl⟩:=hs;simp [bG]
theorem Vu {g:GP} (h:ky g):g.nm∈lD:=by rcases h.1 with e | e<;>rw [e]<;>decide
theorem Vt {g:GP} (h:ky g):g.nm.length≤20:=by rcases h.1 with e | e<;>rw [e]<;>simp
section
variable {m:Nat} {Q:V→List (List C)→Prop} {d:au ak}
def NA (nm:BB) (K:yw.T→OR) (Q:V→List (List C)→Prop):Prop:=∀M ps d',kW M ps→cB d'→Wp (K ((nm,(false,db M),(false,ps.map cP),()),d',())) Q
theorem aqR (hm:60≤m) {nm:BB} {s:List BB} (hs:mD s) {b:Bool} (hd:cB d) {K:yw.T→OR} (h:NA nm K Q):Wp (Wz (T m) nm b (gM s) d K) Q:=by
 obtain ⟨M,ps,d',h1,h2,e⟩:=aoP (nm:=nm) m (by omega) b hs hd;exact kb (x:=((nm,(false,db M),(false,ps.map cP),()),d',())) e rfl (h M ps d' h1 h2)
theorem aqF (hm:60≤m) {nm:BB} {s:List BB} (hs:mD s) {b:Bool} (hd:cB d) {K:yw.T→OR} (h:NA nm K Q):Wp (c138 (T m) nm 2 b (gM s) d K) Q:=by
 obtain ⟨ps,d',h1,h2,e⟩:=NK (nm:=nm) m (by omega) b hs 2 (by omega) (by omega) hd;exact kb (x:=((nm,(false,db 2),(false,ps.map cP),()),d',())) e rfl (h 2 ps d' h1 h2)
theorem aeD (hm:640≤m) {nm:BB} (hn:nm∈lD) (mz:nm.length≤20) {s:List BB} (hs:mD s) {b:Bool} (hd:cB d) {K:yw.T→OR} (h:NA nm K Q):Wp (c80 (T m) nm b (gM s) d K) Q:=by
 obtain ⟨m,rfl⟩:=cG hm;refine bJ agz ?_;refine aqR (m:=m) (by omega) hs hd fun M ps d' hP dy=>?_
 refine Uq (m:=m) (by omega) hP hn mz fun b' Ls z err hl aQ=>ai (fun g=>az (aE rfl (h M ps d' hP dy))) (fun g=>?_)
 exact aqF (m:=m) (by omega) hs dy fun M2 S5 d2 zy eO=>az (aE rfl (h M2 S5 d2 zy eO))
def AO (i:Nat):List BB:=(List.range i).map fun k=>[112,46]++bG k
theorem aqp (i:Nat):AO (i+1)=AO i++[[112,46]++bG i]:=by simp [AO,Nl]
theorem acd:∀l:List BB,aV (gM l)=gM l
 | []=>rfl
 | a::t=>by
  have:=acd t;simp only [gM,fY,aV] at this ⊢;rw [this];rfl
theorem aqo {M:Nat} (h:M≤4):mD (AO M):=by
 have:M=0∨M=1∨M=2∨M=3∨M=4:=by omega
 rcases this with rfl | rfl | rfl | rfl | rfl<;>exact ⟨by decide,by decide⟩
theorem abt (q:Nat) {M:Nat} (h4:M≤4) (rb pb:Bool) (iu:RR) {K:dh.T→OR} (h:∀b s,mD s→Wp (K ((b,gM s),())) Q):∀(c i:Nat),M - i < c→i≤M→
  Wp (Kb (T q) q c ([112],(rb,db M),(pb,iu),()) (gM (AO i)) (i:Int)) (J dh K Q)
 | 0,i,hc,_=>by omega
 | c+1,i,hc,hi=>by
  have hl:(gM (AO i)).length=i:=by simp [gM,AO]
  refine aC ak1 (ai (fun g1=>?_) (fun g1=>?_))
  ·have af:i < M:=by
    have g2:(i:Int) < ae (db M).length:=tN g1;rw [bI,pQ] at g2;omega
   refine cg (by simp) (aC (gZ (v:=(bG i,())) rfl (nZ af) (by simp) rfl rfl) (cg (by simp [bG]) (aD (ia (by rw [hl];omega) (by omega)) ?_)));rw [wI i,dj];have:=abt q h4 rb pb iu h c (i+1) (by omega) (by omega);rw [aqp,gM,ev] at this;exact this
  ·obtain rfl:i=M:=by
    have g2:¬ (i:Int) < ae (db M).length:=lk g1;rw [bI,pQ] at g2;omega
   refine aD (by simp) ?_;rw [dj,acd];exact az (aE rfl (h false _ (aqo h4)))
theorem aq3 (hm:60≤m) {M:Nat} (h2:2≤M) (h4:M≤4) {rb pb:Bool} {iu:RR} {K:dh.T→OR} (h:∀b s,mD s→Wp (K ((b,gM s),())) Q):Wp (W0 (T m) [112] rb (db M) pb iu K) Q:=by
 obtain ⟨m,rfl⟩:=cG hm;refine bJ agA ?_;obtain ⟨r,hr⟩:=bl 1 m;have e0:Ka (T m) m m=Ka (T m) m (r+1):=by rw [←hr]
 rw [e0];refine aC ak0 (gl (aX (by show (0:Int) < ae (db M).length;rw [bI,pQ];omega)) ?_);refine cg (by simp) (aC (gZ (v:=(bG 0,())) (i:=0) rfl (nZ (by omega)) (by simp) rfl rfl) (cg (by simp [bG]) (aD rfl ?_)));exact abt m h4 rb pb iu h r 1 (by omega) (by omega)
def PsK (K:Tz.T→OR) (Q:V→List (List C)→Prop):Prop:=∀(gs:List GP) d',gs≠[]→gs.length≤2→(∀g∈gs,ky g)→cB d'→Wp (K ((false,(gs.map eo).map cX),d',())) Q
theorem W4 (nm:BB) (M:Nat) (ps:List PT):cX (eo ⟨nm,M,ps⟩)=[.str nm,.sl (.im false) 1 (db M),.sl (.im false) 3 (ps.map cP)]:=by rw [Dw];rfl
theorem aqS (hm:650≤m) (hd:cB d) {K:Tz.T→OR} (h:PsK K Q):Wp (c31 (T m) d K) Q:=by
 obtain ⟨m,rfl⟩:=cG hm;have h0:mD []:=⟨by simp,fun x hx=>by cases hx⟩
 refine bJ agy ?_;refine aeD (m:=m) (s:=[]) (by omega) (by decide) (by simp) h0 hd fun M ps d1 hP cq=>?_
 have g1:ky ⟨[112],M,ps⟩:=⟨.inl rfl,hP⟩
 refine jR (m:=m) (n:=2) (by omega) (by omega) (by omega) cq fun j d2 hj eO=>ai (fun g=>?_) (fun g=>az ?_)
 ·refine aq3 (m:=m) (by omega) hP.1 hP.2.1 fun b s hs=>?_
  refine aeD (m:=m) (by omega) (by decide) (by simp) hs eO fun M2 S5 d3 zy qk=>az ?_
  have:=h [⟨[112],M,ps⟩,⟨[113],M2,S5⟩] d3 (by simp) (by simp) (by intro g hg;simp at hg;rcases hg with rfl | rfl;exact g1;exact ⟨.inr rfl,zy⟩) qk;simp only [fY,A2,W4] at this;exact aE rfl this
 ·have:=h [⟨[112],M,ps⟩] d2 (by simp) (by simp) (by intro g hg;simp at hg;subst hg;exact g1) eO;simp only [fY,A2,W4] at this;exact aE rfl this
theorem aek (hm:1≤m) {l:List Int} (hl:l.length * 8≤140737488355328) {b:Bool} {K:rs4.T→OR} (h:∀d,cB d→Wp (K ((),d,())) Q):Wp (c28 (T m) b (l.map bF) K) Q:=by
 obtain ⟨m,rfl⟩:=cG hm;have hn:lZ (l.map bF)=true:=by
  cases l with
  | nil=>rfl
  | cons a t=>simp [lZ,tw,xO,bF]
 refine bJ agv (aD (by simp only [fS,hn];simp;omega) (ai (fun g=>az ?_) (fun g=>az ?_)))
 ·exact aE rfl (h _ ⟨.im true,l,0,rfl,by omega,by omega⟩)
 ·exact aE rfl (h _ ⟨.own,l,0,rfl,by omega,by omega⟩)
def HT (K:oc.T→OR) (Q:V→List (List C)→Prop):Prop:=∀(gs:List GP) (ay:List PC),gs≠[]→gs.length≤2→(∀g∈gs,ky g)→ay≠[]→ay.length≤20→(∀p∈ay,gQ p)→Wp (K (((false,(gs.map eo).map cX),(true,[]),(false,ay.map dS),()),())) Q
theorem ab':∀l:List PC,aV (l.map dS)=l.map dS
 | []=>rfl
 | a::t=>by simp only [fY,aV,ab' t];rfl
end
end
section
open Go Go.ax QQ
section
variable {m:Nat} {Q:V→List (List C)→Prop}
theorem MR {gs:List GP} (h:gs≠[]):gs.map eo≠[]:=by simpa using h
theorem MQ {gs:List GP} (h:∀g∈gs,ky g):∀p∈gs.map eo,uE p:=by
 intro p hp;simp only [iD] at hp;obtain ⟨g,hg,rfl⟩:=hp;exact Uh (h g hg)
theorem W7 {g:GP} (h:ky g) {L:LR} (hL:GQ g.nm L):((5:Int),L.nm)∈iT:=by
 obtain ⟨_,i,hi,e⟩:=hL;rw [e];rcases h.1 with e | e<;>rw [e]<;>(have:i=0∨i=1∨i=2∨i=3:=by omega)<;>rcases this with rfl | rfl | rfl | rfl<;>decide
theorem aoM (q:Nat) (hq:330≤q) {gs:List GP} (g0:gs≠[]) (g1:gs.length≤2) (g2:∀g∈gs,ky g) {K:oc.T→OR} (h:HT K Q) {c i:Nat} (hi:¬ i < gs.length) {a0:au c7} {d:au ak} (hd:cB d) {ay:List PC} (cL:ay.length≤19) (vJ:∀p∈ay,gQ p) :
  Wp (CM (T q) q (c+1) a0 d ((false,(gs.map eo).map cX),(true,[]),ay.map dS,()) (i:Int)) (J oc K Q):=by
 refine aC aaq (eh (bR (by show ¬ (i:Int) < ae ((gs.map eo).map cX).length;rw [bI];simp;omega)) ?_);refine aeu (m:=q) (by omega) (MR g0) (by simp;omega) (MQ g2) hd fun p d' hp dy=>?_
 have e:ay.map dS++[[D.str [],D.sl (.im true) 3 [],D.sl (.im true) 6 [],D.sl (.im true) 10 []]].set 0 [D.str p.nm,D.sl (.im p.pb) 3 (p.pm.map eJ),D.sl (.im p.tb) 6 (p.tm.map bz),D.sl (.im p.sb) 10 (p.ss.map cT)]=(ay++[p]).map dS:=by rw [ev];rfl
 dsimp only;rw [e];refine aD (ia (by simp;omega) (by omega)) (aD (zu (by simp)) (aD (by simp) (az ?_)));rw [dj,ab'];exact aE rfl (h gs (ay++[p]) g0 g1 g2 (by simp) (by simp;omega) (by intro x hx;rw [dA] at hx;rcases hx with hx | hx;exact vJ x hx;simp at hx;subst hx;exact hp))
theorem SX (q:Nat) (hq:630≤q) {gs:List GP} (g0:gs≠[]) (g1:gs.length≤2) (g2:∀g∈gs,ky g) {c i B:Nat} {g:GP} (hg:gs[i]? = some g) {a0:au c7} {lb:Bool} {Ls:List LR} (PG:Ls.length≤g.M) (zx:∀L∈Ls,GQ g.nm L) {K:oc.T→OR}
  (h:∀(d:au ak) (ay:List PC),cB d→ay.length≤B+4→(∀p∈ay,gQ p)→Wp (CM (T q) q c a0 d ((false,(gs.map eo).map cX),(true,[]),ay.map dS,()) ((i+1:Nat):Int)) (J oc K Q)) :
  ∀(e k:Nat) (d:au ak) (ay:List PC),Ls.length - k < e→k≤Ls.length→cB d→ay.length≤B+k→(∀p∈ay,gQ p)→B≤10→
   Wp (F7 (T q) q c e a0 d ((false,(gs.map eo).map cX),(true,[]),ay.map dS,()) (i:Int) lb (Ls.map mY) (k:Int)) (J oc K Q)
 | 0,k,d,ay,he,_,_,_,_,_=>by omega
 | e+1,k,d,ay,he,hk,hd,cL,vJ,hB=>by
  have nn:=g2 g (fp hg);have h4:=nn.2.2.1;have kP:i < gs.length:=(cA.1 hg).1;refine aC akZ (ai (fun r1=>?_) (fun r1=>?_))
  ·have af:k < Ls.length:=bN r1;refine aM AB (a:=eo g) rfl (by rw [bQ,hg];rfl) ?_;refine aM acF rfl (gE af) ?_;have EY:=Uh nn;refine aew (m:=q) (L:=Ls[k]) (by omega) (MR g0) (by simp;omega) (MQ g2) EY.1 (by show k < ((List.range g.M).map bG).length;simp;omega) EY.2.2.2 (gE af) (zx _ (bM af)).1 (W7 nn (zx _ (bM af))) hd fun p d' hp dy=>?_
   refine aD (ia (by simp;omega) (by omega)) ?_;rw [wI k];have:=SX q hq g0 g1 g2 hg (lb:=lb) PG zx h e (k+1) d' (ay++[p]) (by omega) (by omega) dy (by simp;omega) (by intro x hx;rw [dA] at hx;rcases hx with hx | hx;exact vJ x hx;simp at hx;subst hx;exact hp) hB;rw [ev] at this;exact this
  ·rw [wI i];exact h d ay hd (by omega) vJ
theorem acm (q:Nat) (hq:630≤q) {gs:List GP} (g0:gs≠[]) (g1:gs.length≤2) (g2:∀g∈gs,ky g) {a0:au c7} {K:oc.T→OR} (h:HT K Q) :
  ∀(c i:Nat) (d:au ak) (ay:List PC),gs.length - i < c→i≤gs.length→cB d→ay.length≤4 * i→(∀p∈ay,gQ p)→
   Wp (CM (T q) q c a0 d ((false,(gs.map eo).map cX),(true,[]),ay.map dS,()) (i:Int)) (J oc K Q)
 | 0,i,d,ay,hc,_,_,_,_=>by omega
 | c+1,i,d,ay,hc,hi,hd,cL,vJ=>by
  by_cases af:i < gs.length
  ·have hg:gs[i]? = some gs[i]:=gE af;have nn:=g2 _ (bM af);have h4:=nn.2.2.1;refine aC aaq (gl (aX (by show (i:Int) < ae ((gs.map eo).map cX).length;rw [bI];simp;omega)) ?_);refine aM AB (a:=eo gs[i]) rfl (by rw [bQ,hg];rfl) ?_;show Wp (Bo _ gs[i].nm false (((List.range gs[i].M).map bG).map fun s=>[D.str s]) false (gs[i].ps.map cP) _) _;rw [←Dw];refine Uq (m:=q) (by omega) nn.2 (Vu nn) (Vt nn) fun lb Ls z err hl aQ=>?_
   exact SX q hq g0 g1 g2 (B:=4 * i) hg (lb:=lb) hl aQ (fun d' SO dy aj1 QK=>acm q hq g0 g1 g2 h c (i+1) d' SO (by omega) (by omega) dy (by omega) QK) q 0 d ay (by omega) (by omega) hd (by omega) vJ (by omega)
  ·exact aoM q (by omega) g0 g1 g2 h af hd (by omega) vJ
theorem aoL (q:Nat) (hq:630≤q) {gs:List GP} (g0:gs≠[]) (g1:gs.length≤2) (g2:∀g∈gs,ky g) {c i:Nat} {g:GP} (hg:gs[i]? = some g) {a0:au c7} {lb:Bool} {Ls:List LR} (PG:Ls.length≤g.M) (zx:∀L∈Ls,GQ g.nm L) {K:oc.T→OR} {d:au ak} (hd:cB d)
  (h:∀(d:au ak) (ay:List PC),cB d→ay.length≤4→(∀p∈ay,gQ p)→Wp (CM (T q) q c a0 d ((false,(gs.map eo).map cX),(true,[]),ay.map dS,()) ((i+1:Nat):Int)) (J oc K Q))
  (h':Wp (F5 (T q) q c a0 d ((false,(gs.map eo).map cX),(true,[]),(true,[]),()) ((i+1:Nat):Int)) (J oc K Q)) :
  Wp (F6 (T q) q c q a0 d ((false,(gs.map eo).map cX),(true,[]),(true,[]),()) (i:Int) lb (Ls.map mY) 0) (J oc K Q):=by
 obtain ⟨r,hr⟩:=bl 1 q;have e0:F6 (T q) q c q=F6 (T q) q c (r+1):=by rw [←hr]
 have nn:=g2 g (fp hg);have h4:=nn.2.2.1;have kP:i < gs.length:=(cA.1 hg).1;rw [e0];refine aC akY (ai (fun r1=>?_) (fun r1=>?_))
 ·have af:0 < Ls.length:=bN r1;refine aM AB (a:=eo g) rfl (by rw [bQ,hg];rfl) ?_;refine aM acF (i:=0) rfl (gE af) ?_;have EY:=Uh nn;refine aew (m:=q) (L:=Ls[0]) (i:=0) (by omega) (MR g0) (by simp;omega) (MQ g2) EY.1 (by show 0 < ((List.range g.M).map bG).length;simp;omega) EY.2.2.2 (gE af) (zx _ (bM af)).1 (W7 nn (zx _ (bM af))) hd fun p d' hp dy=>aD rfl ?_
  exact SX q hq g0 g1 g2 (B:=0) hg (lb:=lb) PG zx (fun d ay hd cL vJ=>h d ay hd (by omega) vJ) r 1 d' [p] (by omega) (by omega) dy (by simp) (by intro x hx;simp at hx;subst hx;exact hp) (by omega)
 ·rw [wI i];exact h'
theorem ack (q:Nat) (hq:630≤q) {gs:List GP} (g0:gs≠[]) (g1:gs.length≤2) (g2:∀g∈gs,ky g) {a0:au c7} {K:oc.T→OR} (h:HT K Q) :
  ∀(c i:Nat) (d:au ak),c≤q→gs.length - i < c→i≤gs.length→cB d→
   Wp (F5 (T q) q c a0 d ((false,(gs.map eo).map cX),(true,[]),(true,[]),()) (i:Int)) (J oc K Q)
 | 0,i,d,_,hc,_,_=>by omega
 | c+1,i,d,E7,hc,hi,hd=>by
  by_cases af:i < gs.length
  ·have hg:gs[i]? = some gs[i]:=gE af;have nn:=g2 _ (bM af);have h4:=nn.2.2.1;refine aC aap (gl (aX (by show (i:Int) < ae ((gs.map eo).map cX).length;rw [bI];simp;omega)) ?_);refine aM AB (a:=eo gs[i]) rfl (by rw [bQ,hg];rfl) ?_;show Wp (Bo _ gs[i].nm false (((List.range gs[i].M).map bG).map fun s=>[D.str s]) false (gs[i].ps.map cP) _) _;rw [←Dw];refine Uq (m:=q) (by omega) nn.2 (Vu nn) (Vt nn) fun lb Ls z err hl aQ=>?_
   exact aoL q hq g0 g1 g2 hg (lb:=lb) hl aQ hd (fun d' SO dy aj1 QK=>acm q hq g0 g1 g2 h c (i+1) d' SO (by omega) (by omega) dy (by omega) QK) (ack q hq g0 g1 g2 h c (i+1) d (by omega) (by omega) (by omega) hd)
  ·refine aC aap (eh (bR (by show ¬ (i:Int) < ae ((gs.map eo).map cX).length;rw [bI];simp;omega)) ?_);refine aeu (m:=q) (by omega) (MR g0) (by simp;omega) (MQ g2) hd fun p d' hp dy=>aD rfl (az ?_)
   exact aE rfl (h gs [p] g0 g1 g2 (by simp) (by simp) (by intro x hx;simp at hx;subst hx;exact hp))
theorem aqQ (hm:660≤m) {l:List Int} (hl:l.length * 8≤140737488355328) {b:Bool} {K:oc.T→OR} (h:HT K Q):Wp (Wv (T m) b (l.map bF) K) Q:=by
 obtain ⟨m,rfl⟩:=cG hm;refine bJ agx ?_;refine aek (m:=m) (by omega) hl fun d hd=>?_
 refine aqS (m:=m) (by omega) hd fun gs d' g0 g1 g2 dy=>?_
 exact ack m (by omega) g0 g1 g2 h m 0 d' (by omega) (by omega) (by omega) dy
end
end
section
open Go Go.ax QQ
def kN (k:Int):Bool:=k==1||k==2||k==4||k==7||k==8||k==9
structure u3 (s:PS):Prop where
 k0:0≤s.kd∧s.kd≤10
 go:s.kd≠3→s.kd≠5→s.ws=[]
 ng:kN s.kd=false→s.nx = -1
 i2:s.kd=3→s.ws.length=2
 h1:s.kd=5→1≤s.ws.length∧∀w∈s.ws,(w.lb=[]∨gK w.lb=true)∧(w.nm=[]∨gK w.nm=true)
 n1:(s.kd=1∨s.kd=9∨s.kd=4∨s.kd=5∨s.kd=8)→gK s.nm=true
 n2:(s.kd=4∨s.kd=5∨s.kd=8)→gK s.pr=true
 n3:(s.kd=4∨s.kd=8)→gK s.lb=true
 n4:(s.kd=6∨s.kd=7)→gK s.pc=true
 n5:s.kd=8→∀c∈s.cs,gK c.ro=true∧gK c.pc=true
def bq (s:PS):List Int:=if kN s.kd then [s.nx] else s.ws.map WR.nx
section
variable {m:Nat} {Q:V→List (List C)→Prop}
theorem ie (hm:20≤m) {s:BB} {K:bj.T→OR} (h:Wp (K (gK s,())) Q):Wp (fF (T m) s K) Q:=
 kb (x:=(gK s,())) (Go.Proofs.YtfmpdgeiodnnfaaGreatDoor.vX m hm s) rfl h
theorem ab4 (q:Nat) (b:Bool) (l:List BB) (hl:l.length≤1000000) (s:BB) {K:iM.T→OR} (h1:Wp (K (-1,())) Q) (h2:∀i:Nat,i < l.length→Wp (K ((i:Int),())) Q):∀(c i:Nat),l.length - i < c→i≤l.length→
  Wp (JZ (T q) q c b (l.map aL) s (ae (l.map aL).length) (i:Int)) (J iM K Q)
 | 0,i,hc,_=>by omega
 | c+1,i,hc,hi=>by
  refine aC akH (ai (fun g1=>?_) (fun g1=>az (aE rfl h1)));have af:i < l.length:=bN g1;refine aM rG rfl (gE af) (ai (fun g2=>az (aE rfl (h2 i af))) (fun g2=>?_));rw [wI i];exact ab4 q b l hl s h1 h2 c (i+1) (by omega) (by omega)
theorem aex {N:Nat} (hm:N+5≤m) {b:Bool} {l:List BB} (hl:l.length≤N) (hN:N≤1000000) {s:BB} {K:iM.T→OR} (h1:Wp (K (-1,())) Q) (h2:∀i:Nat,i < l.length→Wp (K ((i:Int),())) Q):Wp (c152 (T m) b (l.map aL) s K) Q:=by
 obtain ⟨m,rfl⟩:=cG hm;exact bJ agc (ab4 m b l (by omega) s h1 h2 m 0 (by omega) (by omega))
theorem Ut {N:Nat} (hm:N+10≤m) {b:Bool} {l:List BB} (hl:l.length≤N) (hN:N≤1000000) {s:BB} {K:bj.T→OR} (h:∀b,Wp (K (b,())) Q):Wp (zb (T m) b (l.map aL) s K) Q:=by
 obtain ⟨m,rfl⟩:=cG hm;refine bJ af9 ?_;exact aex (m:=m) (N:=N) (by omega) hl hN (az (aE rfl (h _))) (fun i hi=>az (aE rfl (h _)))
theorem abK (q N:Nat) (hq:N+10≤q) (b:Bool) (l:List BB) (hl:l.length≤N) (hN:N≤1000000) {K:bj.T→OR} (h:∀b,Wp (K (b,())) Q):∀(c i:Nat),l.length - i < c→i≤l.length→
  Wp (FZ (T q) q c b (l.map aL) (ae (l.map aL).length) (i:Int)) (J bj K Q)
 | 0,i,hc,_=>by omega
 | c+1,i,hc,hi=>by
  refine aC akG (ai (fun g1=>?_) (fun g1=>az (aE rfl (h true))));have af:i < l.length:=bN g1;have eK:Wp (FZ (T q) q c b (l.map aL) (ae (l.map aL).length) (ao ((i:Int)+1))) (J bj K Q):=by
   rw [wI i];exact abK q N hq b l hl hN h c (i+1) (by omega) (by omega)
  refine aM rG rfl (gE af) ?_;refine aex (m:=q) (N:=N) (by omega) hl hN (ai (fun _=>az (aE rfl (h false))) (fun _=>eK)) (fun j hj=>ai (fun _=>az (aE rfl (h false))) (fun _=>eK))
theorem M6 {N:Nat} (hm:N+20≤m) {b:Bool} {l:List BB} (hl:l.length≤N) (hN:N≤1000000) {K:bj.T→OR} (h:∀b,Wp (K (b,())) Q):Wp (u9 (T m) b (l.map aL) K) Q:=by
 obtain ⟨m,rfl⟩:=cG hm;exact bJ agb (abK m N (by omega) b l hl hN h m 0 (by omega) (by omega))
def okW (w:WR):Prop:=(w.lb=[]∨gK w.lb=true)∧(w.nm=[]∨gK w.nm=true)
theorem aeN (q:Nat) (hq:160≤q) (wb:Bool) (ws:List WR) (hl:ws.length≤100) {K:bj.T→OR} (h:∀b,(b=true→∀w∈ws,okW w)→Wp (K (b,())) Q) {a1:Bool}:∀(c i:Nat) (o:List BB),ws.length - i < c→i≤ws.length→o.length=i→(∀(j:Nat) w,j < i→ws[j]? = some w→okW w)→
  Wp (lB (T q) q c (o.map aL) wb (ws.map cW) (ae (ws.map cW).length) (i:Int)) (J bj K Q)
 | 0,i,o,hc,_,_,_=>by omega
 | c+1,i,o,hc,hi,ho,aQ=>by
  have fl:Wp (rF) (J bj K Q):=az (aE rfl (h false (fun h0=>by cases h0)));refine aC anh (ai (fun g1=>?_) (fun g1=>?_))
  ·have af:i < ws.length:=bN g1;have hg:ws[i]? = some ws[i]:=gE af;have eK:okW ws[i]→Wp (gd ((o.map aL).length==(o.map aL).length&&true&&decide (((o.map aL).length+1) * 16≤140737488355328)) (lB (T q) q c (o.map aL++whole ([[D.str []]].set 0 [D.str ws[i].lb])) wb (ws.map cW) (ae (ws.map cW).length) (ao ((i:Int)+1)))) (J bj K Q):=by
    intro hw;refine aD (ia (by simp;omega) (by omega)) ?_;rw [wI i,dj]
    have := aeN q hq wb ws hl h (a1 := a1) c (i + 1) (o ++ [ws[i].lb]) (by omega) (by omega) (by simp; omega) (by
      intro j w hj pH
      by_cases Fj : j < i
      · exact aQ j w Fj pH
      · rw [show j = i by omega, hg] at pH; cases pH; exact hw)
    rw [ev] at this;exact this
   refine aM AA rfl hg ?_;dsimp only;have e1:∀{x:BB},(x==[])=true→x=[]:=fun h=>by simpa using h
   have e2:∀{x:BB},(!x==[])=false→x=[]:=fun h=>by simpa using h
   have e3:∀{b:Bool},(!b)=false→b=true:=fun h=>by simpa using h
   refine ai (fun g2=>ai (fun _=>fl) (fun g3=>ai (fun g4=>?_) (fun g4=>ai (fun g5=>?_) (fun g5=>eK ⟨.inl (e1 g2),.inl (e2 g5)⟩)))) (fun g2=>ai (fun g4=>?_) (fun g4=>ai (fun g5=>?_) (fun g5=>eK ⟨.inl (e2 g4),.inl (e2 g5)⟩)))
   ·refine ie (m:=q) (by omega) (ai (fun _=>fl) (fun g5=>ai (fun g6=>ie (m:=q) (by omega) (ai (fun _=>fl) (fun g7=>eK ⟨.inr (e3 g5),.inr (e3 g7)⟩))) (fun g6=>eK ⟨.inr (e3 g5),.inl (e2 g6)⟩)))
   ·exact ie (m:=q) (by omega) (ai (fun _=>fl) (fun g7=>eK ⟨.inl (e1 g2),.inr (e3 g7)⟩))
   ·refine ie (m:=q) (by omega) (ai (fun _=>fl) (fun g5=>ai (fun g6=>ie (m:=q) (by omega) (ai (fun _=>fl) (fun g7=>eK ⟨.inr (e3 g5),.inr (e3 g7)⟩))) (fun g6=>eK ⟨.inr (e3 g5),.inl (e2 g6)⟩)))
   ·exact ie (m:=q) (by omega) (ai (fun _=>fl) (fun g7=>eK ⟨.inl (e2 g4),.inr (e3 g7)⟩))
  ·have eP:i=ws.length:=by
    have g2:¬ (i:Int) < ae (ws.map cW).length:=lk g1;rw [bI,cf] at g2;omega
   refine aD (by simp) ?_;rw [dj,qG];refine M6 (m:=q) (N:=100) (by omega) (by omega) (by omega) fun b=>az (aE rfl (h b (fun _ w hw=>?_)))
   obtain ⟨j,hj,Qv⟩:=DZ hw;exact aQ j w (by omega) (by rw [gE hj,Qv])
end
end
section
open Go Go.ax QQ
section
variable {m:Nat} {Q:V→List (List C)→Prop}
theorem aeJ (hm:170≤m) {kd:Int} {x1 x2 x3 x4:BB} {x5:Int} {x6:Bool} {x7:RR} {x8:Bool} {x9:RR} {wb:Bool} {ws:List WR} (hl:ws.length≤100) {ei:Int} {K:bj.T→OR}
  (h:∀b,(b=true→(kd=3→ws.length=2)∧(kd≠3→1≤ws.length∧∀w∈ws,okW w))→Wp (K (b,())) Q):Wp (c154 (T m) kd x1 x2 x3 x4 x5 x6 x7 x8 x9 wb (ws.map cW) ei K) Q:=by
 obtain ⟨m,rfl⟩:=cG hm;have fl:Wp (rF) (J bj K Q):=az (aE rfl (h false (fun h0=>by cases h0)));refine bJ ahF (ai (fun g1=>ai (fun g2=>?_) (fun _=>fl)) (fun g1=>?_))
 ·have hk:kd=3:=by simpa using g1
  have h2:ws.length=2:=by
   have g3:(ae (ws.map cW).length==2)=true:=g2;rw [bI,cf] at g3;have:=eW.1 g3;omega
  have g0:(ws.map cW)[0]? = some (cW (ws[0]'(by omega))):=by rw [bQ,gE (by omega)];rfl
  have ml:(ws.map cW)[1]? = some (cW (ws[1]'(by omega))):=by rw [bQ,gE (by omega)];rfl
  have mg:∀b,Wp (some (.one (bC b),[])) (J bj K Q):=fun b=>az (aE rfl (h b (fun _=>⟨fun _=>h2,fun h0=>absurd hk h0⟩)))
  refine aC (yn (r:=cW (ws[0]'(by omega))) (v:=((ws[0]'(by omega)).lb,())) g0 (by simp [cW]) rfl rfl) (ai (fun _=>?_) (fun _=>fl));refine aC (yn (r:=cW (ws[0]'(by omega))) (v:=((ws[0]'(by omega)).nm,())) g0 (by simp [cW]) rfl rfl) (ai (fun _=>?_) (fun _=>fl));refine aC (yn (r:=cW (ws[1]'(by omega))) (v:=((ws[1]'(by omega)).lb,())) ml (by simp [cW]) rfl rfl) (ai (fun _=>?_) (fun _=>fl));exact aC (yn (r:=cW (ws[1]'(by omega))) (v:=((ws[1]'(by omega)).nm,())) ml (by simp [cW]) rfl rfl) (mg _)
 ·have hk:kd≠3:=by simpa using g1
  refine ai (fun _=>fl) (fun g2=>ai (fun _=>fl) (fun g3=>?_));have h1:1≤ws.length:=by
   have g4:¬ ae (ws.map cW).length < 1:=lk g2;rw [bI,cf] at g4;omega
  obtain ⟨r,hr⟩:=bl 1 m;have e1:Lm (T m) m m=Lm (T m) m (r+1):=by rw [←hr]
  have e0:Ll (T m) m m=Ll (T m) m (r+1):=by rw [←hr]
  rw [e1];refine aC ani ?_;rw [e0];refine aC ang (gl (aX (by show (0:Int) < ae (ws.map cW).length;rw [bI,cf];omega)) ?_);have eK:okW (ws[0]'(by omega))→Wp (gd (true&&true&&true) (lB (T m) m r [[.str (ws[0]'(by omega)).lb]] wb (ws.map cW) (ae (ws.map cW).length) (ao (0+1)))) (J bj K Q):=by
   intro hw;refine aD rfl ?_
   exact aeN m (by omega) wb ws hl (fun b hb => h b (fun h0 => ⟨fun h0' => absurd h0' hk, fun _ => ⟨h1, hb h0⟩⟩)) (a1 := true) r 1 [(ws[0]'(by omega)).lb] (by omega) (by omega) rfl (by
     intro j w hj pH
     rw [show j = 0 by omega, gE (by omega)] at pH; cases pH; exact hw)
  refine aM AA (i:=0) rfl (gE (show 0 < ws.length by omega)) ?_;dsimp only;have e1:∀{x:BB},(x==[])=true→x=[]:=fun h=>by simpa using h
  have e2:∀{x:BB},(!x==[])=false→x=[]:=fun h=>by simpa using h
  have e3:∀{b:Bool},(!b)=false→b=true:=fun h=>by simpa using h
  refine ai (fun g2=>ai (fun _=>fl) (fun g3=>ai (fun g4=>?_) (fun g4=>ai (fun g5=>?_) (fun g5=>eK ⟨.inl (e1 g2),.inl (e2 g5)⟩)))) (fun g2=>ai (fun g4=>?_) (fun g4=>ai (fun g5=>?_) (fun g5=>eK ⟨.inl (e2 g4),.inl (e2 g5)⟩)))
  ·refine ie (m:=m) (by omega) (ai (fun _=>fl) (fun g5=>ai (fun g6=>ie (m:=m) (by omega) (ai (fun _=>fl) (fun g7=>eK ⟨.inr (e3 g5),.inr (e3 g7)⟩))) (fun g6=>eK ⟨.inr (e3 g5),.inl (e2 g6)⟩)))
  ·exact ie (m:=m) (by omega) (ai (fun _=>fl) (fun g7=>eK ⟨.inl (e1 g2),.inr (e3 g7)⟩))
  ·refine ie (m:=m) (by omega) (ai (fun _=>fl) (fun g5=>ai (fun g6=>ie (m:=m) (by omega) (ai (fun _=>fl) (fun g7=>eK ⟨.inr (e3 g5),.inr (e3 g7)⟩))) (fun g6=>eK ⟨.inr (e3 g5),.inl (e2 g6)⟩)))
  ·exact ie (m:=m) (by omega) (ai (fun _=>fl) (fun g7=>eK ⟨.inl (e2 g4),.inr (e3 g7)⟩))
theorem aet (hm:1≤m) {k:Int} {K:bj.T→OR} (h:Wp (K (kN k,())) Q):Wp (N6 (T m) k K) Q:=by
 obtain ⟨m,rfl⟩:=cG hm;refine bJ ahv ?_;have mg:∀b,kN k=b→Wp (some (.one (bC b),[])) (J bj K Q):=fun b hb=>az (aE rfl (by rw [←hb];exact h))
 refine ai (fun g1=>mg true (by simp only [kN,g1];rfl)) (fun g1=>?_);refine ai (fun g2=>mg true (by simp only [kN,g1,g2];rfl)) (fun g2=>?_);refine ai (fun g3=>mg true (by simp only [kN,g1,g2,g3];rfl)) (fun g3=>?_);refine ai (fun g4=>mg true (by simp only [kN,g1,g2,g3,g4];rfl)) (fun g4=>?_);refine ai (fun g5=>mg true (by simp only [kN,g1,g2,g3,g4,g5];rfl)) (fun g5=>?_);exact ai (fun g6=>mg true (by simp only [kN,g1,g2,g3,g4,g5,g6];rfl)) (fun g6=>mg false (by simp only [kN,g1,g2,g3,g4,g5,g6];rfl))
theorem aqV (hm:5≤m) {kd:Int} {x1 x2 x3 x4:BB} {x5:Int} {x6:Bool} {x7:RR} {x8:Bool} {x9:RR} {wb:Bool} {ws:RR} {nx:Int} {K:Hb.T→OR}
  (h:∀y1 y2 y3 y4 y5 y6 y8 b e8 LC,(kd≠3→kd≠5→e8=ws)→(kN kd=false→LC=nx)→Wp (K ((kd,y1,y2,y3,y4,y5,y6,y8,(b,e8),LC,()),())) Q):Wp (WD (T m) kd x1 x2 x3 x4 x5 x6 x7 x8 x9 wb ws nx K) Q:=by
 obtain ⟨m,rfl⟩:=bl 2 m;refine bJ ahq ?_;have rest:∀(y1 y2 y3 y4:BB) (y5:Int) (y6 y8:Bool×RR) (b:Bool) (e8:RR) (a1:au eB),(kd≠3→kd≠5→e8=ws)→Wp (ry (T (m+1)) (m+1) (m+1) (kd,y1,y2,y3,y4,y5,y6,y8,(b,e8),nx,()) a1) (J Hb K Q):=by
  intro y1 y2 y3 y4 y5 y6 y8 b e8 a1 hw;refine aC amA (aet (m:=m+1) (by omega) (ai (fun g=>az ?_) (fun g=>az ?_)))
  ·exact aE rfl (h y1 y2 y3 y4 y5 y6 y8 b e8 (-1) hw (fun h0=>by have g':kN kd=true:=g;rw [h0] at g';cases g'))
  ·exact aE rfl (h y1 y2 y3 y4 y5 y6 y8 b e8 nx hw (fun _=>rfl))
 have e:∀{z:Int},(kd==z)=true→kd=z:=fun h=>by simpa using h
 exact ai (fun _=>rest _ _ _ _ _ _ _ _ _ _ (fun _ _=>rfl)) (fun _=>ai (fun _=>rest _ _ _ _ _ _ _ _ _ _ (fun _ _=>rfl)) (fun _=>ai (fun g=>rest _ _ _ _ _ _ _ _ _ _ (fun h0 _=>absurd (e g) h0)) (fun _=>ai (fun _=>rest _ _ _ _ _ _ _ _ _ _ (fun _ _=>rfl)) (fun _=>ai (fun g=>rest _ _ _ _ _ _ _ _ _ _ (fun _ h0=>absurd (e g) h0)) (fun _=>ai (fun _=>rest _ _ _ _ _ _ _ _ _ _ (fun _ _=>rfl)) (fun _=>ai (fun _=>rest _ _ _ _ _ _ _ _ _ _ (fun _ _=>rfl)) (fun _=>ai (fun _=>rest _ _ _ _ _ _ _ _ _ _ (fun _ _=>rfl)) (fun _=>ai (fun _=>rest _ _ _ _ _ _ _ _ _ _ (fun _ _=>rfl)) (fun _=>rest _ _ _ _ _ _ _ _ _ _ (fun _ _=>rfl))))))))))
theorem W8 (q:Nat) (hq:100≤q) (cb:Bool) (cs:List CR) (hl:cs.length≤100) {K:bj.T→OR} (h:∀b,(b=true→∀c∈cs,gK c.ro=true∧gK c.pc=true)→Wp (K (b,())) Q):∀(c i:Nat),cs.length - i < c→i≤cs.length→(∀(j:Nat) x,j < i→cs[j]? = some x→gK x.ro=true∧gK x.pc=true)→
  Wp (KZ (T q) q c cb (cs.map eC) (ae (cs.map eC).length) (i:Int)) (J bj K Q)
 | 0,i,hc,_,_=>by omega
 | c+1,i,hc,hi,aQ=>by
  have fl:Wp (rF) (J bj K Q):=az (aE rfl (h false (fun h0=>by cases h0)));have e3:∀{b:Bool},(!b)=false→b=true:=fun h=>by simpa using h
  refine aC amH (ai (fun g1=>?_) (fun g1=>?_))
  ·have af:i < cs.length:=bN g1;have hg:cs[i]? = some cs[i]:=gE af;refine aM (enc:=eC) (f:=fun c=>(c.ro,c.pc,(c.gt,c.ag.map bF),())) (fun a=>⟨by simp [eC],rfl⟩) rfl hg ?_;refine ie (m:=q) (by omega) (ai (fun _=>fl) (fun g2=>ie (m:=q) (by omega) (ai (fun _=>fl) (fun g3=>ai (fun _=>fl) (fun _=>?_)))));rw [wI i];refine W8 q hq cb cs hl h c (i+1) (by omega) (by omega) ?_;intro j w hj pH;by_cases Fj:j < i
   ·exact aQ j w Fj pH
   ·rw [show j=i by omega,hg] at pH;cases pH;exact ⟨e3 g2,e3 g3⟩
  ·have eP:i=cs.length:=by
    have g2:¬ (i:Int) < ae (cs.map eC).length:=lk g1;rw [bI,cf] at g2;omega
   refine az (aE rfl (h true (fun _ w hw=>?_)));obtain ⟨j,hj,Qv⟩:=DZ hw;exact aQ j w (by omega) (by rw [gE hj,Qv])
end
end
section
open Go Go.ax QQ
section
variable {m:Nat} {Q:V→List (List C)→Prop}
def tS (s:PS):au eB:=(s.kd,s.nm,s.pr,s.lb,s.pc,s.tm,(s.gt,s.ag.map bF),(s.ct,s.cs.map eC),(s.wb,s.ws.map cW),s.nx,())
structure Nv (s:PS):Prop where
 k0:0≤s.kd∧s.kd≤10
 go:s.kd≠3→s.kd≠5→s.ws=[]
 ng:kN s.kd=false→s.nx = -1
theorem Nv.mk' {s:PS} (h:Nv s) (i2:s.kd=3→s.ws.length=2) (h1:s.kd=5→1≤s.ws.length∧∀w∈s.ws,okW w) (n1:(s.kd=1∨s.kd=9∨s.kd=4∨s.kd=5∨s.kd=8)→gK s.nm=true)
  (n2:(s.kd=4∨s.kd=5∨s.kd=8)→gK s.pr=true) (n3:(s.kd=4∨s.kd=8)→gK s.lb=true) (n4:(s.kd=6∨s.kd=7)→gK s.pc=true) (n5:s.kd=8→∀c∈s.cs,gK c.ro=true∧gK c.pc=true):u3 s:=
 ⟨h.k0,h.go,h.ng,i2,h1,n1,n2,n3,n4,n5⟩
theorem anZ (q:Nat) (hq:180≤q) {s:PS} (ho:mJ s) (h0:Nv s) (a1:au eB) {K:bj.T→OR} (h:∀b,(b=true→u3 s)→Wp (K (b,())) Q) :
  Wp (Gm (T q) q q (tS s) a1) (J bj K Q):=by
 obtain ⟨r,hr⟩:=bl 1 q;have e2:Gm (T q) q q=Gm (T q) q (r+1):=by rw [←hr]
 have e1:K0 (T q) q q=K0 (T q) q (r+1):=by rw [←hr]
 have fl:Wp (rF) (J bj K Q):=az (aE rfl (h false (fun h0=>by cases h0)));have mg:∀b,(b=true→u3 s)→Wp (some (.one (bC b),[])) (J bj K Q):=fun b hb=>az (aE rfl (h b hb))
 have eq:∀{z:Int},(s.kd==z)=true→s.kd=z:=fun h=>by simpa using h
 have e3:∀{b:Bool},(!b)=false→b=true:=fun h=>by simpa using h
 have ne:∀{z:Int},(s.kd==z)=false→s.kd≠z:=fun h=>by simpa using h
 rw [e2];refine aC amJ ?_;refine ai (fun g=>ie (m:=q) (by omega) (mg _ fun hb=>?_)) (fun g1=>?_)
 ·have:=eq g;exact h0.mk' (fun _=>by omega) (fun _=>by omega) (fun _=>hb) (fun _=>by omega) (fun _=>by omega) (fun _=>by omega) (fun _=>by omega)
 refine ai (fun g=>ie (m:=q) (by omega) (mg _ fun hb=>?_)) (fun g2=>?_)
 ·have:=eq g;exact h0.mk' (fun _=>by omega) (fun _=>by omega) (fun _=>hb) (fun _=>by omega) (fun _=>by omega) (fun _=>by omega) (fun _=>by omega)
 refine ai (fun g=>aeJ (m:=q) (by omega) ho.2.2.2 fun b hb=>mg _ fun vt=>?_) (fun g3=>?_)
 ·have:=eq g;exact h0.mk' (hb vt).1 (fun _=>by omega) (fun _=>by omega) (fun _=>by omega) (fun _=>by omega) (fun _=>by omega) (fun _=>by omega)
 refine ai (fun g=>ie (m:=q) (by omega) (ai (fun b1=>ie (m:=q) (by omega) (ai (fun b2=>ie (m:=q) (by omega) (mg _ fun b3=>?_)) (fun _=>fl))) (fun _=>fl))) (fun g4=>?_)
 ·have:=eq g;exact h0.mk' (fun _=>by omega) (fun _=>by omega) (fun _=>b1) (fun _=>b2) (fun _=>b3) (fun _=>by omega) (fun _=>by omega)
 refine ai (fun g=>ie (m:=q) (by omega) (ai (fun b1=>ie (m:=q) (by omega) (ai (fun b2=>aeJ (m:=q) (by omega) ho.2.2.2 fun b hb=>mg _ fun vt=>?_) (fun _=>fl))) (fun _=>fl))) (fun g5=>?_)
 ·have:=eq g;exact h0.mk' (fun _=>by omega) (fun _=>(hb vt).2 (by show s.kd≠3;omega)) (fun _=>b1) (fun _=>b2) (fun _=>by omega) (fun _=>by omega) (fun _=>by omega)
 refine ai (fun g=>ie (m:=q) (by omega) (ai (fun b1=>mg _ fun _=>?_) (fun _=>fl))) (fun g6=>?_)
 ·have:=eq g;exact h0.mk' (fun _=>by omega) (fun _=>by omega) (fun _=>by omega) (fun _=>by omega) (fun _=>by omega) (fun _=>b1) (fun _=>by omega)
 refine ai (fun g=>ie (m:=q) (by omega) (ai (fun b1=>mg _ fun _=>?_) (fun _=>fl))) (fun g7=>?_)
 ·have:=eq g;exact h0.mk' (fun _=>by omega) (fun _=>by omega) (fun _=>by omega) (fun _=>by omega) (fun _=>by omega) (fun _=>b1) (fun _=>by omega)
 refine ai (fun g=>ie (m:=q) (by omega) (ai (fun _=>fl) (fun b1=>ie (m:=q) (by omega) (ai (fun _=>fl) (fun b2=>ie (m:=q) (by omega) (ai (fun _=>fl) (fun b3=>ai (fun _=>fl) (fun _=>ai (fun _=>fl) (fun _=>?_))))))))) (fun g8=>mg true fun _=>?_)
 ·have:=eq g;rw [e1];refine aC amI ?_;refine W8 q (by omega) s.ct s.cs ho.2.1 (fun b hb=>h b fun vt=>?_) q 0 (by have:=ho.2.1;omega) (by omega) (fun j x hj=>by omega);exact h0.mk' (fun _=>by omega) (fun _=>by omega) (fun _=>e3 b1) (fun _=>e3 b3) (fun _=>e3 b2) (fun _=>by omega) (fun _=>hb vt)
 ·have:=ne g1;have:=ne g2;have:=ne g3;have:=ne g4;have:=ne g5;have:=ne g6;have:=ne g7;have:=ne g8;exact h0.mk' (fun _=>by omega) (fun _=>by omega) (fun _=>by omega) (fun _=>by omega) (fun _=>by omega) (fun _=>by omega) (fun _=>by omega)
theorem aqN (hm:190≤m) {s:PS} (ho:mJ s) {K:bj.T→OR} (h:∀b,(b=true→u3 s)→Wp (K (b,())) Q) :
  Wp (W2 (T m) s.kd s.nm s.pr s.lb s.pc s.tm s.gt (s.ag.map bF) s.ct (s.cs.map eC) s.wb (s.ws.map cW) s.nx K) Q:=by
 obtain ⟨m,rfl⟩:=cG hm;have fl:Wp (rF) (J bj K Q):=az (aE rfl (h false (fun h0=>by cases h0)));refine bJ ahx (ai (fun _=>fl) (fun k1=>ai (fun _=>fl) (fun k2=>?_)));obtain ⟨r,hr⟩:=bl 1 m;have e3:K3 (T m) m m=K3 (T m) m (r+1):=by rw [←hr]
 rw [e3];refine aC amK ?_;refine aqV (m:=m) (by omega) fun y1 y2 y3 y4 y5 y6 y8 b e8 LC hw hn=>?_
 refine ai (fun _=>fl) (fun _=>ai (fun _=>fl) (fun _=>ai (fun _=>fl) (fun _=>ai (fun _=>fl) (fun _=>ai (fun _=>fl) (fun _=>ai (fun _=>fl) (fun _=>ai (fun _=>fl) (fun _=>ai (fun _=>fl) (fun f8=>ai (fun _=>fl) (fun f9=>?_)))))))));refine anZ m (by omega) ho ⟨⟨?_,?_⟩,fun h3 h5=>?_,fun hg=>?_⟩ _ h
 ·have:¬ s.kd < 0:=lk k1;omega
 ·have:¬ s.kd > 10:=lk k2;omega
 ·have f:¬ ae e8.length > 0:=lk f8;rw [hw h3 h5,bI,cf] at f;exact pZ.1 (by omega)
 ·have f:(LC != -1)=false:=f9;rw [hn hg] at f;exact Vm.1 f
theorem abx (q:Nat) (wb:Bool) (ws:List WR) (hl:ws.length≤100) {K:dh.T→OR} (h:∀b,Wp (K ((b,(ws.map WR.nx).map bF),())) Q):∀(c i:Nat),ws.length - i < c→i≤ws.length→
  Wp (K5 (T q) q c (((ws.map WR.nx).take i).map bF) wb (ws.map cW) (ae (ws.map cW).length) (i:Int)) (J dh K Q)
 | 0,i,hc,_=>by omega
 | c+1,i,hc,hi=>by
  refine aC amM (ai (fun g1=>?_) (fun g1=>?_))
  ·have af:i < ws.length:=bN g1;have hg:ws[i]? = some ws[i]:=gE af;refine aM AA rfl hg (aD (ia (by simp;omega) (by omega)) ?_);rw [wI i,dj];have:=abx q wb ws hl h c (i+1) (by omega) (by omega);rw [tK,show (ws.map WR.nx)[i]?.toList=[ws[i].nx] by rw [bQ,hg];rfl,ev] at this;exact this
  ·have eP:i=ws.length:=by
    have g2:¬ (i:Int) < ae (ws.map cW).length:=lk g1;rw [bI,cf] at g2;omega
   refine aD (by simp) ?_;rw [dj,L8,HJ (by simp;omega)];exact az (aE rfl (h false))
theorem Uw (hm:190≤m) {s:PS} (ho:mJ s) {K:dh.T→OR} (h:∀b,Wp (K ((b,(bq s).map bF),())) Q) :
  Wp (Bq (T m) s.kd s.nm s.pr s.lb s.pc s.tm s.gt (s.ag.map bF) s.ct (s.cs.map eC) s.wb (s.ws.map cW) s.nx K) Q:=by
 obtain ⟨m,rfl⟩:=cG hm;have hl:=ho.2.2.2;refine bJ ahy (aet (m:=m) (by omega) (ai (fun g=>az ?_) (fun g=>?_)))
 ·have:=h false;unfold bq at this;rw [aJ (show kN s.kd=true from g)] at this;exact aE rfl this
 ·unfold bq at h;rw [aB (by rw [show kN s.kd=false from g];simp)] at h;obtain ⟨r,hr⟩:=bl 1 m;have e0:K4 (T m) m m=K4 (T m) m (r+1):=by rw [←hr]
  rw [e0];refine aC amL (ai (fun g1=>?_) (fun g1=>?_))
  ·have af:0 < s.ws.length:=bN g1;have hg:s.ws[0]? = some s.ws[0]:=gE af;refine aM AA (i:=0) rfl hg (aD rfl ?_);have:=abx m s.wb s.ws hl h r 1 (by omega) (by omega);rw [tK,show (s.ws.map WR.nx)[0]?.toList=[s.ws[0].nx] by rw [bQ,hg];rfl] at this;exact this
  ·have:s.ws=[]:=by
    have g2:¬ (0:Int) < ae (s.ws.map cW).length:=lk g1;rw [bI,cf] at g2;exact pZ.1 (by omega)
   have:=h true;rw [‹s.ws=[]›] at this;exact az (aE rfl this)
end
end
section
open Go Go.ax QQ
theorem an7 (l:List Int):lZ (l.map bF)=true:=by
 cases l with
 | nil=>rfl
 | cons a t=>simp [lZ,tw,xO,bF]
theorem MW (l:List Int) (n:Nat) (b:Bool):fS n (l.map bF) b=true:=by
 unfold fS;rw [an7];rfl
section
variable {m:Nat} {Q:V→List (List C)→Prop}
def NF (K:dh.T→OR) (Q:V→List (List C)→Prop):Prop:=∀b (l:List Int),l.length≤20000→Wp (K ((b,l.map bF),())) Q
theorem MJ (q:Nat) (cb:Bool) (cs:List CR) (hl:cs.length≤100) (hc:∀c∈cs,c.ag.length≤100) {K:dh.T→OR} (h:NF K Q):∀(c i:Nat) (o:List Int),cs.length - i < c→i≤cs.length→o.length≤101+100 * i→
  Wp (Gr (T q) q c (o.map bF) cb (cs.map eC) (ae (cs.map eC).length) (i:Int)) (J dh K Q)
 | 0,i,o,hc,_,_=>by omega
 | c+1,i,o,da,hi,ho=>by
  refine aC ana (ai (fun g1=>?_) (fun g1=>?_))
  ·have af:i < cs.length:=bN g1;have vr:=hc _ (bM af);refine aM (enc:=eC) (f:=fun c=>(c.ro,c.pc,(c.gt,c.ag.map bF),())) (fun a=>⟨by simp [eC],rfl⟩) rfl (gE af) (aD ?_ ?_)
   ·dsimp only;rw [MW];simp;omega
   ·rw [wI i];dsimp only;rw [←ev];exact MJ q cb cs hl hc h c (i+1) _ (by omega) (by omega) (by simp;omega)
  ·refine aD (by simp) ?_;rw [dj,L8];exact az (aE rfl (h false o (by omega)))
theorem adY (q:Nat) (cb:Bool) (cs:List CR) (hl:cs.length≤100) (hc:∀c∈cs,c.ag.length≤100) {K:dh.T→OR} (h:NF K Q):∀(c i:Nat),cs.length - i < c→i≤cs.length→
  Wp (Lj (T q) q c true [] cb (cs.map eC) (ae (cs.map eC).length) (i:Int)) (J dh K Q)
 | 0,i,da,_=>by omega
 | c+1,i,da,hi=>by
  refine aC anb (ai (fun g1=>?_) (fun g1=>az (aE rfl (h true [] (by simp)))));have af:i < cs.length:=bN g1;have vr:=hc _ (bM af);refine aM (enc:=eC) (f:=fun c=>(c.ro,c.pc,(c.gt,c.ag.map bF),())) (fun a=>⟨by simp [eC],rfl⟩) rfl (gE af) (aD ?_ ?_)
  ·dsimp only;rw [MW];simp;omega
  ·rw [wI i];refine ai (fun g2=>?_) (fun g2=>?_)
   ·have e:cs[i].ag.map bF=[]:=by simpa using g2
    dsimp only;rw [e];exact adY q cb cs hl hc h c (i+1) (by omega) (by omega)
   ·exact MJ q cb cs hl hc h c (i+1) _ (by omega) (by omega) (by omega)
theorem aeF (hm:210≤m) {s:PS} (ho:mJ s) {K:dh.T→OR} (h:NF K Q) :
  Wp (Ol (T m) s.kd s.nm s.pr s.lb s.pc s.tm s.gt (s.ag.map bF) s.ct (s.cs.map eC) s.wb (s.ws.map cW) s.nx K) Q:=by
 obtain ⟨m,rfl⟩:=cG hm;obtain ⟨r,hr⟩:=bl 1 m;have e20:xS (T m) m m=xS (T m) m (r+1):=by rw [←hr]
 have e21:C4 (T m) m m=C4 (T m) m (r+1):=by rw [←hr]
 have XG:Gs (T m) m m=Gs (T m) m (r+1):=by rw [←hr]
 have e11:Lk (T m) m m=Lk (T m) m (r+1):=by rw [←hr]
 have vr:=ho.1;have aS:=ho.2.1;have one:Wp (xS (T m) m m (tS s) ([s.tm].map bF)) (J dh K Q):=by
  rw [e20];refine aC ane (aD ?_ ?_)
  ·show (fS 8 (s.ag.map bF) _&&true&&true&&_&&true&&decide ((([s.tm].map bF).length+(s.ag.map bF).length) * 8≤_))=true;rw [MW];simp;omega
  ·rw [XG];refine aC aaK ?_;have:=MJ m s.ct s.cs aS ho.2.2.1 h m 0 ([s.tm]++s.ag) (by omega) (by omega) (by simp;omega);rw [ev] at this;exact this
 have two:Wp (C4 (T m) m m (tS s) true []) (J dh K Q):=by
  rw [e21];refine aC anf (aD ?_ (ai (fun g=>?_) (fun g=>?_)))
  ·show (fS 8 (s.ag.map bF) _&&(true&&true&&decide ((s.ag.map bF).length * 8≤_)))=true;rw [MW];simp;omega
  ·have e:s.ag.map bF=[]:=by
    have:(s.ag.map bF).isEmpty=true:=g;simpa using this
   rw [e11];refine aC anc ?_;have:=adY m s.ct s.cs aS ho.2.2.1 h m 0 (by omega) (by omega);rw [←e] at this;exact this
  ·rw [XG];refine aC aaK ?_;exact MJ m s.ct s.cs aS ho.2.2.1 h m 0 s.ag (by omega) (by omega) (by omega)
 exact bJ ahD (ai (fun _=>one) (fun _=>ai (fun _=>one) (fun _=>ai (fun _=>one) (fun _=>ai (fun _=>ai (fun _=>one) (fun _=>two)) (fun _=>two)))))
def iX (r:RR):au [.tg 1]:=(kB r,())
def tB (b:Bool) (tm:List TM):au [.tg 6]:=((.im b,tm.map bz),())
theorem ad6 (hm:1≤m) {x1:au nC} {x2:au [.tg 6]} {x3:au [.tg 1]} {K:qN.T→OR} (h:Wp (K ((),((),()),x2,x3,())) Q):Wp (aG qN ((T m) 155 [(.one (iC (-1))),pE,(.one (.ptr (.e 1) 0 0)),(.one (.ptr (.e 2) 0 0))] [(bx nC x1),(bx [.tg 6] x2),(bx [.tg 1] x3)]) K) Q:=by
 obtain ⟨m,rfl⟩:=cG hm;exact bJ OZ (gl rfl (az (aE rfl h)))
theorem abV {o:List Nat} (h:o.length≤1000):((iX (o.map aU)).1.2.length==(iX (o.map aU)).1.2.length&&true&&decide (((iX (o.map aU)).1.2.length+1) * 8≤140737488355328))=true:=by
 have e:(iX (o.map aU)).1.2.length=o.length:=by cases o<;>simp [iX,kB]
 rw [e];exact ia (by omega) (by omega)
theorem VO {o:List Nat} {Z:Tag→OR} (hX:o=[]→Wp (Z (.im true)) Q) (hY:o≠[]→Wp (Z .own) Q):Wp (zZ (kB (o.map aU)).1 Z) Q:=by
 cases o with
 | nil=>exact eZ (hX rfl)
 | cons a t=>exact jc (hY (by simp))
theorem aqi (hm:2≤m) {b:Bool} {tm:List TM} {t:TM} {i:Nat} (hi:tm[i]? = some t) {o:List Nat} (ho:o.length≤10) {x1:au nC} {K:qN.T→OR}
  (hl:∀{K':qN.T→OR} {Q':V→List (List C)→Prop} {y1:au nC},(∀(o':List Nat),(∀x∈o',x∈o∨x < tm.length)→o'.length≤o.length+1→Wp (K' ((),((),()),tB b tm,iX (o'.map aU),())) Q')→Wp (aG qN ((T (m - 1)) 155 [(.one (iC t.l)),pE,(.one (.ptr (.e 1) 0 0)),(.one (.ptr (.e 2) 0 0))] [(bx nC y1),(bx [.tg 6] (tB b tm)),(bx [.tg 1] (iX (o.map aU)))]) K') Q')
  (hr:∀{K':qN.T→OR} {Q':V→List (List C)→Prop} {y1:au nC} {o1:List Nat},o1.length≤o.length+1→(∀(o':List Nat),(∀x∈o',x∈o1∨x < tm.length)→o'.length≤o1.length+1→Wp (K' ((),((),()),tB b tm,iX (o'.map aU),())) Q')→Wp (aG qN ((T (m - 1)) 155 [(.one (iC t.r)),pE,(.one (.ptr (.e 1) 0 0)),(.one (.ptr (.e 2) 0 0))] [(bx nC y1),(bx [.tg 6] (tB b tm)),(bx [.tg 1] (iX (o1.map aU)))]) K') Q')
  (h:∀(o':List Nat),(∀x∈o',x∈o∨x < tm.length)→o'.length≤o.length+3→Wp (K ((),((),()),tB b tm,iX (o'.map aU),())) Q) :
  Wp (aG qN ((T m) 155 [(.one (iC (i:Int))),pE,(.one (.ptr (.e 1) 0 0)),(.one (.ptr (.e 2) 0 0))] [(bx nC x1),(bx [.tg 6] (tB b tm)),(bx [.tg 1] (iX (o.map aU)))]) K) Q:=by
 obtain ⟨m,rfl⟩:=cG hm;have kP:i < tm.length:=(cA.1 hi).1;have ql:∀a:TM,4+1≤(bz a).length∧eb cd (List.take 1 (List.drop 4 (bz a)))=some (a.l,()):=fun a=>⟨by simp [bz],rfl⟩
 have Fa:∀a:TM,5+1≤(bz a).length∧eb cd (List.take 1 (List.drop 5 (bz a)))=some (a.r,()):=fun a=>⟨by simp [bz],rfl⟩
 refine bJ OZ (eh (bR (by omega)) (eZ ?_));refine aM (enc:=bz) (f:=fun t=>(t.l,())) ql rfl hi ?_;refine hl (fun o1 h1 jJ=>eZ ?_);refine aM (enc:=bz) (f:=fun t=>(t.r,())) Fa rfl hi ?_;refine hr jJ (fun o2 h2 dO=>?_);have mem:∀x∈o2++[i],x∈o∨x < tm.length:=by
  intro x hx;rw [dA] at hx;rcases hx with hx | hx
  ·rcases h2 x hx with h3 | h3
   ·exact h1 x h3
   ·exact .inr h3
  ·simp at hx;subst hx;exact .inr kP
 have fin:=h (o2++[i]) mem (by simp;omega);refine VO (o:=o2) (fun he=>aD rfl (az ?_)) (fun he=>aD (abV (o:=o2) (by omega)) (az ?_))
 ·subst he;exact aE rfl fin
 ·rw [dj];have e:iX ((o2++[i]).map aU)=((.own,o2.map aU++[aU i]),()):=by
   rw [ev];cases o2 with
   | nil=>exact absurd rfl he
   | cons a t=>rfl
  rw [e] at fin;exact aE rfl fin
theorem Uj (hm:3≤m) {b:Bool} {tm:List TM} {t:TM} {i:Nat} (hi:tm[i]? = some t) (hl:t.l = -1) (hr:t.r = -1) {o:List Nat} (ho:o.length≤10) {x1:au nC} {K:qN.T→OR}
  (h:∀(o':List Nat),(∀x∈o',x∈o∨x < tm.length)→o'.length≤o.length+1→Wp (K ((),((),()),tB b tm,iX (o'.map aU),())) Q) :
  Wp (aG qN ((T m) 155 [(.one (iC (i:Int))),pE,(.one (.ptr (.e 1) 0 0)),(.one (.ptr (.e 2) 0 0))] [(bx nC x1),(bx [.tg 6] (tB b tm)),(bx [.tg 1] (iX (o.map aU)))]) K) Q:=by
 obtain ⟨m,rfl⟩:=cG hm;have kP:i < tm.length:=(cA.1 hi).1;have ql:∀a:TM,4+1≤(bz a).length∧eb cd (List.take 1 (List.drop 4 (bz a)))=some (a.l,()):=fun a=>⟨by simp [bz],rfl⟩
 have Fa:∀a:TM,5+1≤(bz a).length∧eb cd (List.take 1 (List.drop 5 (bz a)))=some (a.r,()):=fun a=>⟨by simp [bz],rfl⟩
 refine bJ OZ (eh (bR (by omega)) (eZ ?_));refine aM (enc:=bz) (f:=fun t=>(t.l,())) ql rfl hi ?_;dsimp only;rw [hl];refine ad6 (by omega) (eZ ?_);refine aM (enc:=bz) (f:=fun t=>(t.r,())) Fa rfl hi ?_;dsimp only;rw [hr];refine ad6 (by omega) ?_
 have fin := h (o ++ [i]) (by
   intro x hx
   rw [dA] at hx
   rcases hx with hx | hx
   · exact .inl hx
   · simp at hx; subst hx; exact .inr kP) (by simp)
 refine VO (o:=o) (fun he=>aD rfl (az ?_)) (fun he=>aD (abV (o:=o) (by omega)) (az ?_))
 ·subst he;exact aE rfl fin
 ·rw [dj];have e:iX ((o++[i]).map aU)=((.own,o.map aU++[aU i]),()):=by
   rw [ev];cases o with
   | nil=>exact absurd rfl he
   | cons a t=>rfl
  rw [e] at fin;exact aE rfl fin
theorem aq2 (hm:10≤m) {b:Bool} {tm:List TM} (hT:jj tm) {i:Nat} (hi:i < tm.length) {K:dh.T→OR} (h:∀b (l:List Nat),(∀x∈l,x < tm.length)→l.length≤3→Wp (K ((b,l.map aU),())) Q):Wp (W3 (T m) b (tm.map bz) (i:Int) K) Q:=by
 obtain ⟨m,rfl⟩:=cG hm;have hg:tm[i]? = some tm[i]:=gE hi;refine bJ ahE ?_;have fin:∀o:List Nat,(∀x∈o,x∈([]:List Nat)∨x < tm.length)→o.length≤3→Wp (zZ (iX (o.map aU)).1.1 fun t=>zO t (decide (0+(iX (o.map aU)).1.2.length≤(iX (o.map aU)).1.2.length)) (some ((.one (lC (.im (zB t)) 1 (zW t (iX (o.map aU)).1.2))),[]))) (J dh K Q):=by
  intro o ho hl;have af:∀x∈o,x < tm.length:=fun x hx=>(ho x hx).elim (fun h=>by cases h) id
  cases o with
  | nil=>exact eZ (az (aE rfl (h true [] af (by simp))))
  | cons a t=>
   refine jc (aD (by simp) ?_);have e:zW .own (iX ((a::t).map aU)).1.2=(a::t).map aU:=by show aV (whole _)=_;rw [dj];exact GX (a::t)
   rw [e];exact az (aE rfl (h false (a::t) af hl))
 rcases hT i _ hg with Fp | ⟨_,_,a,c,x,y,h1,h2,_,_,_,h6,h7,h8,h9,_⟩
 ·exact Uj (m:=m) (b:=b) (tm:=tm) (o:=[]) (by omega) hg Fp.2.1 Fp.2.2.1 (by simp) fun o ho hl=>fin o ho (by have:o.length≤0+1:=hl;omega)
 ·refine aqi (m:=m) (b:=b) (tm:=tm) (o:=[]) (by omega) hg (by simp) ?_ ?_ fun o ho hl=>fin o ho hl
  ·intro K' Q' y1 hk;rw [h1];exact Uj (m:=m - 1) (by omega) h6 h8.2.1 h8.2.2.1 (by simp) hk
  ·intro K' Q' y1 o1 ho1 hk;rw [h2];exact Uj (m:=m - 1) (by omega) h7 h9.2.1 h9.2.2.1 (by have:o1.length≤0+1:=ho1;omega) hk
end
end
section
open Go Go.ax QQ
def inc (s:PS):Nat:=if s.kd=3∨s.kd=5 then 1 else 0
def PP (ss:List PS) (at_:Nat):List Int:=(ss.take at_).flatMap bq
theorem Vx {ss:List PS} {i:Nat} {s:PS} (h:ss[i]? = some s):PP ss (i+1)=PP ss i++bq s:=by
 unfold PP;rw [tK,h];simp
theorem ae7 {ss:List PS} {n i:Nat} {s:PS} {t:Int} (hi:i < n) (h:ss[i]? = some s) (ht:t∈bq s):t∈PP ss n:=by
 unfold PP;rw [Nh];refine ⟨s,?_,ht⟩;refine fp (i:=i) ?_;rw [Nd,aJ hi,h]
structure SI (ss:List PS) (n:Nat) (cn dp:List Nat):Prop where
 lc:cn.length=ss.length
 ld:dp.length=ss.length
 c:∀k,k < ss.length→cn[k]? = some ((PP ss n).count (k:Int))
 f:∀i s,i < n→ss[i]? = some s→u3 s
 e:∀i s t,i < n→ss[i]? = some s→t∈bq s→∃k:Nat,t=(k:Int)∧i < k∧k < ss.length
 u:∀k:Nat,1≤k→k < n→(PP ss n).count (k:Int)=1
 d:∀i s,i < n→ss[i]? = some s→∃x,dp[i]? = some x∧x≤24∧∀k:Nat,(k:Int)∈bq s→(PP ss n).count (k:Int)≤1→∀s',ss[k]? = some s'→dp[k]? = some (if k < n then x+inc s' else x)
 b:∀(k x:Nat),dp[k]? = some x→x≤24
structure SJ (ss:List PS) (n:Nat) (s:PS) (j:Nat) (cn dp:List Nat):Prop where
 lc:cn.length=ss.length
 ld:dp.length=ss.length
 c:∀k,k < ss.length→cn[k]? = some ((PP ss n++(bq s).take j).count (k:Int))
 f:∀i s,i≤n→ss[i]? = some s→u3 s
 e:∀i s t,i < n→ss[i]? = some s→t∈bq s→∃k:Nat,t=(k:Int)∧i < k∧k < ss.length
 e':∀t∈(bq s).take j,∃k:Nat,t=(k:Int)∧n < k∧k < ss.length
 u:∀k:Nat,1≤k→k≤n→(PP ss n).count (k:Int)=1
 d':∃x,dp[n]? = some x∧∀k:Nat,(k:Int)∈(bq s).take j→dp[k]? = some x
 d:∀i s1,i < n→ss[i]? = some s1→∃x,dp[i]? = some x∧x≤24∧∀k:Nat,(k:Int)∈bq s1→(PP ss n++(bq s).take j).count (k:Int)≤1→∀s',ss[k]? = some s'→dp[k]? = some (if k≤n then x+inc s' else x)
 b:∀(k x:Nat),dp[k]? = some x→x≤24∨dp[n]? = some x
theorem SI.zero (ss:List PS):SI ss 0 (List.replicate ss.length 0) (List.replicate ss.length 0):=
 ⟨by simp,by simp,fun k hk=>by simp [PP,hk],fun i s h=>by omega,fun i s t h=>by omega,(fun k h1 h2=>by omega),(fun i s h=>by omega),(fun k x hx=>by rw [U6] at hx;split at hx<;>cases hx;omega)⟩
theorem SI.start {ss:List PS} {n:Nat} {cn dp:List Nat} (h:SI ss n cn dp) {s:PS} (hs:ss[n]? = some s) (hf:u3 s) (hc:n=0∨cn[n]? = some 1) {x:Nat} (hx:dp[n]? = some x):SJ ss n s 0 cn (dp.set n (x+inc s)):=by
 have hn:n < ss.length:=(cA.1 hs).1;refine ⟨h.lc,by simpa using h.ld,fun k hk=>by rw [HK,mR];exact h.c k hk,?_,h.e,by simp,?_,⟨x+inc s,by rw [yM (by rw [h.ld];exact hn)],by simp⟩,?_,?_⟩;rotate_left 3
 ·intro k y hy;by_cases hk:k=n
  ·subst hk;exact .inr hy
  ·rw [qS (by omega)] at hy;exact .inl (h.b k y hy)
 ·intro i s1 hi h1;by_cases h2:i < n
  ·exact h.f i s1 h2 h1
  ·rw [show i=n by omega,hs] at h1;cases h1;exact hf
 ·intro k h1 h2;by_cases h3:k < n
  ·exact h.u k h1 h3
  ·have hk:k=n:=by omega
   subst hk;rcases hc with hc | hc
   ·omega
   ·have:=h.c k hn;rw [hc] at this;exact (tM this).symm
 ·intro i s1 hi h1;obtain ⟨y,e1,e2,e3⟩:=h.d i s1 hi h1;refine ⟨y,by rw [qS (by omega)];exact e1,e2,fun k hk ra s' jY=>?_⟩;rw [HK,mR] at ra;have g:=e3 k hk ra s' jY;by_cases hkn:k=n
  ·subst hkn;rw [hs] at jY;cases jY;rw [aB (by omega),hx] at g;cases g;rw [yM (by rw [h.ld];exact hn),aJ (bV _)]
  ·rw [qS (by omega),g];by_cases h4:k < n
   ·rw [aJ h4,aJ (by omega)]
   ·rw [aB h4,aB (by omega)]
theorem SJ.ahQ {ss:List PS} {n:Nat} {s:PS} {j:Nat} {cn dp:List Nat} (h:SJ ss n s j cn dp) {k:Nat} (hj:(bq s)[j]? = some (k:Int)) (h1:n < k) (h2:k < ss.length) {c x:Nat} (hc:cn[k]? = some c) (hx:dp[n]? = some x):SJ ss n s (j+1) (cn.set k (c+1)) (dp.set k x):=by
 have ht:(bq s).take (j+1)=(bq s).take j++[(k:Int)]:=by rw [tK,hj];rfl
 have dT:∀k':Nat,(PP ss n++(bq s).take (j+1)).count (k':Int)=(PP ss n++(bq s).take j).count (k':Int)+(if k'=k then 1 else 0):=by
  intro k';rw [ht,←ej,UZ];congr 1;by_cases hk:k'=k
  ·subst hk;simp
  ·rw [aB hk];exact Nb.2 (by simp;omega)
 refine ⟨by simpa using h.lc,by simpa using h.ld,?_,h.f,h.e,?_,h.u,?_,?_,?_⟩;rotate_left 4
 ·intro k' y hy;rw [qS (by omega)];by_cases hk:k'=k
  ·subst hk;rw [yM (by rw [h.ld];exact h2)] at hy;cases hy;exact .inr hx
  ·rw [qS (by omega)] at hy;exact h.b k' y hy
 ·intro k' gH;rw [dT];by_cases hk:k'=k
  ·subst hk;rw [yM (by rw [h.lc];exact h2),aJ rfl];have:=h.c k' gH;rw [hc] at this;rw [tM this]
  ·rw [qS (by omega),aB hk];exact h.c k' gH
 ·intro t h3;rw [ht,dA] at h3;rcases h3 with h3 | h3
  ·exact h.e' t h3
  ·simp at h3;exact ⟨k,h3,h1,h2⟩
 ·obtain ⟨y,e1,e2⟩:=h.d';rw [hx] at e1;cases e1;refine ⟨x,by rw [qS (by omega)];exact hx,fun k' gH=>?_⟩;by_cases hk:k'=k
  ·subst hk;rw [yM (by rw [h.ld];exact h2)]
  ·rw [qS (by omega)];refine e2 k' ?_;rw [ht,dA] at gH;rcases gH with gH | gH
   ·exact gH
   ·simp at gH;omega
 ·intro i s1 hi kx;obtain ⟨y,e1,e2,e3⟩:=h.d i s1 hi kx;refine ⟨y,by rw [qS (by omega)];exact e1,e2,fun k' gH ra s' jY=>?_⟩;rw [dT] at ra;by_cases hk:k'=k
  ·subst hk;have:1≤(PP ss n++(bq s).take j).count (k':Int):=List.count_pos_iff.2 (HF _ (ae7 hi kx gH));rw [aJ rfl] at ra;omega
  ·rw [qS (by omega)];rw [aB hk] at ra;exact e3 k' gH (by omega) s' jY
theorem SJ.fin {ss:List PS} {n:Nat} {s:PS} {j:Nat} {cn dp:List Nat} (h:SJ ss n s j cn dp) (hs:ss[n]? = some s) (hj:(bq s).length≤j) {x:Nat} (hx:dp[n]? = some x) (cY:x≤24):SI ss (n+1) cn dp:=by
 have ht:(bq s).take j=bq s:=HJ hj;have hp:=Vx hs;have kO:=h.c;have cZ:=h.e';have dy:=h.d';have hd:=h.d;rw [ht] at kO cZ dy hd;rw [←hp] at kO hd;refine ⟨h.lc,h.ld,kO,fun i s1 hi=>h.f i s1 (by omega),?_,?_,?_,fun k y hy=>?_⟩;rotate_left 3
 ·rcases h.b k y hy with g | g
  ·exact g
  ·rw [hx] at g;cases g;exact cY
 ·intro i s1 t hi h1 h2;by_cases h3:i < n
  ·exact h.e i s1 t h3 h1 h2
  ·rw [show i=n by omega] at h1 ⊢;rw [hs] at h1;cases h1;exact cZ t h2
 ·intro k h1 h2;rw [hp,UZ,h.u k h1 (by omega)]
  have : (bq s).count (k : Int) = 0 := Nb.2 (fun hm => by
    obtain ⟨k', e1, e2, _⟩ := cZ _ hm
    omega)
  omega
 ·intro i s1 hi h1;by_cases h3:i < n
  ·obtain ⟨y,e1,e2,e3⟩:=hd i s1 h3 h1;refine ⟨y,e1,e2,fun k hk ra s' jY=>?_⟩;rw [e3 k hk ra s' jY];by_cases h4:k≤n
   ·rw [aJ h4,aJ (by omega)]
   ·rw [aB h4,aB (by omega)]
  ·rw [show i=n by omega] at h1 ⊢;rw [hs] at h1;cases h1;obtain ⟨y,e1,e2⟩:=dy;rw [hx] at e1;cases e1;refine ⟨x,hx,cY,fun k hk ra s' jY=>?_⟩;obtain ⟨k',g1,g2,_⟩:=cZ _ hk;rw [e2 k hk,aB (by omega)]
structure SF (ss:List PS):Prop where
 f:∀s∈ss,u3 s
 e:∀i s t,ss[i]? = some s→t∈bq s→∃k:Nat,t=(k:Int)∧i < k∧k < ss.length
 u:∀k:Nat,1≤k→k < ss.length→(ss.flatMap bq).count (k:Int)=1
 d:∃D:Nat→Nat,∀i s,ss[i]? = some s→D i≤24∧∀k:Nat,(k:Int)∈bq s→∀s',ss[k]? = some s'→D k=D i+inc s'
theorem SI.all {ss:List PS} {cn dp:List Nat} (h:SI ss ss.length cn dp):SF ss:=by
 have hp:PP ss ss.length=ss.flatMap bq:=by simp [PP]
 refine ⟨?_,?_,?_,⟨fun i=>dp.getD i 0,?_⟩⟩
 ·intro s hs;obtain ⟨i,hi,rfl⟩:=DZ hs;exact h.f i _ hi (gE hi)
 ·intro i s t h1 h2;exact h.e i s t (cA.1 h1).1 h1 h2
 ·intro k h1 h2;rw [←hp];exact h.u k h1 h2
 ·intro i s h1;have hi:=(cA.1 h1).1;obtain ⟨x,e1,e2,e3⟩:=h.d i s hi h1;have g1:dp.getD i 0=x:=by simp [List.getD,e1]
  refine ⟨by show dp.getD i 0≤24;rw [g1];exact e2,fun k hk s' jY=>?_⟩;obtain ⟨k',q1,q2,q3⟩:=h.e i s _ hi h1 hk;have hkk:k=k':=by omega
  have ra:=h.u k (by omega) (by omega);have:=e3 k hk (by omega) s' jY;rw [aJ (by omega)] at this;show dp.getD k 0=dp.getD i 0+inc s';rw [g1];simp [List.getD,this]
end
section
open Go Go.ax QQ
def wJ (t:TM):TR:=⟨t.kd,t.nm,t.n,t.tx,t.l,t.r⟩
theorem Om (tm:List TM):tm.map bz=(tm.map wJ).map cR:=by rw [U'];rfl
def tP (p:PC):au fx:=(p.nm,(p.pb,p.pm.map eJ),(p.tb,p.tm.map bz),(p.sb,p.ss.map cT),())
theorem TD {l:List Nat} {i:Nat} (h:i < l.length) {v:Nat}:bY (l.map aU) (0+i) 0 (.int .i64 (v:Int))=(l.set i v).map aU:=by
 have:(l.map aU).getD (0+i) []=aU l[i]:=by simp [List.getD,h]
 unfold bY;rw [this,de,A3];rfl
section
variable {m:Nat} {Q:V→List (List C)→Prop}
theorem aeq (hm:1≤m) {a b c:Int} {K:dv.T→OR} (h:Wp (K ((a,b,c,()),())) Q):Wp (c46 (T m) a b c K) Q:=by
 obtain ⟨m,rfl⟩:=cG hm;exact bJ ahu (az (aE rfl h))
theorem Uz (hm:100≤m) {b:Bool} {tm:List TM} {z:Int} {K:bj.T→OR} (h:Wp (K (sX (tm.map wJ) z,())) Q):Wp (Er (T m) b (tm.map bz) z K) Q:=by
 rw [Om];exact kb (x:=(sX (tm.map wJ) z,())) (abl z m hm) rfl h
theorem abm {l:List TR} {z:Int} (h:sX l z=true):∃i:Nat,z=(i:Int)∧i < l.length:=by
 simp only [sX,bK,fB] at h;exact ⟨z.toNat,by omega,by omega⟩
def ou (K:dv.T→OR) (Q:V→List (List C)→Prop):Prop:=∀e a b,e≠0→Wp (K ((e,a,b,()),())) Q
variable {K:dv.T→OR}
theorem nh (hF:ou K Q) (hm:1≤m) {e a b:Int} (he:e≠0):Wp (c46 (T m) e a b fun v=>(some ((.agg [(iC v.1.1),(iC v.1.2.1),(iC v.1.2.2.1)]),[]))) (J dv K Q):=
 aeq hm (az (aE rfl (hF e a b he)))
theorem adw (q:Nat) (hq:230≤q) (hF:ou K Q) {p:PC} {cn dp:RR} {a0 a8 a9 aP:Int} {a1:au eN} {a6 cJ:Bool} {a7 a12:RR} {fM:Int} {r c1 c0:Nat} (hr:r≤100000) {tb:Bool} {tl:List Nat} (ri:∀x∈tl,x < p.tm.length) (h3:tl.length≤3)
  (hZ:∀us:List Bool,us.length=p.tm.length→Wp (Gp (T q) q c0 c1 a0 a1 (tP p) cn dp (us.map gn) a6 a7 a8 a9 aP cJ a12 fM ((r+1:Nat):Int)) (J dv K Q)) :
  ∀(c i:Nat) (us:List Bool),tl.length - i < c→i≤tl.length→us.length=p.tm.length→Wp (La (T q) q c0 c1 c a0 a1 (tP p) cn dp (us.map gn) a6 a7 a8 a9 aP cJ a12 fM (r:Int) tb (tl.map aU) (ae (tl.map aU).length) (i:Int)) (J dv K Q)
 | 0,i,us,hc,_,_=>by omega
 | c+1,i,us,hc,hi,nT=>by
  refine aC amX (ai (fun g1=>?_) (fun g1=>?_))
  ·have af:i < tl.length:=bN g1;have hx:=ri _ (bM af);have JJ:tl[i] < us.length:=by omega
   refine aM gR rfl (gE af) ?_;refine oi Dq rfl (gE JJ) (ai (fun _=>nh hF (by omega) (by decide)) (fun _=>?_));refine ig rfl (aD (aX (by simpa using JJ)) (fm (b:=gn us[tl[i]]) (by rw [de,bQ,gE JJ];rfl) (aD rfl (iA (v:=(us[tl[i]],())) rfl ?_))));rw [Mz JJ,wI i];exact adw q hq hF hr ri h3 hZ c (i+1) (us.set tl[i] true) (by omega) (by omega) (by simpa using nT)
  ·rw [wI r];exact hZ us nT
theorem adv (q:Nat) (hq:21000≤q) (hF:ou K Q) {p:PC} (hT:jj p.tm) {cn dp:RR} {a0 a8 a9 aP:Int} {a1:au eN} {a6 cJ:Bool} {a7:RR} {c0:Nat} {rl:List Int} (hl:rl.length≤20000)
  (hZ:∀us:List Bool,us.length=p.tm.length→Wp (Aj (T q) q c0 a0 a1 (tP p) cn dp (us.map gn) a6 a7 a8 (ao (a9+1))) (J dv K Q)) :
  ∀(c r:Nat) (us:List Bool),rl.length - r < c→r≤rl.length→us.length=p.tm.length→Wp (Gp (T q) q c0 c a0 a1 (tP p) cn dp (us.map gn) a6 a7 a8 a9 aP cJ (rl.map bF) (ae (rl.map bF).length) (r:Int)) (J dv K Q)
 | 0,r,us,hc,_,_=>by omega
 | c+1,r,us,hc,hr,nT=>by
  refine aC amW (ai (fun g1=>?_) (fun g1=>hZ us nT));have af:r < rl.length:=bN g1;refine aM nw rfl (gE af) ?_;refine Uz (m:=q) (by omega) (ai (fun _=>nh hF (by omega) (by decide)) (fun g2=>?_));have Fw:sX (p.tm.map wJ) rl[r]=true:=by simpa using g2
  obtain ⟨i,hi,kP⟩:=abm Fw;rw [cf] at kP;dsimp only;rw [hi];refine aq2 (m:=q) (by omega) hT kP fun b tl ri h3=>?_
  exact adw q (by omega) hF (by omega) ri h3 (fun Hr FJ=>adv q hq hF hT hl hZ c (r+1) Hr (by omega) (by omega) FJ) q 0 us (by omega) (by omega) nT
theorem adx (q:Nat) (hq:21000≤q) (hF:ou K Q) {p:PC} (hp:gQ p) (mn:p.ss.length≤80) {n:Nat} {s:PS} (hs:p.ss[n]? = some s) {a0 a8:Int} {a1:au eN} {a6:Bool} {a7:RR} {c0:Nat} {nb:Bool}
  (hZ:∀cn dp (us:List Bool),SI p.ss (n+1) cn dp→us.length=p.tm.length→Wp (Aj (T q) q c0 a0 a1 (tP p) (cn.map aU) (dp.map aU) (us.map gn) a6 a7 a8 ((n+1:Nat):Int)) (J dv K Q)) (us:List Bool) (nT:us.length=p.tm.length) :
  ∀(c j:Nat) (cn dp:List Nat),(bq s).length - j < c→j≤(bq s).length→SJ p.ss n s j cn dp→Wp (Lb (T q) q c0 c a0 a1 (tP p) (cn.map aU) (dp.map aU) (us.map gn) a6 a7 a8 (n:Int) (tS s) (n:Int) nb ((bq s).map bF) (ae ((bq s).map bF).length) (j:Int)) (J dv K Q)
 | 0,j,cn,dp,hc,_,_=>by omega
 | c+1,j,cn,dp,hc,hj,h=>by
  have hn:n < p.ss.length:=(cA.1 hs).1;have oN:=hp.s2 s (fp hs);have mz:(bq s).length≤100:=by
   unfold bq;split
   ·simp
   ·simpa using oN.2.2.2
  have Jh:n < dp.length:=by rw [h.ld];exact hn
  refine aC amY (ai (fun g1=>?_) (fun g1=>?_))
  ·have af:j < (bq s).length:=bN g1;have hg:(bq s)[j]? = some (bq s)[j]:=gE af;refine aM nw rfl hg (ai (fun _=>nh hF (by omega) (by decide)) (fun g2=>ai (fun _=>nh hF (by omega) (by decide)) (fun g3=>?_)));have k1:¬ (bq s)[j]≤(n:Int):=lk g2;have k2:¬ (bq s)[j]≥ae (p.ss.map cT).length:=lk g3;rw [bI,cf] at k2;obtain ⟨k,hk⟩:∃k:Nat,(bq s)[j]=(k:Int):=⟨(bq s)[j].toNat,by omega⟩
   have ui:n < k:=by omega
   have ku:k < p.ss.length:=by omega
   have xx:k < cn.length:=by rw [h.lc];exact ku
   have oM:k < dp.length:=by rw [h.ld];exact ku
   obtain ⟨r,hr⟩:=bl 1 q;have e4:Ld (T q) q c0 c q=Ld (T q) q c0 c (r+1):=by rw [←hr]
   have Y4:=h.c k ku;have P6:cn[k]≤10000:=by
    have q1:cn[k]=(PP p.ss n++(bq s).take j).count (k:Int):=by
     rw [gE xx] at Y4;exact tM Y4
    rw [q1];refine je HC ?_;rw [dL];have q2:(PP p.ss n).length≤80 * 100:=by
     unfold PP;rw [List.length_flatMap];have:∀(l:List PS),(∀x∈l,x∈p.ss)→((l.map fun a=>(bq a).length).sum)≤l.length * 100:=by
      intro l;induction l with
      | nil=>intro _;simp
      | cons a t ih=>
       intro hm;have:=ih (fun x hx=>hm x (kF _ hx));have ha:=hp.s2 a (hm a kf);have vr:(bq a).length≤100:=by
        unfold bq;split
        ·simp
        ·simpa using ha.2.2.2
       simp only [fY,yP,fX];omega
     have:=this (p.ss.take n) (fun x hx=>A4 hx);have:(p.ss.take n).length≤80:=by simp;omega
     omega
    have:((bq s).take j).length≤100:=by simp;omega
    omega
   dsimp only;rw [hk,e4];refine aC amZ ?_;refine oi gR rfl (gE xx) ?_;refine ig rfl (aD (aX (by simpa using xx)) (fm (b:=aU cn[k]) (by rw [de,bQ,gE xx];rfl) (aD rfl (iA (v:=((cn[k]:Int),())) rfl ?_))));refine oi gR rfl (gE Jh) ?_;refine ig rfl (aD (aX (by simpa using oM)) (fm (b:=aU dp[k]) (by rw [de,bQ,gE oM];rfl) (aD rfl (iA (v:=((dp[k]:Int),())) rfl ?_))));dsimp only;rw [show ao ((cn[k]:Int)+1)=((cn[k]+1:Nat):Int) from gF,TD xx,TD oM,wI j];exact adx q hq hF hp mn hs hZ us nT c (j+1) _ _ (by omega) (by omega) (h.ahQ (by rw [hg,hk]) ui ku (gE xx) (gE Jh))
  ·have eP:(bq s).length≤j:=by
    have g2:¬ (j:Int) < ae ((bq s).map bF).length:=lk g1;rw [bI,cf] at g2;omega
   refine oi gR rfl (gE Jh) (ai (fun _=>nh hF (by omega) (by decide)) (fun g2=>?_));have cY:dp[n]≤24:=by
    have:¬ ((dp[n]:Nat):Int) > 24:=lk g2;omega
   have hSI:=h.fin hs eP (gE Jh) cY;refine aeF (m:=q) (by omega) oN fun tb rl gC=>?_
   refine adv q hq hF hp.t2 gC (fun Hr FJ=>?_) q 0 us (by omega) (by omega) nT;rw [wI n];exact hZ cn dp Hr hSI FJ
theorem adu (q:Nat) (hq:21000≤q) (hF:ou K Q) {p:PC} (hp:gQ p) (mn:p.ss.length≤80) {a0:Int} {a1:au eN} {a6:Bool} (h:SF p.ss→Wp (K ((0,0,0,()),())) Q) :
  ∀(c n:Nat) (cn dp:List Nat) (us:List Bool),p.ss.length - n < c→n≤p.ss.length→SI p.ss n cn dp→us.length=p.tm.length→
   Wp (Aj (T q) q c a0 a1 (tP p) (cn.map aU) (dp.map aU) (us.map gn) a6 (p.ss.map cT) (ae (p.ss.map cT).length) (n:Int)) (J dv K Q)
 | 0,n,cn,dp,us,hc,_,_,_=>by omega
 | c+1,n,cn,dp,us,hc,hn,hI,nT=>by
  refine aC amV (ai (fun g1=>?_) (fun g1=>?_))
  ·have af:n < p.ss.length:=bN g1;have hs:p.ss[n]? = some p.ss[n]:=gE af;generalize p.ss[n]=s at hs;have oN:=hp.s2 s (fp hs);have aS:n < cn.length:=by rw [hI.lc];exact af
   have ql:n < dp.length:=by rw [hI.ld];exact af
   obtain ⟨r,hr⟩:=bl 1 q;have e5:xR (T q) q c q=xR (T q) q c (r+1):=by rw [←hr]
   have e6:C1 (T q) q c q=C1 (T q) q c (r+1):=by rw [←hr]
   refine aM (enc:=cT) (f:=tS) (fun a=>⟨by simp [cT],rfl⟩) rfl hs ?_;refine aqN (m:=q) (by omega) oN fun b hb=>ai (fun _=>nh hF (by omega) (by decide)) (fun g2=>?_)
   have Qh:=hb (by simpa using g2);have five:∀IH,SJ p.ss n s 0 cn IH→Wp (xR (T q) q c q a0 a1 (tP p) (cn.map aU) (IH.map aU) (us.map gn) a6 (p.ss.map cT) (ae (p.ss.map cT).length) (n:Int) (tS s) (n:Int)) (J dv K Q):=by
    intro IH hJ;rw [e5];refine aC am0 ?_;refine Uw (m:=q) (by omega) oN fun nb=>?_
    have mz:(bq s).length≤100:=by
     unfold bq;split
     ·simp
     ·simpa using oN.2.2.2
    exact adx q hq hF hp mn hs (fun cn' af1 Hr hI' FJ=>adu q hq hF hp mn h c (n+1) cn' af1 Hr (by omega) (by omega) hI' FJ) us nT q 0 cn IH (by omega) (by omega) hJ
   have cY:dp[n]≤100000→∀(dH:n=0∨cn[n]? = some 1),Wp (C1 (T q) q c q a0 a1 (tP p) (cn.map aU) (dp.map aU) (us.map gn) a6 (p.ss.map cT) (ae (p.ss.map cT).length) (n:Int) (tS s) (n:Int)) (J dv K Q):=by
    intro PW dH;have bA:=hI.start hs Qh dH (gE ql);rw [e6];have up:s.kd=3∨s.kd=5→Wp (xR (T q) q c q a0 a1 (tP p) (cn.map aU) (bY (dp.map aU) (0+n) 0 (.int .i64 (ao ((dp[n]:Int)+1)))) (us.map gn) a6 (p.ss.map cT) (ae (p.ss.map cT).length) (n:Int) (tS s) (n:Int)) (J dv K Q):=by
     intro hk;rw [show ao ((dp[n]:Int)+1)=((dp[n]+1:Nat):Int) from gF,TD ql];have:inc s=1:=by unfold inc;rw [aJ hk]
     rw [this] at bA;exact five _ bA
    refine aC am1 (ai (fun g3=>?_) (fun g3=>ai (fun g4=>?_) (fun g4=>?_)))
    ·refine oi gR rfl (gE ql) ?_;refine ig rfl (aD (aX (by simpa using ql)) (fm (b:=aU dp[n]) (by rw [de,bQ,gE ql];rfl) (aD rfl (iA (v:=((dp[n]:Int),())) rfl ?_))));exact up (.inl (by have:(s.kd==3)=true:=g3;simpa using this))
    ·refine oi gR rfl (gE ql) ?_;refine ig rfl (aD (aX (by simpa using ql)) (fm (b:=aU dp[n]) (by rw [de,bQ,gE ql];rfl) (aD rfl (iA (v:=((dp[n]:Int),())) rfl ?_))));exact up (.inr (by have:(s.kd==5)=true:=g4;simpa using this))
    ·have h3:s.kd≠3:=by have:(s.kd==3)=false:=g3;simpa using this
     have h5:s.kd≠5:=by have:(s.kd==5)=false:=g4;simpa using this
     have:inc s=0:=by unfold inc;rw [aB (by omega)]
     rw [this,jn,ae2] at bA;exact five _ bA
   have PW:=cY (by have:=hI.b n dp[n] (gE ql);omega);refine ai (fun g3=>?_) (fun g3=>PW (.inl ?_))
   ·refine oi gR rfl (gE aS) (ai (fun _=>nh hF (by omega) (by decide)) (fun g4=>PW (.inr ?_)));have:(((cn[n]:Nat):Int) != 1)=false:=g4;have:=Vm.1 this;rw [gE aS,show cn[n]=1 by omega]
   ·have:¬ (n:Int) > 0:=lk g3;omega
  ·have eP:n=p.ss.length:=by
    have g2:¬ (n:Int) < ae (p.ss.map cT).length:=lk g1;rw [bI,cf] at g2;omega
   rw [eP] at hI;exact az (aE rfl (h hI.all))
theorem aqX (hm:21010≤m) (hF:ou K Q) {b1 b2 b3:Bool} {r1 r2:RR} {ay:List PC} {i:Nat} {p:PC} (hi:ay[i]? = some p) (hp:gQ p) (mn:p.ss.length≤80) (arl:p.tm.length≤160) (h:SF p.ss→Wp (K ((0,0,0,()),())) Q) :
  Wp (WV (T m) b1 r1 b2 r2 b3 (ay.map dS) (i:Int) K) Q:=by
 obtain ⟨m,rfl⟩:=cG hm;refine bJ ahB ?_;refine aM (enc:=dS) (f:=tP) (fun a=>⟨by simp [dS],rfl⟩) rfl hi ?_;have e1:∀n:Nat,List.replicate n [D.int .i64 0]=(List.replicate n 0).map aU:=by intro n;simp [aU]
 have e2:∀n:Nat,List.replicate n [D.bool false]=(List.replicate n false).map gn:=by intro n;simp [gn]
 have g:∀(n k:Nat),n≤1000→k≤8→(decide (n≤n)&&decide (n * k≤140737488355328)&&decide (n≤9223372036854775807)&&true&&(!n==0||n==0))=true:=by
  intro n k hn hk;have:n * k≤1000 * 8:=Vh hn hk;simp;omega
 have l1:(p.ss.map cT).length=p.ss.length:=cf _;have l2:(p.tm.map bz).length=p.tm.length:=cf _;have gs:=g p.ss.length 8 (by omega) (by omega);have gt:=g p.tm.length 2 (by omega) (by omega);rw [←l1] at gs;rw [←l2] at gt;refine aD gs (aD gs (aD gt ?_));show Wp (Aj (T m) m m (i:Int) (0,0,0,()) (tP p) (List.replicate (p.ss.map cT).length [D.int .i64 0]) (List.replicate (p.ss.map cT).length [D.int .i64 0]) (List.replicate (p.tm.map bz).length [D.bool false]) p.sb (p.ss.map cT) (ae (p.ss.map cT).length) 0) _;rw [e1,e2,l1,l2];have:=adu m (by omega) hF hp mn h (a0:=(i:Int)) (a1:=(0,0,0,())) (a6:=p.sb) m 0 _ _ (List.replicate p.tm.length false) (by omega) (by omega) (SI.zero p.ss) (by simp);rw [l1] at this;exact this
end
end
section
open Go Go.ax QQ
section
variable {m:Nat} {Q:V→List (List C)→Prop}
theorem ado (q:Nat) (ay:List PC) (hl:ay.length≤100) (s:BB) (x y:Tag×RR) {b:Bool} {K:iM.T→OR} (h1:Wp (K (-1,())) Q) (h2:∀i:Nat,i < ay.length→Wp (K ((i:Int),())) Q):∀(c i:Nat),ay.length - i < c→i≤ay.length→
  Wp (KS (T q) q c s (x,y,(.im b,ay.map dS),()) (ae (ay.map dS).length) (i:Int)) (J iM K Q)
 | 0,i,hc,_=>by omega
 | c+1,i,hc,hi=>by
  refine aC amv (ai (fun g1=>eZ ?_) (fun g1=>az (aE rfl h1)));have af:i < ay.length:=bN g1;refine aM (enc:=dS) (f:=fun a=>(a.nm,())) (fun a=>⟨by simp [dS],rfl⟩) rfl (gE af) (ai (fun g2=>az (aE rfl (h2 i af))) (fun g2=>?_));rw [wI i];exact ado q ay hl s x y h1 h2 c (i+1) (by omega) (by omega)
theorem M7 (hm:110≤m) {b1 b2 b3:Bool} {r1 r2:RR} {ay:List PC} (hl:ay.length≤100) {s:BB} {K:iM.T→OR} (h1:Wp (K (-1,())) Q) (h2:∀i:Nat,i < ay.length→Wp (K ((i:Int),())) Q):Wp (Es (T m) b1 r1 b2 r2 b3 (ay.map dS) s K) Q:=by
 obtain ⟨m,rfl⟩:=cG hm;exact bJ aho (ado m ay hl s _ _ h1 h2 m 0 (by omega) (by omega))
theorem aen (hm:120≤m) {k:Int} {x:BB} (h:(k,x)∈iT) {K:bj.T→OR} (hK:Wp (K (true,())) Q):Wp (Ok (T m) k x K) Q:=by
 obtain ⟨m,rfl⟩:=cG hm;refine bJ aht ?_;have hx:nr 1 [⟨[120],k,x,0⟩]:=⟨by simp,by simp,by simp,fun a ha=>by simp at ha;subst ha;exact ⟨show ([120]:BB)∈qA by decide,h,show (0:Nat) < 1 by decide⟩⟩
 have := MO m (by omega) false [] (l := [⟨1, [120], false, [⟨[120], k, x, 0⟩]⟩]) (by simp) (by simp) (by
   intro p hp
   simp at hp; subst hp
   exact .inr ⟨.inl rfl, show ([120] : BB) ∈ lD by decide, hx⟩)
 exact kb (x:=(true,())) this rfl (az (aE rfl hK))
structure HD (p:PC):Prop where
 hn:gK p.nm=true
 hp:p.pm.length≤6
 hs:p.ss.length≤80
 ht:p.tm.length≤160
theorem ady (q:Nat) (hq:200≤q) {ay:List PC} (cL:ay.length≤100) {p:PC} (hp:gQ p) {b1 b2 b3:Bool} {r1 r2:RR} {a0:Nat} {a2:au eN} {K:dv.T→OR} (hF:ou K Q) {oF:Bool} (hg:oF=true→HD p) (h:HD p→Wp (K ((0,0,0,()),())) Q):∀(c i:Nat) (g:Bool) (o:List BB),p.pm.length - i < c→i≤p.pm.length→o.length=i→(g=true→oF=true)→
  Wp (uy (T q) q c (a0:Int) ((b1,r1),(b2,r2),(b3,ay.map dS),()) a2 (tP p) g (o.map aL) p.pb (p.pm.map eJ) (ae (p.pm.map eJ).length) (i:Int)) (J dv K Q)
 | 0,i,g,o,hc,_,_,_=>by omega
 | c+1,i,g,o,hc,hi,ho,jW=>by
  have h2:=hp.p1;refine aC amF (ai (fun g1=>?_) (fun g1=>ai (fun _=>nh hF (by omega) (by decide)) (fun g2=>?_)))
  ·have af:i < p.pm.length:=bN g1;have hx:=hp.p2 _ (bM af);have eK:∀g':Bool,(g'=true→oF=true)→Wp (gd ((o.map aL).length==(o.map aL).length&&true&&decide (((o.map aL).length+1) * 16≤140737488355328)) (uy (T q) q c (a0:Int) ((b1,r1),(b2,r2),(b3,ay.map dS),()) a2 (tP p) g' (o.map aL++whole ([[D.str []]].set 0 [D.str p.pm[i].1])) p.pb (p.pm.map eJ) (ae (p.pm.map eJ).length) (ao ((i:Int)+1)))) (J dv K Q):=by
    intro g' qm;refine aD (ia (by simp;omega) (by omega)) ?_;rw [wI i,dj];have:=ady q hq cL hp (b1:=b1) (b2:=b2) (b3:=b3) (r1:=r1) (r2:=r2) (a0:=a0) (a2:=a2) hF hg h c (i+1) g' (o++[p.pm[i].1]) (by omega) (by omega) (by simp;omega) qm;rw [ev] at this;exact this
   refine aM G4 rfl (gE af) (ai (fun g3=>?_) (fun g3=>?_))
   ·refine ie (m:=q) (by omega) (ai (fun g4=>aen (m:=q) (by omega) hx.1 ?_) (fun g4=>?_))
    ·exact eK true (fun _=>jW g3)
    ·exact eK false (fun h0=>by cases h0)
   ·exact eK false (fun h0=>by cases h0)
  ·have sK:oF=true:=jW (by simpa using g2);have ok:=hg sK;have fin:Wp (some ((.agg [(iC 0),(iC 0),(iC 0)]),[])) (J dv K Q):=az (aE rfl (h ok));have fZ:Wp (gd (decide (0+(o.map aL).length≤(o.map aL).length)) (u9 (T q) false (aV (whole (o.map aL))) fun nF=>(bif (!nF.1) then (c46 (T q) 1501 (a0:Int) (-1) fun aY=>(some ((.agg [(iC aY.1.1),(iC aY.1.2.1),(iC aY.1.2.2.1)]),[]))) else (some ((.agg [(iC 0),(iC 0),(iC 0)]),[]))))) (J dv K Q):=by
    refine aD (by simp) ?_;rw [dj,qG];exact M6 (m:=q) (N:=10) (by omega) (by omega) (by omega) fun b=>ai (fun _=>nh hF (by omega) (by decide)) (fun _=>fin)
   exact M7 (m:=q) (by omega) cL (ai (fun _=>nh hF (by omega) (by decide)) (fun _=>fZ)) (fun j hj=>ai (fun _=>nh hF (by omega) (by decide)) (fun _=>fZ))
theorem apL (q:Nat) (hq:200≤q) {ay:List PC} (cL:ay.length≤100) {p:PC} (hp:gQ p) {b1 b2 b3:Bool} {r1 r2:RR} {a0:Nat} {a2:au eN} {K:dv.T→OR} (hF:ou K Q) {oF:Bool} (hg:oF=true→HD p) (h:HD p→Wp (K ((0,0,0,()),())) Q) :
  Wp (Gl (T q) q q (a0:Int) ((b1,r1),(b2,r2),(b3,ay.map dS),()) a2 (tP p) oF true [] p.pb (p.pm.map eJ) (ae (p.pm.map eJ).length) 0) (J dv K Q):=by
 have h2:=hp.p1;obtain ⟨r,hr⟩:=bl 1 q;have e0:Gl (T q) q q=Gl (T q) q (r+1):=by rw [←hr]
 rw [e0];refine aC amE (ai (fun g1=>?_) (fun g1=>ai (fun _=>nh hF (by omega) (by decide)) (fun g2=>?_)))
 ·have af:0 < p.pm.length:=bN g1;have hx:=hp.p2 _ (bM af);have eK:∀g':Bool,(g'=true→oF=true)→Wp (gd (true&&true&&true) (uy (T q) q r (a0:Int) ((b1,r1),(b2,r2),(b3,ay.map dS),()) a2 (tP p) g' [[.str p.pm[0].1]] p.pb (p.pm.map eJ) (ae (p.pm.map eJ).length) (ao (0+1)))) (J dv K Q):=by
   intro g' qm;refine aD rfl ?_;exact ady q hq cL hp hF hg h r 1 g' [p.pm[0].1] (by omega) (by omega) rfl qm
  refine aM G4 (i:=0) rfl (gE af) (ai (fun g3=>?_) (fun g3=>eK false (fun h0=>by cases h0)));exact ie (m:=q) (by omega) (ai (fun g4=>aen (m:=q) (by omega) hx.1 (eK true (fun _=>g3))) (fun g4=>eK false (fun h0=>by cases h0)))
 ·have ok:=hg (by simpa using g2);have fin:Wp (some ((.agg [(iC 0),(iC 0),(iC 0)]),[])) (J dv K Q):=az (aE rfl (h ok));have fZ:Wp (u9 (T q) true [] fun nF=>(bif (!nF.1) then (c46 (T q) 1501 (a0:Int) (-1) fun aY=>(some ((.agg [(iC aY.1.1),(iC aY.1.2.1),(iC aY.1.2.2.1)]),[]))) else (some ((.agg [(iC 0),(iC 0),(iC 0)]),[])))) (J dv K Q):=
   M6 (m:=q) (l:=[]) (N:=10) (by omega) (by simp) (by omega) fun b=>ai (fun _=>nh hF (by omega) (by decide)) (fun _=>fin)
  exact M7 (m:=q) (by omega) cL (ai (fun _=>nh hF (by omega) (by decide)) (fun _=>fZ)) (fun j hj=>ai (fun _=>nh hF (by omega) (by decide)) (fun _=>fZ))
theorem aqY (hm:210≤m) {b1 b2 b3:Bool} {r1 r2:RR} {ay:List PC} (cL:ay.length≤100) {i:Nat} {p:PC} (hi:ay[i]? = some p) (hp:gQ p) {K:dv.T→OR} (hF:ou K Q) (h:HD p→Wp (K ((0,0,0,()),())) Q):Wp (WU (T m) b1 r1 b2 r2 b3 (ay.map dS) (i:Int) K) Q:=by
 obtain ⟨m,rfl⟩:=cG hm;obtain ⟨r,hr⟩:=bl 1 m;have e1:vU (T m) m m=vU (T m) m (r+1):=by rw [←hr]
 have go:∀oF,(oF=true→HD p)→Wp (vU (T m) m m (i:Int) ((b1,r1),(b2,r2),(b3,ay.map dS),()) (0,0,0,()) (tP p) oF) (J dv K Q):=by
  intro oF hg;rw [e1];exact aC amG (apL m (by omega) cL hp hF hg h)
 have no:=go false (fun h0=>by cases h0);refine bJ ahw ?_;refine aM (enc:=dS) (f:=tP) (fun a=>⟨by simp [dS],rfl⟩) rfl hi ?_;refine ie (m:=m) (by omega) (ai (fun g1=>ai (fun g2=>ai (fun g3=>ai (fun g4=>go _ fun g5=>⟨g1,?_,?_,?_⟩) (fun _=>no)) (fun _=>no)) (fun _=>no)) (fun _=>no))
 ·have:ae (p.pm.map eJ).length≤6:=tN g2;rw [bI,cf] at this;omega
 ·have:ae (p.ss.map cT).length≤80:=tN g4;rw [bI,cf] at this;omega
 ·have:ae (p.tm.map bz).length≤160:=tN g5;rw [bI,cf] at this;omega
end
end
section
open Go Go.ax QQ
theorem xl {X Y:Type} {L:List X} {f:X→Y} {i:Nat} (g:decide ((i:Int) < ae (L.map f).length)=false):L.length≤i:=by
 have:=lk g;rw [bI,cf] at this;omega
theorem w1 {i:Nat} (h:i≤100000000):ao ((i:Int)+1)=((i+1:Nat):Int):=gF
theorem apP (m:Nat) (b:Bool):T (m+60) 204 [.one (lC (.im b) 1 [])] []=some (.aq [],[]):=by kernel_rfl
theorem apQ (m:Nat) (b:Bool) (s:BB):T (m+60) 204 [.one (lC (.im b) 1 [[.str s]])] []=some (.aq [],[]):=by kernel_rfl
section
variable {m:Nat} {Q:V→List (List C)→Prop}
theorem UE {L:List BB} {z:Int} {i:Nat} {a:BB} {K:au [.str]→OR} (hz:z=(i:Int)) (ha:L[i]? = some a) (h:Wp (K (a,())) Q):Wp (iR [.str] 0 1 (L.map aL) z K) Q:=
 aM rG hz ha h
abbrev cV (Cl:bX) (z:Int) (x1:au tj) (x2:au [.tg 6]) (x3:au [.tg 1]) (K:DB.T→OR):OR:=aG DB (Cl 203 [(.one (iC z)),pE,(.one (.ptr (.e 1) 0 0)),(.one (.ptr (.e 2) 0 0))] [(bx tj x1),(bx [.tg 6] x2),(bx [.tg 1] x3)]) K
def VK (m:Nat) (z:Int) (b:Bool) (tm:List TM) (n:Nat):Prop:=∀(K:DB.T→OR) (Q:V→List (List C)→Prop) (y:au tj) (o:List BB),o.length+n≤10→(∀o':List BB,o'.length≤o.length+n→Wp (K ((),((),()),tB b tm,iX (o'.map aL),())) Q)→Wp (cV (T m) z y (tB b tm) (iX (o.map aL)) K) Q
theorem VK.mono {z:Int} {b:Bool} {tm:List TM} {n n':Nat} (h:VK m z b tm n) (hn:n≤n'):VK m z b tm n':=
 fun K Q y o ho hk=>h K Q y o (by omega) fun o' h'=>hk o' (by omega)
theorem aqz {b:Bool} {tm:List TM}:VK (m+1) (-1) b tm 0:=fun K Q y o ho hk=>
 bJ XL (gl rfl (az (aE rfl (hk o (by omega)))))
theorem VP {o:List BB} {Z:Tag→OR} (hX:o=[]→Wp (Z (.im true)) Q) (hY:o≠[]→Wp (Z .own) Q):Wp (zZ (kB (o.map aL)).1 Z) Q:=by
 cases o with
 | nil=>exact eZ (hX rfl)
 | cons a t=>exact jc (hY (by simp))
theorem aeh {b:Bool} {tm:List TM} {t:TM} {i x y:Nat} (hi:tm[i]? = some t) (hl:VK m t.l b tm x) (hr:VK m t.r b tm y):VK (m+1) (i:Int) b tm (x+y+if t.kd=0 then 1 else 0):=by
 intro K Q yy o ho hk;have d:∀c,c < 6→∀(v:TM→Int),(∀a:TM,(bz a)[c]? = some (.int .i64 (v a)))→∀a:TM,c+1≤(bz a).length∧eb cd (List.take 1 (List.drop c (bz a)))=some (v a,()):=by
  intro c hc v hv a;refine ⟨by simp [bz];omega,?_⟩;have:List.take 1 (List.drop c (bz a))=[.int .i64 (v a)]:=by
   have g:c < (bz a).length:=by simp [bz];omega
   rw [tG g];have:=hv a;rw [gE g] at this;simp [tM this]
  rw [this];rfl
 refine bJ XL (eh (bR (by omega)) (eZ ?_));refine aM (enc:=bz) (f:=fun t=>(t.l,())) (d 4 (by omega) _ fun a=>rfl) rfl hi ?_;refine hl _ _ _ o (by omega) fun o1 h1=>eZ ?_
 refine aM (enc:=bz) (f:=fun t=>(t.r,())) (d 5 (by omega) _ fun a=>rfl) rfl hi ?_;refine hr _ _ _ o1 (by omega) fun o2 h2=>eZ ?_
 refine aM (enc:=bz) (f:=fun t=>(t.kd,())) (d 0 (by omega) _ fun a=>rfl) rfl hi (ai (fun g=>?_) (fun g=>az (aE rfl (hk o2 (by omega)))));have nQ:t.kd=0:=by have:(t.kd==0)=true:=g;simpa using this
 rw [aJ nQ] at hk;have fin:=hk (o2++[t.nm]) (by simp;omega);have dn:∀a:TM,1+1≤(bz a).length∧eb [.str] (List.take 1 (List.drop 1 (bz a)))=some (a.nm,()):=fun a=>⟨by simp [bz],rfl⟩
 refine VP (o:=o2) (fun he=>?_) (fun he=>?_)
 ·subst he;exact aM (enc:=bz) (f:=fun t=>(t.nm,())) dn rfl hi (aD rfl (az (by exact aE rfl fin)))
 ·refine aM (enc:=bz) (f:=fun t=>(t.nm,())) dn rfl hi (aD ?_ (az ?_))
  ·have e:(iX (o2.map aL)).1.2.length=o2.length:=by cases o2<;>simp [iX,kB]
   rw [e];exact ia (by omega) (by omega)
  ·rw [dj];have e:iX ((o2++[t.nm]).map aL)=((.own,o2.map aL++[aL t.nm]),()):=by
    rw [ev];cases o2 with
    | nil=>exact absurd rfl he
    | cons a t=>rfl
   rw [e] at fin;exact aE rfl fin
theorem Up {b:Bool} {tm:List TM} {t:TM} {i:Nat} (hi:tm[i]? = some t) (h:xU t):VK (m+2) (i:Int) b tm (if t.kd=0 then 1 else 0):=by
 have n:=aqz (m:=m) (b:=b) (tm:=tm);exact (aeh (m:=m+1) (x:=0) (y:=0) hi (by rw [h.2.1];exact n) (by rw [h.2.2.1];exact n)).mono (by omega)
theorem aqA {b:Bool} {tm:List TM} (hT:jj tm) {i:Nat} (hi:i < tm.length):VK (m+3) (i:Int) b tm 1:=by
 have hg:tm[i]? = some tm[i]:=gE hi;rcases hT i _ hg with h | ⟨_,hk,a,c,x,y,h1,h2,_,_,_,h6,h7,h8,h9,hv⟩
 ·exact (Up (m:=m+1) hg h).mono (by split<;>omega)
 ·refine (aeh (m:=m+2) (x:=if x.kd=0 then 1 else 0) (y:=if y.kd=0 then 1 else 0) hg (by rw [h1];exact Up h6 h8) (by rw [h2];exact Up h7 h9)).mono ?_;have:tm[i].kd≠0:=by omega
  rw [aB this];rcases hv with hv | hv<;>rw [aB hv]<;>split<;>omega
theorem aeo (hm:2≤m) {b:Bool} {l:List BB} (hl:l.length≤1) {K:dh.T→OR} (h:Wp (K ((b,l.map aL),())) Q):Wp (WQ (T m) b (l.map aL) K) Q:=by
 obtain ⟨m,rfl⟩:=cG hm;refine bJ ahG (gl (aX ?_) (az (aE rfl h)));rw [bI,cf];omega
theorem aeC (hm:60≤m) {b:Bool} {l:List BB} (hl:l.length≤1) {K:ac3.T→OR} (h:∀x,Wp (K x) Q):Wp (WO (T m) b (l.map aL) K) Q:=by
 obtain ⟨m,rfl⟩:=bl 60 m;match l,hl with
 | [],_=>exact kb (apP m b) rfl (h _)
 | [s],_=>exact kb (apQ m b s) rfl (h _)
 | a::c::t,hl=>simp at hl
theorem aeI (hm:120≤m) {b:Bool} {tm:List TM} (hT:jj tm) {z:Int} {K:dh.T→OR} (h:∀b (l:List BB),l.length≤1→Wp (K ((b,l.map aL),())) Q):Wp (c156 (T m) b (tm.map bz) z K) Q:=by
 obtain ⟨m,rfl⟩:=bl 4 m;refine bJ ahL (Uz (m:=m+3) (by omega) (ai (fun _=>az (aE rfl (h true [] (by simp)))) (fun g=>?_)));obtain ⟨i,rfl,hi⟩:=abm (show sX (tm.map wJ) z=true by simpa using g);rw [cf] at hi;refine aqA hT hi _ _ _ [] (by simp) fun o ho=>?_
 have hl:o.length≤1:=ho;refine VP (o:=o) (fun he=>?_) (fun he=>?_)
 ·subst he;exact aeC (m:=m+3) (l:=[]) (by omega) (by simp) fun _=>(aeo (m:=m+3) (l:=[]) (by omega) (by simp) (az (aE rfl (h _ [] (by simp)))))
 ·have e:aV (whole (iX (o.map aL)).1.2)=o.map aL:=by
   rw [dj,show (iX (o.map aL)).1.2=o.map aL by cases o<;>rfl];exact qG o
  refine aD (by simp) ?_;dsimp only [zB,zW,zO];rw [e];refine aeC (m:=m+3) (by omega) hl fun _=>(aD (by simp) ?_)
  exact aeo (m:=m+3) (by omega) hl (az (aE rfl (h _ o hl)))
theorem V9 (q:Nat) (wb:Bool) (ws:List WR) (hl:ws.length≤100) {K:dh.T→OR} (h:∀b (l:List BB),l.length=ws.length→Wp (K ((b,l.map aL),())) Q):∀(c i:Nat) (o:List BB),ws.length - i < c→i≤ws.length→o.length=i→
  Wp (KX (T q) q c (o.map aL) wb (ws.map cW) (ae (ws.map cW).length) (i:Int)) (J dh K Q)
 | 0,i,o,hc,_,_=>by omega
 | c+1,i,o,hc,hi,ho=>by
  refine aC amC (ai (fun g1=>?_) (fun g1=>?_))
  ·have af:=bN g1;refine aM AA rfl (gE af) (aD (ia (by simp;omega) (by omega)) ?_);rw [w1 (by omega),dj];have:=V9 q wb ws hl h c (i+1) (o++[ws[i].nm]) (by omega) (by omega) (by simp;omega);rw [ev] at this;exact this
  ·have:=xl g1;refine aD (by simp) ?_;rw [dj,qG];exact az (aE rfl (h false o (by omega)))
theorem ael (hm:210≤m) {s:PS} (ho:mJ s) {K:dh.T→OR} (h:∀b (l:List BB),l.length=(bq s).length→Wp (K ((b,l.map aL),())) Q) :
  Wp (za (T m) s.kd s.nm s.pr s.lb s.pc s.tm s.gt (s.ag.map bF) s.ct (s.cs.map eC) s.wb (s.ws.map cW) s.nx K) Q:=by
 obtain ⟨m,rfl⟩:=cG hm;obtain ⟨r,hr⟩:=bl 1 m;have hl:=ho.2.2.2;have e1:KY (T m) m m=KY (T m) m (r+1):=by rw [←hr]
 have e0:KW (T m) m m=KW (T m) m (r+1):=by rw [←hr]
 have one:(s.kd=1∨s.kd=8)→Wp (some ((.one (lC (.im false) 1 [[(.str s.nm)]])),[])) (J dh K Q):=fun hk=>
  az (aE rfl (h false [s.nm] (by unfold bq kN;rw [aJ (by rcases hk with e | e<;>rw [e]<;>rfl)];rfl)))
 refine bJ ahr (ai (fun g=>one (.inl (by simpa using g))) (fun g1=>ai (fun g=>one (.inr (by simpa using g))) (fun g2=>ai (fun g=>?_) (fun g3=>?_))))
 ·have hk:s.kd=5:=by simpa using g
  have hn:(bq s).length=s.ws.length:=by unfold bq kN;rw [aB (by rw [hk];decide)];simp
  rw [hn] at h;rw [e0];refine aC amB (ai (fun g1=>?_) (fun g1=>?_))
  ·have af:=bN (i:=0) g1;refine aM AA (i:=0) rfl (gE af) (aD rfl ?_);exact V9 m s.wb s.ws hl h r 1 [s.ws[0].nm] (by omega) (by omega) rfl
  ·have:=xl (i:=0) g1;exact az (aE rfl (h true [] (by simp;omega)))
 ·rw [e1];refine aC amD (Uw (m:=m) (by omega) ho fun b=>?_);have mz:(bq s).length≤100:=by
   unfold bq;split
   ·simp
   ·simpa using hl
  refine aD ?_ ?_
  ·have:((bq s).map bF).length=(bq s).length:=by simp
   dsimp only;rw [this];simp;omega
  ·have e:∀n:Nat,aV (List.replicate n [D.str []])=(List.replicate n ([]:BB)).map aL:=by
    intro n;rw [show List.replicate n [D.str []]=(List.replicate n ([]:BB)).map aL by simp [aL],qG]
   rw [e];exact az (aE rfl (h false _ (by simp)))
theorem aem (hm:120≤m) {b1 b2 b3:Bool} {r1 r2:RR} {ay:List PC} (hl:ay.length≤100) {s:BB} {z:Int} {K:bj.T→OR} (h:∀b,Wp (K (b,())) Q):Wp (c157 (T m) b1 r1 b2 r2 b3 (ay.map dS) s z K) Q:=by
 obtain ⟨m,rfl⟩:=cG hm;have f:∀b,Wp (some (.one (bC b),[])) (J bj K Q):=fun b=>az (aE rfl (h b))
 refine bJ ahs (M7 (m:=m) (by omega) hl (eh rfl (f false)) (fun i hi=>ai (fun _=>?_) (fun _=>f false)));exact aM acE rfl (gE hi) (f _)
end
end
section
open Go Go.ax QQ
abbrev GR (b1 b2 b3:Bool) (ps:List PR) (r2:RR) (ay:List PC):au c7:=((b1,ps.map cX),(b2,r2),(b3,ay.map dS),())
section
variable {m:Nat} {Q:V→List (List C)→Prop} {b1 b2 b3:Bool} {ps:List PR} {r2:RR} {ay:List PC}
theorem adE (q:Nat) (hq:230≤q) {p:PR} (hp:p.rs.length≤100) {K:bj.T→OR} (h:∀b,Wp (K (b,())) Q) {c0:Nat} (o:List BB) (hl:o.length≤200):∀(c i:Nat),o.length - i < c→i≤o.length→
  Wp (K7 (T q) q c0 c (p.nm,(p.rt,p.rs.map aL),(p.pt,p.iu),()) (o.map aL) 0 (o.map aL).length (ae (o.map aL).length) (i:Int)) (J bj K Q)
 | 0,i,hc,_=>by omega
 | c+1,i,hc,hi=>by
  refine aC amO (ai (fun g1=>?_) (fun _=>az (aE rfl (h true))));have af:=bN g1;refine ig rfl (aD (aX (by simpa using af)) (fm (b:=aL o[i]) (by rw [de,bQ,gE af];rfl) (aD rfl (iA (v:=(o[i],())) rfl ?_))));refine Ut (m:=q) (N:=200) (by omega) (by omega) (by omega) fun b=>ai (fun _=>az (aE rfl (h false))) (fun _=>?_)
  rw [w1 (by omega)];exact adE q hq hp h o hl c (i+1) (by omega) (by omega)
theorem adF (q:Nat) (hq:230≤q) {p:PR} (hp:p.rs.length≤100) {K:bj.T→OR} (h:∀b,Wp (K (b,())) Q) {c0:Nat} {cb:Bool} (cs:List CR) (hl:cs.length≤100):∀(c i:Nat) (o:List BB),cs.length - i < c→i≤cs.length→o.length=i+1→
  Wp (K9 (T q) q c0 c (p.nm,(p.rt,p.rs.map aL),(p.pt,p.iu),()) (o.map aL) cb (cs.map eC) (ae (cs.map eC).length) (i:Int)) (J bj K Q)
 | 0,i,o,hc,_,_=>by omega
 | c+1,i,o,hc,hi,ho=>by
  have fl:Wp rF (J bj K Q):=az (aE rfl (h false));refine aC amQ (ai (fun g1=>?_) (fun _=>ai (fun _=>fl) (fun _=>aD (by simp) ?_)))
  ·have af:=bN g1;refine aM (enc:=eC) (f:=fun c=>(c.ro,c.pc,(c.gt,c.ag.map bF),())) (fun a=>⟨by simp [eC],rfl⟩) rfl (gE af) (aD (ia (by simp;omega) (by omega)) ?_);rw [w1 (by omega),dj];have:=adF q hq hp h (c0:=c0) (cb:=cb) cs hl c (i+1) (o++[cs[i].ro]) (by omega) (by omega) (by simp;omega);rw [ev] at this;exact this
  ·rw [dj,qG];obtain ⟨r,hr⟩:=bl 1 q;have e2:K8 (T q) q c0 q=K8 (T q) q c0 (r+1):=by rw [←hr]
   refine M6 (m:=q) (N:=200) (by omega) (by omega) (by omega) fun b=>ai (fun _=>fl) (fun _=>?_)
   rw [e2];exact aC amP (adE q hq hp h o (by omega) q 0 (by omega) (by omega))
theorem adD (q:Nat) (hq:230≤q) (e9:ps.length≤100) (fH:∀p∈ps,p.rs.length≤100) {s:PS} (ho:mJ s) {bb:Bool} {K:bj.T→OR} (h:∀b,Wp (K (b,())) Q):∀(c i:Nat),ps.length - i < c→i≤ps.length→
  Wp (K6 (T q) q c (tS s) bb (ps.map cX) (ae (ps.map cX).length) (i:Int)) (J bj K Q)
 | 0,i,hc,_=>by omega
 | c+1,i,hc,hi=>by
  refine aC amN (ai (fun g1=>?_) (fun _=>az (aE rfl (h false))));have af:=bN g1;refine aM Mj rfl (gE af) (ai (fun _=>?_) (fun _=>?_))
  ·rw [w1 (by omega)];exact adD q hq e9 fH ho h c (i+1) (by omega) (by omega)
  ·exact adF q hq (fH _ (bM af)) h s.cs ho.2.1 q 0 [s.pr] (by have:=ho.2.1;omega) (by omega) rfl
theorem aqZ (hm:240≤m) (e9:ps.length≤100) (fH:∀p∈ps,p.rs.length≤100) {r3:RR} {s:PS} (ho:mJ s) {K:bj.T→OR} (h:∀b,Wp (K (b,())) Q) :
  Wp (WE (T m) b1 (ps.map cX) b2 r2 b3 r3 s.kd s.nm s.pr s.lb s.pc s.tm s.gt (s.ag.map bF) s.ct (s.cs.map eC) s.wb (s.ws.map cW) s.nx K) Q:=by
 obtain ⟨m,rfl⟩:=cG hm;exact bJ ahz (adD m (by omega) e9 fH ho h m 0 (by omega) (by omega))
variable {K:iM.T→OR}
theorem adM (q:Nat) (hq:240≤q) (e9:ps.length≤100) (fH:∀p∈ps,p.rs.length≤100) (gI:ay.length≤100) {s:PS} (ho:mJ s) (h:∀e,Wp (K (e,())) Q):∀(c i:Nat),s.cs.length - i < c→i≤s.cs.length→
  Wp (Le (T q) q c (GR b1 b2 b3 ps r2 ay) (tS s) s.ct (s.cs.map eC) (ae (s.cs.map eC).length) (i:Int)) (J iM K Q)
 | 0,i,hc,_=>by omega
 | c+1,i,hc,hi=>by
  have hl:=ho.2.1;have an:∀z,Wp (some ((.one (iC z)),[])) (J iM K Q):=fun z=>az (aE rfl (h z))
  refine aC am2 (ai (fun g1=>?_) (fun _=>ai (fun _=>aqZ (m:=q) (by omega) e9 fH ho fun b=>ai (fun _=>an _) (fun _=>an _)) (fun _=>an _)));have af:=bN g1;refine aM (enc:=eC) (f:=fun c=>(c.ro,c.pc,(c.gt,c.ag.map bF),())) (fun a=>⟨by simp [eC],rfl⟩) rfl (gE af) ?_;refine aem (m:=q) (by omega) gI fun b=>ai (fun _=>an _) (fun _=>?_)
  rw [w1 (by omega)];exact adM q hq e9 fH gI ho h c (i+1) (by omega) (by omega)
theorem apZ (q:Nat) (hq:240≤q) (e9:ps.length≤100) (fH:∀p∈ps,p.rs.length≤100) (gI:ay.length≤100) {s:PS} (ho:mJ s) (h:∀e,Wp (K (e,())) Q) :
  Wp (C3 (T q) q q (GR b1 b2 b3 ps r2 ay) (tS s)) (J iM K Q):=by
 obtain ⟨r,hr⟩:=bl 1 q;have e1:C3 (T q) q q=C3 (T q) q (r+1):=by rw [←hr]
 rw [e1];exact aC am3 (adM q hq e9 fH gI ho h q 0 (by have:=ho.2.1;omega) (by omega))
theorem adN (q:Nat) (hq:240≤q) (e9:ps.length≤100) (fH:∀p∈ps,p.rs.length≤100) (gI:ay.length≤100) {s:PS} (ho:mJ s) (h:∀e,Wp (K (e,())) Q) {bb:Bool} {bd:List BB} (hb:bd.length≤200) {lb:Bool} (l:List BB) (hl:l.length≤100):∀(c i:Nat),l.length - i < c→i≤l.length→
  Wp (Ak (T q) q c bb (bd.map aL) (GR b1 b2 b3 ps r2 ay) (tS s) lb (l.map aL) (ae (l.map aL).length) (i:Int)) (J iM K Q)
 | 0,i,hc,_=>by omega
 | c+1,i,hc,hi=>by
  have an:∀z,Wp (some ((.one (iC z)),[])) (J iM K Q):=fun z=>az (aE rfl (h z))
  have go:=apZ q hq e9 fH gI (b1:=b1) (b2:=b2) (b3:=b3) (r2:=r2) ho h;refine aC am4 (ai (fun g1=>?_) (fun _=>ai (fun _=>aem (m:=q) (by omega) gI fun b=>ai (fun _=>an _) (fun _=>go)) (fun _=>go)));have af:=bN g1;rw [w1 (by omega)];have nx:=adN q hq e9 fH gI ho h (bb:=bb) hb (lb:=lb) l hl c (i+1) (by omega) (by omega);exact UE rfl (gE af) (ai (fun _=>Ut (m:=q) (N:=200) (by omega) hb (by omega) fun b=>ai (fun _=>an _) (fun _=>nx)) (fun _=>nx))
theorem adS (q:Nat) (hq:240≤q) (e9:ps.length≤100) (fH:∀p∈ps,p.rs.length≤100) (gI:ay.length≤100) {s:PS} (ho:mJ s) (h:∀e,Wp (K (e,())) Q) {bb:Bool} {bd:List BB} (hb:bd.length≤200) :
  Wp (za (T q) s.kd s.nm s.pr s.lb s.pc s.tm s.gt (s.ag.map bF) s.ct (s.cs.map eC) s.wb (s.ws.map cW) s.nx fun aO=>Ak (T q) q q bb (bd.map aL) (GR b1 b2 b3 ps r2 ay) (tS s) aO.1.1 aO.1.2 (ae aO.1.2.length) 0) (J iM K Q):=by
 have mz:(bq s).length≤100:=by
  unfold bq;split
  ·simp
  ·simpa using ho.2.2.2
 exact ael (m:=q) (by omega) ho fun b l hl=>adN q hq e9 fH gI ho h hb l (by omega) q 0 (by omega) (by omega)
theorem adO (q:Nat) (hq:240≤q) (e9:ps.length≤100) (fH:∀p∈ps,p.rs.length≤100) (gI:ay.length≤100) {s:PS} (ho:mJ s) (h:∀e,Wp (K (e,())) Q) {bb:Bool} {bd:List BB} (hb:bd.length≤200) (o:List BB) (hl:o.length≤30000):∀(c i:Nat),o.length - i < c→i≤o.length→
  Wp (Lf (T q) q c bb (bd.map aL) (GR b1 b2 b3 ps r2 ay) (tS s) (o.map aL) 0 (o.map aL).length (ae (o.map aL).length) (i:Int)) (J iM K Q)
 | 0,i,hc,_=>by omega
 | c+1,i,hc,hi=>by
  refine aC am5 (ai (fun g1=>?_) (fun _=>adS q hq e9 fH gI ho h hb));have af:=bN g1;refine ig rfl (aD (aX (by simpa using af)) (fm (b:=aL o[i]) (by rw [de,bQ,gE af];rfl) (aD rfl (iA (v:=(o[i],())) rfl ?_))));refine Ut (m:=q) (N:=200) (by omega) hb (by omega) fun b=>ai (fun _=>az (aE rfl (h _))) (fun _=>?_)
  rw [w1 (by omega)];exact adO q hq e9 fH gI ho h hb o hl c (i+1) (by omega) (by omega)
theorem adP (q:Nat) (hq:30010≤q) (e9:ps.length≤100) (fH:∀p∈ps,p.rs.length≤100) (gI:ay.length≤100) {s:PS} (ho:mJ s) (h:∀e,Wp (K (e,())) Q) {bb:Bool} {bd:List BB} (hb:bd.length≤200) (o:List BB) (hl:o.length≤30000) {x:au fx} :
  Wp (pK (T q) q q bb (bd.map aL) (GR b1 b2 b3 ps r2 ay) x (tS s) (o.map aL)) (J iM K Q):=by
 obtain ⟨r,hr⟩:=bl 1 q;have e1:pK (T q) q q=pK (T q) q (r+1):=by rw [←hr]
 rw [e1];exact aC am7 (adO q (by omega) e9 fH gI ho h hb o hl q 0 (by omega) (by omega))
theorem adQ (q:Nat) (hq:30010≤q) (e9:ps.length≤100) (fH:∀p∈ps,p.rs.length≤100) (gI:ay.length≤100) {s:PS} (ho:mJ s) (h:∀e,Wp (K (e,())) Q) {bb:Bool} {bd:List BB} (hb:bd.length≤200) {p:PC} (hT:jj p.tm) {lb:Bool} (l:List Int) (hl:l.length≤20000):∀(c i:Nat) (o:List BB),l.length - i < c→i≤l.length→o.length≤i→
  Wp (Li (T q) q c bb (bd.map aL) (GR b1 b2 b3 ps r2 ay) (tP p) (tS s) (o.map aL) lb (l.map bF) (ae (l.map bF).length) (i:Int)) (J iM K Q)
 | 0,i,o,hc,_,_=>by omega
 | c+1,i,o,hc,hi,hol=>by
  have go:∀o:List BB,o.length≤30000→Wp (pK (T q) q q bb (bd.map aL) (GR b1 b2 b3 ps r2 ay) (tP p) (tS s) (o.map aL)) (J iM K Q):=fun o hl=>adP q hq e9 fH gI ho h hb o hl
  have more:Wp (gd ((o.map aL).length==(o.map aL).length&&true&&decide (((o.map aL).length+1) * 16≤140737488355328)) (pK (T q) q q bb (bd.map aL) (GR b1 b2 b3 ps r2 ay) (tP p) (tS s) (o.map aL++whole ([[D.str []]].set 0 [D.str s.nm])))) (J iM K Q):=by
   refine aD (ia (by simp;omega) (by omega)) ?_;rw [dj];have:=go (o++[s.nm]) (by simp;omega);rw [ev] at this;exact this
  refine aC am' (ai (fun g1=>?_) (fun _=>ai (fun _=>more) (fun _=>ai (fun _=>more) (fun _=>ai (fun _=>more) (fun _=>go o (by omega))))));have af:=bN g1;refine aM nw rfl (gE af) ?_;refine aeI (m:=q) (by omega) hT fun b l' mo=>aD ?_ ?_
  ·dsimp only;rw [DR];simp;omega
  ·dsimp only;rw [w1 (by omega),←ev];exact adQ q hq e9 fH gI ho h hb hT l hl c (i+1) (o++l') (by omega) (by omega) (by simp;omega)
theorem adR (q:Nat) (hq:30010≤q) (e9:ps.length≤100) (fH:∀p∈ps,p.rs.length≤100) (gI:ay.length≤100) {s:PS} (ho:mJ s) (h:∀e,Wp (K (e,())) Q) {bb:Bool} {bd:List BB} (hb:bd.length≤200) {p:PC} (hT:jj p.tm) {lb:Bool} (l:List Int) (hl:l.length≤20000):∀(c i:Nat),l.length - i < c→i≤l.length→
  Wp (Lh (T q) q c bb (bd.map aL) (GR b1 b2 b3 ps r2 ay) (tP p) (tS s) true [] lb (l.map bF) (ae (l.map bF).length) (i:Int)) (J iM K Q)
 | 0,i,hc,_=>by omega
 | c+1,i,hc,hi=>by
  obtain ⟨r,hr⟩:=bl 1 q;have e1:Lg (T q) q q=Lg (T q) q (r+1):=by rw [←hr]
  have e2:Gq (T q) q q=Gq (T q) q (r+1):=by rw [←hr]
  have go:Wp (pK (T q) q q bb (bd.map aL) (GR b1 b2 b3 ps r2 ay) (tP p) (tS s) [[.str s.nm]]) (J iM K Q):=adP q hq e9 fH gI ho h hb [s.nm] (by simp);refine aC am9 (ai (fun g1=>?_) (fun _=>ai (fun _=>aD rfl go) (fun _=>ai (fun _=>aD rfl go) (fun _=>ai (fun _=>aD rfl go) (fun _=>?_)))))
  ·have af:=bN g1;refine aM nw rfl (gE af) ?_;refine aeI (m:=q) (by omega) hT fun b l' mo=>aD ?_ ?_
   ·dsimp only;rw [DR];simp;omega
   ·dsimp only;rw [w1 (by omega)];refine ai (fun g=>?_) (fun g=>?_)
    ·rw [show l'.map aL=[] by simpa using g];exact adR q hq e9 fH gI ho h hb hT l hl c (i+1) (by omega) (by omega)
    ·exact adQ q hq e9 fH gI ho h hb hT l hl c (i+1) l' (by omega) (by omega) (by omega)
  ·rw [e1];refine aC am8 ?_;rw [e2];exact aC am6 (eh rfl (adS q (by omega) e9 fH gI ho h hb))
theorem aq0 (hm:30020≤m) (e9:ps.length≤100) (fH:∀p∈ps,p.rs.length≤100) (gI:ay.length≤100) {s:PS} (ho:mJ s) (h:∀e,Wp (K (e,())) Q) {bb:Bool} {bd:List BB} (hb:bd.length≤200) {p:PC} (hT:jj p.tm) :
  Wp (Ik (T m) b1 (ps.map cX) b2 r2 b3 (ay.map dS) p.nm p.pb (p.pm.map eJ) p.tb (p.tm.map bz) p.sb (p.ss.map cT) s.kd s.nm s.pr s.lb s.pc s.tm s.gt (s.ag.map bF) s.ct (s.cs.map eC) s.wb (s.ws.map cW) s.nx bb (bd.map aL) K) Q:=by
 obtain ⟨m,rfl⟩:=cG hm;exact bJ ahC (aeF (m:=m) (by omega) ho fun b l hl=>adR m (by omega) e9 fH gI ho h hb hT l hl m 0 (by omega) (by omega))
end
end
section
open Go Go.ax QQ
def vD (o:Option (List BB)):List BB:=o.getD []
def gD (o:Option (List BB)):Tag:=match o with | none=>.im true | some _=>.own
def cD (o:Option (List BB)):List D:=[.sl (gD o) 1 ((vD o).map aL)]
theorem TB {l:List (Option (List BB))} {i:Nat} (h:i < l.length) {v:List BB}:bY (l.map cD) (0+i) 0 (.sl .own 1 (v.map aL))=(l.set i (some v)).map cD:=by
 have:(l.map cD).getD (0+i) []=cD l[i]:=by simp [List.getD,h]
 unfold bY;rw [this,de,A3];rfl
theorem ac4 {l:List (Option (List BB))} {i:Nat} (h:i < l.length) {v:List BB}:bY (bY (l.map cD) (0+i) 0 .dead) (0+i) 0 (.sl .own 1 (v.map aL))=(l.set i (some v)).map cD:=by
 rw [←TB h];unfold bY;have e:(((l.map cD).set (0+i) (((l.map cD).getD (0+i) []).set 0 .dead)).getD (0+i) [])=((l.map cD).getD (0+i) []).set 0 .dead:=by
  simp [List.getD,h]
 rw [e,Vd,Vd]
def SB (l:List (Option (List BB))) (n:Nat):Prop:=l.length=n∧∀k o,l[k]? = some o→(vD o).length≤10+k
theorem SB.set {l:List (Option (List BB))} {n k:Nat} {v:List BB} (h:SB l n) (hv:v.length≤10+k):SB (l.set k (some v)) n:=by
 refine ⟨by simpa using h.1,fun j o hj=>?_⟩;by_cases e:k=j
 ·subst e;by_cases hk:k < l.length
  ·rw [yM hk] at hj;cases hj;exact hv
  ·rw [pY (by simp;omega)] at hj;cases hj
 ·rw [qS e] at hj;exact h.2 j o hj
theorem aiT (l:List BB):sw (l.map aL)=true:=by
 simp [sw,aL,D.flat]
section
variable {m:Nat} {Q:V→List (List C)→Prop} {b1 b2 b3:Bool} {ps:List PR} {r2:RR} {ay:List PC} {K:dv.T→OR}
theorem Bt {l:List (Option (List BB))} {i:Nat} (h:i < l.length):(l.map cD)[0+i]? = some (cD l[i]):=by
 rw [de,bQ,gE h];rfl
theorem Xg {l:List (Option (List BB))} {i:Nat} (h:i < l.length) {z:Int} (hz:z=(i:Int)) {F:Bool→List D→au [.sl 1]→OR} {G:Nat→au [.sl 1]→OR} (hF:gD l[i] = .im true→vD l[i]=[]→Wp (F true (cD l[i]) ((.im true,[]),())) Q) (hG:gD l[i] = .own→Wp (G i ((.own,(vD l[i]).map aL),())) Q) :
  Wp (aH (cm z) fun rC=>gd (decide (rC < (l.map cD).length)) (aH ((l.map cD)[0+rC]?) fun oW=>gd (decide (0+1≤oW.length)) (cw [.sl 1] (List.take 1 (List.drop 0 oW)) fun fJ=>zZ fJ.1.1 fun t38=>zM t38 (fun b=>F b oW fJ) (G rC fJ)))) Q:=by
 refine ig hz (aD (aX (by simpa using h)) (fm (Bt h) (aD rfl (iA (v:=((gD l[i],(vD l[i]).map aL),())) rfl ?_))));cases hx:l[i] with
 | none=>rw [hx] at hF;exact eZ (hF rfl rfl)
 | some o=>rw [hx] at hG;exact jc (hG rfl)
theorem Bu {l:List (Option (List BB))} {i:Nat} (h:i < l.length) (ho:gD l[i] = .own) {F:RR→OR} (hF:Wp (F ((vD l[i]).map aL)) Q) :
  Wp (aH ((l.map cD)[0+i]?) fun Sq=>aH (Sq[0]?) fun Sr=>iY Sr fun UM Mg=>gd (UM==1) (F Mg)) Q:=
 fm (Bt h) (fm (b:=.sl .own 1 ((vD l[i]).map aL)) (by rw [←ho];rfl) (UF (aD rfl hF)))
theorem Xh {l:List (Option (List BB))} {i:Nat} (h:i < l.length) {z:Int} (hz:z=(i:Int)) {F:Nat→OR} (hF:Wp (F i) Q) :
  Wp (aH (cm z) fun wc=>gd (decide (wc < (l.map cD).length)) (aH ((l.map cD)[0+wc]?) fun Ao=>gd (decide (0+1≤Ao.length)&&true) (cw [.any] (List.take 1 (List.drop 0 Ao)) fun v49=>F wc))) Q:=
 ig hz (aD (aX (by simpa using h)) (fm (Bt h) (aD rfl (iA (v:=(.sl (gD l[i]) 1 ((vD l[i]).map aL),())) rfl hF))))
theorem Xe {l:List (Option (List BB))} {i:Nat} (h:i < l.length):(bY (l.map cD) (0+i) 0 D.dead)[0+i]? = some [.dead]:=by
 have:(l.map cD).getD (0+i) []=cD l[i]:=by simp [List.getD,h]
 unfold bY;rw [this];simp [h,cD]
variable (e9:ps.length≤100) (fH:∀p∈ps,p.rs.length≤100) (gI:ay.length≤100) {p:PC} (hp:gQ p) (mn:p.ss.length≤80) (xm:SF p.ss) (hF:ou K Q) (h:Wp (K ((0,0,0,()),())) Q) {a0:Nat} {a2:au eN}
include hp mn xm hF h in
theorem adh (q:Nat) (hq:30030≤q) {c0 n:Nat} {s:PS} (hs:p.ss[n]? = some s) {mb nb:Bool} {mr:List BB} (hm:mr.length=(bq s).length)
  (hZ:∀l,SB l p.ss.length→Wp (Gn (T q) q c0 (a0:Int) (GR b1 b2 b3 ps r2 ay) a2 (tP p) (l.map cD) p.sb (p.ss.map cT) (ae (p.ss.map cT).length) ((n+1:Nat):Int)) (J dv K Q)):∀(c j:Nat) (l:List (Option (List BB))),(bq s).length - j < c→j≤(bq s).length→SB l p.ss.length→
  Wp (xQ (T q) q c0 c (a0:Int) (GR b1 b2 b3 ps r2 ay) a2 (tP p) (l.map cD) p.sb (p.ss.map cT) (ae (p.ss.map cT).length) (n:Int) (n:Int) mb (mr.map aL) nb ((bq s).map bF) (ae ((bq s).map bF).length) (j:Int)) (J dv K Q)
 | 0,j,l,hc,_,_=>by omega
 | c+1,j,l,hc,hj,hl=>by
  have hn:n < p.ss.length:=(cA.1 hs).1;have mz:(bq s).length≤100:=by
   unfold bq;split
   ·simp
   ·simpa using (hp.s2 s (fp hs)).2.2.2
  refine aC amS (ai (fun g1=>?_) (fun _=>?_))
  ·have af:=bN g1;have hg:(bq s)[j]? = some (bq s)[j]:=gE af;obtain ⟨k,hk,ui,ku⟩:=xm.e n s _ hs (fp hg);have nl:n < l.length:=by rw [hl.1];exact hn
   have kl:k < l.length:=by rw [hl.1];exact ku
   obtain ⟨r,hr⟩:=bl 1 q;have e2:C0 (T q) q c0 c q=C0 (T q) q c0 c (r+1):=by rw [←hr]
   have Cu:=hl.2 n _ (gE nl);generalize hv:vD l[n]=v at Cu;refine aM nw rfl hg ?_;dsimp only;rw [hk];have go:Wp (C0 (T q) q c0 c q (a0:Int) (GR b1 b2 b3 ps r2 ay) a2 (tP p) (bY (l.map cD) (0+k) 0 (.sl .own 1 (v.map aL))) p.sb (p.ss.map cT) (ae (p.ss.map cT).length) (n:Int) (n:Int) mb (mr.map aL) nb ((bq s).map bF) (ae ((bq s).map bF).length) (j:Int) (j:Int) (k:Int)) (J dv K Q):=by
    rw [TB kl,e2];have dO:SB (l.set k (some v)) p.ss.length:=hl.set (by omega);have nx:∀l,SB l p.ss.length→Wp (xQ (T q) q c0 c (a0:Int) (GR b1 b2 b3 ps r2 ay) a2 (tP p) (l.map cD) p.sb (p.ss.map cT) (ae (p.ss.map cT).length) (n:Int) (n:Int) mb (mr.map aL) nb ((bq s).map bF) (ae ((bq s).map bF).length) (ao ((j:Int)+1))) (J dv K Q):=by
     intro l hl;rw [w1 (by omega)];exact adh q hq hs hm hZ c (j+1) l (by omega) (by omega) hl
    have FU:k < (l.set k (some v)).length:=by simpa using kl
    have Qk:(l.set k (some v))[k]=some v:=by simp
    have Zl:mr[j]? = some (mr[j]'(by omega)):=gE (by omega);refine aC amT (UE rfl Zl (ai (fun _=>?_) (fun _=>nx _ dO)));have own:gD (l.set k (some v))[k] = .own:=by rw [Qk];rfl
    have val:vD (l.set k (some v))[k]=v:=by rw [Qk];rfl
    refine ig rfl (aD (aX (by simpa using kl)) (fm (Bt FU) (aD rfl (iA (v:=(v.map aL,())) (by rw [Qk];rfl) (UE rfl Zl (Bu FU own (aD ?_ (ig rfl (aD (aX (by simpa using kl)) (aD (Nat.beq_refl _) (Bu FU own (fm (Xe FU) (aD rfl (iA (v:=(.dead,())) rfl ?_))))))))))))))
    ·rw [val];exact ia (by simp;omega) (by omega)
    ·rw [val,dj];have:v.map aL++[[D.str []]].set 0 [D.str (mr[j]'(by omega))]=(v++[mr[j]'(by omega)]).map aL:=by rw [ev];rfl
     dsimp only;rw [this,ac4 FU];exact nx _ (dO.set (by simp;omega))
   refine Xg nl rfl (fun g g'=>?_) (fun g=>Bu nl g ?_)
   ·rw [g'] at hv;subst hv;exact aD rfl (Xh kl rfl go)
   ·have e:List.take ((vD l[n]).map aL).length (List.drop 0 ((vD l[n]).map aL))=v.map aL:=by rw [hv,yK,A5]
    dsimp only;rw [e];refine aD ?_ (aD ?_ (Xh kl rfl go))
    ·rw [aiT];simp
    ·rw [DR];simp;omega
  ·rw [w1 (by omega)];exact hZ l hl
include e9 fH gI hp mn xm hF h in
theorem adg (q:Nat) (hq:30030≤q):∀(c n:Nat) (l:List (Option (List BB))),p.ss.length - n < c→n≤p.ss.length→SB l p.ss.length→
  Wp (Gn (T q) q c (a0:Int) (GR b1 b2 b3 ps r2 ay) a2 (tP p) (l.map cD) p.sb (p.ss.map cT) (ae (p.ss.map cT).length) (n:Int)) (J dv K Q)
 | 0,n,l,hc,_,_=>by omega
 | c+1,n,l,hc,hn,hl=>by
  refine aC amR (ai (fun g1=>?_) (fun _=>az (aE rfl h)));have af:=bN g1;have hs:p.ss[n]? = some p.ss[n]:=gE af;generalize p.ss[n]=s at hs;have ho:=hp.s2 s (fp hs);have nl:n < l.length:=by rw [hl.1];exact af
  have Cu:=hl.2 n _ (gE nl);generalize hv:vD l[n]=v at Cu;refine aM (enc:=cT) (f:=tS) (fun a=>⟨by simp [cT],rfl⟩) rfl hs ?_;have go:∀bb,Wp (Ik (T q) b1 (ps.map cX) b2 r2 b3 (ay.map dS) p.nm p.pb (p.pm.map eJ) p.tb (p.tm.map bz) p.sb (p.ss.map cT) s.kd s.nm s.pr s.lb s.pc s.tm s.gt (s.ag.map bF) s.ct (s.cs.map eC) s.wb (s.ws.map cW) s.nx bb (v.map aL) fun v28=>(bif (v28.1 != 0) then (c46 (T q) v28.1 (a0:Int) (n:Int) fun jb=>(some ((.agg [(iC jb.1.1),(iC jb.1.2.1),(iC jb.1.2.2.1)]),[]))) else (za (T q) s.kd s.nm s.pr s.lb s.pc s.tm s.gt (s.ag.map bF) s.ct (s.cs.map eC) s.wb (s.ws.map cW) s.nx fun v30=>(Bq (T q) s.kd s.nm s.pr s.lb s.pc s.tm s.gt (s.ag.map bF) s.ct (s.cs.map eC) s.wb (s.ws.map cW) s.nx fun v31=>(xQ (T q) q c q (a0:Int) (GR b1 b2 b3 ps r2 ay) a2 (tP p) (l.map cD) p.sb (p.ss.map cT) (ae (p.ss.map cT).length) (n:Int) (n:Int) v30.1.1 v30.1.2 v31.1.1 v31.1.2 (ae v31.1.2.length) 0))))) (J dv K Q):=by
   intro bb;refine aq0 (m:=q) (by omega) e9 fH gI ho (fun e=>?_) (by omega) hp.t2;refine ai (fun g=>nh hF (by omega) (D3.1 g)) (fun _=>ael (m:=q) (by omega) ho fun mb mr hm=>Uw (m:=q) (by omega) ho fun nb=>?_);have mz:(bq s).length≤100:=by
    unfold bq;split
    ·simp
    ·simpa using ho.2.2.2
   exact adh hp mn xm hF h q hq hs hm (fun l hl=>adg q hq c (n+1) l (by omega) (by omega) hl) q 0 l (by omega) (by omega) hl
  refine Xg nl rfl (fun g g'=>?_) (fun g=>Bu nl g (aD (by simp) ?_))
  ·rw [g'] at hv;subst hv;exact go true
  ·have e:aV (List.take ((vD l[n]).map aL).length (List.drop 0 ((vD l[n]).map aL)))=v.map aL:=by rw [hv,yK,A5,qG]
   dsimp only;rw [e];exact go false
include e9 fH gI hp mn xm hF h in
theorem adi (q:Nat) (hq:30030≤q):∀(c i:Nat) (l:List (Option (List BB))),p.pm.length - i < c→i≤p.pm.length→SB l p.ss.length→(∀o,l[0]? = some o→(vD o).length≤i)→
  Wp (Ai (T q) q c (a0:Int) (GR b1 b2 b3 ps r2 ay) a2 (tP p) (l.map cD) p.pb (p.pm.map eJ) (ae (p.pm.map eJ).length) (i:Int)) (J dv K Q)
 | 0,i,l,hc,_,_,_=>by omega
 | c+1,i,l,hc,hi,hl,h0=>by
  refine aC amU (ai (fun g1=>?_) (fun _=>adg e9 fH gI hp mn xm hF h q hq q 0 l (by omega) (by omega) hl));have af:=bN g1;have h2:=hp.p1;have zl:0 < l.length:=by rw [hl.1];exact hp.s0
  have z1:decide (Int.toNat 0 < (l.map cD).length)=true:=aX (by simpa using zl);have Cu:=h0 _ (gE zl);have nx:∀v:List BB,v.length≤i+1→Wp (Ai (T q) q c (a0:Int) (GR b1 b2 b3 ps r2 ay) a2 (tP p) ((l.set 0 (some v)).map cD) p.pb (p.pm.map eJ) (ae (p.pm.map eJ).length) (ao ((i:Int)+1))) (J dv K Q):=by
   intro v hv;rw [w1 (by omega)];refine adi q hq c (i+1) _ (by omega) (by omega) (hl.set (by omega)) (fun o ho=>?_);rw [yM zl] at ho;cases ho;exact hv
  refine aM G4 rfl (gE af) ?_;refine aD z1 (fm (Bt zl) (aD rfl (iA (v:=((gD l[0],(vD l[0]).map aL),())) rfl ?_)));cases hx:gD l[0] with
  | im b=>
   have hb:b=true:=by
    cases hy:l[0] with
    | none=>rw [hy] at hx;cases hx;rfl
    | some o=>rw [hy] at hx;cases hx
   subst hb;refine eZ (aD rfl (aD z1 (fm (Bt zl) (aD rfl (iA (v:=(.sl (gD l[0]) 1 ((vD l[0]).map aL),())) rfl ?_)))));have:=nx [p.pm[i].1] (by simp);rw [←TB zl] at this;exact this
  | own=>
   refine jc (Bu zl hx (aD (ia (by simp;omega) (by omega)) (aD z1 (Bu zl hx (fm (Xe zl) (aD rfl (iA (v:=(.dead,())) rfl ?_)))))));have:=nx (vD l[0]++[p.pm[i].1]) (by simp;omega);rw [←ac4 zl,ev] at this;rw [dj];exact this
end
section
variable {m:Nat} {Q:V→List (List C)→Prop}
theorem aqW (hm:30040≤m) {b1 b2 b3:Bool} {ps:List PR} {r2:RR} {ay:List PC} {K:dv.T→OR} (e9:ps.length≤100) (fH:∀p∈ps,p.rs.length≤100) (gI:ay.length≤100) {p:PC} {i:Nat} (hi:ay[i]? = some p) (hp:gQ p) (mn:p.ss.length≤80) (xm:SF p.ss) (hF:ou K Q) (h:Wp (K ((0,0,0,()),())) Q) :
  Wp (WW (T m) b1 (ps.map cX) b2 r2 b3 (ay.map dS) (i:Int) K) Q:=by
 obtain ⟨m,rfl⟩:=cG hm;have h2:=hp.p1;refine bJ ahA (aM (enc:=dS) (f:=tP) (fun a=>⟨by simp [dS],rfl⟩) rfl hi (aD ?_ ?_))
 ·have:(p.ss.map cT).length=p.ss.length:=by simp
  show (decide ((p.ss.map cT).length≤(p.ss.map cT).length)&&decide ((p.ss.map cT).length * 24≤_)&&decide ((p.ss.map cT).length≤_)&&true&&(!(p.ss.map cT).length==0||(p.ss.map cT).length==0))=true;rw [this];simp;omega
 ·show Wp (Ai (T m) m m (i:Int) (GR b1 b2 b3 ps r2 ay) (0,0,0,()) (tP p) (List.replicate (p.ss.map cT).length [D.sl (.im true) 1 []]) p.pb (p.pm.map eJ) (ae (p.pm.map eJ).length) 0) _;have e:List.replicate (p.ss.map cT).length [D.sl (.im true) 1 []]=(List.replicate p.ss.length none).map cD:=by simp [cD,gD,vD]
  rw [e];have hv:∀(k:Nat) o,(List.replicate p.ss.length (none:Option (List BB)))[k]? = some o→(vD o).length=0:=by
   intro k o ho;rw [U6] at ho;split at ho
   ·cases ho;rfl
   ·cases ho
  exact adi e9 fH gI hp mn xm hF h m (by omega) m 0 _ (by omega) (by omega) ⟨by simp,fun k o ho=>by rw [hv k o ho];omega⟩ (fun o ho=>by rw [hv 0 o ho];omega)
end
end
section
open Go Go.ax QQ
abbrev GT (b1 b2 b3:Bool) (ps:List PR) (r2:RR) (ay:List PC):au j9:=((.im b1,ps.map cX),(.im b2,r2),(.im b3,ay.map dS),())
structure LK where
 b:Bool
 nm:BB
 ts:List TN
def il (l:LK):List D:=[.str l.nm,.sl (.im l.b) 3 (l.ts.map cN)]
def s7 (l:LK):Prop:=l.nm=[122,122]∧uD l.ts
section
variable {m:Nat} {Q:V→List (List C)→Prop} {b1 b2 b3:Bool} {ps:List PR} {r2:RR} {ay:List PC}
theorem ac9 (q:Nat) (hq:150≤q) {ls:List LK} (gg:ls.length≤100) (hg:∀l∈ls,s7 l) {K:dv.T→OR} (hF:ou K Q) (h:Wp (K ((0,0,0,()),())) Q) {a1:au eN}:∀(c i:Nat),ls.length - i < c→i≤ls.length→
  Wp (KT (T q) q c a1 b2 (ls.map il) (ae (ls.map il).length) (i:Int)) (J dv K Q)
 | 0,i,hc,_=>by omega
 | c+1,i,hc,hi=>by
  refine aC amw (ai (fun g1=>?_) (fun _=>az (aE rfl h)));have af:=bN g1;obtain ⟨hn,h1,h6,ho⟩:=hg _ (bM af);refine aM (enc:=il) (f:=fun l=>(l.nm,(l.b,l.ts.map cN),())) (fun a=>⟨by simp [il],rfl⟩) rfl (gE af) ?_;have t:=MO q (by omega) ls[i].b ls[i].nm h1 (by omega) fun p hp=>abD (ho p hp)
  refine kb (x:=(true,())) t rfl (eh rfl (ie (m:=q) (by omega) ?_));dsimp only;rw [hn,w1 (by omega)];exact eh rfl (ac9 q hq gg hg hF h c (i+1) (by omega) (by omega))
theorem ac' (q:Nat) (hq:150≤q) {gs:List GP} {ls:List LK} (gg:ls.length≤100) (ly:∀l∈ls,s7 l) (gu:gs.length≤100) (hg:∀g∈gs,ky g) {K:dv.T→OR} (hF:ou K Q) (h:Wp (K ((0,0,0,()),())) Q) {bb:Bool} {a1:au eN}:∀(c i:Nat),gs.length - i < c→i≤gs.length→
  Wp (KU (T q) q c (GR b1 b2 b3 (gs.map eo) (ls.map il) ay) a1 bb ((gs.map eo).map cX) (ae ((gs.map eo).map cX).length) (i:Int)) (J dv K Q)
 | 0,i,hc,_=>by omega
 | c+1,i,hc,hi=>by
  refine aC amx (ai (fun g1=>?_) (fun _=>?_))
  ·have vC:=bN g1;have af:i < gs.length:=by simpa using vC
   have ok:=hg _ (bM af);refine aM Mj rfl (a:=eo gs[i]) (by rw [bQ,gE af];rfl) ?_;have hn:(gs[i]).nm∈lD:=by rcases ok.1 with e | e<;>rw [e]<;>decide
   have t:=YK hn q (by omega) false false ok.2;rw [Dw] at t;refine kb (x:=(true,())) t rfl (eh rfl ?_);rw [w1 (by omega)];exact ac' q hq gg ly gu hg hF h c (i+1) (by omega) (by omega)
  ·exact ac9 q hq gg ly hF h q 0 (by omega) (by omega)
theorem aqT (hm:160≤m) {gs:List GP} {ls:List LK} (gg:ls.length≤100) (ly:∀l∈ls,s7 l) (gu:gs.length≤100) (hg:∀g∈gs,ky g) {K:dv.T→OR} (hF:ou K Q) (h:Wp (K ((0,0,0,()),())) Q):Wp (WT (T m) b1 ((gs.map eo).map cX) b2 (ls.map il) b3 (ay.map dS) K) Q:=by
 obtain ⟨m,rfl⟩:=cG hm;obtain ⟨r,hr⟩:=bl 1 m;have e0:KV (T m) m m=KV (T m) m (r+1):=by rw [←hr]
 have fl:=nh hF (m:=m) (by omega) (e:=1500) (a:=-1) (b:=-1) (by decide);refine bJ ahp (ai (fun _=>fl) (fun _=>ai (fun _=>fl) (fun _=>ai (fun _=>fl) (fun _=>?_))));rw [e0];exact aC amy (ac' m (by omega) gg ly gu hg hF h m 0 (by omega) (by omega))
theorem XM (q:Nat) (hq:30050≤q) {r1:RR} (jX:r1=ps.map cX) (cL:ay.length≤20) (hp:∀p∈ay,gQ p) {K:Mx.T→OR} (hf:∀e a b,e≠0→Wp (K ((e,a,b,()),GR b1 b2 b3 ps r2 ay,((),()),())) Q)
  (h:(∀p∈ay,HD p∧SF p.ss)→Wp (K ((0,0,0,()),GR b1 b2 b3 ps r2 ay,((),()),())) Q) {x0:au c7} {x1 a1:au jO} {a2:au eN}:∀(c i:Nat) (a1:au jO),ay.length - i < c→i≤ay.length→(∀(j:Nat) p,j < i→ay[j]? = some p→HD p∧SF p.ss)→
  Wp (KO (T q) q x0 x1 c (GT b1 b2 b3 ps r2 ay) a1 a2 (ae (ay.map dS).length) (i:Int)) (J Mx K Q)
 | 0,i,a1,hc,_,_=>by omega
 | c+1,i,a1,hc,hi,aQ=>by
  refine aC amo (ai (fun g1=>?_) (fun g1=>az (aE rfl (h fun p hp=>?_))))
  ·have af:=bN g1;have hg:ay[i]? = some ay[i]:=gE af;have ok:=hp _ (bM af);obtain ⟨r,hr⟩:=bl 3 q;have e0:KP (T q) q x0 x1 c q=KP (T q) q x0 x1 c (r+2+1):=by rw [show r+2+1=q by omega]
   rw [e0];have fail:∀{X:OR},∀e a b,e≠0→Wp (bif (e != 0) then (some ((.agg [(iC e),(iC a),(iC b)]),[(bx j9 (GT b1 b2 b3 ps r2 ay)),(bx jO ((),()))])) else X) (J Mx K Q):=fun e a b he=>gl (D3.2 he) (az (aE rfl (hf e a b he)))
   refine aC amp (eZ (eZ (eZ ?_)));refine aqY (m:=q) (by omega) (by omega) hg ok fail fun hd=>eh rfl ?_
   refine aC amq (eZ (eZ (eZ ?_)));refine aqX (m:=q) (by omega) (by exact fail) hg ok hd.hs hd.ht fun hsf=>eh rfl ?_
   refine aC amr ?_;rw [w1 (by omega)];refine XM q hq jX cL hp hf h (a1:=a1) c (i+1) _ (by omega) (by omega) fun j p hj QJ=>?_
   by_cases Fj:j < i
   ·exact aQ j p Fj QJ
   ·rw [show j=i by omega,hg] at QJ;cases QJ;exact ⟨hd,hsf⟩
  ·have:=xl g1;obtain ⟨j,hj,rfl⟩:=DZ hp;exact aQ j _ (by omega) (gE hj)
theorem XO (q:Nat) (hq:30050≤q) (e9:ps.length≤100) (fH:∀p∈ps,p.rs.length≤100) (cL:ay.length≤20) (hp:∀p∈ay,gQ p) (hh:∀p∈ay,HD p∧SF p.ss) {K:My.T→OR} (hf:∀e a b,e≠0→Wp (K ((e,a,b,()),GR b1 b2 b3 ps r2 ay,((),()),())) Q)
  (h:Wp (K ((0,0,0,()),GR b1 b2 b3 ps r2 ay,((),()),())) Q) {x0:au c7} {x1:au la} {a2:au eN}:∀(c i:Nat) (a1:au la),ay.length - i < c→i≤ay.length→
  Wp (KQ (T q) q x0 x1 c (GT b1 b2 b3 ps r2 ay) a1 a2 (ae (ay.map dS).length) (i:Int)) (J My K Q)
 | 0,i,a1,hc,_=>by omega
 | c+1,i,a1,hc,hi=>by
  refine aC ams (ai (fun g1=>?_) (fun g1=>az (aE rfl h)));have af:=bN g1;have hg:ay[i]? = some ay[i]:=gE af;have hm:=bM af;obtain ⟨r,hr⟩:=bl 3 q;have e0:KR (T q) q x0 x1 c q=KR (T q) q x0 x1 c (r+2+1):=by rw [show r+2+1=q by omega]
  rw [e0];have fail:∀{X:OR},∀e a b,e≠0→Wp (bif (e != 0) then (some ((.agg [(iC e),(iC a),(iC b)]),[(bx j9 (GT b1 b2 b3 ps r2 ay)),(bx la ((),()))])) else X) (J My K Q):=fun e a b he=>gl (D3.2 he) (az (aE rfl (hf e a b he)))
  refine aC amt (eZ (eZ (eZ ?_)));refine aqW (m:=q) (by omega) e9 fH (by omega) hg (hp _ hm) (hh _ hm).1.hs (hh _ hm).2 fail (eh rfl ?_);refine aC amu ?_;rw [w1 (by omega)];exact XO q hq e9 fH cL hp hh hf h c (i+1) _ (by omega) (by omega)
def CkK (ay:List PC) (K:dv.T→OR) (Q:V→List (List C)→Prop):Prop:=ou K Q∧((∀p∈ay,HD p∧SF p.ss)→Wp (K ((0,0,0,()),())) Q)
theorem aqG (hm:30060≤m) {gs:List GP} {ls:List LK} (gg:ls.length≤100) (ly:∀l∈ls,s7 l) (gu:gs.length≤100) (hg:∀g∈gs,ky g) (cL:ay.length≤20) (hp:∀p∈ay,gQ p) {K:dv.T→OR} (hK:CkK ay K Q):Wp (c12 (T m) b1 ((gs.map eo).map cX) b2 (ls.map il) b3 (ay.map dS) K) Q:=by
 obtain ⟨m,rfl⟩:=bl 2 m;obtain ⟨r,hr⟩:∃r,m+1=r+5:=⟨m - 4,by omega⟩
 have e0:KN (T (m+1)) (m+1) (m+1)=KN (T (m+1)) (m+1) (r+4+1):=by rw [show r+4+1=m+1 by omega]
 have ajF:(gs.map eo).length≤100:=by simpa using gu
 have Ql:∀p∈gs.map eo,p.rs.length≤100:=by
  intro p hp;obtain ⟨g,qm,rfl⟩:=iD.1 hp;have:=(hg g qm).2.2.1;simp [eo];omega
 obtain ⟨hF,h⟩:=hK;refine bJ ahh ?_;refine bJ ahi (az (aE rfl ?_));refine bJ ahl (az (aE rfl ?_));rw [e0];have fail:∀{X:OR} (e a b:Int),e≠0→Wp (bif (e != 0) then (some ((.agg [(iC e),(iC a),(iC b)]),[])) else X) (J dv K Q):=fun e a b he=>gl (D3.2 he) (az (aE rfl (hF e a b he)))
 refine aC amj ?_;have Hg:Wp (RH (T (m+1)) (m+1) (r+4) (GR b1 b2 b3 (gs.map eo) (ls.map il) ay) (0,0,0,()) ((),()) ((),())) (J dv K Q):=by
  refine aC amk (bJ ahj (XM (b1:=b1) (b2:=b2) (b3:=b3) (ps:=gs.map eo) (r2:=ls.map il) m (by omega) rfl cL hp (fun e a b he=>fail e a b he) (fun hh=>eh rfl ?_) (a1:=((),())) m 0 _ (by omega) (by omega) (fun j p hj=>by omega)));have st4:∀x:au eN,Wp (RI (T (m+1)) (m+1) (r+2) (GR b1 b2 b3 (gs.map eo) (ls.map il) ay) x ((),()) ((),())) (J dv K Q):=by
   intro x;refine aC amm (bJ ahk (XO (b1:=b1) (b2:=b2) (b3:=b3) (ps:=gs.map eo) (r2:=ls.map il) m (by omega) ajF Ql cL hp hh (fun e a b he=>fail e a b he) (eh rfl ?_) m 0 _ (by omega) (by omega)));exact aC amn (az (aE rfl (h hh)))
  refine aC aml (bJ ahn ?_);have no:∀{F:Mw.T→OR} {Q':V→List (List C)→Prop},(∀e a b,e≠0→Wp (F ((e,a,b,()),GR b1 b2 b3 (gs.map eo) (ls.map il) ay,())) Q')→Wp (c46 (T m) 1504 (-1) (-1) fun v1=>(some ((.agg [(iC v1.1.1),(iC v1.1.2.1),(iC v1.1.2.2.1)]),[(bx j9 (GT b1 b2 b3 (gs.map eo) (ls.map il) ay))]))) (J Mw F Q'):=fun hk=>aeq (by omega) (az (aE rfl (hk _ _ _ (by decide))))
  refine M7 (m:=m) (by omega) (by omega) (gl rfl (no fun e a b he=>fail e a b he)) (fun i hi=>eh (show decide ((i:Int) < 0)=false from bR (by omega)) ?_);refine aM acE rfl (gE hi) (ai (fun _=>no fun e a b he=>fail e a b he) (fun _=>az (aE rfl (eh rfl (st4 _)))))
 refine bJ ahm (aqT (m:=m) (by omega) gg ly gu hg (fun e a b he=>az (aE rfl (fail e a b he))) (az (aE rfl (eh rfl Hg))))
end
end
section
open Go Go.ax PT
theorem apl (m:Nat):((List.range 52).map fun d:Nat=>T (m+60) 149 [.one (sC [32,32]),.one (iC (d:Int))] [])=(List.range 52).map fun d=>some (.one (sC (List.replicate (2 * d) 32)),[]):=by kernel_rfl
end
section
open Go Go.ax PT
open QQ (hC strs lQ OB bF nw)
structure LN where
 d:Nat
 s:List UInt8
def rz (l:LN):List UInt8:=List.replicate (2 * l.d) 32++l.s++[10]
def fu (l:List LN):List UInt8:=l.flatMap rz
theorem vV (a b:List LN):fu (a++b)=fu a++fu b:=U3
theorem vW (a:LN) (b:List LN):fu (a::b)=rz a++fu b:=rfl
theorem uz (l:LN):(rz l).length=2 * l.d+l.s.length+1:=by simp [rz];omega
theorem rp {m d:Nat} (hm:60≤m) (hd:d < 52):T m 149 [.one (sC [32,32]),.one (iC (d:Int))] []=some (.one (sC (List.replicate (2 * d) 32)),[]):=by
 obtain ⟨m,rfl⟩:=bl 60 m;have:=fU (fun l=>l[d]?) (apl m);simp only [bQ,HE hd,ff] at this;exact tM this
section
variable {m:Nat} {Q:V→List (List C)→Prop} {s t:List UInt8}
theorem UB (hm:2≤m) (hl:t.length+s.length≤100000000000000) {K:TA.T→OR} (h:∀n,Wp (K ((n,true,()),bB (t++s),())) Q):Wp (du (T m) s (bB t) K) Q:=by
 rw [du,r4 m hm s t hl,rJ];exact h _
theorem g9 {n:Nat} (h:n≤100000000000000):n≤9223372036854775807:=by omega
theorem uR (hm:70≤m) {d:Nat} (hd:d < 52) (hl:t.length+s.length+2 * d+1≤100000000000000) {K:j7.T→OR} (h:Wp (K ((),bB (t++rz ⟨d,s⟩),())) Q):Wp (ik (T m) (d:Int) s (bB t) K) Q:=by
 obtain ⟨m,rfl⟩:=cG hm;refine bJ agn (kb (x:=(List.replicate (2 * d) 32,())) (rp (by omega) hd) rfl ?_);refine cg (g9 (by simp;omega)) (cg (g9 (by simp;omega)) (UB (m:=m) (by omega) (by simp;omega) fun n=>gl rfl (az ?_)));unfold J;rw [rK];exact h
def TxK (K:fw.T→OR) (Q:V→List (List C)→Prop) (N:Nat):Prop:=∀τ:List UInt8,NL τ→τ.length≤N→Wp (K (τ,())) Q
theorem DU (hm:300≤m) {b:Bool} {tm:List TM} (hT:jj tm) {z:Int} {K:fw.T→OR} (h:TxK K Q 330):Wp (w7 (T m) b (tm.map bz) z K) Q:=by
 have hr:∀t∈tm.map wJ,Cx t:=by
  intro t ht;obtain ⟨u,hu,rfl⟩:=iD.1 ht;obtain ⟨i,hi,rfl⟩:=DZ hu;have g:tm[i]? = some tm[i]:=gE hi;generalize tm[i]=u at g;rcases hT i u g with hl | ⟨h0,_⟩
  ·have:=hl.2.2.2;simpa [yr,Cx,wJ] using this
  ·show _≤u.n∧u.n≤_;omega
 cases Fw:sX (tm.map wJ) z with
 | false=>
  obtain ⟨m,rfl⟩:=cG hm;refine bJ XI (Uz (m:=m) (by omega) ?_);rw [Fw];exact gl rfl (az (aE rfl (h [] yV (by simp))))
 | true=>
  obtain ⟨t,ok,ha,_,_⟩:=an0 hr Fw;rw [←Om] at ha;have h3:=apO hT ha;have tx:=MT ok
  have := ap6 b (tm.map bz) ok ha (by omega) (n := m) (by omega) (fun k hk => by
    have := abl (x0 := b) (l := tm.map wJ) z k (by omega)
    rw [Fw] at this
    rw [Om]; exact this)
  exact kb (x:=(gk t,())) this rfl (h _ tx.1 (by omega))
def Nr (K:fw.T→OR) (Q:V→List (List C)→Prop):Prop:=∀τ:List UInt8,NL τ→τ.length≤34000→τ.getLast? = some 41→Wp (K (τ,())) Q
theorem Uu {l:List (List UInt8)} (hm:l.length+10≤m) {b:Bool} (hl:l.length≤200) (hy:∀y∈l,y.length≤10000000) {K:fw.T→OR} (h:Wp (K (hC l,())) Q):Wp (ow (T m) b (l.map aL) [44,32] K) Q:=
 aC (OB hm b hl hy rfl) h
theorem VR (hm:220≤m) {b:Bool} {o:List (List UInt8)} (hl:o.length≤100) (ho:∀y∈o,NL y∧y.length≤330) {K:fw.T→OR} (h:Nr K Q) :
  Wp (ow (T m) b (o.map aL) [44,32] fun v4=>(aN (1+List.length v4.1) (aN (([40]++v4.1).length+1) (some ((.one (sC ([40]++v4.1++[41]))),[]))))) (J fw K Q):=by
 have hj:=JQ (N:=330) fun y hy=>(ho y hy).2
 refine Uu (by omega) (by omega) (fun y hy=>by have:=(ho y hy).2;omega) (cg (by dsimp only;omega) (cg (by simp;omega) (az (aE rfl (h _ ?_ ?_ ?_)))))
 ·exact eH.2 ⟨eH.2 ⟨cj,FR fun y hy=>(ho y hy).1⟩,cj⟩
 ·simp;omega
 ·rw [wT];rfl
theorem VQ (q:Nat) (hq:300≤q) {p:PC} (hT:jj p.tm) {gb:Bool} {l:List Int} (hl:l.length≤100) {K:fw.T→OR} (h:Nr K Q):∀(c i:Nat) (o:List (List UInt8)),l.length - i < c→i≤l.length→o.length=i→(∀y∈o,NL y∧y.length≤330)→
  Wp (J2 (T q) q c (tP p) (o.map aL) gb (l.map bF) (ae (l.map bF).length) (i:Int)) (J fw K Q)
 | 0,i,o,hc,_,_,_=>by omega
 | c+1,i,o,hc,hi,ho,hy=>by
  refine aC akM (ai (fun g1=>?_) (fun _=>aD (by simp) ?_))
  ·have af:=bN g1;refine aM nw rfl (gE af) ?_;refine DU (m:=q) (by omega) hT fun τ h1 h2=>aD (ia (by simp;omega) (by omega)) ?_
   rw [w1 (by omega),dj]
   have := VQ q hq hT (gb := gb) hl h c (i + 1) (o ++ [τ]) (by omega) (by omega) (by simp; omega) (fun y fQ => by
     rw [dA] at fQ
     rcases fQ with fQ | fQ
     · exact hy y fQ
     · simp at fQ; subst fQ; exact ⟨h1, h2⟩)
   rw [ev] at this;exact this
  ·rw [dj,qG];exact VR (by omega) (by omega) hy h
theorem Ur (hm:310≤m) {p:PC} (hT:jj p.tm) {gb:Bool} {l:List Int} (hl:l.length≤100) {K:fw.T→OR} (h:Nr K Q):Wp (Bm (T m) p.nm p.pb (p.pm.map eJ) p.tb (p.tm.map bz) p.sb (p.ss.map cT) gb (l.map bF) K) Q:=by
 obtain ⟨m,rfl⟩:=cG hm;obtain ⟨r,hr⟩:=bl 1 m;have e0:J1 (T m) m m=J1 (T m) m (r+1):=by rw [←hr]
 refine bJ agi ?_;rw [e0];refine aC akL (ai (fun g1=>?_) (fun _=>?_))
 ·have af:=bN (i:=0) g1;refine aM nw (i:=0) rfl (gE af) ?_;refine DU (m:=m) (by omega) hT fun τ h1 h2=>aD rfl ?_
  exact VQ m (by omega) hT hl h r 1 [τ] (by omega) (by omega) rfl (fun y hy=>by simp at hy;subst hy;exact ⟨h1,h2⟩)
 ·exact VR (o:=[]) (by omega) (by simp) (fun y hy=>by cases hy) h
end
end
end Go.Proofs.YtfmpdgeiodnnfaaGreatDoor
