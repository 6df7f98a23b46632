/- A part of the proof. -/
import Derived.Test.YtfmpdgeiodnnfaaGreatDoorQ10
import Derived.Test.YtfmpdgeiodnnfaaGreatDoorQ4
import Derived.Test.YtfmpdgeiodnnfaaGreatDoorQ1
import Derived.Test.YtfmpdgeiodnnfaaGreatDoorQ9
import Derived.Test.YtfmpdgeiodnnfaaGreatDoorQ3
import Derived.ChangeSame
import Derived.RowKit
import Derived.Deep.Slices
set_option maxRecDepth 100000
set_option maxHeartbeats 2000000
set_option linter.all false
namespace Go.Proofs.YtfmpdgeiodnnfaaGreatDoor
section
open Go Go.ax PT
open QQ (hC lQ bF nw)
section
variable {m:Nat} {Q:V→List (List C)→Prop} {K:fw.T→OR}
structure TL (a b:UInt8) (s:List UInt8):Prop where
 nl:NL s
 h:s.head? = some a
 l:s.getLast? = some b
def oU (s:List UInt8):Prop:=NL s∧s.length≤12
theorem mI {s:List UInt8} (h:gK s=true):oU s:=⟨(Lw h).1,(Lw h).2.1⟩
def Sz (cs:List CR):Prop:=cs.length≤100∧∀c∈cs,c.ag.length≤100∧oU c.ro∧oU c.pc
theorem abM (hm:220≤m) {s:PS} (h1:oU s.nm) (h2:oU s.lb) (h3:oU s.pr) {b:Bool} {o:List (List UInt8)} (hl:o.length≤100) (ho:∀y∈o,NL y∧y.length≤34026) (h:∀τ,TL 111 59 τ→τ.length≤3500000→Wp (K (τ,())) Q) :
  Wp (ow (T m) b (o.map aL) [44,32] fun v4=>(aN (([111,112,101,110,32]++s.nm++[32,61,32]++s.lb++[32,97,115,32]++s.pr++[32,119,105,116,104,32]).length+List.length v4.1) (aN (([111,112,101,110,32]++s.nm++[32,61,32]++s.lb++[32,97,115,32]++s.pr++[32,119,105,116,104,32]++v4.1).length+1) (some ((.one (sC ([111,112,101,110,32]++s.nm++[32,61,32]++s.lb++[32,97,115,32]++s.pr++[32,119,105,116,104,32]++v4.1++[59]))),[]))))) (J fw K Q):=by
 have hj:=JQ (N:=34026) fun y hy=>(ho y hy).2
 have:=h1.2;have:=h2.2;have:=h3.2;refine Uu (by omega) (by omega) (fun y hy=>by have:=(ho y hy).2;omega) (cg (by simp;omega) (cg (by simp;omega) (az (aE rfl (h _ ⟨?_,rfl,by rw [wT];rfl⟩ ?_)))))
 ·simp only [eH];exact ⟨⟨⟨⟨⟨⟨⟨⟨cj,h1.1⟩,cj⟩,h2.1⟩,cj⟩,h3.1⟩,cj⟩,FR fun y hy=>(ho y hy).1⟩,cj⟩
 ·simp;omega
theorem abL (q:Nat) (hq:310≤q) {p:PC} (hT:jj p.tm) {c:CR} (hc:c.ag.length≤100∧oU c.ro∧oU c.pc) {F:List UInt8→OR} {Q':V→List (List C)→Prop} (h:∀y,NL y→y.length≤34026→Wp (F y) Q') :
  Wp (aN (List.length c.ro+2) (aN ((c.ro++[58,32]).length+List.length c.pc) (Bm (T q) p.nm p.pb (p.pm.map eJ) p.tb (p.tm.map bz) p.sb (p.ss.map cT) c.gt (c.ag.map bF) fun v3=>(aN ((c.ro++[58,32]++c.pc).length+List.length v3.1) (F (c.ro++[58,32]++c.pc++v3.1)))))) Q':=by
 have:=hc.2.1.2;have:=hc.2.2.2;refine cg (by omega) (cg (by simp;omega) (Ur (by omega) hT hc.1 fun τ h1 h2 _=>cg (by simp;omega) (h _ ?_ (by simp;omega))));simp only [eH];exact ⟨⟨⟨hc.2.1.1,cj⟩,hc.2.2.1⟩,h1⟩
theorem open_1 (q:Nat) (hq:310≤q) {p:PC} (hT:jj p.tm) {s:PS} (h1:oU s.nm) (h2:oU s.lb) (h3:oU s.pr) (hc:Sz s.cs) (h:∀τ,TL 111 59 τ→τ.length≤3500000→Wp (K (τ,())) Q):∀(c i:Nat) (o:List (List UInt8)),s.cs.length - i < c→i≤s.cs.length→o.length=i→(∀y∈o,NL y∧y.length≤34026)→
  Wp (CK (T q) q c (tP p) (tS s) (o.map aL) s.ct (s.cs.map eC) (ae (s.cs.map eC).length) (i:Int)) (J fw K Q)
 | 0,i,o,da,_,_,_=>by omega
 | c+1,i,o,da,hi,ho,hy=>by
  have:=h1.2;have:=h2.2;have:=h3.2;have hl:=hc.1;refine aC akT (ai (fun g1=>?_) (fun _=>?_))
  ·have af:=bN g1;refine aM (enc:=eC) (f:=fun c=>(c.ro,c.pc,(c.gt,c.ag.map bF),())) (fun a=>⟨by simp [eC],rfl⟩) rfl (gE af) ?_;refine abL q hq hT (hc.2 _ (bM af)) (F:=fun y=>gd ((o.map aL).length==(o.map aL).length&&true&&decide (((o.map aL).length+1) * 16≤140737488355328)) (CK (T q) q c (tP p) (tS s) (o.map aL++whole ([[D.str []]].set 0 [D.str y])) s.ct (s.cs.map eC) (ae (s.cs.map eC).length) (ao ((i:Int)+1)))) fun y hn Q5=>aD (ia (by simp;omega) (by omega)) ?_
   rw [w1 (by omega),dj]
   have := open_1 q hq hT h1 h2 h3 hc h c (i + 1) (o ++ [y]) (by omega) (by omega) (by simp; omega) (fun y' fQ => by
     rw [dA] at fQ
     rcases fQ with fQ | fQ
     · exact hy y' fQ
     · simp at fQ; subst fQ; exact ⟨hn, Q5⟩)
   rw [ev] at this;exact this
  ·have e:aV (whole (o.map aL))=o.map aL:=by rw [dj,qG]
   refine cg (by dsimp only [tS];omega) (cg (by simp [tS];omega) (cg (by simp [tS];omega) (cg (by simp [tS];omega) (cg (by simp [tS];omega) (cg (by simp [tS];omega) (aD (by simp) ?_))))));rw [e];exact abM (by omega) h1 h2 h3 (by omega) hy h
theorem aqO (hm:320≤m) {p:PC} (hT:jj p.tm) {s:PS} (h1:oU s.nm) (h2:oU s.lb) (h3:oU s.pr) (hc:Sz s.cs) (h:∀τ,TL 111 59 τ→τ.length≤3500000→Wp (K (τ,())) Q) :
  Wp (WC (T m) p.nm p.pb (p.pm.map eJ) p.tb (p.tm.map bz) p.sb (p.ss.map cT) s.kd s.nm s.pr s.lb s.pc s.tm s.gt (s.ag.map bF) s.ct (s.cs.map eC) s.wb (s.ws.map cW) s.nx K) Q:=by
 obtain ⟨m,rfl⟩:=cG hm;obtain ⟨r,hr⟩:=bl 1 m;have e0:J5 (T m) m m=J5 (T m) m (r+1):=by rw [←hr]
 have:=h1.2;have:=h2.2;have:=h3.2;have hl:=hc.1;refine bJ ago ?_;rw [e0];refine aC akS (ai (fun g1=>?_) (fun _=>?_))
 ·have af:=bN (i:=0) g1;refine aM (enc:=eC) (f:=fun c=>(c.ro,c.pc,(c.gt,c.ag.map bF),())) (fun a=>⟨by simp [eC],rfl⟩) (i:=0) rfl (gE af) ?_;refine abL m (by omega) hT (hc.2 _ (bM af)) (F:=fun y=>gd (true&&true&&true) (CK (T m) m r (tP p) (tS s) [[.str y]] s.ct (s.cs.map eC) (ae (s.cs.map eC).length) (ao (0+1)))) fun y hn Q5=>aD rfl ?_
  exact open_1 m (by omega) hT h1 h2 h3 hc h r 1 [y] (by omega) (by omega) rfl (fun y' fQ=>by simp at fQ;subst fQ;exact ⟨hn,Q5⟩)
 ·refine cg (by dsimp only [tS];omega) (cg (by simp [tS];omega) (cg (by simp [tS];omega) (cg (by simp [tS];omega) (cg (by simp [tS];omega) (cg (by simp [tS];omega) ?_)))));exact abM (o:=[]) (by omega) h1 h2 h3 (by simp) (fun y hy=>by cases hy) h
end
end
section
open Go Go.ax PT
open QQ (hC lQ bF nw)
def step1 (o:Int) (l:LN):Option Int:=
 let o1:=if l.s.head? = some 125 then o - 1 else o
 if (l.d:Int)=o1 then some (if l.s.getLast? = some 123 then o1+1 else o1) else none
def run:Int→List LN→Option Int
 | o,[]=>some o
 | o,l::t=>(step1 o l).bind fun o'=>run o' t
theorem ac5:∀{o:Int} (a b:List LN),run o (a++b)=(run o a).bind fun o'=>run o' b
 | o,[],b=>rfl
 | o,l::t,b=>by
  show (step1 o l).bind _=((step1 o l).bind _).bind _;cases step1 o l with
  | none=>rfl
  | some o'=>exact ac5 t b
def okL (l:LN):Prop:=NL l.s∧∃a,l.s.head? = some a∧a≠32
structure eT (e:Nat) (o o':Int) (n:Nat) (ls:List LN):Prop where
 ok:∀l∈ls,okL l∧e≤l.d
 run:run o ls=some o'
 len:ls.length=n
 sz:(fu ls).length≤4000000 * n
theorem eT.app {e:Nat} {o o' eY:Int} {n n':Nat} {a b:List LN} (h:eT e o o' n a) (h':eT e o' eY n' b):eT e o eY (n+n') (a++b):=by
 refine ⟨fun l hl=>(dA.1 hl).elim (h.ok l) (h'.ok l),by rw [ac5,h.run];exact h'.run,by rw [dL,h.len,h'.len],?_⟩;have:=h.sz;have:=h'.sz;rw [vV,dL];omega
theorem eT.deep {e e':Nat} {o o':Int} {n:Nat} {a:List LN} (h:eT e o o' n a) (he:e'≤e):eT e' o o' n a:=⟨fun l hl=>⟨(h.ok l hl).1,je he (h.ok l hl).2⟩,h.run,h.len,h.sz⟩
theorem eT.nil {e:Nat} {o:Int}:eT e o o 0 []:=⟨(fun l hl=>by cases hl),rfl,rfl,yR _⟩
theorem eT.one {e d:Nat} {o o':Int} {a b:UInt8} {s:List UInt8} (h:TL a b s) (ha:a≠32) (hd:e≤d) (h6:d≤60) (hl:s.length≤3600000) (hr:step1 o ⟨d,s⟩=some o'):eT e o o' 1 [⟨d,s⟩]:=by
 refine ⟨fun l hl=>?_,by show (step1 o ⟨d,s⟩).bind _=_;rw [hr];rfl,rfl,?_⟩
 ·rw [tJ.1 hl];exact ⟨⟨h.nl,a,h.h,ha⟩,hd⟩
 ·rw [vW,dL,uz];simp only [fu,List.flatMap_nil,jE];omega
theorem T9 {d:Nat} {a b:UInt8} {s:List UInt8} (h:TL a b s) (ha:a≠125) (hb:b≠123):step1 d ⟨d,s⟩=some d:=by simp [step1,h.h,h.l,ha,hb]
theorem Hj {d:Nat} {a:UInt8} {s:List UInt8} (h:TL a 123 s) (ha:a≠125):step1 d ⟨d,s⟩=some (d+1:Nat):=by simp [step1,h.h,h.l,ha]
theorem apW {d:Nat}:step1 (d+1:Nat) ⟨d,[125,32,101,108,115,101,32,123]⟩=some (d+1:Nat):=by simp [step1]
theorem Hi {d:Nat}:step1 (d+1:Nat) ⟨d,[125]⟩=some d:=by simp [step1]
theorem tl {x y:List UInt8} {a b:UInt8} (hn:NL (x++y)) (hh:(x++y).head? = some a) (hl:y.getLast? = some b):TL a b (x++y):=⟨hn,hh,by rw [wT,hl];rfl⟩
theorem Hm:TL 125 125 [125]:=⟨cj,rfl,rfl⟩
theorem ap7:TL 125 123 [125,32,101,108,115,101,32,123]:=⟨cj,rfl,rfl⟩
def lF (s:PS):Nat:=if s.kd=3 then 3 else if s.kd=5 then 2+2 * s.ws.length else 1
section
variable {m:Nat} {Q:V→List (List C)→Prop} {p:PC} {W D:Nat→Nat}
def Ns (m:Nat) (p:PC) (W D:Nat→Nat) (k:Nat) (s:PS):Prop:=∀(d:Nat) (t:List UInt8) (K:j7.T→OR) (Q:V→List (List C)→Prop),d+2 * inc s≤3+2 * D k→t.length+4000000 * W k≤100000000000000→(∀ls,eT d d d (W k) ls→Wp (K ((),bB (t++fu ls),())) Q)→
 Wp (c93 (T m) p.nm p.pb (p.pm.map eJ) p.tb (p.tm.map bz) p.sb (p.ss.map cT) (k:Int) (d:Int) (bB t) K) Q
structure BG (m:Nat) (p:PC) (W D:Nat→Nat) (n:Nat) (s:PS):Prop where
 hm:1000≤m
 ok:gQ p
 hs:p.ss[n]? = some s
 f:u3 s
 e:∀t∈bq s,∃(k:Nat) (s':PS),t=(k:Int)∧p.ss[k]? = some s'∧Ns m p W D k s'∧D k=D n+inc s'
 w:W n=lF s+((bq s).map fun z=>W z.toNat).sum
 d:D n≤24
theorem NY {n:Nat} {s:PS} (g:BG m p W D n s) {d:Nat} (hd:d+2 * inc s≤3+2 * D n) {t:List UInt8} (ht:t.length+4000000 * W n≤100000000000000) {K:j7.T→OR} {x9:au bm} (h:∀ls,eT d d d (W n) ls→Wp (K ((),bB (t++fu ls),())) Q)
  {Gw:List LN} {n0:Nat} (h0:eT d d d n0 Gw) (hn:if kN s.kd then n0=lF s else n0=W n):Wp (lW (T m) m x9 m (d:Int) (bB (t++fu Gw)) (tP p) (tS s)) (J j7 K Q):=by
 have hm:=g.hm;obtain ⟨r,hr⟩:=bl 1 m;have e0:lW (T m) m x9 m=lW (T m) m x9 (r+1):=by rw [←hr]
 rw [e0];refine aC akR ?_;cases hg:kN s.kd with
 | false=>
  rw [hg] at hn;have hx:=g.f.ng hg;rw [show W n=n0 by simpa using hn.symm] at h;refine eh (bR (show ¬ s.nx≥0 by omega)) (az ?_);unfold J;rw [rK];exact h Gw h0
 | true=>
  rw [hg] at hn;have sM:n0=lF s:=by simpa using hn
  have rj:bq s=[s.nx]:=by unfold bq;rw [aJ hg]
  obtain ⟨k,s',hk,jY,bk,hD⟩:=g.e s.nx (by rw [rj];simp);have hw:=g.w;rw [rj,hk] at hw;simp only [fY,A2,yP,Ve,jn,Na] at hw;have h3:=h0.sz;refine gl (aX (show s.nx≥0 by omega)) ?_;show Wp (c93 (T m) p.nm p.pb (p.pm.map eJ) p.tb (p.tm.map bz) p.sb (p.ss.map cT) s.nx (d:Int) (bB (t++fu Gw)) _) _;rw [hk];refine bk d _ _ _ (by omega) (by rw [dL];omega) fun ls lR=>az ?_
  unfold J;rw [rK];have:=h (Gw++ls) (by rw [hw,←sM];exact h0.app lR);rw [vV,←ej] at this;exact this
theorem afn {n:Nat} {s:PS} (g:BG m p W D n s) {d:Nat} (hd:d+2 * inc s≤3+2 * D n) {t:List UInt8} (ht:t.length+4000000 * W n≤100000000000000) {K:j7.T→OR} {x9:au bm} (h:∀ls,eT d d d (W n) ls→Wp (K ((),bB (t++fu ls),())) Q)
  (hk:s.kd≠3∧s.kd≠5) {τ:List UInt8} {a b:UInt8} (hτ:TL a b τ) (ha:a≠32∧a≠125) (hb:b≠123) (hl:τ.length≤3600000):Wp (ik (T m) (d:Int) τ (bB t) fun v=>lW (T m) m x9 m (d:Int) v.2.1 (tP p) (tS s)) (J j7 K Q):=by
 have hD:=g.d;have hm:=g.hm;have hw:=g.w;have ho:lF s=1:=by unfold lF;rw [aB hk.1,aB hk.2]
 refine uR (m:=m) (by omega) (by omega) (by omega) ?_
 have := NY g hd ht (x9 := x9) h (eT.one hτ ha.1 (bV d) (by omega) hl (T9 hτ ha.2 hb)) (by
   cases hg : kN s.kd with
   | true => rw [aJ rfl, ho]
   | false =>
     have : bq s = [] := by unfold bq; rw [aB (by rw [hg]; simp), g.f.go hk.1 hk.2]; rfl
     rw [this] at hw
     simp at hw
     rw [aB (by simp), hw, ho])
 rw [vW,show fu []=[] from rfl,mR] at this;exact this
theorem Wg {n:Nat} {s:PS} (g:BG m p W D n s) (hk:s.kd=5) {d:Nat} (hd:d+2 * inc s≤3+2 * D n) {K:j7.T→OR} {x9:au bm}:∀(c i:Nat) (t:List UInt8),s.ws.length - i < c→i≤s.ws.length→
  t.length+4000000 * (1+2 * (s.ws.length - i)+(((bq s).drop i).map fun z=>W z.toNat).sum)≤100000000000000→
  (∀ls,eT d (d+1:Nat) d (1+2 * (s.ws.length - i)+(((bq s).drop i).map fun z=>W z.toNat).sum) ls→Wp (lW (T m) m x9 m (d:Int) (bB (t++fu ls)) (tP p) (tS s)) (J j7 K Q))→
  Wp (J4 (T m) m x9 c (d:Int) (bB t) (tP p) (tS s) s.wb (s.ws.map cW) (ae (s.ws.map cW).length) (i:Int)) (J j7 K Q)
 | 0,i,t,hc,_,_,_=>by omega
 | c+1,i,t,hc,hi,hl,h=>by
  have hD:=g.d;have hm:=g.hm;have Zh:inc s=1:=by unfold inc;rw [aJ (.inr hk)]
  have rj:bq s=s.ws.map WR.nx:=by unfold bq;rw [aB (by rw [hk];decide)]
  have hwl:=(g.ok.s2 s (fp g.hs)).2.2.2;refine aC akP (ai (fun g1=>?_) (fun g1=>?_))
  ·have af:=bN g1;have hg:s.ws[i]? = some s.ws[i]:=gE af;have Zv:=(g.f.h1 hk).2 _ (bM af);have Fa:(bq s).drop i=s.ws[i].nx::(bq s).drop (i+1):=by
    rw [rj,tG (by simpa using af)];simp
   obtain ⟨k,s',gH,jY,bk,hDk⟩:=g.e s.ws[i].nx (by rw [rj];exact List.mem_map_of_mem (bM af));rw [Fa] at hl h;simp only [fY,yP] at hl h;rw [gH,Na] at hl h;obtain ⟨r,hr⟩:=bl 1 m;have e0:CJ (T m) m x9 c m=CJ (T m) m x9 c (r+1):=by rw [←hr]
   have wd:∀j:Nat,j≤10→ao ((d:Int)+(j:Nat))=((d+j:Nat):Int):=fun j hj=>gF
   have rest:∀τ a,TL a 123 τ→a≠32→a≠125→τ.length≤100→Wp (ik (T m) (ao ((d:Int)+1)) τ (bB t) fun fc=>CJ (T m) m x9 c m (d:Int) fc.2.1 (tP p) (tS s) s.wb (s.ws.map cW) (ae (s.ws.map cW).length) (i:Int) (s.ws[i].lb,s.ws[i].nm,s.ws[i].nx,())) (J j7 K Q):=by
    intro τ a hτ h32 ajc hτl;rw [show ao ((d:Int)+1)=((d+1:Nat):Int) from wd 1 (by omega)];refine uR (m:=m) (by omega) (by omega) (by omega) ?_;rw [e0];refine aC akQ ?_;show Wp (c93 (T m) p.nm p.pb (p.pm.map eJ) p.tb (p.tm.map bz) p.sb (p.ss.map cT) s.ws[i].nx (ao ((d:Int)+2)) (bB (t++rz ⟨d+1,τ⟩)) _) _;rw [gH,show ao ((d:Int)+2)=((d+2:Nat):Int) from wd 2 (by omega)];refine bk (d+2) _ _ _ (by omega) (by rw [dL,uz];dsimp only;omega) fun ls lR=>?_
    dsimp only;rw [show ao ((d:Int)+1)=((d+1:Nat):Int) from wd 1 (by omega)];have hz:=lR.sz;refine uR (m:=m) (by omega) (by omega) (by simp only [dL,uz,fX,jE];omega) ?_;dsimp only;rw [w1 (by omega)];have sg:eT d (d+1:Nat) (d+1:Nat) (1+W k+1) ([⟨d+1,τ⟩]++ls++[⟨d+1,[125]⟩]):=
     ((eT.one hτ h32 (by omega) (by omega) (by omega) (Hj hτ ajc)).app (lR.deep (by omega))).app (eT.one Hm (by decide) (by omega) (by omega) (by simp) Hi)
    have bf:=sg.sz;have et:t++rz ⟨d+1,τ⟩++fu ls++rz ⟨d+1,[125]⟩=t++fu ([⟨d+1,τ⟩]++ls++[⟨d+1,[125]⟩]):=by simp [vV,fu,ej]
    rw [et];refine Wg g hk hd c (i+1) _ (by omega) (by omega) (by rw [dL];omega) fun RX ajN=>?_
    have := h (([⟨d + 1, τ⟩] ++ ls ++ [⟨d + 1, [125]⟩]) ++ RX) (by
      have := sg.app ajN
      rw [show 1 + W k + 1 + (1 + 2 * (s.ws.length - (i + 1)) + (((bq s).drop (i + 1)).map fun z => W z.toNat).sum) = 1 + 2 * (s.ws.length - i) + (W k + (((bq s).drop (i + 1)).map fun z => W z.toNat).sum) by omega] at this
      exact this)
    rw [vV,←ej] at this;exact this
   refine aM AA rfl hg (ai (fun _=>?_) (fun g2=>?_))
   ·exact rest [108,111,115,116,32,123] 108 ⟨cj,rfl,rfl⟩ (by decide) (by decide) (by decide)
   have Qy:gK s.ws[i].lb=true:=by
    rcases Zv.1 with e | e
    ·have:(s.ws[i].lb==[])=false:=g2;rw [e] at this;cases this
    ·exact e
   have Fp:=Lw Qy;obtain ⟨a,r',eV,ha⟩:=Fp.2.2;have ju:oU s.ws[i].nm:=by
    rcases Zv.2 with e | e
    ·rw [e];exact ⟨yV,by simp⟩
    ·exact mI e
   have:=ju.2;have:=JP ha;refine cg (by dsimp only;omega) (cg (by simp;omega) (cg (by simp;omega) ?_));refine rest (s.ws[i].lb++[40]++s.ws[i].nm++[41,32,123]) a (tl ?_ ?_ rfl) this.2.1 this.2.2.1 (by simp;omega)
   ·simp only [eH];exact ⟨⟨⟨Fp.1,cj⟩,ju.1⟩,cj⟩
   ·rw [eV];rfl
  ·have eP:=xl g1;have e:(bq s).drop i=[]:=DX (by rw [rj];simp;omega);rw [e] at hl h;obtain ⟨r,hr⟩:=bl 1 m;refine uR (m:=m) (by omega) (by omega) (by simp at hl ⊢;omega) ?_
   have := h [⟨d, [125]⟩] (by
     rw [show 1 + 2 * (s.ws.length - i) + ((([] : List Int)).map fun z => W z.toNat).sum = 1 by simp; omega]
     exact eT.one Hm (by decide) (bV d) (by omega) (by simp) Hi)
   rw [vW,show fu []=[] from rfl,mR] at this;exact this
end
end
section
open Go Go.ax PT
open QQ (hC lQ bF nw)
section
variable {m:Nat} {Q:V→List (List C)→Prop} {p:PC} {W D:Nat→Nat}
theorem afm {n:Nat} {s:PS} (g:BG m p W D n s) (hk:s.kd=3) {d:Nat} (hd:d+2 * inc s≤3+2 * D n) {t:List UInt8} (ht:t.length+4000000 * W n≤100000000000000) {K:j7.T→OR} {x9:au bm} (h:∀ls,eT d d d (W n) ls→Wp (K ((),bB (t++fu ls),())) Q)
  {τ:List UInt8} (hτ:NL τ) (hl:τ.length≤330):Wp (ik (T m) (d:Int) ([105,102,32]++τ++[32,123]) (bB t) fun v10=>rA cd 2 1 (s.ws.map cW) 0 fun v12=>c93 (T m) p.nm p.pb (p.pm.map eJ) p.tb (p.tm.map bz) p.sb (p.ss.map cT) v12.1 (ao ((d:Int)+1)) v10.2.1 fun aO=>ik (T m) (d:Int) [125,32,101,108,115,101,32,123] aO.2.1 fun bU=>rA cd 2 1 (s.ws.map cW) 1 fun cF=>c93 (T m) p.nm p.pb (p.pm.map eJ) p.tb (p.tm.map bz) p.sb (p.ss.map cT) cF.1 (ao ((d:Int)+1)) bU.2.1 fun dX=>ik (T m) (d:Int) [125] dX.2.1 fun eG=>lW (T m) m x9 m (d:Int) eG.2.1 (tP p) (tS s)) (J j7 K Q):=by
 have hD:=g.d;have hm:=g.hm;have Zh:inc s=1:=by unfold inc;rw [aJ (.inl hk)]
 obtain ⟨w0,AT,ur⟩:∃w0 w1,s.ws=[w0,w1]:=by
  have h2:=g.f.i2 hk;match s.ws,h2 with
  | [a,b],_=>exact ⟨a,b,rfl⟩
 have rj:bq s=[w0.nx,AT.nx]:=by unfold bq;rw [aB (by rw [hk];decide),ur];rfl
 obtain ⟨k0,s0,nQ,oP,bk0,hD0⟩:=g.e w0.nx (by rw [rj];simp);obtain ⟨k1,s1,ui,kx,bk1,hD1⟩:=g.e AT.nx (by rw [rj];simp);have hw:=g.w;have ho:lF s=3:=by unfold lF;rw [aJ hk]
 rw [rj,ho,nQ,ui] at hw;simp only [fY,A2,yP,Ve,jn,Na] at hw;have wd:=wI d;have hA:TL 105 123 ([105,102,32]++τ++[32,123]):=tl (eH.2 ⟨eH.2 ⟨cj,hτ⟩,cj⟩) rfl rfl;have BZ:([105,102,32]++τ++[32,123]).length=τ.length+5:=by simp
 rw [wd,ur];refine uR (m:=m) (by omega) (by omega) (by omega) ?_;refine aC (yn (r:=cW w0) (v:=(w0.nx,())) rfl (by simp [cW]) rfl rfl) ?_;dsimp only;rw [nQ];refine bk0 (d+1) _ _ _ (by omega) (by rw [dL,uz];dsimp only;omega) fun l0 h0=>?_
 have z0:=h0.sz;refine uR (m:=m) (by omega) (by omega) (by simp only [dL,uz,fX,jE] at BZ ⊢;omega) ?_;refine aC (yn (r:=cW AT) (v:=(AT.nx,())) rfl (by simp [cW]) rfl rfl) ?_;dsimp only;rw [ui];refine bk1 (d+1) _ _ _ (by omega) (by simp only [dL,uz,fX,jE] at BZ ⊢;omega) fun l1 h1=>?_
 have z1:=h1.sz;refine uR (m:=m) (by omega) (by omega) (by simp only [dL,uz,fX,jE] at BZ ⊢;omega) ?_;have sg:=((((eT.one hA (by decide) (bV d) (by omega) (by omega) (Hj hA (by decide))).app (h0.deep (by omega))).app (eT.one ap7 (by decide) (bV d) (by omega) (by simp) apW)).app (h1.deep (by omega))).app (eT.one Hm (by decide) (bV d) (by omega) (by simp) Hi);have:=NY g hd ht (x9:=x9) h sg (by rw [hk,aB (by decide)];omega);simp only [vV,vW,show fu []=[] from rfl,mR,←ej] at this;simp only [←ej];exact this
theorem afl {n:Nat} {s:PS} (g:BG m p W D n s):Ns (m+1) p W D n s:=by
 intro d t K Q hd ht h;have hm:=g.hm;have hT:=g.ok.t2;have oN:=g.ok.s2 s (fp g.hs);have fs:=g.f;have eq:∀{z:Int},(s.kd==z)=true→s.kd=z:=fun h=>by simpa using h
 refine bJ agk (aM (enc:=cT) (f:=tS) (fun a=>⟨by simp [cT],rfl⟩) rfl g.hs ?_);have one:=fun {τ a b} => afn g hd ht (x9:=bB t) (Q:=Q) (τ:=τ) (a:=a) (b:=b) h
 refine ai (fun e=>?_) fun n0=>ai (fun e=>?_) fun n10=>ai (fun e=>?_) fun n1=>ai (fun e=>?_) fun n2=>ai (fun e=>?_) fun n3=>ai (fun e=>?_) fun n4=>ai (fun e=>?_) fun n5=>ai (fun e=>?_) fun n6=>ai (fun e=>?_) fun n7=>ai (fun e=>?_) fun n8=>ai (fun e=>?_) fun n9=>?_
 ·have e:=eq e;exact one (by omega) (τ:=[115,116,111,112]) ⟨cj,rfl,rfl⟩ (by decide) (by decide) (by decide)
 ·have e:=eq e;exact one (by omega) (τ:=[102,97,105,108]) ⟨cj,rfl,rfl⟩ (by decide) (by decide) (by decide)
 ·have e:=eq e;have hn:=mI (fs.n1 (by omega));have:=hn.2;refine cg (by dsimp only [tS];omega) (cg (by simp [tS];omega) (DU (m:=m) (by omega) hT fun τ h1 h2=>cg (by simp [tS];omega) (cg (by simp [tS];omega) ?_)));exact one (by omega) (tl (eH.2 ⟨eH.2 ⟨eH.2 ⟨eH.2 ⟨cj,hn.1⟩,cj⟩,h1⟩,cj⟩) (a:=108) (b:=59) rfl rfl) (by decide) (by decide) (by simp [tS];omega)
 ·have e:=eq e;refine DU (m:=m) (by omega) hT fun τ h1 h2=>cg (by dsimp only [tS];omega) (cg (by simp [tS];omega) ?_)
  exact one (by omega) (tl (eH.2 ⟨eH.2 ⟨cj,h1⟩,cj⟩) (a:=112) (b:=59) rfl rfl) (by decide) (by decide) (by simp;omega)
 ·have e:=eq e;refine DU (m:=m) (by omega) hT fun τ h1 h2=>cg (by dsimp only [tS];omega) (cg (by simp [tS];omega) ?_)
  exact afm g e hd ht h h1 h2
 ·have e:=eq e;have hn:=mI (fs.n1 (by omega));have hp:=mI (fs.n2 (by omega));have hb:=mI (fs.n3 (by omega));have:=hn.2;have:=hp.2;have:=hb.2;refine cg (by dsimp only [tS];omega) (cg (by simp [tS];omega) (cg (by simp [tS];omega) (cg (by simp [tS];omega) (cg (by simp [tS];omega) (cg (by simp [tS];omega) (DU (m:=m) (by omega) hT fun τ h1 h2=>cg (by simp [tS];omega) (cg (by simp [tS];omega) ?_)))))));exact one (by omega) (tl (by simp only [eH];exact ⟨⟨⟨⟨⟨⟨⟨⟨cj,hn.1⟩,cj⟩,hp.1⟩,cj⟩,hb.1⟩,cj⟩,h1⟩,cj⟩) (a:=115) (b:=59) rfl rfl) (by decide) (by decide) (by simp [tS];omega)
 ·have e:=eq e;have hn:=mI (fs.n1 (by omega));have hp:=mI (fs.n2 (by omega));have:=hn.2;have:=hp.2;have hD:=g.d;have Zh:inc s=1:=by unfold inc;rw [aJ (.inr e)]
  have hw:=g.w;have ho:lF s=2+2 * s.ws.length:=by unfold lF;rw [aB (by omega),aJ e]
  have hA:TL 104 123 ([104,101,97,114,32]++s.nm++[32,102,114,111,109,32]++s.pr++[32,123]):=tl (by simp only [eH];exact ⟨⟨⟨⟨cj,hn.1⟩,cj⟩,hp.1⟩,cj⟩) rfl rfl;have BZ:([104,101,97,114,32]++s.nm++[32,102,114,111,109,32]++s.pr++[32,123]).length≤50:=by simp;omega
  refine cg (by dsimp only [tS];omega) (cg (by simp [tS];omega) (cg (by simp [tS];omega) (cg (by simp [tS];omega) (uR (m:=m) (by omega) (by omega) ?_ ?_))))
  ·show t.length+([104,101,97,114,32]++s.nm++[32,102,114,111,109,32]++s.pr++[32,123]).length+2 * d+1≤_;omega
  ·refine Wg g e hd m 0 _ (by have:=oN.2.2.2;omega) (by omega) ?_ fun ls lR=>?_
   ·rw [dL,uz,yK];show t.length+(2 * d+([104,101,97,114,32]++s.nm++[32,102,114,111,109,32]++s.pr++[32,123]).length+1)+_≤_;omega
   ·have:=NY g hd ht (x9:=bB t) h ((eT.one hA (by decide) (bV d) (by omega) (by omega) (Hj hA (by decide))).app lR) (by rw [e,aB (by decide),yK];omega);rw [vV,vW,show fu []=[] from rfl,mR,←ej] at this;exact this
 ·have e:=eq e;have hn:=mI (fs.n4 (by omega));have:=hn.2;refine cg (by dsimp only [tS];omega) (Ur (m:=m) (by omega) hT oN.1 fun τ h1 h2 h3=>cg (by simp [tS];omega) ?_);exact one (by omega) (tl (eH.2 ⟨eH.2 ⟨cj,hn.1⟩,h1⟩) (a:=99) (b:=41) rfl h3) (by decide) (by decide) (by simp [tS];omega)
 ·have e:=eq e;have hn:=mI (fs.n4 (by omega));have:=hn.2;refine cg (by dsimp only [tS];omega) (Ur (m:=m) (by omega) hT oN.1 fun τ h1 h2 h3=>cg (by simp [tS];omega) (cg (by simp [tS];omega) ?_));exact one (by omega) (tl (eH.2 ⟨eH.2 ⟨eH.2 ⟨cj,hn.1⟩,h1⟩,cj⟩) (a:=115) (b:=59) rfl rfl) (by decide) (by decide) (by simp [tS];omega)
 ·have e:=eq e;have hc:Sz s.cs:=⟨oN.2.1,fun c hc=>⟨oN.2.2.1 c hc,mI (fs.n5 e c hc).1,mI (fs.n5 e c hc).2⟩⟩
  refine aqO (m:=m) (by omega) hT (mI (fs.n1 (by omega))) (mI (fs.n3 (by omega))) (mI (fs.n2 (by omega))) hc fun τ h1 h2=>?_
  exact one (by omega) h1 (by decide) (by decide) (je h2 (by decide))
 ·have e:=eq e;have hn:=mI (fs.n1 (by omega));have:=hn.2;refine cg (by dsimp only [tS];omega) (cg (by simp [tS];omega) ?_);exact one (by omega) (tl (eH.2 ⟨eH.2 ⟨cj,hn.1⟩,cj⟩) (a:=100) (b:=59) rfl rfl) (by decide) (by decide) (by simp [tS];omega)
 ·have ne:∀{z:Int},(s.kd==z)=false→s.kd≠z:=fun h=>by simpa using h
  have:=ne n0;have:=ne n1;have:=ne n2;have:=ne n3;have:=ne n4;have:=ne n5;have:=ne n6;have:=ne n7;have:=ne n8;have:=ne n9;have:=ne n10;have:=fs.k0;omega
theorem Wc (hp:gQ p) (hS:SF p.ss) (mn:p.ss.length≤80) (hW:∀(n:Nat) s,p.ss[n]? = some s→W n=lF s+((bq s).map fun z=>W z.toNat).sum)
  (hD:∀(i:Nat) s,p.ss[i]? = some s→D i≤24∧∀k:Nat,(k:Int)∈bq s→∀s',p.ss[k]? = some s'→D k=D i+inc s'):∀(j n:Nat) (s:PS),p.ss[n]? = some s→p.ss.length - n≤j→∀m,1000+j≤m→Ns m p W D n s
 | 0,n,s,hs,hj,m,hm=>by
  have:=(cA.1 hs).1;omega
 | j+1,n,s,hs,hj,m,hm=>by
  obtain ⟨m,rfl⟩:=bl 1 m;refine afl ⟨by omega,hp,hs,hS.f s (fp hs),fun t ht=>?_,hW n s hs,(hD n s hs).1⟩;obtain ⟨k,rfl,h1,h2⟩:=hS.e n s t hs ht;have hg:p.ss[k]? = some p.ss[k]:=gE h2;exact ⟨k,_,rfl,hg,Wc hp hS mn hW hD j k _ hg (by omega) m (by omega),(hD n s hs).2 k ht _ hg⟩
end
end
section
open Go Go.ax PT
def Wf (ss:List PS):Nat→Nat→Nat
 | 0,_=>0
 | f+1,n=>match ss[n]? with
  | none=>0
  | some s=>lF s+((bq s).map fun z=>Wf ss f z.toNat).sum
theorem aq' {ss:List PS} (h:SF ss):∀f f' n,ss.length - n≤f→ss.length - n≤f'→Wf ss f n=Wf ss f' n:=by
 intro f;induction f with
 | zero=>
  intro f' n h1 h2;cases f' with
  | zero=>rfl
  | succ f'=>
   show 0=(match ss[n]? with | none=>0 | some s=>_)
   rw [pY (by omega)]
 | succ f ih=>
  intro f' n h1 h2;cases hs:ss[n]? with
  | none=>
   have e:∀f,Wf ss f n=0:=fun f=>by
    cases f with
    | zero=>rfl
    | succ f=>show (match ss[n]? with | none=>0 | some s=>_)=0;rw [hs]
   rw [e,e]
  | some s=>
   have hn:=(cA.1 hs).1;obtain ⟨f',rfl⟩:∃i,f'=i+1:=⟨f' - 1,by omega⟩
   show (match ss[n]? with | none=>0 | some s=>_)=(match ss[n]? with | none=>0 | some s=>_)
   rw [hs];show lF s+_=lF s+_;congr 2;refine U9 fun z hz=>?_
   obtain ⟨k,rfl,h3,h4⟩:=h.e n s z hs hz;exact ih f' _ (by simp;omega) (by simp;omega)
def Wn (ss:List PS) (n:Nat):Nat:=Wf ss ss.length n
theorem aeQ {ss:List PS} (h:SF ss) {n:Nat} {s:PS} (hs:ss[n]? = some s):Wn ss n=lF s+((bq s).map fun z=>Wn ss z.toNat).sum:=by
 have hn:=(cA.1 hs).1;obtain ⟨f,hf⟩:∃f,ss.length=f+1:=⟨ss.length - 1,by omega⟩
 have e:Wn ss n=lF s+((bq s).map fun z=>Wf ss f z.toNat).sum:=by
  unfold Wn;rw [hf];show (match ss[n]? with | none=>0 | some s=>_)=_;rw [hs]
 rw [e];congr 2;refine U9 fun z hz=>?_
 obtain ⟨k,rfl,h3,h4⟩:=h.e n s z hs hz;exact aq' h _ _ _ (by simp;omega) (by simp)
theorem Xo (k:Nat):∀n,((List.range n).map fun i=>((i+1:Nat):Int)).count (k:Int)=if 1≤k∧k≤n then 1 else 0
 | 0=>by rw [aB (by omega)];rfl
 | n+1=>by
  rw [Nl,ev,UZ,Xo k n];simp only [fY,A2,List.count_singleton];by_cases h:k=n+1
  ·subst h;rw [aB (by omega),aJ (by simp),aJ (by omega)]
  ·rw [aB (show ¬ (((n+1:Nat):Int)==(k:Int))=true by simp;omega)];by_cases h2:1≤k∧k≤n
   ·rw [aJ h2,aJ (by omega)]
   ·rw [aB h2,aB (by omega)]
theorem aoB {ss:List PS} (h:SF ss) {L:Nat} (hL:ss.length=L+1):(ss.flatMap bq).Perm ((List.range L).map fun i=>((i+1:Nat):Int)):=by
 have inF:∀a,a∈ss.flatMap bq→∃k:Nat,a=(k:Int)∧1≤k∧k≤L:=by
  intro a ha;obtain ⟨s,hs,ha⟩:=Nh.1 ha;obtain ⟨i,hi,rfl⟩:=DZ hs;obtain ⟨k,e,h1,h2⟩:=h.e i _ a (gE hi) ha;exact ⟨k,e,by omega,by omega⟩
 refine List.perm_iff_count.2 fun a=>?_
 by_cases ha:∃k:Nat,a=(k:Int)∧1≤k∧k≤L
 ·obtain ⟨k,rfl,h1,h2⟩:=ha;rw [Xo,aJ ⟨h1,h2⟩];exact h.u k h1 (by omega)
 ·rw [Nb.2 fun hm=>ha (inF a hm),Nb.2 fun hm=>?_];obtain ⟨i,hi,rfl⟩:=iD.1 hm;exact ha ⟨i+1,rfl,by omega,by have:=tI.1 hi;omega⟩
theorem aq8 {ss:List PS} (h:SF ss) (h0:ss≠[]):Wn ss 0=(ss.map lF).sum:=by
 obtain ⟨L,hL⟩:∃L,ss.length=L+1:=by cases ss with | nil=>exact absurd rfl h0 | cons a t=>exact ⟨t.length,rfl⟩
 have st:∀j,j≤ss.length→((List.range j).map (Wn ss)).sum=((ss.take j).map lF).sum+((PP ss j).map fun z=>Wn ss z.toNat).sum:=by
  intro j;induction j with
  | zero=>intro _;simp [PP]
  | succ j ih=>
   intro hj;have hs:ss[j]? = some ss[j]:=gE (by omega);rw [Nl,ev,List.sum_append,ih (by omega),Vx hs,tK,hs];have:=aeQ h hs;simp only [ev,List.sum_append,fY,A2,yP,Ve,Option.toList_some];omega
 have:=st ss.length (bV _);rw [A5,show PP ss ss.length=ss.flatMap bq by simp [PP],((aoB h hL).map _).sum_nat,hL,ae1] at this;simp only [fY,yP,U'] at this;have e:((List.range L).map (Wn ss∘Nat.succ)).sum=((List.range L).map ((fun z:Int=>Wn ss z.toNat)∘fun i=>((i+1:Nat):Int))).sum:=by
  congr 1;all_goals (refine U9 fun i _=>?_;simp)
 omega
end
section
open Go Go.ax PT
open QQ (hC lQ bF nw dg u6 nM pP yl nY bG rD kW nr As iT qA)
def oy (l:LN):Bool:=l.d==0&&l.s.head? == some 125
section
variable {m:Nat} {Q:V→List (List C)→Prop} {K:j7.T→OR}
theorem aci (hm:1200≤m) {p:PC} (hp:gQ p) (hh:HD p) (hS:SF p.ss) {t:List UInt8} (ht:t.length+4000000 * (2+Wn p.ss 0)≤100000000000000) {b:Bool} {o:List (List UInt8)} (hl:o.length≤2) (ho:∀y∈o,NL y∧y.length≤11)
  (h:∀ls,eT 0 0 0 (2+Wn p.ss 0) ls→ls.countP oy=1→Wp (K ((),bB (t++fu ls),())) Q) :
  Wp (ow (T m) b (o.map aL) [44,32] fun v4=>(aN (([112,114,111,99,32]++p.nm++[40]).length+List.length v4.1) (aN (([112,114,111,99,32]++p.nm++[40]++v4.1).length+3) (ik (T m) 0 ([112,114,111,99,32]++p.nm++[40]++v4.1++[41,32,123]) (bB t) fun v5=>(c93 (T m) p.nm p.pb (p.pm.map eJ) p.tb (p.tm.map bz) p.sb (p.ss.map cT) 0 1 v5.2.1 fun v6=>(ik (T m) 0 [125] v6.2.1 fun v7=>(some ((.aq []),[(bx bm v7.2.1)])))))))) (J j7 K Q):=by
 have hj:=JQ (N:=11) fun y hy=>(ho y hy).2
 have hn:=mI hh.hn;have mz:=hn.2;obtain ⟨D,hD⟩:=hS.d;have oP:p.ss[0]? = some (p.ss[0]'(hp.s0)):=gE _;generalize p.ss[0]'(hp.s0)=s0 at oP;have hi:inc s0≤1:=by unfold inc;split<;>omega
 have bk:=Wc (D:=D) hp hS hh.hs (fun n s hs=>aeQ hS hs) hD 80 0 s0 oP (by have:=hh.hs;omega) m (by omega);refine Uu (by omega) (by omega) (fun y hy=>by have:=(ho y hy).2;omega) (cg (by simp;omega) (cg (by simp;omega) ?_));dsimp only;have hA:TL 112 123 ([112,114,111,99,32]++p.nm++[40]++hC o++[41,32,123]):=tl (by simp only [eH];exact ⟨⟨⟨⟨cj,hn.1⟩,cj⟩,FR fun y hy=>(ho y hy).1⟩,cj⟩) rfl rfl;have BZ:([112,114,111,99,32]++p.nm++[40]++hC o++[41,32,123]).length≤100:=by simp;omega
 generalize [112,114,111,99,32]++p.nm++[40]++hC o++[41,32,123]=A at hA BZ;refine uR (m:=m) (d:=0) (by omega) (by omega) (by omega) ?_;refine bk 1 _ _ _ (by omega) (by rw [dL,uz];dsimp only;omega) fun ls lR=>?_
 have hz:=lR.sz;refine uR (m:=m) (d:=0) (by omega) (by omega) (by simp only [dL,uz,fX,jE];omega) (az ?_);unfold J;rw [rK];have sg:=((eT.one (e:=0) (d:=0) hA (by decide) (by omega) (by omega) (by omega) (Hj hA (by decide))).app (lR.deep (by omega))).app (eT.one Hm (by decide) (bV 0) (by omega) (by simp) Hi)
 have := h _ (by rw [show 2 + Wn p.ss 0 = 1 + Wn p.ss 0 + 1 by omega]; exact sg) (by
   rw [UY, UY]
   have e1 : List.countP oy ls = 0 := List.countP_eq_zero.2 fun l hl => by
     have := (lR.ok l hl).2
     simp [oy]; omega
   have e2 : List.countP oy [⟨0, A⟩] = 0 := by simp [oy, hA.h]
   rw [e1, e2]; rfl)
 simp only [vV,vW,show fu []=[] from rfl,mR,←ej] at this;exact this
theorem acf {p:PC} (hp:gQ p) {x:List UInt8×Int×List UInt8} (hx:x∈p.pm):NL (x.1++[58,32]++lQ x.2.1 x.2.2)∧(x.1++[58,32]++lQ x.2.1 x.2.2).length≤11:=by
 obtain ⟨h1,h2⟩:=hp.p2 x hx;have:=QQ.Ir h1;rcases h2 with e | e<;>rw [e]<;>exact ⟨eH.2 ⟨cj,W5 h1⟩,by simp;omega⟩
theorem ach (q:Nat) (hq:1200≤q) {p:PC} (hp:gQ p) (hh:HD p) (hS:SF p.ss) {t:List UInt8} (ht:t.length+4000000 * (2+Wn p.ss 0)≤100000000000000)
  (h:∀ls,eT 0 0 0 (2+Wn p.ss 0) ls→ls.countP oy=1→Wp (K ((),bB (t++fu ls),())) Q) {x7:au bm}:∀(c i:Nat) (o:List (List UInt8)),p.pm.length - i < c→i≤p.pm.length→o.length=i→(∀y∈o,NL y∧y.length≤11)→
  Wp (J7 (T q) q x7 c (bB t) (tP p) (o.map aL) p.pb (p.pm.map eJ) (ae (p.pm.map eJ).length) (i:Int)) (J j7 K Q)
 | 0,i,o,hc,_,_,_=>by omega
 | c+1,i,o,hc,hi,ho,hy=>by
  have h2:=hp.p1;have hn:=(mI hh.hn).2;refine aC akV (ai (fun g1=>?_) (fun _=>cg (by dsimp only [tP];omega) (cg (by simp [tP];omega) (aD (by simp) ?_))))
  ·have af:=bN g1;have hx:=hp.p2 _ (bM af);have hk:=acf hp (bM af);have jJ:p.pm[i].1.length=1:=by rcases hx.2 with e | e<;>rw [e]<;>rfl
   have vB:=hk.2;simp only [dL] at vB;refine aM G4 rfl (gE af) (cg (by dsimp only;omega) ?_);refine aC (QQ.IF (by omega) hx.1 rfl) (cg (by simp only [dL];omega) (aD (ia (by simp;omega) (by omega)) ?_));rw [w1 (by omega),dj]
   have := ach q hq hp hh hS ht h (x7 := x7) c (i + 1) (o ++ [p.pm[i].1 ++ [58, 32] ++ lQ p.pm[i].2.1 p.pm[i].2.2]) (by omega) (by omega) (by simp; omega) (fun y fQ => by
     rw [dA] at fQ
     rcases fQ with fQ | fQ
     · exact hy y fQ
     · rw [tJ.1 fQ]; exact hk)
   rw [ev] at this;exact this
  ·rw [dj,qG];exact aci hq hp hh hS ht (by omega) hy h
theorem aqP (hm:1210≤m) {p:PC} (hp:gQ p) (hh:HD p) (hS:SF p.ss) {t:List UInt8} (ht:t.length+4000000 * (2+Wn p.ss 0)≤100000000000000)
  (h:∀ls,eT 0 0 0 (2+Wn p.ss 0) ls→ls.countP oy=1→Wp (K ((),bB (t++fu ls),())) Q):Wp (WS (T m) p.nm p.pb (p.pm.map eJ) p.tb (p.tm.map bz) p.sb (p.ss.map cT) (bB t) K) Q:=by
 obtain ⟨m,rfl⟩:=cG hm;obtain ⟨r,hr⟩:=bl 1 m;have e0:J6 (T m) m (bB t) m=J6 (T m) m (bB t) (r+1):=by rw [←hr]
 have h2:=hp.p1;have hn:=(mI hh.hn).2;refine bJ agp ?_;rw [e0];refine aC akU (ai (fun g1=>?_) (fun _=>cg (by dsimp only [tP];omega) (cg (by simp [tP];omega) ?_)))
 ·have af:=bN (i:=0) g1;have hx:=hp.p2 _ (bM af);have hk:=acf hp (bM af);have jJ:p.pm[0].1.length=1:=by rcases hx.2 with e | e<;>rw [e]<;>rfl
  have vB:=hk.2;simp only [dL] at vB;refine aM G4 (i:=0) rfl (gE af) (cg (by dsimp only;omega) ?_);refine aC (QQ.IF (by omega) hx.1 rfl) (cg (by simp only [dL];omega) (aD rfl ?_));exact ach m (by omega) hp hh hS ht h r 1 [p.pm[0].1++([58,32]:List UInt8)++lQ p.pm[0].2.1 p.pm[0].2.2] (by omega) (by omega) rfl (fun y hy=>by rw [tJ.1 hy];exact hk)
 ·exact aci (o:=[]) (by omega) hp hh hS ht (by simp) (fun y hy=>by cases hy) h
end
def Dn (i:Nat) (p:QQ.PT):LN:=⟨1,dg i++[58,32]++(if p.ms=[] then [101,110,100] else p.fr++[32,45,62,32]++p.to++nM p.ms)⟩
def GY:Nat→List QQ.PT→List LN
 | _,[]=>[]
 | i,p::t=>Dn i p::GY (i+1) t
def SY (nm:List UInt8) (M:Nat) (ps:List QQ.PT):List LN:=⟨0,[112,114,111,116,111,99,111,108,32]++nm++[32,114,111,108,101,115,32]++hC ((List.range M).map bG)++[32,123]⟩::GY 0 ps++[⟨0,[125]⟩]
theorem aoR (i:Nat) (p:QQ.PT):pP i p=rz (Dn i p):=by
 unfold pP Dn rz;split<;>simp [List.replicate]
theorem acr:∀(l:List QQ.PT) (i:Nat),yl i l=fu (GY i l)++[125,10]
 | [],i=>rfl
 | p::t,i=>by
  show pP i p++yl (i+1) t=fu (Dn i p::GY (i+1) t)++_;rw [acr t,aoR,vW,ej]
theorem aoN (nm:List UInt8) (M:Nat) (ps:List QQ.PT):nY nm M ps=fu (SY nm M ps):=by
 unfold nY SY;rw [acr,vV,vW];simp [rz,fu,ej]
theorem XB {k:Nat} (hk:k < 10):NL (dg k)∧∃a,dg k=[a]∧a≠32∧a≠125:=
 QQ.XC (p := fun _ s => NL s ∧ ∃ a, s = [a] ∧ a ≠ 32 ∧ a ≠ 125) (by
   refine ⟨?_, ?_, ?_, ?_, ?_, ?_, ?_, ?_, ?_, ?_⟩
   all_goals exact ⟨cj, _, rfl, by decide, by decide⟩) hk
theorem Tv {k:Nat} (h:k < 4):NL (bG k):=by
 match k,h with
 | 0,_=>exact cj
 | 1,_=>exact cj
 | 2,_=>exact cj
 | 3,_=>exact cj
theorem aff {P:Nat} (hP:P≤10) {l:List QQ.AM} (h:nr P l):NL (nM l):=by
 unfold nM;refine eH.2 ⟨eH.2 ⟨cj,FR fun y hy=>?_⟩,cj⟩;obtain ⟨x,hx,rfl⟩:=iD.1 hy;obtain ⟨h1,h2,h3⟩:=h.2.2.2 x hx;have hl:NL x.mF:=by
  simp only [qA,gU,nK,nL] at h1;rcases h1 with e | e | e | e | e<;>rw [e]<;>exact cj
 unfold u6;exact eH.2 ⟨eH.2 ⟨eH.2 ⟨eH.2 ⟨hl,cj⟩,W5 h2⟩,cj⟩,(XB (by omega)).1⟩
theorem aoS {P M i:Nat} (hP:P≤10) (hM:M≤4) (hi:i < 10) {p:QQ.PT} (h:rD P M p):eT 0 (1:Nat) (1:Nat) 1 [Dn i p]:=by
 obtain ⟨hd,a,ha,YT,YU⟩:=XB hi;unfold Dn;rcases h with ⟨_,_,h3⟩ | ⟨k,j,hk,hj,_,hf,ht,hm⟩
 ·rw [aJ h3];have:TL a 100 (dg i++[58,32]++[101,110,100]):=tl (eH.2 ⟨eH.2 ⟨hd,cj⟩,cj⟩) (by rw [ha];rfl) rfl;exact eT.one this YT (by omega) (by omega) (by rw [ha];simp) (T9 this YU (by decide))
 ·have aA:p.ms≠[]:=by
   intro e;have:=hm.1;rw [e] at this;cases this
  rw [aB aA];have hn:=aff hP hm;have hl:=QQ.Ej hm;have:TL a 125 (dg i++[58,32]++(p.fr++[32,45,62,32]++p.to++nM p.ms)):=by
   refine tl (eH.2 ⟨eH.2 ⟨hd,cj⟩,?_⟩) (by rw [ha];rfl) ?_
   ·rw [hf,ht];exact eH.2 ⟨eH.2 ⟨eH.2 ⟨Tv (by omega),cj⟩,Tv (by omega)⟩,hn⟩
   ·unfold nM;rw [wT,wT];rfl
  refine eT.one this YT (by omega) (by omega) ?_ (T9 this YU (by decide));rw [hf,ht,ha];simp [bG];omega
theorem acv {P M:Nat} (hP:P≤10) (hM:M≤4):∀(l:List QQ.PT) (i:Nat),i+l.length≤10→(∀p∈l,rD P M p)→eT 0 (1:Nat) (1:Nat) l.length (GY i l)
 | [],i,_,_=>eT.nil
 | p::t,i,hl,h=>by
  have mo:i+(t.length+1)≤10:=hl;have:=(aoS hP hM (i:=i) (by omega) (h p kf)).app (acv hP hM t (i+1) (by omega) fun x hx=>h x (kF _ hx));rw [fX,Nat.add_comm];exact this
theorem aoO {nm:List UInt8} (hn:nm=[112]∨nm=[113]) {M:Nat} {ps:List QQ.PT} (h:kW M ps):eT 0 0 0 (2+ps.length) (SY nm M ps):=by
 have hM:=h.2.1;have h8:=h.2.2.2.1;have hy:∀y∈(List.range M).map bG,NL y∧y.length≤1:=by
  intro y hy;obtain ⟨k,hk,rfl⟩:=iD.1 hy;exact ⟨Tv (by have:=tI.1 hk;omega),by simp [bG]⟩
 have hj:=JQ (N:=1) fun y fQ=>(hy y fQ).2
 rw [cf,U7] at hj;have hA:TL 112 123 ([112,114,111,116,111,99,111,108,32]++nm++[32,114,111,108,101,115,32]++hC ((List.range M).map bG)++[32,123]):=by
  refine tl ?_ rfl rfl;rcases hn with rfl | rfl<;>exact eH.2 ⟨eH.2 ⟨cj,FR fun y fQ=>(hy y fQ).1⟩,cj⟩
 have sg:=((eT.one (e:=0) (d:=0) hA (by decide) (by omega) (by omega) (by rcases hn with rfl | rfl<;>simp<;>omega) (Hj hA (by decide))).app (acv (by omega) hM ps 0 (by omega) h.2.2.2.2)).app (eT.one Hm (by decide) (bV 0) (by omega) (by simp) Hi);rw [show 2+ps.length=1+ps.length+1 by omega];exact sg
end
section
open Go Go.ax
section
variable {A B:bX}
theorem Z9 {f g:St→Option (tQ×St)} (h:∀S x,f S=some x→g S=some x):∀(n:Nat) (S:St) x,iter f n S=some x→iter g (n+1) S=some x
 | 0,S,x,he=>by cases he
 | n+1,S,x,he=>by
  rw [iter] at he ⊢;cases hf:f S with
  | none=>simp [hf] at he
  | some y=>
   rw [hf] at he;rw [h S y hf];simp only [Option.bind] at he ⊢;obtain ⟨e,S1⟩:=y;cases e with
   | norm=>exact Z9 h n S1 x he
   | exit i=>exact he
   | ret=>exact he
theorem ah1 (h:tR A B) (n:Nat):∀(c:mc) (S:St) x,dq A n c S=some x→dq B (n+1) c S=some x:=by
 intro c;induction c with
 | skip=>intro S x he;exact he
 | iZ keep gc ops draw=>intro S x he;exact ah2 h n (.iZ keep gc ops draw) S x he
 | seq a b z6 z7=>
  intro S x he;simp only [dq] at he ⊢;cases h1:dq A n a S with
  | none=>simp [h1] at he
  | some y=>
   rw [h1] at he;rw [z6 S y h1];obtain ⟨e,S1⟩:=y;simp only [Option.bind] at he ⊢;cases e with
   | norm=>exact z7 S1 x he
   | exit i=>exact he
   | ret=>exact he
 | cond c a b z6 z7=>
  intro S x he;simp only [dq] at he ⊢;cases h1:zg S c with
  | none=>simp [h1] at he
  | some t=>
   rw [h1] at he;simp only [Option.bind] at he ⊢;cases t with
   | true=>exact z6 S x he
   | false=>exact z7 S x he
 | block id b ih=>
  intro S x he;simp only [dq] at he ⊢;cases h1:dq A n b S with
  | none=>simp [h1] at he
  | some y=>rw [h1] at he;rw [ih S y h1];exact he
 | loop b ih=>intro S x he;simp only [dq] at he ⊢;exact Z9 ih n S x he
 | exit id=>intro S x he;exact he
 | ret=>intro S x he;exact he
theorem ah0 (h:tR A B) (n:Nat) (fn:lp) (args:List V) (bx:List (List C)) (r) (he:vh A n fn args bx=some r):vh B (n+1) fn args bx=some r:=by
 unfold vh at he ⊢;split at he
 ·rename_i hl;rw [aJ hl];cases h1:dq A n fn.body (ga 0 args++dm 0 bx) with
  | none=>simp [h1] at he
  | some y=>rw [h1] at he;rw [ah1 h n _ _ y h1];exact he
 ·cases he
theorem X4 {t:Nat→Option lp} {p:bX}:∀n,tR (nN t p n) (nN t p (n+1))
 | 0=>fun f vs bx r h=>by cases h
 | n+1=>fun f vs bx r h=>by
  simp only [nN] at h ⊢;cases hx:t f with
  | none=>simp only [hx] at h ⊢;exact h
  | some fn=>simp only [hx] at h ⊢;exact ah0 (X4 n) n fn vs bx r h
end
theorem ae' {n k f:Nat} {vs:List V} {bs:List (List C)} {r:V×List (List C)} (h:T n f vs bs=some r) (hk:n≤k):T k f vs bs=some r:=by
 obtain ⟨j,rfl⟩:∃j,k=n+j:=⟨k - n,by omega⟩
 clear hk;induction j with
 | zero=>exact h
 | succ j ih=>
  unfold T at ih ⊢;exact X4 (n+j) f vs bs r ih
end
section
open Go Go.ax PT
open QQ (hC lQ bF nw nY lX rV pd uD At)
theorem MH {X:Type} (f:X→Nat) (c:Nat):∀l:List X,(∀x∈l,f x≤c)→(l.map f).sum≤l.length * c
 | [],_=>by simp
 | a::t,h=>by
  have h1:=h a kf;have h2:=MH f c t fun x hx=>h x (kF _ hx)
  simp only [fY,yP,fX,lN,Nat.one_mul];omega
def wP (p:PC):Nat:=2+Wn p.ss 0
theorem aqB {p:PC} (hp:gQ p) (hS:SF p.ss):wP p=2+(p.ss.map lF).sum:=by
 unfold wP;rw [aq8 hS (by intro e;have:=hp.s0;rw [e] at this;cases this)]
theorem aej {p:PC} (hp:gQ p) (hh:HD p) (hS:SF p.ss):wP p≤17000:=by
 have:=MH lF 202 p.ss fun s hs=>by
  have:=(hp.s2 s hs).2.2.2;unfold lF;split
  ·omega
  ·split<;>omega
 have mn:=hh.hs;have:p.ss.length * 202≤80 * 202:=p6 _ mn;rw [aqB hp hS];omega
theorem RP {ts:List QQ.TN} (h:uD ts):(lX ts).length≤600:=by
 have st:∀(l:List QQ.TN) (i:Nat),(∀p∈l,At ts.length p)→(rV i l).length≤80 * l.length+2:=by
  intro l;induction l with
  | nil=>intro i _;simp [rV]
  | cons p t ih=>
   intro i h;have h1:=QQ.ad1 (i:=i) (h p kf);have h2:=ih (i+1) fun x hx=>h x (kF _ hx)
   show (pd i p++rV (i+1) t).length≤_;rw [dL,fX];omega
 have:=st ts 0 h.2.2;have:=h.2.1;unfold lX;rw [dL];simp;omega
def mN (gs:List GP):List UInt8:=gs.flatMap fun g=>nY g.nm g.M g.ps
def xX (ls:List LK):List UInt8:=ls.flatMap fun l=>lX l.ts
theorem SZ {g:GP} (h:ky g):(nY g.nm g.M g.ps).length≤40000000:=by
 have:=(aoO h.1 h.2).sz;have:=h.2.2.2.2.1;rw [aoN];omega
abbrev H9 (b1 b2 b3:Bool) (gs:List GP) (ls:List LK) (ay:List PC):List V:=[(.agg [(lC (.im b1) 3 ((gs.map eo).map cX)),(lC (.im b2) 2 (ls.map il)),(lC (.im b3) 4 (ay.map dS))])]
section
variable {m:Nat} {Q:V→List (List C)→Prop} {b1 b2 b3:Bool} {gs:List GP} {ls:List LK} {ay:List PC} {K:fw.T→OR}
theorem acj (q:Nat) (hq:1300≤q) (cL:ay.length≤20) (hp:∀p∈ay,gQ p) (hh:∀p∈ay,HD p∧SF p.ss):∀(c i:Nat) (t:List UInt8),ay.length - i < c→i≤ay.length→t≠[]→t.length+4000000 * ((ay.drop i).map wP).sum≤100000000000000→
  (∀iK,eT 0 0 0 ((ay.drop i).map wP).sum iK→iK.countP oy=ay.length - i→Wp (K (t++fu iK,())) Q)→
  Wp (J0 (T q) q c (bB t) b3 (ay.map dS) (ae (ay.map dS).length) (i:Int)) (J fw K Q)
 | 0,i,t,hc,_,_,_,_=>by omega
 | c+1,i,t,hc,hi,aA,hl,h=>by
  refine aC Ro (ai (fun g1=>?_) (fun g1=>?_))
  ·have af:=bN g1;have hm:=bM af;rw [tG af,fY,yP] at hl h;refine aM (enc:=dS) (f:=tP) (fun a=>⟨by simp [dS],rfl⟩) rfl (gE af) ?_;refine aqP (m:=q) (by omega) (hp _ hm) (hh _ hm).1 (hh _ hm).2 (t:=t) (by unfold wP at hl;omega) fun l0 h0 h0c=>?_
   have hz:=h0.sz;dsimp only;rw [w1 (by omega)];refine acj q hq cL hp hh c (i+1) _ (by omega) (by omega) (fun e=>aA (HB.1 e).1) (by rw [dL];unfold wP at hl ⊢;omega) fun l1 h1 h1c=>?_
   have:=h (l0++l1) (h0.app h1) (by rw [UY,h0c,h1c];omega);rw [vV,←ej] at this;exact this
  ·have eP:=xl g1;have e:ay.drop i=[]:=DX eP;rw [e] at h hl;simp at hl;have hs:=h [] eT.nil (by simp;omega);rw [show fu []=[] from rfl,mR] at hs;have st:=Uc q (by omega) t aA (by omega);refine aC (show c37 (T q) (bB t) _=_ by rw [c37,st,acQ]) (az (aE rfl hs))
theorem acn (q:Nat) (hq:1300≤q) (gg:ls.length≤5) (ly:∀l∈ls,s7 l) (cL:ay.length≤20) (hp:∀p∈ay,gQ p) (hh:∀p∈ay,HD p∧SF p.ss) {b1:Bool}:∀(c i:Nat) (t:List UInt8),ls.length - i < c→i≤ls.length→t≠[]→t.length+600 * (ls.length - i)+4000000 * (ay.map wP).sum≤100000000000000→
  (∀iK,eT 0 0 0 (ay.map wP).sum iK→iK.countP oy=ay.length→Wp (K (t++xX (ls.drop i)++fu iK,())) Q)→
  Wp (F0 (T q) q c (GR b1 b2 b3 (gs.map eo) (ls.map il) ay) (bB t) b2 (ls.map il) (ae (ls.map il).length) (i:Int)) (J fw K Q)
 | 0,i,t,hc,_,_,_,_=>by omega
 | c+1,i,t,hc,hi,aA,hl,h=>by
  refine aC aaj (ai (fun g1=>?_) (fun g1=>?_))
  ·have af:=bN g1;obtain ⟨hn,ho⟩:=ly _ (bM af);have hz:=RP ho;refine aM (enc:=il) (f:=fun l=>(l.nm,(l.b,l.ts.map QQ.cN),())) (fun a=>⟨by simp [il],rfl⟩) rfl (gE af) ?_;dsimp only;rw [hn];refine aC (QQ.Xn (by omega) _ ho rfl) (UB (m:=q) (by omega) (by dsimp only;omega) fun n=>gl rfl ?_);dsimp only;rw [w1 (by omega)];refine acn q hq gg ly cL hp hh c (i+1) _ (by omega) (by omega) (fun e=>aA (HB.1 e).1) (by rw [dL];omega) fun iK h1 h2=>?_
   have:=h iK h1 h2;rw [tG af,show xX (ls[i]::ls.drop (i+1))=lX ls[i].ts++xX (ls.drop (i+1)) from rfl,←ej t] at this;exact this
  ·have eP:=xl g1;have e:ls.drop i=[]:=DX eP;rw [e] at h;refine acj q hq cL hp hh q 0 t (by omega) (by omega) aA (by rw [yK];omega) fun iK h1 h2=>?_
   have:=h iK (by simpa using h1) h2;rw [show xX []=[] from rfl,mR] at this;exact this
theorem aco (q:Nat) (hq:1300≤q) (gu:gs.length≤5) (hg:∀g∈gs,ky g) (gg:ls.length≤5) (ly:∀l∈ls,s7 l) (cL:ay.length≤20) (hp:∀p∈ay,gQ p) (hh:∀p∈ay,HD p∧SF p.ss):∀(c i:Nat) (t:List UInt8),gs.length - i < c→i≤gs.length→(i=gs.length→t≠[])→t.length+40000000 * (gs.length - i)+600 * ls.length+4000000 * (ay.map wP).sum≤100000000000000→
  (∀iK,eT 0 0 0 (ay.map wP).sum iK→iK.countP oy=ay.length→Wp (K (t++mN (gs.drop i)++xX ls++fu iK,())) Q)→
  Wp (F3 (T q) q c (GR b1 b2 b3 (gs.map eo) (ls.map il) ay) (bB t) b1 ((gs.map eo).map cX) (ae ((gs.map eo).map cX).length) (i:Int)) (J fw K Q)
 | 0,i,t,hc,_,_,_,_=>by omega
 | c+1,i,t,hc,hi,aA,hl,h=>by
  refine aC aak (ai (fun g1=>?_) (fun g1=>?_))
  ·have vC:=bN g1;have af:i < gs.length:=by simpa using vC
   have ok:=hg _ (bM af);have hz:=SZ ok;refine aM Mj rfl (a:=eo gs[i]) (by rw [bQ,gE af];rfl) ?_;have hn:(gs[i]).nm∈QQ.lD:=by rcases ok.1 with e | e<;>rw [e]<;>decide
   have lz:(gs[i]).nm.length≤1:=by rcases ok.1 with e | e<;>rw [e]<;>decide
   have QE:nY gs[i].nm gs[i].M gs[i].ps≠[]:=by unfold nY;simp
   have t1:=fun K z hK=>QQ.Xs (m:=q) (K:=K) (z:=z) hn lz (by omega) false false ok.2 hK
   rw [Dw] at t1;refine aC (t1 _ _ rfl) (UB (m:=q) (by omega) (by dsimp only;omega) fun n=>gl rfl ?_);dsimp only;rw [w1 (by omega)];refine aco q hq gu hg gg ly cL hp hh c (i+1) _ (by omega) (by omega) (fun _ e=>QE (HB.1 e).2) (by rw [dL];omega) fun iK h1 h2=>?_
   have:=h iK h1 h2;rw [tG af,show mN (gs[i]::gs.drop (i+1))=nY gs[i].nm gs[i].M gs[i].ps++mN (gs.drop (i+1)) from rfl,←ej t] at this;exact this
  ·have Qi:=xl g1;have eP:gs.length≤i:=by simpa using Qi
   have e:gs.drop i=[]:=DX eP;rw [e] at h;refine acn q hq gg ly cL hp hh q 0 t (by omega) (by omega) (aA (by omega)) (by omega) fun iK h1 h2=>?_
   have:=h iK h1 h2;rw [show mN []=[] from rfl,mR] at this;exact this
theorem aez (hm:60000≤m) {o:V×List (List C)} {x:dv.T} (ho:∀n,50000≤n→T n 12 (H9 b1 b2 b3 gs ls ay) []=some o) (hx:gW dv o=some x) (Jl:gs≠[]) (gu:gs.length≤5) (hg:∀g∈gs,ky g) (gg:ls.length≤5) (ly:∀l∈ls,s7 l) (cL:ay.length≤20) (hp:∀p∈ay,gQ p) (hh:x.1.1=0→∀p∈ay,HD p∧SF p.ss)
  (h0:x.1.1≠0→Wp (K ([],())) Q) (h1:x.1.1=0→∀iK,eT 0 0 0 (ay.map wP).sum iK→iK.countP oy=ay.length→Wp (K (mN gs++xX ls++fu iK,())) Q) :
  Wp (Ep (T m) b1 ((gs.map eo).map cX) b2 (ls.map il) b3 (ay.map dS) K) Q:=by
 obtain ⟨m,rfl⟩:=cG hm;refine bJ XH (kb (ho m (by omega)) hx (ai (fun g=>az (aE rfl (h0 (D3.1 g)))) (fun g=>?_)));have hz:x.1.1=0:=by simpa using g
 have Qm:=hh hz;have hs:=MH wP 17000 ay fun p mA=>aej (hp p mA) (Qm p mA).1 (Qm p mA).2
 have:ay.length * 17000≤20 * 17000:=p6 _ cL;refine aco m (by omega) gu hg gg ly cL hp Qm m 0 [] (by omega) (by omega) (fun e=>absurd (pZ.1 e.symm) Jl) (by simp;omega) fun iK a b=>?_
 exact h1 hz iK a b
end
end
section
open Go Go.ax PT
open QQ (hC lQ bF nw nY lX uD)
theorem afO {b1 b2 b3:Bool} {gs:List GP} {ls:List LK} {ay:List PC} (gu:gs.length≤5) (hg:∀g∈gs,ky g) (gg:ls.length≤5) (ly:∀l∈ls,s7 l) (cL:ay.length≤20) (hp:∀p∈ay,gQ p) :
  ∃(o:V×List (List C)) (x:dv.T),(∀n,50000≤n→T n 12 (H9 b1 b2 b3 gs ls ay) []=some o)∧gW dv o=some x∧(x.1.1=0→∀p∈ay,HD p∧SF p.ss):=by
 classical
 have h:=aqG (m:=50000) (b1:=b1) (b2:=b2) (b3:=b3) (Q:=fun _ _=>True) (by omega) (ls:=ls) (by omega) ly (gs:=gs) (by omega) hg cL hp (K:=fun x=>if x.1.1=0→∀p∈ay,HD p∧SF p.ss then some (.aq [],[]) else none)
  ⟨fun e a b he => by
    show Wp (if (e = 0 → _) then _ else _) _
    rw [aJ fun h => absurd h he]; exact az trivial, fun hh => by
    show Wp (if ((0 : Int) = 0 → _) then _ else _) _
    rw [aJ fun _ => hh]; exact az trivial⟩
 obtain ⟨v,bs,e,_⟩:=h;change aG dv (T 50000 12 (H9 b1 b2 b3 gs ls ay) []) _=_ at e;cases ho:T 50000 12 (H9 b1 b2 b3 gs ls ay) [] with
 | none=>rw [ho] at e;simp [aG] at e
 | some o=>
  rw [ho] at e;simp only [aG] at e;cases hx:gW dv o with
  | none=>rw [hx] at e;cases e
  | some x=>
   rw [hx] at e;refine ⟨o,x,fun n hn=>ae' ho hn,hx,?_⟩;by_cases hP:x.1.1=0→∀p∈ay,HD p∧SF p.ss
   ·exact hP
   ·simp only [aB hP] at e;cases e
section
variable {Q:V→List (List C)→Prop}
theorem aqq (c:UInt8):(ae c.toNat==10)=(c==10):=by
 rw [show (10:Int)=((10:Nat):Int) from rfl,GF];by_cases h:c=10
 ·subst h;rfl
 ·rw [oo.2 h];exact bR fun e=>h (UInt8.toNat_inj.1 e)
theorem AT {i:Nat} (h:i≤100000000000000):ao ((i:Int)+1)=((i+1:Nat):Int):=gF
end
end
section
open Go Go.ax
abbrev T':List D:=[.int .i64 0,.str [],.str [],.str [],.str [],.int .i64 (-1),.sl (.im true) 1 [],.sl (.im true) 3 [],.sl (.im true) 3 [],.int .i64 (-1)]
abbrev SW:List D:=[.str [109,97,105,110],.sl (.im true) 3 [],.sl (.im true) 6 [],.sl (.im false) 10 [T']]
theorem afN (m:Nat):T (m+60) 12 [.agg [lC (.im true) 3 [],lC (.im true) 2 [],lC (.im false) 4 [SW]]] []=some (.agg [iC 0,iC 0,iC 0],[]):=by kernel_rfl
end
section
open Go Go.ax
theorem aoJ (m:Nat):T (m+60) 36 [pE,.agg [sC [109,97,105,110],lC (.im true) 3 [],lC (.im true) 6 [],lC (.im false) 10 [T']]] [bx bm ((),(.im true,[]),())]=some (.aq [],[bx bm ((),(.own,D.dc [112,114,111,99,32,109,97,105,110,40,41,32,123,10,32,32,115,116,111,112,10,125,10]),())]):=by kernel_rfl
theorem ap5 (m:Nat):T (m+60) 15 [.one (lC (.im false) 6 [[(.int .i64 0),(.str [120]),(.int .i64 0),(.str []),(.int .i64 (-1)),(.int .i64 (-1))],[(.int .i64 1),(.str []),(.int .i64 (-1)),(.str []),(.int .i64 (-1)),(.int .i64 (-1))],[(.int .i64 6),(.str []),(.int .i64 0),(.str []),(.int .i64 0),(.int .i64 1)]]),.one (iC 2)] []=some (.one (sC [40,120,32,43,32,45,49,41]),[]):=by kernel_rfl
end
section
open Go Go.ax
theorem aqc {o:OR} {K:au eN×Unit→OR} {z:OR} {a b c:Int} (h:o=some (.agg [iC a,iC b,iC c],[])) (h2:K ((a,b,c,()),())=z):aG dv o K=z:=DN (v:=(a,b,c,())) h rfl h2
theorem aqe {o:OR} {K:Unit×au bm×Unit→OR} {z:OR} {p:au bm} (h:o=some (.aq [],[bx bm p])) (h2:K ((),p,())=z):aG j7 o K=z:=Ui h h2
theorem aqg {o:OR} {K:BB×au yC×Unit→OR} {z:OR} {s:BB} (h:o=some (.one (sC s),[bx yC ((),(),())])) (h2:K (s,((),(),()),())=z):aG Ty o K=z:=by
 subst h;exact h2
theorem aoK (m:Nat):T (m+61) 11 [.agg [lC (.im true) 3 [],lC (.im true) 2 [],lC (.im false) 4 [SW]]] []=some (.one (sC [112,114,111,99,32,109,97,105,110,40,41,32,123,10,32,32,115,116,111,112,10,125,10]),[]):=by
 refine XH _ (aqc (afN m) (bO rfl ?_));rw [aak];refine bO rfl ?_;rw [aaj];refine bO rfl ?_;rw [Ro];refine dx rfl (gZ (i:=0) (v:=([109,97,105,110],(true,[]),(true,[]),(false,[T']),())) rfl (r:=SW) rfl (by decide) rfl (aqe (aoJ m) ?_));dsimp only;rw [Ro];exact bO (by decide) (aqg (Uc (m+60) (by omega) [112,114,111,99,32,109,97,105,110,40,41,32,123,10,32,32,115,116,111,112,10,125,10] (by decide) (by decide)) rfl)
theorem aiP {n:Nat} (hn:100≤n):T n 9 [] []=some (.one (bC true),[]):=by
 obtain ⟨m,rfl⟩:=bl 62 n;exact ags _ (tu (ap5 (m+1)) (dx rfl (tu (aoK m) (dx rfl (tu (QQ.ab3 (m+61) (by omega) (k:=5) (x:=[112,46,97]) (by decide)) rfl)))))
end
section
open Go Go.ax PT
open QQ (hC lQ bF nw nY lX uD)
section
variable {Q:V→List (List C)→Prop} {gs:List GP} {ay:List PC}
end
end
section
open Go Go.ax PT
open QQ (hC lQ bF nw nY lX uD)
theorem aqr (c k:UInt8) {z:Int} (hz:z=(k.toNat:Int)):(ae c.toNat==z)=(c==k):=by
 rw [hz,GF];by_cases h:c=k
 ·subst h;simp
 ·rw [oo.2 h];exact bR fun e=>h (UInt8.toNat_inj.1 e)
theorem V2 {pre b post:List UInt8} {j:Nat} (hj:j < b.length):(pre++(b++post))[pre.length+j]? = b[j]?:=by
 rw [pX (by omega),Nat.add_sub_cancel_left,mS hj]
section
variable {Q:V→List (List C)→Prop} {pre post b s:List UInt8}
end
end
section
open Go Go.ax PT
open QQ (hC lQ bF nw nY lX rV uD)
section
variable {Q:V→List (List C)→Prop} {pre post b s:List UInt8}
theorem ab0 (q:Nat) (hq:1900000000100≤q) (hs:s=pre++(b++10::post)) (hl:s.length≤1900000000000) (hb:NL b) {a0:au DG} {k:Nat} (hZ:∀c,s.length - (pre.length+b.length+1) < c→Wp (CL (T q) q c a0 s (k:Int) ((pre.length+b.length+1:Nat):Int)) Q):∀(c j:Nat),s.length - (pre.length+j) < c→1≤j→j≤b.length+1→
  Wp (CL (T q) q c a0 s (k:Int) ((pre.length+j:Nat):Int)) Q
 | 0,j,hc,_,_=>by omega
 | c+1,j,hc,h1,hj=>by
  have lT:s.length=pre.length+(b.length+(post.length+1)):=by rw [hs];simp
  by_cases h:j=b.length+1
  ·subst h;exact hZ (c+1) hc
  ·obtain ⟨r,hr⟩:=bl 1 q;have e1:uv (T q) q c q=uv (T q) q c (r+1):=by rw [←hr]
   have nx:Wp (uv (T q) q c q a0 s (k:Int) ((pre.length+j:Nat):Int)) Q:=by
    rw [e1];refine aC aam ?_;rw [AT (by omega)];exact ab0 q hq hs hl hb hZ c (j+1) (by omega) (by omega) (by omega)
   have hg:s[pre.length+j]? = some (s[pre.length+j]'(by omega)):=gE _;refine aC Rp (gl (aX (by rw [bI];omega)) (ig rfl (fm hg (ai (fun _=>?_) (fun _=>nx)))));rw [show ao (((pre.length+j:Nat):Int) - 1)=((pre.length+(j - 1):Nat):Int) from gF];have qm:s[pre.length+(j - 1)]? = some (b[j - 1]'(by omega)):=by rw [hs,V2 (show j - 1 < b.length by omega),gE]
   refine ig rfl (fm qm (eh ?_ nx));rw [aqq];exact oo.2 (hb _ (bM _))
theorem ab1 (q:Nat) (hq:1900000000100≤q) (hl:s.length≤1900000000000) {a0:au DG} {n:Nat} (hn:ae a0.2.2.1.2.length=(n:Int)) (Pz:n≤20) (hQ:Q (.one (bC true)) []):∀(ls:List LN) (pre:List UInt8) (k c:Nat),s=pre++fu ls→(∀l∈ls,okL l)→pre.getLast? = some 10→k+ls.countP oy=n→s.length - pre.length < c→
  Wp (CL (T q) q c a0 s (k:Int) (pre.length:Int)) Q
 | _,pre,k,0,_,_,_,_,hc=>by omega
 | [],pre,k,c+1,hs,_,_,hk,_=>by
  have e:s=pre:=by rw [hs];simp [fu]
  have gH:k=n:=by simpa using hk
  refine aC Rp (eh (bR (by rw [bI,e];omega)) (az ?_));rw [hn,gH,D2];exact hQ
 | ⟨d,x⟩::ls,pre,k,c+1,hs,aQ,Cn,hk,hc=>by
  obtain ⟨mz,a,hx,ha⟩:=aQ ⟨d,x⟩ kf;have lU:0 < x.length:=by
   cases x with
   | nil=>cases hx
   | cons=>simp
  generalize hb:List.replicate (2 * d) 32++x=b;have jY:s=pre++(b++10::fu ls):=by rw [hs,vW];unfold rz;rw [hb];simp
  have qu:NL b:=by
   rw [←hb];exact eH.2 ⟨fun y hy=>by rw [aeX hy];decide,mz⟩
  have qh:b.length=2 * d+x.length:=by rw [←hb];simp
  have lT:s.length=pre.length+(b.length+((fu ls).length+1)):=by rw [jY];simp
  have hp0:0 < pre.length:=by cases pre with | nil=>cases Cn | cons=>simp
  obtain ⟨r,hr⟩:=bl 1 q;have e1:uv (T q) q c q=uv (T q) q c (r+1):=by rw [←hr]
  have nx:∀k',k'+ls.countP oy=n→Wp (uv (T q) q c q a0 s (k':Int) (pre.length:Int)) Q:=by
   intro k' gH;rw [e1];refine aC aam ?_;rw [AT (by omega)];have hlen:(pre++(b++[10])).length=pre.length+b.length+1:=by simp;omega
   refine ab0 q hq jY hl qu (fun c' kO=>?_) c 1 (by omega) (by omega) (by omega);have:=ab1 q hq hl hn Pz hQ ls (pre++(b++[10])) k' c' (by rw [jY];simp) (fun l hl=>aQ l (kF _ hl)) (by rw [←ej,wT];rfl) gH (by rw [hlen];exact kO);rw [hlen] at this;exact this
  obtain ⟨y,hy⟩:∃y,b.head? = some y:=by
   cases h:b.head? with
   | none=>rw [List.head?_eq_none_iff.1 h] at qh;simp at qh;omega
   | some y=>exact ⟨y,rfl⟩
  have aS:oy ⟨d,x⟩=(y==125):=by
   rw [←hb] at hy;cases d with
   | zero=>
    have hxy:x.head? = some y:=hy;unfold oy;rw [hxy];by_cases h:y=125
    ·subst h;rfl
    ·rw [oo.2 h];simp [h]
   | succ d=>
    have:y=32:=by
     rw [show 2 * (d+1)=(2 * d+1)+1 by omega,Vc] at hy;exact (tM hy).symm
    subst this;rfl
  have hg:s[pre.length]? = some y:=by
   rw [jY];have:=V2 (pre:=pre) (b:=b) (post:=10::fu ls) (j:=0) (by omega);rw [jn] at this;rw [this,←List.head?_eq_getElem?];exact hy
  have zL:s[pre.length - 1]? = some 10:=by
   rw [jY,mS (by omega),←List.getLast?_eq_getElem?];exact Cn
  rw [List.countP_cons,aS] at hk;refine aC Rp (gl (aX (by rw [bI];omega)) (ig rfl (fm hg ?_)));rw [aqr (z:=125) _ 125 rfl];refine ai (fun g=>?_) (fun g=>?_)
  ·rw [g,aJ rfl] at hk;rw [show ao ((pre.length:Int) - 1)=((pre.length - 1:Nat):Int) from gF];refine ig rfl (fm zL (gl rfl ?_));rw [wI k];exact nx (k+1) (by omega)
  ·rw [g,aB (by simp)] at hk;exact nx k (by omega)
theorem ab6:∀l:List LK,aV (l.map il)=l.map il
 | []=>rfl
 | a::t=>by simp only [fY,aV,ab6 t];rfl
theorem anS (ts:List QQ.TN):(lX ts).getLast? = some 10:=by
 have st:∀(l:List QQ.TN) (i:Nat),(rV i l).getLast? = some 10:=by
  intro l;induction l with
  | nil=>intro i;rfl
  | cons p t ih=>intro i;show (QQ.pd i p++rV (i+1) t).getLast? = _;rw [wT,ih];rfl
 unfold lX;rw [wT,st];rfl
theorem S4:∀{gs:List GP},(∀g∈gs,ky g)→(mN gs).length≤40000000 * gs.length
 | [],_=>by simp [mN]
 | g::t,h=>by
  have h1:=SZ (h g kf);have h2:=S4 fun x hx=>h x (kF _ hx)
  show (nY g.nm g.M g.ps++mN t).length≤_;rw [dL,fX];omega
theorem abZ (q:Nat) (hq:2000000000≤q) {gs:List GP} {ay:List PC} {L:LK} (hL:s7 L) (gu:gs.length≤5) (hg:∀g∈gs,ky g)
  (hZ:∀K:fw.T→OR,K=(fun aO=>(bif (decide (ae (List.length aO.1) < ae (mN gs++lX L.ts).length)) then rF else (gd (decide ((ae (mN gs++lX L.ts).length).toNat≤List.length aO.1)) (bif (!List.take ((ae (mN gs++lX L.ts).length).toNat - 0) (List.drop 0 aO.1)==mN gs++lX L.ts) then rF else (F4 (T q) q q ((false,(gs.map eo).map cX),[L].map il,(false,ay.map dS),()) (mN gs++lX L.ts) aO.1)))))→Wp (Ep (T q) false ((gs.map eo).map cX) false ([L].map il) false (ay.map dS) K) Q):∀(c i:Nat),gs.length - i < c→i≤gs.length→
  Wp (J8 (T q) q c ((false,(gs.map eo).map cX),[L].map il,(false,ay.map dS),()) (mN (gs.take i)) (i:Int)) Q
 | 0,i,hc,_=>by omega
 | c+1,i,hc,hi=>by
  have hlen:=S4 fun g (qm:g∈gs.take i)=>hg g (A4 qm)
  have ri:(gs.take i).length≤5:=by simp;omega
  refine aC akX (ai (fun g1=>?_) (fun g1=>?_))
  ·have vC:=bN g1;have af:i < gs.length:=by simpa using vC
   have Zd:gs[i]? = some gs[i]:=gE af;have ok:=hg _ (bM af);have hz:=SZ ok;refine aM Mj rfl (a:=eo gs[i]) (by rw [bQ,Zd];rfl) ?_;have hn:(gs[i]).nm∈QQ.lD:=by rcases ok.1 with e | e<;>rw [e]<;>decide
   have lz:(gs[i]).nm.length≤1:=by rcases ok.1 with e | e<;>rw [e]<;>decide
   have t1:=fun K z hK=>QQ.Xs (m:=q) (K:=K) (z:=z) hn lz (by omega) false false ok.2 hK
   rw [Dw] at t1;refine aC (t1 _ _ rfl) (cg (by dsimp only;omega) ?_);dsimp only;rw [w1 (by omega)];have ih:=abZ q hq hL gu hg hZ c (i+1) (by omega) (by omega);rw [tK,Zd,show mN (gs.take i++(some gs[i]).toList)=mN (gs.take i)++nY gs[i].nm gs[i].M gs[i].ps by simp only [mN,U3,Option.toList_some,DY,List.flatMap_nil,mR]] at ih;exact ih
  ·have Qi:=xl g1;have eP:gs.length≤i:=by simpa using Qi
   have hz:=RP hL.2;rw [HJ eP] at hlen ⊢;refine aD rfl (fm (b:=il L) rfl (aD rfl (iA (v:=(L.nm,(L.b,L.ts.map QQ.cN),())) rfl ?_)));dsimp only;rw [hL.1];refine aC (QQ.Xn (by omega) _ hL.2 rfl) (cg (by dsimp only;omega) (aD rfl ?_));dsimp only;rw [dj,ab6];exact hZ _ rfl
theorem aoA {m:Nat} (hm:2000000000000≤m) {l l2:List Int} (hl:l.length * 8≤140737488355328) (dO:l2.length * 8≤140737488355328) {b b':Bool}:T m 7 [.one (lC (.im b) 1 (l.map bF)),.one (lC (.im b') 1 (l2.map bF))] []=some (.one (bC true),[]):=by
 obtain ⟨m,rfl⟩:=cG hm;suffices h:Wp _ fun v bs=>v = .one (bC true)∧bs=[] by
  obtain ⟨v,bs,e,rfl,rfl⟩:=h;exact agr _ e
 refine aC (og (aiP (n:=m) (by omega)) rfl) (eh rfl (aqQ (m:=m) (by omega) hl fun gs ay Jl gu hg hpn cL hp=>?_));refine aek (m:=m) (by omega) dO fun d hd=>?_
 obtain ⟨ts,d',QX,dy,e⟩:=QQ.anT m (by omega) false (s:=[[112,46,97]]) ⟨by simp,fun x hx=>by simp at hx;subst hx;decide⟩ hd;refine kb (x:=(([122,122],(false,ts.map QQ.cN),()),d',())) e (by simp only [gW,oA,tX,EB];rfl) ?_;generalize YS:(⟨false,[122,122],ts⟩:LK)=L;have hL:s7 L:=by rw [←YS];exact ⟨rfl,QX⟩
 have c6:[[(D.str [122,122]),(.sl (.im false) 3 (ts.map QQ.cN))]]=[L].map il:=by rw [←YS];rfl
 have ly:∀x∈[L],s7 x:=fun x hx=>by rw [tJ.1 hx];exact hL
 obtain ⟨o,x,ho,hx,hh⟩:=afO (b1:=false) (b2:=false) (b3:=false) (gs:=gs) (ls:=[L]) (ay:=ay) (by omega) hg (by simp) ly cL hp;dsimp only;rw [c6];refine kb (ho m (by omega)) hx (ai (fun g=>?_) (fun g=>?_))
 ·have hz:x.1.1≠0:=D3.1 g;refine aez (ls:=[L]) (m:=m) (by omega) ho hx Jl (by omega) hg (by simp) ly cL hp hh (fun _=>?_) (fun h=>absurd h hz);exact az ⟨rfl,rfl⟩
 ·have hz:x.1.1=0:=by simpa using g
  refine abZ (Q:=fun v bs=>v = .one (bC true)∧bs=[]) m (by omega) hL (by omega) hg (fun K hK=>?_) m 0 (by omega) (by omega);subst hK;refine aez (ls:=[L]) (m:=m) (by omega) ho hx Jl (by omega) hg (by simp) ly cL hp hh (fun h=>absurd hz h) (fun _ iK h1 h2=>?_);have hs:=MH wP 17000 ay fun p mA=>aej (hp p mA) (hh hz p mA).1 (hh hz p mA).2
  have:ay.length * 17000≤20 * 17000:=p6 _ cL;have bf:=h1.sz;have hpz:=S4 hg;have hlz:=RP hL.2;rw [show xX [L]=lX L.ts by simp [xX]];generalize hP:mN gs++lX L.ts=P;have hPl:P.length≤40000000 * 5+600:=by rw [←hP,dL];omega
  have aji:P.getLast? = some 10:=by rw [←hP,wT,anS];rfl
  obtain ⟨r,hr⟩:=bl 1 m;have e2:F4 (T m) m m=F4 (T m) m (r+1):=by rw [←hr]
  have hlen:(P++fu iK).length≤1900000000000:=by rw [dL];omega
  refine eh (bR (by dsimp only;rw [bI,bI,dL];omega)) (aD (aX (by dsimp only;rw [bI,dL];omega)) (eh ?_ ?_))
  ·dsimp only;rw [bI,Na,A6,yK,List.take_left,D2];rfl
  ·rw [e2];refine aC akW ?_;exact ab1 (Q:=fun v bs=>v = .one (bC true)∧bs=[]) m (by omega) hlen (a0:=((false,(gs.map eo).map cX),[L].map il,(false,ay.map dS),())) (n:=ay.length) (by rw [bI];show (((ay.map dS).length:Nat):Int)=_;rw [cf]) cL ⟨rfl,rfl⟩ iK P 0 m rfl (fun l hl=>(h1.ok l hl).1) aji (by omega) (by omega)
end
end
end Go.Proofs.YtfmpdgeiodnnfaaGreatDoor
namespace Go.ax
section
def Gu (P:Program):Nat→List Field→Option Nat
 | o,[]=>some o
 | o,f::t=>if f.offset=o then Gu P (o+P.cellsOf f.type) t else none
def l9 (P:Program):Nat→TypeId→Bool
 | 0,_=>false
 | n+1,t=>match P.underlying t with
  | some .bool=>P.cellsOf t==1
  | some (.int _)=>P.cellsOf t==1
  | some .string=>P.cellsOf t==1
  | some (.slice e)=>P.cellsOf t==1&&decide (0 < P.cellsOf e)&&l9 P n e
  | some (.struct fs)=>fs.toList.all (fun f=>l9 P n f.type)&&Gu P 0 fs.toList==some (P.cellsOf t)
  | _=>false
theorem mapM_mono {α β:Type} {f g:α→Option β}:∀{l:List α} {ys:List β},l.mapM f=some ys→(∀i∈l,∀y,f i=some y→g i=some y)→l.mapM g=some ys
 | [],ys,h,_=>by simpa using h
 | x::l,ys,h,hm=>by
  rw [mT] at h ⊢;obtain ⟨y,h1,h2⟩:=bind_some h;obtain ⟨t,h3,h4⟩:=bind_some h2;rw [hm x (kf ..) y h1];show (List.mapM g l >>= fun bs=>pure (y::bs))=some ys;rw [mapM_mono h3 (fun i hi=>hm i (kF _ hi))];exact h4
section
variable {H:Type} {enc:TypeId×Value→H} {P:Program} {W W':World} {rN:Nat→Bool}
theorem afJ (hold:∀B,B < W.heap.size→W'.heap[B]? = W.heap[B]?) {b n:Nat} {a:Addr} {cs:List Value} (h:W.cells? b a n=some cs):W'.cells? b a n=some cs:=by
 unfold World.cells? at h ⊢;split at h
 ·rename_i hb;rw [aJ hb];refine mapM_mono h (fun i _ y hy=>?_);have af:(a.add i).block < W.heap.size:=by
   unfold World.cell? at hy;split at hy
   ·rename_i hc;exact (lL.1 hc).1
   ·cases hy
  unfold World.cell? at hy ⊢;rw [hold _ af];exact hy
 ·cases h
theorem afK {b n:Nat} {a:Addr} {cs:List Value} (hn:0 < n) (h:W.cells? b a n=some cs):a.block < W.heap.size:=by
 unfold World.cells? at h;split at h
 ·cases n with
  | zero=>omega
  | succ n=>
   rw [ae1,mT] at h;obtain ⟨y,h1,_⟩:=bind_some h;unfold World.cell? at h1;split at h1
   ·rename_i hc;exact (lL.1 hc).1
   ·cases h1
 ·cases h
theorem abi {α β:Type} {f:α→Option β} {g:Nat→α→Option β} (hg:∀a b i y,a≤b→g a i=some y→g b i=some y):∀{l:List α} {ys:List β},l.mapM f=some ys→(∀i∈l,∀y,f i=some y→∃m,g m i=some y)→∃m,l.mapM (g m)=some ys
 | [],ys,h,_=>⟨0,by simpa using h⟩
 | x::l,ys,h,hm=>by
  rw [mT] at h;obtain ⟨y,h1,h2⟩:=bind_some h;obtain ⟨t,h3,h4⟩:=bind_some h2;obtain ⟨m1,k1⟩:=hm x (kf ..) y h1;obtain ⟨m2,k2⟩:=abi hg h3 (fun i hi=>hm i (kF _ hi));refine ⟨max m1 m2,?_⟩;rw [mT,hg m1 _ x y (Nat.le_max_left ..) k1];show (List.mapM (g (max m1 m2)) l >>= fun bs=>pure (y::bs))=some ys;rw [mapM_mono k2 (fun i _ y hy=>hg m2 _ i y (Nat.le_max_right ..) hy)];exact h4
theorem aqk (hold:∀B,B < W.heap.size→W'.heap[B]? = W.heap[B]?) (uq:∀b,b < W.heap.size→rN b=true):∀(n:Nat) (t:TypeId) (fuel:Nat) (cs:List Value) (x:DataW H×List MemPlace),l9 P n t=true→
  DataW.trod enc P W 0 (fun _=>true) true fuel t cs=some x→∃m,DataW.trod enc P W' 0 rN true m t cs=some x:=by
 intro n;induction n with
 | zero=>intro t fuel cs x hs;simp [l9] at hs
 | succ n ih=>
  intro t fuel cs x hs h;simp only [l9] at hs;split at hs
  ·rename_i hu;cases fuel with
   | zero=>simp [DataW.trod] at h
   | succ fuel=>
    refine ⟨1,?_⟩;rw [DataW.trod_step] at h ⊢;unfold DataW.trodStep at h ⊢;simp only [hu] at h ⊢;split at h<;>simp_all
  ·rename_i hu;cases fuel with
   | zero=>simp [DataW.trod] at h
   | succ fuel=>
    refine ⟨1,?_⟩;rw [DataW.trod_step] at h ⊢;unfold DataW.trodStep at h ⊢;simp only [hu] at h ⊢;split at h<;>simp_all
  ·rename_i hu;cases fuel with
   | zero=>simp [DataW.trod] at h
   | succ fuel=>
    refine ⟨1,?_⟩;rw [DataW.trod_step] at h ⊢;unfold DataW.trodStep at h ⊢;simp only [hu] at h ⊢;split at h<;>simp_all
  ·rename_i e hu;simp only [bK,fB] at hs;obtain ⟨⟨_,E5⟩,mB⟩:=hs;rcases Go.Deep.open_slice hu h with ⟨rfl,rfl⟩ | ⟨a,len,cap,m,k,Dd,Pl,rfl,hb,hl,hm,Fu,rfl,hx⟩
   ·refine ⟨1,?_⟩;rw [DataW.trod_step];unfold DataW.trodStep;simp only [hu]
   ·have Ft:m=cap:=by simpa using Fu
    subst Ft;have fI:∀i,i < m→∃cs n,W'.cells? 0 (a.add (i * P.cellsOf e)) (P.cellsOf e)=some cs∧DataW.trod enc P W' 0 rN true n e cs=some (Dd i,Pl i):=by
     intro i hi;obtain ⟨ez,h1,h2⟩:=hx i hi;obtain ⟨m',h3⟩:=ih e k ez _ mB h2;exact ⟨ez,m',afJ hold h1,h3⟩
    cases lS:rN a.block with
    | true=>exact Go.Deep.shut_slice_whole_cells hu hb hl hm lS Dd Pl fI
    | false=>
     have xo:m=0:=by
      rcases Nn m with h0 | h0
      ·exact h0
      ·obtain ⟨ez,h1,_⟩:=hx 0 h0;have:=uq _ (afK E5 h1);have e1:(a.add (0 * P.cellsOf e)).block=a.block:=by first | rfl | (unfold Addr.add;split<;>rfl) | (unfold Addr.add;simp)
       rw [e1,lS] at this;cases this
     subst xo;obtain rfl:len=0:=by omega
     exact Go.Deep.shut_slice_cells hu hb hl hm lS Dd Pl (fun i hi=>by omega)
  ·rename_i fs hu;simp only [bK,lM] at hs;cases fuel with
   | zero=>simp [DataW.trod] at h
   | succ fuel=>
    rw [DataW.trod_step] at h;unfold DataW.trodStep at h;simp only [hu] at h;split at h
    ·rename_i hl;obtain ⟨xs,h1,h2⟩:=bH h;obtain ⟨m,h3⟩:=abi (g:=fun m (f:Field)=>DataW.trod enc P W' 0 rN true m f.type ((cs.drop f.offset).take (P.cellsOf f.type))) (fun a b i y jU hy=>DataW.trod_le jU hy) h1 (fun f hf y hy=>ih f.type fuel _ y (hs.1 f hf) hy);refine ⟨m+1,?_⟩;rw [DataW.trod_step];unfold DataW.trodStep;simp only [hu];rw [aJ hl,h3,h2];rfl
    ·cases h
  ·cases hs
end
end
section
mutual
def gA {H:Type} (P:Program):Nat→TypeId→DataW H→Option (List D)
 | 0,_,_=>none
 | n+1,t,d=>match P.underlying t,d with
  | some .bool,.lit (.bool b)=>some [.bool b]
  | some (.int _),.lit (.int k z)=>some [.int k z]
  | some .string,.lit (.string l)=>some [.str l]
  | some (.slice e),.nil=>some [.sl (.im true) (P.cellsOf e) []]
  | some (.slice e),.slice elems _=>(elems.mapM (gA P n e)).map fun rows=>[.sl (.im false) (P.cellsOf e) rows]
  | some (.struct fs),.agg ds=>xd P n fs.toList ds
  | _,_=>none
def xd {H:Type} (P:Program):Nat→List Field→List (DataW H)→Option (List D)
 | _,[],[]=>some []
 | n,f::fs,d::ds=>(gA P n f.type d).bind fun x=>(xd P n fs ds).map (x ++ ·)
 | _,_,_=>none
end
section
variable {H:Type} {enc:TypeId×Value→H} {P:Program} {W:World} {L:aw}
theorem Xi {b n:Nat} {a:Addr} {cs:List Value} (h:W.cells? b a n=some cs):cs.length=n∧∀j,j < n→W.cell? (a.add j)=cs[j]?:=by
 unfold World.cells? at h;split at h
 ·have hl:∀(l:List Nat) (ys:List Value),l.mapM (fun i=>W.cell? (a.add i))=some ys→ys.length=l.length∧∀(j:Nat) i,l[j]? = some i→W.cell? (a.add i)=ys[j]?:=by
   intro l;induction l with
   | nil=>
    intro ys hy;have:ys=[]:=by simpa using hy.symm
    subst this;exact ⟨rfl,fun j i hj=>by simp at hj⟩
   | cons x l ih=>
    intro ys hy;rw [mT] at hy;obtain ⟨y,h1,h2⟩:=bind_some hy;obtain ⟨t,h3,h4⟩:=bind_some h2;cases h4;obtain ⟨g1,g2⟩:=ih t h3;refine ⟨by simp [g1],fun j i hj=>?_⟩;cases j with
    | zero=>simp at hj;subst hj;simpa using h1
    | succ j=>simpa using g2 j i (by simpa using hj)
  obtain ⟨h1,h2⟩:=hl _ _ h;refine ⟨by simpa using h1,fun j hj=>h2 j j (by simp [hj])⟩
 ·cases h
theorem Xf {a:Addr} {u:Value} (h:W.cell? a=some u):a.spot=none∧∃cur e fz,W.heap[a.block]? = some (.cells cur e fz)∧cur[a.off]? = some u:=by
 unfold World.cell? at h;split at h
 ·rename_i c e fz hc;split at h
  ·cases h
  ·rename_i hs;refine ⟨by simpa using hs,c,e,fz,hc,h⟩
 ·cases h
def tO (W:World) (L:aw) (l:List D) (cs:List Value):Prop:=l.length=cs.length∧∀(j:Nat) y u,l[j]? = some y→cs[j]? = some u→fL W L y u
theorem tO.app {l l':List D} {cs ez:List Value} (h:tO W L l cs) (h':tO W L l' ez):tO W L (l++l') (cs++ez):=by
 refine ⟨by simp [h.1,h'.1],fun j y u hy hu=>?_⟩;by_cases hj:j < l.length
 ·rw [mS hj] at hy;rw [mS (by rw [←h.1];exact hj)] at hu;exact h.2 j y u hy hu
 ·rw [pX (by omega)] at hy;rw [pX (by rw [←h.1];omega),←h.1] at hu;exact h'.2 _ y u hy hu
theorem Yn {n fuel:Nat} (ih:∀(t:TypeId) (cs:List Value) (x:DataW H×List MemPlace),l9 P n t=true→DataW.trod enc P W 0 (fun _=>true) true fuel t cs=some x→∃l,gA P n t x.1=some l∧tO W L l cs∧cs.length=P.cellsOf t) (cs:List Value) :
  ∀(fl:List Field) (o e:Nat) {xs:List (DataW H×List MemPlace)},Gu P o fl=some e→(∀f∈fl,l9 P n f.type=true)→cs.length=e→(fl.mapM fun f=>DataW.trod enc P W 0 (fun _=>true) true fuel f.type ((cs.drop f.offset).take (P.cellsOf f.type)))=some xs→
   ∃l,xd P n fl (xs.map (·.1))=some l∧tO W L l (cs.drop o)
 | [],o,e,xs,h,_,hl,hx=>by
  simp only [Gu,aj] at h;have:xs=[]:=by simpa using hx.symm
  subst this;refine ⟨[],by simp [xd],?_,fun j y u hy=>by simp at hy⟩;simp;omega
 | f::fl,o,e,xs,h,hs,hl,hx=>by
  simp only [Gu] at h;split at h
  ·rename_i ho;rw [mT] at hx;obtain ⟨y,h1,h2⟩:=bind_some hx;obtain ⟨t,h3,h4⟩:=bind_some h2;cases h4;obtain ⟨l1,k1,k2,k3⟩:=ih _ _ _ (hs f (kf ..)) h1;obtain ⟨l2,k4,k5⟩:=Yn ih cs fl _ e h (fun g hg=>hs g (kF _ hg)) hl h3;refine ⟨l1++l2,by simp [xd,k1,k4],?_⟩;have:=k2.app k5;rw [ho,←U1,List.take_append_drop] at this;exact this
  ·cases h
theorem aqj (hL:∀B cur e fz,W.heap[B]? = some (.cells cur e fz)→L B=some .bh):∀(n:Nat) (fuel:Nat) (t:TypeId) (cs:List Value) (x:DataW H×List MemPlace),l9 P n t=true→
  DataW.trod enc P W 0 (fun _=>true) true fuel t cs=some x→∃l,gA P n t x.1=some l∧tO W L l cs∧cs.length=P.cellsOf t:=by
 intro n;induction n with
 | zero=>intro fuel t cs x hs;simp [l9] at hs
 | succ n ih=>
  intro fuel t cs x hs h;simp only [l9] at hs;have one:∀{y:D} {u:Value},fL W L y u→tO W L [y] [u]:=by
   intro y u hr;refine ⟨rfl,fun j y' u' h1 h2=>?_⟩;cases j with
   | zero=>simp at h1 h2;subst h1;subst h2;exact hr
   | succ j=>simp at h1
  cases fuel with
  | zero=>simp [DataW.trod] at h
  | succ fuel=>
  split at hs
  ·rename_i hu;simp only [eW] at hs;rw [DataW.trod_step] at h;unfold DataW.trodStep at h;rw [hu] at h;have:∃b,cs=[.bool b]∧x=(.lit (.bool b),[]):=by
    rcases cs with _ | ⟨c,_ | ⟨c2,t⟩⟩
    ·simp at h
    ·cases c<;>simp at h;exact ⟨_,rfl,h.symm⟩
    ·simp at h
   obtain ⟨b,rfl,rfl⟩:=this;exact ⟨[.bool b],by simp [gA,hu],one .bool,by simp [hs]⟩
  ·rename_i k hu;simp only [eW] at hs;rw [DataW.trod_step] at h;unfold DataW.trodStep at h;rw [hu] at h;have:∃z,cs=[.int k z]∧x=(.lit (.int k z),[]):=by
    rcases cs with _ | ⟨c,_ | ⟨c2,t⟩⟩
    ·simp at h
    ·cases c<;>simp at h;obtain ⟨⟨rfl,_⟩,h⟩:=h;exact ⟨_,rfl,h.symm⟩
    ·simp at h
   obtain ⟨z,rfl,rfl⟩:=this;exact ⟨[.int k z],by simp [gA,hu],one .int,by simp [hs]⟩
  ·rename_i hu;simp only [eW] at hs;rw [DataW.trod_step] at h;unfold DataW.trodStep at h;rw [hu] at h;have:∃z:ByteArray,cs=[.string z]∧x=(.lit (.string z.data.toList),[]):=by
    rcases cs with _ | ⟨c,_ | ⟨c2,t⟩⟩
    ·simp at h
    ·cases c<;>simp at h;exact ⟨_,rfl,h.2.symm⟩
    ·simp at h
   obtain ⟨z,rfl,rfl⟩:=this;refine ⟨[.str z.data.toList],by simp [gA,hu],one ?_,by simp [hs]⟩;exact .str
  ·rename_i e hu;simp only [bK,fB,eW] at hs;obtain ⟨⟨dH,E5⟩,mB⟩:=hs;rcases Go.Deep.open_slice hu h with ⟨rfl,rfl⟩ | ⟨a,len,cap,m,k,Dd,Pl,rfl,hb,hl,hm,Fu,rfl,hx⟩
   ·exact ⟨[.sl (.im true) (P.cellsOf e) []],by simp [gA,hu],one .nil,by simp [dH]⟩
   ·have Ft:m=cap:=by simpa using Fu
    subst Ft;have uf:∀i,i < m→∃ez l,W.cells? 0 (a.add (i * P.cellsOf e)) (P.cellsOf e)=some ez∧gA P n e (Dd i)=some l∧tO W L l ez∧ez.length=P.cellsOf e:=by
     intro i hi;obtain ⟨ez,h1,h2⟩:=hx i hi;obtain ⟨l,k1,k2,k3⟩:=ih k e ez _ mB h2;exact ⟨ez,l,h1,k1,k2,k3⟩
    let R:Nat→List D:=fun i=>(gA P n e (Dd i)).getD []
    have vM:(((List.range len).map Dd).mapM (gA P n e))=some ((List.range len).map R):=by
     have:∀(l:List Nat),(∀i∈l,i < m)→((l.map Dd).mapM (gA P n e))=some (l.map R):=by
      intro l;induction l with
      | nil=>intro _;rfl
      | cons i l ihl=>
       intro hi;obtain ⟨_,r,_,k1,_⟩:=uf i (hi i (kf ..));rw [fY,mT,k1];show (List.mapM (gA P n e) (l.map Dd) >>= fun bs=>pure (r::bs))=_;rw [ihl (fun i h=>hi i (kF _ h))];simp [R,k1]
     exact this _ (fun i hi=>by have:=tI.1 hi;omega)
    refine ⟨[.sl (.im false) (P.cellsOf e) ((List.range len).map R)],by simp [gA,hu,vM],one ?_,by simp [dH]⟩;by_cases nR:len=0
    ·subst nR;exact .mL
    ·
     obtain ⟨gV,l0,h1,_,_,_⟩:=uf 0 (by omega);obtain ⟨g1,g2⟩:=Xi h1;have hc:=g2 0 E5;obtain ⟨u0,sN⟩:∃u,gV[0]? = some u:=⟨gV[0]'(by rw [g1];exact E5),ke _⟩
     rw [sN] at hc;obtain ⟨uq,cur,te,fz,hB,_⟩:=Xf hc;have ha0:((a.add (0 * P.cellsOf e)).add 0)=a:=by simp [Addr.add]
     rw [ha0] at uq hB;obtain ⟨B,o,sp⟩:=a;simp only at uq hB;subst uq;have ug:∀i c,i < m→c < P.cellsOf e→∃ez l,gA P n e (Dd i)=some l∧tO W L l ez∧ez.length=P.cellsOf e∧cur[o+i * P.cellsOf e+c]? = ez[c]?:=by
      intro i c hi da;obtain ⟨ez,l,q1,q2,q3,q4⟩:=uf i hi;refine ⟨ez,l,q2,q3,q4,?_⟩;have q5:=(Xi q1).2 c da;obtain ⟨u,jv⟩:∃u,ez[c]? = some u:=⟨ez[c]'(by rw [q4];exact da),ke _⟩
      rw [jv] at q5 ⊢;obtain ⟨_,dU,te',ub,r1,r2⟩:=Xf q5;rw [ov,ov] at r1 r2;rw [hB] at r1;cases r1;exact r2
     have fG:∀i c y,cellOf ((List.range len).map R) i c=some y→i < m∧c < P.cellsOf e∧∃u,cur[o+i * P.cellsOf e+c]? = some u∧fL W L y u:=by
      intro i c y hy;obtain ⟨r,hr,rf⟩:=kK.1 hy;rw [bQ] at hr;obtain ⟨i',uh,rfl⟩:=bH hr;have kP:i < len:=by
       have:=(cA.1 uh).1;simpa using this
      have hii:i'=i:=by simp [kP] at uh;exact uh.symm
      subst hii;obtain ⟨cs1,l1,t1,t2,t3,t4⟩:=uf i' (by omega);have hR:R i'=l1:=by simp [R,t2]
      rw [hR] at rf;have da:c < P.cellsOf e:=by rw [←t4,←t3.1];exact (cA.1 rf).1
      obtain ⟨Bx,l2,s1,s2,s3,s4⟩:=ug i' c (by omega) da;rw [t2] at s1;cases s1;obtain ⟨u,jv⟩:∃u,Bx[c]? = some u:=⟨Bx[c]'(by rw [s3];exact da),ke _⟩
      exact ⟨by omega,da,u,s4.trans jv,s2.2 c y u rf jv⟩
     have gC:((List.range len).map R).length=len:=by simp
     have:=@fL.pl W L (P.cellsOf e) ((List.range len).map R) B o m cur te fz (fun i c=>cur.getD (o+i * P.cellsOf e+c) undef) (by intro h;rw [h] at gC;simp at gC;omega) E5 (by rw [gC];exact hl) (hL B cur te fz hB) hB ?_ ?_ ?_
     ·rw [gC] at this;exact this
     ·intro r hr;obtain ⟨i,hi,rfl⟩:=iD.1 hr;have kP:=tI.1 hi;obtain ⟨cs1,l1,t1,t2,t3,t4⟩:=uf i (by omega);have hR:R i=l1:=by simp [R,t2]
      rw [hR,t3.1,t4]
     ·intro i c y hy;obtain ⟨_,_,u,h1,_⟩:=fG i c y hy;rw [h1,iB,h1];rfl
     ·intro i c y hy;obtain ⟨_,_,u,h1,h2⟩:=fG i c y hy;rw [iB,h1];exact h2
  ·rename_i fs hu;simp only [bK,lM,eW] at hs;rw [DataW.trod_step] at h;unfold DataW.trodStep at h;simp only [hu] at h;split at h
   ·rename_i hl;obtain ⟨xs,h1,h2⟩:=bH h;subst h2;obtain ⟨l,k1,k2⟩:=Yn (fun t cs x=>ih fuel t cs x) cs fs.toList 0 _ hs.2 hs.1 hl h1;exact ⟨l,by simp [gA,hu,k1],by simpa using k2,hl⟩
   ·cases h
  ·cases hs
end
end
section
def tU (P:Program) (t:TypeId) (l:List D):V:=
 match P.underlying t with
 | some (.struct _)=>.agg (l.map .d)
 | _=>.one (.d (l.headD .dead))
def yY {H:Type} (P:Program) (n:Nat):List TypeId→List (DataW H)→Option (List V)
 | [],[]=>some []
 | t::ts,d::ds=>(gA P n t d).bind fun l=>(yY P n ts ds).map (tU P t l :: ·)
 | _,_=>none
def tq (W:World):aw:=fun B=>match W.heap[B]? with | some (.cells ..)=>some .bh | _=>none
section
variable {H:Type} {enc:TypeId×Value→H} {P:Program} {W W':World} {nm:FuncId→Option Nat} {G:Nat→Option Obj} {Cl:bX}
theorem ad4 {B:Nat} {cur:Array Value} {e:TypeId} {fz:Nat×Nat} (h:W.heap[B]? = some (.cells cur e fz)):tq W B=some .bh:=by simp [tq,h]
theorem DM {B:Nat} {l:bS} (h:tq W B=some l):l = .bh∧∃cur e fz,W.heap[B]? = some (.cells cur e fz):=by
 unfold tq at h;split at h
 ·rename_i c e fz hc;simp only [aj] at h;exact ⟨h.symm,c,e,fz,hc⟩
 ·cases h
theorem afd {n base:Nat} {t:TypeId} {v:Value} {d:DataW H} {ps:List MemPlace} (cr:Value.okWide P W .any base t v) (hs:l9 P n t=true) (ht:DataW.Trod enc P W 0 (fun _=>true) true t v d ps) :
  ∃l,gA P n t d=some l∧∀γ k,bD nm W (tq W) γ k (tU P t l) v:=by
 obtain ⟨fuel,h⟩:=ht;obtain ⟨l,h1,h2,h3⟩:=aqj (L:=tq W) (fun B cur e fz h=>ad4 h) n fuel t _ _ hs h;refine ⟨l,h1,fun γ k=>?_⟩;have single:P.cellsOf t=1→(∀cs,v≠.agg cs)→(∀fs,P.underlying t≠some (.struct fs))→bD nm W (tq W) γ k (tU P t l) v:=by
  intro hc hna Fz;have hv:v.cells = #[v]:=by cases v<;>first | rfl | exact absurd rfl (hna _)
  have PV:tU P t l = .one (.d (l.headD .dead)):=by
   unfold tU;split
   ·rename_i hx;exact absurd hx (Fz _)
   ·rfl
  rw [PV];have hl:l.length=1:=by rw [h2.1,h3,hc]
  obtain ⟨y,rfl⟩:=Ng.1 hl;exact .one (.d (.plain (h2.2 0 y v rfl (by rw [hv];rfl))))
 cases n with
 | zero=>simp [l9] at hs
 | succ n=>
  simp only [l9] at hs;split at hs
  ·rename_i hu;exact single (by simpa using hs) (by rintro cs rfl;simp [Value.okWide,hu,Cell.okWide,Cell.ok] at cr) (by simp [hu])
  ·rename_i hu;exact single (by simpa using hs) (by rintro cs rfl;simp [Value.okWide,hu,Cell.okWide,Cell.ok] at cr) (by simp [hu])
  ·rename_i hu;exact single (by simpa using hs) (by rintro cs rfl;simp [Value.okWide,hu,Cell.okWide,Cell.ok] at cr) (by simp [hu])
  ·rename_i e hu;simp only [bK,eW] at hs;exact single hs.1.1 (by rintro cs rfl;simp [Value.okWide,hu,Cell.okWide,Cell.ok] at cr) (by simp [hu])
  ·rename_i fs hu;unfold Value.okWide at cr;rw [hu] at cr;obtain ⟨cs,rfl,_,_⟩:=cr;have PV:tU P t l = .agg (l.map .d):=by unfold tU;rw [hu]
   rw [PV];have hc:(Value.agg cs).cells.toList=cs.toList:=rfl;rw [hc] at h2;refine .agg (by rw [cf,h2.1,US]) (fun j c u hj jv=>?_);rw [bQ] at hj;obtain ⟨y,hy,rfl⟩:=bH hj;exact .d (.plain (h2.2 j y u hy (by simpa using jv)))
  ·cases hs
theorem NN {n base:Nat}:∀{ts:List TypeId} {vs:List Value} {ds:List (DataW H)} {ps:List MemPlace},DataW.TrodAll enc P W 0 (fun _=>true) true ts vs ds ps→(∀t∈ts,l9 P n t=true)→(∀(j:Nat) t v,ts[j]? = some t→vs[j]? = some v→Value.okWide P W .any base t v)→
  ∃l,yY P n ts ds=some l∧l.length=vs.length∧∀(j:Nat) x v,l[j]? = some x→vs[j]? = some v→∀γ k,bD nm W (tq W) γ k x v
 | [],vs,ds,ps,h,_,_=>by
  cases vs with
  | nil=>
   cases ds with
   | nil=>exact ⟨[],rfl,rfl,fun j x v h=>by simp at h⟩
   | cons=>simp [DataW.TrodAll] at h
  | cons=>simp [DataW.TrodAll] at h
 | t::ts,vs,ds,ps,h,hs,hv=>by
  cases vs with
  | nil=>simp [DataW.TrodAll] at h
  | cons v vs=>
   cases ds with
   | nil=>simp [DataW.TrodAll] at h
   | cons d ds=>
    obtain ⟨p,q,h1,h2,rfl⟩:=h;obtain ⟨l,k1,k2⟩:=afd (nm:=nm) (hv 0 t v rfl rfl) (hs t (kf ..)) h1;obtain ⟨ls,k3,k4,k5⟩:=NN h2 (fun t ht=>hs t (kF _ ht)) (fun j t v hj gJ=>hv (j+1) t v (by simpa using hj) (by simpa using gJ));refine ⟨tU P t l::ls,by simp [yY,k1,k3],by simp [k4],?_⟩;intro j x u hj hu;cases j with
    | zero=>simp at hj hu;subst hj;subst hu;exact k2
    | succ j=>exact k5 j x u (by simpa using hj) (by simpa using hu)
theorem aqb {l:List V} {args:Array Value} (hl:l.length=args.size) (h:∀(j:Nat) x v,l[j]? = some x→args[j]? = some v→∀γ k,bD nm W (tq W) γ k x v) :
  Rel nm l.length (ga 0 l++dm 0 []) ⟨args,[]⟩ W (tq W):=by
 have hE:∀k,(∀j,k≠.s j)→(ga 0 l++dm 0 []:St).E k=V.dead:=by
  intro k hk;have:(ga 0 l++dm 0 []:St).E k=(dm 0 []:St).E k:=by
   unfold St.E;rw [po];cases k<;>first | rfl | exact absurd rfl (hk _)
  rw [this,pw];cases k with
  | r x=>cases x<;>rfl
  | b x c=>cases x<;>rfl
  | _=>rfl
 refine ⟨hl.symm,rfl,?_,?_,?_,?_,?_,?_,?_,?_⟩
 ·intro i;have hs:(ga 0 l++dm 0 []:St).E (.s i)=if i < l.length then l.getD i V.dead else V.dead:=by
   unfold St.E;rw [po];simp only [yR,ll,de,A6];split
   ·rfl
   ·rw [pv];rfl
  rw [hs];split
  ·rename_i hi;have vz:i < args.size:=by omega
   have:=h i (l.getD i V.dead) args[i] (getD_some hi) (by simp [vz]) (ga 0 l++dm 0 []:St).γ (.s i);simpa [Array.getD,vz] using this
  ·exact .one .dead
 ·intro r c x hx gi;rw [hE _ (by intro j h;cases h)] at hx;simp only [V.dead,V.one.injEq] at hx;exact absurd hx.symm gi
 ·intro r c;rw [hE _ (by intro j h;cases h)];exact ⟨_,rfl⟩
 ·intro r c _;rw [hE _ (by intro j h;cases h)];rfl
 ·intro r _ hr;rw [hE _ (by intro j h;cases h)] at hr;simp [V.dead,cp] at hr
 ·intro B l hB;obtain ⟨_,_,_,h⟩:=(DM hB).2;exact (lL.1 h).1
 ·intro B B' pl o o' hB;have:=(DM hB).1;cases this
 ·intro B B' r o o' hB;have:=(DM hB).1;cases this
structure Left (W W':World):Prop where
 os:W'.os=W.os
 output:W'.output=W.output
 heap:∀B,B < W.heap.size→W'.heap[B]? = W.heap[B]?
theorem anA (hO:Eb P nm G Cl) (EX:∀B c,G B=some c→W.heap[B]? = some c∧∃cur e fz,c = .cells cur e fz) {cH:FuncId} {f0:Nat} {g:Func} {c:Code} (ju:nm cH=some f0) (hf:P.funcs[cH]? = some g) (mu:(g.name == "runtime.NumGoroutine")=false) (hb:g.body=some c)
  {n base:Nat} {ts:List TypeId} {args:Array Value} {ds:List (DataW H)} {ps:List MemPlace} (hA:DataW.TrodAll enc P W 0 (fun _=>true) true ts args.toList ds ps)
  (hs:∀t∈ts,l9 P n t=true) (cr:∀(j:Nat) t v,ts[j]? = some t→args[j]? = some v→Value.okWide P W .any base t v)
  {b:Bool} (heq:∀l,yY P n ts ds=some l→∃out,Cl f0 l []=some (.one (.d (.bool b)),out)) :
  Calls P cH args W fun e W'=>e = .returned (.bool b)∧Left W W':=by
 obtain ⟨l,h1,h2,h3⟩:=NN (nm:=nm) hA hs (fun j t v hj hv=>cr j t v hj (by simpa using hv));obtain ⟨out,h4⟩:=heq l h1;have R:=aqb (W:=W) (nm:=nm) (l:=l) (args:=args) (by rw [h2];simp) (fun j x v hj hv=>h3 j x v hj (by simpa using hv));have hF:=hO h4 ju R (fun B q o hB=>by have:=(DM hB).1;cases this) (fun B c hB=>by obtain ⟨h1,cur,e,fz,rfl⟩:=EX B c hB;exact ⟨ad4 h1,h1⟩) (fun B i o hB=>by have:=(DM hB).1;cases this);have Fx:¬ g.name = "runtime.NumGoroutine" := by simpa using mu
 have iU:(callFunc cH args).run P W = .ok (.enter cH args) W:=by simp [callFunc,hf,Fx,hb]
 unfold jT at hF;rw [iU] at hF;refine Calls.mono hF ?_;rintro e W' ⟨v,rfl,L',hm,_,hv⟩;have Cu:v = .bool b:=hv.cQ.sj;subst Cu;refine ⟨rfl,hm.os,hm.output,fun B hB=>?_⟩;cases hL:tq W B with
 | none=>exact (hm.none B hB hL).2
 | some l=>
  obtain ⟨rfl,_⟩:=DM hL;exact (hm.bh B hL).2
theorem ad7 {n:Nat} {rN:Nat→Bool} (hold:∀B,B < W.heap.size→W'.heap[B]? = W.heap[B]?) (uq:∀b,b < W.heap.size→rN b=true):∀{ts:List TypeId} {vs:List Value} {ds:List (DataW H)} {ps:List MemPlace},
  (∀t∈ts,l9 P n t=true)→DataW.TrodAll enc P W 0 (fun _=>true) true ts vs ds ps→DataW.TrodAll enc P W' 0 rN true ts vs ds ps
 | [],vs,ds,ps,_,h=>by
  cases vs<;>cases ds<;>simp_all [DataW.TrodAll]
 | t::ts,vs,ds,ps,hs,h=>by
  cases vs with
  | nil=>simp [DataW.TrodAll] at h
  | cons v vs=>
   cases ds with
   | nil=>simp [DataW.TrodAll] at h
   | cons d ds=>
    obtain ⟨p,q,⟨fuel,h1⟩,h2,rfl⟩:=h;obtain ⟨m,h3⟩:=aqk hold uq n t fuel _ _ (hs t (kf ..)) h1;exact ⟨p,q,⟨m,h3⟩,ad7 hold uq (fun t ht=>hs t (kF _ ht)) h2,rfl⟩
theorem anC {f:Func} {s:ChangeSpec} {apart fresh handsOn again:Bool} {args:Array Value} {ds gs:List (DataW H)} {before:List MemPlace} {n:Nat} {b:Bool} {tb:TypeId}
  (hW:DataW.Whole enc P f.params.toList s.vars apart W args.toList ds gs before) (QZ:s.vars=[]) (hs:∀t∈f.params.toList,l9 P n t=true)
  (hr:f.resultTypes = #[tb]) (ZS:P.underlying tb=some .bool) (QN:(s.fn H (ds++gs)).results=[.lit (.bool b)]) (sH:(s.fn H (ds++gs)).args=ds) (hgv:(s.fn H (ds++gs)).vars=[])
  (hl:Left W W'):s.post enc P f apart fresh handsOn again W args (.bool b) W':=by
 have Jb:=hW;obtain ⟨p,q,hA,hV,rfl,hz,hn⟩:=hW;rw [QZ] at hV;have hq:q=[]∧gs=[]:=by
  cases gs with
  | nil=>exact ⟨by simpa [DataW.TrodVars] using hV,rfl⟩
  | cons=>simp [DataW.TrodVars] at hV
 obtain ⟨rfl,rfl⟩:=hq;have af:∀p'∈p++[],p'.block < W.heap.size:=fun p' hp=>Jb.lt p' hp
 have aae:=fun (rN:Nat→Bool) (uq:∀b,b < W.heap.size→rN b=true)=>ad7 (rN:=rN) hl.heap uq hs hA
 have acO:∀(bb:Nat) (sp:Nat→Bool) (hd:Bool),DataW.TrodAll enc P W' bb sp hd f.resultTypes.toList ((Value.bool b).resultList f.resultTypes.size) [.lit (.bool b)] []:=by
  intro bb sp hd;rw [hr];exact ⟨[],[],⟨1,by simp [DataW.trod,Value.cells,ZS]⟩,rfl,rfl⟩
 have iJ:∀sp,DataW.TrodVars enc P W' sp s.vars (s.fn H (ds++[])).vars []:=by
  intro sp;rw [QZ,hgv];rfl
 refine ⟨ds,[],p++[],[],p,[],Jb,?_,?_,iJ _,?_,fun _=>⟨?_,?_⟩⟩
 ·rw [QN];exact acO _ _ _
 ·rw [sH];exact aae _ (fun b hb=>by simpa using hb)
 ·refine ⟨hl.os,hl.output,fun i hi=>?_⟩;rw [hl.heap i hi];split
  ·rename_i h1 h2;rw [h1] at h2;cases h2;exact ⟨rfl,rfl,rfl,fun _ _=>rfl⟩
  ·rename_i h1 h2;rw [h1] at h2;cases h2;exact .inr ⟨rfl,rfl⟩
  ·rfl
 ·intro j t r h1 h2;rw [hr] at h1 h2;cases j with
  | zero=>
   simp [Value.resultList] at h1 h2;subst h1;subst h2;simp [Value.okWide,ZS,Cell.okWide,Cell.ok]
  | succ j=>simp [Value.resultList] at h2
 ·have ajf:=Go.ChangeShapes.trodAll_append (aae (fun _=>true) (fun _ _=>rfl)) (acO 0 (fun _=>true) true);refine ⟨_,[],_,⟨_,[],ajf,(by rw [QZ];rfl),rfl,?_,?_⟩,?_⟩
  ·intro b' off hp;have Ch:MemPlace.cell b' off∈p++[]:=by simpa using hp
   have cU:=hz b' off Ch;have hb:=af _ Ch;have vt:b' < W.heap.size:=hb;unfold World.frozen? at cU ⊢;simp only at cU ⊢;rw [hl.heap b' vt];exact cU
  ·intro ha;have:=hn ha;simpa using this
  ·intro p' hp _;simpa using hp
end
end
section
inductive TS where
 | int (k:IntKind)
 | bool
 | str
 | sl (sz:Nat) (l:List TS)
mutual
def ye:TS→D→Prop
 | .int k,.int k' n=>k'=k∧(Lit.int k n).wf=true
 | .bool,.bool _=>True
 | .str,.str _=>True
 | .sl sz ts,.sl (.im b) cu rows=>cu=sz∧(b=true→rows=[])∧∀r∈rows,lE ts r
 | _,_=>False
def lE:List TS→List D→Prop
 | [],[]=>True
 | t::ts,x::r=>ye t x∧lE ts r
 | _,_=>False
end
theorem abE:∀{ts us:List TS} {r q:List D},lE ts r→lE us q→lE (ts++us) (r++q)
 | [],us,[],q,_,h=>h
 | t::ts,us,x::r,q,h,h'=>by
  simp only [lE,qQ] at h ⊢;exact ⟨h.1,abE h.2 h'⟩
 | [],_,_::_,_,h,_=>absurd h (by simp [lE])
 | _::_,_,[],_,h,_=>absurd h (by simp [lE])
def Ho (f:TypeId→Option (List TS)):List Field→Option (List TS)
 | []=>some []
 | x::t=>(f x.type).bind fun a=>(Ho f t).map (a ++ ·)
def AN (P:Program):Nat→TypeId→Option (List TS)
 | 0,_=>none
 | n+1,t=>match P.underlying t with
  | some .bool=>some [.bool]
  | some (.int k)=>some [.int k]
  | some .string=>some [.str]
  | some (.slice e)=>(AN P n e).map fun l=>[.sl (P.cellsOf e) l]
  | some (.struct fs)=>Ho (AN P n) fs.toList
  | _=>none
section
variable {H:Type} {enc:TypeId×Value→H} {P:Program} {W:World}
theorem abI {n fuel:Nat} {cs:List Value} (ih:∀(t:TypeId) (cs:List Value) (x:DataW H×List MemPlace) l ts,DataW.trod enc P W 0 (fun _=>true) true fuel t cs=some x→gA P n t x.1=some l→AN P n t=some ts→lE ts l) :
  ∀(fl:List Field) {xs:List (DataW H×List MemPlace)} {l:List D} {ts:List TS},(fl.mapM fun f=>DataW.trod enc P W 0 (fun _=>true) true fuel f.type ((cs.drop f.offset).take (P.cellsOf f.type)))=some xs→
   xd P n fl (xs.map (·.1))=some l→Ho (AN P n) fl=some ts→lE ts l
 | [],xs,l,ts,hx,hl,ht=>by
  have:xs=[]:=by simpa using hx.symm
  subst this;simp [xd] at hl;simp [Ho] at ht;subst hl;subst ht;trivial
 | f::fl,xs,l,ts,hx,hl,ht=>by
  rw [mT] at hx;obtain ⟨y,h1,h2⟩:=bind_some hx;obtain ⟨t,h3,h4⟩:=bind_some h2;cases h4;simp only [fY,xd] at hl;obtain ⟨l1,k1,k2⟩:=bind_some hl;obtain ⟨l2,k3,rfl⟩:=bH k2;simp only [Ho] at ht;obtain ⟨t1,j1,j2⟩:=bind_some ht;obtain ⟨t2,j3,rfl⟩:=bH j2;exact abE (ih _ _ _ _ _ h1 k1 j1) (abI ih fl h3 k3 j3)
theorem mapM_mem {α β:Type} {f:α→Option β}:∀{l:List α} {r:List β},l.mapM f=some r→∀y∈r,∃x∈l,f x=some y
 | [],r,h,y,hy=>by
  have:r=[]:=by simpa using h.symm
  subst this;cases hy
 | x::t,r,h,y,hy=>by
  rw [mT] at h;obtain ⟨a,h1,h2⟩:=bind_some h;obtain ⟨b,h3,h4⟩:=bind_some h2;cases h4;rcases gU.1 hy with rfl | hy
  ·exact ⟨x,kf ..,h1⟩
  ·obtain ⟨z,hz,hf⟩:=mapM_mem h3 y hy;exact ⟨z,kF _ hz,hf⟩
theorem aok:∀(n fuel:Nat) (t:TypeId) (cs:List Value) (x:DataW H×List MemPlace) (l:List D) (ts:List TS),
  DataW.trod enc P W 0 (fun _=>true) true fuel t cs=some x→gA P n t x.1=some l→AN P n t=some ts→lE ts l:=by
 intro n;induction n with
 | zero=>intro fuel t cs x l ts _ h;simp [gA] at h
 | succ n ih=>
  intro fuel t cs x l ts h hd ht;cases fuel with
  | zero=>simp [DataW.trod] at h
  | succ fuel=>
  simp only [AN] at ht;split at ht
  ·rename_i hu;cases ht;rw [DataW.trod_step] at h;unfold DataW.trodStep at h;rw [hu] at h;have:∃b,cs=[.bool b]∧x=(.lit (.bool b),[]):=by
    rcases cs with _ | ⟨c,_ | ⟨c2,t⟩⟩
    ·simp at h
    ·cases c<;>simp at h;exact ⟨_,rfl,h.symm⟩
    ·simp at h
   obtain ⟨b,rfl,rfl⟩:=this;simp [gA,hu] at hd;subst hd;exact ⟨trivial,trivial⟩
  ·rename_i k hu;cases ht;rw [DataW.trod_step] at h;unfold DataW.trodStep at h;rw [hu] at h;have:∃z,cs=[.int k z]∧(Lit.int k z).wf=true∧x=(.lit (.int k z),[]):=by
    rcases cs with _ | ⟨c,_ | ⟨c2,t⟩⟩
    ·simp at h
    ·cases c<;>simp at h;obtain ⟨⟨rfl,hw⟩,h⟩:=h;exact ⟨_,rfl,hw,h.symm⟩
    ·simp at h
   obtain ⟨z,rfl,hw,rfl⟩:=this;simp [gA,hu] at hd;subst hd;exact ⟨⟨rfl,hw⟩,trivial⟩
  ·rename_i hu;cases ht;rw [DataW.trod_step] at h;unfold DataW.trodStep at h;rw [hu] at h;have:∃z:ByteArray,cs=[.string z]∧x=(.lit (.string z.data.toList),[]):=by
    rcases cs with _ | ⟨c,_ | ⟨c2,t⟩⟩
    ·simp at h
    ·cases c<;>simp at h;exact ⟨_,rfl,h.2.symm⟩
    ·simp at h
   obtain ⟨z,rfl,rfl⟩:=this;simp [gA,hu] at hd;subst hd;exact ⟨trivial,trivial⟩
  ·rename_i e hu;obtain ⟨te,he,rfl⟩:=bH ht;rcases Go.Deep.open_slice hu h with ⟨rfl,rfl⟩ | ⟨a,len,cap,m,k,Dd,Pl,rfl,hb,hl,hm,Fu,rfl,hx⟩
   ·simp [gA,hu] at hd;subst hd;exact ⟨⟨rfl,fun _=>rfl,fun r hr=>by cases hr⟩,trivial⟩
   ·have Ft:m=cap:=by simpa using Fu
    subst Ft;unfold gA at hd;rw [hu] at hd;simp only at hd;obtain ⟨rows,h1,rfl⟩:=bH hd;refine ⟨⟨rfl,fun hb=>(by cases hb),fun r hr=>?_⟩,trivial⟩;obtain ⟨d,dy,hf⟩:=mapM_mem h1 r hr;obtain ⟨i,hi,rfl⟩:=iD.1 dy;have kP:=tI.1 hi;obtain ⟨ez,_,h2⟩:=hx i (by omega);exact ih k e ez _ _ _ h2 hf he
  ·rename_i fs hu;rw [DataW.trod_step] at h;unfold DataW.trodStep at h;rw [hu] at h;simp only at h;split at h
   ·obtain ⟨xs,h1,rfl⟩:=bH h;unfold gA at hd;rw [hu] at hd;simp only at hd;exact abI (fun t cs x l ts h1 h2 h3=>ih fuel t cs x l ts h1 h2 h3) fs.toList h1 hd ht
   ·cases h
  ·cases ht
def LS:List (List TS)→List (List D)→Prop
 | [],[]=>True
 | ts::t,r::l=>lE ts r∧LS t l
 | _,_=>False
def Ei (P:Program):List TypeId→List (List D)→List V
 | t::ts,r::rs=>tU P t r::Ei P ts rs
 | _,_=>[]
def DP (P:Program) (n:Nat):List TypeId→Option (List (List TS))
 | []=>some []
 | t::ts=>(AN P n t).bind fun a=>(DP P n ts).map (a :: ·)
def xc {H:Type} (P:Program) (n:Nat):List TypeId→List (DataW H)→Option (List (List D))
 | [],[]=>some []
 | t::ts,d::ds=>(gA P n t d).bind fun l=>(xc P n ts ds).map (l :: ·)
 | _,_=>none
theorem abH {n:Nat}:∀{ts:List TypeId} {vs:List Value} {ds:List (DataW H)} {ps:List MemPlace} {l:List V} {tt:List (List TS)},DataW.TrodAll enc P W 0 (fun _=>true) true ts vs ds ps→yY P n ts ds=some l→DP P n ts=some tt→
  ∃rs,xc P n ts ds=some rs∧LS tt rs∧l=Ei P ts rs
 | [],vs,ds,ps,l,tt,h,hl,ht=>by
  cases vs<;>cases ds<;>simp_all [DataW.TrodAll,yY,DP];subst hl;subst ht;exact ⟨[],rfl,trivial,rfl⟩
 | t::ts,vs,ds,ps,l,tt,h,hl,ht=>by
  cases vs with
  | nil=>simp [DataW.TrodAll] at h
  | cons v vs=>
   cases ds with
   | nil=>simp [DataW.TrodAll] at h
   | cons d ds=>
    obtain ⟨p,q,⟨fuel,h1⟩,h2,rfl⟩:=h;simp only [yY] at hl;obtain ⟨r,k1,k2⟩:=bind_some hl;obtain ⟨l2,k3,rfl⟩:=bH k2;simp only [DP] at ht;obtain ⟨t1,j1,j2⟩:=bind_some ht;obtain ⟨t2,j3,rfl⟩:=bH j2;have ho:=aok n fuel t _ _ _ _ h1 k1 j1;obtain ⟨rs,g1,g2,rfl⟩:=abH h2 k3 j3;exact ⟨r::rs,by simp [xc,k1,g1],⟨ho,g2⟩,rfl⟩
theorem anB {nm:FuncId→Option Nat} {G:Nat→Option Obj} {Cl:Nat→bX} (hO:∀N,Eb P nm G (Cl N)) (EX:∀B c,G B=some c→W.heap[B]? = some c∧∃cur e fz,c = .cells cur e fz) {cH:FuncId} {f0:Nat} {g:Func} {c:Code} (ju:nm cH=some f0) (hf:P.funcs[cH]? = some g) (mu:(g.name == "runtime.NumGoroutine")=false) (hb:g.body=some c)
  {n base:Nat} {ts:List TypeId} {tt:List (List TS)} {args:Array Value} {ds:List (DataW H)} {ps:List MemPlace} (hA:DataW.TrodAll enc P W 0 (fun _=>true) true ts args.toList ds ps)
  (hs:∀t∈ts,l9 P n t=true) (FH:DP P n ts=some tt) (cr:∀(j:Nat) t v,ts[j]? = some t→args[j]? = some v→Value.okWide P W .any base t v)
  {b:Bool} (heq:∀rs,xc P n ts ds=some rs→LS tt rs→∃N out,Cl N f0 (Ei P ts rs) []=some (.one (.d (.bool b)),out)) :
  Calls P cH args W fun e W'=>e = .returned (.bool b)∧Left W W':=by
 obtain ⟨l,h1,_⟩:=NN (nm:=nm) hA hs (fun j t v hj hv=>cr j t v hj (by simpa using hv));obtain ⟨rs,h2,h3,rfl⟩:=abH hA h1 FH;obtain ⟨N,out,h4⟩:=heq rs h2 h3;refine anA (hO N) EX ju hf mu hb hA hs cr (fun l' mo=>?_);rw [h1] at mo;cases mo;exact ⟨out,h4⟩
end
end
end Go.ax
