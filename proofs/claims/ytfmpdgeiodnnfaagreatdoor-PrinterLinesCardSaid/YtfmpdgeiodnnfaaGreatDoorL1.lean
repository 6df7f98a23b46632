/- A part of the proof. -/
import Derived.Test.YtfmpdgeiodnnfaaGreatDoorL0
import Derived.Laws.IdiomCopy
import Derived.Laws.AppendOwn
import GoSem.Core.Program
import GoSem.Core.Region
import GoSem.Core.Check
import GoSem.Core.Layout
import GoSem.Op.Equal
import Derived.Laws.Strings
import Derived.Laws.StructEq
set_option linter.all false
namespace Go.ax
section
section
variable {nm:FuncId→Option Nat} {N:Nat} {S0:St} {w0:World} {L0:aw} {ws:List Wr} {a:Act} {w:World} {L:aw}
def oV (k:Key) (m j:Nat):Place→Option Place:=fun q=>
 if q.k = .h m∧q.j=j then some ⟨k,0,q.p⟩ else if q.k=k then none else some q
theorem adO {k:Key} {m j:Nat} {q:Place} (h1:¬ (q.k = .h m∧q.j=j)) (h2:q.k≠k):oV k m j q=some q:=by
 simp only [oV];rw [az h1,az h2]
theorem ap1 {k:Key} {m j:Nat} {q:Place} (h1:q.k = .h m∧q.j=j):oV k m j q=some ⟨k,0,q.p⟩:=by
 simp only [oV];rw [aJ h1]
theorem apZ {k:Key} {m j:Nat} {q t:Place} (h:oV k m j q=some t) (h2:t.k≠k):q=t∧¬ (q.k = .h m∧q.j=j):=by
 simp only [oV] at h;split at h
 ·simp only [aj] at h;exact absurd (by rw [←h]) h2
 ·rename_i h1;split at h
  ·cases h
  ·simp only [aj] at h;exact ⟨h,h1⟩
theorem ap0 {k:Key} {m j:Nat} {q q' t:Place} (h1:oV k m j q=some t) (h2:oV k m j q'=some t):q=q':=by
 simp only [oV] at h1 h2;split at h1
 ·rename_i a1;simp only [aj] at h1;split at h2
  ·rename_i a2;simp only [aj] at h2;rw [←h1] at h2;simp only [Place.mk.injEq,lk] at h2;cases q;cases q';simp_all
  ·split at h2
   ·cases h2
   ·rename_i a3;simp only [aj] at h2;exact absurd (by rw [h2,←h1]) a3
 ·split at h1
  ·cases h1
  ·rename_i a3;simp only [aj] at h1;split at h2
   ·simp only [aj] at h2;exact absurd (by rw [h1,←h2]) a3
   ·split at h2
    ·cases h2
    ·simp only [aj] at h2;rw [h1,h2]
theorem Rel.VU {S:St} (h:Rel nm N S a w L) {m j:Nat} {r:aI} {B o c:Nat} {x:C} {v:Value} (hB:L B=some (.box r o)) (hc:c < cm (S.E (.r r)))
  (hr:r.iX=false) (hx:aF nm w L S.γ (.h m) j x v) :
  ∃L',Rel nm N (S.wr { k:=.b r c,v:=.one x }) a (w.setCell ⟨B,o+c,none⟩ v) L'∧
   oZ w (w.setCell ⟨B,o+c,none⟩ v) L L' S.γ (S.wr { k:=.b r c,v:=.one x }).γ (fun q=>¬ (q.k = .h m∧q.j=j))∧
   de w (w.setCell ⟨B,o+c,none⟩ v) L L'∧L' B=some (.box r o)∧(∀B q o,q.k.aT=false→L' B=some (.row q o)→L B=some (.row q o)):=by
 obtain ⟨B',o',cur,e,fz,h1,h2,h3,h4⟩:=h.room r hr (by omega);obtain rfl:=h.fA B' B r o' o h1 hB;obtain rfl:o'=o:=by rw [h1] at hB;simpa using hB
 have aB:∀{B2 l},L B2=some l→(∀r o,l≠.box r o)→(w.setCell ⟨B',o'+c,none⟩ v).heap[B2]? = w.heap[B2]?:=by
  intro B2 l hl sF;refine px _ _ _ _ ?_;rintro rfl;rw [hB] at hl;simp only [aj] at hl;exact sF _ _ hl.symm
 have Zg:∀{q:Place},q.k.aT=true→q.k≠.b r c→oV (.b r c) m j q=some q:=fun hq hk=>
  adO (fun h=>by rw [h.1] at hq;simp [Key.aT] at hq) hk
 have bA:Step w (w.setCell ⟨B',o'+c,none⟩ v) L (cI (oV (.b r c) m j) L) S.γ (S.wr { k:=.b r c,v:=.one x }).γ:=by
  refine ⟨fun B hB=>⟨jN.2 hB,aB hB (by simp)⟩,S.pV _,?_,fun B q o _ _ _ hB=>aB hB (by simp),fun B r o _ hB=>jz.2 hB⟩;intro B q o hq hγ hL;rw [D3] at hγ;exact ⟨gL hL (Zg hq (Em hγ)),fun cur e fz hB=>⟨cur,(aB hL (by simp)).trans hB,rfl⟩⟩
 refine ⟨cI (oV (.b r c) m j) L,?_,⟨bA,?_⟩,?_,jz.2 hB,?_⟩
 ·refine h.write { k:=.b r c,v:=.one x } rfl h.defers (fun _ _=>rfl) bA ?_ ?_ ?_ ?_ ?_ ?_
  ·intro B q o hq FD hL;exact ⟨gL hL (Zg FD hq),aB hL (by simp)⟩
  ·intro B2 r2 o2 _ hL;refine ⟨jz.2 hL,fun iD e2 lq pw=>?_⟩;by_cases he:B2=B'
   ·subst he;rw [hB] at hL;simp only [aj,bQ.box.injEq] at hL;obtain ⟨rfl,rfl⟩:=hL;refine ⟨iD.setIfInBounds (o'+c) v,xk w B2 _ v pw,by simp,?_⟩;intro c' lL;rw [yA];intro e;exact lL (by rw [show c=c' by omega])
   ·exact ⟨iD,(px _ _ _ _ he).trans pw,rfl,fun _ _=>rfl⟩
  ·refine ⟨x,rfl,fun gj=>⟨hc,?_⟩⟩;have kR:aF nm (w.setCell ⟨B',o'+c,none⟩ v) (cI (oV (.b r c) m j) L) (S.wr { k:=.b r c,v:=.one x }).γ (.b r c) 0 x v:=by
    refine hx.step bA ?_;intro B q o h1 h2 hL;exact ⟨gL hL (ap1 ⟨h1,h2⟩),aB hL (by simp)⟩
   have hex:∃B o cur e fz v',cI (oV (.b r c) m j) L B=some (.box r o)∧(w.setCell ⟨B',o'+c,none⟩ v).heap[B]? = some (.cells cur e fz)∧jC cur.size fz∧cur[o+c]? = some v'∧
     aF nm (w.setCell ⟨B',o'+c,none⟩ v) (cI (oV (.b r c) m j) L) (S.wr { k:=.b r c,v:=.one x }).γ (.b r c) 0 x v'∧lJ x B o c e cur.size v':=by
    refine ⟨B',o',_,e,fz,v,jz.2 hB,xk w B' _ v h2,by simpa using h3,?_,kR,.of hx.LD⟩;simp only [wM,bV];rw [aJ (by omega)]
   cases r with
   | g i=>exact ⟨v,kR⟩
   | e i=>exact hex
   | l i=>exact hex
  ·intro B2 l hl;obtain ⟨l0,h0⟩:=G5 hl;have:=h.fq B2 l0 h0;simpa using this
  ·exact G6 h.eM (fun q q' t B B' o o' h1 h2 _ _=>ap0 h1 h2)
  ·intro B1 B2 r1 o1 o2 g1 g2;exact h.fA B1 B2 r1 o1 o2 (jz.1 g1) (jz.1 g2)
 ·intro B q o hq hK hL;refine ⟨gL hL (adO hK (fun e=>?_)),aB hL (by simp)⟩;rw [e] at hq;simp [Key.aT] at hq
 ·refine ⟨rfl,rfl,rfl,by simp,fun B hB=>⟨jN.2 hB,aB hB (by simp)⟩,?_,fun B i o hB=>jz.2 hB⟩;intro B2 _ hn;refine ⟨Mq hn,px _ _ _ _ ?_⟩;rintro rfl;rw [hB] at hn;cases hn
 ·intro B2 q o hq hL;obtain ⟨q0,g1,g2⟩:=oR hL;have:=(apZ g2 (fun e=>by rw [e] at hq;simp [Key.aT] at hq)).1;rwa [this] at g1
theorem oZ.trans {w1 w2 w3:World} {L1 L2 L3:aw} {γ1 γ2 γ3:Key→Nat} {K:Place→Prop} (h:oZ w1 w2 L1 L2 γ1 γ2 K) (k:oZ w2 w3 L2 L3 γ2 γ3 K):oZ w1 w3 L1 L3 γ1 γ3 K:=
 ⟨h.di.trans k.di,fun B q o h1 h2 h3=>⟨(k.h B q o h1 h2 (h.h B q o h1 h2 h3).1).1,(k.h B q o h1 h2 (h.h B q o h1 h2 h3).1).2.trans (h.h B q o h1 h2 h3).2⟩⟩
theorem oZ.weaken {w1 w2:World} {L1 L2:aw} {γ1 γ2:Key→Nat} {K K':Place→Prop} (h:oZ w1 w2 L1 L2 γ1 γ2 K) (hK:∀q,K' q→K q):oZ w1 w2 L1 L2 γ1 γ2 K':=
 ⟨h.di,fun B q o h1 h2 h3=>h.h B q o h1 (hK q h2) h3⟩
theorem Rel.VW {m:Nat} {r:aI} (hr:r.iX=false) {B o:Nat}:∀(cs:List C) (vs:List Value) (j0 c0:Nat) {S:St} {ws:List Wr} {w:World} {L:aw} (h:Rel nm N (S.ah ws) a w L)
  (hB:L B=some (.box r o)) (hl:cs.length=vs.length) (hc:c0+cs.length≤cm ((S.ah ws).E (.r r)))
  (hx:∀j x v,cs[j]? = some x→vs[j]? = some v→aF nm w L (S.ah ws).γ (.h m) (j0+j) x v),
  ∃L',Rel nm N (S.ah (gf r c0 cs ws)) a (w.setCells B (o+c0) vs) L'∧de w (w.setCells B (o+c0) vs) L L'∧L' B=some (.box r o)∧
   (∀B q o,q.k.aT=false→L' B=some (.row q o)→L B=some (.row q o))
 | [],vs,j0,c0,S,ws,w,L,h,hB,hl,hc,hx=>by
  have:vs=[]:=by simpa using hl.symm
  subst this;exact ⟨L,h,de.refl _ _,hB,fun _ _ _ _ h=>h⟩
 | x::cs,[],j0,c0,S,ws,w,L,h,hB,hl,hc,hx=>by simp at hl
 | x::cs,v::vs,j0,c0,S,ws,w,L,h,hB,hl,hc,hx=>by
  simp only [gp] at hc hl;obtain ⟨L1,h1,k1,m1,b1,f1⟩:=h.VU hB (c:=c0) (by omega) hr (hx 0 x v rfl rfl);have hE:((S.ah ({ k:=.b r c0,v:=.one x } :: ws)).E (.r r))=(S.ah ws).E (.r r):=by
   simp only [St.ah,St.ig];simp
  obtain ⟨L2, h2, m2, b2, f2⟩ := Rel.VW hr cs vs (j0 + 1) (c0 + 1) (S := S) (ws := { k := .b r c0, v := .one x } :: ws) h1 b1 (by omega) (by rw [hE]; omega) (by
    intro j y u hy hu
    have := (hx (j + 1) y u (by simpa using hy) (by simpa using hu)).keep k1 (fun p => by simp)
    rwa [show j0 + 1 + j = j0 + (j + 1) by omega])
  refine ⟨L2,h2,m1.trans m2,b2,fun B q o hq hL=>f1 B q o hq (f2 B q o hq hL)⟩
theorem Bm (S:St) (r:aI):∀(cs:List C) (c0:Nat) (ws:List Wr) (k:Key),
  (∀c x,k = .b r (c0+c)→cs[c]? = some x→(S.ah (gf r c0 cs ws)).E k = .one x)∧
  ((∀c,c < cs.length→k≠.b r (c0+c))→(S.ah (gf r c0 cs ws)).E k=(S.ah ws).E k∧(S.ah (gf r c0 cs ws)).γ k=(S.ah ws).γ k)∧
  (∀c,c < cs.length→k = .b r (c0+c)→(S.ah ws).γ k < (S.ah (gf r c0 cs ws)).γ k)∧(S.ah ws).γ k≤(S.ah (gf r c0 cs ws)).γ k
 | [],c0,ws,k=>⟨fun c x _ h=>by simp at h,fun _=>⟨rfl,rfl⟩,fun c h=>by simp at h,bT _⟩
 | x::cs,c0,ws,k=>by
  obtain ⟨h1,h2,h3,h4⟩:=Bm S r cs (c0+1) ({ k:=.b r c0,v:=.one x } :: ws) k;have hle:(S.ah ws).γ k≤(S.ah ({ k:=.b r c0,v:=.one x } :: ws)).γ k:=St.pV _ _ k;simp only [gf];refine ⟨?_,?_,?_,iQ hle h4⟩
  ·intro c y hk hy;cases c with
   | zero=>
    simp only [kD,aj] at hy;subst hy;rw [(h2 (fun c' _ e=>by rw [hk] at e;simp only [Key.b.injEq,lk] at e;omega)).1];simp only [St.ah,St.ig,hk,gW,bV]
   | succ c=>exact h1 c y (by rw [hk,show c0+(c+1)=c0+1+c by omega]) (by simpa using hy)
  ·intro aB;obtain ⟨g1,g2⟩:=h2 (fun c hc e=>aB (c+1) (by simpa using hc) (by rw [e,show c0+(c+1)=c0+1+c by omega]));have h0:(Key.b r c0)≠k:=fun e=>aB 0 (by simp) (by rw [←e];rfl)
   rw [g1,g2];simp only [St.ah,St.ig,St.jU,h0,dE];trivial
  ·intro c hc hk;cases c with
   | zero=>
    refine HM ?_ h4;simp only [St.ah,St.jU,hk,gW,bV];simp
   | succ c=>
    exact UY hle (h3 c (by simpa using hc) (by rw [hk,show c0+(c+1)=c0+1+c by omega]))
def wC (r:aI) (n m:Nat):Place→Option Place:=fun q=>
 if q.k = .h m then (if q.j < n then some ⟨.b r q.j,0,q.p⟩ else none)
 else match q.k with
  | .b r' c=>if r'=r∧c < n then none else some q
  | .s _=>some q
  | _=>none
theorem TW {r:aI} {n m:Nat} {q t:Place} (h:wC r n m q=some t):(q.k = .h m∧q.j < n∧t=⟨.b r q.j,0,q.p⟩)∨(q.k.aT=true∧t=q∧∀c,c < n→q.k≠.b r c):=by
 unfold wC at h;split at h
 ·rename_i h1;split at h
  ·rename_i h2;simp only [aj] at h;exact .inl ⟨h1,h2,h.symm⟩
  ·cases h
 ·rename_i h1;split at h
  ·rename_i r' c hk;split at h
   ·cases h
   ·rename_i h2;simp only [aj] at h;refine .inr ⟨by rw [hk];rfl,h.symm,?_⟩;intro c' lL e;rw [hk] at e;simp only [Key.b.injEq] at e;exact h2 ⟨e.1,by omega⟩
  ·rename_i i hk;simp only [aj] at h;exact .inr ⟨by rw [hk];rfl,h.symm,fun c _ e=>by rw [hk] at e;cases e⟩
  ·cases h
theorem TX {r:aI} {n m:Nat} {q:Place} (h:q.k.aT=true) (hn:∀c,c < n→q.k≠.b r c):wC r n m q=some q:=by
 unfold wC;rw [az (fun e=>by rw [e] at h;simp [Key.aT] at h)];obtain ⟨k,i,p⟩:=q;cases k with
 | s i=>rfl
 | b r' c=>
  simp only;rw [az];rintro ⟨rfl,hc⟩;exact hn c hc rfl
 | _=>simp [Key.aT] at h
theorem apY {r:aI} {n m:Nat} {q:Place} (h:q.k = .h m) (hj:q.j < n):wC r n m q=some ⟨.b r q.j,0,q.p⟩:=by
 unfold wC;rw [aJ h,aJ hj]
def kI (r:aI) (n m:Nat) (w:World) (L:aw):aw:=fun B=>
 if B=w.heap.size then some (.box r 0) else
 match L B with
 | some (.box r' o)=>if r'=r then none else some (.box r' o)
 | _=>cI (wC r n m) L B
theorem yR {r:aI} {n m:Nat}:kI r n m w L w.heap.size=some (.box r 0):=by simp [kI]
theorem Ik {r:aI} {n m B o:Nat} {q q':Place} (aB:B≠w.heap.size) (h:L B=some (.row q o)) (hf:wC r n m q=some q'):kI r n m w L B=some (.row q' o):=by
 unfold kI;rw [az aB];simp only [h];exact gL h hf
theorem VR {r:aI} {n m B:Nat} (aB:B≠w.heap.size) (h:L B=some .bh):kI r n m w L B=some .bh:=by
 unfold kI;rw [az aB];simp only [h];exact jN.2 h
theorem afc {r:aI} {n m B:Nat} (aB:B≠w.heap.size) (h:L B=none):kI r n m w L B=none:=by
 unfold kI;rw [az aB];simp only [h];exact Mq h
theorem Ij {r:aI} {n m B o:Nat} {r':aI} (aB:B≠w.heap.size) (h:L B=some (.box r' o)) (hr:r'≠r):kI r n m w L B=some (.box r' o):=by
 unfold kI;rw [az aB];simp only [h,hr,dE]
theorem yQ {r:aI} {n m B:Nat} {l:bQ} (h:kI r n m w L B=some l):(B=w.heap.size∧l = .box r 0)∨
  (B≠w.heap.size∧((l = .bh∧L B=some .bh)∨(∃r' o,l = .box r' o∧r'≠r∧L B=some (.box r' o))∨∃q q' o,l = .row q' o∧L B=some (.row q o)∧wC r n m q=some q')):=by
 unfold kI at h;split at h
 ·rename_i he;simp only [aj] at h;exact .inl ⟨he,h.symm⟩
 ·rename_i he;refine .inr ⟨he,?_⟩;split at h
  ·rename_i r' o hL;split at h
   ·cases h
   ·rename_i hr;simp only [aj] at h;exact .inr (.inl ⟨r',o,h.symm,hr,hL⟩)
  ·rename_i sF;cases l with
   | bh=>exact .inl ⟨rfl,jN.1 h⟩
   | row q o=>obtain ⟨q0,g1,g2⟩:=oR h;exact .inr (.inr ⟨q0,q,o,rfl,g1,g2⟩)
   | box r' o=>exact absurd (jz.1 h) (sF r' o)
theorem qN (n:Nat):cm (fw n)=n:=by simp [cm,fw]
theorem Rel.sV {S:St} {ws:List Wr} (h:Rel nm N (S.ah ws) a w L) {m:Nat} {r:aI} {cs:List C} {vs:Array Value} {e:TypeId} (hr:r.iX=false) (xu:∀i,r≠.e i)
  (hl:cs.length=vs.size) (hn:cm ((S.ah ws).E (.r r))=0∨cm ((S.ah ws).E (.r r))=cs.length)
  (hx:∀(j:Nat) x v,cs[j]? = some x→vs[j]? = some v→aF nm w L (S.ah ws).γ (.h m) j x v) :
  Rel nm N (S.ah (gf r 0 cs ({ k:=.r r,v:=fw cs.length } :: ws))) a (w.alloc (.cells vs e)) (kI r cs.length m w L)∧
   de w (w.alloc (.cells vs e)) L (kI r cs.length m w L)∧eI (kI r cs.length m w L):=by
 have Cd:=h.fq.new;have af:∀{B l},L B=some l→B≠w.heap.size:=fun {B l} hB e=>by rw [e,Cd] at hB;cases hB
 have ej:∀{B l},L B=some l→(w.alloc (.cells vs e)).heap[B]? = w.heap[B]?:=fun hB=>mV w _ (af hB)
 have hw:=fun k=>Bm S r cs 0 ({ k:=.r r,v:=fw cs.length } :: ws) k
 have zn:∀r',(S.ah (gf r 0 cs ({ k:=.r r,v:=fw cs.length } :: ws))).E (.r r')=if r=r' then fw cs.length else (S.ah ws).E (.r r'):=by
  intro r';rw [((hw (.r r')).2.1 (fun c _ e=>by cases e)).1];simp only [St.ah,St.ig,Key.r.injEq]
 have hEs:∀i,(S.ah (gf r 0 cs ({ k:=.r r,v:=fw cs.length } :: ws))).E (.s i)=(S.ah ws).E (.s i):=by
  intro i;rw [((hw (.s i)).2.1 (fun c _ e=>by cases e)).1];simp [St.ah,St.ig]
 have Jd:∀r' c,(r'≠r∨cs.length≤c)→(S.ah (gf r 0 cs ({ k:=.r r,v:=fw cs.length } :: ws))).E (.b r' c)=(S.ah ws).E (.b r' c):=by
  intro r' c hc;rw [((hw (.b r' c)).2.1 (fun c' h1 e=>by simp only [Key.b.injEq] at e;rcases hc with hc | hc;exact hc e.1;omega)).1];simp [St.ah,St.ig]
 have aj3:∀k,(S.ah ws).γ k≤(S.ah (gf r 0 cs ({ k:=.r r,v:=fw cs.length } :: ws))).γ k:=fun k=>
  iQ (St.pV (S.ah ws) { k:=.r r,v:=fw cs.length } k) (hw k).2.2.2
 have hγb:∀c,c < cs.length→(S.ah ws).γ (.b r c) < (S.ah (gf r 0 cs ({ k:=.r r,v:=fw cs.length } :: ws))).γ (.b r c):=fun c hc=>
  UY (St.pV (S.ah ws) { k:=.r r,v:=fw cs.length } (.b r c)) ((hw (.b r c)).2.2.1 c hc (by simp))
 have hγr:(S.ah ws).γ (.r r) < (S.ah (gf r 0 cs ({ k:=.r r,v:=fw cs.length } :: ws))).γ (.r r):=by
  refine HM ?_ (hw (.r r)).2.2.2;simp only [St.ah,St.jU,bV];simp
 have bA:Step w (w.alloc (.cells vs e)) L (kI r cs.length m w L) (S.ah ws).γ (S.ah (gf r 0 cs ({ k:=.r r,v:=fw cs.length } :: ws))).γ:=by
  refine ⟨fun B hB=>⟨VR (af hB) hB,ej hB⟩,aj3,?_,fun B q o _ _ _ hB=>ej hB,?_⟩
  ·intro B q o hq hγ hL;refine ⟨Ik (af hL) hL (TX hq ?_),fun cur e fz hc=>⟨cur,(ej hL).trans hc,rfl⟩⟩;intro c hc e;rw [e] at hγ;exact absurd hγ (Nat.ne_of_gt (hγb c hc))
  ·intro B r' o hγ hL;refine Ij (af hL) hL ?_;rintro rfl;exact absurd hγ (Nat.ne_of_gt hγr)
 refine ⟨⟨h.size,h.defers,?_,?_,?_,?_,?_,?_,?_,?_⟩,?_,?_⟩
 ·intro i;rw [hEs];refine (h.slot i).step bA ?_;intro B q o hq hL;refine ⟨?_,ej hL⟩;rw [←hq,Place.l9];exact Ik (af hL) hL (TX (by rw [hq];rfl) (fun c _ e=>by rw [hq] at e;cases e))
 ·intro r' c x hE gj;by_cases hc:r'=r∧c < cs.length
  ·obtain ⟨rfl,hc⟩:=hc;have mn:=(hw (.b r' c)).1 c cs[c] (by simp) (by simp [hc]);rw [hE] at mn;simp only [V.one.injEq] at mn;have kR:aF nm (w.alloc (.cells vs e)) (kI r' cs.length m w L) (S.ah (gf r' 0 cs ({ k:=.r r',v:=fw cs.length } :: ws))).γ (.b r' c) 0 x (vs[c]'(by omega)):=by
    refine (hx c x vs[c] (by rw [mn];simp [hc]) (by simp [←hl,hc])).step bA ?_;intro B q o h1 h2 hL;refine ⟨?_,ej hL⟩;have:=Ik (af hL) hL (apY (r:=r') (n:=cs.length) h1 (by rw [h2];exact hc));rwa [h2] at this
   have hex:∃B o cur e' fz v',kI r' cs.length m w L B=some (.box r' o)∧(w.alloc (.cells vs e)).heap[B]? = some (.cells cur e' fz)∧jC cur.size fz∧cur[o+c]? = some v'∧
     aF nm (w.alloc (.cells vs e)) (kI r' cs.length m w L) (S.ah (gf r' 0 cs ({ k:=.r r',v:=fw cs.length } :: ws))).γ (.b r' c) 0 x v'∧lJ x B o c e' cur.size v':=
    ⟨w.heap.size,0,vs,e,(0,0),_,yR,oD w _,fun j _=>by simp,by simp [←hl,hc],kR,.of (hx c x vs[c] (by rw [mn];simp [hc]) (by simp [←hl,hc])).LD⟩
   cases r' with
   | g i=>simp [aI.iX] at hr
   | e i=>exact hex
   | l i=>exact hex
  ·rw [Jd r' c (by by_cases h1:r'=r<;>simp_all)] at hE;by_cases dM:r'=r
   ·subst dM;have aR:cs.length≤c:=by simpa using hc
    have:=h.bound r' c (by rcases hn with hn | hn<;>rw [hn]<;>omega);rw [this] at hE;simp only [V.one.injEq] at hE;exact absurd hE.symm gj
   ·refine (h.cell r' c x hE gj).step bA ?_ ?_
    ·intro B q o hq hL;exact ⟨Ik (af hL) hL (TX (by rw [hq];rfl) (fun c' _ e=>by rw [hq] at e;simp only [Key.b.injEq] at e;exact dM e.1)),ej hL⟩
    ·intro B o hL;exact ⟨Ij (af hL) hL dM,fun cur e fz hc=>⟨cur,(ej hL).trans hc,rfl,rfl⟩⟩
 ·intro r' c;by_cases hc:r'=r∧c < cs.length
  ·obtain ⟨rfl,hc⟩:=hc;exact ⟨cs[c],(hw (.b r' c)).1 c cs[c] (by simp) (by simp [hc])⟩
  ·rw [Jd r' c (by by_cases h1:r'=r<;>simp_all)];exact h.kf r' c
 ·intro r' c hc;rw [zn] at hc;by_cases dM:r=r'
  ·subst dM;simp only [bV,qN] at hc;rw [Jd r c (.inr hc)];exact h.bound r c (by rcases hn with hn | hn<;>rw [hn]<;>omega)
  ·rw [az dM] at hc;rw [Jd r' c (.inl (fun e=>dM e.symm))];exact h.bound r' c hc
 ·intro r' hg hb;rw [zn] at hb ⊢;by_cases dM:r=r'
  ·subst dM;simp only [bV,qN] at hb ⊢;exact ⟨w.heap.size,0,vs,e,(0,0),yR,oD w _,fun j _=>by simp,by omega⟩
  ·rw [az dM] at hb ⊢;obtain ⟨B,o,cur,e',fz,h1,h2,h3,h4⟩:=h.room r' hg hb;exact ⟨B,o,cur,e',fz,Ij (af h1) h1 (fun e=>dM e.symm),(ej h1).trans h2,h3,h4⟩
 ·intro B l hB;have hz:(w.alloc (.cells vs e)).heap.size=w.heap.size+1:=by simp
  rw [hz];rcases yQ hB with ⟨rfl,_⟩ | ⟨aB,dA⟩
  ·exact Nat.lt_succ_self _
  ·refine Nat.lt_succ_of_lt ?_;rcases dA with ⟨_,h1⟩ | ⟨r',o,_,_,h1⟩ | ⟨q,q',o,_,h1,_⟩<;>exact h.fq B _ h1
 ·intro B B' pl o o' h1 h2;rcases yQ h1 with ⟨_,he⟩ | ⟨_,⟨he,_⟩ | ⟨_,_,he,_⟩ | ⟨q,t,o1,he,g1,g2⟩⟩
  ·cases he
  ·cases he
  ·cases he
  rcases yQ h2 with ⟨_,c6⟩ | ⟨_,⟨c6,_⟩ | ⟨_,_,c6,_⟩ | ⟨q',t',mZ,c6,pv,zh⟩⟩
  ·cases c6
  ·cases c6
  ·cases c6
  simp only [bQ.row.injEq] at he c6;obtain ⟨rfl,rfl⟩:=he;obtain ⟨rfl,rfl⟩:=c6;have:q=q':=by
   rcases TW g2 with ⟨a1,a4,a2⟩ | ⟨a1,a2,a3⟩<;>rcases TW zh with ⟨b1,b4,b2⟩ | ⟨b1,b2,b3⟩
   ·rw [a2] at b2;simp only [Place.mk.injEq,Key.b.injEq,lk] at b2;cases q;cases q';simp_all
   ·exact absurd (by rw [←b2,a2]) (b3 q.j a4)
   ·exact absurd (by rw [←a2,b2]) (a3 q'.j b4)
   ·rw [←a2,←b2]
  subst this;exact h.eM B B' q o o' g1 pv
 ·intro B B' r' o o' h1 h2;rcases yQ h1 with ⟨rfl,he⟩ | ⟨_,⟨he,_⟩ | ⟨r1,o1,he,jZ,g1⟩ | ⟨q,t,o1,he,g1,g2⟩⟩
  ·simp only [bQ.box.injEq] at he;rcases yQ h2 with ⟨rfl,c6⟩ | ⟨_,⟨c6,_⟩ | ⟨GZ,mZ,c6,Zk,pv⟩ | ⟨q',t',mZ,c6,pv,zh⟩⟩
   ·rfl
   ·cases c6
   ·simp only [bQ.box.injEq] at c6;exact absurd (c6.1.symm.trans he.1) Zk
   ·cases c6
  ·cases he
  ·simp only [bQ.box.injEq] at he;rcases yQ h2 with ⟨rfl,c6⟩ | ⟨_,⟨c6,_⟩ | ⟨GZ,mZ,c6,Zk,pv⟩ | ⟨q',t',mZ,c6,pv,zh⟩⟩
   ·simp only [bQ.box.injEq] at c6;exact absurd (he.1.symm.trans c6.1) jZ
   ·cases c6
   ·simp only [bQ.box.injEq] at c6;rw [←he.1] at g1;rw [←c6.1] at pv;exact h.fA B B' r' o1 mZ g1 pv
   ·cases c6
  ·cases he
 ·refine ⟨rfl,rfl,rfl,by simp,fun B hB=>⟨VR (af hB) hB,ej hB⟩,?_,fun B i o hB=>Ij (af hB) hB (fun e=>xu i e.symm)⟩;intro B vy hB;have aB:B≠w.heap.size:=by omega
  exact ⟨afc aB hB,mV w _ aB⟩
 ·intro B q o hB;rcases yQ hB with ⟨_,he⟩ | ⟨_,⟨he,_⟩ | ⟨_,_,he,_⟩ | ⟨q0,t,o1,he,g1,g2⟩⟩
  ·cases he
  ·cases he
  ·cases he
  ·simp only [bQ.row.injEq] at he;obtain ⟨rfl,rfl⟩:=he;rcases TW g2 with ⟨_,_,rfl⟩ | ⟨h1,rfl,_⟩
   ·rfl
   ·exact h1
end
end
section
section
variable {nm:FuncId→Option Nat} {N:Nat} {S0:St} {w0:World} {L0:aw} {ws:List Wr} {a:Act} {w:World} {L:aw}
theorem V.apm {x:V} {j:Nat} {c:C} (h:x.cells[j]? = some c):x.setCell j c=x:=by
 cases x with
 | one c0=>
  cases j with
  | zero=>simp only [V.cells,kD,aj] at h;simp [V.setCell,h]
  | succ j=>simp [V.cells] at h
 | agg cs=>
  simp only [V.cells] at h;simp only [V.setCell];congr 1;obtain ⟨hj,rfl⟩:=cB.1 h;exact aeM hj
 | aq vs=>simp [V.cells] at h
theorem V.afw {x:V} {j:Nat} {c c':C} (h:x.cells[j]? = some c):(x.setCell j c').cells[j]? = some c':=by
 cases x with
 | one c0=>
  cases j with
  | zero=>simp [V.setCell,V.cells]
  | succ j=>simp [V.cells] at h
 | agg cs=>
  simp only [V.cells] at h;obtain ⟨hj,rfl⟩:=cB.1 h;simp [V.setCell,V.cells,hj]
 | aq vs=>simp [V.cells] at h
open Classical in
noncomputable def mR (t:Place) (m j:Nat) (L:aw):aw:=fun B=>
 match L B with
 | some (.row q o)=>if q.k = .h m∧q.j=j then some (.row (t.app q.p) o) else if bE t q then none else some (.row q o)
 | x=>x
theorem Xt {t:Place} {m j B:Nat}:mR t m j L B=some .bh↔L B=some .bh:=by
 unfold mR;split
 ·rename_i q o hL;rw [hL];split
  ·simp
  ·split<;>simp
 ·rfl
theorem ahE {t:Place} {m j B o:Nat} {r:aI}:mR t m j L B=some (.box r o)↔L B=some (.box r o):=by
 unfold mR;split
 ·rename_i q o' hL;rw [hL];split
  ·simp
  ·split<;>simp
 ·rfl
theorem ahJ {t:Place} {m j B:Nat} (h:L B=none):mR t m j L B=none:=by simp [mR,h]
theorem ahF {t:Place} {m j B:Nat} {l:bQ} (h:mR t m j L B=some l):∃l0,L B=some l0:=by
 unfold mR at h;split at h
 ·rename_i q o hL;exact ⟨_,hL⟩
 ·exact ⟨_,h⟩
theorem ahH {t:Place} {m j B o:Nat} {q:Place} (h:L B=some (.row q o)) (h1:¬ (q.k = .h m∧q.j=j)) (h2:¬ bE t q):mR t m j L B=some (.row q o):=by
 simp only [mR,h];rw [az h1,az h2]
theorem ahI {t:Place} {m j B o:Nat} {q:Place} (h:L B=some (.row q o)) (h1:q.k = .h m∧q.j=j):mR t m j L B=some (.row (t.app q.p) o):=by
 simp only [mR,h];rw [aJ h1]
theorem OV {t:Place} {m j B o:Nat} {q:Place} (h:mR t m j L B=some (.row q o)) :
  (∃q0,L B=some (.row q0 o)∧(q0.k = .h m∧q0.j=j)∧q=t.app q0.p)∨(L B=some (.row q o)∧¬ (q.k = .h m∧q.j=j)∧¬ bE t q):=by
 unfold mR at h;split at h
 ·rename_i q0 o0 hL;split at h
  ·rename_i h1;simp only [aj,bQ.row.injEq] at h;exact .inl ⟨q0,by rw [hL,h.2],h1,h.1.symm⟩
  ·rename_i h1;split at h
   ·cases h
   ·rename_i h2;simp only [aj,bQ.row.injEq] at h;obtain ⟨rfl,rfl⟩:=h;exact .inr ⟨hL,h1,h2⟩
 ·rename_i hn;exact absurd h (hn q o)
theorem ahG {t:Place} {m j:Nat} (h:lZ L):lZ (mR t m j L):=by
 intro B B' pl o o' h1 h2;rcases OV h1 with ⟨q,a1,a2,a3⟩ | ⟨a1,a2,a3⟩<;>rcases OV h2 with ⟨q',b1,b2,b3⟩ | ⟨b1,b2,b3⟩
 ·have:=Place.aeW (a3.symm.trans b3);have:q=q':=by cases q;cases q';simp_all
  subst this;exact h B B' q o o' a1 b1
 ·exact absurd ⟨q.p,a3⟩ b3
 ·exact absurd ⟨q'.p,b3⟩ a3
 ·exact h B B' pl o o' a1 b1
theorem aF.X9 {γ:Key→Nat} {k:Key} {j:Nat} {z:D} {v:Value} (h:aF nm w L γ k j (.d z) v) (hf:z.flat=true):fK w L z v:=by
 cases h with
 | d h=>
  cases h with
  | plain h=>exact h
  | jm=>simp [D.flat] at hf
  | own=>simp [D.flat] at hf
theorem aeO (S:St) (k:Key) (v:V) (kp:Bool) (k':Key) :
  (S.ah [{ k,v,keep:=kp },{ k:=.a k,v:=V.dead }]).γ k'=if k' = .a k then S.γ k'+1 else if k'=k∧kp=false then S.γ k'+1 else S.γ k':=by
 have Fj:∀k:Key,k≠.a k:=by
  intro k;induction k with
  | a k ih=>intro e;simp only [Key.a.injEq] at e;exact ih e
  | _=>intro e;cases e
 simp only [St.ah,St.jU];by_cases h1:k' = .a k
 ·subst h1;simp [Fj k]
 ·rw [az h1];by_cases h2:k=k'
  ·subst h2;cases kp<;>simp [Ne.symm h1]
  ·simp [h2,Ne.symm h1,Ne.symm h2]
theorem Rel.ahK {S:St} (h:Rel nm N S a w L) {m j:Nat} {pl:Place} {B o i c sz:Nat} {x dH z:D} {rows:List (List D)} {u:Value} (hk:pl.k.aT=true)
  (hE:(S.E pl.k).cells[pl.j]? = some (.d x)) (hn:eu x pl.p=some (.sl .own sz rows)) (hc:cellOf rows i c=some dH) (hB:L B=some (.row pl o))
  (hz:aF nm w L S.γ (.h m) j (.d z) u) (QK:AJ z dH=true) :
  ∃L',Rel nm N (S.ah [{ k:=pl.k,v:=(S.E pl.k).setCell pl.j (.d (eF x (pl.p++[(i,c)]) z)),keep:=dH.flat&&z.flat },{ k:=.a pl.k,v:=V.dead }]) a (w.setCell ⟨B,o+i * sz+c,none⟩ u) L'∧
   oZ w (w.setCell ⟨B,o+i * sz+c,none⟩ u) L L' S.γ (S.ah [{ k:=pl.k,v:=(S.E pl.k).setCell pl.j (.d (eF x (pl.p++[(i,c)]) z)),keep:=dH.flat&&z.flat },{ k:=.a pl.k,v:=V.dead }]).γ (fun q=>¬ (q.k = .h m∧q.j=j))∧
   de w (w.setCell ⟨B,o+i * sz+c,none⟩ u) L L'∧L' B=some (.row pl o)∧(∀B q o,q.k.aT=false→L' B=some (.row q o)→L B=some (.row q o)):=by
 have aB:∀{B2 l},L B2=some l→l≠.row pl o→(w.setCell ⟨B,o+i * sz+c,none⟩ u).heap[B2]? = w.heap[B2]?:=by
  intro B2 l hl sF;refine px _ _ _ _ ?_;rintro rfl;rw [hB] at hl;simp only [aj] at hl;exact sF hl.symm
 have Jr:∀{q:Place},q.k.aT=true→¬ (q.k = .h m∧q.j=j):=fun hq h=>by rw [h.1] at hq;simp [Key.aT] at hq
 have zD:¬ bE (pl.sub i c) pl:=bE.R5;have h1:Rel nm N (S.wr { k:=.a pl.k,v:=V.dead }) a w L:=h.kill (.a pl.k) (fun r e=>by cases e);have Fj:∀k:Key,k≠.a k:=by
  intro k;induction k with
  | a k ih=>intro e;simp only [Key.a.injEq] at e;exact ih e
  | _=>intro e;cases e
 have Ys:(S.wr { k:=.a pl.k,v:=V.dead }).E pl.k=S.E pl.k:=by
  rw [St.ig];simp [Ne.symm (Fj pl.k)]
 have main:∀L',(∀B,L' B=some .bh↔L B=some .bh)→(∀B r o,L' B=some (.box r o)↔L B=some (.box r o))→(∀B,L B=none→L' B=none)→(∀B l,L' B=some l→∃l0,L B=some l0)→lZ L'→
   (∀B q o,¬ (q.k = .h m∧q.j=j)→¬ bE (pl.sub i c) q→L B=some (.row q o)→L' B=some (.row q o))→
   (∀B q o,q.k.aT=false→L' B=some (.row q o)→L B=some (.row q o))→
   (((dH.flat&&z.flat)=true)→L'=L)→
   br (w.setCell ⟨B,o+i * sz+c,none⟩ u) L' (pl.sub i c) z u→
   Rel nm N (S.ah [{ k:=pl.k,v:=(S.E pl.k).setCell pl.j (.d (eF x (pl.p++[(i,c)]) z)),keep:=dH.flat&&z.flat },{ k:=.a pl.k,v:=V.dead }]) a (w.setCell ⟨B,o+i * sz+c,none⟩ u) L'∧
   oZ w (w.setCell ⟨B,o+i * sz+c,none⟩ u) L L' S.γ (S.ah [{ k:=pl.k,v:=(S.E pl.k).setCell pl.j (.d (eF x (pl.p++[(i,c)]) z)),keep:=dH.flat&&z.flat },{ k:=.a pl.k,v:=V.dead }]).γ (fun q=>¬ (q.k = .h m∧q.j=j))∧
   de w (w.setCell ⟨B,o+i * sz+c,none⟩ u) L L'∧L' B=some (.row pl o)∧(∀B q o,q.k.aT=false→L' B=some (.row q o)→L B=some (.row q o)):=by
  intro L' fT gZ vC hdm oG zC vp ajn hzd;have Qg:rW w (w.setCell ⟨B,o+i * sz+c,none⟩ u) L L':=fun B2 hb=>⟨(fT B2).2 hb,aB hb (by simp)⟩
  have cr:∀{B2 q o2},q.k.aT=true→((S.ah [{ k:=pl.k,v:=(S.E pl.k).setCell pl.j (.d (eF x (pl.p++[(i,c)]) z)),keep:=dH.flat&&z.flat },{ k:=.a pl.k,v:=V.dead }]).γ q.k=S.γ q.k)→
    L B2=some (.row q o2)→L' B2=some (.row q o2):=by
   intro B2 q o2 hq hγ hL;cases hf:(dH.flat&&z.flat) with
   | true=>rw [ajn hf];exact hL
   | false=>
    rw [aeO,hf] at hγ;refine zC B2 q o2 (Jr hq) (fun hu=>?_) hL;have hqk:q.k=pl.k:=hu.key.1;rw [hqk] at hγ;simp [Fj pl.k] at hγ
  have bA:Step w (w.setCell ⟨B,o+i * sz+c,none⟩ u) L L' S.γ (S.ah [{ k:=pl.k,v:=(S.E pl.k).setCell pl.j (.d (eF x (pl.p++[(i,c)]) z)),keep:=dH.flat&&z.flat },{ k:=.a pl.k,v:=V.dead }]).γ:=by
   refine ⟨Qg,fun k=>St.wO S _ k,?_,?_,fun B2 r o2 _ hb=>(gZ B2 r o2).2 hb⟩
   ·intro B2 q o2 hq hγ hL;refine ⟨cr hq hγ hL,fun iD e2 lq gC=>?_⟩;by_cases he:B2=B
    ·subst he;exact ⟨_,xk w B2 _ u gC,by simp⟩
    ·exact ⟨iD,(px _ _ _ _ he).trans gC,rfl⟩
   ·intro B2 q o2 hq _ Cq hL;refine aB hL ?_;intro e;simp only [bQ.row.injEq] at e;rw [aeO,e.1,aJ rfl] at Cq;omega
  have ajR:∀B' q o',L B'=some (.row q o')→q=(⟨pl.k,pl.j,[]⟩:Place).app pl.p→B'=B:=by
   intro B' q o' hL he;rw [Place.A'] at he;subst he;exact h.eM B' B q o' o hL hB
  have p9:∀v,aF nm w L S.γ pl.k pl.j (.d x) v→aF nm (w.setCell ⟨B,o+i * sz+c,none⟩ u) L' (S.ah [{ k:=pl.k,v:=(S.E pl.k).setCell pl.j (.d (eF x (pl.p++[(i,c)]) z)),keep:=dH.flat&&z.flat },{ k:=.a pl.k,v:=V.dead }]).γ pl.k pl.j (.d (eF x (pl.p++[(i,c)]) z)) v:=by
   intro v hv;cases hv with
   | d hv=>
    refine .d (br.set hc pl.p hv hn (by rw [Place.A'];exact hB) ajR Qg ?_ (by rw [Place.A'];exact hzd) QK);intro B' q o' hu zD hL;rw [Place.A'] at zD;refine zC B' q o' (Jr ?_) zD hL;rw [hu.key.1];exact hk
  have E8:rV (w.setCell ⟨B,o+i * sz+c,none⟩ u) L':=by
   intro B2 l hl;obtain ⟨l0,h0⟩:=hdm B2 l hl;have:=h.fq B2 l0 h0;simpa using this
  have p7:D5 L':=fun B1 B2 r o1 o2 g1 g2=>h.fA B1 B2 r o1 o2 ((gZ _ _ _).1 g1) ((gZ _ _ _).1 g2)
  have lx:∀B2 q o2,q.k≠pl.k∨q.j≠pl.j→q.k.aT=true→L B2=some (.row q o2)→L' B2=some (.row q o2)∧(w.setCell ⟨B,o+i * sz+c,none⟩ u).heap[B2]? = w.heap[B2]?:=by
   intro B2 q o2 hq FD hL;refine ⟨zC B2 q o2 (Jr FD) (fun hu=>?_) hL,aB hL (fun e=>?_)⟩
   ·have:=hu.key;simp only [Place.sub] at this;rcases hq with hq | hq
    ·exact hq this.1
    ·exact hq this.2
   ·simp only [bQ.row.injEq] at e;rcases hq with hq | hq<;>exact hq (by rw [e.1])
  refine ⟨?_,⟨bA,?_⟩,?_,zC B pl o (Jr hk) zD hB,vp⟩
  ·
   generalize vj:St.ah S [{ k:=pl.k,v:=(S.E pl.k).setCell pl.j (.d (eF x (pl.p++[(i,c)]) z)),keep:=dH.flat&&z.flat },{ k:=.a pl.k,v:=V.dead }]=S' at bA p9 ⊢;have su:∀k,k≠.a pl.k→S'.E k=if pl.k=k then (S.E pl.k).setCell pl.j (.d (eF x (pl.p++[(i,c)]) z)) else S.E k:=by
    intro k ku;rw [←vj];simp only [St.ah,St.ig,Ne.symm ku,dE]
   have zn:∀r,S'.E (.r r)=S.E (.r r):=fun r=>by rw [su _ (by simp),az (fun e=>by rw [e] at hk;simp [Key.aT] at hk)]
   have tX:∀B2 r o2,L B2=some (.box r o2)→L' B2=some (.box r o2)∧(w.setCell ⟨B,o+i * sz+c,none⟩ u).heap[B2]? = w.heap[B2]?:=fun B2 r o2 hL=>⟨(gZ _ _ _).2 hL,aB hL (by simp)⟩
   clear cr vj;generalize w.setCell ⟨B,o+i * sz+c,none⟩ u=w' at *;refine ⟨h.size,h.defers,?_,?_,?_,?_,?_,E8,oG,p7⟩
   ·intro i2;rw [su _ (by simp)];by_cases he:pl.k = .s i2
    ·rw [aJ he,he];rw [he] at hE p9;exact (h.slot i2).setCell hE bA (fun B2 q o2 hq FC hL=>lx B2 q o2 (.inr FC) (by rw [hq];rfl) hL) p9
    ·rw [az he];refine (h.slot i2).step bA ?_;intro B2 q o2 hq hL;rw [←hq,Place.l9];exact lx B2 q o2 (.inl (by rw [hq];exact fun e=>he e.symm)) (by rw [hq];rfl) hL
   ·intro r cc y hy ji;rw [su _ (by simp)] at hy;by_cases he:pl.k = .b r cc
    ·rw [aJ he,he] at hy;rw [he] at hE p9;obtain ⟨c0,vh⟩:=h.kf r cc;rw [vh] at hE hy;simp only [V.cells] at hE;have Js:pl.j=0:=by
      cases hj:pl.j with
      | zero=>rfl
      | succ n=>rw [hj] at hE;simp at hE
     rw [Js] at hE hy p9;simp only [kD,aj] at hE;subst hE;simp only [V.setCell,bV,V.one.injEq] at hy;subst hy;have hold:=h.cell r cc _ vh (by simp);have tr:(∃B o cur e fz v,L B=some (.box r o)∧w.heap[B]? = some (.cells cur e fz)∧jC cur.size fz∧cur[o+cc]? = some v∧aF nm w L S.γ (.b r cc) 0 (.d x) v∧lJ (.d x) B o cc e cur.size v)→
       (∃ B2 o2 iD e2 lq v, L' B2 = some (.box r o2) ∧ w'.heap[B2]? = some (.cells iD e2 lq) ∧ jC iD.size lq ∧ iD[o2 + cc]? = some v ∧
         aF nm w' L' S'.γ (.b r cc) 0 (.d (eF x (pl.p ++ [(i, c)]) z)) v ∧ lJ (.d (eF x (pl.p ++ [(i, c)]) z)) B2 o2 cc e2 iD.size v) := fun ⟨B2, o2, iD, e2, lq, v, h1, h2, h3, h4, h5, _⟩ =>
      ⟨B2,o2,iD,e2,lq,v,(tX B2 r o2 h1).1,(tX B2 r o2 h1).2.trans h2,h3,h4,p9 v h5,trivial⟩
     cases r with
     | g i'=>obtain ⟨v,hv⟩:=hold;exact ⟨v,p9 v hv⟩
     | e i'=>exact tr hold
     | l i'=>exact tr hold
    ·rw [az he] at hy;refine (h.cell r cc y hy ji).step bA ?_ ?_
     ·intro B2 q o2 hq hL;exact lx B2 q o2 (.inl (by rw [hq];exact fun e=>he e.symm)) (by rw [hq];rfl) hL
     ·intro B2 o2 hL;exact ⟨(tX B2 r o2 hL).1,fun iD e2 lq gC=>⟨iD,(tX B2 r o2 hL).2.trans gC,rfl,rfl⟩⟩
   ·intro r cc;rw [su _ (by simp)];by_cases he:pl.k = .b r cc
    ·rw [aJ he,he];obtain ⟨c0,vh⟩:=h.kf r cc;rw [vh];by_cases hj:pl.j=0
     ·exact ⟨.d (eF x (pl.p++[(i,c)]) z),by rw [hj];simp [V.setCell]⟩
     ·exact ⟨c0,by simp [V.setCell,hj]⟩
    ·rw [az he];exact h.kf r cc
   ·intro r cc c8;rw [zn] at c8;have hb:=h.bound r cc c8;rw [su _ (by simp)];by_cases he:pl.k = .b r cc
    ·rw [he,hb] at hE;exfalso;cases hj:pl.j with
     | zero=>rw [hj] at hE;simp [V.cells] at hE
     | succ n=>rw [hj] at hE;simp [V.cells] at hE
    ·rw [az he];exact hb
   ·intro r hg hr;rw [zn] at hr ⊢;obtain ⟨B2,o2,iD,e2,lq,h1,h2,h3,h4⟩:=h.room r hg hr;exact ⟨B2,o2,iD,e2,lq,(tX _ _ _ h1).1,(tX _ _ _ h1).2.trans h2,h3,h4⟩
  ·intro B2 q o2 hq hK hL;refine ⟨zC B2 q o2 hK (fun hu=>?_) hL,aB hL (fun e=>?_)⟩
   ·rw [hu.key.1] at hq;simp only [Place.sub] at hq;rw [hk] at hq;cases hq
   ·simp only [bQ.row.injEq] at e;rw [e.1,hk] at hq;cases hq
  ·refine ⟨rfl,rfl,rfl,by simp,Qg,?_,fun B i o hB=>(gZ _ _ _).2 hB⟩;intro B2 _ vB;refine ⟨vC B2 vB,px _ _ _ _ ?_⟩;rintro rfl;rw [hB] at vB;cases vB
 cases hf:(dH.flat&&z.flat) with
 | true=>
  have hzf:z.flat=true:=by simp only [bK] at hf;exact hf.2
  have:=main L (fun _=>Iff.rfl) (fun _ _ _=>Iff.rfl) (fun _ h=>h) (fun B l h=>⟨l,h⟩) h.eM (fun _ _ _ _ _ h=>h) (fun _ _ _ _ h=>h) (fun _=>rfl)
   (.plain ((hz.X9 hzf).mono (fun B2 hb=>⟨hb,aB hb (by simp)⟩)))
  rw [hf] at this;exact ⟨L,this⟩
 | false=>
  have:=main (mR (pl.sub i c) m j L) (fun _=>Xt) (fun _ _ _=>ahE) (fun _ h=>ahJ h) (fun B l h=>ahF h) (ahG h.eM) (fun _ _ _ h1 h2 h=>ahH h h1 h2)
   (fun B q o hq hL => by
     rcases OV hL with ⟨q0, _, _, rfl⟩ | ⟨h1, _⟩
     · simp only [Place.app, Place.sub] at hq; rw [hk] at hq; cases hq
     · exact h1)
   (fun h1 => by rw [hf] at h1; cases h1) (by
     cases hz with
     | d hz =>
       have := br.move (w' := w.setCell ⟨B, o + i * sz + c, none⟩ u) (L' := mR (pl.sub i c) m j L) (fun q => (pl.sub i c).app q.p) (fun q => q.k = .h m ∧ q.j = j) (fun _ _ _ h => h)
         (fun q a b _ => Place.Eg _ _ _ _) (fun B2 hb => ⟨Xt.2 hb, aB hb (by simp)⟩) (fun B2 q o2 hq hL => ⟨ahI hL hq, aB hL (fun e => by
           simp only [bQ.row.injEq] at e; rw [e.1] at hq; rw [hq.1] at hk; simp [Key.aT] at hk)⟩) hz ⟨rfl, rfl⟩
       simpa [Place.app] using this)
  rw [hf] at this;exact ⟨_,this⟩
end
end
section
section
variable {nm:FuncId→Option Nat} {N:Nat} {S0:St} {w0:World} {L0:aw} {ws:List Wr} {a:Act} {w:World} {L:aw}
theorem RP:∀(p:List (Nat×Nat)) (x:D) (q:List (Nat×Nat)),eu x (p++q)=(eu x p).bind (eu · q)
 | [],x,q=>by simp [eu]
 | (i,c)::p,x,q=>by
  simp only [qG];cases x with
  | sl t sz rows=>
   cases t with
   | own=>
    rw [C6,C6];cases h:cellOf rows i c with
    | none=>simp
    | some y=>simp [RP p y q]
   | im b=>simp [eu]
  | _=>simp [eu]
theorem anS {x dH:D} {p:List (Nat×Nat)} {i c:Nat} (h:eu x (p++[(i,c)])=some dH):∃sz rows,eu x p=some (.sl .own sz rows)∧cellOf rows i c=some dH:=by
 rw [RP] at h;cases hx:eu x p with
 | none=>simp [hx] at h
 | some y=>
  rw [hx] at h;simp only [Option.bind_some] at h;obtain ⟨sz,rows,z,rfl,h1,h2⟩:=Ah h;simp only [eu,aj] at h2;subst h2;exact ⟨sz,rows,rfl,h1⟩
theorem RQ {z dH:D} {i c:Nat}:∀(p:List (Nat×Nat)) {x:D} {sz:Nat} {rows:List (List D)},eu x p=some (.sl .own sz rows)→cellOf rows i c=some dH→
  eu (eF x (p++[(i,c)]) z) p=some (.sl .own sz (rows.set i ((rows.getD i []).set c z)))
 | [],x,sz,rows,h,hc=>by
  simp only [eu,aj] at h;subst h;simp only [uP];rw [Hd hc,eF];rfl
 | (i',c')::p,x,sz,rows,h,hc=>by
  obtain ⟨pL,qD,y,rfl,h1,h2⟩:=Ah h;simp only [qG];rw [Hd h1,C6,Eu h1,aJ ⟨rfl,rfl⟩];simp only [Option.bind_some];exact RQ p h2 hc
theorem Rel.Xu {m:Nat} {pl:Place} {B o i sz:Nat} (hk:pl.k.aT=true):∀(zs:List D) (us:List Value) (j0 c:Nat) (x:D) {ws eZ:List Wr} {w:World} {L:aw} (h:Rel nm N (S0.ah ws) a w L)
  (hE:((S0.ah ws).E pl.k).cells[pl.j]? = some (.d x)) (hn:∃rows,eu x pl.p=some (.sl .own sz rows)) (hB:L B=some (.row pl o)) (hl:zs.length=us.length)
  (hw:w7 ((S0.ah ws).E pl.k) pl i c zs x ws=some eZ)
  (hz:∀j z u,zs[j]? = some z→us[j]? = some u→aF nm w L (S0.ah ws).γ (.h m) (j0+j) (.d z) u),
  ∃L',Rel nm N (S0.ah eZ) a (w.setCells B (o+i * sz+c) us) L'∧de w (w.setCells B (o+i * sz+c) us) L L'∧(∀B q o,q.k.aT=false→L' B=some (.row q o)→L B=some (.row q o))
 | [],us,j0,c,x,ws,eZ,w,L,h,hE,hn,hB,hl,hw,hz=>by
  have:us=[]:=by simpa using hl.symm
  subst this;simp only [w7,aj] at hw;subst hw;exact ⟨L,h,de.refl _ _,fun _ _ _ _ h=>h⟩
 | z::zs,[],j0,c,x,ws,eZ,w,L,h,hE,hn,hB,hl,hw,hz=>by simp at hl
 | z::zs,u::us,j0,c,x,ws,eZ,w,L,h,hE,hn,hB,hl,hw,hz=>by
  simp only [w7] at hw;cases ho:eu x (pl.p++[(i,c)]) with
  | none=>simp [ho] at hw
  | some dH=>
   rw [ho] at hw;simp only at hw;split at hw;rotate_left
   ·cases hw
   rename_i QK;obtain ⟨MH,rows,h1,h2⟩:=anS ho;obtain ⟨uA,sD⟩:=hn;obtain ⟨rfl,rfl⟩:MH=sz∧rows=uA:=by rw [h1] at sD;simpa using sD
   obtain ⟨L1,g1,g2,g3,g4,g5⟩:=h.ahK hk hE h1 h2 hB (hz 0 z u rfl rfl) QK;have Fj:∀k:Key,k≠.a k:=by
    intro k;induction k with
    | a k ih=>intro e;simp only [Key.a.injEq] at e;exact ih e
    | _=>intro e;cases e
   have tV:(S0.ah ({ k:=pl.k,v:=((S0.ah ws).E pl.k).setCell pl.j (.d (eF x (pl.p++[(i,c)]) z)),keep:=dH.flat&&z.flat } :: { k:=.a pl.k,v:=V.dead } :: ws)).E pl.k =
     ((S0.ah ws).E pl.k).setCell pl.j (.d (eF x (pl.p++[(i,c)]) z)):=by
    simp only [St.ah,St.ig,bV]
   obtain ⟨L2,k1,k2,k3⟩:=Rel.Xu hk zs us (j0+1) (c+1) (eF x (pl.p++[(i,c)]) z) (ws:={ k:=pl.k,v:=((S0.ah ws).E pl.k).setCell pl.j (.d (eF x (pl.p++[(i,c)]) z)),keep:=dH.flat&&z.flat } :: { k:=.a pl.k,v:=V.dead } :: ws) g1
    (by rw [tV]; exact V.afw hE) ⟨_, RQ pl.p h1 h2⟩ g4 (by simpa using hl) (by rw [tV]; exact hw) (by
      intro j z' u' QU jv
      have := (hz (j + 1) z' u' (by simpa using QU) (by simpa using jv)).keep g2 (fun p => by simp)
      rwa [show j0 + 1 + j = j0 + (j + 1) by omega])
   exact ⟨L2,k1,g3.trans k2,fun B q o hq hL=>g5 B q o hq (k3 B q o hq hL)⟩
theorem Rel.Ja {S:St} (h:Rel nm N S a w L) {w':World} {L':aw}
  (ej:∀B l,L B=some l→(∀q o,l = .row q o→q.k.aT=true)→w'.heap[B]? = w.heap[B]?∧L' B=some l)
  (hd:rV w' L') (oG:lZ L') (p7:D5 L'):Rel nm N S a w' L':=by
 have bA:Step w w' L L' S.γ S.γ:=by
  refine ⟨fun B hB=>⟨(ej B _ hB (by simp)).2,(ej B _ hB (by simp)).1⟩,fun _=>bT _,?_,?_,fun B r o _ hB=>(ej B _ hB (by simp)).2⟩
  ·intro B q o hq _ hB;have:=ej B _ hB (fun q' o' e=>by simp only [bQ.row.injEq] at e;rw [←e.1];exact hq);exact ⟨this.2,fun cur e fz hc=>⟨cur,this.1.trans hc,rfl⟩⟩
  ·intro B q o hq _ _ hB;exact (ej B _ hB (fun q' o' e=>by simp only [bQ.row.injEq] at e;rw [←e.1];exact hq)).1
 refine ⟨h.size,h.defers,?_,?_,h.kf,h.bound,fun r hg hr=>let ⟨B,o,cur,e,fz,h1,h2,h3,h4⟩:=h.room r hg hr;⟨B,o,cur,e,fz,(ej B _ h1 (by simp)).2,(ej B _ h1 (by simp)).1.trans h2,h3,h4⟩,hd,oG,p7⟩
 ·intro i;refine (h.slot i).step bA ?_;intro B q o hq hB;have:=ej B _ hB (fun q' o' e=>by simp only [bQ.row.injEq] at e;rw [←e.1,hq];rfl);exact ⟨by rw [←hq,Place.l9];exact this.2,this.1⟩
 ·intro r c x hx gj;refine (h.cell r c x hx gj).step bA (fun B q o hq hB=>?_) (fun B o hB=>⟨(ej B _ hB (by simp)).2,fun cur e fz hc=>⟨cur,(ej B _ hB (by simp)).1.trans hc,rfl,rfl⟩⟩);have:=ej B _ hB (fun q' o' e=>by simp only [bQ.row.injEq] at e;rw [←e.1,hq];rfl);exact ⟨this.2,this.1⟩
theorem br.beyond {w':World} {pl:Place} {B o n:Nat} {cur dR:Array Value} {e:TypeId} {fz:Nat×Nat} (hL:L B=some (.row pl o)) (hB:w.heap[B]? = some (.cells cur e fz))
  (aB:∀B' l,L B'=some l→B'≠B→w'.heap[B']? = w.heap[B']?) (dA:w'.heap[B]? = some (.cells dR e fz)) (aZ:dR.size=cur.size) (Cj:∀i,i < o+n→dR[i]? = cur[i]?)
  {t:Place} {x:D} {v:Value} (h:br w L t x v):(∀p sz rows,t.app p=pl→eu x p=some (.sl .own sz rows)→rows.length * sz≤n)→br w' L t x v:=by
 have fT:rW w w' L L:=fun B2 hb=>⟨hb,aB B2 _ hb (fun e=>by rw [e,hL] at hb;cases hb)⟩
 induction h with
 | plain h=>exact fun _=>.plain (h.mono fT)
 | jm=>exact fun _=>.jm
 | @own t sz rows B1 o1 cap aq8 e1 fz1 val Zu oA Jc cX hlen dL dG hv hr dY ih=>
  intro JB;have qZ:∀i c x,cellOf rows i c=some x→br w' L (t.sub i c) x (val i c):=by
   intro i c x hx;refine ih i c x hx (fun p cw uA ht hn=>JB ((i,c)::p) cw uA ?_ ?_)
   ·rw [Place.qM];exact ht
   ·rw [C6,hx];exact hn
  by_cases he:B1=B
  ·subst he;rw [hL] at oA;simp only [aj,bQ.row.injEq] at oA;obtain ⟨rfl,rfl⟩:=oA;have hn:=JB [] sz rows (Place.A9 _) rfl;rw [hB] at Jc;simp only [aj,Obj.cells.injEq] at Jc;obtain ⟨rfl,rfl,rfl⟩:=Jc;refine .own val Zu hL dA (by rw [aZ];exact cX) hlen dL (by rw [aZ];exact dG) ?_ qZ dY;intro i c x hx;obtain ⟨hi,hc⟩:=oj hlen hx;rw [Cj]
   ·exact hv i c x hx
   ·have:(i+1) * sz≤rows.length * sz:=nC _ (by omega);rw [lI] at this;omega
  ·exact .own val Zu oA ((aB _ _ oA he).trans Jc) cX hlen dL dG hv qZ dY
theorem Rel.aov {S:St} (h:Rel nm N S a w L) {w':World} {pl:Place} {B o n sz:Nat} {cur dR:Array Value} {e:TypeId} {fz:Nat×Nat} {x:D} {rows:List (List D)} (hk:pl.k.aT=true)
  (hE:(S.E pl.k).cells[pl.j]? = some (.d x)) (hn:eu x pl.p=some (.sl .own sz rows)) (hlen:rows.length * sz≤n)
  (hL:L B=some (.row pl o)) (hB:w.heap[B]? = some (.cells cur e fz))
  (aB:∀B' l,L B'=some l→B'≠B→w'.heap[B']? = w.heap[B']?) (dA:w'.heap[B]? = some (.cells dR e fz)) (aZ:dR.size=cur.size) (Cj:∀i,i < o+n→dR[i]? = cur[i]?) :
  Rel nm N (S.wr { k:=.a pl.k,v:=V.dead }) a w' L:=by
 have bA:Step w w' L L S.γ (S.wr { k:=.a pl.k,v:=V.dead }).γ:=by
  refine ⟨fun B2 hb=>⟨hb,aB B2 _ hb (fun e=>by rw [e,hL] at hb;cases hb)⟩,S.pV _,?_,?_,fun _ _ _ _ hb=>hb⟩
  ·intro B2 q o2 _ _ hb;refine ⟨hb,fun iD e2 lq gC=>?_⟩;by_cases he:B2=B
   ·subst he;rw [hB] at gC;simp only [aj,Obj.cells.injEq] at gC;obtain ⟨rfl,rfl,rfl⟩:=gC;exact ⟨dR,dA,aZ⟩
   ·exact ⟨iD,(aB B2 _ hb he).trans gC,rfl⟩
  ·intro B2 q o2 _ _ Cq hb;refine aB B2 _ hb (fun he=>?_);subst he;rw [hL] at hb;simp only [aj,bQ.row.injEq] at hb;rw [←hb.1,St.jU] at Cq;simp at Cq
 have su:∀k,k≠.a pl.k→(S.wr { k:=.a pl.k,v:=V.dead }).E k=S.E k:=fun k ku=>by rw [St.ig];simp [Ne.symm ku]
 have lx:∀B2 q o2,q.k≠pl.k∨q.j≠pl.j→L B2=some (.row q o2)→L B2=some (.row q o2)∧w'.heap[B2]? = w.heap[B2]?:=by
  intro B2 q o2 hq hb;refine ⟨hb,aB B2 _ hb (fun he=>?_)⟩;subst he;rw [hL] at hb;simp only [aj,bQ.row.injEq] at hb;rcases hq with hq | hq<;>exact hq (by rw [hb.1])
 have p9:∀v,aF nm w L S.γ pl.k pl.j (.d x) v→aF nm w' L (S.wr { k:=.a pl.k,v:=V.dead }).γ pl.k pl.j (.d x) v:=by
  intro v hv;cases hv with
  | d hv=>
   refine .d (br.beyond hL hB aB dA aZ Cj hv ?_);intro p cw uA hp sD;have:p=pl.p:=by
    have:=fW Place.p hp;simpa [Place.app] using this
   subst this;rw [hn] at sD;simp only [aj,D.sl.injEq,lk] at sD;rw [←sD.1,←sD.2];exact hlen
 have E8:rV w' L:=by
  intro B2 l hb;by_cases he:B2=B
  ·subst he;exact (lG.1 dA).1
  ·exact xj (h.fq B2 l hb) (aB B2 _ hb he)
 have tX:∀B2 r o2,L B2=some (.box r o2)→w'.heap[B2]? = w.heap[B2]?:=fun B2 r o2 hb=>aB B2 _ hb (fun he=>by rw [he,hL] at hb;cases hb)
 generalize vj:S.wr { k:=.a pl.k,v:=V.dead } = S' at *;refine ⟨h.size,h.defers,?_,?_,?_,?_,?_,E8,h.eM,h.fA⟩
 ·intro i2;rw [su _ (by simp)];by_cases he:pl.k = .s i2
  ·have:=(h.slot i2).setCell (j:=pl.j) (c:=.d x) (c':=.d x) (by rw [←he];exact hE) bA
    (fun B2 q o2 hq FC hb=>lx B2 q o2 (.inr FC) hb) (by rw [←he];exact p9)
   rwa [V.apm (by rw [←he];exact hE)] at this
  ·refine (h.slot i2).step bA ?_;intro B2 q o2 hq hb;rw [←hq,Place.l9];exact lx B2 q o2 (.inl (by rw [hq];exact fun e=>he e.symm)) hb
 ·intro r cc y hy ji;rw [su _ (by simp)] at hy;by_cases he:pl.k = .b r cc
  ·rw [he] at hE p9;rw [hy] at hE;simp only [V.cells] at hE;have Js:pl.j=0:=by
    cases hj:pl.j with
    | zero=>rfl
    | succ n=>rw [hj] at hE;simp at hE
   rw [Js] at hE p9;simp only [kD,aj] at hE;subst hE;have hold:=h.cell r cc _ hy ji;have tr:(∃B o cur e fz v,L B=some (.box r o)∧w.heap[B]? = some (.cells cur e fz)∧jC cur.size fz∧cur[o+cc]? = some v∧aF nm w L S.γ (.b r cc) 0 (.d x) v∧lJ (.d x) B o cc e cur.size v)→
     (∃B o cur e fz v,L B=some (.box r o)∧w'.heap[B]? = some (.cells cur e fz)∧jC cur.size fz∧cur[o+cc]? = some v∧aF nm w' L S'.γ (.b r cc) 0 (.d x) v∧lJ (.d x) B o cc e cur.size v):=
    fun ⟨B2,o2,iD,e2,lq,v,h1,h2,h3,h4,h5,_⟩=>⟨B2,o2,iD,e2,lq,v,h1,(tX B2 r o2 h1).trans h2,h3,h4,p9 v h5,trivial⟩
   cases r with
   | g i'=>obtain ⟨v,hv⟩:=hold;exact ⟨v,p9 v hv⟩
   | e i'=>exact tr hold
   | l i'=>exact tr hold
  ·refine (h.cell r cc y hy ji).step bA ?_ ?_
   ·intro B2 q o2 hq hb;exact lx B2 q o2 (.inl (by rw [hq];exact fun e=>he e.symm)) hb
   ·intro B2 o2 hb;exact ⟨hb,fun iD e2 lq gC=>⟨iD,(tX B2 r o2 hb).trans gC,rfl,rfl⟩⟩
 ·intro r cc;rw [su _ (by simp)];exact h.kf r cc
 ·intro r cc c8;rw [su _ (by simp)] at c8 ⊢;exact h.bound r cc c8
 ·intro r hg hr;rw [su _ (by simp)] at hr ⊢;obtain ⟨B2,o2,iD,e2,lq,h1,h2,h3,h4⟩:=h.room r hg hr;exact ⟨B2,o2,iD,e2,lq,h1,(tX B2 r o2 h1).trans h2,h3,h4⟩
theorem Rel.Vp {S:St} (h:Rel nm N S a w L) {m j:Nat} (hm:∀B o,L B≠some (.row ⟨.h m,j,[]⟩ o)) (cur:Array Value) (e:TypeId) :
  Rel nm N S a (w.alloc (.cells cur e)) (L.put w.heap.size (.row ⟨.h m,j,[]⟩ 0)):=by
 have Cd:=h.fq.new;have aB:∀B l,L B=some l→B≠w.heap.size:=fun B l hB e=>by rw [e,Cd] at hB;cases hB
 refine h.grow (fun B l hB=>mV w _ (aB B l hB)) (fun B l hB=>by rw [aw.gy (aB B l hB)];exact hB) ?_ ?_ ?_
 ·intro B l hB;by_cases he:B=w.heap.size
  ·subst he;exact (lG.1 (oD w _)).1
  ·rw [aw.gy he] at hB;exact xj (h.fq B l hB) (mV w _ he)
 ·intro B B' pl o o' h1 h2;by_cases he:B=w.heap.size
  ·by_cases c6:B'=w.heap.size
   ·rw [he,c6]
   ·subst he;rw [aw.la] at h1;rw [aw.gy c6] at h2;simp only [aj,bQ.row.injEq] at h1;rw [←h1.1] at h2;exact absurd h2 (hm B' o')
  ·rw [aw.gy he] at h1;by_cases c6:B'=w.heap.size
   ·subst c6;rw [aw.la] at h2;simp only [aj,bQ.row.injEq] at h2;rw [←h2.1] at h1;exact absurd h1 (hm B o)
   ·rw [aw.gy c6] at h2;exact h.eM B B' pl o o' h1 h2
 ·intro B B' r o o' h1 h2;by_cases he:B=w.heap.size
  ·subst he;rw [aw.la] at h1;simp at h1
  ·by_cases c6:B'=w.heap.size
   ·subst c6;rw [aw.la] at h2;simp at h2
   ·rw [aw.gy he] at h1;rw [aw.gy c6] at h2;exact h.fA B B' r o o' h1 h2
def oX (w:World) (L:aw) (H:Place) (rows:List (List D)) (val:Nat→Nat→Value):Prop:=∀i c x,cellOf rows i c=some x→br w L (H.sub i c) x (val i c)
def pa (rows:List (List D)) (sz o:Nat) (cur:Array Value) (val:Nat→Nat→Value):Prop:=∀i c x,cellOf rows i c=some x→cur[o+i * sz+c]? = some (val i c)
theorem aoG {cur:Array Value} {e:TypeId} {H:Place} {rows:List (List D)} {val:Nat→Nat→Value} (hd:rV w L) (hc:oX w L H rows val) :
  oX (w.alloc (.cells cur e)) (L.put w.heap.size (.row H 0)) H rows val:=by
 intro i c x hx;have aB:∀B l,L B=some l→B≠w.heap.size:=fun B l hB e=>by rw [e,hd.new] at hB;cases hB
 exact br.move id (fun _=>True) (fun _ _ _ _=>trivial) (fun _ _ _ _=>rfl) (fun B hB=>⟨by rw [aw.gy (aB B _ hB)];exact hB,mV w _ (aB B _ hB)⟩)
  (fun B q o _ hB=>⟨by rw [aw.gy (aB B _ hB)];exact hB,mV w _ (aB B _ hB)⟩) (hc i c x hx) trivial
theorem Rel.newRow {S:St} (h:Rel nm N S a w L) {m j:Nat} (hm:∀B o,L B≠some (.row ⟨.h m,j,[]⟩ o)) {cur:Array Value} {e:TypeId} {rows:List (List D)} {val:Nat→Nat→Value} {sz cap:Nat} (aZ:0 < sz)
  (hlen:∀r∈rows,r.length=sz) (dL:rows.length≤cap) (dG:cap * sz≤cur.size) (hv:pa rows sz 0 cur val) (hc:oX w L ⟨.h m,j,[]⟩ rows val) (dY:tK rows e) :
  Rel nm N S a (w.alloc (.cells cur e)) (L.put w.heap.size (.row ⟨.h m,j,[]⟩ 0))∧
   aF nm (w.alloc (.cells cur e)) (L.put w.heap.size (.row ⟨.h m,j,[]⟩ 0)) S.γ (.h m) j (.d (.sl .own sz rows)) (.slice (some ⟨w.heap.size,0,none⟩) rows.length cap):=
 ⟨h.Vp hm cur e,.d (.own val aZ (aw.la _ _ _) (oD w _) (fun j _=>by simp) hlen dL (by omega) (by simpa [pa] using hv) (aoG h.fq hc) dY)⟩
end
end
section
theorem Tk {α R:Type} (S:St) (q:Q α):∀(rs:List Key) (K:α→List Key→Option R),runK S q rs K=match q.run S with | some a=>K a ((q.reads S).reverse++rs) | none=>none:=by
 induction q with
 | ret a=>intro rs K;rfl
 | get k f ih=>
  intro rs K;simp only [runK,Q.run,Q.reads,ih,List.reverse_cons,eo,qG,uP]
 | oo h nat f ih=>
  intro rs K;simp only [runK,Q.run,Q.reads];rw [nat,nat α,nat (List Key)];cases h _ some with
  | none=>rfl
  | some b=>simp only [Option.bind,Option.getD];exact ih b rs K
 | no=>intro rs K;rfl
theorem Q.wi {α β:Type} (S:St) (x:Q α) (f:α→Q β):(x >>= f).reads S=x.reads S++(match x.run S with | some a=>(f a).reads S | none=>[]):=by
 show (x.bind f).reads S=_;induction x with
 | ret a=>rfl
 | get k g ih=>simp only [Q.bind,Q.reads,Q.run];rw [ih];rfl
 | oo h nat g ih=>
  simp only [Q.bind,Q.reads,Q.run];rw [nat,nat _ (fun b=>some ((g b).reads S)),nat α];cases h _ some with
  | none=>rfl
  | some b=>simp only [Option.bind,Option.getD];exact ih b
 | no=>rfl
def Q.le {α:Type} (p q:Q α):Prop:=∀S x,p.run S=some x→q.run S=some x∧p.reads S=q.reads S
theorem Q.le.refl {α:Type} (p:Q α):p.le p:=fun _ _ h=>⟨h,rfl⟩
theorem Q.le.bind {α β:Type} {p q:Q α} {f g:α→Q β} (h:p.le q) (hf:∀a,(f a).le (g a)):(p >>= f).le (q >>= g):=by
 intro S x hx;rw [Q.run_bind] at hx;cases hp:p.run S with
 | none=>simp [hp] at hx
 | some a=>
  simp only [hp,Option.bind] at hx;obtain ⟨h1,h2⟩:=h S a hp;obtain ⟨h3,h4⟩:=hf a S x hx;refine ⟨by rw [Q.run_bind,h1];exact h3,?_⟩;rw [Q.wi,Q.wi,hp,h1,h2];simp only [h4]
theorem Q.le.eT {α β:Type} {p:Q α} {f g:α→Q β} (hf:∀a,(f a).le (g a)):(p >>= f).le (p >>= g):=(Q.le.refl p).bind hf
theorem Q.le.trans {α:Type} {p q r:Q α} (h:p.le q) (h':q.le r):p.le r:=fun S x hx=>
 ⟨(h' S x (h S x hx).1).1,(h S x hx).2.trans (h' S x (h S x hx).1).2⟩
theorem Q.le.no {α:Type} (q:Q α):(Q.no:Q α).le q:=by intro S x h;cases h
theorem Q.le.GL {α:Type} {p q:Q α} (h:∀S x,p.run S=some x→q.run S=some x) (hp:∀S,p.reads S=[]) (hq:∀S,q.reads S=[]):p.le q:=
 fun S x hx=>⟨h S x hx,by rw [hp,hq]⟩
theorem afM:∀(s:DS) (x:D) (v:s.T),ko s x=some v→Bw s v some=some x:=by
 intro s x v h;cases s<;>cases x<;>simp only [ko] at h<;>try cases h
 ·split at h<;>cases h;rename_i hk;subst hk;rfl
 ·rfl
 ·rfl
 ·rename_i t cw rows;cases t<;>simp only at h
  ·split at h<;>cases h;rename_i hk;subst hk;rfl
  ·cases h
 ·rename_i t cw rows;cases t<;>simp only at h
  ·cases h
  ·split at h<;>cases h;rename_i hk;subst hk;rfl
 ·rename_i t cw rows;split at h<;>cases h;rename_i hk;subst hk;cases t<;>rfl
 ·rename_i t cw rows;split at h<;>cases h;rename_i hk;subst hk;rfl
 ·rfl
 all_goals rfl
theorem OF:∀(ds:List DS) (l:List D) (v:au ds),dS ds l=some v→ou ds v some=some l
 | [],[],v,_=>rfl
 | [],x::l,v,h=>by cases h
 | s::t,[],v,h=>by cases h
 | s::t,x::l,v,h=>by
  simp only [dS] at h;cases h1:ko s x with
  | none=>simp [h1] at h
  | some a=>
   cases h2:dS t l with
   | none=>simp [h1,h2] at h
   | some b=>
    simp only [h1,h2,aj] at h;subst h;simp only [ou];rw [OE,afM s x a h1];simp only [Option.bind];rw [xa,OF t l b h2];rfl
theorem W9:∀{cs:List C} {l:List D},mQ cs=some l→cs=l.map .d
 | [],l,h=>by cases h;rfl
 | c::t,l,h=>by
  cases c<;>simp only [mQ] at h<;>try cases h
  rename_i x;cases h1:mQ t with
  | none=>simp [h1] at h
  | some l1=>simp [h1] at h;subst h;simp [W9 h1]
theorem afL:∀(s:DS) (x:D) (v:s.T),ko s x=some v→C.d x=cC s v:=by
 intro s x v h;cases s with
 | int k=>
  cases x with
  | int k' n=>
   simp only [ko] at h;split at h
   ·rename_i he;simp only [aj] at h;subst h;subst he;rfl
   ·cases h
  | _=>cases h
 | bool=>
  cases x with
  | bool b=>simp only [ko,aj] at h;subst h;rfl
  | _=>cases h
 | str=>
  cases x with
  | str b=>simp only [ko,aj] at h;subst h;rfl
  | _=>cases h
 | im sz=>
  cases x with
  | sl t cw rows=>
   cases t with
   | im b=>
    simp only [ko] at h;split at h
    ·rename_i he;simp only [aj] at h;subst h;subst he;rfl
    ·cases h
   | own=>cases h
  | _=>cases h
 | own sz=>
  cases x with
  | sl t cw rows=>
   cases t with
   | im b=>cases h
   | own=>
    simp only [ko] at h;split at h
    ·rename_i he;simp only [aj] at h;subst h;subst he;rfl
    ·cases h
  | _=>cases h
 | sl sz=>
  cases x with
  | sl t cw rows=>
   simp only [ko] at h;split at h
   ·rename_i he;simp only [aj] at h;subst h;subst he;rfl
   ·cases h
  | _=>cases h
 | tg sz=>
  cases x with
  | sl t cw rows=>
   simp only [ko] at h;split at h
   ·rename_i he;simp only [aj] at h;subst h;subst he;rfl
   ·cases h
  | _=>cases h
 | bt t=>cases x<;>cases h
 | lp f l=>cases x<;>cases h
 | ptr i c=>cases x<;>cases h
 | cE=>cases x<;>cases h
 | eW=>cases x<;>cases h
 | dead=>
  cases x with
  | dead=>rfl
  | _=>cases h
 | any=>simp only [ko,aj] at h;subst h;rfl
theorem Oi:∀{l:List (Nat×Nat)} {cap:List C},wZ l cap=true→cap=w4 l
 | [],[],_=>rfl
 | [],_::_,h=>by cases h
 | _::_,[],h=>by cases h
 | x::l,c::t,h=>by
  unfold wZ at h;split at h
  ·rename_i heq _;cases heq
  ·rename_i i g c' t' h1 h2;simp only [qH] at h1 h2;obtain ⟨rfl,rfl⟩:=h1;obtain ⟨rfl,rfl⟩:=h2;simp only [bK,nA] at h;obtain ⟨h1,h2,h3,h4,h5⟩:=h;rw [Oi h5];simp only [w4,Is];rw [mJ h1,h4,mJ h2,mJ h3]
  ·rename_i n t' h1 h2;simp only [qH] at h1 h2;obtain ⟨rfl,rfl⟩:=h1;obtain ⟨rfl,rfl⟩:=h2;simp only [bK] at h;obtain ⟨h1,h2,h3⟩:=h;rw [Oi h3];simp only [w4,Is];rw [h1,mJ h2]
  ·cases h
theorem Oj:∀(l:List (Nat×Nat)),wZ l (w4 l)=true
 | []=>rfl
 | x::l=>by
  unfold w4 Is;cases h:Nat.beq x.1 EO with
  | true=>simp [wZ,h,Oj l]
  | false=>simp [wZ,h,Oj l]
theorem Xb (s:DS) (x:C) (v:s.T) (h:u7 s x=some v):x=cC s v:=by
 unfold u7 at h;split at h
 ·exact afL s _ v h
 ·split at h
  ·split at h
   ·rename_i h1 h2;rw [←mJ h1,Oi h2];rfl
   ·cases h
  ·cases h
 ·split at h
  ·split at h
   ·rename_i h1 h2 h3;rw [←mJ h1,mJ h2,←mJ h3];rfl
   ·cases h
  ·cases h
 ·split at h
  ·rfl
  ·cases h
 ·split at h
  ·rfl
  ·cases h
 ·split at h
  ·split at h
   ·rename_i he;subst he;rfl
   ·cases h
  ·cases h
 ·cases h
theorem afm (s:DS) (v:s.T):u7 s (cC s v)=some v:=by
 cases s<;>simp [cC,u7,ko,Oj]
theorem Xy (s:DS) (v:s.T):w9 s v some=some (cC s v):=by
 cases s<;>try rfl
 case sl sz=>obtain ⟨t,rows⟩:=v;cases t<;>rfl
theorem Xc:∀(ds:List DS) (l:List C) (v:au ds),y7 ds l=some v→l=bx ds v
 | [],[],_,_=>rfl
 | [],_::_,_,h=>by cases h
 | _::_,[],_,h=>by cases h
 | s::t,x::l,v,h=>by
  simp only [y7] at h;split at h
  ·rename_i a b h1 h2;simp only [aj] at h;subst h;simp only [bx];rw [←Xb s x a h1,←Xc t l b h2]
  ·cases h
theorem Xz:∀(ds:List DS) (v:au ds),tO ds v some=some (bx ds v)
 | [],_=>rfl
 | s::t,v=>by
  simp only [tO];rw [Bu,Xy];simp only [Option.bind];rw [Bv,Xz t v.2];rfl
theorem Xd (s:VS) (x:V) (v:s.T) (h:pj s x=some v):sd s v some=some x:=by
 cases s with
 | one s=>
  cases x with
  | one c=>
   simp only [pj] at h;simp only [sd];rw [Bu,Xy,Xb s c v h];rfl
  | agg cs=>cases h
  | aq vs=>cases h
 | fj=>
  cases x with
  | one c=>cases c<;>simp only [pj] at h<;>cases h<;>rfl
  | agg cs=>cases h
  | aq vs=>cases h
 | agg ds=>
  cases x with
  | agg cs=>
   simp only [pj] at h;cases h1:mQ cs with
   | none=>simp [h1] at h
   | some l=>
    simp only [h1] at h;simp only [sd];rw [xa,OF ds l v h,W9 h1];rfl
  | one c=>cases h
  | aq vs=>cases h
theorem Xe:∀(ss:List VS) (l:List V) (v:yN ss),y9 ss l=some v→tQ ss v some=some l
 | [],[],v,_=>rfl
 | [],x::l,v,h=>by cases h
 | s::t,[],v,h=>by cases h
 | s::t,x::l,v,h=>by
  simp only [y9] at h;cases h1:pj s x with
  | none=>simp [h1] at h
  | some a=>
   cases h2:y9 t l with
   | none=>simp [h1,h2] at h
   | some b=>
    simp only [h1,h2,aj] at h;subst h;simp only [tQ];rw [Bx,Xd s x a h1];simp only [Option.bind];rw [By,Xe t l b h2];rfl
theorem OD:∀(ss:List (List DS)) (l:List (List C)) (v:yK ss),sc ss l=some v→pk ss v some=some l
 | [],[],v,_=>rfl
 | [],x::l,v,h=>by cases h
 | s::t,[],v,h=>by cases h
 | s::t,x::l,v,h=>by
  simp only [sc] at h;cases h1:y7 s x with
  | none=>simp [h1] at h
  | some a=>
   cases h2:sc t l with
   | none=>simp [h1,h2] at h
   | some b=>
    simp only [h1,h2,aj] at h;subst h;simp only [pk];rw [Bv,Xz];simp only [Option.bind];rw [u9,OD t l b h2,←Xc s x a h1];rfl
theorem afN (s:RS) (x:V×List (List C)) (v:s.T) (h:ik s x=some v):qT s v some=some x:=by
 obtain ⟨x,out⟩:=x;cases s with
 | val s bs=>
  simp only [ik] at h;cases h1:pj s x with
  | none=>simp [h1] at h
  | some a=>
   cases h2:sc bs out with
   | none=>simp [h1,h2] at h
   | some b=>
    simp only [h1,h2,aj] at h;subst h;simp only [qT];rw [Bx,Xd s x a h1];simp only [Option.bind];rw [u9,OD bs out b h2];rfl
 | aq ss bs=>
  cases x with
  | aq xs=>
   simp only [ik] at h;cases h1:y9 ss xs with
   | none=>simp [h1] at h
   | some a=>
    cases h2:sc bs out with
    | none=>simp [h1,h2] at h
    | some b=>
     simp only [h1,h2,aj] at h;subst h;simp only [qT];rw [By,Xe ss xs a h1];simp only [Option.bind];rw [u9,OD bs out b h2];rfl
  | one c=>cases h
  | agg cs=>cases h
theorem Mv (an:iS) (dst:Nat) (l:List D):(Dx an dst l).le (pure l):=by
 unfold Dx;cases an.row dst with
 | none=>exact Q.le.refl _
 | some ds=>
  have Fk:∀(R:Type) (k:List D→Option R) x,(cF ds l fun v=>ou ds v k)=some x→k l=some x:=by
   intro R k x h;unfold cF at h;cases h1:dS ds l with
   | none=>simp [h1] at h
   | some v=>
    simp only [h1] at h;rw [xa,OF ds l v h1] at h;exact h
  intro S x h;have hr:(cF ds l fun v=>ou ds v fun b=>(Q.ret b:Q (List D)).run S)=some x:=h;have h1:=Fk _ _ _ hr;refine ⟨h1,?_⟩;show ((cF ds l fun v=>ou ds v fun b=>some ((Q.ret b:Q (List D)).reads S)).getD [])=[]
  cases hh:(cF ds l fun v=>ou ds v fun b=>some ((Q.ret b:Q (List D)).reads S)) with
  | none=>rfl
  | some y=>have:=Fk _ _ _ hh;simp only [Q.reads,aj] at this;rw [←this];rfl
theorem acx (s:RS) (o:Option (V×List (List C))):(Q.res s o).le (Q.dq o):=by
 have Fk:∀(R:Type) (k:V×List (List C)→Option R) x,(aG s o fun v=>qT s v k)=some x→∃y,o=some y∧k y=some x:=by
  intro R k x h;unfold aG at h;cases o with
  | none=>simp at h
  | some y=>
   simp only at h;cases h1:ik s y with
   | none=>simp [h1] at h
   | some v=>
    simp only [h1] at h;rw [XA,afN s y v h1] at h;exact ⟨y,rfl,h⟩
 intro S x h;have hr:(aG s o fun v=>qT s v fun b=>(Q.ret b:Q (V×List (List C))).run S)=some x:=h;obtain ⟨y,ho,h1⟩:=Fk _ _ _ hr;subst ho;simp only [Q.run,aj] at h1;subst h1;refine ⟨by simp,?_⟩;show ((aG s (some y) fun v=>qT s v fun b=>some ((Q.ret b:Q (V×List (List C))).reads S)).getD [])=[]
 cases hh:(aG s (some y) fun v=>qT s v fun b=>some ((Q.ret b:Q (V×List (List C))).reads S)) with
 | none=>rfl
 | some z=>obtain ⟨_,_,h4⟩:=Fk _ _ _ hh;simp only [Q.reads,aj] at h4;rw [←h4];rfl
theorem aoR (an:iS) (f:Nat) (bs:List (List C)) (o:Option (V×List (List C))):(S5 an f bs o).le (Q.dq o):=by
 unfold S5;split
 ·exact Q.le.no _
 ·split
  ·split
   ·exact acx _ _
   ·split
    ·exact acx _ _
    ·exact Q.le.refl _
  ·exact Q.le.refl _
theorem afn (an:iS) (Cl:bW) (dst f:Nat) (vs:List V) (ws:List Wr):(Oh an Cl dst f vs ws).le (yV Cl dst f vs ws):=by
 unfold Oh yV;refine .eT fun _=>.eT fun x=>?_
 obtain ⟨rs,bs⟩:=x;refine .eT fun eR=>.eT fun dJ=>(aoR _ f _ _).bind fun x=>?_
 exact .refl _
@[simp] theorem Q.acu {α:Type} (S:St) (a:α):(pure a:Q α).reads S=[]:=rfl
@[simp] theorem Q.SZ (S:St) (b:Bool):(Q.guard b).reads S=[]:=by cases b<;>rfl
@[simp] theorem Q.aoO (S:St) (b:Bool):(Q.ask b).reads S=[]:=by cases b<;>rfl
@[simp] theorem Q.aoP {α:Type} (S:St) (o:Option α):(Q.dq o).reads S=[]:=by cases o<;>rfl
theorem Q.G4 {α:Type} (S:St) (b:Bool) (x:α):(Q.guard b >>= fun _=>(pure x:Q α)).reads S=[]:=by
 cases b<;>rfl
theorem ae6 (tc:TC) (op:BinOp) (x y:V):(NS tc op x y).le (Q.dq (r6 tc op x y)):=by
 unfold NS;split
 ·rename_i k a k' b;split
  ·refine .GL (fun S x h=>?_) (fun S=>Q.G4 ..) (fun S=>by simp);simp only [Q.run_bind,Q.lB,Q.run_pure] at h;by_cases hg:(decide (k=k') && !decide (b=0))=true
   ·simp only [bK,fy,nA,U6] at hg;obtain ⟨rfl,hb⟩:=hg;simpa [hb,r6,Ct] using h
   ·simp [hg] at h
  ·refine .GL (fun S x h=>?_) (fun S=>Q.G4 ..) (fun S=>by simp);simp only [Q.run_bind,Q.lB,Q.run_pure] at h;by_cases hg:(decide (k=k') && !decide (b=0))=true
   ·simp only [bK,fy,nA,U6] at hg;obtain ⟨rfl,hb⟩:=hg;simpa [hb,r6,Ct] using h
   ·simp [hg] at h
  ·refine .GL (fun S x h=>?_) (fun S=>Q.G4 ..) (fun S=>by simp);simp only [Q.run_bind,Q.lB,Q.run_pure] at h;by_cases hb:b < 0
   ·simp [hb] at h
   ·simpa [hb,r6,DF] using h
  ·refine .GL (fun S x h=>?_) (fun S=>Q.G4 ..) (fun S=>by simp);simp only [Q.run_bind,Q.lB,Q.run_pure] at h;by_cases hb:b < 0
   ·simp [hb] at h
   ·simpa [hb,r6,DF] using h
  ·exact .refl _
 ·rename_i a b;split
  ·refine .GL (fun S x h=>?_) (fun S=>Q.G4 ..) (fun S=>by simp);simp only [Q.run_bind,Q.lB,Q.run_pure] at h;by_cases hb:a.length+b.length≤9223372036854775807
   ·simpa [hb,r6,Hl] using h
   ·simp [hb] at h
  ·exact .refl _
 ·exact .refl _
theorem W6:∀(p q:List (Nat×Nat)),Bp p q=true→FN p q=true→p=q
 | [],[],_,_=>rfl
 | [],_::_,h,_=>by simp [Bp] at h
 | _::_,[],h,_=>by simp [Bp] at h
 | (i,c)::p,(i',c')::q,h,h'=>by
  simp only [Bp,bK] at h;simp only [FN,bK] at h';rw [mJ h.1,mJ h'.2,W6 p q h.2 h'.1]
theorem apH (ws:List Wr) (P:Place) (c:C):(TD ws P c).le (oU ws P c):=by
 unfold TD;split
 ·rename_i pl g a sz rows;split
  ·rename_i hb;simp only [bK,eV] at hb;intro S x hx;rw [Q.run_bind,Q.lB] at hx;by_cases hi:FN pl.p P.p=true
   ·rw [aJ hi] at hx;have hp:pl=P:=by
     obtain ⟨k,j,p⟩:=pl;obtain ⟨k',j',p'⟩:=P;obtain ⟨h1,h2,h3⟩:=hb;simp only at h1 h2 h3 hi;rw [h1,mJ h2,W6 p p' h3 hi]
    refine ⟨by simp only [oU,hp,bV];rw [hp] at hx;exact hx,?_⟩;rw [Q.wi,Q.SZ,Q.lB,aJ hi];simp only [oU,hp,bV,uP]
   ·rw [az hi] at hx;cases hx
  ·exact .refl _
 ·exact .refl _
theorem X6 (P:Place) (i:Nat):∀(l:List C) (ws:List Wr) (c:Nat),(I3 P i ws c l).le (vg P i ws c l)
 | [],_,_=>.refl _
 | y::t,ws,c=>by
  unfold I3 vg;refine (apH ws (P.sub i c) y).bind fun r=>?_
  obtain ⟨y',eZ⟩:=r;dsimp only;split
  ·exact (X6 P i t eZ (c+1)).bind fun _=>.refl _
  ·exact .no _
theorem Ia (sz bytes:Nat) (v:V) (ws:List Wr) (src:List (List D)):(A7 sz bytes v ws src).le (wS sz bytes v ws src):=by
 unfold A7;split
 ·rename_i b cw rows;refine Q.le.eT fun _=>?_
  intro S x h;simp only [Q.run_bind,Q.MC,Option.bind] at h;exact ⟨h,by cases src<;>rfl⟩
 ·exact .refl _
def Q.C1 {α:Type} (S:St) (p q:Q α):Prop:=∀x,p.run S=some x→q.run S=some x∧p.reads S=q.reads S
theorem Q.C1.eT {α β:Type} {S:St} {p:Q α} {f g:α→Q β} (hf:∀a,p.run S=some a→Q.C1 S (f a) (g a)):Q.C1 S (p >>= f) (p >>= g):=by
 intro x hx;rw [Q.run_bind] at hx;cases hp:p.run S with
 | none=>simp [hp] at hx
 | some a=>
  simp only [hp,Option.bind] at hx;obtain ⟨h3,h4⟩:=hf a hp x hx;refine ⟨by rw [Q.run_bind,hp];exact h3,?_⟩;rw [Q.wi,Q.wi,hp];simp only [h4]
theorem Xv {pl:Place} {i:Nat}:∀(zs oP:List D) (c:Nat) (v:V) (x:D) (ws:List Wr) (sz:Nat) (rows:List (List D)) (row:List D),eu x pl.p=some (.sl .own sz rows)→rows[i]? = some row→
  (∀(j:Nat) o,oP[j]? = some o→row[c+j]? = some o)→oP.length=zs.length→Hp zs oP=true→w7 v pl i c zs x ws=some (EB pl i v c zs oP x ws)
 | [],oP,c,v,x,ws,sz,rows,row,_,_,_,_,_=>by simp [w7,EB]
 | z::t,[],c,v,x,ws,sz,rows,row,_,_,_,h,_=>by cases h
 | z::t,o::os,c,v,x,ws,sz,rows,row,hn,hr,ho,hl,h8=>by
  simp only [Hp,bK] at h8;have hc:row[c]? = some o:=by simpa using ho 0 o rfl
  have fE:cellOf rows i c=some o:=kL.2 ⟨row,hr,hc⟩;have JB:eu x (pl.p++[(i,c)])=some o:=by
   rw [RP,hn];simp only [Option.bind_some];rw [C6,fE];simp only [Option.bind_some];cases o<;>rfl
  simp only [w7,JB,EB,h8.1,bV];rw [Bool.and_comm o.flat z.flat];have hi:i < rows.length:=(cB.1 hr).1;have hg:rows.getD i []=row:=by
   rw [kC,hr];rfl
  refine Xv t os (c+1) _ _ _ sz (rows.set i (row.set c z)) (row.set c z) ?_ ?_ ?_ (by simpa using hl) h8.2
  ·rw [RQ pl.p hn fE,hg]
  ·simp [hi]
  ·intro j o' hj;have:=ho (j+1) o' hj;rw [qJ (by omega)];rw [show c+1+j=c+(j+1) by omega];exact this
theorem apI (ws:List Wr) (P:Place) (c:C):(TG ws P c).le (ta ws P c):=by
 unfold TG;split
 ·rename_i pl g sz off len;split
  ·rename_i hb;simp only [bK] at hb;obtain ⟨BZ,oC⟩:=hb;show (jw ws pl g sz >>= fun y=>Q.guard (off==0&&len==y.2.2.length && !y.2.2.isEmpty) >>= fun _=>(pure (.d (.sl .own sz y.2.2),nj ws pl.k (sN y.1.v pl y.2.1)):Q (C×List Wr))).le
    (jw ws pl g sz >>= fun y=>Q.ask (!(pl.k==P.k)&&pl.k.Gz&&(off==0&&len==y.2.2.length && !y.2.2.isEmpty)) >>= fun t=>if t then (pure (.d (.sl .own sz y.2.2),nj ws pl.k (sN y.1.v pl y.2.1)):Q (C×List Wr)) else st ws (.view pl g sz off len))
   refine .eT fun y=>?_
   obtain ⟨e,x,rows⟩:=y;intro S r h;simp only [Q.run_bind,Q.lB] at h;by_cases hg:(off==0&&len==rows.length && !rows.isEmpty)=true
   ·simp only [hg,bV,Option.bind,Q.run_pure,aj] at h;subst h;have ht:(!(pl.k==P.k)&&pl.k.Gz&&(off==0&&len==rows.length && !rows.isEmpty))=true:=by
     simp only [bK] at hg ⊢;exact ⟨⟨BZ,oC⟩,hg⟩
    constructor
    ·simp only [Q.run_bind,Q.MC,ht,Option.bind,bV,Q.run_pure]
    ·simp only [Q.wi,Q.SZ,Q.aoO,Q.lB,Q.MC,hg,BZ,oC,Bool.and_self,bV,Q.acu]
   ·simp [hg] at h
  ·exact .refl _
 ·exact .refl _
theorem acf (mv:Bool) (r:aI):∀(l:List C) (ws:List Wr) (c:Nat),(Mf mv r ws c l).le (putCells mv r ws c l)
 | [],ws,c=>.refl _
 | y::t,ws,c=>by
  unfold Mf putCells;refine Q.le.bind ?_ fun x=>?_
  ·unfold ace Me;split
   ·exact apI _ _ _
   ·exact .refl _
  ·obtain ⟨y',eZ⟩:=x;refine (acf mv r t eZ (c+1)).bind fun x=>?_
   exact .refl _
theorem ahR (an:iS) (Cl:bW) (dst:Nat) (op:oY):(sh an Cl dst op).le (bp Cl dst op):=by
 cases op with
 | pick c a b=>
  unfold sh bp;refine .eT fun v=>?_
  split
  ·rename_i t;cases t with
   | true=>
    intro S x h;exact ⟨h,rfl⟩
   | false=>
    intro S x h;exact ⟨h,rfl⟩
  ·exact .no _
 | load n agg x=>
  unfold sh bp;refine .eT fun v=>?_
  split
  ·exact .refl _
  ·rename_i cells;refine .eT fun _=>?_
   have:(do let r' ←lQ agg ((cells.take n).map .d);pure (r',[]):Q (V×List Wr))=(do let l ←(pure (cells.take n):Q (List D));let r' ←lQ agg (l.map .d);pure (r',[])):=rfl;rw [this];exact (Mv an dst _).bind fun _=>.refl _
  ·rename_i pl g sz i c;refine .eT fun y=>?_
   obtain ⟨e,x0,rows⟩:=y;refine .eT fun row=>.eT fun _=>?_
   have:(do let r' ←lQ agg (rh pl g i c ((row.drop c).take n));pure (r',[]):Q (V×List Wr))=(do let l ←(pure ((row.drop c).take n):Q (List D));let r' ←lQ agg (rh pl g i c l);pure (r',[])):=rfl;rw [this];exact (Mv an dst _).bind fun _=>.refl _
  ·exact .refl _
  ·exact .no _
 | store mv n x v=>
  unfold sh bp;refine .eT fun p=>.eT fun vv=>.eT fun _=>?_
  split
  ·refine (acf mv _ _ _ _).bind fun x=>?_
   exact .refl _
  ·rename_i pl g sz i c;refine Q.le.trans ((X6 pl i vv.1.cells vv.2 c).bind fun _=>.refl _) ?_;intro S;refine Q.C1.eT fun zz hz=>Q.C1.eT fun er he=>Q.C1.eT fun row df=>?_
   obtain ⟨zs,fc⟩:=zz;obtain ⟨e,x0,rows⟩:=er;obtain ⟨_,_,_,hn⟩:=ux he;simp only [Q.yp] at df;intro y hy;rw [Q.run_bind,Q.lB] at hy;by_cases hg:(decide (c+n≤row.length)&&zs.length==n)=true
   ·rw [aJ hg] at hy;simp only [bK,fy,eV] at hg;simp only [Option.bind,Q.run_bind] at hy;cases ho:(Dx an (ME x) ((row.drop c).take n)).run S with
    | none=>simp [ho] at hy
    | some dH=>
     have hold:=(Mv an (ME x) _ S dH ho).1;simp only [Q.run_pure,aj] at hold;simp only [ho,Q.lB] at hy;by_cases jX:(dH.length==n&&Hp zs dH)=true
     ·simp only [jX,bV,Q.run_pure,aj] at hy;have Fc:=jX;simp only [bK,eV] at Fc;have hlen:dH.length=zs.length:=by omega
      have tZ := Xv (pl := pl) (i := i) zs dH c e.v x0 fc sz rows row hn df (by
        intro j o hj
        rw [← hold] at hj
        rw [M'] at hj
        split at hj
        · rwa [tC] at hj
        · cases hj) hlen Fc.2
      constructor
      ·simp only [Q.run_bind,Q.lB,hg.1,decide_true,bV,Option.bind,Q.yp,tZ,Q.run_pure,hy]
      ·simp only [Q.wi,Q.SZ,Q.lB,hg.1,hg.2,decide_true,HQ,Bool.and_self,bV,(Mv an (ME x) _ S dH ho).2,ho,jX,Q.acu,Q.aoP,Q.yp,tZ,mH]
     ·simp [jX] at hy
   ·rw [az hg] at hy;cases hy
  ·exact .no _
 | bin tc op x y=>
  unfold sh bp;exact .eT fun a=>.eT fun b=>(ae6 tc op a b).bind fun _=>.refl _
 | app sz bytes x y=>
  unfold sh bp;refine .eT fun a=>?_
  obtain ⟨a,ws⟩:=a;refine .eT fun a=>?_
  obtain ⟨a,ws⟩:=a;refine .eT fun b=>?_
  exact Ia _ _ b.1 b.2 a
 | A8 sz bytes x y=>
  unfold sh bp;refine .eT fun a=>?_
  split
  ·refine .eT fun a=>.eT fun _=>.eT fun b=>?_
   exact Ia _ _ b.1 b.2 _
  ·rename_i sG;try split
   all_goals first
    | exact absurd rfl (sG _ _ _ _ _)
    | (unfold XG
       refine .eT fun a => ?_
       obtain ⟨a, ws⟩ := a
       refine .eT fun a => ?_
       obtain ⟨a, ws⟩ := a
       refine .eT fun b => ?_
       exact Ia _ _ b.1 b.2 a)
 | A6 x y=>
  unfold sh bp;refine .eT fun a=>?_
  split
  ·refine .eT fun a=>?_
   exact Ia _ _ a.1 a.2 _
  ·exact .no _
 | call f args=>
  unfold sh bp;refine .eT fun v=>?_
  split
  ·refine .eT fun _=>.eT fun a=>?_
   exact afn _ _ _ _ _ a.2
  ·exact .no _
 | _=>exact .refl _
theorem St.la:∀(S:St) (k:Key) (e:mL),S.get k=e→e≠⟨.one .dead,0⟩→S.put k e=S
 | [],k,e,h,hn=>absurd h.symm hn
 | (k',e')::t,k,e,h,hn=>by
  simp only [St.get] at h;simp only [St.put];by_cases hk:k'=k
  ·simp only [hk,bV] at h ⊢;rw [h]
  ·simp only [hk,dE] at h ⊢;rw [St.la t k e h hn]
theorem aqW {R:Type} {S:St} {g:Option (Nat×Bool)} {K:Bool→St→List Key→Option R} {r:R} (h:Um S g K=some r) :
  ∃want,(BR g).run S=some want∧K want S ((BR g).reads S).reverse=some r:=by
 unfold Um at h;cases g with
 | none=>exact ⟨true,rfl,h⟩
 | some x=>
  obtain ⟨t,b⟩:=x;simp only at h;cases he:S.get (.s t) with
  | mk v c=>
   rw [he] at h;have iW:(BR (some (t,b))).run S=(match v with | .one (.d (.bool x))=>(pure (x==b):Q Bool) | .aq []=>pure false | _=>Q.no).run S:=by
    show (Q.run S (match (S.get (.s t)).v with | .one (.d (.bool x))=>(pure (x==b):Q Bool) | .aq []=>pure false | _=>Q.no))=_;rw [he]
   have Zl:∀y,(match v with | .one (.d (.bool x))=>(pure (x==b):Q Bool) | .aq []=>pure false | _=>Q.no)=pure y→(BR (some (t,b))).reads S=[.s t]:=by
    intro y hy;show (.s t::Q.reads S (match (S.get (.s t)).v with | .one (.d (.bool x))=>(pure (x==b):Q Bool) | .aq []=>pure false | _=>Q.no))=_;rw [he];simp only [hy];rfl
   split at h
   ·rename_i x c' heq;cases heq;have h2:K (x==b) (S.put (.s t) ⟨.one (.d (.bool x)),c⟩) [.s t]=some r:=by
     cases x<;>exact h
    rw [St.la S _ _ he (by simp)] at h2;refine ⟨x==b,by rw [iW];rfl,?_⟩;rw [Zl _ rfl];exact h2
   ·rename_i c' heq;cases heq;refine ⟨false,by rw [iW];rfl,?_⟩;rw [Zl _ rfl];exact h
   ·cases h
theorem O5 {R:Type} {r:aI} {x:R}:∀{n c:Nat} {S:St} {K:St→Option R},BA r n c S K=some x→K S=some x
 | 0,c,S,K,h=>h
 | n+1,c,S,K,h=>by
  simp only [BA] at h;split at h
  ·rename_i t sz rows g he;have h1:BA r n (c+1) (S.put (.b r c) ⟨.one (.d (.sl t sz rows)),g⟩) K=some x:=by
    cases t<;>exact h
   have h2:=O5 h1;rw [St.la S _ _ he (by simp)] at h2;exact h2
  ·exact O5 h
theorem O8 {R:Type} {n:Nat} {v:V} {S:St} {K:St→Option R} {x:R} (h:EJ n v S K=some x):K S=some x:=by
 unfold EJ at h;split at h
 ·exact O5 h
 ·exact h
theorem aiz {R:Type} {op:oY} {S:St} {K:St→Option R} {x:R} (h:O6 op S K=some x):K S=some x:=by
 unfold O6 at h;split at h
 ·exact O8 h
 ·exact O8 h
 ·exact h
theorem O7 {R:Type} {x:R}:∀{l:List RV} {S:St} {K:St→Option R},EI l S K=some x→K S=some x
 | [],S,K,h=>h
 | .cell t n a::l,S,K,h=>O7 (O8 (K:=fun S=>EI l S K) h)
 | .slot t::l,S,K,h=>O7 (l:=l) h
theorem XJ {R:Type} {an:iS} {Cl:bW} {o:gB} {S:St} {K:St→List Key→List Wr→Option R} {r:R} (h:IT an Cl o S K=some r) :
  ∃ws,(gw Cl o).run S=some ws∧K S ((gw Cl o).reads S).reverse ws=some r:=by
 unfold IT at h;obtain ⟨want,h1,h2⟩:=aqW h;clear h;unfold gw;rw [Q.run_bind,Q.wi,h1];simp only [Option.bind];cases want with
 | true=>
  simp only at h2;have h2:=aiz h2;rw [Tk] at h2;cases Qz:(sh an Cl (o.dst.getD 0) o.op).run S with
  | none=>simp [Qz] at h2
  | some x=>
   simp only [Qz] at h2;obtain ⟨h3,h4⟩:=ahR an Cl (o.dst.getD 0) o.op S x Qz;rw [h4] at h2;simp only [bV];rw [Q.run_bind,Q.wi,h3];obtain ⟨v,ws⟩:=x;cases hd:o.dst with
   | none=>
    simp only [hd,Option.bind,Option.getD] at h2 ⊢;exact ⟨ws,rfl,by simpa using h2⟩
   | some d=>
    simp only [hd,Option.bind,Option.getD] at h2 ⊢;exact ⟨_,rfl,by simpa using h2⟩
 | false=>
  simp only at h2;cases hd:o.dst with
  | none=>
   simp only [hd] at h2;exact ⟨[],rfl,by simpa using h2⟩
  | some d=>
   simp only [hd] at h2;exact ⟨_,rfl,by simpa using h2⟩
section
variable {R:Type} {r:R}
theorem X1:∀{f i g:Nat} {K:Nat→Option R},IY f i g K=some r→K g=some r
 | 0,_,_,_,h=>by cases h
 | f+1,i,g,K,h=>by
  simp only [IY] at h;split at h
  ·rename_i hb;rw [mJ hb];exact h
  ·exact X1 h
theorem si {g:Nat} {K:Nat→Option R} (h:fN g K=some r):K g=some r:=X1 h
theorem Pa {x:aI} {K:aI→Option R} (h:IZ x K=some r):K x=some r:=by cases x<;>exact h
theorem O':∀{x:Key} {K:Key→Option R},IX x K=some r→K x=some r
 | .s _,_,h=>h
 | .b _ _,_,h=>si (Pa h)
 | .r _,_,h=>Pa h
 | .h _,_,h=>h
 | .a k,K,h=>O' (x:=k) (K:=fun k=>K (.a k)) h
theorem XZ {x:D} {K:D→Option R} (h:fD x K=some r):K x=some r:=by
 cases x<;>exact h
theorem O9 {x:C} {K:C→Option R} (h:fC x K=some r):K x=some r:=by
 cases x with
 | d x=>exact XZ (K:=fun x=>K (.d x)) h
 | ptr a g c=>exact si (K:=fun c=>K (.ptr a g c)) (si (K:=fun g=>fN c fun c=>K (.ptr a g c)) (Pa (K:=fun a=>fN g fun g=>fN c fun c=>K (.ptr a g c)) h))
 | eD pl g sz i c=>exact si (K:=fun c=>K (.eD pl g sz i c)) (si (K:=fun g=>fN c fun c=>K (.eD pl g sz i c)) h)
 | view pl g sz off len=>exact si (K:=fun g=>K (.view pl g sz off len)) h
 | c7 pl g a sz rows=>exact si (K:=fun a=>K (.c7 pl g a sz rows)) (si (K:=fun g=>fN a fun a=>K (.c7 pl g a sz rows)) h)
 | mp x=>exact XZ (K:=fun x=>K (.mp x)) h
 | gk i g=>exact si (K:=fun g=>K (.gk i g)) h
 | _=>exact h
theorem IW:∀{l:List C} {K:List C→Option R},BE l K=some r→K l=some r
 | [],_,h=>h
 | c::t,K,h=>IW (K:=fun t=>K (c::t)) (O9 (K:=fun c=>BE t fun t=>K (c::t)) h)
theorem I1:∀{l:List V} {K:List V→Option R},ze l K=some r→K l=some r
 | [],_,h=>h
 | .one c::t,K,h=>I1 (K:=fun t=>K (.one c::t)) (O9 (K:=fun c=>ze t fun t=>K (.one c::t)) h)
 | .agg cs::t,K,h=>I1 (K:=fun t=>K (.agg cs::t)) (IW (K:=fun cs=>ze t fun t=>K (.agg cs::t)) h)
 | .aq vs::t,K,h=>I1 (K:=fun t=>K (.aq vs::t)) h
theorem Pc {x:V} {K:V→Option R} (h:fV x K=some r):K x=some r:=by
 cases x with
 | one c=>exact O9 (K:=fun c=>K (.one c)) h
 | agg cs=>exact IW (K:=fun cs=>K (.agg cs)) h
 | aq vs=>exact I1 (K:=fun vs=>K (.aq vs)) h
theorem aiA {x:Bool} {K:Bool→Option R} (h:X0 x K=some r):K x=some r:=by cases x<;>exact h
theorem Pd:∀{l:List Wr} {K:List Wr→Option R},I2 l K=some r→K l=some r
 | [],_,h=>h
 | ⟨k,v,b⟩::t,K,h=>by
  have h:=aiA (Pc (O' h));exact Pd (K:=fun t=>K (⟨k,v,b⟩::t)) h
theorem XY:∀{l:List (List C)} {K:List (List C)→Option R},IV l K=some r→K l=some r
 | [],_,h=>h
 | c::t,K,h=>XY (K:=fun t=>K (c::t)) (IW (K:=fun c=>IV t fun t=>K (c::t)) h)
theorem EK:∀{l:St} {K:St→Option R},BF l K=some r→K l=some r
 | [],_,h=>h
 | (k,⟨v,g⟩)::t,K,h=>by
  have h:=si (Pc (O' h));exact EK (K:=fun t=>K ((k,⟨v,g⟩)::t)) h
theorem Pb:∀{l:St} {K:St→Option R},I0 l K=some r→K l=some r
 | [],_,h=>h
 | (k,⟨v,g⟩)::t,K,h=>by
  have h:=si h;exact Pb (K:=fun t=>K ((k,⟨v,g⟩)::t)) h
end
theorem OZ {R:Type} {an:iS} {Cl:bW}:∀{ops:List gB} {S:St} {K:St→Option R} {r:R},EE an Cl ops S K=some r→
  ∃S',ma Cl ops S=some S'∧K S'=some r
 | [],S,K,r,h=>⟨S,rfl,h⟩
 | o::t,S,K,r,h=>by
  simp only [EE] at h;obtain ⟨ws,h1,h2⟩:=XJ h;obtain ⟨S',h3,h4⟩:=OZ (Pb (Pd h2));exact ⟨S',by simp only [ma,h1,Option.bind];exact h3,h4⟩
theorem XL {R:Type} {an:iS} {Cl:bW}:∀{ops:List gB} {S:St} {fs:List lK} {K:St→List lK→Option R} {r:R},EF an Cl ops S fs K=some r→
  ∃S' I',il Cl ops S=some (S',I')∧K S' (fs.reverse++I')=some r
 | [],S,fs,K,r,h=>⟨S,[],rfl,by simpa [EF] using h⟩
 | o::t,S,fs,K,r,h=>by
  simp only [EF] at h;obtain ⟨ws,h1,h2⟩:=XJ h;obtain ⟨S',I',h3,h4⟩:=XL (Pb (Pd h2));refine ⟨S',_,by simp only [il,h1,Option.bind,h3,Option.map];rfl,?_⟩;simpa using h4
theorem afQ {R:Type} {an:iS} {Cl:bW} {ops:List gB} {draw:Option (List (Nat×Nat))} {S:St} {K:St→Option R} {r:R} (h:OM an Cl ops draw S K=some r) :
  ∃S',po Cl none false ops draw S=some S'∧K S'=some r:=by
 unfold OM at h;unfold po;simp only [Option.bind];split at h
 ·obtain ⟨S',h1,h2⟩:=OZ h;exact ⟨S',by simpa using h1,h2⟩
 ·obtain ⟨S',h1,h2⟩:=OZ h;exact ⟨S',by simpa using h1,h2⟩
 ·rename_i ps aB;obtain ⟨S',I',h1,h2⟩:=XL h;simp only [List.reverse_nil,uP] at h2;split at h2
  ·rename_i hp;refine ⟨S',?_,h2⟩;cases ps with
   | nil=>exact absurd rfl aB
   | cons p ps=>simp [h1,hp]
  ·cases h2
theorem XQ {Cl:bW} {keep:Option (List Nat)} {gc:Bool} {ops:List gB} {draw:Option (List (Nat×Nat))} {S:St} :
  po Cl keep gc ops draw S=(S.mC keep gc).bind (po Cl none false ops draw):=by
 unfold po St.mC;simp only [Option.bind_assoc];cases keep with
 | none=>cases gc<;>rfl
 | some l=>
  cases h:S.norm l with
  | none=>simp only [h,Option.bind]
  | some S1=>simp only [h,Option.bind];cases gc<;>rfl
theorem Ed {Cl:bW} {n:Nat} {keep:Option (List Nat)} {gc:Bool}:∀{c:jE},c.B4=true→∀(S:St),
  dm Cl n (kH keep gc (eL c)) S=(S.mC keep gc).bind (dm Cl n (eL c))
 | .ja k g ops draw,h,S=>by
  cases k with
  | none=>
   cases g with
   | false=>
    simp only [eL,kH];show (po Cl keep gc ops draw S).map _=_;rw [XQ];cases S.mC keep gc<;>rfl
   | true=>cases h
  | some=>cases h
 | .seq a b,h,S=>by
  simp only [eL,kH,dm];rw [Ed (c:=a) h S];cases S.mC keep gc<;>rfl
 | .block id b,h,S=>by
  simp only [eL,kH,dm];rw [Ed (c:=b) h S];cases S.mC keep gc<;>rfl
 | .join id k g a b,h,S=>by
  simp only [eL,kH,dm];rw [Ed (c:=a) h S];cases S.mC keep gc<;>rfl
 | .skip,h,_=>by cases h
 | .cond ..,h,_=>by cases h
 | .loop ..,h,_=>by cases h
 | .exit _,h,_=>by cases h
 | .ret,h,_=>by cases h
theorem afF {R:Type} {S:St} {c:X} {K:Bool→St→Option R} {r:R} (h:Oy S c K=some r):∃b,yY S c=some b∧K b S=some r:=by
 unfold Oy at h;split at h
 ·rename_i i;split at h
  ·rename_i b g he;have h1:K b (S.put (.s i) ⟨.one (.d (.bool b)),g⟩)=some r:=by cases b<;>exact h
   rw [St.la S _ _ he (by simp)] at h1;refine ⟨b,?_,h1⟩;unfold yY;simp only [rd,Q.run_bind,Q.uD,Option.bind,he,Q.run_pure];rfl
  ·cases h
 ·rw [Tk] at h;unfold yY;cases hr:(rd c).run S with
  | none=>simp [hr] at h
  | some v=>
   simp only [hr] at h;split at h
   ·rename_i b;refine ⟨b,rfl,?_⟩;cases b<;>exact h
   ·cases h
theorem ZN {R:Type} {id:Nat} {f:St→kG R→Option R} {g:St→Option (tI×St)} {keep:Option (List Nat)} {gc:Bool} {K:kG R} {r:R}
  (hf:∀S K',f S K'=some r→∃e S',g S=some (e,S')∧K' e S'=some r) :
  ∀(m:Nat) (S S1:St),S.mC keep gc=some S1→Cu id f keep gc m S1 K=some r→∃e S',iter (fun S=>(S.mC keep gc).bind g) m S=some (e,S')∧K e S'=some r
 | 0,_,_,_,h=>by cases h
 | m+1,S,S1,hp,h=>by
  simp only [Cu] at h;obtain ⟨e,S',h1,h2⟩:=hf _ _ h;simp only [iter,hp,Option.bind,h1];cases e with
  | norm=>
   simp only [RX] at h2;cases Cf:S'.mC keep gc with
   | none=>simp [Cf] at h2
   | some S2=>
    simp only [Cf] at h2;exact ZN hf m S' S2 Cf (EK h2)
  | exit i=>exact ⟨_,_,rfl,h2⟩
  | ret=>exact ⟨_,_,rfl,h2⟩
theorem adY:∀(ds:List DS) (v:au ds),T4 ds (bx ds v)=some v
 | [],_=>rfl
 | s::t,v=>by
  have h:=adY t v.2;unfold T4 at h ⊢;simp only [bx,y7,afm,h]
theorem ake {R:Type} {id:Nat} {f:St→kG R→Option R} {m:Nat} {S:St} {K:kG R} {r:R} (h:Rb id f m S K=some r):f S K=some r:=by
 cases m with
 | zero=>cases h
 | succ m=>exact h
theorem vd {R:Type} {an:iS} {Cl:bW} {n:Nat}:∀{c:jE} {S:St} {K:kG R} {r:R},kM an Cl n c S K=some r→
  ∃e S',dm Cl n (eL c) S=some (e,S')∧K e S'=some r
 | .skip,S,K,r,h=>⟨_,_,rfl,h⟩
 | .exit id,S,K,r,h=>⟨_,_,rfl,h⟩
 | .ret,S,K,r,h=>⟨_,_,rfl,h⟩
 | .ja keep gc ops draw,S,K,r,h=>by
  simp only [kM] at h;cases hp:S.mC keep gc with
  | none=>simp [hp] at h
  | some S1=>
   simp only [hp] at h;obtain ⟨S',h1,h2⟩:=afQ (EK h);refine ⟨_,S',?_,h2⟩;simp only [eL,dm,XQ (keep:=keep) (gc:=gc),hp,Option.bind,h1];rfl
 | .seq a b,S,K,r,h=>by
  simp only [kM] at h;obtain ⟨e,S1,h1,h2⟩:=vd h;cases e with
  | norm=>
   simp only [DB] at h2;obtain ⟨e2,S2,h3,h4⟩:=vd h2;exact ⟨e2,S2,by simp only [eL,dm,h1,Option.bind];exact h3,h4⟩
  | exit i=>exact ⟨_,S1,by simp only [eL,dm,h1,Option.bind],h2⟩
  | ret=>exact ⟨_,S1,by simp only [eL,dm,h1,Option.bind],h2⟩
 | .cond c a b,S,K,r,h=>by
  simp only [kM] at h;obtain ⟨t,h1,h2⟩:=afF h;cases t with
  | true=>
   obtain ⟨e,S1,h3,h4⟩:=vd h2;exact ⟨e,S1,by simp only [eL,dm,h1,Option.bind,bV];exact h3,h4⟩
  | false=>
   obtain ⟨e,S1,h3,h4⟩:=vd h2;exact ⟨e,S1,by simp only [eL,dm,h1,Option.bind];exact h3,h4⟩
 | .block id b,S,K,r,h=>by
  simp only [kM] at h;obtain ⟨e,S1,h1,h2⟩:=vd h;cases e with
  | norm=>exact ⟨_,S1,by simp only [eL,dm,h1,Option.map],h2⟩
  | exit i=>
   simp only [NU] at h2;split at h2
   ·rename_i hb;have hi:i=id:=mJ hb;exact ⟨.norm,S1,by simp only [eL,dm,h1,Option.map,hi,bV],h2⟩
   ·rename_i hb;have hi:i≠id:=by intro hi;subst hi;simp at hb
    exact ⟨.exit i,S1,by simp only [eL,dm,h1,Option.map,hi,dE],h2⟩
  | ret=>exact ⟨_,S1,by simp only [eL,dm,h1,Option.map],h2⟩
 | .loop id keep gc b,S,K,r,h=>by
  simp only [kM] at h;split at h
  ·rename_i hh;cases hp:S.mC keep gc with
   | none=>simp [hp] at h
   | some S1=>
    simp only [hp] at h;obtain ⟨e,S',h1,h2⟩:=ZN (g:=dm Cl n (eL b)) (fun S K' h=>vd h) n S S1 hp (EK h);refine ⟨e,S',?_,h2⟩;simp only [eL,dm];have:(dm Cl n (kH keep gc (eL b)))=(fun S=>(S.mC keep gc).bind (dm Cl n (eL b))):=by
     funext S;exact Ed hh S
    rw [this];exact h1
  ·cases h
 | .join id keep gc a b,S,K,r,h=>by
  simp only [kM] at h;split at h
  ·rename_i hh;obtain ⟨e,S1,h1,h2⟩:=vd h;cases e with
   | norm=>
    simp only [DB,Q9] at h2;cases hp:S1.mC keep gc with
    | none=>simp [hp] at h2
    | some S2=>
     simp only [hp] at h2;obtain ⟨e2,S3,h3,h4⟩:=vd (ake (EK h2));refine ⟨e2,S3,?_,h4⟩;simp only [eL,dm,h1,Option.bind];rw [Ed hh S1,hp];exact h3
   | exit i=>exact ⟨_,S1,by simp only [eL,dm,h1,Option.bind],h2⟩
   | ret=>exact ⟨_,S1,by simp only [eL,dm,h1,Option.bind],h2⟩
  ·cases h
theorem XH {an:iS} {Cl:bW} {n:Nat} {fn:uW} {args:List V} {bx:List (List C)} {r:V×List (List C)} (h:ED an Cl n fn args bx=some r) :
  vb Cl n fn.fn args bx=some r:=by
 unfold ED at h;split at h
 ·rename_i hl;obtain ⟨e,S',h1,h2⟩:=vd h;unfold vb;have mc:args.length≤fn.fn.C7:=aeN hl;rw [aJ mc];have hb:fn.fn.body=eL fn.body:=rfl;rw [hb,h1];simp only [Option.bind];unfold S9 at h2;split at h2
  ·cases h2
  ·rename_i aB;have h2:=O7 h2;rw [Tk] at h2;have B5:ve ⟨0,fn.results,.skip,fn.forget⟩ bx=ve fn.fn bx:=rfl;rw [B5] at h2;have key:(ve fn.fn bx).run S'=some r:=by
    cases hr:(ve fn.fn bx).run S' with
    | none=>simp [hr] at h2
    | some x=>
     simp only [hr] at h2;have h3:=XY (Pc h2);simpa using h3
   cases e with
   | exit i=>exact absurd rfl (aB i)
   | norm=>exact key
   | ret=>exact key
 ·cases h
end
section
def tJ (A B:bW):Prop:=∀f vs bx r,A f vs bx=some r→B f vs bx=some r
section
variable {A B:bW}
theorem an2 {α:Type} {o o':Option α} (h:∀x,o=some x→o'=some x):(Q.dq o).le (Q.dq o'):=by
 intro S x hx;rw [Q.yp] at hx;exact ⟨by rw [Q.yp];exact h x hx,by simp⟩
theorem afo (h:tJ A B) (dst f:Nat) (vs:List V) (ws:List Wr):(yV A dst f vs ws).le (yV B dst f vs ws):=by
 unfold yV;refine .eT fun _=>.eT fun x=>?_
 obtain ⟨rs,bs⟩:=x;refine .eT fun eR=>.eT fun dJ=>(an2 (h f eR dJ)).bind fun x=>?_
 exact .refl _
theorem ahS (h:tJ A B) (dst:Nat) (op:oY):(bp A dst op).le (bp B dst op):=by
 cases op with
 | call f args=>
  unfold bp;refine .eT fun vf=>?_
  split
  ·refine .eT fun _=>.eT fun x=>?_
   obtain ⟨vs,ws⟩:=x;exact afo h _ _ _ _
  ·exact .refl _
 | len b x=>cases b<;>exact .refl _
 | _=>exact .refl _
theorem XK (h:tJ A B) (o:gB):(gw A o).le (gw B o):=by
 unfold gw;refine .eT fun want=>?_
 split
 ·refine (ahS h _ _).bind fun x=>?_
  exact .refl _
 ·exact .refl _
theorem O4 (h:tJ A B):∀(ops:List gB) (S S':St),ma A ops S=some S'→ma B ops S=some S'
 | [],S,S',he=>he
 | o::t,S,S',he=>by
  simp only [ma] at he ⊢;cases hr:(gw A o).run S with
  | none=>simp [hr] at he
  | some ws=>
   rw [hr] at he;rw [(XK h o S ws hr).1];exact O4 h t _ S' he
theorem XM (h:tJ A B):∀(ops:List gB) (S:St) x,il A ops S=some x→il B ops S=some x
 | [],S,x,he=>he
 | o::t,S,x,he=>by
  simp only [il] at he ⊢;cases hr:(gw A o).run S with
  | none=>simp [hr] at he
  | some ws=>
   rw [hr] at he;obtain ⟨h1,h2⟩:=XK h o S ws hr;rw [h1];simp only [Option.bind] at he ⊢;cases h3:il A t (S.ah ws) with
   | none=>simp [h3] at he
   | some y=>
    rw [h3] at he;rw [XM h t _ y h3,←h2];exact he
theorem ahT (h:tJ A B) (keep:Option (List Nat)) (gc:Bool) (ops:List gB) (draw:Option (List (Nat×Nat))) (S S':St) (he:po A keep gc ops draw S=some S'):po B keep gc ops draw S=some S':=by
 unfold po at he ⊢;obtain ⟨S1,h1,he⟩:=fp.1 he;obtain ⟨S2,h2,he⟩:=fp.1 he;refine fp.2 ⟨S1,h1,fp.2 ⟨S2,h2,?_⟩⟩;split at he
 ·exact O4 h _ _ _ he
 ·exact O4 h _ _ _ he
 ·obtain ⟨y,h3,he⟩:=fp.1 he;exact fp.2 ⟨y,XM h _ _ y h3,he⟩
theorem ZP {f g:St→Option (tI×St)} (h:∀S x,f S=some x→g S=some x):∀(n:Nat) (S:St) x,iter f n S=some x→iter g n S=some x
 | 0,S,x,he=>by cases he
 | n+1,S,x,he=>by
  simp only [iter] at he ⊢;cases hf:f S with
  | none=>simp [hf] at he
  | some y=>
   rw [hf] at he;rw [h S y hf];simp only [Option.bind] at he ⊢;obtain ⟨e,S1⟩:=y;cases e with
   | norm=>exact ZP h n S1 x he
   | exit i=>exact he
   | ret=>exact he
theorem ahP (h:tJ A B) (n:Nat):∀(c:lY) (S:St) x,dm A n c S=some x→dm B n c S=some x:=by
 intro c;induction c with
 | skip=>intro S x he;exact he
 | ja keep gc ops draw=>
  intro S x he;simp only [dm] at he ⊢;cases h1:po A keep gc ops draw S with
  | none=>simp [h1] at he
  | some S'=>rw [h1] at he;rw [ahT h _ _ _ _ _ _ h1];exact he
 | seq a b zP zQ=>
  intro S x he;simp only [dm] at he ⊢;cases h1:dm A n a S with
  | none=>simp [h1] at he
  | some y=>
   rw [h1] at he;rw [zP S y h1];obtain ⟨e,S1⟩:=y;simp only [Option.bind] at he ⊢;cases e with
   | norm=>exact zQ S1 x he
   | exit i=>exact he
   | ret=>exact he
 | cond c a b zP zQ=>
  intro S x he;simp only [dm] at he ⊢;cases h1:yY S c with
  | none=>simp [h1] at he
  | some t=>
   rw [h1] at he;simp only [Option.bind] at he ⊢;cases t with
   | true=>exact zP S x he
   | false=>exact zQ S x he
 | block id b ih=>
  intro S x he;simp only [dm] at he ⊢;cases h1:dm A n b S with
  | none=>simp [h1] at he
  | some y=>rw [h1] at he;rw [ih S y h1];exact he
 | loop b ih=>intro S x he;simp only [dm] at he ⊢;exact ZP ih n S x he
 | exit id=>intro S x he;exact he
 | ret=>intro S x he;exact he
end
end
section
section
variable {nm:FuncId→Option Nat} {N:Nat} {S0:St} {w0:World} {L0:aw} {ws:List Wr} {a:Act} {w:World} {L:aw} {P:Program}
theorem vL {i c n sz:Nat} (hi:i < n) (hc:c < sz):i * sz+c < n * sz:=by
 have:(i+1) * sz≤n * sz:=nC _ hi;rw [lI] at this;omega
theorem afq {rows:List (List D)} {sz k:Nat} (hlen:∀r∈rows,r.length=sz) (hk:k < rows.length * sz):∃i c x,cellOf rows i c=some x∧k=i * sz+c∧i < rows.length∧c < sz:=by
 have aZ:0 < sz:=by
  rcases Ni sz with h | h
  ·rw [h] at hk;omega
  ·exact h
 have hi:k / sz < rows.length:=by rw [Nat.div_lt_iff_lt_mul aZ];exact hk
 have hc:k % sz < sz:=DZ _ aZ;refine ⟨k / sz,k % sz,(rows[k / sz]'hi)[k % sz]'(by rw [hlen _ (bL hi)];exact hc),?_,?_,hi,hc⟩
 ·unfold cellOf;simp [hi,hlen _ (bL hi),hc]
 ·have:=Nat.div_add_mod k sz;rw [HO] at this;exact this.symm
theorem Oo (a b:List (List D)) (i c:Nat):cellOf (a++b) i c=if i < a.length then cellOf a i c else cellOf b (i - a.length) c:=by
 unfold cellOf;rw [List.getElem?_append];split<;>rfl
theorem World.ac4 (b:Nat):∀(vs:List Value) (o:Nat) (w:World) {cur:Array Value} {e:TypeId} {fz:Nat×Nat},w.heap[b]? = some (.cells cur e fz)→
  ∃dR,(w.setCells b o vs).heap[b]? = some (.cells dR e fz)∧dR.size=cur.size∧(∀i,i < o→dR[i]? = cur[i]?)∧(∀j v,vs[j]? = some v→o+j < cur.size→dR[o+j]? = some v)∧
   ∀i,o+vs.length≤i→dR[i]? = cur[i]?
 | [],o,w,cur,e,fz,h=>⟨cur,h,rfl,fun _ _=>rfl,fun j v hv=>by simp at hv,fun _ _=>rfl⟩
 | v::vs,o,w,cur,e,fz,h=>by
  have h1:=xk w b o v h;obtain ⟨dR,g1,g2,g3,g4,g5⟩:=World.ac4 b vs (o+1) (w.setCell ⟨b,o,none⟩ v) h1;refine ⟨dR,g1,by simpa using g2,?_,?_,?_⟩
  ·intro i hi;rw [g3 i (by omega),yA (by omega)]
  ·intro j u hu af;cases j with
   | zero=>
    simp only [kD,aj] at hu;subst hu;rw [gW,g3 o (by omega),wM];simp only [bV];rw [aJ (by omega)]
   | succ j=>
    have:=g4 j u (by simpa using hu) (by simp;omega);rwa [show o+1+j=o+(j+1) by omega] at this
  ·intro i hi;simp only [gp] at hi;rw [g5 i (by omega),yA (by omega)]
theorem World.ac5 (b:Nat):∀(vs:List Value) (o:Nat) (w:World) {B:Nat},B≠b→(w.setCells b o vs).heap[B]? = w.heap[B]?
 | [],_,_,_,_=>rfl
 | v::vs,o,w,B,h=>by rw [World.setCells,World.ac5 b vs (o+1) _ h,px _ _ _ _ h]
theorem World.ac6 (b:Nat):∀(vs:List Value) (o:Nat) (w:World),(w.setCells b o vs).os=w.os∧(w.setCells b o vs).tape=w.tape∧(w.setCells b o vs).output=w.output∧(w.setCells b o vs).heap.size=w.heap.size∧(w.setCells b o vs).drawn=w.drawn
 | [],_,_=>⟨rfl,rfl,rfl,rfl,rfl⟩
 | v::vs,o,w=>by
  obtain ⟨h1,h2,h3,h4,h5⟩:=World.ac6 b vs (o+1) (w.setCell ⟨b,o,none⟩ v);exact ⟨h1,h2,h3,by rw [World.setCells,h4];simp,h5⟩
structure Src (P:Program) (sz:Nat) (w:World) (x:Value) (n:Nat) (news:Array Value):Prop where
 len:∀w':World,(Builtin.lenOf x).run P w' = .ok n w'
 read:∀w':World,w'.heap=w.heap→(Builtin.firstCells sz n x).run P w' = .ok news w'
 size:news.size=n * sz
 one:∀u∈news,u.oneCell'=true
theorem ape {t u ty e:TypeId} {i:TypeInfo} {d:TypeDesc} (ht:P.underlying t=some (.slice e)) (hu:P.underlying u=some d) (hd:∀k,d≠.int k) (hi:P.info? e=some i)
  {x:Value} {n:Nat} {news:Array Value} (hx:Src P i.size w x n news) {B o sLen sCap:Nat} (dG:sLen+n≤sCap)
  (hc:∀j,j < news.size→(w.cell? ⟨B,o+sLen * i.size+j,none⟩).isSome=true) (hf:∀j,j < news.size→w.frozen? ⟨B,o+sLen * i.size+j,none⟩=false) :
  (Builtin.append_ #[t,u] ty #[.slice (some ⟨B,o,none⟩) sLen sCap,x]).run P w =
   .ok (.slice (some ⟨B,o,none⟩) (sLen+n) sCap) (w.setCells B (o+sLen * i.size) news.toList):=by
 have hz:(match d with | .int _=>true | _=>false)=false:=by cases d<;>first | rfl | exact absurd rfl (hd _)
 have bA:=run_storeCells_cells (P:=P) B (o+sLen * i.size) news.toList 0 w (by simpa using hc) (by simpa using hf) (by simpa using hx.one);have ai7:(⟨B,o,none⟩:Addr).add (sLen * i.size)=⟨B,o+sLen * i.size,none⟩:=by unfold Addr.add;split<;>simp_all
 simp only [gW] at bA;simp [Builtin.append_,run_underlying ht,run_underlying hu,sizeOf,typeInfo,hi,hz,hx.len,hx.read,dG,bA,ai7]
theorem acR {t u ty e:TypeId} {i:TypeInfo} {d:TypeDesc} (ht:P.underlying t=some (.slice e)) (hu:P.underlying u=some d) (hd:∀k,d≠.int k) (hi:P.info? e=some i)
  {x:Value} {news:Array Value} (hx:Src P i.size w x 0 news) {b:Option Addr} {sLen sCap:Nat} (dG:sLen≤sCap) :
  (Builtin.append_ #[t,u] ty #[.slice b sLen sCap,x]).run P w = .ok (.slice b sLen sCap) w:=by
 have hz:(match d with | .int _=>true | _=>false)=false:=by cases d<;>first | rfl | exact absurd rfl (hd _)
 have hn:news = #[]:=by have:=hx.size;simpa using this
 subst hn;cases b with
 | none=>simp [Builtin.append_,run_underlying ht,run_underlying hu,sizeOf,typeInfo,hi,hz,hx.len,hx.read,dG]
 | some b=>simp [Builtin.append_,run_underlying ht,run_underlying hu,sizeOf,typeInfo,hi,hz,hx.len,hx.read,dG,storeCells]
theorem apf {t u ty e:TypeId} {i:TypeInfo} {d:TypeDesc} {z:Value} (ht:P.underlying t=some (.slice e)) (hu:P.underlying u=some d) (hd:∀k,d≠.int k) (hi:P.info? e=some i) (hz:i.zero=some z)
  {x:Value} {n:Nat} {news:Array Value} (hx:Src P i.size w x n news) {b:Option Addr} {sLen sCap:Nat} {oP:Array Value} (dG:sCap < sLen+n)
  (ho:∀w':World,w'.heap=w.heap→(Builtin.firstCells i.size sLen (.slice b sLen sCap)).run P w' = .ok oP w')
  (BY:i.bytes≠0) (hb:(sLen+n) * i.bytes≤140737488355328) :
  (Builtin.append_ #[t,u] ty #[.slice b sLen sCap,x]).run P w =
   .ok (.slice (some ⟨w.heap.size,0,none⟩) (sLen+n) (grownCap w (sLen+n) sCap e))
    (w.drew.alloc (.cells (oP++news++Builtin.zeroCells z.cells (grownCap w (sLen+n) sCap e - (sLen+n))) e)):=by
 have hzz:(match d with | .int _=>true | _=>false)=false:=by cases d<;>first | rfl | exact absurd rfl (hd _)
 have hn:¬ (sLen+n≤sCap):=by omega
 have ai1:¬ (281474976710656 < Builtin.nextslicecap (sLen+n) sCap * i.bytes):=by
  have:=growslice_fits dG hb;omega
 have h1:=ho w.drew rfl;have h2:=hx.read w.drew rfl;simp [Builtin.append_,run_underlying ht,run_underlying hu,sizeOf,typeInfo,zeroValue,hi,hz,hzz,BY,hx.len,hn,ai1,Question.forced,h1,h2,newRow,grownCap]
def lW (m m2 n:Nat):Place→Option Place:=fun q=>
 if q.k = .h m2∧q.j=0 then (match q.p with | (i,c)::r=>some ⟨.h m,0,(n+i,c)::r⟩ | []=>none)
 else if q.k = .h m∧q.j=0 then (match q.p with | (i,_)::_=>if i < n then some q else none | []=>some q)
 else some q
theorem Hf {m m2 n:Nat} {q:Place} (h:q.k.aT=true):lW m m2 n q=some q:=by
 unfold lW;rw [az (fun e=>by rw [e.1] at h;simp [Key.aT] at h),az (fun e=>by rw [e.1] at h;simp [Key.aT] at h)]
theorem adu {m m2 n:Nat} (aB:m≠m2) {q t:Place} (h:lW m m2 n q=some t) :
  ((q.k = .h m2∧q.j=0)∧∃i c r,q.p=(i,c)::r∧t=⟨.h m,0,(n+i,c)::r⟩)∨
  ((q.k = .h m∧q.j=0)∧t=q∧∀i c r,q.p=(i,c)::r→i < n)∨
  (¬ (q.k = .h m2∧q.j=0)∧¬ (q.k = .h m∧q.j=0)∧t=q):=by
 unfold lW at h;split at h
 ·rename_i h1;split at h
  ·rename_i i c r hp;simp only [aj] at h;exact .inl ⟨h1,i,c,r,hp,h.symm⟩
  ·cases h
 ·rename_i h1;split at h
  ·rename_i h2;split at h
   ·rename_i i c r hp;split at h
    ·rename_i hi;simp only [aj] at h;exact .inr (.inl ⟨h2,h.symm,fun i' c' r' e=>by rw [hp] at e;simp only [qH,fJ] at e;omega⟩)
    ·cases h
   ·rename_i hp;simp only [aj] at h;exact .inr (.inl ⟨h2,h.symm,fun i' c' r' e=>by rw [hp] at e;cases e⟩)
  ·rename_i h2;simp only [aj] at h;exact .inr (.inr ⟨h1,h2,h.symm⟩)
theorem TB {m m2 n:Nat} (aB:m≠m2) {q q' t:Place} (h1:lW m m2 n q=some t) (h2:lW m m2 n q'=some t):q=q':=by
 have ext:∀{q q':Place},q.k=q'.k→q.j=q'.j→q.p=q'.p→q=q':=fun {q q'} a b c=>by cases q;cases q';simp_all
 rcases adu aB h1 with ⟨a1,i,c,r,a2,a3⟩ | ⟨a1,a2,a3⟩ | ⟨a1,a2,a3⟩<;>rcases adu aB h2 with ⟨b1,i',c',r',b2,b3⟩ | ⟨b1,b2,b3⟩ | ⟨b1,b2,b3⟩
 ·rw [a3] at b3;simp only [Place.mk.injEq,qH,fJ,lk] at b3;refine ext (a1.1.trans b1.1.symm) (a1.2.trans b1.2.symm) ?_;rw [a2,b2,b3.2,b3.1.2,show i=i' by omega]
 ·have:=b3 (n+i) c r (by rw [←b2,a3]);omega
 ·exact absurd (by rw [←b3,a3];exact ⟨rfl,rfl⟩) b2
 ·have:=a3 (n+i') c' r' (by rw [←a2,b3]);omega
 ·rw [←a2,←b2]
 ·exact absurd (by rw [←b3,a2];exact a1) b2
 ·exact absurd (by rw [←a3,b3];exact ⟨rfl,rfl⟩) a2
 ·exact absurd (by rw [←a3,b2];exact b1) a2
 ·rw [←a3,←b3]
theorem Rel.wj {S:St} (h:Rel nm N S a w L) {f:Place→Option Place} (Jl:∀q:Place,q.k.aT=true→f q=some q) (qX:∀q q' t,f q=some t→f q'=some t→q=q') :
  Rel nm N S a w (cI f L):=by
 refine h.Ja ?_ ?_ (G6 h.eM (fun q q' t _ _ _ _ h1 h2 _ _=>qX q q' t h1 h2)) (fun B B' r o o' h1 h2=>h.fA B B' r o o' (jz.1 h1) (jz.1 h2))
 ·intro B l hB hl;refine ⟨rfl,?_⟩;cases l with
  | bh=>exact jN.2 hB
  | box r o=>exact jz.2 hB
  | row q o=>exact gL hB (Jl q (hl q o rfl))
 ·intro B l hB;obtain ⟨l0,h0⟩:=G5 hB;exact h.fq B l0 h0
theorem G7 (f:Place→Option Place):de w w L (cI f L):=
 ⟨rfl,rfl,rfl,bT _,fun B hB=>⟨jN.2 hB,rfl⟩,fun B _ hB=>⟨Mq hB,rfl⟩,fun B i o hB=>jz.2 hB⟩
theorem Vt {m:Nat} {pl:Place} (cr:pl.k.aT=true∨pl=⟨.h m,0,[]⟩) {m2 n0:Nat} (aB:m≠m2) {rows src:List (List D)} {val iN:Nat→Nat→Value}
  (h1:∀i c x,cellOf rows i c=some x→br w L ((if i < n0 then pl else ⟨.h m,0,[]⟩).sub i c) x (val i c)) (h2:oX w L ⟨.h m2,0,[]⟩ src iN) (af:∀i c x,cellOf rows i c=some x→i < rows.length) :
  ∀i c x,cellOf (rows++src) i c=some x→br w (cI (lW m m2 rows.length) L) ((if i < min n0 rows.length then pl else ⟨.h m,0,[]⟩).sub i c) x (if i < rows.length then val i c else iN (i - rows.length) c):=by
 intro i c x hx;rw [Oo] at hx;have hH:∀{t:Place} {y:D} {u:Value},br w L t y u→(∃i c r,t=⟨.h m,0,(i,c)::r⟩∧i < rows.length)→br w (cI (lW m m2 rows.length) L) t y u:=by
  intro t y u hy ht;refine br.move id (fun t=>∃i c r,t=⟨.h m,0,(i,c)::r⟩∧i < rows.length) ?_ (fun _ _ _ _=>rfl) (fun B hB=>⟨jN.2 hB,rfl⟩) ?_ hy ht
  ·rintro q i' c' ⟨i,c,r,rfl,hi⟩;exact ⟨i,c,r++[(i',c')],rfl,hi⟩
  ·rintro B q o ⟨i,c,r,rfl,hi⟩ hL;refine ⟨gL hL ?_,rfl⟩;unfold lW;rw [az (fun e=>by simp only [Key.h.injEq] at e;exact aB e.1),aJ ⟨rfl,rfl⟩];simp only [id,hi,bV]
 by_cases hi:i < rows.length
 ·rw [aJ hi] at hx ⊢;have h0:=h1 i c x hx;by_cases hn:i < n0
  ·rw [aJ hn] at h0;rw [aJ (by omega)];rcases cr with cr | rfl
   ·refine br.move id (fun q=>q.k=pl.k) (fun _ _ _ h=>h) (fun _ _ _ _=>rfl) (fun B hB=>⟨jN.2 hB,rfl⟩) ?_ h0 rfl;intro B q o hq hL;exact ⟨gL hL (Hf (by rw [hq];exact cr)),rfl⟩
   ·exact hH h0 ⟨i,c,[],rfl,hi⟩
  ·rw [az hn] at h0;rw [az (by omega)];exact hH h0 ⟨i,c,[],rfl,hi⟩
 ·rw [az hi] at hx ⊢;rw [az (by omega)];have h0:=h2 (i - rows.length) c x hx;have:=br.move (w':=w) (L':=cI (lW m m2 rows.length) L) (fun q=>match q.p with | (i,c)::r=>⟨.h m,0,(rows.length+i,c)::r⟩ | []=>q) (fun q=>∃i c r,q=⟨.h m2,0,(i,c)::r⟩)
   (by rintro q i' c' ⟨i,c,r,rfl⟩;exact ⟨i,c,r++[(i',c')],rfl⟩) (by rintro q i' c' ⟨i,c,r,rfl⟩;rfl) (fun B hB=>⟨jN.2 hB,rfl⟩)
   (by
     rintro B q o ⟨i, c, r, rfl⟩ hL
     refine ⟨gL hL ?_, rfl⟩
     unfold lW
     rw [aJ ⟨rfl, rfl⟩]) h0 ⟨_, _, [], rfl⟩
  simp only [Place.sub,uP] at this ⊢;rwa [show rows.length+(i - rows.length)=i by omega] at this
end
end
section
section
variable {nm:FuncId→Option Nat} {N:Nat} {S0:St} {w0:World} {L0:aw} {ws:List Wr} {a:Act} {w:World} {L:aw} {P:Program}
structure A1 (P:Program) (sz bytes:Nat) (t u e:TypeId) (i:TypeInfo) (d:TypeDesc) (z:Value):Prop where
 ht:P.underlying t=some (.slice e)
 hu:P.underlying u=some d
 hd:∀k,d≠.int k
 hi:P.info? e=some i
 hz:i.zero=some z
 size:i.size=sz
 arA:z.cells.size=sz
 pos:0 < sz
 E1:i.bytes≤bytes
 aq7:i.bytes≠0
 u8:bytes=1→e=5
theorem qR {B o:Nat} {cur:Array Value} {e:TypeId} {fz:Nat×Nat} (h:w.heap[B]? = some (.cells cur e fz)):w.cell? ⟨B,o,none⟩=cur[o]?:=by
 simp [World.cell?,h]
theorem Pj {B o:Nat} {cur:Array Value} {e:TypeId} {fz:Nat×Nat} (h:w.heap[B]? = some (.cells cur e fz)) (hf:jC cur.size fz) (ho:o < cur.size):w.frozen? ⟨B,o,none⟩=false:=by
 have:=hf o ho;obtain ⟨lo,hi⟩:=fz;simp only at this;simp only [World.frozen?,h];cases hx:decide (lo≤o) with
 | false=>rfl
 | true=>
  cases hy:decide (o < hi) with
  | false=>rfl
  | true=>exact absurd ⟨by simpa using hx,by simpa using hy⟩ this
theorem oh (B o n:Nat):(⟨B,o,none⟩:Addr).add n=⟨B,o+n,none⟩:=by unfold Addr.add;split<;>simp_all
theorem acs {B o n:Nat} {cur:Array Value} {e:TypeId} {fz:Nat×Nat} (h:w.heap[B]? = some (.cells cur e fz)) (hn:o+n≤cur.size) :
  (loadCells ⟨B,o,none⟩ n).run P w = .ok (cur.extract o (o+n)) w:=by
 rw [run_loadCells w ⟨B,o,none⟩ n (fun j=>cur.getD (o+j) undef)]
 ·congr 1;apply Array.ext
  ·simp;omega
  ·intro i h1 h2;simp only [List.size_toArray,cf,UP] at h1;have:o+i < cur.size:=by omega
   simp [Array.getD,this]
 ·intro j hj;have:o+j < cur.size:=by omega
  rw [oh,qR h];simp [Array.getD,this]
theorem afS {H:Place} {f:Place→Option Place} {rows:List (List D)} {pl:Place} {n0:Nat} {val:Nat→Nat→Value} (hf:∀q:Place,q≠H→f q=some q) (hH:H.p=[])
  (h:∀i c x,cellOf rows i c=some x→br w L ((if i < n0 then pl else H).sub i c) x (val i c)) (cr:pl.k≠H.k∨pl=H) :
  ∀i c x,cellOf rows i c=some x→br w (cI f L) ((if i < n0 then pl else H).sub i c) x (val i c):=by
 intro i c x hx;refine br.move id (fun q=>q≠H∧(q.p≠[]∨q.k≠H.k)) (fun q i c h=>⟨fun e=>?_,.inl (by simp [Place.sub])⟩) (fun _ _ _ _=>rfl) (fun B hB=>⟨jN.2 hB,rfl⟩)
  (fun B q o hq hL=>⟨gL hL (hf q hq.1),rfl⟩) (h i c x hx) ?_
 ·have:=fW Place.p e;rw [hH] at this;simp [Place.sub] at this
 ·refine ⟨fun e=>?_,.inl (by simp [Place.sub])⟩;have:=fW Place.p e;rw [hH] at this;simp [Place.sub] at this
theorem aq5 (z:Array Value) (n:Nat):(Builtin.zeroCells z n).size=n * z.size:=by simp [Builtin.zeroCells]
theorem Ib {S:St} (R:Rel nm N S a w L) {m m2:Nat} (aB:m≠m2) {pl:Place} {sz bytes:Nat} {rows src:List (List D)} {v x:Value} {t u ty e:TypeId} {i:TypeInfo} {d:TypeDesc} {z:Value}
  (T:A1 P sz bytes t u e i d z) (A:pW w L pl sz rows ⟨.h m,0,[]⟩ v∨(rows=[]∧src≠[]∧v = .slice none 0 0))
  (cr:pl=⟨.h m,0,[]⟩∨(pl.k.aT=true∧∃x qD,(S.E pl.k).cells[pl.j]? = some (.d x)∧eu x pl.p=some (.sl .own sz qD)∧qD.length≤rows.length))
  {news:Array Value} {iN:Nat→Nat→Value} (hx:Src P sz w x src.length news) (mY:∀r∈src,r.length=sz) (gC:oX w L ⟨.h m2,0,[]⟩ src iN) (dX:pa src sz 0 news iN)
  (BY:(rows.length+src.length) * bytes≤140737488355328) (h8:fR bytes src rows.isEmpty=true∨(fR bytes src false=true∧v = .slice none 0 0)) :
  ∃v' w' L',(Builtin.append_ #[t,u] ty #[v,x]).run P w = .ok v' w'∧de w w' L L'∧pW w' L' pl sz (rows++src) ⟨.h m,0,[]⟩ v'∧v'.oneCell'=true∧
   (pl=⟨.h m,0,[]⟩→Rel nm N S a w' L')∧(pl.k.aT=true→Rel nm N (S.wr { k:=.a pl.k,v:=V.dead }) a w' L'):=by
 obtain ⟨ht,hu,hd,hi,hz,rfl,ZE,aZ,E1,BZ,dY⟩:=T;have hb:(rows.length+src.length) * i.bytes≤140737488355328:=iQ (Nat.mul_le_mul_left _ E1) BY;have anU:src≠[]→tK (rows++src) e:=by
  intro hs hn;have hn:lS (rows++src)=false:=hn.resolve_right fun e=>hs (HB.1 e).2
  obtain ⟨k1,k2⟩:=vQ.1 hn;have Fy:lS src=false:=vQ.2 ⟨hs,fun r hr=>k2 r (aeJ _ hr)⟩;apply dY;rcases h8 with h8 | ⟨h8,_⟩<;>simp only [fR,Fy,UC,eV] at h8<;>exact h8
 have Cg:pl.k.aT=true∨pl=⟨.h m,0,[]⟩:=cr.elim .inr (fun h=>.inl h.1);have JH:(rows++src).length=rows.length+src.length:=ew;have fresh:∀(b:Option Addr) (cap:Nat) (oP:Array Value) (n0:Nat) (val:Nat→Nat→Value),v = .slice b rows.length cap→cap < rows.length+src.length→oP.size=rows.length * i.size→
   (∀w':World,w'.heap=w.heap→(Builtin.firstCells i.size rows.length (.slice b rows.length cap)).run P w' = .ok oP w')→(∀r∈rows,r.length=i.size)→
   pa rows i.size 0 oP val→(∀i c x,cellOf rows i c=some x→br w L ((if i < n0 then pl else ⟨.h m,0,[]⟩).sub i c) x (val i c))→src≠[]→
   ∃v' w' L',(Builtin.append_ #[t,u] ty #[v,x]).run P w = .ok v' w'∧de w w' L L'∧pW w' L' pl i.size (rows++src) ⟨.h m,0,[]⟩ v'∧v'.oneCell'=true∧
   (pl=⟨.h m,0,[]⟩→Rel nm N S a w' L')∧(pl.k.aT=true→Rel nm N (S.wr { k:=.a pl.k,v:=V.dead }) a w' L'):=by
  intro b cap oP n0 val hv dL oF zG gF B8 hcr hs8;subst hv;have iW:=apf (ty:=ty) (w:=w) ht hu hd hi hz hx dL zG BZ hb;have zu:=Vt (w:=w) (L:=L) Cg aB hcr gC (fun i c x h=>(oj gF h).1);let f:Place→Option Place:=fun q=>if q=⟨.h m,0,[]⟩ then none else some q
  have YQ:∀q:Place,q≠⟨.h m,0,[]⟩→f q=some q:=fun q hq=>by simp only [f];rw [az hq]
  have ajm:∀q q' t,f q=some t→f q'=some t→q=q':=by
   intro q q' t h1 h2;simp only [f] at h1 h2;split at h1
   ·cases h1
   ·split at h2
    ·cases h2
    ·simp only [aj] at h1 h2;rw [h1,h2]
  have ajf:=afS (H:=⟨.h m,0,[]⟩) YQ rfl zu (Cg.elim (fun h=>.inl (fun e=>by rw [e] at h;simp [Key.aT] at h)) .inr);have ql:∀{S':St},Rel nm N S' a w L→Rel nm N S' a w (cI f (cI (lW m m2 rows.length) L)):=fun R'=>
   (R'.wj (fun q hq=>Hf hq) (fun q q' t h1 h2=>TB aB h1 h2)).wj (fun q hq=>YQ q (fun e=>by rw [e] at hq;simp [Key.aT] at hq)) ajm
  have eP:=grownCap_ge w (rows.length+src.length) cap e;have Zn:∀{S':St},Rel nm N S' a w L→Rel nm N S' a (w.drew.alloc (.cells (oP++news++Builtin.zeroCells z.cells (grownCap w (rows.length+src.length) cap e - (rows.length+src.length))) e))
    ((cI f (cI (lW m m2 rows.length) L)).put w.heap.size (.row ⟨.h m,0,[]⟩ 0)):=fun R'=>
   (ql R').drew.Vp (fun B o hB => by
     obtain ⟨q0, _, h2⟩ := oR hB
     simp only [f] at h2
     split at h2
     · cases h2
     · rename_i h3; simp only [aj] at h2; exact h3 h2) _ _
  have hD:=(ql R).drew.fq;refine ⟨_,_,(cI f (cI (lW m m2 rows.length) L)).put w.heap.size (.row ⟨.h m,0,[]⟩ 0),iW,?_,?_,rfl,fun _=>Zn R,fun _=>Zn (R.kill (.a pl.k) (fun r e=>by cases e))⟩
  ·exact ((G7 _).trans (G7 _)).trans ((de.drew _ _).trans (de.alloc _ _ hD _ _))
  ·refine .inr ⟨w.heap.size, 0, grownCap w (rows.length + src.length) cap e, _, e, (0, 0), min n0 rows.length, fun i c => if i < rows.length then val i c else iN (i - rows.length) c, by rw [JH], aZ,
     .inr (aw.la _ _ _), oD w.drew _, fun j _ => by simp, ?_, by rw [JH]; exact eP, ?_, ?_, ?_, anU hs8⟩
   ·intro r hr;rcases dC.1 hr with hr | hr
    ·exact gF r hr
    ·exact mY r hr
   ·simp only [Array.size_append,oF,hx.size,aq5,ZE,dc,←lI];rw [show rows.length+src.length+(grownCap w (rows.length+src.length) cap e - (rows.length+src.length))=grownCap w (rows.length+src.length) cap e by omega];exact bT _
   ·intro j c y hy;rw [Oo] at hy;simp only [dc];by_cases hj:j < rows.length
    ·rw [aJ hj] at hy ⊢;obtain ⟨_,hc⟩:=oj gF hy;have af:=vL hj hc;rw [AT (by simp;omega),AT (by omega)];have:=B8 j c y hy;rwa [dc] at this
    ·rw [az hj] at hy ⊢;obtain ⟨lr,hc⟩:=oj mY hy;have af:=vL lr hc;have he:j * i.size=rows.length * i.size+(j - rows.length) * i.size:=by rw [←lI];congr 1;omega
     rw [AT (by rw [Array.size_append,oF,hx.size];omega),Uy (by omega)];have:=dX (j - rows.length) c y hy;rwa [dc,show (j - rows.length) * i.size+c=j * i.size+c - oP.size by omega] at this
   ·intro j c y hy;have h0:=ajf j c y hy;have JD:∀B l,(cI f (cI (lW m m2 rows.length) L)) B=some l→B≠w.heap.size:=fun B l hB e=>by
     have:=hD.new;simp only [World.size_drew] at this;rw [e,this] at hB;cases hB
    exact br.move (w:=w) id (fun _=>True) (fun _ _ _ _=>trivial) (fun _ _ _ _=>rfl) (fun B hB=>⟨by rw [aw.gy (JD B _ hB)];exact hB,mV w.drew _ (JD B _ hB)⟩)
     (fun B q o _ hB=>⟨by rw [aw.gy (JD B _ hB)];exact hB,mV w.drew _ (JD B _ hB)⟩) h0 trivial
 rcases A with (⟨rfl,a0,rfl⟩ | ⟨B,o,cap,cur,e',fz,n0,val,rfl,_,hL,hB,cX,fM,dL,dG,cu,dz,Pu⟩) | ⟨rfl,Zr,rfl⟩
 ·by_cases hn:src.length=0
  ·have QJ:src=[]:=pS.1 hn;subst QJ;have iW:=acR (ty:=ty) (w:=w) (b:=some a0) (sLen:=0) (sCap:=0) ht hu hd hi hx (bT _);exact ⟨_,w,L,iW,de.refl _ _,.inl ⟨rfl,a0,rfl⟩,rfl,fun _=>R,fun _=>R.kill (.a pl.k) (fun r e=>by cases e)⟩
  ·refine fresh (some a0) 0 #[] 0 (fun _ _=>undef) rfl (by simp;omega) (by simp) ?_ (by simp) (fun i c x h=>by simp [cellOf] at h) (fun i c x h=>by simp [cellOf] at h) (fun e=>hn (by rw [e];rfl));intro w' pA;simp [Builtin.firstCells,loadCells,loadCellsFrom]
 ·have eE:rows.length * i.size≤cap * i.size:=nC _ dL;by_cases E':rows.length+src.length≤cap
  ·
   have ajh:(rows.length+src.length) * i.size≤cap * i.size:=nC _ E';rw [lI] at ajh;have iW:=ape (ty:=ty) (w:=w) (B:=B) (o:=o) (sLen:=rows.length) (sCap:=cap) ht hu hd hi hx E'
    (fun j hj=>by rw [qR hB];rw [hx.size] at hj;simp;omega) (fun j hj=>Pj hB cX (by rw [hx.size] at hj;omega))
   obtain ⟨dR,g1,g2,g3,g4,g5⟩:=World.ac4 B news.toList (o+rows.length * i.size) w hB;have lx:∀B',B'≠B→(w.setCells B (o+rows.length * i.size) news.toList).heap[B']? = w.heap[B']?:=fun B' h=>World.ac5 B _ _ _ h
   have zu:=Vt (w:=w) (L:=L) Cg aB dz gC (fun i c x h=>(oj fM h).1);have Jx:∃q,L B=some (.row q o):=hL.elim (fun h=>⟨_,h⟩) (fun h=>⟨_,h⟩);obtain ⟨qB,qU⟩:=Jx;have FB:qB=pl∨qB=⟨.h m,0,[]⟩:=by
    rcases hL with h | h<;>rw [qU] at h<;>simp only [aj,bQ.row.injEq,and_true] at h
    ·exact .inl h
    ·exact .inr h
   have YT:∀{S':St},qB.k.aT=false→Rel nm N S' a w L→Rel nm N S' a (w.setCells B (o+rows.length * i.size) news.toList) L:=by
    intro S' hq R';refine R'.Ja ?_ ?_ R'.eM R'.fA
    ·intro B' l dA hl;refine ⟨lx B' (fun e=>?_),dA⟩;rw [e,qU] at dA;simp only [aj] at dA;have:=hl qB o dA.symm;rw [hq] at this;cases this
    ·intro B' l dA;by_cases he:B'=B
     ·subst he;exact (lG.1 g1).1
     ·exact xj (R'.fq B' l dA) (lx B' he)
   have hR1:pl=⟨.h m,0,[]⟩→Rel nm N S a (w.setCells B (o+rows.length * i.size) news.toList) L:=by
    intro hp;refine YT ?_ R;rcases FB with rfl | rfl
    ·rw [hp];rfl
    ·rfl
   have PA:pl.k.aT=true→Rel nm N (S.wr { k:=.a pl.k,v:=V.dead }) a (w.setCells B (o+rows.length * i.size) news.toList) L:=by
    intro hp;rcases FB with rfl | rfl
    ·rcases cr with rfl | ⟨_,x0,qD,hE,hn,hle⟩
     ·simp [Key.aT] at hp
     ·refine R.aov (n:=rows.length * i.size) hp hE hn (nC _ hle) qU hB (fun B' l _ h=>lx B' h) g1 g2 g3
    ·exact YT rfl (R.kill (.a pl.k) (fun r e=>by cases e))
   have YW:∀B',L B'=some .bh→B'≠B:=fun B' h e=>by rw [e,qU] at h;cases h
   have ark:∀{q:Place} {B' o':Nat},L B'=some (.row q o')→q≠qB→B'≠B:=fun h hq e=>by
    rw [e,qU] at h;simp only [aj,bQ.row.injEq] at h;exact hq h.1.symm
   refine ⟨_, _, cI (lW m m2 rows.length) L, iW, ?_, ?_, rfl, fun h => (hR1 h).wj (fun q hq => Hf hq) (fun q q' t h1 h2 => TB aB h1 h2),
     fun h => (PA h).wj (fun q hq => Hf hq) (fun q q' t h1 h2 => TB aB h1 h2)⟩
   ·refine de.trans (L2:=L) (w2:=w.setCells B (o+rows.length * i.size) news.toList) ?_ (G7 _);obtain ⟨e1,e2,e3,e4,_⟩:=World.ac6 B news.toList (o+rows.length * i.size) w;refine ⟨e1,e2,e3,by rw [e4];exact bT _,fun B' h=>⟨h,lx B' (YW B' h)⟩,fun B' _ h=>⟨h,lx B' (fun e=>by rw [e,qU] at h;cases h)⟩,fun _ _ _ h=>h⟩
   ·have Qn:cI (lW m m2 rows.length) L B=some (.row qB o):=by
     refine gL qU ?_;rcases FB with rfl | rfl
     ·rcases Cg with hp | rfl
      ·exact Hf hp
      ·unfold lW;rw [az (fun e=>by simp only [Key.h.injEq] at e;exact aB e.1),aJ ⟨rfl,rfl⟩]
     ·unfold lW;rw [az (fun e=>by simp only [Key.h.injEq] at e;exact aB e.1),aJ ⟨rfl,rfl⟩]
    refine .inr ⟨B,o,cap,dR,e',fz,min n0 rows.length,fun i c=>if i < rows.length then val i c else iN (i - rows.length) c,by rw [JH],aZ,?_,g1,by rw [g2];exact cX,?_,by rw [JH];exact E',by rw [g2];exact dG,?_,?_,?_⟩
    ·rcases FB with rfl | rfl
     ·exact .inl Qn
     ·exact .inr Qn
    ·intro r hr;rcases dC.1 hr with hr | hr
     ·exact fM r hr
     ·exact mY r hr
    ·intro j c y hy;rw [Oo] at hy;simp only;by_cases hj:j < rows.length
     ·rw [aJ hj] at hy ⊢;obtain ⟨_,hc⟩:=oj fM hy;have af:=vL hj hc;rw [pU,g3 _ (by omega),←pU];exact cu j c y hy
     ·rw [az hj] at hy ⊢;obtain ⟨lr,hc⟩:=oj mY hy;have af:=vL lr hc;have he:j * i.size=rows.length * i.size+(j - rows.length) * i.size:=by rw [←lI];congr 1;omega
      have h2:=dX (j - rows.length) c y hy;rw [dc] at h2;have:=g4 ((j - rows.length) * i.size+c) _ (by simpa using h2) (by omega);rwa [show o+rows.length * i.size+((j - rows.length) * i.size+c)=o+j * i.size+c by omega] at this
    ·intro j c y hy;have h0:=zu j c y hy;refine br.move id (fun q=>∃r s,(q=pl.app (r::s)∨q=⟨.h m,0,r::s⟩)) ?_ (fun _ _ _ _=>rfl) (fun B' dA=>⟨dA,lx B' (YW B' (jN.1 dA))⟩) ?_ h0 ?_
     ·rintro q i' c' ⟨r,s,h | h⟩
      ·exact ⟨r,s++[(i',c')],.inl (by rw [h,←Place.Eg];rfl)⟩
      ·exact ⟨r,s++[(i',c')],.inr (by rw [h];rfl)⟩
     ·rintro B' q o' ⟨r,s,hq⟩ dA;refine ⟨dA,lx B' (fun e=>?_)⟩;rw [e,Qn] at dA;simp only [aj,bQ.row.injEq] at dA;have Ci:q=qB:=dA.1.symm;have Zh:∀r s,pl.app (r::s)≠pl:=fun r s e=>by have:=fW Place.p e;simp [Place.app] at this
      have Yv:∀r s,(⟨.h m,0,r::s⟩:Place)≠⟨.h m,0,[]⟩:=fun r s e=>by simp at e
      rcases FB with h1 | h1<;>rcases hq with h2 | h2
      ·exact Zh r s (by rw [←h2,Ci,h1])
      ·rcases Cg with h3 | h3
       ·have:pl=⟨.h m,0,r::s⟩:=by rw [←h1,←Ci,h2]
        rw [this] at h3;simp [Key.aT] at h3
       ·exact Yv r s (by rw [←h2,Ci,h1,h3])
      ·rcases Cg with h3 | h3
       ·have:(pl.app (r::s)).k = .h m:=by rw [←h2,Ci,h1]
        simp only [Place.app] at this;rw [this] at h3;simp [Key.aT] at h3
       ·exact Zh r s (by rw [←h2,Ci,h1,h3])
      ·exact Yv r s (by rw [←h2,Ci,h1])
     ·refine ⟨(j,c),[],?_⟩;by_cases hj:j < min n0 rows.length
      ·rw [aJ hj];exact .inl rfl
      ·rw [az hj];exact .inr rfl
    ·intro hn;by_cases mj:src=[]
     ·rw [mj,mH] at hn;exact Pu hn
     ·have hn:lS (rows++src)=false:=hn.resolve_right fun e=>mj (HB.1 e).2
      obtain ⟨k1,k2⟩:=vQ.1 hn;by_cases xu:rows=[]
      ·exact Pu (.inr xu)
      ·exact Pu (.inl (vQ.2 ⟨xu,fun r hr=>k2 r (HJ _ hr)⟩))
  ·refine fresh (some ⟨B,o,none⟩) cap (cur.extract o (o+rows.length * i.size)) n0 val rfl (by omega) (by simp;omega) ?_ fM ?_ dz (fun e=>by rw [e] at E';simp at E';omega)
   ·intro w' pA;simp only [Builtin.firstCells];exact acs (w:=w') (e:=e') (fz:=fz) (by rw [pA];exact hB) (by omega)
   ·intro j c y hy;obtain ⟨hj,hc⟩:=oj fM hy;have af:=vL hj hc;have:=cu j c y hy;rw [dc,Uz];rw [aJ (by omega),←pU];exact this
 ·
  have hn:0 < src.length:=List.length_pos_iff.2 Zr;refine fresh none 0 #[] 0 (fun _ _=>undef) rfl (by simp;omega) (by simp) ?_ (by simp) (fun i c x h=>by simp [cellOf] at h) (fun i c x h=>by simp [cellOf] at h) Zr;intro w' pA;simp [Builtin.firstCells]
end
end
section
structure Hint where
 nt:Nat
 MN:Nat
 res:List Nat
 anB:List (Nat×List Nat)
 acv:List (Nat×(Option (List Nat)×Bool))
 deriving Inhabited
def FP:Option TypeDesc→Bool
 | some .string=>true
 | _=>false
def M6 (P:Program) (e:TypeId):Bool:=
 match P.info? e with
 | some i=>match i.zero with
  | some (.bool false)=>true
  | _=>false
 | none=>false
def Q6:Option TypeDesc→Bool
 | some .bool=>true
 | _=>false
def FQ:Option TypeDesc→Bool
 | some (.int .u8)=>true
 | _=>false
def AI:TypeId:=5
def aiH:Option TypeDesc→Bool
 | some (.int _)=>true
 | some .bool=>true
 | some .string=>true
 | _=>false
def wW (e:TypeId) (b:Nat):Nat:=if e=AI then b else if b=1 then 2 else b
section
variable (P:Program)
def jQ (t:TypeId):Option Nat:=(P.info? t).map (·.size)
def OW (t:TypeId):Option Nat:=
 match P.underlying t with
 | some (.slice e)=>jQ P e
 | _=>none
def Bq (sz:Nat):Value→Option C
 | .int k n=>some (.d (.int k n))
 | .bool b=>some (.d (.bool b))
 | .string s=>some (.d (.str s.data.toList))
 | .slice none 0 0=>some (.d (.sl (.im true) sz []))
 | .pointer none=>some .cE
 | .nilFunc=>some .eW
 | .nilIface=>some .fQ
 | _=>none
def Oz (sz:Nat) (v:Value):Option V:=(Bq sz v).map .one
def Oq:Nat→TypeId→Option (List Nat)
 | 0,_=>none
 | n+1,t=>
  match P.underlying t with
  | some (.struct fs)=>fs.toList.foldr (fun f acc=>match Oq n f.type,acc with | some a,some b=>some (a++b) | _,_=>none) (some [])
  | some (.array k e)=>(Oq n e).map fun l=>(List.replicate k l).flatten
  | some (.slice e)=>(jQ P e).map fun s=>[s]
  | _=>some [0]
def pQ (t:TypeId):Option (List C):=
 match P.info? t,Oq P 12 t with
 | some i,some l=>match i.zero with
  | some z=>if z.cells.size=l.length∧z.cells.size=i.size then (l.zip z.cells.toList).mapM fun x=>Bq x.1 x.2 else none
  | none=>none
 | _,_=>none
def Ef:TypeDesc→Bool
 | .struct _=>true
 | .array _ _=>true
 | _=>false
def r4 (t:TypeId):Option (Nat×Bool):=
 match P.info? t,P.underlying t with
 | some i,some d=>some (i.size,Ef d)
 | _,_=>none
def PG:Nat→TypeId→Bool
 | 0,_=>true
 | n+1,t=>
  match P.underlying t with
  | some (.struct fs)=>fs.any fun f=>PG n f.type
  | some (.array _ e)=>PG n e
  | some (.slice _)=>true
  | _=>false
variable (nm:FuncId→Option Nat) (h:Hint)
def pX (t:TypeId) (x:Operand):Option X:=
 match x with
 | .tmp i=>some (if h.MN≤i∧PG P 12 t=true then .t i else .s i)
 | .const v=>(Oz ((OW P t).getD 0) v).map .c
 | .func f=>(nm f).bind fun n=>if n < kN then some (.f n) else none
 | .global _=>none
def eb (t:TypeId) (x:Operand):Option X:=
 match x with
 | .tmp i=>some (.s i)
 | .const v=>(Oz ((OW P t).getD 0) v).map .c
 | .func f=>(nm f).bind fun n=>if n < kN then some (.f n) else none
 | .global _=>none
def EM (f:Field):Option Fl:=
 if f.name = "_" then none else
 match P.underlying f.type with
 | some (.int _)=>some .int
 | some .bool=>some .bool
 | some .string=>some .str
 | _=>none
def EN:Nat→List Field→Option (List Fl)
 | _,[]=>some []
 | i,f::t=>if f.offset=i then
   match EM P f,EN (i+1) t with
   | some x,some l=>some (x::l)
   | _,_=>none
  else none
def Ya (f:Field):Option (List Fl):=
 if f.name = "_" then none else
 match P.underlying f.type with
 | some (.struct gs)=>
  match EN P 0 gs.toList with
  | some l=>if P.stoodInHeld f.type=false∧jQ P f.type=some l.length∧l.length≠0 then some l else none
  | none=>none
 | _=>none
def zf:Nat→List Field→Option (List Fl)
 | _,[]=>some []
 | i,f::t=>if f.offset=i then
   match EM P f with
   | some x=>(zf (i+1) t).map (x :: ·)
   | none=>match Ya P f with
    | some l=>(zf (i+l.length) t).map (l ++ ·)
    | none=>none
  else none
def BH (t:TypeId):Option (List Fl):=
 match P.underlying t with
 | some (.struct fs)=>if P.stoodInHeld t=false∧P.eqGuardType P.depth t=false then zf P 0 fs.toList else none
 | _=>none
def xE:Operand→Bool
 | .const _=>true
 | _=>false
def IA (op:BinOp) (t:TypeId) (y:Operand):Option TC:=
 match op with
 | .eql | .neq=>
  match P.underlying t with
  | some (.int _)=>some .other
  | some .string=>some .other
  | some .bool=>some .bool
  | some (.struct _)=>(BH P t).map .struct
  | some (.pointer _)=>some .ptr
  | some (.slice _)=>some .slice
  | some (.func _ _ _)=>some .func
  | some (.interface _)=>if xE y then some .iface else none
  | _=>none
 | _=>some .other
def ZH (t:TypeId):Bool:=
 match P.underlying t with
 | some (.struct fs)=>
  match fs.toList with
  | [f,g]=>
   match P.underlying f.type,P.underlying g.type with
   | some (.pointer e),some (.slice b)=>decide (e=t)&&decide (b=AI)
   | _,_=>false
  | _=>false
 | _=>false
def W7 (c:Call):Option oY:=
 match c.callee with
 | .value f=>do
  let f ←eb P nm 0 f
  if c.args.size=c.argTypes.size then
   let args ←(c.args.toList.zip c.argTypes.toList).mapM fun x=>pX P nm h x.2 x.1
   let ls:=match f with | .f n=>(h.anB.lookup n).getD [] | _=>[]
   pure (.call f (args.zipIdx.map fun x=>(ls.contains x.2,x.1)))
  else none
 | .builtin .len=>
  match c.args.toList,c.argTypes.toList with
  | [x],[t]=>match P.underlying t with
   | some .string=>(eb P nm t x).map (.len true)
   | some (.slice _)=>(eb P nm t x).map (.len false)
   | _=>none
  | _,_=>none
 | .builtin .append=>
  match c.args.toList,c.argTypes.toList with
  | [x,y],[t,u]=>match P.underlying t with
   | some (.slice e)=>do
    let i ←P.info? e
    let _ ←pQ P e
    let x ←pX P nm h t x
    match P.underlying u with
    | some (.slice _)=>do let y ←pX P nm h u y;if i.size=0∨i.bytes=0 then none else pure (if aiH (P.underlying e) then .A8 i.size (wW e i.bytes) x y else .app i.size (wW e i.bytes) x y)
    | some .string=>do let y ←eb P nm u y;if i.size=1∧i.bytes=1∧FQ (P.underlying e)=true∧e=AI then pure (.A6 x y) else none
    | _=>none
   | _=>none
  | _,_=>none
 | .builtin .unsafeSliceData=>
  match c.args.toList,c.argTypes.toList with
  | [x],[t]=>(eb P nm t x).map .To
  | _,_=>none
 | .builtin .unsafeString=>
  match c.args.toList,c.argTypes.toList with
  | [x,y],[t,u]=>
   match P.underlying t with
   | some (.pointer e)=>if e=AI∧P.cellsOf e=1 then do let x ←eb P nm t x;let y ←eb P nm u y;pure (.T5 x y) else none
   | _=>none
  | _,_=>none
 | .builtin .min=>
  match c.args.toList,c.argTypes.toList with
  | [x,y],[t,u]=>do let x ←eb P nm t x;let y ←eb P nm u y;pure (.min x y)
  | _,_=>none
 | .builtin .max=>
  match c.args.toList,c.argTypes.toList with
  | [x,y],[t,u]=>do let x ←eb P nm t x;let y ←eb P nm u y;pure (.max x y)
  | _,_=>none
 | _=>none
def Ox (fs:Array Field) (p:Nat×Operand):Option (Nat×Nat×X):=
 match fs[p.1]? with
 | some f=>
  match jQ P f.type,pX P nm h f.type p.2 with
  | some n,some x=>if n=0 then none else some (f.offset,n,x)
  | _,_=>none
 | none=>none
def IE (e:TypeId) (p:Nat×Operand):Option (Nat×X):=(pX P nm h e p.2).map fun x=>(p.1,x)
def yX (o:Oper):Option oY:=
 match o.op with
 | .move x=>(pX P nm h o.type x).map .LB
 | .assign x=>(pX P nm h o.type x).map .LB
 | .pick c a b=>do let c ←eb P nm 0 c;let a ←eb P nm o.type a;let b ←eb P nm o.type b;pure (.pick c a b)
 | .alloc e=>do
  let z ←pQ P e
  if ZH P e=true then
   match z with
   | [.cE,_]=>some (.ND e z)
   | _=>none
  else some (.alloc z)
 | .box e v=>do let n ←jQ P e;let x ←pX P nm h e v;if n=0 then none else if ZH P e=true then pure (.NV e n x) else pure (.box n x)
 | .build t parts=>do
  let z ←pQ P t
  match P.underlying t with
  | some (.struct fs)=>if (fs.toList.all fun f=>(jQ P f.type).isSome)=true then (parts.toList.mapM (Ox P nm h fs)).map (.build z) else none
  | _=>none
 | .buildSlice t len parts=>do
  match P.underlying t with
  | some (.slice e)=>do
   let z ←pQ P e
   match mQ z with
   | some row=>if len * z.length > 2 ^ 24∨z.length=0∨(tj row=true∧e≠AI) then none else (parts.toList.mapM (IE P nm h e)).map (.NW z.length (List.replicate len row))
   | none=>do
    let ps ←parts.toList.mapM (IE P nm h e)
    if z.length=1∧len≤2 ^ 24∧ps.map (·.1)=List.range len then pure (.Pk (ps.map (·.2))) else none
  | _=>none
 | .load t a=>do let n ←r4 P t;let x ←eb P nm 0 a;if n.1=0 then none else pure (.load n.1 n.2 x)
 | .store t a v=>do let n ←jQ P t;let x ←eb P nm 0 a;let v ←pX P nm h t v;if n=0 then none else pure (.store (match a with | .tmp i=>h.res.contains i | _=>false) n x v)
 | .nilCheck x=>(eb P nm 0 x).map .RY
 | .binOp op t x y _=>do
  let tc ←IA P op t y
  let x' ←eb P nm t x
  let y' ←eb P nm t y
  pure (.bin tc op x' y')
 | .unOp op t x=>(eb P nm t x).map (.un op)
 | .convert s d x=>do
  let x' ←eb P nm s x
  match P.underlying s,P.underlying d with
  | some (.int _),some (.int k)=>pure (.conv (.int k) x')
  | some .string,some .string=>pure (.conv .same x')
  | some .string,some (.slice e)=>if FQ (P.underlying e)=true∧e=AI then pure (.conv .TQ x') else none
  | some (.slice e),some .string=>if FQ (P.underlying e)=true then pure (.conv .Im x') else none
  | _,_=>none
 | .makeFunc (.func f) a b=>do
  let f ←(nm f).bind fun n=>if n < kN then some n else none
  let a ←a.toList.mapM (eb P nm 0)
  let b ←b.toList.mapM (eb P nm 0)
  pure (.RI f a b)
 | .makeSlice t l c=>
  match P.underlying t with
  | some (.slice e)=>do
   let i ←P.info? e
   let z ←pQ P e
   let row ←mQ z
   let l ←eb P nm 0 l
   let c ←eb P nm 0 c
   if i.size=0 then none else pure (.RN i.size (wW e i.bytes) row l c)
  | _=>none
 | .slice t x lo hi mx=>do
  let x ←eb P nm t x
  let lo ←(match lo with | none=>some none | some v=>(eb P nm 0 v).map some)
  let hi ←(match hi with | none=>some none | some v=>(eb P nm 0 v).map some)
  let mx ←(match mx with | none=>some none | some v=>(eb P nm 0 v).map some)
  match P.underlying t with
  | some .string=>if mx.isSome then none else pure (.Tv x lo hi)
  | some (.slice e)=>do let n ←jQ P e;if n=0∨(mx.isSome∧hi.isNone) then none else pure (.slice n x lo hi mx)
  | _=>none
 | .fieldAddr s x f=>
  match P.underlying s with
  | some (.struct fs)=>do
   let f ←fs[f]?
   let n ←jQ P f.type
   let x ←eb P nm 0 x
   if n=0 then none else pure (.Pe f.offset x)
  | _=>none
 | .field t x f=>
  match P.underlying t with
  | some (.struct fs)=>do
   let f ←fs[f]?
   let n ←r4 P f.type
   let x ←eb P nm t x
   pure (.field f.offset n.1 n.2 x)
  | _=>none
 | .indexAddr t x i=>
  match P.underlying t with
  | some (.slice e)=>do let n ←jQ P e;let x ←eb P nm t x;let i ←eb P nm 0 i;if n=0 then none else pure (.Q0 n x i)
  | some (.array k e)=>do let n ←jQ P e;let x ←eb P nm 0 x;let i ←eb P nm 0 i;if n=0 then none else pure (.Q5 k n x i)
  | _=>none
 | .index t x i=>
  match P.underlying t with
  | some .string=>do let x ←eb P nm t x;let i ←eb P nm 0 i;pure (.index x i)
  | _=>none
 | .extract x j=>(eb P nm 0 x).map (.extract j)
 | .makeInterface t x=>
  match P.underlying t with
  | some (.interface _)=>none
  | some _=>(eb P nm t x).map .RJ
  | none=>none
 | .makeMap t r=>
  match P.underlying t with
  | some (.map k e)=>if FP (P.underlying k)=true∧Q6 (P.underlying e)=true∧r.isNone=true∧o.dst.isSome=true then some .RM else none
  | _=>none
 | .lookup t m k ok=>
  match P.underlying t with
  | some (.map kt e)=>do let m ←eb P nm t m;let k ←eb P nm kt k;if FP (P.underlying kt)=true∧Q6 (P.underlying e)=true∧M6 P e=true∧ok=false then pure (.RH m k) else none
  | _=>none
 | .mapUpdate t m k v=>
  match P.underlying t with
  | some (.map kt e)=>do let m ←eb P nm t m;let k ←eb P nm kt k;let v ←eb P nm e v;if FP (P.underlying kt)=true∧Q6 (P.underlying e)=true then pure (.RO m k v) else none
  | _=>none
 | .call c=>W7 P nm h c
 | _=>none
def unordered (ops:Array Oper):List (Nat×Nat):=
 let b:=Region.before ops
 (List.range ops.size).flatMap fun j=>(List.range j).filterMap fun i=>
  if (b.getD j 0).testBit i then none else some (i,j)
def IQ (ops:Array Oper):Bool:=
 (List.range ops.size).all fun i=>((ops[i]?).map fun o=>o.after.all fun e=>!Region.binds .any e||decide (e.on < i)).getD false
def IF (ops:Array Oper) (o:Oper):Option gB:=
 if (o.dst.all fun d=>decide (d < h.nt))=true then
  match o.guard with
  | none=>some ⟨o.dst,(yX P nm h o).getD .bad,none⟩
  | some (j,b)=>
   match (ops[j]?).bind (·.dst) with
   | some d=>some ⟨o.dst,(yX P nm h o).getD .bad,some (d,b)⟩
   | none=>none
 else none
def Ez (ops:Array Oper):Option (List gB):=ops.toList.mapM (IF P nm h ops)
def Qi (l:List (Nat×(Option (List Nat)×Bool))) (id:Nat):Option (List Nat)×Bool:=
 match l with
 | []=>(none,false)
 | x::t=>if x.1=id then x.2 else Qi t id
def mP:Code→Option lY
 | .skip=>some .skip
 | .region id ops draw=>do
  let l ←Ez P nm h ops
  if draw=true∧IQ ops=false then none else
  pure (.ja (Qi h.acv id).1 (Qi h.acv id).2 l (if draw then some (unordered ops) else none))
 | .seq a b=>do let x ←mP a;let y ←mP b;pure (.seq x y)
 | .cond c a b=>do let c ←eb P nm 0 c;let x ←mP a;let y ←mP b;pure (.cond c x y)
 | .block id b=>(mP b).map (.block id)
 | .loop b=>(mP b).map .loop
 | .exit id=>some (.exit id)
 | .ret=>some .ret
 | _=>some (.ja none false [⟨none,.bad,none⟩] none)
def u5:ResultVar→Option RV
 | .tmp t=>some (.slot t)
 | .cell a t=>do let n ←r4 P t;pure (.cell a n.1 n.2)
def Ey (f:Func) (forget:Bool):Option ll:=do
 let c ←f.body
 if h.nt≠f.ntmps then none else
 let b ←mP P nm h c
 let rs ←f.results.toList.mapM (u5 P)
 pure ⟨f.ntmps,rs,b,forget⟩
end
end
section
def AP (dst:Option Nat) (x:V) (ws:List Wr):List Wr:=
 match dst with
 | some d=>{ k:=.s d,v:=x } :: ws
 | none=>ws
def dP (nm:FuncId→Option Nat) (N:Nat) (S:St) (w0:World) (L0:aw) (a:Act) (dst:Option Nat) (x:V) (ws:List Wr) (v:Value) (w':World):Prop:=
 ∃L',oe nm N (S.ah (AP dst x ws)) w0 L0 (a.put dst v) w' L'
def dw (P:Program) (a:Act) (w:World) (o:Oper) (R:Value→World→Prop):Prop:=
 match (execOp a.eval o).run P w with
 | .ok (.value v) w'=>R v w'
 | .ok .skip w'=>R undef w'
 | .ok (.enter f args) w'=>Calls P f args w' fun e tv=>∃v,e = .returned v∧R v tv
 | .ok (.row row args) w'=>Rows P row args w' R
 | _=>False
theorem dw.wp {P:Program} {a:Act} {w:World} {o:Oper} {R:Value→World→Prop} (h:dw P a w o R) {next:Act→World→Prop} {Q:Exit→Act→World→Prop}
  (hr:∀v w',R v w'→next (a.put o.dst v) w'):o.wp P a w next Q:=by
 unfold dw at h;unfold Oper.wp;generalize (execOp a.eval o).run P w=r at h ⊢;cases r with
 | ok n w'=>
  cases n<;>simp only [Oper.upon] at h ⊢<;>first
   | exact h.elim
   | exact hr _ _ h
   | exact Rows.mono h (fun v tv=>hr v tv)
   | exact Calls.mono h (fun e tv=>by rintro ⟨v,rfl,hR⟩;exact hr v tv hR)
 | halt x w'=>simp only at h
section
variable {nm:FuncId→Option Nat} {N:Nat} {S:St} {a:Act} {w:World} {L:aw} {P:Program} {o:Oper}
theorem dw.val {R:Value→World→Prop} {v:Value} {w':World} (h:(execOp a.eval o).run P w = .ok (.value v) w') (hr:R v w'):dw P a w o R:=by
 unfold dw;rw [h];exact hr
theorem dw.skip {R:Value→World→Prop} {w':World} (h:(execOp a.eval o).run P w = .ok .skip w') (hr:R undef w'):dw P a w o R:=by
 unfold dw;rw [h];exact hr
def Bs:Place→Option Place:=fun q=>if q.k.aT=true then some q else none
theorem afR {q q' t:Place} (h1:Bs q=some t) (h2:Bs q'=some t):q=q':=by
 unfold Bs at h1 h2;split at h1
 ·split at h2
  ·simp only [aj] at h1 h2;rw [h1,h2]
  ·cases h2
 ·cases h1
theorem Rel.fZ {S0:St} {ws:List Wr} {w':World} {L':aw} {w0:World} {L0:aw} (R:Rel nm N (S0.ah ws) a w' L') (hm:de w0 w' L0 L') {dst:Option Nat} (hd:∀d,dst=some d→d < N) {m:Nat} {x:V} {v:Value}
  (hv:bD nm w' L' (S0.ah ws).γ (.h m) x v):dP nm N S0 w0 L0 a dst x ws v w':=by
 cases dst with
 | some d=>
  obtain ⟨L2,h1,h2,h3,_⟩:=R.adn (hd d rfl) hv;exact ⟨L2,h1,hm.trans h3,h2⟩
 | none=>
  refine ⟨cI Bs L',R.wj (fun q hq=>by simp [Bs,hq]) (fun q q' t h1 h2=>afR h1 h2),hm.trans (G7 _),?_⟩;intro B q o hB;obtain ⟨q0,_,h2⟩:=oR hB;unfold Bs at h2;split at h2
  ·rename_i h3;simp only [aj] at h2;rw [←h2];exact h3
  ·cases h2
theorem execOp_builtin {b:Builtin} {args:Array Operand} {ts:Array TypeId} (ho:o.op = .call ⟨.builtin b,args,ts⟩) (ρ:Operand→Value) :
  execOp ρ o=builtin b ts o.type (args.map fun | .const _=>true | _=>false) (args.map ρ):=by
 unfold execOp;simp only [ho];unfold resolve;simp only;rfl
theorem wu {s:Sem Value} {v:Value} {w':World} (h:s.run P w = .ok v w'):(do pure (Next.value (←s)):Sem Next).run P w = .ok (.value v) w':=by
 simp [h]
theorem fk (R:Rel nm N S a w L) (hd:∀d,o.dst=some d→d < N) {x:V} {v:Value} (h:(execOp a.eval o).run P w = .ok (.value v) w) (hv:bD nm w L S.γ (.h 0) x v) :
  dw P a w o (dP nm N S w L a o.dst x []):=
 .val h (Rel.fZ (ws:=[]) R (de.refl w L) hd hv)
theorem IH {sz:Nat} {v:Value} {c:C} (h:Bq sz v=some c):(∀(w:World) (L:aw) (γ:Key→Nat) (k:Key) (j:Nat),aF nm w L γ k j c v)∧c.own=false:=by
 unfold Bq at h;split at h
 ·cases h;exact ⟨fun _ _ _ _ _=>.d (.plain .int),rfl⟩
 ·cases h;exact ⟨fun _ _ _ _ _=>.d (.plain .bool),rfl⟩
 ·cases h;exact ⟨fun _ _ _ _ _=>.d (.plain .str),rfl⟩
 ·cases h;exact ⟨fun _ _ _ _ _=>.d (.plain .nil),rfl⟩
 ·cases h;exact ⟨fun _ _ _ _ _=>.cE,rfl⟩
 ·cases h;exact ⟨fun _ _ _ _ _=>.eW,rfl⟩
 ·cases h;exact ⟨fun _ _ _ _ _=>.fQ,rfl⟩
 ·cases h
theorem eQ {t:TypeId} {x:Operand} {X:X} (h:eb P nm t x=some X):bR nm X x∧X.iK=true:=by
 cases x with
 | tmp i=>simp only [eb,aj] at h;subst h;exact ⟨.s,rfl⟩
 | const v=>
  simp only [eb,Oz] at h;cases hc:Bq ((OW P t).getD 0) v with
  | none=>simp [hc] at h
  | some c=>
   simp only [hc,fe,aj] at h;subst h;exact ⟨.c fun w L γ k=>.one ((IH hc).1 w L γ k 0),by simp [X.iK,V.own,V.cells,(IH (nm:=nm) hc).2]⟩
 | func f=>
  simp only [eb] at h;cases hf:nm f with
  | none=>simp [hf] at h
  | some n=>
   simp only [hf,Option.bind_some] at h;split at h
   ·rename_i ht;simp only [aj] at h;subst h;exact ⟨.f hf ht,rfl⟩
   ·cases h
 | global g=>simp [eb] at h
theorem u6 {hh:Hint} {t:TypeId} {x:Operand} {X:X} (h:pX P nm hh t x=some X):bR nm X x∧X.iK=true:=by
 cases x with
 | tmp i=>
  simp only [pX,aj] at h;subst h;split
  ·exact ⟨.t,rfl⟩
  ·exact ⟨.s,rfl⟩
 | const v=>exact eQ (P:=P) (t:=t) h
 | func f=>exact eQ (P:=P) (t:=t) h
 | global g=>simp [pX] at h
theorem rd_val (R:Rel nm N S a w L) {x:Operand} {X:X} (h:bR nm X x) {v:V} (hr:(rd X).run S=some v):bD nm w L S.γ (.h 0) v (a.eval x):=acr R h hr (.h 0)
theorem bD.cQ {γ:Key→Nat} {k:Key} {c:C} {v:Value} (h:bD nm w L γ k (.one c) v):aF nm w L γ k 0 c v:=by cases h with | one h=>exact h
theorem aF.q7 {γ:Key→Nat} {k:Key} {j:Nat} {kk:IntKind} {n:Int} {v:Value} (h:aF nm w L γ k j (.d (.int kk n)) v):v = .int kk n:=by
 cases h with | d h=>cases h with | plain h=>cases h;rfl
theorem aF.r7 {γ:Key→Nat} {k:Key} {j:Nat} {b:Bool} {v:Value} (h:aF nm w L γ k j (.d (.bool b)) v):v = .bool b:=by
 cases h with | d h=>cases h with | plain h=>cases h;rfl
theorem aF.rE {γ:Key→Nat} {k:Key} {j:Nat} {b:List UInt8} {v:Value} (h:aF nm w L γ k j (.d (.str b)) v):v = .string ⟨b.toArray⟩:=by
 cases h with | d h=>cases h with | plain h=>cases h;rfl
theorem wT {γ:Key→Nat} {k:Key} {x:V} {n:Nat} {v:Value} (h:bD nm w L γ k x v) (hn:asNat x=some n):∃kk,v = .int kk n:=by
 unfold asNat at hn;split at hn
 ·rename_i kk m;split at hn
  ·rename_i h0;simp only [aj] at hn;refine ⟨kk,?_⟩;rw [h.cQ.q7,←hn,Int.toNat_of_nonneg h0]
  ·cases hn
 ·cases hn
theorem Q.aK {α β:Type} {x:Q α} {f:α→Q β} {r:β} (h:(x >>= f).run S=some r):∃a,x.run S=some a∧(f a).run S=some r:=by
 rw [Q.run_bind] at h;cases hx:x.run S with
 | none=>simp [hx] at h
 | some a=>exact ⟨a,rfl,by simpa [hx] using h⟩
theorem Q.ek {α:Type} {b:Bool} {f:Unit→Q α} {r:α} (h:(Q.guard b >>= f).run S=some r):b=true∧(f ()).run S=some r:=by
 obtain ⟨u,h1,h2⟩:=Q.aK h;rw [Q.lB] at h1;split at h1
 ·exact ⟨‹_›,h2⟩
 ·cases h1
theorem Q.gA {α β:Type} {x:Option α} {f:α→Q β} {r:β} (h:(Q.dq x >>= f).run S=some r):∃y,x=some y∧(f y).run S=some r:=by
 obtain ⟨u,h1,h2⟩:=Q.aK h;rw [Q.yp] at h1;exact ⟨u,h1,h2⟩
theorem Q.ni {β:Type} {k:Key} {f:mL→Q β} {r:β} (h:(Q.at_ k >>= f).run S=some r):(f (S.get k)).run S=some r:=by
 obtain ⟨u,h1,h2⟩:=Q.aK h;simp only [Q.uD,aj] at h1;rw [h1];exact h2
theorem Q.aY {α:Type} {x r:α} (h:(pure x:Q α).run S=some r):r=x:=by simpa using h.symm
end
end
section
section
variable {nm:FuncId→Option Nat} {N:Nat} {S:St} {a:Act} {w:World} {L:aw} {P:Program} {o:Oper} {Cl:bW} {d:Nat} {r:V×List Wr}
theorem Be (s:List UInt8):(⟨s.toArray⟩:ByteArray).size=s.length:=by
 show s.toArray.size=s.length;simp
theorem ain (R:Rel nm N S a w L) (hd:∀d,o.dst=some d→d < N) {x:Operand} {X:ax.X} (hx:bR nm X x) (ho:o.op = .nilCheck x) (hr:(bp Cl d (.RY X)).run S=some r) :
  dw P a w o (dP nm N S w L a o.dst r.1 r.2):=by
 simp only [bp] at hr;obtain ⟨v,h1,h2⟩:=Q.aK hr;have hv:=rd_val R hx h1;have run:∀(u:Value),a.eval x=u→(∃ad,u = .pointer (some ad))∨(∃f b c,u = .func (.func f) b c)→(execOp a.eval o).run P w = .ok (.value (a.eval x)) w:=by
  intro u hu h;rcases h with ⟨ad,rfl⟩ | ⟨f,b,c,rfl⟩<;>simp [execOp,ho,hu]
 split at h2
 ·obtain rfl:=Q.aY h2;refine fk R hd (run _ rfl (.inl ?_)) hv;cases hv.cQ with | ptr hv=>exact hv
 ·obtain rfl:=Q.aY h2;refine fk R hd (run _ rfl (.inl ?_)) hv;cases hv.cQ with | eD hv=>exact hv
 ·obtain rfl:=Q.aY h2;refine fk R hd (run _ rfl (.inl ?_)) hv;generalize a.eval x=u at hv;cases hv.cQ with | pp=>exact ⟨_,rfl⟩
 ·obtain ⟨jH,h2⟩:=Q.ek h2;have jH:=JT jH;obtain rfl:=Q.aY h2;refine fk R hd (run _ rfl (.inr ?_)) hv;generalize a.eval x=u at hv;cases hv.cQ with
  | fn=>exact ⟨_,_,_,rfl⟩
  | fns val hf=>exfalso;rcases hf with ⟨h,_⟩ | ⟨h,_⟩<;>omega
 ·cases h2
theorem aio (R:Rel nm N S a w L) (hd:∀d,o.dst=some d→d < N) {c x y:Operand} {C' X Y:ax.X} (hc:bR nm C' c) (hx:bR nm X x) (hy:bR nm Y y) (ho:o.op = .pick c x y) (hr:(bp Cl d (.pick C' X Y)).run S=some r) :
  dw P a w o (dP nm N S w L a o.dst r.1 r.2):=by
 simp only [bp] at hr;obtain ⟨v,h1,h2⟩:=Q.aK hr;have hv:=rd_val R hc h1;split at h2
 ·obtain ⟨v2,h3,h4⟩:=Q.aK h2;obtain rfl:=Q.aY h4;exact fk R hd (by simp [execOp,ho,hv.cQ.r7,asBool]) (rd_val R hx h3)
 ·obtain ⟨v2,h3,h4⟩:=Q.aK h2;obtain rfl:=Q.aY h4;exact fk R hd (by simp [execOp,ho,hv.cQ.r7,asBool]) (rd_val R hy h3)
 ·cases h2
theorem XT (R:Rel nm N S a w L) (hd:∀d,o.dst=some d→d < N) {x:Operand} {X:ax.X} {t:TypeId} {str:Bool} (hx:bR nm X x) (ho:o.op = .call ⟨.builtin .len,#[x],#[t]⟩)
  (ht:if str=true then P.underlying t=some .string else ∃e,P.underlying t=some (.slice e)) (hr:(bp Cl d (.len str X)).run S=some r) :
  dw P a w o (dP nm N S w L a o.dst r.1 r.2):=by
 cases str with
 | true=>
  simp only [bV] at ht;simp only [bp] at hr;obtain ⟨v,h1,h2⟩:=Q.aK hr;have hv:=rd_val R hx h1;split at h2
  ·rename_i s;obtain rfl:=Q.aY h2;refine fk R hd (v:=.int .i64 s.length) ?_ (.one (.d (.plain .int)));rw [execOp_builtin ho,show (#[x]:Array Operand).map a.eval = #[a.eval x] from by simp];refine wu ?_;show (Builtin.len_ #[t] _ #[a.eval x]).run P w=_;rw [hv.cQ.rE];simp [Builtin.len_,run_underlying ht,goInt,Be]
  ·cases h2
 | false=>
  simp only [rQ,dE] at ht;obtain ⟨e,ht⟩:=ht;simp only [bp] at hr;obtain ⟨v,h1,h2⟩:=Q.aK hr;have hv:=rd_val R hx h1;have run:∀(n:Nat),(∃b c,a.eval x = .slice b n c)→(execOp a.eval o).run P w = .ok (.value (.int .i64 n)) w:=by
   rintro n ⟨b,c,hb⟩;rw [execOp_builtin ho,show (#[x]:Array Operand).map a.eval = #[a.eval x] from by simp];refine wu ?_;show (Builtin.len_ #[t] _ #[a.eval x]).run P w=_;rw [hb];simp [Builtin.len_,run_underlying ht,goInt]
  split at h2
  ·rename_i t' sz rows;obtain rfl:=Q.aY h2;refine fk R hd (run rows.length ?_) (.one (.d (.plain .int)));generalize a.eval x=u at hv;cases hv.cQ with
   | d h=>
    cases h with
    | plain h=>
     cases h with
     | nil=>exact ⟨_,_,rfl⟩
     | mB=>exact ⟨_,_,rfl⟩
     | pl=>exact ⟨_,_,rfl⟩
    | jm=>exact ⟨_,_,rfl⟩
    | own=>exact ⟨_,_,rfl⟩
  ·rename_i pl g sz off len;obtain rfl:=Q.aY h2;refine fk R hd (run len ?_) (.one (.d (.plain .int)));generalize a.eval x=u at hv;cases hv.cQ with
   | view hv=>obtain ⟨b,c,rfl,_⟩:=hv;exact ⟨_,_,rfl⟩
  ·rename_i t0 f0 l0;obtain ⟨l',hl,h2⟩:=Q.gA h2;obtain ⟨rfl,rfl,rfl⟩:=C.fn.inj (Pg hl);obtain rfl:=Q.aY h2;refine fk R hd (run l0.length ?_) (.one (.d (.plain .int)));obtain ⟨B,o',cap,cur,e',fz,val,hf,_⟩:=hv.cQ.Ph (bT _);rcases hf with ⟨_,h,_⟩ | ⟨h,_⟩
   ·exact ⟨_,_,h⟩
   ·exact absurd h (by decide)
  ·cases h2
end
end
section
section
variable {nm:FuncId→Option Nat} {N:Nat} {S:St} {a:Act} {w:World} {L:aw} {P:Program} {o:Oper} {Cl:bW} {d:Nat} {r:V×List Wr}
theorem Vl {t:TypeId} {n:Nat} {agg:Bool} (h:r4 P t=some (n,agg)):∃i dd,P.info? t=some i∧P.underlying t=some dd∧i.size=n∧Ef dd=agg:=by
 unfold r4 at h;split at h
 ·rename_i i dd h1 h2;simp only [aj,fJ] at h;exact ⟨i,dd,h1,h2,h.1,h.2⟩
 ·cases h
theorem acS {t:TypeId} {n:Nat} {agg:Bool} (h:r4 P t=some (n,agg)) (w:World):(isAgg t).run P w = .ok agg w:=by
 obtain ⟨i,dd,h1,h2,h3,h4⟩:=Vl h;subst h4;unfold isAgg;rw [Sem.run_bind,run_underlying h2,Result.andThen_ok];cases dd<;>rfl
theorem run_sizeOf {t:TypeId} {n:Nat} {agg:Bool} (h:r4 P t=some (n,agg)) (w:World):(sizeOf t).run P w = .ok n w:=by
 obtain ⟨i,dd,h1,h2,h3,h4⟩:=Vl h;simp [sizeOf,typeInfo,h1,h3]
theorem yq {t:TypeId} {n:Nat} (h:jQ P t=some n) (w:World):(sizeOf t).run P w = .ok n w:=by
 unfold jQ at h;cases hi:P.info? t with
 | none=>simp [hi] at h
 | some i=>
  simp only [hi,fe,aj] at h;simp [sizeOf,typeInfo,hi,h]
def wH (agg:Bool) (vs:List Value):Value:=if agg then .agg vs.toArray else vs.headD undef
theorem Tm {t:TypeId} {n:Nat} {agg:Bool} (h:r4 P t=some (n,agg)) {B o:Nat} {vs:List Value} (hn:vs.length=n) (h1:agg=false→n=1) (hc:∀j v,vs[j]? = some v→w.cell? ⟨B,o+j,none⟩=some v) :
  (loadVar t ⟨B,o,none⟩).run P w = .ok (wH agg vs) w:=by
 unfold loadVar;rw [Sem.run_bind,acS h,Result.andThen_ok];cases agg with
 | true=>
  have:=run_loadCells_list (P:=P) w ⟨B,o,none⟩ vs (fun j v hv=>by rw [oh];exact hc j v hv);simp [run_sizeOf h,←hn,this,wH]
 | false=>
  have oy:=h1 rfl;cases vs with
  | nil=>simp at hn;omega
  | cons v t=>
   have:=hc 0 v rfl;simp only [gW] at this;simp [this,wH]
theorem xP {k:Key} {γ:Key→Nat} {agg:Bool} {cs:List C} {x:V} {vs:List Value} (h:(lQ agg cs).run S=some x) (hl:cs.length=vs.length)
  (hc:∀j c v,cs[j]? = some c→vs[j]? = some v→aF nm w L γ k j c v):bD nm w L γ k x (wH agg vs)∧(agg=false→cs.length=1):=by
 unfold lQ at h;cases agg with
 | true=>
  simp only [bV,Q.run_pure,aj] at h;subst h;exact ⟨.agg (by simpa using hl) (fun j c u h1 h2=>hc j c u h1 (by simpa using h2)),by simp⟩
 | false=>
  simp only [rQ,dE] at h;split at h
  ·rename_i c;simp only [Q.run_pure,aj] at h;subst h;cases vs with
   | nil=>simp at hl
   | cons v t=>exact ⟨.one (hc 0 c v rfl rfl),fun _=>rfl⟩
  ·simp at h
theorem Mn {r:aI}:∀(n c:Nat) {cs:List C},(wh r c n).run S=some cs→cs.length=n∧∀j,j < n→∃x,S.E (.b r (c+j)) = .one x∧cs[j]? = some (x.look (.b r (c+j)) (S.γ (.b r (c+j))) 0)
 | 0,c,cs,h=>by
  simp only [wh,Q.run_pure,aj] at h;subst h;exact ⟨rfl,fun j hj=>by omega⟩
 | n+1,c,cs,h=>by
  simp only [wh] at h;have h:=Q.ni h;split at h
  ·rename_i x hx;obtain ⟨t,h1,h2⟩:=Q.aK h;obtain rfl:=Q.aY h2;obtain ⟨g1,g2⟩:=Mn n (c+1) h1;refine ⟨by simp [g1],fun j hj=>?_⟩;cases j with
   | zero=>exact ⟨x,hx,rfl⟩
   | succ j=>
    obtain ⟨y,g3,g4⟩:=g2 j (by omega);refine ⟨y,by rw [show c+(j+1)=c+1+j by omega];exact g3,?_⟩;rw [show c+(j+1)=c+1+j by omega];simpa using g4
  ·cases h
theorem aaQ (pl:Place) (g i:Nat):∀(row:List D) (c j:Nat),(rh pl g i c row)[j]? = (row[j]?).map fun x=>RB (pl.sub i (c+j)) g x
 | [],c,j=>by simp [rh]
 | x::t,c,0=>by simp [rh]
 | x::t,c,j+1=>by
  simp only [rh,yB];rw [aaQ pl g i t (c+1) j,show c+1+j=c+(j+1) by omega]
theorem aaR (pl:Place) (g i:Nat):∀(row:List D) (c:Nat),(rh pl g i c row).length=row.length
 | [],_=>rfl
 | x::t,c=>by simp [rh,aaR pl g i t]
theorem Sp (R:Rel nm N S a w L) {pl:Place} (hk:pl.k.aT=true) {g sz:Nat} {res:mL×D×List (List D)} (h:(jw [] pl g sz).run S=some res) :
  g=S.γ pl.k∧∃u,br w L pl (.sl .own sz res.2.2) u:=by
 obtain ⟨h1,h2,h3,h4⟩:=ux h;have M:=ch.init R;exact ⟨h2,M.Bb hk h3 h4⟩
theorem aok {pl:Place} {γ:Key→Nat} {x:D} {v:Value} {k:Key} {j:Nat} (hk:pl.k.aT=true) (h:br w L pl x v) :
  aF nm w L γ k j (RB pl (γ pl.k) x) v:=by
 have own:∀{sz:Nat} {rows:List (List D)} {v:Value},br w L pl (.sl .own sz rows) v→aF nm w L γ k j (.view pl (γ pl.k) sz 0 rows.length) v:=by
  intro sz rows v h;refine .view h.adl hk (bT _) (fun _=>?_);rcases h.nS with ⟨rfl,a,rfl⟩ | ⟨B,o,cap,cur,e,fz,val,rfl,aZ,hL,hB,cX,fM,dL,dG,cu,hr,dY⟩
  ·exact .inl ⟨rfl,a,rfl⟩
  ·exact .inr ⟨B,o,cap,cur,e,fz,by simp,aZ,hL,hB,cX,dL,by omega,fun _ h0=>dY (.inr (pS.1 h0))⟩
 cases x with
 | sl t sz rows=>
  cases t with
  | own=>exact own h
  | im b=>cases h with | plain h=>exact .d (.plain h)
 | _=>cases h with | plain h=>exact .d (.plain h)
theorem aid (R:Rel nm N S a w L) (hd:∀d,o.dst=some d→d < N) {x:Operand} {X:ax.X} {t:TypeId} {n:Nat} {agg:Bool} (hx:bR nm X x) (ho:o.op = .load t x) (ht:r4 P t=some (n,agg))
  (hr:(bp Cl d (.load n agg X)).run S=some r):dw P a w o (dP nm N S w L a o.dst r.1 r.2):=by
 simp only [bp] at hr;obtain ⟨v,h1,h2⟩:=Q.aK hr;have hv:=rd_val R hx h1;have run:∀(B o':Nat) (vs:List Value),a.eval x = .pointer (some ⟨B,o',none⟩)→vs.length=n→(agg=false→n=1)→(∀j v,vs[j]? = some v→w.cell? ⟨B,o'+j,none⟩=some v)→
   (execOp a.eval o).run P w = .ok (.value (wH agg vs)) w:=by
  intro B o' vs hb hn h1 hc;have:=Tm ht hn h1 hc;simp [execOp,ho,hb,Instr.loadAt,Instr.sureAddr,this]
 split at h2
 ·
  rename_i r0 g c;have h2:=Q.ni h2;obtain ⟨hg,h2⟩:=Q.ek h2;simp only [bK,nA,eV,fy] at hg;obtain ⟨⟨hG,hg⟩,B3⟩:=hg;obtain ⟨cs,h3,h2⟩:=Q.aK h2;obtain ⟨x',h4,h2⟩:=Q.aK h2;obtain rfl:=Q.aY h2;obtain ⟨hlen,E4⟩:=Mn n c h3;cases hv.cQ with
  | ptr iH gg hp=>
   obtain ⟨B,o',hB,cu⟩:=hp hg.symm;by_cases nL:n=0
   ·
    subst nL;have eE:cs=[]:=pS.1 hlen;subst eE;obtain ⟨hm,Ca⟩:=xP (nm:=nm) (w:=w) (L:=L) (γ:=S.γ) (k:=.h 0) (vs:=[]) h4 rfl (fun j c v h=>by simp at h);exact fk R hd (run B (o'+c) [] cu rfl (fun h=>by have:=Ca h;simp at this) (fun j v h=>by simp at h)) hm
   obtain ⟨B',eX,cur,e,fz,k1,k2,k3,k4⟩:=R.room r0 hG (by have:c+n≤cm (S.E (.r r0)):=B3;omega);obtain rfl:=R.fA B' B r0 eX o' k1 hB;obtain rfl:eX=o':=by rw [k1] at hB;simpa using hB
   have aje:c+n≤cm (S.E (.r r0)):=B3;let vs:=(List.range n).map fun j=>cur.getD (eX+c+j) undef
   have kV:∀j v,vs[j]? = some v→j < n∧cur[eX+c+j]? = some v:=by
    intro j v jt;simp only [vs,bO] at jt;have hj:j < n:=by
     rcases yG j n with h | h
     ·exact h
     ·simp [pR,h] at jt
    have af:eX+c+j < cur.size:=by omega
    simp [hj,Array.getD,af] at jt;exact ⟨hj,by simp [af,jt]⟩
   have pz:vs.length=n:=by simp [vs]
   have hm := xP (nm := nm) (w := w) (L := L) (γ := S.γ) (k := .h 0) (vs := vs) h4 (by rw [hlen, pz]) (by
     intro j c1 v1 dF nO
     obtain ⟨hj, zv⟩ := kV j v1 nO
     obtain ⟨y, zL, xy⟩ := E4 j hj
     rw [dF] at xy
     simp only [aj] at xy
     subst xy
     by_cases ji : y = .dead
     · subst ji; exact .dead
     · have oB := R.cell r0 (c + j) y zL ji
       have : ∃ B o cur e fz v, L B = some (.box r0 o) ∧ w.heap[B]? = some (.cells cur e fz) ∧ jC cur.size fz ∧ cur[o + (c + j)]? = some v ∧ aF nm w L S.γ (.b r0 (c + j)) 0 y v := by
         cases r0 with
         | g i => simp [aI.iX] at hG
         | e i => obtain ⟨B, o, cur, e, fz, v, q1, q2, q3, q4, q5, _⟩ := oB; exact ⟨B, o, cur, e, fz, v, q1, q2, q3, q4, q5⟩
         | l i => obtain ⟨B, o, cur, e, fz, v, q1, q2, q3, q4, q5, _⟩ := oB; exact ⟨B, o, cur, e, fz, v, q1, q2, q3, q4, q5⟩
       obtain ⟨B2, o2, iD, e2, lq, v2, a1, a2, a3, a4, a5⟩ := this
       obtain rfl := R.fA B2 B' r0 o2 eX a1 k1
       obtain rfl : o2 = eX := by rw [a1] at k1; simpa using k1
       obtain ⟨rfl, rfl, rfl⟩ : iD = cur ∧ e2 = e ∧ lq = fz := by rw [a2] at k2; simpa using k2
       rw [← pU, zv] at a4
       simp only [aj] at a4
       subst a4
       exact a5.look rfl _ _)
   refine fk R hd (run B' (eX+c) vs cu pz (fun h=>by rw [←hlen];exact hm.2 h) (fun j v h=>?_)) hm.1;rw [qR k2];exact (kV j v h).2
 ·
  rename_i cells;obtain ⟨hg,h2⟩:=Q.ek h2;simp only [fy] at hg;obtain ⟨x',h4,h2⟩:=Q.aK h2;obtain rfl:=Q.aY h2;have gJ:=hv.cQ;generalize qV:a.eval x=u at gJ;cases gJ with
  | @pp _ B o' cur e fz hL hB hp=>
   have hj:∀j,j < n→∃y u,cells[j]? = some y∧cur[o'+j]? = some u∧fK w L y u:=by
    intro j hj;obtain ⟨u,g1,g2⟩:=hp j (cells[j]'(by omega)) (by simp);exact ⟨_,u,by simp,g1,g2⟩
   let vs:=(List.range n).map fun j=>cur.getD (o'+j) undef
   have pz:vs.length=n:=by simp [vs]
   have kV:∀j v,vs[j]? = some v→j < n∧cur[o'+j]? = some v:=by
    intro j v jt;simp only [vs,bO] at jt;have nH:j < n:=by
     rcases yG j n with h | h
     ·exact h
     ·simp [pR,h] at jt
    obtain ⟨y,u,_,g1,_⟩:=hj j nH;simp [nH,iw,g1] at jt;exact ⟨nH,by rw [g1,jt]⟩
   have hm := xP (nm := nm) (w := w) (L := L) (γ := S.γ) (k := .h 0) (vs := vs) h4 (by simp [pz]; omega) (by
     intro j c1 v1 dF nO
     obtain ⟨nH, zv⟩ := kV j v1 nO
     obtain ⟨y, u, g0, g1, g2⟩ := hj j nH
     rw [zv] at g1
     simp only [aj] at g1
     subst g1
     simp only [bO, yD nH, g0, fe, aj] at dF
     subst dF
     exact .d (.plain g2))
   refine fk R hd (run B o' vs qV pz (fun h=>?_) (fun j v h=>?_)) hm.1
   ·have:=hm.2 h;simp at this;omega
   ·rw [qR hB];exact (kV j v h).2
 ·
  rename_i pl g sz i c;obtain ⟨res,h3,h2⟩:=Q.aK h2;obtain ⟨row,df,h2⟩:=Q.gA h2;obtain ⟨hg,h2⟩:=Q.ek h2;simp only [fy] at hg;obtain ⟨x',h4,h2⟩:=Q.aK h2;obtain rfl:=Q.aY h2;cases hv.cQ with
  | eD iH hh gg hp=>
   obtain ⟨jY,u,hu⟩:=Sp R hh h3;obtain ⟨B,o',hB,cu⟩:=hp jY;rcases hu.nS with ⟨mh,_⟩ | ⟨B',eX,cap,cur,e,fz,val,_,aZ,ff,dA,cX,fM,dL,dG,Co,dM,dY⟩
   ·rw [mh] at df;simp at df
   obtain rfl:=R.eM B' B pl eX o' ff hB;obtain rfl:eX=o':=by rw [ff] at hB;simpa using hB
   have gF:row.length=sz:=fM row (fm df);have hj:∀j,j < n→∃y,row[c+j]? = some y∧cellOf res.2.2 i (c+j)=some y:=by
    intro j hj;refine ⟨row[c+j]'(by omega),by simp,kL.2 ⟨row,df,by simp⟩⟩
   let vs:=(List.range n).map fun j=>val i (c+j)
   have pz:vs.length=n:=by simp [vs]
   have kV:∀j v,vs[j]? = some v→j < n∧v=val i (c+j):=by
    intro j v jt;simp only [vs,bO] at jt;have nH:j < n:=by
     rcases yG j n with h | h
     ·exact h
     ·simp [pR,h] at jt
    simp [nH] at jt;exact ⟨nH,jt.symm⟩
   have gi:(rh pl g i c ((row.drop c).take n)).length=n:=by rw [aaR];simp;omega
   have hm := xP (nm := nm) (w := w) (L := L) (γ := S.γ) (k := .h 0) (vs := vs) h4 (by rw [gi, pz]) (by
     intro j c1 v1 dF nO
     obtain ⟨nH, rfl⟩ := kV j v1 nO
     obtain ⟨y, g0, g1⟩ := hj j nH
     rw [aaQ, yD nH, tC, g0] at dF
     simp only [fe, aj] at dF
     have := aok (nm := nm) (γ := S.γ) (k := .h 0) (j := j) (pl := pl.sub i (c + j)) hh (dM i (c + j) y g1)
     have ku : S.γ (pl.sub i (c + j)).k = g := jY.symm
     rw [ku] at this
     rw [← dF]
     exact this)
   refine fk R hd (run B' (eX+i * sz+c) vs cu pz (fun h=>?_) (fun j v h=>?_)) hm.1
   ·have:=hm.2 h;rw [gi] at this;exact this
   ·obtain ⟨nH,rfl⟩:=kV j v h;obtain ⟨y,g0,g1⟩:=hj j nH;rw [qR dA];have:=Co i (c+j) y g1;rwa [←pU] at this
 ·
  rename_i t0 f0 l0;obtain ⟨l',hl,h2⟩:=Q.gA h2;obtain ⟨rfl,rfl,rfl⟩:=C.fn.inj (Pg hl);obtain ⟨hg,h2⟩:=Q.ek h2;have Qp:l0.length=n:=by simpa using hg
  obtain ⟨x',h4,h2⟩:=Q.aK h2;obtain rfl:=Q.aY h2;obtain ⟨B,o',cap,cur,e',fz,val,hf,hL,hB,aR,oI,dM⟩:=hv.cQ.Ph (by omega);rcases hf with ⟨h,_⟩ | ⟨_,cu⟩
  ·exact absurd h (by decide)
  ·let vs:=(List.range n).map val;have pz:vs.length=n:=by simp [vs]
   have kV:∀j v,vs[j]? = some v→j < n∧v=val j:=by
    intro j v jt;simp only [vs,bO] at jt;rcases yG j n with hj | hj
    ·rw [HF hj] at jt;simp only [fe,aj] at jt;exact ⟨hj,jt.symm⟩
    ·simp [pR,hj] at jt
   have hm := xP (nm := nm) (w := w) (L := L) (γ := S.γ) (k := .h 0) (vs := vs) h4 (by rw [pz, Qp]) (by
     intro j c1 v1 dF nO
     obtain ⟨nH, rfl⟩ := kV j v1 nO
     exact (dM j c1 dF).any (kj aR dF) _ _)
   refine fk R hd (run B o' vs cu pz (fun h=>?_) (fun j v h=>?_)) hm.1
   ·have:=hm.2 h;omega
   ·obtain ⟨nH,rfl⟩:=kV j v h;rw [qR hB];exact oI j (by omega)
 ·cases h2
end
end
section
section
variable {nm:FuncId→Option Nat} {N:Nat} {S:St} {a:Act} {w:World} {L:aw} {P:Program} {o:Oper} {Cl:bW} {d:Nat} {r:V×List Wr}
theorem ah9 (R:Rel nm N S a w L) (hd:∀d,o.dst=some d→d < N) {x:Operand} {X:ax.X} {s:TypeId} {i:Nat} {fs:Array Field} {f:Field} {n:Nat} (hx:bR nm X x) (ho:o.op = .fieldAddr s x i)
  (hs:P.underlying s=some (.struct fs)) (hf:fs[i]? = some f) (hn:jQ P f.type=some n) (nL:n≠0) (hr:(bp Cl d (.Pe f.offset X)).run S=some r) :
  dw P a w o (dP nm N S w L a o.dst r.1 r.2):=by
 simp only [bp] at hr;obtain ⟨v,h1,h2⟩:=Q.aK hr;clear hr;have hv:=rd_val R hx h1;have run:∀ad:Addr,a.eval x = .pointer (some ad)→(execOp a.eval o).run P w = .ok (.value (.pointer (some (ad.add f.offset)))) w:=by
  intro ad hb;have:(Instr.fieldAt s (a.eval x) i).run P w = .ok (.pointer (some (ad.add f.offset))) w:=by
   rw [hb];simp [Instr.fieldAt,run_underlying hs,hf,Instr.sureAddr,fieldPlace,yq hn,nL]
  simp [execOp,ho,this]
 split at h2
 ·rename_i r0 g c;obtain rfl:=Q.aY h2;cases hv.cQ with
  | ptr iH hg h=>
   obtain ⟨ad,xg⟩:=iH;refine fk R hd (run ad xg) (.one (.ptr ⟨_,rfl⟩ hg (fun he=>?_)));obtain ⟨B,o',hB,hb⟩:=h he;rw [xg] at hb;simp only [Value.pointer.injEq,aj] at hb;subst hb;exact ⟨B,o',hB,by rw [oh,pU]⟩
 ·rename_i cells;obtain rfl:=Q.aY h2;have gJ:=hv.cQ;generalize qV:a.eval x=u at gJ;cases gJ with
  | @pp _ B o' cur e fz hL hB hp=>
   refine fk R hd (run _ qV) ?_;rw [oh];refine .one (.pp hL hB ?_);intro q y hq;rw [tC] at hq;have:=hp (f.offset+q) y hq;rwa [←pU] at this
 ·rename_i pl g sz j c;obtain rfl:=Q.aY h2;cases hv.cQ with
  | eD iH hh hg h=>
   obtain ⟨ad,xg⟩:=iH;refine fk R hd (run ad xg) (.one (.eD ⟨_,rfl⟩ hh hg (fun he=>?_)));obtain ⟨B,o',hB,hb⟩:=h he;rw [xg] at hb;simp only [Value.pointer.injEq,aj] at hb;subst hb;exact ⟨B,o',hB,by rw [oh,pU]⟩
 ·cases h2
theorem bD.NC {γ:Key→Nat} {k:Key} {cs:List C} {v:Value} (h:bD nm w L γ k (.agg cs) v):∃vs:Array Value,v = .agg vs∧cs.length=vs.size∧∀(j:Nat) c u,cs[j]? = some c→vs[j]? = some u→aF nm w L γ k j c u:=by
 cases h with | agg hl h=>exact ⟨_,rfl,hl,h⟩
theorem aF.at_ {γ:Key→Nat} {k k':Key} {j j':Nat} {c:C} {v:Value} (h:aF nm w L γ k j c v) (hc:c.own=false):aF nm w L γ k' j' c v:=h.any (h.u4 hc) k' j'
theorem ah8 (R:Rel nm N S a w L) (hd:∀d,o.dst=some d→d < N) {x:Operand} {X:ax.X} {s:TypeId} {i:Nat} {fs:Array Field} {f:Field} {n:Nat} {agg:Bool} (hx:bR nm X x) (aS:X.iK=true) (ho:o.op = .field s x i)
  (hs:P.underlying s=some (.struct fs)) (hf:fs[i]? = some f) (hn:r4 P f.type=some (n,agg)) (hr:(bp Cl d (.field f.offset n agg X)).run S=some r) :
  dw P a w o (dP nm N S w L a o.dst r.1 r.2):=by
 simp only [bp] at hr;obtain ⟨v,h1,h2⟩:=Q.aK hr;clear hr;have hv:=rd_val R hx h1;have aR:=Mm aS h1;split at h2
 ·rename_i cs;obtain ⟨hg,nG⟩:=Q.ek h2;clear h2;have h2:=nG;clear nG
  simp only [fy] at hg;obtain ⟨x',h4,h2⟩:=Q.aK h2;obtain rfl:=Q.aY h2;obtain ⟨vs,kV,hl,hc⟩:=hv.NC;let us:=(vs.toList.drop f.offset).take n;have Zy:us.length=n:=by simp [us];omega
  have hm := xP (nm := nm) (w := w) (L := L) (γ := S.γ) (k := .h 0) (vs := us) h4 (by rw [Zy]; simp; omega) (by
    intro j c1 v1 dF nO
    have hj : j < n := by rw [← Zy]; exact (cB.1 nO).1
    simp only [us] at nO
    rw [yD hj, tC] at dF nO
    exact (hc (f.offset + j) c1 v1 dF (by simpa using nO)).at_ (L6 aR dF))
  refine fk R hd (v:=wH agg us) ?_ hm.1;have:(Instr.field s (a.eval x) i).run P w = .ok (wH agg us) w:=by
   rw [kV];simp only [Instr.field,Sem.run_bind,run_underlying hs,Result.andThen_ok,hf,asAgg,Sem.run_pure,part,acS hn];cases agg with
   | true=>
    simp only [bV,Sem.run_bind,run_sizeOf hn,Result.andThen_ok,Sem.run_pure,wH];congr 2;apply rP;simp [us,List.drop_take]
   | false=>
    have mf:n=1:=by have:=hm.2 rfl;simp at this;omega
    subst mf;have af:f.offset < vs.size:=by omega
    have:vs[f.offset]? = some vs[f.offset]:=by simp [af]
    simp only [rQ,dE,this,Sem.run_pure,wH];congr 1;have cL:vs.toList.drop f.offset=vs[f.offset]::vs.toList.drop (f.offset+1):=by
     rw [tA (by simpa using af)];simp
    simp [us,cL]
  simp [execOp,ho,this]
 ·cases h2
theorem ah7 (R:Rel nm N S a w L) (hd:∀d,o.dst=some d→d < N) {x:Operand} {X:ax.X} {j:Nat} (hx:bR nm X x) (ho:o.op = .extract x j) (hr:(bp Cl d (.extract j X)).run S=some r) :
  dw P a w o (dP nm N S w L a o.dst r.1 r.2):=by
 simp only [bp] at hr;obtain ⟨v,h1,h2⟩:=Q.aK hr;clear hr;have hv:=rd_val R hx h1;split at h2
 ·rename_i vs;obtain ⟨y,hy,h2⟩:=Q.gA h2;obtain rfl:=Q.aY h2;generalize qV:a.eval x=u at hv;cases hv with
  | @aq _ us hl aR h=>
   have hj:j < us.size:=by rw [←hl];exact (cB.1 hy).1
   refine fk R hd (v:=us[j]) ?_ (h j y us[j] hy (by simp [hj]));have:us[j]? = some us[j]:=by simp [hj]
   simp [execOp,ho,qV,Instr.extract,this]
 ·cases h2
theorem aia (R:Rel nm N S a w L) (hd:∀d,o.dst=some d→d < N) {x i:Operand} {X I:ax.X} {t:TypeId} (hx:bR nm X x) (hi:bR nm I i) (ho:o.op = .index t x i) (ht:P.underlying t=some .string)
  (hr:(bp Cl d (.index X I)).run S=some r):dw P a w o (dP nm N S w L a o.dst r.1 r.2):=by
 simp only [bp] at hr;obtain ⟨v,h1,eU⟩:=Q.aK hr;clear hr;have hr:=eU;clear eU
 have hv:=rd_val R hx h1;obtain ⟨vi,h3,eU⟩:=Q.aK hr;clear hr;have hr:=eU;clear eU
 obtain ⟨n,hn,h2⟩:=Q.gA hr;clear hr;obtain ⟨kk,FJ⟩:=wT (rd_val R hi h3) hn;split at h2
 ·rename_i s;obtain ⟨b,hb,h2⟩:=Q.gA h2;obtain rfl:=Q.aY h2;refine fk R hd (v:=.int .u8 b.toNat) ?_ (.one (.d (.plain .int)));have hs:=hv.cQ.rE;have af:=(cB.1 hb).1;have vo:(⟨s.toArray⟩:ByteArray)[n]? = some b:=by
   have h2:n < (⟨s.toArray⟩:ByteArray).size:=by rw [Be];exact af
   obtain ⟨_,he⟩:=cB.1 hb;rw [show (⟨s.toArray⟩:ByteArray)[n]? = some ((⟨s.toArray⟩:ByteArray)[n]'h2) from by simp [h2]];rw [←he];rfl
  have:(Instr.index t (a.eval x) (a.eval i)).run P w = .ok (.int .u8 b.toNat) w:=by
   rw [hs,FJ];simp [Instr.index,asIntOf,run_underlying ht,vo]
  simp [execOp,ho,this]
 ·cases h2
theorem aij (R:Rel nm N S a w L) (hd:∀d,o.dst=some d→d < N) {x:Operand} {X:ax.X} {t:TypeId} {dd:TypeDesc} (ho:o.op = .makeInterface t x) (ht:P.underlying t=some dd) (vr:∀m,dd≠.interface m)
  (hr:(bp Cl d (.RJ X)).run S=some r):dw P a w o (dP nm N S w L a o.dst r.1 r.2):=by
 simp only [bp] at hr;obtain rfl:=Q.aY hr;refine fk R hd (v:=.iface t (a.eval x)) ?_ (.one .fj);have:(Instr.makeInterface t (a.eval x)).run P w = .ok (.iface t (a.eval x)) w:=by
  unfold Instr.makeInterface;rw [Sem.run_bind,run_underlying ht,Result.andThen_ok];cases dd<;>first | rfl | exact absurd rfl (vr _)
 simp [execOp,ho,this]
theorem aih (R:Rel nm N S a w L) (hd:∀d,o.dst=some d→d < N) {x y:Operand} {X Y:ax.X} {ts:Array TypeId} (hx:bR nm X x) (hy:bR nm Y y) (ho:o.op = .call ⟨.builtin .min,#[x,y],ts⟩)
  (hr:(bp Cl d (.min X Y)).run S=some r):dw P a w o (dP nm N S w L a o.dst r.1 r.2):=by
 simp only [bp] at hr;obtain ⟨v,h1,eU⟩:=Q.aK hr;clear hr;have hr:=eU;clear eU
 obtain ⟨v2,h3,h2⟩:=Q.aK hr;clear hr;split at h2
 ·rename_i k m k' n;obtain rfl:=Q.aY h2;refine fk R hd (v:=.int k (if n < m then n else m)) ?_ (.one (.d (.plain .int)));rw [execOp_builtin ho,show (#[x,y]:Array Operand).map a.eval = #[a.eval x,a.eval y] from by simp];refine wu ?_;show (Builtin.min_ ts _ #[a.eval x,a.eval y]).run P w=_;rw [(rd_val R hx h1).cQ.q7,(rd_val R hy h3).cQ.q7];simp [Builtin.min_,Builtin.min2]
 ·cases h2
theorem aie (R:Rel nm N S a w L) (hd:∀d,o.dst=some d→d < N) {x y:Operand} {X Y:ax.X} {ts:Array TypeId} (hx:bR nm X x) (hy:bR nm Y y) (ho:o.op = .call ⟨.builtin .max,#[x,y],ts⟩)
  (hr:(bp Cl d (.max X Y)).run S=some r):dw P a w o (dP nm N S w L a o.dst r.1 r.2):=by
 simp only [bp] at hr;obtain ⟨v,h1,eU⟩:=Q.aK hr;clear hr;have hr:=eU;clear eU
 obtain ⟨v2,h3,h2⟩:=Q.aK hr;clear hr;split at h2
 ·rename_i k m k' n;obtain rfl:=Q.aY h2;refine fk R hd (v:=.int k (if n > m then n else m)) ?_ (.one (.d (.plain .int)));rw [execOp_builtin ho,show (#[x,y]:Array Operand).map a.eval = #[a.eval x,a.eval y] from by simp];refine wu ?_;show (Builtin.max_ ts _ #[a.eval x,a.eval y]).run P w=_;rw [(rd_val R hx h1).cQ.q7,(rd_val R hy h3).cQ.q7];simp [Builtin.max_,Builtin.max2]
 ·cases h2
theorem aic (R:Rel nm N S a w L) (hd:∀d,o.dst=some d→d < N) {x i:Operand} {X I:ax.X} {t e:TypeId} {k sz:Nat} (hx:bR nm X x) (hi:bR nm I i) (ho:o.op = .indexAddr t x i)
  (ht:P.underlying t=some (.array k e)) (hs:jQ P e=some sz) (hr:(bp Cl d (.Q5 k sz X I)).run S=some r):dw P a w o (dP nm N S w L a o.dst r.1 r.2):=by
 simp only [bp] at hr;obtain ⟨v,h1,eU⟩:=Q.aK hr;clear hr;have hr:=eU;clear eU
 have hv:=rd_val R hx h1;obtain ⟨vi,h3,eU⟩:=Q.aK hr;clear hr;have hr:=eU;clear eU
 obtain ⟨n,hn,h2⟩:=Q.gA hr;clear hr;obtain ⟨kk,FJ⟩:=wT (rd_val R hi h3) hn;obtain ⟨af,nG⟩:=Q.ek h2;clear h2;have h2:=nG;clear nG
 simp only [fy] at af;split at h2
 ·rename_i r0 g c;obtain rfl:=Q.aY h2;cases hv.cQ with
  | ptr iH hg h=>
   obtain ⟨ad,xg⟩:=iH;have:(Instr.indexAt t (a.eval x) (a.eval i)).run P w = .ok (.pointer (some (ad.add (n * sz)))) w:=by
    rw [xg,FJ];have vy:¬ k≤n:=by omega
    simp [Instr.indexAt,asIntOf,run_underlying ht,Instr.sureAddr,yq hs,af]
   refine fk R hd (by simp [execOp,ho,this];rfl) (.one (.ptr ⟨_,rfl⟩ hg (fun he=>?_)));obtain ⟨B,o',hB,hb⟩:=h he;rw [xg] at hb;simp only [Value.pointer.injEq,aj] at hb;subst hb;exact ⟨B,o',hB,by rw [oh,pU]⟩
 ·cases h2
theorem aib (R:Rel nm N S a w L) (hd:∀d,o.dst=some d→d < N) {x i:Operand} {X I:ax.X} {t e:TypeId} {sz:Nat} (hx:bR nm X x) (hi:bR nm I i) (ho:o.op = .indexAddr t x i)
  (ht:P.underlying t=some (.slice e)) (hs:jQ P e=some sz) (hr:(bp Cl d (.Q0 sz X I)).run S=some r):dw P a w o (dP nm N S w L a o.dst r.1 r.2):=by
 simp only [bp] at hr;obtain ⟨v,h1,eU⟩:=Q.aK hr;clear hr;have hr:=eU;clear eU
 have hv:=rd_val R hx h1;obtain ⟨vi,h3,eU⟩:=Q.aK hr;clear hr;have hr:=eU;clear eU
 obtain ⟨n,hn,h2⟩:=Q.gA hr;clear hr;obtain ⟨kk,FJ⟩:=wT (rd_val R hi h3) hn;have run:∀(ad:Addr) (len cap:Nat),a.eval x = .slice (some ad) len cap→n < len→(execOp a.eval o).run P w = .ok (.value (.pointer (some (ad.add (n * sz))))) w:=by
  intro ad len cap hb af;have:(Instr.indexAt t (a.eval x) (a.eval i)).run P w = .ok (.pointer (some (ad.add (n * sz)))) w:=by
   rw [hb,FJ];simp [Instr.indexAt,asIntOf,run_underlying ht,yq hs,af]
  simp [execOp,ho,this]
 split at h2
 ·cases h2
 ·rename_i t' cw rows sG;obtain ⟨hg,nG⟩:=Q.ek h2;clear h2;have h2:=nG;clear nG
  simp only [eV] at hg;subst hg;obtain ⟨row,df,h2⟩:=Q.gA h2;obtain rfl:=Q.aY h2;have gJ:=hv.cQ;generalize qV:a.eval x=u at gJ;cases gJ with
  | d h=>
   cases h with
   | plain h=>
    cases h with
    | nil=>simp at df
    | mB=>simp at df
    | @pl cw rows B o' cap cur e' fz val aB aZ PW hL hB hlen oI dM=>
     have af:=(cB.1 df).1;refine fk R hd (run ⟨B,o',none⟩ rows.length cap qV af) ?_;rw [oh];refine .one (.pp hL hB ?_);intro q y hq;have hc:cellOf rows n q=some y:=kL.2 ⟨row,df,hq⟩;exact ⟨val n q,oI n q y hc,dM n q y hc⟩
   | jm=>simp at df
   | own=>simp at sG
 ·rename_i pl g cw off len;obtain ⟨hg,nG⟩:=Q.ek h2;clear h2;have h2:=nG;clear nG
  simp only [bK,eV,fy] at hg;obtain ⟨rfl,af⟩:=hg;obtain rfl:=Q.aY h2;cases hv.cQ with
  | view iH hh gg h=>
   obtain ⟨b,c,hb,ue,p8⟩:=iH;have aja:b.isSome=true:=p8;obtain ⟨ad,rfl⟩:=yI.1 aja;refine fk R hd (run ad len c hb af) (.one (.eD ⟨_,rfl⟩ hh gg (fun he=>?_)));rcases h he with ⟨h0,_⟩ | ⟨B,o',cap,cur,e',fz,cu,aZ,hL,hB,_⟩
   ·omega
   ·rw [hb] at cu;simp only [Value.slice.injEq,aj,lk] at cu;obtain ⟨rfl,_⟩:=cu;exact ⟨B,o',hL,by rw [oh,lI,gW,pU]⟩
 ·rename_i t0 f0 l0;obtain ⟨l',hl,nG⟩:=Q.gA h2;clear h2;obtain ⟨rfl,rfl,rfl⟩:=C.fn.inj (Pg hl);obtain ⟨hg,h2⟩:=Q.ek nG;clear nG;obtain ⟨c,hc,h2⟩:=Q.gA h2;obtain rfl:=Q.aY h2;have aZ:sz=1:=by simpa using hg
  subst aZ;obtain ⟨B,o',cap,cur,e',fz,val,hf,hL,hB,aR,oI,dM⟩:=hv.cQ.Ph (bT _);have af:=(cB.1 hc).1;rcases hf with ⟨_,h,_⟩ | ⟨h,_⟩
  ·refine fk R hd (run _ _ _ h af) ?_;rw [oh];refine .one (.fns (B:=B) (o:=o'+n * 1) (cap:=0) (fun i=>val (n+i)) (.inr ⟨rfl,rfl⟩) hL hB (by simp [jo,kj aR hc]) ?_ ?_)
   ·intro i hi;have hi0:i=0:=by simpa using hi
    subst hi0;have:=oI n af;simpa using this
   ·intro i x hx;cases i with
    | zero=>
     simp only [kD,aj] at hx;subst hx;exact dM n c hc
    | succ i=>simp at hx
  ·exact absurd h (by decide)
 ·cases h2
end
end
section
section
variable {nm:FuncId→Option Nat} {N:Nat} {S:St} {a:Act} {w:World} {L:aw} {P:Program} {o:Oper} {Cl:bW} {d:Nat} {r:V×List Wr}
theorem aiw {op:BinOp} {t yt:TypeId} {x y:Operand} (ho:o.op = .binOp op t x y yt) (hg:(eqGuard op t x y (a.eval x) (a.eval y)).run P w = .ok () w) {v:Value} (hb:(binOp op t (a.eval x) (a.eval y)).run P w = .ok v w) :
  (execOp a.eval o).run P w = .ok (.value v) w:=by
 simp [execOp,ho,hg,hb]
theorem EC {op:BinOp} {t:TypeId} {x y:Operand} {u v:Value} (h1:∀p q,u = .agg p→v = .agg q→False) (h2:u = .nilIface→v = .nilIface→(xE x=true∨xE y=true)) :
  (eqGuard op t x y u v).run P w = .ok () w:=by
 unfold eqGuard;by_cases ho:op = .eql∨op = .neq
 ·have hm:(match op with | .eql=>true | .neq=>true | _=>false)=true:=by rcases ho with rfl | rfl<;>rfl
  rcases ho with rfl | rfl;all_goals
   simp only [UD,rQ,dE]
   cases u<;>cases v<;>first
    | rfl
    | exact (h1 _ _ rfl rfl).elim
    | (rcases h2 rfl rfl with hc | hc
       · cases x <;> simp_all [xE]
       · cases y <;> simp_all [xE])
 ·have oy:op≠.eql:=fun e=>ho (.inl e)
  have nG:op≠.neq:=fun e=>ho (.inr e)
  cases op<;>first | rfl | exact absurd rfl oy | exact absurd rfl nG
theorem aj5 {op:BinOp} {k:IntKind} {x y:Int} {t:TypeId} {z:D} (h:Ct op k x y=some z) (kx:op≠.shl) (kU:op≠.shr):∃v,(binOp op t (.int k x) (.int k y)).run P w = .ok v w∧fK w L z v:=by
 cases op;case add=>cases h;exact ⟨_,by simp [binOp,Op.intArith],.int⟩
 case sub=>cases h;exact ⟨_,by simp [binOp,Op.intArith],.int⟩
 case mul=>cases h;exact ⟨_,by simp [binOp,Op.intArith],.int⟩
 case and=>cases h;exact ⟨_,by simp [binOp,Op.intBits],.int⟩
 case or=>cases h;exact ⟨_,by simp [binOp,Op.intBits],.int⟩
 case xor=>cases h;exact ⟨_,by simp [binOp,Op.intBits],.int⟩
 case andNot=>cases h;exact ⟨_,by simp [binOp,Op.intBits],.int⟩
 case eql=>cases h;exact ⟨_,by simp [binOp,Op.intCmp],.bool⟩
 case neq=>cases h;exact ⟨_,by simp [binOp,Op.intCmp],.bool⟩
 case lss=>cases h;exact ⟨.bool (decide (x < y)),by simp [binOp,Op.intCmp],.bool⟩
 case leq=>cases h;exact ⟨.bool (decide (x≤y)),by simp [binOp,Op.intCmp],.bool⟩
 case gtr=>cases h;exact ⟨.bool (decide (x > y)),by simp [binOp,Op.intCmp],.bool⟩
 case geq=>cases h;exact ⟨.bool (decide (x≥y)),by simp [binOp,Op.intCmp],.bool⟩
 case quo=>
  simp only [Ct] at h;split at h
  ·cases h
  ·rename_i hy;cases h;exact ⟨_,by simp [binOp,Op.intDiv,hy],.int⟩
 case rem=>
  simp only [Ct] at h;split at h
  ·cases h
  ·rename_i hy;cases h;exact ⟨_,by simp [binOp,Op.intDiv,hy],.int⟩
 case shl=>exact absurd rfl kx
 case shr=>exact absurd rfl kU
theorem adj {op:BinOp} (ho:op = .shl∨op = .shr) {k k':IntKind} {x y:Int} {t:TypeId} {z:D} (h:DF op k x y=some z):∃v,(binOp op t (.int k x) (.int k' y)).run P w = .ok v w∧fK w L z v:=by
 unfold DF at h;split at h
 ·cases h
 ·rename_i hy;rcases ho with rfl | rfl
  ·simp only [aj] at h;subst h;exact ⟨_,by simp only [binOp,Op.shift,hy,dE];rfl,.int⟩
  ·simp only [aj] at h;subst h;exact ⟨_,by simp only [binOp,Op.shift,hy,dE];rfl,.int⟩
theorem aff (x y:List UInt8):(⟨x.toArray⟩:ByteArray)++⟨y.toArray⟩=⟨(x++y).toArray⟩:=by
 apply ByteArray.ext;simp [ByteArray.data_append]
theorem En:∀x y:List UInt8,Op.bytesLess x y=bytesLess x y
 | [],[]=>rfl
 | _::_,[]=>rfl
 | [],_::_=>rfl
 | a::x,b::y=>by simp [Op.bytesLess,bytesLess,En x y]
theorem apP {op:BinOp} {x y:List UInt8} {t:TypeId} {z:D} (h:Hl op x y=some z):∃v,(binOp op t (.string ⟨x.toArray⟩) (.string ⟨y.toArray⟩)).run P w = .ok v w∧fK w L z v:=by
 cases op;case add=>
  simp only [Hl] at h;split at h
  ·rename_i hl;cases h;refine ⟨.string ⟨(x++y).toArray⟩,?_,.str⟩;have h1:¬ (9223372036854775807 < (x.length:Int)+(y.length:Int)):=by omega
   have h2:IntKind.i64.max=9223372036854775807:=by decide
   simp [binOp,Op.stringOp,Be,aff,h2,h1]
  ·cases h
 case eql=>cases h;exact ⟨.bool (x==y),by simp [binOp,Op.stringOp],.bool⟩
 case neq=>cases h;exact ⟨.bool (!(x==y)),by simp [binOp,Op.stringOp],.bool⟩
 case lss=>cases h;exact ⟨.bool (bytesLess x y),by simp [binOp,Op.stringOp,En],.bool⟩
 case leq=>cases h;exact ⟨.bool (bytesLess x y||x==y),by simp [binOp,Op.stringOp,En],.bool⟩
 case gtr=>cases h;exact ⟨.bool (!(bytesLess x y||x==y)),by simp [binOp,Op.stringOp,En],.bool⟩
 case geq=>cases h;exact ⟨.bool (!bytesLess x y),by simp [binOp,Op.stringOp,En],.bool⟩
 all_goals simp [Hl] at h
theorem Gw {α β:Type} {x:Option α} {f:α→β} {r:β} (h:x.map f=some r):∃y,x=some y∧r=f y:=by
 cases x with
 | none=>cases h
 | some y=>exact ⟨y,rfl,by simpa using h.symm⟩
theorem XD {γ:Key→Nat} {k:Key} {i:Nat} {f:Field} {x:Fl} {l:List Fl} {c c':C} {t t':List C} {u u':Value} {b:Bool} (hx:EM P f=some x) (he:dy (x::l) (c::t) (c'::t')=some b)
  (r1:aF nm w L γ k i c u) (r2:aF nm w L γ k i c' u'):∃b1 b2,(∀n,(Op.equalIn (n+1) f.type u u').run P w = .ok b1 w)∧dy l t t'=some b2∧b=(b1&&b2)∧f.name≠"_"∧∃dd,P.underlying f.type=some dd∧Ef dd=false:=by
 have mg:f.name≠"_" := by
  intro e;simp [EM,e] at hx
 simp only [EM,mg,dE] at hx;split at hx
 ·rename_i kk xv;cases hx;cases c<;>(try (simp [dy] at he;done))
  rename_i z;cases z<;>(try (simp [dy] at he;done))
  cases c'<;>(try (simp [dy] at he;done))
  rename_i z;cases z<;>(try (simp [dy] at he;done))
  rename_i k1 n1 k2 n2;simp only [dy] at he;split at he
  ·rename_i hk;subst hk;cases hb:dy l t t' with
   | none=>simp [hb] at he
   | some b2=>
    simp only [hb,fe,aj] at he;refine ⟨_,b2,fun n=>?_,rfl,he.symm,mg,_,xv,rfl⟩;rw [r1.q7,r2.q7];exact run_equalIn_int w n f.type k1 kk n1 n2 xv
  ·cases he
 ·rename_i xv;cases hx;cases c<;>(try (simp [dy] at he;done))
  rename_i z;cases z<;>(try (simp [dy] at he;done))
  cases c'<;>(try (simp [dy] at he;done))
  rename_i z;cases z<;>(try (simp [dy] at he;done))
  rename_i n1 n2;simp only [dy] at he;cases hb:dy l t t' with
  | none=>simp [hb] at he
  | some b2=>
   simp only [hb,fe,aj] at he;refine ⟨_,b2,fun n=>?_,rfl,he.symm,mg,_,xv,rfl⟩;rw [r1.r7,r2.r7];exact run_equalIn_bool' w n f.type n1 n2 xv
 ·rename_i xv;cases hx;cases c<;>(try (simp [dy] at he;done))
  rename_i z;cases z<;>(try (simp [dy] at he;done))
  cases c'<;>(try (simp [dy] at he;done))
  rename_i z;cases z<;>(try (simp [dy] at he;done))
  rename_i n1 n2;simp only [dy] at he;cases hb:dy l t t' with
  | none=>simp [hb] at he
  | some b2=>
   simp only [hb,fe,aj] at he;refine ⟨n1==n2,b2,fun n=>?_,rfl,he.symm,mg,_,xv,rfl⟩;rw [r1.rE,r2.rE,run_equalIn_string w n f.type _ _ xv];simp
 ·cases hx
theorem OY {x:Fl} {l:List Fl} {s t:List C} {b:Bool} (h:dy (x::l) s t=some b):∃c s' c' t',s=c::s'∧t=c'::t':=by
 cases s with
 | nil=>cases x<;>simp [dy] at h
 | cons c s=>
  cases t with
  | nil=>cases x<;>cases c<;>(try (rename_i z;cases z))<;>simp [dy] at h
  | cons c' t=>exact ⟨c,s,c',t,rfl,rfl⟩
theorem drop_cons {α:Type} {cs t:List α} {c:α} {i:Nat} (h:cs.drop i=c::t):cs[i]? = some c∧cs.drop (i+1)=t∧i < cs.length:=by
 have h1:cs[i]? = some c:=by have:=fW (·[0]?) h;simpa [tC] using this
 exact ⟨h1,by rw [←UK,h];rfl,(cB.1 h1).1⟩
theorem L8 {f:Field} {dd:TypeDesc} {xs:Array Value} {u:Value} (vr:P.underlying f.type=some dd) (zr:Ef dd=false) (hu:xs[f.offset]? = some u):(part f.type xs f.offset).run P w = .ok u w:=by
 have vu:(isAgg f.type).run P w = .ok false w:=by
  unfold isAgg;rw [Sem.run_bind,run_underlying vr,Result.andThen_ok];cases dd<;>first | rfl | simp [Ef] at zr
 simp [part,vu,hu]
theorem XE {n:Nat} {γ:Key→Nat} {k:Key} {xs ys:Array Value} {cs ds:List C} {o:Nat} (eE:∀(j:Nat) c u,cs[j]? = some c→xs[j]? = some u→aF nm w L γ k (o+j) c u) (zx:∀(j:Nat) c u,ds[j]? = some c→ys[j]? = some u→aF nm w L γ k (o+j) c u)
  (ue:cs.length=xs.size) (Fm:ds.length=ys.size):∀(fs:List Field) (i:Nat) {fl:List Fl} {b:Bool},EN P i fs=some fl→dy fl (cs.drop i) (ds.drop i)=some b→(Op.eqFields (n+1) xs ys fs).run P w = .ok b w
 | [],i,fl,b,hf,he=>by
  simp only [EN,aj] at hf;subst hf;cases hc:cs.drop i with
  | cons c t=>rw [hc] at he;simp [dy] at he
  | nil=>
   cases hd:ds.drop i with
   | cons c t=>rw [hc,hd] at he;simp [dy] at he
   | nil=>
    rw [hc,hd] at he;simp only [dy,aj] at he;subst he;rfl
 | f::fs,i,fl,b,hf,he=>by
  simp only [EN] at hf;split at hf
  ·rename_i Fz;split at hf
   ·rename_i x l hx hl;simp only [aj] at hf;subst hf;obtain ⟨c,t,c',t',hc,hd⟩:=OY he;obtain ⟨PZ,P3,hic⟩:=drop_cons hc;obtain ⟨P4,sA,hid⟩:=drop_cons hd;obtain ⟨u,hu⟩:∃u,xs[i]? = some u:=⟨xs[i]'(by omega),by simp⟩
    obtain ⟨u',jv⟩:∃u,ys[i]? = some u:=⟨ys[i]'(by omega),by simp⟩
    rw [hc,hd] at he;obtain ⟨b1,b2,g1,g2,g3,mg,dd,vr,zr⟩:=XD hx he (eE i c u PZ hu) (zx i c' u' P4 jv);have ih:=XE (n:=n) eE zx ue Fm fs (i+1) hl (by rw [P3,sA];exact g2);subst Fz;simp only [Op.eqFields,mg,ne_eq,Nk,bV,Sem.run_bind,L8 vr zr hu,L8 vr zr jv,g1 n,Result.andThen_ok];cases b1
    ·simp [g3]
    ·simp [ih,g3]
   ·cases hf
  ·cases hf
theorem XC:∀(l1:List Fl) {l2:List Fl} {s t:List C} {b:Bool},dy (l1++l2) s t=some b→
  ∃b1 b2,dy l1 (s.take l1.length) (t.take l1.length)=some b1∧dy l2 (s.drop l1.length) (t.drop l1.length)=some b2∧b=(b1&&b2)∧l1.length≤s.length∧l1.length≤t.length
 | [],l2,s,t,b,h=>⟨true,b,by simp [dy],by simpa using h,by simp,by simp,by simp⟩
 | x::l1,l2,s,t,b,h=>by
  obtain ⟨c,s',c',t',rfl,rfl⟩:=OY (l:=l1++l2) h;have key:∀{b0 NN:Bool},dy (l1++l2) s' t'=some NN→b=(b0&&NN)→(∀{r:List Fl} {u v:List C} {q:Bool},dy r u v=some q→dy (x::r) (c::u) (c'::v)=some (b0&&q))→
    ∃b1 b2,dy (x::l1) ((c::s').take (l1.length+1)) ((c'::t').take (l1.length+1))=some b1∧dy l2 ((c::s').drop (l1.length+1)) ((c'::t').drop (l1.length+1))=some b2∧b=(b1&&b2)∧l1.length+1≤(c::s').length∧l1.length+1≤(c'::t').length:=by
   intro b0 NN h1 h2 h3;obtain ⟨a1,a2,k1,k2,k3,k4,k5⟩:=XC l1 h1;exact ⟨b0&&a1,a2,h3 k1,k2,by rw [h2,k3,Bool.and_assoc],by simp;omega,by simp;omega⟩
  cases x<;>cases c<;>(try (simp [dy] at h;done))<;>(rename_i z;cases z)<;>(try (simp [dy] at h;done))<;>cases c'<;>(try (simp [dy] at h;done))<;>(rename_i z;cases z)<;>(try (simp [dy] at h;done))
  ·simp only [qG,dy] at h;split at h
   ·rename_i hk;obtain ⟨q,h1,h2⟩:=Gw h;exact key h1 h2 (fun hq=>by simp [dy,hk,hq])
   ·cases h
  ·simp only [qG,dy] at h;obtain ⟨q,h1,h2⟩:=Gw h;exact key h1 h2 (fun hq=>by simp [dy,hq])
  ·simp only [qG,dy] at h;obtain ⟨q,h1,h2⟩:=Gw h;exact key h1 h2 (fun hq=>by simp [dy,hq])
theorem IS {n:Nat} {γ:Key→Nat} {k:Key} {xs ys:Array Value} {cs ds:List C} (eE:∀(j:Nat) c u,cs[j]? = some c→xs[j]? = some u→aF nm w L γ k j c u) (zx:∀(j:Nat) c u,ds[j]? = some c→ys[j]? = some u→aF nm w L γ k j c u)
  (ue:cs.length=xs.size) (Fm:ds.length=ys.size):∀(fs:List Field) (i:Nat) {fl:List Fl} {b:Bool},zf P i fs=some fl→dy fl (cs.drop i) (ds.drop i)=some b→(Op.eqFields (n+2) xs ys fs).run P w = .ok b w
 | [],i,fl,b,hf,he=>by
  simp only [zf,aj] at hf;subst hf;cases hc:cs.drop i with
  | cons c t=>rw [hc] at he;simp [dy] at he
  | nil=>
   cases hd:ds.drop i with
   | cons c t=>rw [hc,hd] at he;simp [dy] at he
   | nil=>
    rw [hc,hd] at he;simp only [dy,aj] at he;subst he;rfl
 | f::fs,i,fl,b,hf,he=>by
  simp only [zf] at hf;split at hf
  ·rename_i Fz;split at hf
   ·rename_i x hx;obtain ⟨l,hl,rfl⟩:=Gw hf;obtain ⟨c,t,c',t',hc,hd⟩:=OY he;obtain ⟨PZ,P3,hic⟩:=drop_cons hc;obtain ⟨P4,sA,hid⟩:=drop_cons hd;obtain ⟨u,hu⟩:∃u,xs[i]? = some u:=⟨xs[i]'(by omega),by simp⟩
    obtain ⟨u',jv⟩:∃u,ys[i]? = some u:=⟨ys[i]'(by omega),by simp⟩
    rw [hc,hd] at he;obtain ⟨b1,b2,g1,g2,g3,mg,dd,vr,zr⟩:=XD hx he (eE i c u PZ hu) (zx i c' u' P4 jv);have ih:=IS (n:=n) eE zx ue Fm fs (i+1) hl (by rw [P3,sA];exact g2);subst Fz;simp only [Op.eqFields,mg,ne_eq,Nk,bV,Sem.run_bind,L8 vr zr hu,L8 vr zr jv,g1 (n+1),Result.andThen_ok];cases b1
    ·simp [g3]
    ·simp [ih,g3]
   ·split at hf
    ·rename_i l1 mf;obtain ⟨l,hl,rfl⟩:=Gw hf;unfold Ya at mf;split at mf
     ·cases mf
     ·rename_i mg;split at mf
      ·rename_i gs qe;split at mf
       ·rename_i l0 nJ;split at mf
        ·rename_i iF;cases mf;obtain ⟨b1,b2,g1,g2,g3,g4,g5⟩:=XC l1 he;simp only [Na] at g4 g5;have ih:=IS (n:=n) eE zx ue Fm fs (i+l1.length) hl (by simpa [UK] using g2);have aZ:=iF.2.1;have aB:=iF.2.2;have pt:∀{zs:Array Value},(part f.type zs f.offset).run P w = .ok (.agg (zs.extract i (i+l1.length))) w:=by
          intro zs;have vu:(isAgg f.type).run P w = .ok true w:=by
           unfold isAgg;rw [Sem.run_bind,run_underlying qe,Result.andThen_ok];rfl
          subst Fz;simp [part,vu,yq aZ]
         have xn:P.fieldsOf f.type=gs:=by simp [Program.fieldsOf,qe]
         have sub:∀{zs:Array Value} {es:List C},es.length=zs.size→i+l1.length≤es.length→(∀(j:Nat) c u,es[j]? = some c→zs[j]? = some u→aF nm w L γ k j c u)→((es.drop i).take l1.length).length=(zs.extract i (i+l1.length)).size∧
           ∀(j:Nat) c u,((es.drop i).take l1.length)[j]? = some c→(zs.extract i (i+l1.length))[j]? = some u→aF nm w L γ k (i+j) c u:=by
          intro zs es h1 h2 h3;refine ⟨by simp;omega,fun j c u hc hu=>?_⟩;rw [M'] at hc;split at hc
          ·rename_i hj;rw [tC] at hc;rw [Uz] at hu;split at hu
           ·exact h3 _ c u hc hu
           ·cases hu
          ·cases hc
         obtain ⟨s1,s2⟩:=sub ue (by omega) eE;obtain ⟨s3,s4⟩:=sub Fm (by omega) zx;have inner:=XE (P:=P) (w:=w) (n:=n) (o:=i) s2 s4 s1 s3 gs.toList 0 nJ (by simpa using g1);have heq:(Op.equalIn (n+2) f.type (.agg (xs.extract i (i+l1.length))) (.agg (ys.extract i (i+l1.length)))).run P w = .ok b1 w:=by
          rw [run_equalIn_struct w (n+1) f.type _ _ (by rw [xn];exact qe) iF.1,xn];exact inner
         simp only [Op.eqFields,mg,ne_eq,Nk,bV,Sem.run_bind,pt,heq,Result.andThen_ok];cases b1
         ·simp [g3]
         ·simp [ih,g3]
        ·cases mf
       ·cases mf
      ·cases mf
    ·cases hf
  ·cases hf
theorem Yb {t:TypeId} {fl:List Fl} (h:BH P t=some fl):∃fs,P.underlying t=some (.struct fs)∧P.stoodInHeld t=false∧P.eqGuardType P.depth t=false∧zf P 0 fs.toList=some fl:=by
 unfold BH at h;split at h
 ·rename_i fs hu;split at h
  ·rename_i hc;exact ⟨fs,hu,hc.1,hc.2,h⟩
  ·cases h
 ·cases h
theorem sf {t:TypeId} {u v:Value} {b:Bool} (h:∀n,(Op.equalIn (n+1) t u v).run P w = .ok b w):(Op.equal t u v).run P w = .ok b w:=h 9999
theorem XF {t:TypeId} (h:P.underlying t=some .bool) (x y:Bool):(Op.equal t (.bool x) (.bool y)).run P w = .ok (x==y) w:=
 sf fun n=>run_equalIn_bool' w n t x y h
def Ny (P:Program) (t:TypeId):TC→Prop
 | .other=>True
 | .bool=>P.underlying t=some .bool
 | .struct fl=>BH P t=some fl
 | .ptr=>∃e,P.underlying t=some (.pointer e)
 | .slice=>∃e,P.underlying t=some (.slice e)
 | .func=>∃x y z,P.underlying t=some (.func x y z)
 | .iface=>∃m,P.underlying t=some (.interface m)
theorem afA {op:BinOp} {t:TypeId} {y:Operand} {tc:TC} (h:IA P op t y=some tc):Ny P t tc∧(tc = .iface→xE y=true):=by
 have go : (match P.underlying t with
   | some (.int _) => some TC.other
   | some .string => some .other
   | some .bool => some .bool
   | some (.struct _) => (BH P t).map .struct
   | some (.pointer _) => some .ptr
   | some (.slice _) => some .slice
   | some (.func _ _ _) => some .func
   | some (.interface _) => if xE y then some .iface else none
   | _ => none) = some tc → Ny P t tc ∧ (tc = .iface → xE y = true) := by
  intro h;split at h
  ·cases h;exact ⟨trivial,by simp⟩
  ·cases h;exact ⟨trivial,by simp⟩
  ·rename_i hu;cases h;exact ⟨hu,by simp⟩
  ·cases hf:BH P t with
   | none=>simp [hf] at h
   | some fl=>simp only [hf,fe,aj] at h;subst h;exact ⟨hf,by simp⟩
  ·rename_i e hu;cases h;exact ⟨⟨e,hu⟩,by simp⟩
  ·rename_i e hu;cases h;exact ⟨⟨e,hu⟩,by simp⟩
  ·rename_i x y z hu;cases h;exact ⟨⟨_,_,_,hu⟩,by simp⟩
  ·rename_i m hu;split at h
   ·rename_i hc;cases h;exact ⟨⟨m,hu⟩,fun _=>hc⟩
   ·cases h
  ·cases h
 unfold IA at h;cases op<;>first
  | exact go h
  | (cases h;exact ⟨trivial,by simp⟩)
theorem ZK {γ:Key→Nat} {k k2:Key} {j j2:Nat} {t:TypeId} {tc:TC} {c0 c:C} {u v:Value} {b:Bool} (ht:Ny P t tc) (h0:jK tc c0=some true) (h:jK tc c=some b) (hc:aF nm w L γ k j c u) (xh:aF nm w L γ k2 j2 c0 v) :
  ((binOp .eql t u v).run P w = .ok (.bool b) w∧(binOp .neq t u v).run P w = .ok (.bool !b) w)∧(∀p q,u = .agg p→v = .agg q→False)∧(tc≠.iface→v≠.nilIface):=by
 have two:(Op.equal t u v).run P w = .ok b w→(binOp .eql t u v=do pure (.bool (←Op.equal t u v)))→(binOp .neq t u v=do pure (.bool (!(←Op.equal t u v))))→
  ((binOp .eql t u v).run P w = .ok (.bool b) w∧(binOp .neq t u v).run P w = .ok (.bool !b) w):=fun h1 h2 h3=>⟨by rw [h2];simp [h1],by rw [h3];simp [h1]⟩
 cases tc with
 | other=>simp [jK] at h0
 | bool=>simp [jK] at h0
 | struct fl=>simp [jK] at h0
 | ptr=>
  obtain ⟨e,ht⟩:=ht;cases c0<;>simp [jK] at h0;cases xh;cases c<;>simp [jK] at h
  ·subst h;cases hc with
   | ptr hv=>
    obtain ⟨ad,rfl⟩:=hv;exact ⟨two (sf fun n=>by simp [Op.equalIn,run_underlying ht]) rfl rfl,(fun p q e _=>by cases e),(fun _ e=>by cases e)⟩
  ·subst h;cases hc;exact ⟨two (sf fun n=>by simp [Op.equalIn,run_underlying ht]) rfl rfl,(fun p q e _=>by cases e),(fun _ e=>by cases e)⟩
 | func=>
  obtain ⟨e1,e2,e3,ht⟩:=ht;have i1:∀(c:C) (b:Bool),jK .func c=some b→(c = .eW∧b=true)∨(∃f x y,c = .fn f x y∧f < kN∧b=false):=by
   intro c b h;cases c with
   | eW=>simp only [jK,aj] at h;exact .inl ⟨rfl,h.symm⟩
   | fn f x y=>
    simp only [jK] at h;cases hf:zS f with
    | true=>simp only [hf,aj] at h;exact .inr ⟨_,_,_,rfl,JT hf,h.symm⟩
    | false=>simp [hf] at h
   | _=>simp [jK] at h
  rcases i1 _ _ h0 with ⟨rfl,_⟩ | ⟨_,_,_,_,_,h⟩
  ·cases xh;rcases i1 _ _ h with ⟨rfl,rfl⟩ | ⟨f,x,y,rfl,jH,rfl⟩
   ·cases hc;exact ⟨two (sf fun n=>by simp [Op.equalIn,run_underlying ht]) rfl rfl,(fun p q e _=>by cases e),(fun _ e=>by cases e)⟩
   ·cases hc with
    | fn=>exact ⟨two (sf fun n=>by simp [Op.equalIn,run_underlying ht]) rfl rfl,(fun p q e _=>by cases e),(fun _ e=>by cases e)⟩
    | fns val hf=>exfalso;rcases hf with ⟨h,_⟩ | ⟨h,_⟩<;>omega
  ·cases h
 | iface=>
  obtain ⟨e1,ht⟩:=ht;cases c0<;>simp [jK] at h0;cases xh;cases c<;>simp [jK] at h
  ·subst h;cases hc;exact ⟨two (sf fun n=>by simp [Op.equalIn,run_underlying ht]) rfl rfl,(fun p q e _=>by cases e),(fun h=>absurd rfl h)⟩
  ·subst h;cases hc;exact ⟨two (sf fun n=>by simp [Op.equalIn,run_underlying ht]) rfl rfl,(fun p q e _=>by cases e),(fun h=>absurd rfl h)⟩
 | slice=>
  obtain ⟨e1,ht⟩:=ht;have inv:∀{c:C} {b:Bool},jK .slice c=some b→(∃sz rows,c = .d (.sl (.im true) sz rows)∧b=true)∨(∃sz rows,c = .d (.sl (.im false) sz rows)∧b=false)∨(∃pl g sz off len,c = .view pl g sz off len∧b=false):=by
   intro c b h;cases c with
   | d x=>
    cases x with
    | sl t sz rows=>
     cases t with
     | im b'=>
      simp only [jK,aj] at h;subst h;cases b' with
      | true=>exact .inl ⟨sz,rows,rfl,rfl⟩
      | false=>exact .inr (.inl ⟨sz,rows,rfl,rfl⟩)
     | own=>simp [jK] at h
    | _=>simp [jK] at h
   | view=>simp only [jK,aj] at h;exact .inr (.inr ⟨_,_,_,_,_,rfl,h.symm⟩)
   | _=>simp [jK] at h
  rcases inv h0 with ⟨pL,qD,rfl,_⟩ | ⟨_,_,_,h1⟩ | ⟨_,_,_,_,_,_,h1⟩
  ·cases xh with
   | d E6=>
    cases E6 with
    | plain E6=>
     cases E6;rcases inv h with ⟨MH,acI,rfl,rfl⟩ | ⟨MH,acI,rfl,rfl⟩ | ⟨pl,g,MH,off,len,rfl,rfl⟩
     ·cases hc with
      | d hd=>
       cases hd with
       | plain hd=>
        cases hd;exact ⟨two (sf fun n=>by simp [Op.equalIn,run_underlying ht]) rfl rfl,(fun p q e _=>by cases e),(fun _ e=>by cases e)⟩
     ·cases hc with
      | d hd=>
       cases hd with
       | plain hd=>
        cases hd with
        | mB=>exact ⟨two (sf fun n=>by simp [Op.equalIn,run_underlying ht]) rfl rfl,(fun p q e _=>by cases e),(fun _ e=>by cases e)⟩
        | pl=>exact ⟨two (sf fun n=>by simp [Op.equalIn,run_underlying ht]) rfl rfl,(fun p q e _=>by cases e),(fun _ e=>by cases e)⟩
     ·cases hc with
      | view hv=>
       obtain ⟨b,c,rfl,_,hb⟩:=hv;obtain ⟨ad,rfl⟩:=yI.1 hb;exact ⟨two (sf fun n=>by simp [Op.equalIn,run_underlying ht]) rfl rfl,(fun p q e _=>by cases e),(fun _ e=>by cases e)⟩
  ·cases h1
  ·cases h1
theorem ahZ (R:Rel nm N S a w L) (hd:∀d,o.dst=some d→d < N) {x y:Operand} {X Y:ax.X} {op:BinOp} {t yt:TypeId} {tc:TC} (hx:bR nm X x) (hy:bR nm Y y) (ho:o.op = .binOp op t x y yt) (vH:IA P op t y=some tc)
  (hr:(bp Cl d (.bin tc op X Y)).run S=some r):dw P a w o (dP nm N S w L a o.dst r.1 r.2):=by
 simp only [bp] at hr;obtain ⟨v1,h1,eU⟩:=Q.aK hr;clear hr;obtain ⟨v2,h3,hr⟩:=Q.aK eU;clear eU;obtain ⟨z,hz,h2⟩:=Q.gA hr;clear hr;obtain rfl:=Q.aY h2;clear h2;have r1:=rd_val R hx h1;have r2:=rd_val R hy h3;obtain ⟨Zx,YV⟩:=afA vH;clear vH;have vH:=Zx;clear Zx;have done:∀{v:Value},(eqGuard op t x y (a.eval x) (a.eval y)).run P w = .ok () w→(binOp op t (a.eval x) (a.eval y)).run P w = .ok v w→fK w L z v→dw P a w o (dP nm N S w L a o.dst (.one (.d z)) []):=
  fun hg hb hp=>fk R hd (aiw ho hg hb) (.one (.d (.plain hp)))
 unfold r6 at hz;split at hz
 ·
  rename_i k n k' n';have e1:=r1.cQ.q7;have e2:=r2.cQ.q7;have hg:(eqGuard op t x y (a.eval x) (a.eval y)).run P w = .ok () w:=EC (by rw [e1];simp) (by rw [e1];simp);split at hz
  ·obtain ⟨v,g1,g2⟩:=adj (P:=P) (w:=w) (L:=L) (.inl rfl) (k':=k') (t:=t) hz;exact done hg (by rw [e1,e2];exact g1) g2
  ·obtain ⟨v,g1,g2⟩:=adj (P:=P) (w:=w) (L:=L) (.inr rfl) (k':=k') (t:=t) hz;exact done hg (by rw [e1,e2];exact g1) g2
  ·rename_i mf vB;split at hz
   ·rename_i hk;subst hk;obtain ⟨v,g1,g2⟩:=aj5 (P:=P) (w:=w) (L:=L) (t:=t) hz (fun e=>mf e) (fun e=>vB e);exact done hg (by rw [e1,e2];exact g1) g2
   ·cases hz
 ·
  have e1:=r1.cQ.rE;have e2:=r2.cQ.rE;obtain ⟨v,g1,g2⟩:=apP (P:=P) (w:=w) (L:=L) (t:=t) hz;exact done (EC (by rw [e1];simp) (by rw [e1];simp)) (by rw [e1,e2];exact g1) g2
 ·
  have e1:=r1.cQ.r7;have e2:=r2.cQ.r7;have hg:(eqGuard op t x y (a.eval x) (a.eval y)).run P w = .ok () w:=EC (by rw [e1];simp) (by rw [e1];simp);split at hz
  ·cases hz;exact done hg (v:=.bool _) (by rw [e1,e2];simp [binOp,XF vH]) .bool
  ·cases hz;exact done hg (v:=.bool _) (by rw [e1,e2];simp [binOp,XF vH]) .bool
  ·cases hz
 ·
  rename_i cs ds;obtain ⟨xs,e1,jI,dF⟩:=r1.NC;obtain ⟨ys,e2,dX,gC⟩:=r2.NC;split at hz
  ·rename_i fl;obtain ⟨fs,hu,hs,sB,hf⟩:=Yb vH;cases hb:dy fl cs ds with
   | none=>simp [hb] at hz
   | some b=>
    simp only [hb,fe,aj] at hz;subst hz;have xn:P.fieldsOf t=fs:=by simp [Program.fieldsOf,hu]
    have h0:=IS (P:=P) (w:=w) (n:=9997) dF gC jI dX fs.toList 0 hf (by simpa using hb);have he:(Op.equalIn 10000 t (.agg xs) (.agg ys)).run P w = .ok b w:=by
     rw [run_equalIn_struct w 9999 t xs ys (by rw [xn];exact hu) hs,xn];exact h0
    refine done (v:=.bool b) (by rw [e1,e2];exact run_eqGuard_agg w _ t x y xs ys sB) ?_ .bool;rw [e1,e2,run_eql_struct,he];rfl
  ·rename_i fl;obtain ⟨fs,hu,hs,sB,hf⟩:=Yb vH;cases hb:dy fl cs ds with
   | none=>simp [hb] at hz
   | some b=>
    simp only [hb,fe,aj] at hz;subst hz;have xn:P.fieldsOf t=fs:=by simp [Program.fieldsOf,hu]
    have h0:=IS (P:=P) (w:=w) (n:=9997) dF gC jI dX fs.toList 0 hf (by simpa using hb);have he:(Op.equalIn 10000 t (.agg xs) (.agg ys)).run P w = .ok b w:=by
     rw [run_equalIn_struct w 9999 t xs ys (by rw [xn];exact hu) hs,xn];exact h0
    refine done (v:=.bool !b) (by rw [e1,e2];exact run_eqGuard_agg w _ t x y xs ys sB) ?_ .bool;rw [e1,e2,run_neq_struct,he];rfl
  ·cases hz
 ·
  rename_i c c0 _ _ _;split at hz
  ·rename_i mh;split at hz
   ·cases hb:jK tc c with
    | none=>simp [hb] at hz
    | some b=>
     simp only [hb,fe,aj] at hz;subst hz;obtain ⟨g1,g2,g3⟩:=ZK (P:=P) vH mh hb r1.cQ r2.cQ;exact done (v:=.bool b) (EC g2 (fun _ hv=>.inr (YV (UE fun aB=>g3 aB hv)))) g1.1 .bool
   ·cases hb:jK tc c with
    | none=>simp [hb] at hz
    | some b=>
     simp only [hb,fe,aj] at hz;subst hz;obtain ⟨g1,g2,g3⟩:=ZK (P:=P) vH mh hb r1.cQ r2.cQ;exact done (v:=.bool !b) (EC g2 (fun _ hv=>.inr (YV (UE fun aB=>g3 aB hv)))) g1.2 .bool
   ·cases hz
  ·cases hz
 ·cases hz
end
end
end Go.ax
