/- A part of the proof. -/
import Derived.Test.YtfmpdgeiodnnfaaGreatDoorB0
import Derived.Laws.IdiomCopy
import Derived.Laws.AppendOwn
import GoSem.Core.Program
import GoSem.Core.Region
import GoSem.Core.Check
import GoSem.Core.Layout
import GoSem.Op.Equal
import Derived.Laws.Strings
import Derived.Laws.StructEq
set_option linter.all false
namespace Go.ax
section
section
variable {nm:FuncId→Option Nat} {N:Nat} {S0:St} {w0:World} {L0:aw} {ws:List Wr} {a:Act} {w:World} {L:aw}
def oW (k:Key) (m j:Nat):Place→Option Place:=fun q=>
 if q.k = .h m∧q.j=j then some ⟨k,0,q.p⟩ else if q.k=k then none else some q
theorem adO {k:Key} {m j:Nat} {q:Place} (h1:¬ (q.k = .h m∧q.j=j)) (h2:q.k≠k):oW k m j q=some q:=by
 simp only [oW];rw [aB h1,aB h2]
theorem ap6 {k:Key} {m j:Nat} {q:Place} (h1:q.k = .h m∧q.j=j):oW k m j q=some ⟨k,0,q.p⟩:=by
 simp only [oW];rw [aJ h1]
theorem ap4 {k:Key} {m j:Nat} {q t:Place} (h:oW k m j q=some t) (h2:t.k≠k):q=t∧¬ (q.k = .h m∧q.j=j):=by
 simp only [oW] at h;split at h
 ·simp only [ai] at h;exact absurd (by rw [←h]) h2
 ·rename_i h1;split at h
  ·cases h
  ·simp only [ai] at h;exact ⟨h,h1⟩
theorem ap5 {k:Key} {m j:Nat} {q q' t:Place} (h1:oW k m j q=some t) (h2:oW k m j q'=some t):q=q':=by
 simp only [oW] at h1 h2;split at h1
 ·rename_i a1;simp only [ai] at h1;split at h2
  ·rename_i a2;simp only [ai] at h2;rw [←h1] at h2;simp only [Place.mk.injEq,lh] at h2;cases q;cases q';simp_all
  ·split at h2
   ·cases h2
   ·rename_i a3;simp only [ai] at h2;exact absurd (by rw [h2,←h1]) a3
 ·split at h1
  ·cases h1
  ·rename_i a3;simp only [ai] at h1;split at h2
   ·simp only [ai] at h2;exact absurd (by rw [h1,←h2]) a3
   ·split at h2
    ·cases h2
    ·simp only [ai] at h2;rw [h1,h2]
theorem Rel.V2 {S:St} (h:Rel nm N S a w L) {m j:Nat} {r:aI} {B o c:Nat} {x:C} {v:Value} (hB:L B=some (.box r o)) (hc:c < cj (S.E (.r r)))
  (hr:r.iU=false) (hx:aG nm w L S.γ (.h m) j x v) :
  ∃L',Rel nm N (S.wr { k:=.b r c,v:=.one x }) a (w.setCell ⟨B,o+c,none⟩ v) L'∧
   pd w (w.setCell ⟨B,o+c,none⟩ v) L L' S.γ (S.wr { k:=.b r c,v:=.one x }).γ (fun q=>¬ (q.k = .h m∧q.j=j))∧
   dc w (w.setCell ⟨B,o+c,none⟩ v) L L'∧L' B=some (.box r o)∧(∀B q o,q.k.aT=false→L' B=some (.row q o)→L B=some (.row q o)):=by
 obtain ⟨B',o',cur,e,fz,h1,h2,h3,h4⟩:=h.room r hr (by omega);obtain rfl:=h.fB B' B r o' o h1 hB;obtain rfl:o'=o:=by rw [h1] at hB;simpa using hB
 have az:∀{B2 l},L B2=some l→(∀r o,l≠.box r o)→(w.setCell ⟨B',o'+c,none⟩ v).heap[B2]? = w.heap[B2]?:=by
  intro B2 l hl ql;refine pz _ _ _ _ ?_;rintro rfl;rw [hB] at hl;simp only [ai] at hl;exact ql _ _ hl.symm
 have Zk:∀{q:Place},q.k.aT=true→q.k≠.b r c→oW (.b r c) m j q=some q:=fun hq hk=>
  adO (fun h=>by rw [h.1] at hq;simp [Key.aT] at hq) hk
 have bp:Step w (w.setCell ⟨B',o'+c,none⟩ v) L (cG (oW (.b r c) m j) L) S.γ (S.wr { k:=.b r c,v:=.one x }).γ:=by
  refine ⟨fun B hB=>⟨jL.2 hB,az hB (by simp)⟩,S.pZ _,?_,fun B q o _ _ _ hB=>az hB (by simp),fun B r o _ hB=>jv.2 hB⟩;intro B q o hq hγ hL;rw [DY] at hγ;exact ⟨gL hL (Zk hq (Ei hγ)),fun cur e fz hB=>⟨cur,(az hL (by simp)).trans hB,rfl⟩⟩
 refine ⟨cG (oW (.b r c) m j) L,?_,⟨bp,?_⟩,?_,jv.2 hB,?_⟩
 ·refine h.write { k:=.b r c,v:=.one x } rfl h.defers (fun _ _=>rfl) bp ?_ ?_ ?_ ?_ ?_ ?_
  ·intro B q o hq FA hL;exact ⟨gL hL (Zk FA hq),az hL (by simp)⟩
  ·intro B2 r2 o2 _ hL;refine ⟨jv.2 hL,fun iD e2 ll py=>?_⟩;by_cases he:B2=B'
   ·subst he;rw [hB] at hL;simp only [ai,bO.box.injEq] at hL;obtain ⟨rfl,rfl⟩:=hL;refine ⟨iD.setIfInBounds (o'+c) v,xi w B2 _ v py,by simp,?_⟩;intro c' lM;rw [yw];intro e;exact lM (by rw [show c=c' by omega])
   ·exact ⟨iD,(pz _ _ _ _ he).trans py,rfl,fun _ _=>rfl⟩
  ·refine ⟨x,rfl,fun gg=>⟨hc,?_⟩⟩;have kP:aG nm (w.setCell ⟨B',o'+c,none⟩ v) (cG (oW (.b r c) m j) L) (S.wr { k:=.b r c,v:=.one x }).γ (.b r c) 0 x v:=by
    refine hx.step bp ?_;intro B q o h1 h2 hL;exact ⟨gL hL (ap6 ⟨h1,h2⟩),az hL (by simp)⟩
   have hex:∃B o cur e fz v',cG (oW (.b r c) m j) L B=some (.box r o)∧(w.setCell ⟨B',o'+c,none⟩ v).heap[B]? = some (.cells cur e fz)∧jA cur.size fz∧cur[o+c]? = some v'∧
     aG nm (w.setCell ⟨B',o'+c,none⟩ v) (cG (oW (.b r c) m j) L) (S.wr { k:=.b r c,v:=.one x }).γ (.b r c) 0 x v'∧lK x B o c e cur.size v':=by
    refine ⟨B',o',_,e,fz,v,jv.2 hB,xi w B' _ v h2,by simpa using h3,?_,kP,.of hx.LC⟩;simp only [wK,bW];rw [aJ (by omega)]
   cases r with
   | g i=>exact ⟨v,kP⟩
   | e i=>exact hex
   | l i=>exact hex
  ·intro B2 l hl;obtain ⟨l0,h0⟩:=G2 hl;have:=h.fu B2 l0 h0;simpa using this
  ·exact G3 h.eN (fun q q' t B B' o o' h1 h2 _ _=>ap5 h1 h2)
  ·intro B1 B2 r1 o1 o2 g1 g2;exact h.fB B1 B2 r1 o1 o2 (jv.1 g1) (jv.1 g2)
 ·intro B q o hq hK hL;refine ⟨gL hL (adO hK (fun e=>?_)),az hL (by simp)⟩;rw [e] at hq;simp [Key.aT] at hq
 ·refine ⟨rfl,rfl,rfl,by simp,fun B hB=>⟨jL.2 hB,az hB (by simp)⟩,?_,fun B i o hB=>jv.2 hB⟩;intro B2 _ hn;refine ⟨Mr hn,pz _ _ _ _ ?_⟩;rintro rfl;rw [hB] at hn;cases hn
 ·intro B2 q o hq hL;obtain ⟨q0,g1,g2⟩:=oS hL;have:=(ap4 g2 (fun e=>by rw [e] at hq;simp [Key.aT] at hq)).1;rwa [this] at g1
theorem pd.trans {w1 w2 w3:World} {L1 L2 L3:aw} {γ1 γ2 γ3:Key→Nat} {K:Place→Prop} (h:pd w1 w2 L1 L2 γ1 γ2 K) (k:pd w2 w3 L2 L3 γ2 γ3 K):pd w1 w3 L1 L3 γ1 γ3 K:=
 ⟨h.dh.trans k.dh,fun B q o h1 h2 h3=>⟨(k.h B q o h1 h2 (h.h B q o h1 h2 h3).1).1,(k.h B q o h1 h2 (h.h B q o h1 h2 h3).1).2.trans (h.h B q o h1 h2 h3).2⟩⟩
theorem pd.weaken {w1 w2:World} {L1 L2:aw} {γ1 γ2:Key→Nat} {K K':Place→Prop} (h:pd w1 w2 L1 L2 γ1 γ2 K) (hK:∀q,K' q→K q):pd w1 w2 L1 L2 γ1 γ2 K':=
 ⟨h.dh,fun B q o h1 h2 h3=>h.h B q o h1 (hK q h2) h3⟩
theorem Rel.V4 {m:Nat} {r:aI} (hr:r.iU=false) {B o:Nat}:∀(cs:List C) (vs:List Value) (j0 c0:Nat) {S:St} {ws:List Wr} {w:World} {L:aw} (h:Rel nm N (S.ah ws) a w L)
  (hB:L B=some (.box r o)) (hl:cs.length=vs.length) (hc:c0+cs.length≤cj ((S.ah ws).E (.r r)))
  (hx:∀j x v,cs[j]? = some x→vs[j]? = some v→aG nm w L (S.ah ws).γ (.h m) (j0+j) x v),
  ∃L',Rel nm N (S.ah (gf r c0 cs ws)) a (w.setCells B (o+c0) vs) L'∧dc w (w.setCells B (o+c0) vs) L L'∧L' B=some (.box r o)∧
   (∀B q o,q.k.aT=false→L' B=some (.row q o)→L B=some (.row q o))
 | [],vs,j0,c0,S,ws,w,L,h,hB,hl,hc,hx=>by
  have:vs=[]:=by simpa using hl.symm
  subst this;exact ⟨L,h,dc.refl _ _,hB,fun _ _ _ _ h=>h⟩
 | x::cs,[],j0,c0,S,ws,w,L,h,hB,hl,hc,hx=>by simp at hl
 | x::cs,v::vs,j0,c0,S,ws,w,L,h,hB,hl,hc,hx=>by
  simp only [gk] at hc hl;obtain ⟨L1,h1,k1,m1,b1,f1⟩:=h.V2 hB (c:=c0) (by omega) hr (hx 0 x v rfl rfl);have hE:((S.ah ({ k:=.b r c0,v:=.one x } :: ws)).E (.r r))=(S.ah ws).E (.r r):=by
   simp only [St.ah,St.ia];simp
  obtain ⟨L2, h2, m2, b2, f2⟩ := Rel.V4 hr cs vs (j0 + 1) (c0 + 1) (S := S) (ws := { k := .b r c0, v := .one x } :: ws) h1 b1 (by omega) (by rw [hE]; omega) (by
    intro j y u hy hu
    have := (hx (j + 1) y u (by simpa using hy) (by simpa using hu)).keep k1 (fun p => by simp)
    rwa [show j0 + 1 + j = j0 + (j + 1) by omega])
  refine ⟨L2,h2,m1.trans m2,b2,fun B q o hq hL=>f1 B q o hq (f2 B q o hq hL)⟩
theorem Bj (S:St) (r:aI):∀(cs:List C) (c0:Nat) (ws:List Wr) (k:Key),
  (∀c x,k = .b r (c0+c)→cs[c]? = some x→(S.ah (gf r c0 cs ws)).E k = .one x)∧
  ((∀c,c < cs.length→k≠.b r (c0+c))→(S.ah (gf r c0 cs ws)).E k=(S.ah ws).E k∧(S.ah (gf r c0 cs ws)).γ k=(S.ah ws).γ k)∧
  (∀c,c < cs.length→k = .b r (c0+c)→(S.ah ws).γ k < (S.ah (gf r c0 cs ws)).γ k)∧(S.ah ws).γ k≤(S.ah (gf r c0 cs ws)).γ k
 | [],c0,ws,k=>⟨fun c x _ h=>by simp at h,fun _=>⟨rfl,rfl⟩,fun c h=>by simp at h,bT _⟩
 | x::cs,c0,ws,k=>by
  obtain ⟨h1,h2,h3,h4⟩:=Bj S r cs (c0+1) ({ k:=.b r c0,v:=.one x } :: ws) k;have hle:(S.ah ws).γ k≤(S.ah ({ k:=.b r c0,v:=.one x } :: ws)).γ k:=St.pZ _ _ k;simp only [gf];refine ⟨?_,?_,?_,jd hle h4⟩
  ·intro c y hk hy;cases c with
   | zero=>
    simp only [kC,ai] at hy;subst hy;rw [(h2 (fun c' _ e=>by rw [hk] at e;simp only [Key.b.injEq,lh] at e;omega)).1];simp only [St.ah,St.ia,hk,jC,bW]
   | succ c=>exact h1 c y (by rw [hk,show c0+(c+1)=c0+1+c by omega]) (by simpa using hy)
  ·intro az;obtain ⟨g1,g2⟩:=h2 (fun c hc e=>az (c+1) (by simpa using hc) (by rw [e,show c0+(c+1)=c0+1+c by omega]));have h0:(Key.b r c0)≠k:=fun e=>az 0 (by simp) (by rw [←e];rfl)
   rw [g1,g2];simp only [St.ah,St.ia,St.jS,h0,dE];trivial
  ·intro c hc hk;cases c with
   | zero=>
    refine HK ?_ h4;simp only [St.ah,St.jS,hk,jC,bW];simp
   | succ c=>
    exact U2 hle (h3 c (by simpa using hc) (by rw [hk,show c0+(c+1)=c0+1+c by omega]))
def wz (r:aI) (n m:Nat):Place→Option Place:=fun q=>
 if q.k = .h m then (if q.j < n then some ⟨.b r q.j,0,q.p⟩ else none)
 else match q.k with
  | .b r' c=>if r'=r∧c < n then none else some q
  | .s _=>some q
  | _=>none
theorem T1 {r:aI} {n m:Nat} {q t:Place} (h:wz r n m q=some t):(q.k = .h m∧q.j < n∧t=⟨.b r q.j,0,q.p⟩)∨(q.k.aT=true∧t=q∧∀c,c < n→q.k≠.b r c):=by
 unfold wz at h;split at h
 ·rename_i h1;split at h
  ·rename_i h2;simp only [ai] at h;exact .inl ⟨h1,h2,h.symm⟩
  ·cases h
 ·rename_i h1;split at h
  ·rename_i r' c hk;split at h
   ·cases h
   ·rename_i h2;simp only [ai] at h;refine .inr ⟨by rw [hk];rfl,h.symm,?_⟩;intro c' lM e;rw [hk] at e;simp only [Key.b.injEq] at e;exact h2 ⟨e.1,by omega⟩
  ·rename_i i hk;simp only [ai] at h;exact .inr ⟨by rw [hk];rfl,h.symm,fun c _ e=>by rw [hk] at e;cases e⟩
  ·cases h
theorem T2 {r:aI} {n m:Nat} {q:Place} (h:q.k.aT=true) (hn:∀c,c < n→q.k≠.b r c):wz r n m q=some q:=by
 unfold wz;rw [aB (fun e=>by rw [e] at h;simp [Key.aT] at h)];obtain ⟨k,i,p⟩:=q;cases k with
 | s i=>rfl
 | b r' c=>
  simp only;rw [aB];rintro ⟨rfl,hc⟩;exact hn c hc rfl
 | _=>simp [Key.aT] at h
theorem ap3 {r:aI} {n m:Nat} {q:Place} (h:q.k = .h m) (hj:q.j < n):wz r n m q=some ⟨.b r q.j,0,q.p⟩:=by
 unfold wz;rw [aJ h,aJ hj]
def kG (r:aI) (n m:Nat) (w:World) (L:aw):aw:=fun B=>
 if B=w.heap.size then some (.box r 0) else
 match L B with
 | some (.box r' o)=>if r'=r then none else some (.box r' o)
 | _=>cG (wz r n m) L B
theorem yO {r:aI} {n m:Nat}:kG r n m w L w.heap.size=some (.box r 0):=by simp [kG]
theorem Ih {r:aI} {n m B o:Nat} {q q':Place} (az:B≠w.heap.size) (h:L B=some (.row q o)) (hf:wz r n m q=some q'):kG r n m w L B=some (.row q' o):=by
 unfold kG;rw [aB az];simp only [h];exact gL h hf
theorem VZ {r:aI} {n m B:Nat} (az:B≠w.heap.size) (h:L B=some .bh):kG r n m w L B=some .bh:=by
 unfold kG;rw [aB az];simp only [h];exact jL.2 h
theorem aff {r:aI} {n m B:Nat} (az:B≠w.heap.size) (h:L B=none):kG r n m w L B=none:=by
 unfold kG;rw [aB az];simp only [h];exact Mr h
theorem Ig {r:aI} {n m B o:Nat} {r':aI} (az:B≠w.heap.size) (h:L B=some (.box r' o)) (hr:r'≠r):kG r n m w L B=some (.box r' o):=by
 unfold kG;rw [aB az];simp only [h,hr,dE]
theorem yN {r:aI} {n m B:Nat} {l:bO} (h:kG r n m w L B=some l):(B=w.heap.size∧l = .box r 0)∨
  (B≠w.heap.size∧((l = .bh∧L B=some .bh)∨(∃r' o,l = .box r' o∧r'≠r∧L B=some (.box r' o))∨∃q q' o,l = .row q' o∧L B=some (.row q o)∧wz r n m q=some q')):=by
 unfold kG at h;split at h
 ·rename_i he;simp only [ai] at h;exact .inl ⟨he,h.symm⟩
 ·rename_i he;refine .inr ⟨he,?_⟩;split at h
  ·rename_i r' o hL;split at h
   ·cases h
   ·rename_i hr;simp only [ai] at h;exact .inr (.inl ⟨r',o,h.symm,hr,hL⟩)
  ·rename_i ql;cases l with
   | bh=>exact .inl ⟨rfl,jL.1 h⟩
   | row q o=>obtain ⟨q0,g1,g2⟩:=oS h;exact .inr (.inr ⟨q0,q,o,rfl,g1,g2⟩)
   | box r' o=>exact absurd (jv.1 h) (ql r' o)
theorem qQ (n:Nat):cj (fx n)=n:=by simp [cj,fx]
theorem Rel.sV {S:St} {ws:List Wr} (h:Rel nm N (S.ah ws) a w L) {m:Nat} {r:aI} {cs:List C} {vs:Array Value} {e:TypeId} (hr:r.iU=false) (xr:∀i,r≠.e i)
  (hl:cs.length=vs.size) (hn:cj ((S.ah ws).E (.r r))=0∨cj ((S.ah ws).E (.r r))=cs.length)
  (hx:∀(j:Nat) x v,cs[j]? = some x→vs[j]? = some v→aG nm w L (S.ah ws).γ (.h m) j x v) :
  Rel nm N (S.ah (gf r 0 cs ({ k:=.r r,v:=fx cs.length } :: ws))) a (w.alloc (.cells vs e)) (kG r cs.length m w L)∧
   dc w (w.alloc (.cells vs e)) L (kG r cs.length m w L)∧eJ (kG r cs.length m w L):=by
 have B9:=h.fu.new;have af:∀{B l},L B=some l→B≠w.heap.size:=fun {B l} hB e=>by rw [e,B9] at hB;cases hB
 have eh:∀{B l},L B=some l→(w.alloc (.cells vs e)).heap[B]? = w.heap[B]?:=fun hB=>mW w _ (af hB)
 have hw:=fun k=>Bj S r cs 0 ({ k:=.r r,v:=fx cs.length } :: ws) k
 have zk:∀r',(S.ah (gf r 0 cs ({ k:=.r r,v:=fx cs.length } :: ws))).E (.r r')=if r=r' then fx cs.length else (S.ah ws).E (.r r'):=by
  intro r';rw [((hw (.r r')).2.1 (fun c _ e=>by cases e)).1];simp only [St.ah,St.ia,Key.r.injEq]
 have hEs:∀i,(S.ah (gf r 0 cs ({ k:=.r r,v:=fx cs.length } :: ws))).E (.s i)=(S.ah ws).E (.s i):=by
  intro i;rw [((hw (.s i)).2.1 (fun c _ e=>by cases e)).1];simp [St.ah,St.ia]
 have Ja:∀r' c,(r'≠r∨cs.length≤c)→(S.ah (gf r 0 cs ({ k:=.r r,v:=fx cs.length } :: ws))).E (.b r' c)=(S.ah ws).E (.b r' c):=by
  intro r' c hc;rw [((hw (.b r' c)).2.1 (fun c' h1 e=>by simp only [Key.b.injEq] at e;rcases hc with hc | hc;exact hc e.1;omega)).1];simp [St.ah,St.ia]
 have aj7:∀k,(S.ah ws).γ k≤(S.ah (gf r 0 cs ({ k:=.r r,v:=fx cs.length } :: ws))).γ k:=fun k=>
  jd (St.pZ (S.ah ws) { k:=.r r,v:=fx cs.length } k) (hw k).2.2.2
 have hγb:∀c,c < cs.length→(S.ah ws).γ (.b r c) < (S.ah (gf r 0 cs ({ k:=.r r,v:=fx cs.length } :: ws))).γ (.b r c):=fun c hc=>
  U2 (St.pZ (S.ah ws) { k:=.r r,v:=fx cs.length } (.b r c)) ((hw (.b r c)).2.2.1 c hc (by simp))
 have hγr:(S.ah ws).γ (.r r) < (S.ah (gf r 0 cs ({ k:=.r r,v:=fx cs.length } :: ws))).γ (.r r):=by
  refine HK ?_ (hw (.r r)).2.2.2;simp only [St.ah,St.jS,bW];simp
 have bp:Step w (w.alloc (.cells vs e)) L (kG r cs.length m w L) (S.ah ws).γ (S.ah (gf r 0 cs ({ k:=.r r,v:=fx cs.length } :: ws))).γ:=by
  refine ⟨fun B hB=>⟨VZ (af hB) hB,eh hB⟩,aj7,?_,fun B q o _ _ _ hB=>eh hB,?_⟩
  ·intro B q o hq hγ hL;refine ⟨Ih (af hL) hL (T2 hq ?_),fun cur e fz hc=>⟨cur,(eh hL).trans hc,rfl⟩⟩;intro c hc e;rw [e] at hγ;exact absurd hγ (Nat.ne_of_gt (hγb c hc))
  ·intro B r' o hγ hL;refine Ig (af hL) hL ?_;rintro rfl;exact absurd hγ (Nat.ne_of_gt hγr)
 refine ⟨⟨h.size,h.defers,?_,?_,?_,?_,?_,?_,?_,?_⟩,?_,?_⟩
 ·intro i;rw [hEs];refine (h.slot i).step bp ?_;intro B q o hq hL;refine ⟨?_,eh hL⟩;rw [←hq,Place.l9];exact Ih (af hL) hL (T2 (by rw [hq];rfl) (fun c _ e=>by rw [hq] at e;cases e))
 ·intro r' c x hE gg;by_cases hc:r'=r∧c < cs.length
  ·obtain ⟨rfl,hc⟩:=hc;have jY:=(hw (.b r' c)).1 c cs[c] (by simp) (by simp [hc]);rw [hE] at jY;simp only [V.one.injEq] at jY;have kP:aG nm (w.alloc (.cells vs e)) (kG r' cs.length m w L) (S.ah (gf r' 0 cs ({ k:=.r r',v:=fx cs.length } :: ws))).γ (.b r' c) 0 x (vs[c]'(by omega)):=by
    refine (hx c x vs[c] (by rw [jY];simp [hc]) (by simp [←hl,hc])).step bp ?_;intro B q o h1 h2 hL;refine ⟨?_,eh hL⟩;have:=Ih (af hL) hL (ap3 (r:=r') (n:=cs.length) h1 (by rw [h2];exact hc));rwa [h2] at this
   have hex:∃B o cur e' fz v',kG r' cs.length m w L B=some (.box r' o)∧(w.alloc (.cells vs e)).heap[B]? = some (.cells cur e' fz)∧jA cur.size fz∧cur[o+c]? = some v'∧
     aG nm (w.alloc (.cells vs e)) (kG r' cs.length m w L) (S.ah (gf r' 0 cs ({ k:=.r r',v:=fx cs.length } :: ws))).γ (.b r' c) 0 x v'∧lK x B o c e' cur.size v':=
    ⟨w.heap.size,0,vs,e,(0,0),_,yO,oF w _,fun j _=>by simp,by simp [←hl,hc],kP,.of (hx c x vs[c] (by rw [jY];simp [hc]) (by simp [←hl,hc])).LC⟩
   cases r' with
   | g i=>simp [aI.iU] at hr
   | e i=>exact hex
   | l i=>exact hex
  ·rw [Ja r' c (by by_cases h1:r'=r<;>simp_all)] at hE;by_cases dM:r'=r
   ·subst dM;have aS:cs.length≤c:=by simpa using hc
    have:=h.bound r' c (by rcases hn with hn | hn<;>rw [hn]<;>omega);rw [this] at hE;simp only [V.one.injEq] at hE;exact absurd hE.symm gg
   ·refine (h.cell r' c x hE gg).step bp ?_ ?_
    ·intro B q o hq hL;exact ⟨Ih (af hL) hL (T2 (by rw [hq];rfl) (fun c' _ e=>by rw [hq] at e;simp only [Key.b.injEq] at e;exact dM e.1)),eh hL⟩
    ·intro B o hL;exact ⟨Ig (af hL) hL dM,fun cur e fz hc=>⟨cur,(eh hL).trans hc,rfl,rfl⟩⟩
 ·intro r' c;by_cases hc:r'=r∧c < cs.length
  ·obtain ⟨rfl,hc⟩:=hc;exact ⟨cs[c],(hw (.b r' c)).1 c cs[c] (by simp) (by simp [hc])⟩
  ·rw [Ja r' c (by by_cases h1:r'=r<;>simp_all)];exact h.kg r' c
 ·intro r' c hc;rw [zk] at hc;by_cases dM:r=r'
  ·subst dM;simp only [bW,qQ] at hc;rw [Ja r c (.inr hc)];exact h.bound r c (by rcases hn with hn | hn<;>rw [hn]<;>omega)
  ·rw [aB dM] at hc;rw [Ja r' c (.inl (fun e=>dM e.symm))];exact h.bound r' c hc
 ·intro r' hg hb;rw [zk] at hb ⊢;by_cases dM:r=r'
  ·subst dM;simp only [bW,qQ] at hb ⊢;exact ⟨w.heap.size,0,vs,e,(0,0),yO,oF w _,fun j _=>by simp,by omega⟩
  ·rw [aB dM] at hb ⊢;obtain ⟨B,o,cur,e',fz,h1,h2,h3,h4⟩:=h.room r' hg hb;exact ⟨B,o,cur,e',fz,Ig (af h1) h1 (fun e=>dM e.symm),(eh h1).trans h2,h3,h4⟩
 ·intro B l hB;have hz:(w.alloc (.cells vs e)).heap.size=w.heap.size+1:=by simp
  rw [hz];rcases yN hB with ⟨rfl,_⟩ | ⟨az,dA⟩
  ·exact Nat.lt_succ_self _
  ·refine Nat.lt_succ_of_lt ?_;rcases dA with ⟨_,h1⟩ | ⟨r',o,_,_,h1⟩ | ⟨q,q',o,_,h1,_⟩<;>exact h.fu B _ h1
 ·intro B B' pl o o' h1 h2;rcases yN h1 with ⟨_,he⟩ | ⟨_,⟨he,_⟩ | ⟨_,_,he,_⟩ | ⟨q,t,o1,he,g1,g2⟩⟩
  ·cases he
  ·cases he
  ·cases he
  rcases yN h2 with ⟨_,cY⟩ | ⟨_,⟨cY,_⟩ | ⟨_,_,cY,_⟩ | ⟨q',t',mZ,cY,px,ze⟩⟩
  ·cases cY
  ·cases cY
  ·cases cY
  simp only [bO.row.injEq] at he cY;obtain ⟨rfl,rfl⟩:=he;obtain ⟨rfl,rfl⟩:=cY;have:q=q':=by
   rcases T1 g2 with ⟨a1,a4,a2⟩ | ⟨a1,a2,a3⟩<;>rcases T1 ze with ⟨b1,b4,b2⟩ | ⟨b1,b2,b3⟩
   ·rw [a2] at b2;simp only [Place.mk.injEq,Key.b.injEq,lh] at b2;cases q;cases q';simp_all
   ·exact absurd (by rw [←b2,a2]) (b3 q.j a4)
   ·exact absurd (by rw [←a2,b2]) (a3 q'.j b4)
   ·rw [←a2,←b2]
  subst this;exact h.eN B B' q o o' g1 px
 ·intro B B' r' o o' h1 h2;rcases yN h1 with ⟨rfl,he⟩ | ⟨_,⟨he,_⟩ | ⟨r1,o1,he,jX,g1⟩ | ⟨q,t,o1,he,g1,g2⟩⟩
  ·simp only [bO.box.injEq] at he;rcases yN h2 with ⟨rfl,cY⟩ | ⟨_,⟨cY,_⟩ | ⟨GV,mZ,cY,Zo,px⟩ | ⟨q',t',mZ,cY,px,ze⟩⟩
   ·rfl
   ·cases cY
   ·simp only [bO.box.injEq] at cY;exact absurd (cY.1.symm.trans he.1) Zo
   ·cases cY
  ·cases he
  ·simp only [bO.box.injEq] at he;rcases yN h2 with ⟨rfl,cY⟩ | ⟨_,⟨cY,_⟩ | ⟨GV,mZ,cY,Zo,px⟩ | ⟨q',t',mZ,cY,px,ze⟩⟩
   ·simp only [bO.box.injEq] at cY;exact absurd (he.1.symm.trans cY.1) jX
   ·cases cY
   ·simp only [bO.box.injEq] at cY;rw [←he.1] at g1;rw [←cY.1] at px;exact h.fB B B' r' o1 mZ g1 px
   ·cases cY
  ·cases he
 ·refine ⟨rfl,rfl,rfl,by simp,fun B hB=>⟨VZ (af hB) hB,eh hB⟩,?_,fun B i o hB=>Ig (af hB) hB (fun e=>xr i e.symm)⟩;intro B zA hB;have az:B≠w.heap.size:=by omega
  exact ⟨aff az hB,mW w _ az⟩
 ·intro B q o hB;rcases yN hB with ⟨_,he⟩ | ⟨_,⟨he,_⟩ | ⟨_,_,he,_⟩ | ⟨q0,t,o1,he,g1,g2⟩⟩
  ·cases he
  ·cases he
  ·cases he
  ·simp only [bO.row.injEq] at he;obtain ⟨rfl,rfl⟩:=he;rcases T1 g2 with ⟨_,_,rfl⟩ | ⟨h1,rfl,_⟩
   ·rfl
   ·exact h1
end
end
section
section
variable {nm:FuncId→Option Nat} {N:Nat} {S0:St} {w0:World} {L0:aw} {ws:List Wr} {a:Act} {w:World} {L:aw}
theorem V.aps {x:V} {j:Nat} {c:C} (h:x.cells[j]? = some c):x.setCell j c=x:=by
 cases x with
 | one c0=>
  cases j with
  | zero=>simp only [V.cells,kC,ai] at h;simp [V.setCell,h]
  | succ j=>simp [V.cells] at h
 | agg cs=>
  simp only [V.cells] at h;simp only [V.setCell];congr 1;obtain ⟨hj,rfl⟩:=cw.1 h;exact aeN hj
 | aq vs=>simp [V.cells] at h
theorem V.afz {x:V} {j:Nat} {c c':C} (h:x.cells[j]? = some c):(x.setCell j c').cells[j]? = some c':=by
 cases x with
 | one c0=>
  cases j with
  | zero=>simp [V.setCell,V.cells]
  | succ j=>simp [V.cells] at h
 | agg cs=>
  simp only [V.cells] at h;obtain ⟨hj,rfl⟩:=cw.1 h;simp [V.setCell,V.cells,hj]
 | aq vs=>simp [V.cells] at h
open Classical in
noncomputable def mS (t:Place) (m j:Nat) (L:aw):aw:=fun B=>
 match L B with
 | some (.row q o)=>if q.k = .h m∧q.j=j then some (.row (t.app q.p) o) else if bE t q then none else some (.row q o)
 | x=>x
theorem Xy {t:Place} {m j B:Nat}:mS t m j L B=some .bh↔L B=some .bh:=by
 unfold mS;split
 ·rename_i q o hL;rw [hL];split
  ·simp
  ·split<;>simp
 ·rfl
theorem ahG {t:Place} {m j B o:Nat} {r:aI}:mS t m j L B=some (.box r o)↔L B=some (.box r o):=by
 unfold mS;split
 ·rename_i q o' hL;rw [hL];split
  ·simp
  ·split<;>simp
 ·rfl
theorem ahL {t:Place} {m j B:Nat} (h:L B=none):mS t m j L B=none:=by simp [mS,h]
theorem ahH {t:Place} {m j B:Nat} {l:bO} (h:mS t m j L B=some l):∃l0,L B=some l0:=by
 unfold mS at h;split at h
 ·rename_i q o hL;exact ⟨_,hL⟩
 ·exact ⟨_,h⟩
theorem ahJ {t:Place} {m j B o:Nat} {q:Place} (h:L B=some (.row q o)) (h1:¬ (q.k = .h m∧q.j=j)) (h2:¬ bE t q):mS t m j L B=some (.row q o):=by
 simp only [mS,h];rw [aB h1,aB h2]
theorem ahK {t:Place} {m j B o:Nat} {q:Place} (h:L B=some (.row q o)) (h1:q.k = .h m∧q.j=j):mS t m j L B=some (.row (t.app q.p) o):=by
 simp only [mS,h];rw [aJ h1]
theorem OZ {t:Place} {m j B o:Nat} {q:Place} (h:mS t m j L B=some (.row q o)) :
  (∃q0,L B=some (.row q0 o)∧(q0.k = .h m∧q0.j=j)∧q=t.app q0.p)∨(L B=some (.row q o)∧¬ (q.k = .h m∧q.j=j)∧¬ bE t q):=by
 unfold mS at h;split at h
 ·rename_i q0 o0 hL;split at h
  ·rename_i h1;simp only [ai,bO.row.injEq] at h;exact .inl ⟨q0,by rw [hL,h.2],h1,h.1.symm⟩
  ·rename_i h1;split at h
   ·cases h
   ·rename_i h2;simp only [ai,bO.row.injEq] at h;obtain ⟨rfl,rfl⟩:=h;exact .inr ⟨hL,h1,h2⟩
 ·rename_i hn;exact absurd h (hn q o)
theorem ahI {t:Place} {m j:Nat} (h:lZ L):lZ (mS t m j L):=by
 intro B B' pl o o' h1 h2;rcases OZ h1 with ⟨q,a1,a2,a3⟩ | ⟨a1,a2,a3⟩<;>rcases OZ h2 with ⟨q',b1,b2,b3⟩ | ⟨b1,b2,b3⟩
 ·have:=Place.aeY (a3.symm.trans b3);have:q=q':=by cases q;cases q';simp_all
  subst this;exact h B B' q o o' a1 b1
 ·exact absurd ⟨q.p,a3⟩ b3
 ·exact absurd ⟨q'.p,b3⟩ a3
 ·exact h B B' pl o o' a1 b1
theorem aG.Ye {γ:Key→Nat} {k:Key} {j:Nat} {z:D} {v:Value} (h:aG nm w L γ k j (.d z) v) (hf:z.flat=true):fM w L z v:=by
 cases h with
 | d h=>
  cases h with
  | plain h=>exact h
  | jk=>simp [D.flat] at hf
  | own=>simp [D.flat] at hf
theorem aeQ (S:St) (k:Key) (v:V) (kp:Bool) (k':Key) :
  (S.ah [{ k,v,keep:=kp },{ k:=.a k,v:=V.dead }]).γ k'=if k' = .a k then S.γ k'+1 else if k'=k∧kp=false then S.γ k'+1 else S.γ k':=by
 have Fe:∀k:Key,k≠.a k:=by
  intro k;induction k with
  | a k ih=>intro e;simp only [Key.a.injEq] at e;exact ih e
  | _=>intro e;cases e
 simp only [St.ah,St.jS];by_cases h1:k' = .a k
 ·subst h1;simp [Fe k]
 ·rw [aB h1];by_cases h2:k=k'
  ·subst h2;cases kp<;>simp [Ne.symm h1]
  ·simp [h2,Ne.symm h1,Ne.symm h2]
theorem Rel.ahM {S:St} (h:Rel nm N S a w L) {m j:Nat} {pl:Place} {B o i c sz:Nat} {x dH z:D} {rows:List (List D)} {u:Value} (hk:pl.k.aT=true)
  (hE:(S.E pl.k).cells[pl.j]? = some (.d x)) (hn:eo x pl.p=some (.sl .own sz rows)) (hc:cellOf rows i c=some dH) (hB:L B=some (.row pl o))
  (hz:aG nm w L S.γ (.h m) j (.d z) u) (QN:AI z dH=true) :
  ∃L',Rel nm N (S.ah [{ k:=pl.k,v:=(S.E pl.k).setCell pl.j (.d (eG x (pl.p++[(i,c)]) z)),keep:=dH.flat&&z.flat },{ k:=.a pl.k,v:=V.dead }]) a (w.setCell ⟨B,o+i * sz+c,none⟩ u) L'∧
   pd w (w.setCell ⟨B,o+i * sz+c,none⟩ u) L L' S.γ (S.ah [{ k:=pl.k,v:=(S.E pl.k).setCell pl.j (.d (eG x (pl.p++[(i,c)]) z)),keep:=dH.flat&&z.flat },{ k:=.a pl.k,v:=V.dead }]).γ (fun q=>¬ (q.k = .h m∧q.j=j))∧
   dc w (w.setCell ⟨B,o+i * sz+c,none⟩ u) L L'∧L' B=some (.row pl o)∧(∀B q o,q.k.aT=false→L' B=some (.row q o)→L B=some (.row q o)):=by
 have az:∀{B2 l},L B2=some l→l≠.row pl o→(w.setCell ⟨B,o+i * sz+c,none⟩ u).heap[B2]? = w.heap[B2]?:=by
  intro B2 l hl ql;refine pz _ _ _ _ ?_;rintro rfl;rw [hB] at hl;simp only [ai] at hl;exact ql hl.symm
 have Jo:∀{q:Place},q.k.aT=true→¬ (q.k = .h m∧q.j=j):=fun hq h=>by rw [h.1] at hq;simp [Key.aT] at hq
 have zC:¬ bE (pl.sub i c) pl:=bE.R8;have h1:Rel nm N (S.wr { k:=.a pl.k,v:=V.dead }) a w L:=h.kill (.a pl.k) (fun r e=>by cases e);have Fe:∀k:Key,k≠.a k:=by
  intro k;induction k with
  | a k ih=>intro e;simp only [Key.a.injEq] at e;exact ih e
  | _=>intro e;cases e
 have Yx:(S.wr { k:=.a pl.k,v:=V.dead }).E pl.k=S.E pl.k:=by
  rw [St.ia];simp [Ne.symm (Fe pl.k)]
 have main:∀L',(∀B,L' B=some .bh↔L B=some .bh)→(∀B r o,L' B=some (.box r o)↔L B=some (.box r o))→(∀B,L B=none→L' B=none)→(∀B l,L' B=some l→∃l0,L B=some l0)→lZ L'→
   (∀B q o,¬ (q.k = .h m∧q.j=j)→¬ bE (pl.sub i c) q→L B=some (.row q o)→L' B=some (.row q o))→
   (∀B q o,q.k.aT=false→L' B=some (.row q o)→L B=some (.row q o))→
   (((dH.flat&&z.flat)=true)→L'=L)→
   bt (w.setCell ⟨B,o+i * sz+c,none⟩ u) L' (pl.sub i c) z u→
   Rel nm N (S.ah [{ k:=pl.k,v:=(S.E pl.k).setCell pl.j (.d (eG x (pl.p++[(i,c)]) z)),keep:=dH.flat&&z.flat },{ k:=.a pl.k,v:=V.dead }]) a (w.setCell ⟨B,o+i * sz+c,none⟩ u) L'∧
   pd w (w.setCell ⟨B,o+i * sz+c,none⟩ u) L L' S.γ (S.ah [{ k:=pl.k,v:=(S.E pl.k).setCell pl.j (.d (eG x (pl.p++[(i,c)]) z)),keep:=dH.flat&&z.flat },{ k:=.a pl.k,v:=V.dead }]).γ (fun q=>¬ (q.k = .h m∧q.j=j))∧
   dc w (w.setCell ⟨B,o+i * sz+c,none⟩ u) L L'∧L' B=some (.row pl o)∧(∀B q o,q.k.aT=false→L' B=some (.row q o)→L B=some (.row q o)):=by
  intro L' fU gW vw hdm oI zy vg ajp hzd;have Qk:rW w (w.setCell ⟨B,o+i * sz+c,none⟩ u) L L':=fun B2 hb=>⟨(fU B2).2 hb,az hb (by simp)⟩
  have cK:∀{B2 q o2},q.k.aT=true→((S.ah [{ k:=pl.k,v:=(S.E pl.k).setCell pl.j (.d (eG x (pl.p++[(i,c)]) z)),keep:=dH.flat&&z.flat },{ k:=.a pl.k,v:=V.dead }]).γ q.k=S.γ q.k)→
    L B2=some (.row q o2)→L' B2=some (.row q o2):=by
   intro B2 q o2 hq hγ hL;cases hf:(dH.flat&&z.flat) with
   | true=>rw [ajp hf];exact hL
   | false=>
    rw [aeQ,hf] at hγ;refine zy B2 q o2 (Jo hq) (fun hu=>?_) hL;have hqk:q.k=pl.k:=hu.key.1;rw [hqk] at hγ;simp [Fe pl.k] at hγ
  have bp:Step w (w.setCell ⟨B,o+i * sz+c,none⟩ u) L L' S.γ (S.ah [{ k:=pl.k,v:=(S.E pl.k).setCell pl.j (.d (eG x (pl.p++[(i,c)]) z)),keep:=dH.flat&&z.flat },{ k:=.a pl.k,v:=V.dead }]).γ:=by
   refine ⟨Qk,fun k=>St.wM S _ k,?_,?_,fun B2 r o2 _ hb=>(gW B2 r o2).2 hb⟩
   ·intro B2 q o2 hq hγ hL;refine ⟨cK hq hγ hL,fun iD e2 ll gy=>?_⟩;by_cases he:B2=B
    ·subst he;exact ⟨_,xi w B2 _ u gy,by simp⟩
    ·exact ⟨iD,(pz _ _ _ _ he).trans gy,rfl⟩
   ·intro B2 q o2 hq _ Cm hL;refine az hL ?_;intro e;simp only [bO.row.injEq] at e;rw [aeQ,e.1,aJ rfl] at Cm;omega
  have ajV:∀B' q o',L B'=some (.row q o')→q=(⟨pl.k,pl.j,[]⟩:Place).app pl.p→B'=B:=by
   intro B' q o' hL he;rw [Place.A7] at he;subst he;exact h.eN B' B q o' o hL hB
  have qe:∀v,aG nm w L S.γ pl.k pl.j (.d x) v→aG nm (w.setCell ⟨B,o+i * sz+c,none⟩ u) L' (S.ah [{ k:=pl.k,v:=(S.E pl.k).setCell pl.j (.d (eG x (pl.p++[(i,c)]) z)),keep:=dH.flat&&z.flat },{ k:=.a pl.k,v:=V.dead }]).γ pl.k pl.j (.d (eG x (pl.p++[(i,c)]) z)) v:=by
   intro v hv;cases hv with
   | d hv=>
    refine .d (bt.set hc pl.p hv hn (by rw [Place.A7];exact hB) ajV Qk ?_ (by rw [Place.A7];exact hzd) QN);intro B' q o' hu zC hL;rw [Place.A7] at zC;refine zy B' q o' (Jo ?_) zC hL;rw [hu.key.1];exact hk
  have E3:rV (w.setCell ⟨B,o+i * sz+c,none⟩ u) L':=by
   intro B2 l hl;obtain ⟨l0,h0⟩:=hdm B2 l hl;have:=h.fu B2 l0 h0;simpa using this
  have qb:D0 L':=fun B1 B2 r o1 o2 g1 g2=>h.fB B1 B2 r o1 o2 ((gW _ _ _).1 g1) ((gW _ _ _).1 g2)
  have lr:∀B2 q o2,q.k≠pl.k∨q.j≠pl.j→q.k.aT=true→L B2=some (.row q o2)→L' B2=some (.row q o2)∧(w.setCell ⟨B,o+i * sz+c,none⟩ u).heap[B2]? = w.heap[B2]?:=by
   intro B2 q o2 hq FA hL;refine ⟨zy B2 q o2 (Jo FA) (fun hu=>?_) hL,az hL (fun e=>?_)⟩
   ·have:=hu.key;simp only [Place.sub] at this;rcases hq with hq | hq
    ·exact hq this.1
    ·exact hq this.2
   ·simp only [bO.row.injEq] at e;rcases hq with hq | hq<;>exact hq (by rw [e.1])
  refine ⟨?_,⟨bp,?_⟩,?_,zy B pl o (Jo hk) zC hB,vg⟩
  ·
   generalize vd:St.ah S [{ k:=pl.k,v:=(S.E pl.k).setCell pl.j (.d (eG x (pl.p++[(i,c)]) z)),keep:=dH.flat&&z.flat },{ k:=.a pl.k,v:=V.dead }]=S' at bp qe ⊢;have su:∀k,k≠.a pl.k→S'.E k=if pl.k=k then (S.E pl.k).setCell pl.j (.d (eG x (pl.p++[(i,c)]) z)) else S.E k:=by
    intro k ku;rw [←vd];simp only [St.ah,St.ia,Ne.symm ku,dE]
   have zk:∀r,S'.E (.r r)=S.E (.r r):=fun r=>by rw [su _ (by simp),aB (fun e=>by rw [e] at hk;simp [Key.aT] at hk)]
   have tU:∀B2 r o2,L B2=some (.box r o2)→L' B2=some (.box r o2)∧(w.setCell ⟨B,o+i * sz+c,none⟩ u).heap[B2]? = w.heap[B2]?:=fun B2 r o2 hL=>⟨(gW _ _ _).2 hL,az hL (by simp)⟩
   clear cK vd;generalize w.setCell ⟨B,o+i * sz+c,none⟩ u=w' at *;refine ⟨h.size,h.defers,?_,?_,?_,?_,?_,E3,oI,qb⟩
   ·intro i2;rw [su _ (by simp)];by_cases he:pl.k = .s i2
    ·rw [aJ he,he];rw [he] at hE qe;exact (h.slot i2).setCell hE bp (fun B2 q o2 hq Fz hL=>lr B2 q o2 (.inr Fz) (by rw [hq];rfl) hL) qe
    ·rw [aB he];refine (h.slot i2).step bp ?_;intro B2 q o2 hq hL;rw [←hq,Place.l9];exact lr B2 q o2 (.inl (by rw [hq];exact fun e=>he e.symm)) (by rw [hq];rfl) hL
   ·intro r cc y hy jg;rw [su _ (by simp)] at hy;by_cases he:pl.k = .b r cc
    ·rw [aJ he,he] at hy;rw [he] at hE qe;obtain ⟨c0,vb⟩:=h.kg r cc;rw [vb] at hE hy;simp only [V.cells] at hE;have Jp:pl.j=0:=by
      cases hj:pl.j with
      | zero=>rfl
      | succ n=>rw [hj] at hE;simp at hE
     rw [Jp] at hE hy qe;simp only [kC,ai] at hE;subst hE;simp only [V.setCell,bW,V.one.injEq] at hy;subst hy;have hold:=h.cell r cc _ vb (by simp);have tr:(∃B o cur e fz v,L B=some (.box r o)∧w.heap[B]? = some (.cells cur e fz)∧jA cur.size fz∧cur[o+cc]? = some v∧aG nm w L S.γ (.b r cc) 0 (.d x) v∧lK (.d x) B o cc e cur.size v)→
       (∃ B2 o2 iD e2 ll v, L' B2 = some (.box r o2) ∧ w'.heap[B2]? = some (.cells iD e2 ll) ∧ jA iD.size ll ∧ iD[o2 + cc]? = some v ∧
         aG nm w' L' S'.γ (.b r cc) 0 (.d (eG x (pl.p ++ [(i, c)]) z)) v ∧ lK (.d (eG x (pl.p ++ [(i, c)]) z)) B2 o2 cc e2 iD.size v) := fun ⟨B2, o2, iD, e2, ll, v, h1, h2, h3, h4, h5, _⟩ =>
      ⟨B2,o2,iD,e2,ll,v,(tU B2 r o2 h1).1,(tU B2 r o2 h1).2.trans h2,h3,h4,qe v h5,trivial⟩
     cases r with
     | g i'=>obtain ⟨v,hv⟩:=hold;exact ⟨v,qe v hv⟩
     | e i'=>exact tr hold
     | l i'=>exact tr hold
    ·rw [aB he] at hy;refine (h.cell r cc y hy jg).step bp ?_ ?_
     ·intro B2 q o2 hq hL;exact lr B2 q o2 (.inl (by rw [hq];exact fun e=>he e.symm)) (by rw [hq];rfl) hL
     ·intro B2 o2 hL;exact ⟨(tU B2 r o2 hL).1,fun iD e2 ll gy=>⟨iD,(tU B2 r o2 hL).2.trans gy,rfl,rfl⟩⟩
   ·intro r cc;rw [su _ (by simp)];by_cases he:pl.k = .b r cc
    ·rw [aJ he,he];obtain ⟨c0,vb⟩:=h.kg r cc;rw [vb];by_cases hj:pl.j=0
     ·exact ⟨.d (eG x (pl.p++[(i,c)]) z),by rw [hj];simp [V.setCell]⟩
     ·exact ⟨c0,by simp [V.setCell,hj]⟩
    ·rw [aB he];exact h.kg r cc
   ·intro r cc c7;rw [zk] at c7;have hb:=h.bound r cc c7;rw [su _ (by simp)];by_cases he:pl.k = .b r cc
    ·rw [he,hb] at hE;exfalso;cases hj:pl.j with
     | zero=>rw [hj] at hE;simp [V.cells] at hE
     | succ n=>rw [hj] at hE;simp [V.cells] at hE
    ·rw [aB he];exact hb
   ·intro r hg hr;rw [zk] at hr ⊢;obtain ⟨B2,o2,iD,e2,ll,h1,h2,h3,h4⟩:=h.room r hg hr;exact ⟨B2,o2,iD,e2,ll,(tU _ _ _ h1).1,(tU _ _ _ h1).2.trans h2,h3,h4⟩
  ·intro B2 q o2 hq hK hL;refine ⟨zy B2 q o2 hK (fun hu=>?_) hL,az hL (fun e=>?_)⟩
   ·rw [hu.key.1] at hq;simp only [Place.sub] at hq;rw [hk] at hq;cases hq
   ·simp only [bO.row.injEq] at e;rw [e.1,hk] at hq;cases hq
  ·refine ⟨rfl,rfl,rfl,by simp,Qk,?_,fun B i o hB=>(gW _ _ _).2 hB⟩;intro B2 _ vu;refine ⟨vw B2 vu,pz _ _ _ _ ?_⟩;rintro rfl;rw [hB] at vu;cases vu
 cases hf:(dH.flat&&z.flat) with
 | true=>
  have hzf:z.flat=true:=by simp only [bK] at hf;exact hf.2
  have:=main L (fun _=>Iff.rfl) (fun _ _ _=>Iff.rfl) (fun _ h=>h) (fun B l h=>⟨l,h⟩) h.eN (fun _ _ _ _ _ h=>h) (fun _ _ _ _ h=>h) (fun _=>rfl)
   (.plain ((hz.Ye hzf).mono (fun B2 hb=>⟨hb,az hb (by simp)⟩)))
  rw [hf] at this;exact ⟨L,this⟩
 | false=>
  have:=main (mS (pl.sub i c) m j L) (fun _=>Xy) (fun _ _ _=>ahG) (fun _ h=>ahL h) (fun B l h=>ahH h) (ahI h.eN) (fun _ _ _ h1 h2 h=>ahJ h h1 h2)
   (fun B q o hq hL => by
     rcases OZ hL with ⟨q0, _, _, rfl⟩ | ⟨h1, _⟩
     · simp only [Place.app, Place.sub] at hq; rw [hk] at hq; cases hq
     · exact h1)
   (fun h1 => by rw [hf] at h1; cases h1) (by
     cases hz with
     | d hz =>
       have := bt.move (w' := w.setCell ⟨B, o + i * sz + c, none⟩ u) (L' := mS (pl.sub i c) m j L) (fun q => (pl.sub i c).app q.p) (fun q => q.k = .h m ∧ q.j = j) (fun _ _ _ h => h)
         (fun q a b _ => Place.Ec _ _ _ _) (fun B2 hb => ⟨Xy.2 hb, az hb (by simp)⟩) (fun B2 q o2 hq hL => ⟨ahK hL hq, az hL (fun e => by
           simp only [bO.row.injEq] at e; rw [e.1] at hq; rw [hq.1] at hk; simp [Key.aT] at hk)⟩) hz ⟨rfl, rfl⟩
       simpa [Place.app] using this)
  rw [hf] at this;exact ⟨_,this⟩
end
end
section
section
variable {nm:FuncId→Option Nat} {N:Nat} {S0:St} {w0:World} {L0:aw} {ws:List Wr} {a:Act} {w:World} {L:aw}
theorem RU:∀(p:List (Nat×Nat)) (x:D) (q:List (Nat×Nat)),eo x (p++q)=(eo x p).bind (eo · q)
 | [],x,q=>by simp [eo]
 | (i,c)::p,x,q=>by
  simp only [qJ];cases x with
  | sl t sz rows=>
   cases t with
   | own=>
    rw [C3,C3];cases h:cellOf rows i c with
    | none=>simp
    | some y=>simp [RU p y q]
   | im b=>simp [eo]
  | _=>simp [eo]
theorem anX {x dH:D} {p:List (Nat×Nat)} {i c:Nat} (h:eo x (p++[(i,c)])=some dH):∃sz rows,eo x p=some (.sl .own sz rows)∧cellOf rows i c=some dH:=by
 rw [RU] at h;cases hx:eo x p with
 | none=>simp [hx] at h
 | some y=>
  rw [hx] at h;simp only [Option.bind_some] at h;obtain ⟨sz,rows,z,rfl,h1,h2⟩:=Af h;simp only [eo,ai] at h2;subst h2;exact ⟨sz,rows,rfl,h1⟩
theorem RW {z dH:D} {i c:Nat}:∀(p:List (Nat×Nat)) {x:D} {sz:Nat} {rows:List (List D)},eo x p=some (.sl .own sz rows)→cellOf rows i c=some dH→
  eo (eG x (p++[(i,c)]) z) p=some (.sl .own sz (rows.set i ((rows.getD i []).set c z)))
 | [],x,sz,rows,h,hc=>by
  simp only [eo,ai] at h;subst h;simp only [uL];rw [Ha hc,eG];rfl
 | (i',c')::p,x,sz,rows,h,hc=>by
  obtain ⟨pP,qG,y,rfl,h1,h2⟩:=Af h;simp only [qJ];rw [Ha h1,C3,Eo h1,aJ ⟨rfl,rfl⟩];simp only [Option.bind_some];exact RW p h2 hc
theorem Rel.Xz {m:Nat} {pl:Place} {B o i sz:Nat} (hk:pl.k.aT=true):∀(zs:List D) (us:List Value) (j0 c:Nat) (x:D) {ws e8:List Wr} {w:World} {L:aw} (h:Rel nm N (S0.ah ws) a w L)
  (hE:((S0.ah ws).E pl.k).cells[pl.j]? = some (.d x)) (hn:∃rows,eo x pl.p=some (.sl .own sz rows)) (hB:L B=some (.row pl o)) (hl:zs.length=us.length)
  (hw:w5 ((S0.ah ws).E pl.k) pl i c zs x ws=some e8)
  (hz:∀j z u,zs[j]? = some z→us[j]? = some u→aG nm w L (S0.ah ws).γ (.h m) (j0+j) (.d z) u),
  ∃L',Rel nm N (S0.ah e8) a (w.setCells B (o+i * sz+c) us) L'∧dc w (w.setCells B (o+i * sz+c) us) L L'∧(∀B q o,q.k.aT=false→L' B=some (.row q o)→L B=some (.row q o))
 | [],us,j0,c,x,ws,e8,w,L,h,hE,hn,hB,hl,hw,hz=>by
  have:us=[]:=by simpa using hl.symm
  subst this;simp only [w5,ai] at hw;subst hw;exact ⟨L,h,dc.refl _ _,fun _ _ _ _ h=>h⟩
 | z::zs,[],j0,c,x,ws,e8,w,L,h,hE,hn,hB,hl,hw,hz=>by simp at hl
 | z::zs,u::us,j0,c,x,ws,e8,w,L,h,hE,hn,hB,hl,hw,hz=>by
  simp only [w5] at hw;cases ho:eo x (pl.p++[(i,c)]) with
  | none=>simp [ho] at hw
  | some dH=>
   rw [ho] at hw;simp only at hw;split at hw;rotate_left
   ·cases hw
   rename_i QN;obtain ⟨MI,rows,h1,h2⟩:=anX ho;obtain ⟨ux,sG⟩:=hn;obtain ⟨rfl,rfl⟩:MI=sz∧rows=ux:=by rw [h1] at sG;simpa using sG
   obtain ⟨L1,g1,g2,g3,g4,g5⟩:=h.ahM hk hE h1 h2 hB (hz 0 z u rfl rfl) QN;have Fe:∀k:Key,k≠.a k:=by
    intro k;induction k with
    | a k ih=>intro e;simp only [Key.a.injEq] at e;exact ih e
    | _=>intro e;cases e
   have tT:(S0.ah ({ k:=pl.k,v:=((S0.ah ws).E pl.k).setCell pl.j (.d (eG x (pl.p++[(i,c)]) z)),keep:=dH.flat&&z.flat } :: { k:=.a pl.k,v:=V.dead } :: ws)).E pl.k =
     ((S0.ah ws).E pl.k).setCell pl.j (.d (eG x (pl.p++[(i,c)]) z)):=by
    simp only [St.ah,St.ia,bW]
   obtain ⟨L2,k1,k2,k3⟩:=Rel.Xz hk zs us (j0+1) (c+1) (eG x (pl.p++[(i,c)]) z) (ws:={ k:=pl.k,v:=((S0.ah ws).E pl.k).setCell pl.j (.d (eG x (pl.p++[(i,c)]) z)),keep:=dH.flat&&z.flat } :: { k:=.a pl.k,v:=V.dead } :: ws) g1
    (by rw [tT]; exact V.afz hE) ⟨_, RW pl.p h1 h2⟩ g4 (by simpa using hl) (by rw [tT]; exact hw) (by
      intro j z' u' QX jt
      have := (hz (j + 1) z' u' (by simpa using QX) (by simpa using jt)).keep g2 (fun p => by simp)
      rwa [show j0 + 1 + j = j0 + (j + 1) by omega])
   exact ⟨L2,k1,g3.trans k2,fun B q o hq hL=>g5 B q o hq (k3 B q o hq hL)⟩
theorem Rel.I8 {S:St} (h:Rel nm N S a w L) {w':World} {L':aw}
  (eh:∀B l,L B=some l→(∀q o,l = .row q o→q.k.aT=true)→w'.heap[B]? = w.heap[B]?∧L' B=some l)
  (hd:rV w' L') (oI:lZ L') (qb:D0 L'):Rel nm N S a w' L':=by
 have bp:Step w w' L L' S.γ S.γ:=by
  refine ⟨fun B hB=>⟨(eh B _ hB (by simp)).2,(eh B _ hB (by simp)).1⟩,fun _=>bT _,?_,?_,fun B r o _ hB=>(eh B _ hB (by simp)).2⟩
  ·intro B q o hq _ hB;have:=eh B _ hB (fun q' o' e=>by simp only [bO.row.injEq] at e;rw [←e.1];exact hq);exact ⟨this.2,fun cur e fz hc=>⟨cur,this.1.trans hc,rfl⟩⟩
  ·intro B q o hq _ _ hB;exact (eh B _ hB (fun q' o' e=>by simp only [bO.row.injEq] at e;rw [←e.1];exact hq)).1
 refine ⟨h.size,h.defers,?_,?_,h.kg,h.bound,fun r hg hr=>let ⟨B,o,cur,e,fz,h1,h2,h3,h4⟩:=h.room r hg hr;⟨B,o,cur,e,fz,(eh B _ h1 (by simp)).2,(eh B _ h1 (by simp)).1.trans h2,h3,h4⟩,hd,oI,qb⟩
 ·intro i;refine (h.slot i).step bp ?_;intro B q o hq hB;have:=eh B _ hB (fun q' o' e=>by simp only [bO.row.injEq] at e;rw [←e.1,hq];rfl);exact ⟨by rw [←hq,Place.l9];exact this.2,this.1⟩
 ·intro r c x hx gg;refine (h.cell r c x hx gg).step bp (fun B q o hq hB=>?_) (fun B o hB=>⟨(eh B _ hB (by simp)).2,fun cur e fz hc=>⟨cur,(eh B _ hB (by simp)).1.trans hc,rfl,rfl⟩⟩);have:=eh B _ hB (fun q' o' e=>by simp only [bO.row.injEq] at e;rw [←e.1,hq];rfl);exact ⟨this.2,this.1⟩
theorem bt.beyond {w':World} {pl:Place} {B o n:Nat} {cur dQ:Array Value} {e:TypeId} {fz:Nat×Nat} (hL:L B=some (.row pl o)) (hB:w.heap[B]? = some (.cells cur e fz))
  (az:∀B' l,L B'=some l→B'≠B→w'.heap[B']? = w.heap[B']?) (dA:w'.heap[B]? = some (.cells dQ e fz)) (bf:dQ.size=cur.size) (Cf:∀i,i < o+n→dQ[i]? = cur[i]?)
  {t:Place} {x:D} {v:Value} (h:bt w L t x v):(∀p sz rows,t.app p=pl→eo x p=some (.sl .own sz rows)→rows.length * sz≤n)→bt w' L t x v:=by
 have fU:rW w w' L L:=fun B2 hb=>⟨hb,az B2 _ hb (fun e=>by rw [e,hL] at hb;cases hb)⟩
 induction h with
 | plain h=>exact fun _=>.plain (h.mono fU)
 | jk=>exact fun _=>.jk
 | @own t sz rows B1 o1 cap arh e1 fz1 val Zy oC I' cU hlen dL dG hv hr dX ih=>
  intro Jy;have q8:∀i c x,cellOf rows i c=some x→bt w' L (t.sub i c) x (val i c):=by
   intro i c x hx;refine ih i c x hx (fun p cp ux ht hn=>Jy ((i,c)::p) cp ux ?_ ?_)
   ·rw [Place.qP];exact ht
   ·rw [C3,hx];exact hn
  by_cases he:B1=B
  ·subst he;rw [hL] at oC;simp only [ai,bO.row.injEq] at oC;obtain ⟨rfl,rfl⟩:=oC;have hn:=Jy [] sz rows (Place.A6 _) rfl;rw [hB] at I';simp only [ai,Obj.cells.injEq] at I';obtain ⟨rfl,rfl,rfl⟩:=I';refine .own val Zy hL dA (by rw [bf];exact cU) hlen dL (by rw [bf];exact dG) ?_ q8 dX;intro i c x hx;obtain ⟨hi,hc⟩:=oq hlen hx;rw [Cf]
   ·exact hv i c x hx
   ·have:(i+1) * sz≤rows.length * sz:=pY _ (by omega);rw [lJ] at this;omega
  ·exact .own val Zy oC ((az _ _ oC he).trans I') cU hlen dL dG hv q8 dX
theorem Rel.aoA {S:St} (h:Rel nm N S a w L) {w':World} {pl:Place} {B o n sz:Nat} {cur dQ:Array Value} {e:TypeId} {fz:Nat×Nat} {x:D} {rows:List (List D)} (hk:pl.k.aT=true)
  (hE:(S.E pl.k).cells[pl.j]? = some (.d x)) (hn:eo x pl.p=some (.sl .own sz rows)) (hlen:rows.length * sz≤n)
  (hL:L B=some (.row pl o)) (hB:w.heap[B]? = some (.cells cur e fz))
  (az:∀B' l,L B'=some l→B'≠B→w'.heap[B']? = w.heap[B']?) (dA:w'.heap[B]? = some (.cells dQ e fz)) (bf:dQ.size=cur.size) (Cf:∀i,i < o+n→dQ[i]? = cur[i]?) :
  Rel nm N (S.wr { k:=.a pl.k,v:=V.dead }) a w' L:=by
 have bp:Step w w' L L S.γ (S.wr { k:=.a pl.k,v:=V.dead }).γ:=by
  refine ⟨fun B2 hb=>⟨hb,az B2 _ hb (fun e=>by rw [e,hL] at hb;cases hb)⟩,S.pZ _,?_,?_,fun _ _ _ _ hb=>hb⟩
  ·intro B2 q o2 _ _ hb;refine ⟨hb,fun iD e2 ll gy=>?_⟩;by_cases he:B2=B
   ·subst he;rw [hB] at gy;simp only [ai,Obj.cells.injEq] at gy;obtain ⟨rfl,rfl,rfl⟩:=gy;exact ⟨dQ,dA,bf⟩
   ·exact ⟨iD,(az B2 _ hb he).trans gy,rfl⟩
  ·intro B2 q o2 _ _ Cm hb;refine az B2 _ hb (fun he=>?_);subst he;rw [hL] at hb;simp only [ai,bO.row.injEq] at hb;rw [←hb.1,St.jS] at Cm;simp at Cm
 have su:∀k,k≠.a pl.k→(S.wr { k:=.a pl.k,v:=V.dead }).E k=S.E k:=fun k ku=>by rw [St.ia];simp [Ne.symm ku]
 have lr:∀B2 q o2,q.k≠pl.k∨q.j≠pl.j→L B2=some (.row q o2)→L B2=some (.row q o2)∧w'.heap[B2]? = w.heap[B2]?:=by
  intro B2 q o2 hq hb;refine ⟨hb,az B2 _ hb (fun he=>?_)⟩;subst he;rw [hL] at hb;simp only [ai,bO.row.injEq] at hb;rcases hq with hq | hq<;>exact hq (by rw [hb.1])
 have qe:∀v,aG nm w L S.γ pl.k pl.j (.d x) v→aG nm w' L (S.wr { k:=.a pl.k,v:=V.dead }).γ pl.k pl.j (.d x) v:=by
  intro v hv;cases hv with
  | d hv=>
   refine .d (bt.beyond hL hB az dA bf Cf hv ?_);intro p cp ux hp sG;have:p=pl.p:=by
    have:=fX Place.p hp;simpa [Place.app] using this
   subst this;rw [hn] at sG;simp only [ai,D.sl.injEq,lh] at sG;rw [←sG.1,←sG.2];exact hlen
 have E3:rV w' L:=by
  intro B2 l hb;by_cases he:B2=B
  ·subst he;exact (lH.1 dA).1
  ·exact xh (h.fu B2 l hb) (az B2 _ hb he)
 have tU:∀B2 r o2,L B2=some (.box r o2)→w'.heap[B2]? = w.heap[B2]?:=fun B2 r o2 hb=>az B2 _ hb (fun he=>by rw [he,hL] at hb;cases hb)
 generalize vd:S.wr { k:=.a pl.k,v:=V.dead } = S' at *;refine ⟨h.size,h.defers,?_,?_,?_,?_,?_,E3,h.eN,h.fB⟩
 ·intro i2;rw [su _ (by simp)];by_cases he:pl.k = .s i2
  ·have:=(h.slot i2).setCell (j:=pl.j) (c:=.d x) (c':=.d x) (by rw [←he];exact hE) bp
    (fun B2 q o2 hq Fz hb=>lr B2 q o2 (.inr Fz) hb) (by rw [←he];exact qe)
   rwa [V.aps (by rw [←he];exact hE)] at this
  ·refine (h.slot i2).step bp ?_;intro B2 q o2 hq hb;rw [←hq,Place.l9];exact lr B2 q o2 (.inl (by rw [hq];exact fun e=>he e.symm)) hb
 ·intro r cc y hy jg;rw [su _ (by simp)] at hy;by_cases he:pl.k = .b r cc
  ·rw [he] at hE qe;rw [hy] at hE;simp only [V.cells] at hE;have Jp:pl.j=0:=by
    cases hj:pl.j with
    | zero=>rfl
    | succ n=>rw [hj] at hE;simp at hE
   rw [Jp] at hE qe;simp only [kC,ai] at hE;subst hE;have hold:=h.cell r cc _ hy jg;have tr:(∃B o cur e fz v,L B=some (.box r o)∧w.heap[B]? = some (.cells cur e fz)∧jA cur.size fz∧cur[o+cc]? = some v∧aG nm w L S.γ (.b r cc) 0 (.d x) v∧lK (.d x) B o cc e cur.size v)→
     (∃B o cur e fz v,L B=some (.box r o)∧w'.heap[B]? = some (.cells cur e fz)∧jA cur.size fz∧cur[o+cc]? = some v∧aG nm w' L S'.γ (.b r cc) 0 (.d x) v∧lK (.d x) B o cc e cur.size v):=
    fun ⟨B2,o2,iD,e2,ll,v,h1,h2,h3,h4,h5,_⟩=>⟨B2,o2,iD,e2,ll,v,h1,(tU B2 r o2 h1).trans h2,h3,h4,qe v h5,trivial⟩
   cases r with
   | g i'=>obtain ⟨v,hv⟩:=hold;exact ⟨v,qe v hv⟩
   | e i'=>exact tr hold
   | l i'=>exact tr hold
  ·refine (h.cell r cc y hy jg).step bp ?_ ?_
   ·intro B2 q o2 hq hb;exact lr B2 q o2 (.inl (by rw [hq];exact fun e=>he e.symm)) hb
   ·intro B2 o2 hb;exact ⟨hb,fun iD e2 ll gy=>⟨iD,(tU B2 r o2 hb).trans gy,rfl,rfl⟩⟩
 ·intro r cc;rw [su _ (by simp)];exact h.kg r cc
 ·intro r cc c7;rw [su _ (by simp)] at c7 ⊢;exact h.bound r cc c7
 ·intro r hg hr;rw [su _ (by simp)] at hr ⊢;obtain ⟨B2,o2,iD,e2,ll,h1,h2,h3,h4⟩:=h.room r hg hr;exact ⟨B2,o2,iD,e2,ll,h1,(tU B2 r o2 h1).trans h2,h3,h4⟩
theorem Rel.Vs {S:St} (h:Rel nm N S a w L) {m j:Nat} (hm:∀B o,L B≠some (.row ⟨.h m,j,[]⟩ o)) (cur:Array Value) (e:TypeId) :
  Rel nm N S a (w.alloc (.cells cur e)) (L.put w.heap.size (.row ⟨.h m,j,[]⟩ 0)):=by
 have B9:=h.fu.new;have az:∀B l,L B=some l→B≠w.heap.size:=fun B l hB e=>by rw [e,B9] at hB;cases hB
 refine h.grow (fun B l hB=>mW w _ (az B l hB)) (fun B l hB=>by rw [aw.gu (az B l hB)];exact hB) ?_ ?_ ?_
 ·intro B l hB;by_cases he:B=w.heap.size
  ·subst he;exact (lH.1 (oF w _)).1
  ·rw [aw.gu he] at hB;exact xh (h.fu B l hB) (mW w _ he)
 ·intro B B' pl o o' h1 h2;by_cases he:B=w.heap.size
  ·by_cases cY:B'=w.heap.size
   ·rw [he,cY]
   ·subst he;rw [aw.kX] at h1;rw [aw.gu cY] at h2;simp only [ai,bO.row.injEq] at h1;rw [←h1.1] at h2;exact absurd h2 (hm B' o')
  ·rw [aw.gu he] at h1;by_cases cY:B'=w.heap.size
   ·subst cY;rw [aw.kX] at h2;simp only [ai,bO.row.injEq] at h2;rw [←h2.1] at h1;exact absurd h1 (hm B o)
   ·rw [aw.gu cY] at h2;exact h.eN B B' pl o o' h1 h2
 ·intro B B' r o o' h1 h2;by_cases he:B=w.heap.size
  ·subst he;rw [aw.kX] at h1;simp at h1
  ·by_cases cY:B'=w.heap.size
   ·subst cY;rw [aw.kX] at h2;simp at h2
   ·rw [aw.gu he] at h1;rw [aw.gu cY] at h2;exact h.fB B B' r o o' h1 h2
def oZ (w:World) (L:aw) (H:Place) (rows:List (List D)) (val:Nat→Nat→Value):Prop:=∀i c x,cellOf rows i c=some x→bt w L (H.sub i c) x (val i c)
def pe (rows:List (List D)) (sz o:Nat) (cur:Array Value) (val:Nat→Nat→Value):Prop:=∀i c x,cellOf rows i c=some x→cur[o+i * sz+c]? = some (val i c)
theorem aoL {cur:Array Value} {e:TypeId} {H:Place} {rows:List (List D)} {val:Nat→Nat→Value} (hd:rV w L) (hc:oZ w L H rows val) :
  oZ (w.alloc (.cells cur e)) (L.put w.heap.size (.row H 0)) H rows val:=by
 intro i c x hx;have az:∀B l,L B=some l→B≠w.heap.size:=fun B l hB e=>by rw [e,hd.new] at hB;cases hB
 exact bt.move id (fun _=>True) (fun _ _ _ _=>trivial) (fun _ _ _ _=>rfl) (fun B hB=>⟨by rw [aw.gu (az B _ hB)];exact hB,mW w _ (az B _ hB)⟩)
  (fun B q o _ hB=>⟨by rw [aw.gu (az B _ hB)];exact hB,mW w _ (az B _ hB)⟩) (hc i c x hx) trivial
theorem Rel.newRow {S:St} (h:Rel nm N S a w L) {m j:Nat} (hm:∀B o,L B≠some (.row ⟨.h m,j,[]⟩ o)) {cur:Array Value} {e:TypeId} {rows:List (List D)} {val:Nat→Nat→Value} {sz cap:Nat} (bf:0 < sz)
  (hlen:∀r∈rows,r.length=sz) (dL:rows.length≤cap) (dG:cap * sz≤cur.size) (hv:pe rows sz 0 cur val) (hc:oZ w L ⟨.h m,j,[]⟩ rows val) (dX:tJ rows e) :
  Rel nm N S a (w.alloc (.cells cur e)) (L.put w.heap.size (.row ⟨.h m,j,[]⟩ 0))∧
   aG nm (w.alloc (.cells cur e)) (L.put w.heap.size (.row ⟨.h m,j,[]⟩ 0)) S.γ (.h m) j (.d (.sl .own sz rows)) (.slice (some ⟨w.heap.size,0,none⟩) rows.length cap):=
 ⟨h.Vs hm cur e,.d (.own val bf (aw.kX _ _ _) (oF w _) (fun j _=>by simp) hlen dL (by omega) (by simpa [pe] using hv) (aoL h.fu hc) dX)⟩
end
end
section
theorem To {α R:Type} (S:St) (q:Q α):∀(rs:List Key) (K:α→List Key→Option R),runK S q rs K=match q.run S with | some a=>K a ((q.reads S).reverse++rs) | none=>none:=by
 induction q with
 | ret a=>intro rs K;rfl
 | get k f ih=>
  intro rs K;simp only [runK,Q.run,Q.reads,ih,List.reverse_cons,ek,qJ,uL]
 | ou h nat f ih=>
  intro rs K;simp only [runK,Q.run,Q.reads];rw [nat,nat α,nat (List Key)];cases h _ some with
  | none=>rfl
  | some b=>simp only [Option.bind,Option.getD];exact ih b rs K
 | no=>intro rs K;rfl
theorem Q.wg {α β:Type} (S:St) (x:Q α) (f:α→Q β):(x >>= f).reads S=x.reads S++(match x.run S with | some a=>(f a).reads S | none=>[]):=by
 show (x.bind f).reads S=_;induction x with
 | ret a=>rfl
 | get k g ih=>simp only [Q.bind,Q.reads,Q.run];rw [ih];rfl
 | ou h nat g ih=>
  simp only [Q.bind,Q.reads,Q.run];rw [nat,nat _ (fun b=>some ((g b).reads S)),nat α];cases h _ some with
  | none=>rfl
  | some b=>simp only [Option.bind,Option.getD];exact ih b
 | no=>rfl
def Q.le {α:Type} (p q:Q α):Prop:=∀S x,p.run S=some x→q.run S=some x∧p.reads S=q.reads S
theorem Q.le.refl {α:Type} (p:Q α):p.le p:=fun _ _ h=>⟨h,rfl⟩
theorem Q.le.bind {α β:Type} {p q:Q α} {f g:α→Q β} (h:p.le q) (hf:∀a,(f a).le (g a)):(p >>= f).le (q >>= g):=by
 intro S x hx;rw [Q.run_bind] at hx;cases hp:p.run S with
 | none=>simp [hp] at hx
 | some a=>
  simp only [hp,Option.bind] at hx;obtain ⟨h1,h2⟩:=h S a hp;obtain ⟨h3,h4⟩:=hf a S x hx;refine ⟨by rw [Q.run_bind,h1];exact h3,?_⟩;rw [Q.wg,Q.wg,hp,h1,h2];simp only [h4]
theorem Q.le.eT {α β:Type} {p:Q α} {f g:α→Q β} (hf:∀a,(f a).le (g a)):(p >>= f).le (p >>= g):=(Q.le.refl p).bind hf
theorem Q.le.trans {α:Type} {p q r:Q α} (h:p.le q) (h':q.le r):p.le r:=fun S x hx=>
 ⟨(h' S x (h S x hx).1).1,(h S x hx).2.trans (h' S x (h S x hx).1).2⟩
theorem Q.le.no {α:Type} (q:Q α):(Q.no:Q α).le q:=by intro S x h;cases h
theorem Q.le.GJ {α:Type} {p q:Q α} (h:∀S x,p.run S=some x→q.run S=some x) (hp:∀S,p.reads S=[]) (hq:∀S,q.reads S=[]):p.le q:=
 fun S x hx=>⟨h S x hx,by rw [hp,hq]⟩
theorem afO:∀(s:DS) (x:D) (v:s.T),kq s x=some v→Bt s v some=some x:=by
 intro s x v h;cases s<;>cases x<;>simp only [kq] at h<;>try cases h
 ·split at h<;>cases h;rename_i hk;subst hk;rfl
 ·rfl
 ·rfl
 ·rename_i t cp rows;cases t<;>simp only at h
  ·split at h<;>cases h;rename_i hk;subst hk;rfl
  ·cases h
 ·rename_i t cp rows;cases t<;>simp only at h
  ·cases h
  ·split at h<;>cases h;rename_i hk;subst hk;rfl
 ·rename_i t cp rows;split at h<;>cases h;rename_i hk;subst hk;cases t<;>rfl
 ·rename_i t cp rows;split at h<;>cases h;rename_i hk;subst hk;rfl
 ·rfl
 all_goals rfl
theorem OJ:∀(ds:List DS) (l:List D) (v:au ds),dV ds l=some v→ow ds v some=some l
 | [],[],v,_=>rfl
 | [],x::l,v,h=>by cases h
 | s::t,[],v,h=>by cases h
 | s::t,x::l,v,h=>by
  simp only [dV] at h;cases h1:kq s x with
  | none=>simp [h1] at h
  | some a=>
   cases h2:dV t l with
   | none=>simp [h1,h2] at h
   | some b=>
    simp only [h1,h2,ai] at h;subst h;simp only [ow];rw [OI,afO s x a h1];simp only [Option.bind];rw [w7,OJ t l b h2];rfl
theorem Xe:∀{cs:List C} {l:List D},mR cs=some l→cs=l.map .d
 | [],l,h=>by cases h;rfl
 | c::t,l,h=>by
  cases c<;>simp only [mR] at h<;>try cases h
  rename_i x;cases h1:mR t with
  | none=>simp [h1] at h
  | some l1=>simp [h1] at h;subst h;simp [Xe h1]
theorem afN:∀(s:DS) (x:D) (v:s.T),kq s x=some v→C.d x=cC s v:=by
 intro s x v h;cases s with
 | int k=>
  cases x with
  | int k' n=>
   simp only [kq] at h;split at h
   ·rename_i he;simp only [ai] at h;subst h;subst he;rfl
   ·cases h
  | _=>cases h
 | bool=>
  cases x with
  | bool b=>simp only [kq,ai] at h;subst h;rfl
  | _=>cases h
 | str=>
  cases x with
  | str b=>simp only [kq,ai] at h;subst h;rfl
  | _=>cases h
 | im sz=>
  cases x with
  | sl t cp rows=>
   cases t with
   | im b=>
    simp only [kq] at h;split at h
    ·rename_i he;simp only [ai] at h;subst h;subst he;rfl
    ·cases h
   | own=>cases h
  | _=>cases h
 | own sz=>
  cases x with
  | sl t cp rows=>
   cases t with
   | im b=>cases h
   | own=>
    simp only [kq] at h;split at h
    ·rename_i he;simp only [ai] at h;subst h;subst he;rfl
    ·cases h
  | _=>cases h
 | sl sz=>
  cases x with
  | sl t cp rows=>
   simp only [kq] at h;split at h
   ·rename_i he;simp only [ai] at h;subst h;subst he;rfl
   ·cases h
  | _=>cases h
 | tg sz=>
  cases x with
  | sl t cp rows=>
   simp only [kq] at h;split at h
   ·rename_i he;simp only [ai] at h;subst h;subst he;rfl
   ·cases h
  | _=>cases h
 | bu t=>cases x<;>cases h
 | lk f l=>cases x<;>cases h
 | ptr i c=>cases x<;>cases h
 | cz=>cases x<;>cases h
 | eX=>cases x<;>cases h
 | dead=>
  cases x with
  | dead=>rfl
  | _=>cases h
 | any=>simp only [kq,ai] at h;subst h;rfl
theorem Om:∀{l:List (Nat×Nat)} {cap:List C},wX l cap=true→cap=wY l
 | [],[],_=>rfl
 | [],_::_,h=>by cases h
 | _::_,[],h=>by cases h
 | x::l,c::t,h=>by
  unfold wX at h;split at h
  ·rename_i heq _;cases heq
  ·rename_i i g c' t' h1 h2;simp only [qK] at h1 h2;obtain ⟨rfl,rfl⟩:=h1;obtain ⟨rfl,rfl⟩:=h2;simp only [bK,nA] at h;obtain ⟨h1,h2,h3,h4,h5⟩:=h;rw [Om h5];simp only [wY,Ip];rw [mM h1,h4,mM h2,mM h3]
  ·rename_i n t' h1 h2;simp only [qK] at h1 h2;obtain ⟨rfl,rfl⟩:=h1;obtain ⟨rfl,rfl⟩:=h2;simp only [bK] at h;obtain ⟨h1,h2,h3⟩:=h;rw [Om h3];simp only [wY,Ip];rw [h1,mM h2]
  ·cases h
theorem On:∀(l:List (Nat×Nat)),wX l (wY l)=true
 | []=>rfl
 | x::l=>by
  unfold wY Ip;cases h:Nat.beq x.1 EJ with
  | true=>simp [wX,h,On l]
  | false=>simp [wX,h,On l]
theorem Xg (s:DS) (x:C) (v:s.T) (h:u3 s x=some v):x=cC s v:=by
 unfold u3 at h;split at h
 ·exact afN s _ v h
 ·split at h
  ·split at h
   ·rename_i h1 h2;rw [←mM h1,Om h2];rfl
   ·cases h
  ·cases h
 ·split at h
  ·split at h
   ·rename_i h1 h2 h3;rw [←mM h1,mM h2,←mM h3];rfl
   ·cases h
  ·cases h
 ·split at h
  ·rfl
  ·cases h
 ·split at h
  ·rfl
  ·cases h
 ·split at h
  ·split at h
   ·rename_i he;subst he;rfl
   ·cases h
  ·cases h
 ·cases h
theorem afp (s:DS) (v:s.T):u3 s (cC s v)=some v:=by
 cases s<;>simp [cC,u3,kq,On]
theorem XD (s:DS) (v:s.T):w6 s v some=some (cC s v):=by
 cases s<;>try rfl
 case sl sz=>obtain ⟨t,rows⟩:=v;cases t<;>rfl
theorem Xh:∀(ds:List DS) (l:List C) (v:au ds),yX ds l=some v→l=bx ds v
 | [],[],_,_=>rfl
 | [],_::_,_,h=>by cases h
 | _::_,[],_,h=>by cases h
 | s::t,x::l,v,h=>by
  simp only [yX] at h;split at h
  ·rename_i a b h1 h2;simp only [ai] at h;subst h;simp only [bx];rw [←Xg s x a h1,←Xh t l b h2]
  ·cases h
theorem XE:∀(ds:List DS) (v:au ds),tN ds v some=some (bx ds v)
 | [],_=>rfl
 | s::t,v=>by
  simp only [tN];rw [Br,XD];simp only [Option.bind];rw [Bs,XE t v.2];rfl
theorem Xi (s:VS) (x:V) (v:s.T) (h:pn s x=some v):sd s v some=some x:=by
 cases s with
 | one s=>
  cases x with
  | one c=>
   simp only [pn] at h;simp only [sd];rw [Br,XD,Xg s c v h];rfl
  | agg cs=>cases h
  | aq vs=>cases h
 | fm=>
  cases x with
  | one c=>cases c<;>simp only [pn] at h<;>cases h<;>rfl
  | agg cs=>cases h
  | aq vs=>cases h
 | agg ds=>
  cases x with
  | agg cs=>
   simp only [pn] at h;cases h1:mR cs with
   | none=>simp [h1] at h
   | some l=>
    simp only [h1] at h;simp only [sd];rw [w7,OJ ds l v h,Xe h1];rfl
  | one c=>cases h
  | aq vs=>cases h
theorem Xj:∀(ss:List VS) (l:List V) (v:yK ss),yY ss l=some v→tO ss v some=some l
 | [],[],v,_=>rfl
 | [],x::l,v,h=>by cases h
 | s::t,[],v,h=>by cases h
 | s::t,x::l,v,h=>by
  simp only [yY] at h;cases h1:pn s x with
  | none=>simp [h1] at h
  | some a=>
   cases h2:yY t l with
   | none=>simp [h1,h2] at h
   | some b=>
    simp only [h1,h2,ai] at h;subst h;simp only [tO];rw [Bu,Xi s x a h1];simp only [Option.bind];rw [Bv,Xj t l b h2];rfl
theorem OH:∀(ss:List (List DS)) (l:List (List C)) (v:yH ss),sc ss l=some v→po ss v some=some l
 | [],[],v,_=>rfl
 | [],x::l,v,h=>by cases h
 | s::t,[],v,h=>by cases h
 | s::t,x::l,v,h=>by
  simp only [sc] at h;cases h1:yX s x with
  | none=>simp [h1] at h
  | some a=>
   cases h2:sc t l with
   | none=>simp [h1,h2] at h
   | some b=>
    simp only [h1,h2,ai] at h;subst h;simp only [po];rw [Bs,XE];simp only [Option.bind];rw [u4,OH t l b h2,←Xh s x a h1];rfl
theorem afP (s:RS) (x:V×List (List C)) (v:s.T) (h:ig s x=some v):qV s v some=some x:=by
 obtain ⟨x,out⟩:=x;cases s with
 | val s bs=>
  simp only [ig] at h;cases h1:pn s x with
  | none=>simp [h1] at h
  | some a=>
   cases h2:sc bs out with
   | none=>simp [h1,h2] at h
   | some b=>
    simp only [h1,h2,ai] at h;subst h;simp only [qV];rw [Bu,Xi s x a h1];simp only [Option.bind];rw [u4,OH bs out b h2];rfl
 | aq ss bs=>
  cases x with
  | aq xs=>
   simp only [ig] at h;cases h1:yY ss xs with
   | none=>simp [h1] at h
   | some a=>
    cases h2:sc bs out with
    | none=>simp [h1,h2] at h
    | some b=>
     simp only [h1,h2,ai] at h;subst h;simp only [qV];rw [Bv,Xj ss xs a h1];simp only [Option.bind];rw [u4,OH bs out b h2];rfl
  | one c=>cases h
  | agg cs=>cases h
theorem Mw (an:iP) (dst:Nat) (l:List D):(Ds an dst l).le (pure l):=by
 unfold Ds;cases an.row dst with
 | none=>exact Q.le.refl _
 | some ds=>
  have Ff:∀(R:Type) (k:List D→Option R) x,(cA ds l fun v=>ow ds v k)=some x→k l=some x:=by
   intro R k x h;unfold cA at h;cases h1:dV ds l with
   | none=>simp [h1] at h
   | some v=>
    simp only [h1] at h;rw [w7,OJ ds l v h1] at h;exact h
  intro S x h;have hr:(cA ds l fun v=>ow ds v fun b=>(Q.ret b:Q (List D)).run S)=some x:=h;have h1:=Ff _ _ _ hr;refine ⟨h1,?_⟩;show ((cA ds l fun v=>ow ds v fun b=>some ((Q.ret b:Q (List D)).reads S)).getD [])=[]
  cases hh:(cA ds l fun v=>ow ds v fun b=>some ((Q.ret b:Q (List D)).reads S)) with
  | none=>rfl
  | some y=>have:=Ff _ _ _ hh;simp only [Q.reads,ai] at this;rw [←this];rfl
theorem acx (s:RS) (o:Option (V×List (List C))):(Q.res s o).le (Q.dr o):=by
 have Ff:∀(R:Type) (k:V×List (List C)→Option R) x,(aH s o fun v=>qV s v k)=some x→∃y,o=some y∧k y=some x:=by
  intro R k x h;unfold aH at h;cases o with
  | none=>simp at h
  | some y=>
   simp only at h;cases h1:ig s y with
   | none=>simp [h1] at h
   | some v=>
    simp only [h1] at h;rw [XF,afP s y v h1] at h;exact ⟨y,rfl,h⟩
 intro S x h;have hr:(aH s o fun v=>qV s v fun b=>(Q.ret b:Q (V×List (List C))).run S)=some x:=h;obtain ⟨y,ho,h1⟩:=Ff _ _ _ hr;subst ho;simp only [Q.run,ai] at h1;subst h1;refine ⟨by simp,?_⟩;show ((aH s (some y) fun v=>qV s v fun b=>some ((Q.ret b:Q (V×List (List C))).reads S)).getD [])=[]
 cases hh:(aH s (some y) fun v=>qV s v fun b=>some ((Q.ret b:Q (V×List (List C))).reads S)) with
 | none=>rfl
 | some z=>obtain ⟨_,_,h4⟩:=Ff _ _ _ hh;simp only [Q.reads,ai] at h4;rw [←h4];rfl
theorem aoW (an:iP) (f:Nat) (bs:List (List C)) (o:Option (V×List (List C))):(S9 an f bs o).le (Q.dr o):=by
 unfold S9;split
 ·exact Q.le.no _
 ·split
  ·split
   ·exact acx _ _
   ·split
    ·exact acx _ _
    ·exact Q.le.refl _
  ·exact Q.le.refl _
theorem afq (an:iP) (Cl:bX) (dst f:Nat) (vs:List V) (ws:List Wr):(Ol an Cl dst f vs ws).le (yS Cl dst f vs ws):=by
 unfold Ol yS;refine .eT fun _=>.eT fun x=>?_
 obtain ⟨rs,bs⟩:=x;refine .eT fun eR=>.eT fun dK=>(aoW _ f _ _).bind fun x=>?_
 exact .refl _
@[simp] theorem Q.acu {α:Type} (S:St) (a:α):(pure a:Q α).reads S=[]:=rfl
@[simp] theorem Q.S7 (S:St) (b:Bool):(Q.guard b).reads S=[]:=by cases b<;>rfl
@[simp] theorem Q.aoT (S:St) (b:Bool):(Q.ask b).reads S=[]:=by cases b<;>rfl
@[simp] theorem Q.aoU {α:Type} (S:St) (o:Option α):(Q.dr o).reads S=[]:=by cases o<;>rfl
theorem Q.G1 {α:Type} (S:St) (b:Bool) (x:α):(Q.guard b >>= fun _=>(pure x:Q α)).reads S=[]:=by
 cases b<;>rfl
theorem ae8 (tc:TC) (op:BinOp) (x y:V):(NV tc op x y).le (Q.dr (r6 tc op x y)):=by
 unfold NV;split
 ·rename_i k a k' b;split
  ·refine .GJ (fun S x h=>?_) (fun S=>Q.G1 ..) (fun S=>by simp);simp only [Q.run_bind,Q.lD,Q.run_pure] at h;by_cases hg:(decide (k=k') && !decide (b=0))=true
   ·simp only [bK,fA,nA,U9] at hg;obtain ⟨rfl,hb⟩:=hg;simpa [hb,r6,Cp] using h
   ·simp [hg] at h
  ·refine .GJ (fun S x h=>?_) (fun S=>Q.G1 ..) (fun S=>by simp);simp only [Q.run_bind,Q.lD,Q.run_pure] at h;by_cases hg:(decide (k=k') && !decide (b=0))=true
   ·simp only [bK,fA,nA,U9] at hg;obtain ⟨rfl,hb⟩:=hg;simpa [hb,r6,Cp] using h
   ·simp [hg] at h
  ·refine .GJ (fun S x h=>?_) (fun S=>Q.G1 ..) (fun S=>by simp);simp only [Q.run_bind,Q.lD,Q.run_pure] at h;by_cases hb:b < 0
   ·simp [hb] at h
   ·simpa [hb,r6,Dz] using h
  ·refine .GJ (fun S x h=>?_) (fun S=>Q.G1 ..) (fun S=>by simp);simp only [Q.run_bind,Q.lD,Q.run_pure] at h;by_cases hb:b < 0
   ·simp [hb] at h
   ·simpa [hb,r6,Dz] using h
  ·exact .refl _
 ·rename_i a b;split
  ·refine .GJ (fun S x h=>?_) (fun S=>Q.G1 ..) (fun S=>by simp);simp only [Q.run_bind,Q.lD,Q.run_pure] at h;by_cases hb:a.length+b.length≤9223372036854775807
   ·simpa [hb,r6,Hi] using h
   ·simp [hb] at h
  ·exact .refl _
 ·exact .refl _
theorem Xb:∀(p q:List (Nat×Nat)),Bm p q=true→FJ p q=true→p=q
 | [],[],_,_=>rfl
 | [],_::_,h,_=>by simp [Bm] at h
 | _::_,[],h,_=>by simp [Bm] at h
 | (i,c)::p,(i',c')::q,h,h'=>by
  simp only [Bm,bK] at h;simp only [FJ,bK] at h';rw [mM h.1,mM h'.2,Xb p q h.2 h'.1]
theorem apM (ws:List Wr) (P:Place) (c:C):(TH ws P c).le (oV ws P c):=by
 unfold TH;split
 ·rename_i pl g a sz rows;split
  ·rename_i hb;simp only [bK,eU] at hb;intro S x hx;rw [Q.run_bind,Q.lD] at hx;by_cases hi:FJ pl.p P.p=true
   ·rw [aJ hi] at hx;have hp:pl=P:=by
     obtain ⟨k,j,p⟩:=pl;obtain ⟨k',j',p'⟩:=P;obtain ⟨h1,h2,h3⟩:=hb;simp only at h1 h2 h3 hi;rw [h1,mM h2,Xb p p' h3 hi]
    refine ⟨by simp only [oV,hp,bW];rw [hp] at hx;exact hx,?_⟩;rw [Q.wg,Q.S7,Q.lD,aJ hi];simp only [oV,hp,bW,uL]
   ·rw [aB hi] at hx;cases hx
  ·exact .refl _
 ·exact .refl _
theorem Yb (P:Place) (i:Nat):∀(l:List C) (ws:List Wr) (c:Nat),(I0 P i ws c l).le (va P i ws c l)
 | [],_,_=>.refl _
 | y::t,ws,c=>by
  unfold I0 va;refine (apM ws (P.sub i c) y).bind fun r=>?_
  obtain ⟨y',e8⟩:=r;dsimp only;split
  ·exact (Yb P i t e8 (c+1)).bind fun _=>.refl _
  ·exact .no _
theorem HZ (sz bytes:Nat) (v:V) (ws:List Wr) (src:List (List D)):(A4 sz bytes v ws src).le (wQ sz bytes v ws src):=by
 unfold A4;split
 ·rename_i b cp rows;refine Q.le.eT fun _=>?_
  intro S x h;simp only [Q.run_bind,Q.MD,Option.bind] at h;exact ⟨h,by cases src<;>rfl⟩
 ·exact .refl _
def Q.CY {α:Type} (S:St) (p q:Q α):Prop:=∀x,p.run S=some x→q.run S=some x∧p.reads S=q.reads S
theorem Q.CY.eT {α β:Type} {S:St} {p:Q α} {f g:α→Q β} (hf:∀a,p.run S=some a→Q.CY S (f a) (g a)):Q.CY S (p >>= f) (p >>= g):=by
 intro x hx;rw [Q.run_bind] at hx;cases hp:p.run S with
 | none=>simp [hp] at hx
 | some a=>
  simp only [hp,Option.bind] at hx;obtain ⟨h3,h4⟩:=hf a hp x hx;refine ⟨by rw [Q.run_bind,hp];exact h3,?_⟩;rw [Q.wg,Q.wg,hp];simp only [h4]
theorem XA {pl:Place} {i:Nat}:∀(zs oR:List D) (c:Nat) (v:V) (x:D) (ws:List Wr) (sz:Nat) (rows:List (List D)) (row:List D),eo x pl.p=some (.sl .own sz rows)→rows[i]? = some row→
  (∀(j:Nat) o,oR[j]? = some o→row[c+j]? = some o)→oR.length=zs.length→Hn zs oR=true→w5 v pl i c zs x ws=some (Ew pl i v c zs oR x ws)
 | [],oR,c,v,x,ws,sz,rows,row,_,_,_,_,_=>by simp [w5,Ew]
 | z::t,[],c,v,x,ws,sz,rows,row,_,_,_,h,_=>by cases h
 | z::t,o::os,c,v,x,ws,sz,rows,row,hn,hr,ho,hl,h8=>by
  simp only [Hn,bK] at h8;have hc:row[c]? = some o:=by simpa using ho 0 o rfl
  have fF:cellOf rows i c=some o:=kJ.2 ⟨row,hr,hc⟩;have Jy:eo x (pl.p++[(i,c)])=some o:=by
   rw [RU,hn];simp only [Option.bind_some];rw [C3,fF];simp only [Option.bind_some];cases o<;>rfl
  simp only [w5,Jy,Ew,h8.1,bW];rw [Bool.and_comm o.flat z.flat];have hi:i < rows.length:=(cw.1 hr).1;have hg:rows.getD i []=row:=by
   rw [kB,hr];rfl
  refine XA t os (c+1) _ _ _ sz (rows.set i (row.set c z)) (row.set c z) ?_ ?_ ?_ (by simpa using hl) h8.2
  ·rw [RW pl.p hn fF,hg]
  ·simp [hi]
  ·intro j o' hj;have:=ho (j+1) o' hj;rw [qL (by omega)];rw [show c+1+j=c+(j+1) by omega];exact this
theorem apN (ws:List Wr) (P:Place) (c:C):(TO ws P c).le (ta ws P c):=by
 unfold TO;split
 ·rename_i pl g sz off len;split
  ·rename_i hb;simp only [bK] at hb;obtain ⟨BV,oE⟩:=hb;show (ju ws pl g sz >>= fun y=>Q.guard (off==0&&len==y.2.2.length && !y.2.2.isEmpty) >>= fun _=>(pure (.d (.sl .own sz y.2.2),nj ws pl.k (sN y.1.v pl y.2.1)):Q (C×List Wr))).le
    (ju ws pl g sz >>= fun y=>Q.ask (!(pl.k==P.k)&&pl.k.Gw&&(off==0&&len==y.2.2.length && !y.2.2.isEmpty)) >>= fun t=>if t then (pure (.d (.sl .own sz y.2.2),nj ws pl.k (sN y.1.v pl y.2.1)):Q (C×List Wr)) else st ws (.view pl g sz off len))
   refine .eT fun y=>?_
   obtain ⟨e,x,rows⟩:=y;intro S r h;simp only [Q.run_bind,Q.lD] at h;by_cases hg:(off==0&&len==rows.length && !rows.isEmpty)=true
   ·simp only [hg,bW,Option.bind,Q.run_pure,ai] at h;subst h;have ht:(!(pl.k==P.k)&&pl.k.Gw&&(off==0&&len==rows.length && !rows.isEmpty))=true:=by
     simp only [bK] at hg ⊢;exact ⟨⟨BV,oE⟩,hg⟩
    constructor
    ·simp only [Q.run_bind,Q.MD,ht,Option.bind,bW,Q.run_pure]
    ·simp only [Q.wg,Q.S7,Q.aoT,Q.lD,Q.MD,hg,BV,oE,Bool.and_self,bW,Q.acu]
   ·simp [hg] at h
  ·exact .refl _
 ·exact .refl _
theorem acf (mv:Bool) (r:aI):∀(l:List C) (ws:List Wr) (c:Nat),(Mg mv r ws c l).le (putCells mv r ws c l)
 | [],ws,c=>.refl _
 | y::t,ws,c=>by
  unfold Mg putCells;refine Q.le.bind ?_ fun x=>?_
  ·unfold ace Mf;split
   ·exact apN _ _ _
   ·exact .refl _
  ·obtain ⟨y',e8⟩:=x;refine (acf mv r t e8 (c+1)).bind fun x=>?_
   exact .refl _
theorem ahT (an:iP) (Cl:bX) (dst:Nat) (op:pa):(sh an Cl dst op).le (bq Cl dst op):=by
 cases op with
 | pick c a b=>
  unfold sh bq;refine .eT fun v=>?_
  split
  ·rename_i t;cases t with
   | true=>
    intro S x h;exact ⟨h,rfl⟩
   | false=>
    intro S x h;exact ⟨h,rfl⟩
  ·exact .no _
 | load n agg x=>
  unfold sh bq;refine .eT fun v=>?_
  split
  ·exact .refl _
  ·rename_i cells;refine .eT fun _=>?_
   have:(do let r' ←lQ agg ((cells.take n).map .d);pure (r',[]):Q (V×List Wr))=(do let l ←(pure (cells.take n):Q (List D));let r' ←lQ agg (l.map .d);pure (r',[])):=rfl;rw [this];exact (Mw an dst _).bind fun _=>.refl _
  ·rename_i pl g sz i c;refine .eT fun y=>?_
   obtain ⟨e,x0,rows⟩:=y;refine .eT fun row=>.eT fun _=>?_
   have:(do let r' ←lQ agg (rj pl g i c ((row.drop c).take n));pure (r',[]):Q (V×List Wr))=(do let l ←(pure ((row.drop c).take n):Q (List D));let r' ←lQ agg (rj pl g i c l);pure (r',[])):=rfl;rw [this];exact (Mw an dst _).bind fun _=>.refl _
  ·exact .refl _
  ·exact .no _
 | store mv n x v=>
  unfold sh bq;refine .eT fun p=>.eT fun vv=>.eT fun _=>?_
  split
  ·refine (acf mv _ _ _ _).bind fun x=>?_
   exact .refl _
  ·rename_i pl g sz i c;refine Q.le.trans ((Yb pl i vv.1.cells vv.2 c).bind fun _=>.refl _) ?_;intro S;refine Q.CY.eT fun zz hz=>Q.CY.eT fun er he=>Q.CY.eT fun row de=>?_
   obtain ⟨zs,fe⟩:=zz;obtain ⟨e,x0,rows⟩:=er;obtain ⟨_,_,_,hn⟩:=uu he;simp only [Q.ym] at de;intro y hy;rw [Q.run_bind,Q.lD] at hy;by_cases hg:(decide (c+n≤row.length)&&zs.length==n)=true
   ·rw [aJ hg] at hy;simp only [bK,fA,eU] at hg;simp only [Option.bind,Q.run_bind] at hy;cases ho:(Ds an (MF x) ((row.drop c).take n)).run S with
    | none=>simp [ho] at hy
    | some dH=>
     have hold:=(Mw an (MF x) _ S dH ho).1;simp only [Q.run_pure,ai] at hold;simp only [ho,Q.lD] at hy;by_cases jV:(dH.length==n&&Hn zs dH)=true
     ·simp only [jV,bW,Q.run_pure,ai] at hy;have E8:=jV;simp only [bK,eU] at E8;have hlen:dH.length=zs.length:=by omega
      have tW := XA (pl := pl) (i := i) zs dH c e.v x0 fe sz rows row hn de (by
        intro j o hj
        rw [← hold] at hj
        rw [Na] at hj
        split at hj
        · rwa [tC] at hj
        · cases hj) hlen E8.2
      constructor
      ·simp only [Q.run_bind,Q.lD,hg.1,decide_true,bW,Option.bind,Q.ym,tW,Q.run_pure,hy]
      ·simp only [Q.wg,Q.S7,Q.lD,hg.1,hg.2,decide_true,Nn,Bool.and_self,bW,(Mw an (MF x) _ S dH ho).2,ho,jV,Q.acu,Q.aoU,Q.ym,tW,mJ]
     ·simp [jV] at hy
   ·rw [aB hg] at hy;cases hy
  ·exact .no _
 | bin tc op x y=>
  unfold sh bq;exact .eT fun a=>.eT fun b=>(ae8 tc op a b).bind fun _=>.refl _
 | app sz bytes x y=>
  unfold sh bq;refine .eT fun a=>?_
  obtain ⟨a,ws⟩:=a;refine .eT fun a=>?_
  obtain ⟨a,ws⟩:=a;refine .eT fun b=>?_
  exact HZ _ _ b.1 b.2 a
 | A5 sz bytes x y=>
  unfold sh bq;refine .eT fun a=>?_
  split
  ·refine .eT fun a=>.eT fun _=>.eT fun b=>?_
   exact HZ _ _ b.1 b.2 _
  ·rename_i sH;try split
   all_goals first
    | exact absurd rfl (sH _ _ _ _ _)
    | (unfold XL
       refine .eT fun a => ?_
       obtain ⟨a, ws⟩ := a
       refine .eT fun a => ?_
       obtain ⟨a, ws⟩ := a
       refine .eT fun b => ?_
       exact HZ _ _ b.1 b.2 a)
 | A3 x y=>
  unfold sh bq;refine .eT fun a=>?_
  split
  ·refine .eT fun a=>?_
   exact HZ _ _ a.1 a.2 _
  ·exact .no _
 | call f args=>
  unfold sh bq;refine .eT fun v=>?_
  split
  ·refine .eT fun _=>.eT fun a=>?_
   exact afq _ _ _ _ _ a.2
  ·exact .no _
 | _=>exact .refl _
theorem St.kX:∀(S:St) (k:Key) (e:mN),S.get k=e→e≠⟨.one .dead,0⟩→S.put k e=S
 | [],k,e,h,hn=>absurd h.symm hn
 | (k',e')::t,k,e,h,hn=>by
  simp only [St.get] at h;simp only [St.put];by_cases hk:k'=k
  ·simp only [hk,bW] at h ⊢;rw [h]
  ·simp only [hk,dE] at h ⊢;rw [St.kX t k e h hn]
theorem aq4 {R:Type} {S:St} {g:Option (Nat×Bool)} {K:Bool→St→List Key→Option R} {r:R} (h:Uq S g K=some r) :
  ∃want,(BO g).run S=some want∧K want S ((BO g).reads S).reverse=some r:=by
 unfold Uq at h;cases g with
 | none=>exact ⟨true,rfl,h⟩
 | some x=>
  obtain ⟨t,b⟩:=x;simp only at h;cases he:S.get (.s t) with
  | mk v c=>
   rw [he] at h;have iT:(BO (some (t,b))).run S=(match v with | .one (.d (.bool x))=>(pure (x==b):Q Bool) | .aq []=>pure false | _=>Q.no).run S:=by
    show (Q.run S (match (S.get (.s t)).v with | .one (.d (.bool x))=>(pure (x==b):Q Bool) | .aq []=>pure false | _=>Q.no))=_;rw [he]
   have Zp:∀y,(match v with | .one (.d (.bool x))=>(pure (x==b):Q Bool) | .aq []=>pure false | _=>Q.no)=pure y→(BO (some (t,b))).reads S=[.s t]:=by
    intro y hy;show (.s t::Q.reads S (match (S.get (.s t)).v with | .one (.d (.bool x))=>(pure (x==b):Q Bool) | .aq []=>pure false | _=>Q.no))=_;rw [he];simp only [hy];rfl
   split at h
   ·rename_i x c' heq;cases heq;have h2:K (x==b) (S.put (.s t) ⟨.one (.d (.bool x)),c⟩) [.s t]=some r:=by
     cases x<;>exact h
    rw [St.kX S _ _ he (by simp)] at h2;refine ⟨x==b,by rw [iT];rfl,?_⟩;rw [Zp _ rfl];exact h2
   ·rename_i c' heq;cases heq;refine ⟨false,by rw [iT];rfl,?_⟩;rw [Zp _ rfl];exact h
   ·cases h
theorem O9 {R:Type} {r:aI} {x:R}:∀{n c:Nat} {S:St} {K:St→Option R},Bx r n c S K=some x→K S=some x
 | 0,c,S,K,h=>h
 | n+1,c,S,K,h=>by
  simp only [Bx] at h;split at h
  ·rename_i t sz rows g he;have h1:Bx r n (c+1) (S.put (.b r c) ⟨.one (.d (.sl t sz rows)),g⟩) K=some x:=by
    cases t<;>exact h
   have h2:=O9 h1;rw [St.kX S _ _ he (by simp)] at h2;exact h2
  ·exact O9 h
theorem Pb {R:Type} {n:Nat} {v:V} {S:St} {K:St→Option R} {x:R} (h:EE n v S K=some x):K S=some x:=by
 unfold EE at h;split at h
 ·exact O9 h
 ·exact h
theorem aiB {R:Type} {op:pa} {S:St} {K:St→Option R} {x:R} (h:O' op S K=some x):K S=some x:=by
 unfold O' at h;split at h
 ·exact Pb h
 ·exact Pb h
 ·exact h
theorem Pa {R:Type} {x:R}:∀{l:List RV} {S:St} {K:St→Option R},ED l S K=some x→K S=some x
 | [],S,K,h=>h
 | .cell t n a::l,S,K,h=>Pa (Pb (K:=fun S=>ED l S K) h)
 | .slot t::l,S,K,h=>Pa (l:=l) h
theorem XP {R:Type} {an:iP} {Cl:bX} {o:gx} {S:St} {K:St→List Key→List Wr→Option R} {r:R} (h:IP an Cl o S K=some r) :
  ∃ws,(gq Cl o).run S=some ws∧K S ((gq Cl o).reads S).reverse ws=some r:=by
 unfold IP at h;obtain ⟨want,h1,h2⟩:=aq4 h;clear h;unfold gq;rw [Q.run_bind,Q.wg,h1];simp only [Option.bind];cases want with
 | true=>
  simp only at h2;have h2:=aiB h2;rw [To] at h2;cases QD:(sh an Cl (o.dst.getD 0) o.op).run S with
  | none=>simp [QD] at h2
  | some x=>
   simp only [QD] at h2;obtain ⟨h3,h4⟩:=ahT an Cl (o.dst.getD 0) o.op S x QD;rw [h4] at h2;simp only [bW];rw [Q.run_bind,Q.wg,h3];obtain ⟨v,ws⟩:=x;cases hd:o.dst with
   | none=>
    simp only [hd,Option.bind,Option.getD] at h2 ⊢;exact ⟨ws,rfl,by simpa using h2⟩
   | some d=>
    simp only [hd,Option.bind,Option.getD] at h2 ⊢;exact ⟨_,rfl,by simpa using h2⟩
 | false=>
  simp only at h2;cases hd:o.dst with
  | none=>
   simp only [hd] at h2;exact ⟨[],rfl,by simpa using h2⟩
  | some d=>
   simp only [hd] at h2;exact ⟨_,rfl,by simpa using h2⟩
section
variable {R:Type} {r:R}
theorem X6:∀{f i g:Nat} {K:Nat→Option R},IV f i g K=some r→K g=some r
 | 0,_,_,_,h=>by cases h
 | f+1,i,g,K,h=>by
  simp only [IV] at h;split at h
  ·rename_i hb;rw [mM hb];exact h
  ·exact X6 h
theorem si {g:Nat} {K:Nat→Option R} (h:fN g K=some r):K g=some r:=X6 h
theorem Pe {x:aI} {K:aI→Option R} (h:IW x K=some r):K x=some r:=by cases x<;>exact h
theorem Pd:∀{x:Key} {K:Key→Option R},IU x K=some r→K x=some r
 | .s _,_,h=>h
 | .b _ _,_,h=>si (Pe h)
 | .r _,_,h=>Pe h
 | .h _,_,h=>h
 | .a k,K,h=>Pd (x:=k) (K:=fun k=>K (.a k)) h
theorem X4 {x:D} {K:D→Option R} (h:fD x K=some r):K x=some r:=by
 cases x<;>exact h
theorem Pc {x:C} {K:C→Option R} (h:fC x K=some r):K x=some r:=by
 cases x with
 | d x=>exact X4 (K:=fun x=>K (.d x)) h
 | ptr a g c=>exact si (K:=fun c=>K (.ptr a g c)) (si (K:=fun g=>fN c fun c=>K (.ptr a g c)) (Pe (K:=fun a=>fN g fun g=>fN c fun c=>K (.ptr a g c)) h))
 | eE pl g sz i c=>exact si (K:=fun c=>K (.eE pl g sz i c)) (si (K:=fun g=>fN c fun c=>K (.eE pl g sz i c)) h)
 | view pl g sz off len=>exact si (K:=fun g=>K (.view pl g sz off len)) h
 | c6 pl g a sz rows=>exact si (K:=fun a=>K (.c6 pl g a sz rows)) (si (K:=fun g=>fN a fun a=>K (.c6 pl g a sz rows)) h)
 | mp x=>exact X4 (K:=fun x=>K (.mp x)) h
 | gi i g=>exact si (K:=fun g=>K (.gi i g)) h
 | _=>exact h
theorem IT:∀{l:List C} {K:List C→Option R},Bz l K=some r→K l=some r
 | [],_,h=>h
 | c::t,K,h=>IT (K:=fun t=>K (c::t)) (Pc (K:=fun c=>Bz t fun t=>K (c::t)) h)
theorem IY:∀{l:List V} {K:List V→Option R},zb l K=some r→K l=some r
 | [],_,h=>h
 | .one c::t,K,h=>IY (K:=fun t=>K (.one c::t)) (Pc (K:=fun c=>zb t fun t=>K (.one c::t)) h)
 | .agg cs::t,K,h=>IY (K:=fun t=>K (.agg cs::t)) (IT (K:=fun cs=>zb t fun t=>K (.agg cs::t)) h)
 | .aq vs::t,K,h=>IY (K:=fun t=>K (.aq vs::t)) h
theorem Pg {x:V} {K:V→Option R} (h:fV x K=some r):K x=some r:=by
 cases x with
 | one c=>exact Pc (K:=fun c=>K (.one c)) h
 | agg cs=>exact IT (K:=fun cs=>K (.agg cs)) h
 | aq vs=>exact IY (K:=fun vs=>K (.aq vs)) h
theorem aiC {x:Bool} {K:Bool→Option R} (h:X5 x K=some r):K x=some r:=by cases x<;>exact h
theorem Ph:∀{l:List Wr} {K:List Wr→Option R},IZ l K=some r→K l=some r
 | [],_,h=>h
 | ⟨k,v,b⟩::t,K,h=>by
  have h:=aiC (Pg (Pd h));exact Ph (K:=fun t=>K (⟨k,v,b⟩::t)) h
theorem X3:∀{l:List (List C)} {K:List (List C)→Option R},IS l K=some r→K l=some r
 | [],_,h=>h
 | c::t,K,h=>X3 (K:=fun t=>K (c::t)) (IT (K:=fun c=>IS t fun t=>K (c::t)) h)
theorem EF:∀{l:St} {K:St→Option R},BA l K=some r→K l=some r
 | [],_,h=>h
 | (k,⟨v,g⟩)::t,K,h=>by
  have h:=si (Pg (Pd h));exact EF (K:=fun t=>K ((k,⟨v,g⟩)::t)) h
theorem Pf:∀{l:St} {K:St→Option R},IX l K=some r→K l=some r
 | [],_,h=>h
 | (k,⟨v,g⟩)::t,K,h=>by
  have h:=si h;exact Pf (K:=fun t=>K ((k,⟨v,g⟩)::t)) h
end
theorem O7 {R:Type} {an:iP} {Cl:bX}:∀{ops:List gx} {S:St} {K:St→Option R} {r:R},Ez an Cl ops S K=some r→
  ∃S',mc Cl ops S=some S'∧K S'=some r
 | [],S,K,r,h=>⟨S,rfl,h⟩
 | o::t,S,K,r,h=>by
  simp only [Ez] at h;obtain ⟨ws,h1,h2⟩:=XP h;obtain ⟨S',h3,h4⟩:=O7 (Pf (Ph h2));exact ⟨S',by simp only [mc,h1,Option.bind];exact h3,h4⟩
theorem XR {R:Type} {an:iP} {Cl:bX}:∀{ops:List gx} {S:St} {fs:List lL} {K:St→List lL→Option R} {r:R},EA an Cl ops S fs K=some r→
  ∃S' I7,ij Cl ops S=some (S',I7)∧K S' (fs.reverse++I7)=some r
 | [],S,fs,K,r,h=>⟨S,[],rfl,by simpa [EA] using h⟩
 | o::t,S,fs,K,r,h=>by
  simp only [EA] at h;obtain ⟨ws,h1,h2⟩:=XP h;obtain ⟨S',I7,h3,h4⟩:=XR (Pf (Ph h2));refine ⟨S',_,by simp only [ij,h1,Option.bind,h3,Option.map];rfl,?_⟩;simpa using h4
theorem afS {R:Type} {an:iP} {Cl:bX} {ops:List gx} {draw:Option (List (Nat×Nat))} {S:St} {K:St→Option R} {r:R} (h:OQ an Cl ops draw S K=some r) :
  ∃S',pv Cl none false ops draw S=some S'∧K S'=some r:=by
 unfold OQ at h;unfold pv;simp only [Option.bind];split at h
 ·obtain ⟨S',h1,h2⟩:=O7 h;exact ⟨S',by simpa using h1,h2⟩
 ·obtain ⟨S',h1,h2⟩:=O7 h;exact ⟨S',by simpa using h1,h2⟩
 ·rename_i ps az;obtain ⟨S',I7,h1,h2⟩:=XR h;simp only [List.reverse_nil,uL] at h2;split at h2
  ·rename_i hp;refine ⟨S',?_,h2⟩;cases ps with
   | nil=>exact absurd rfl az
   | cons p ps=>simp [h1,hp]
  ·cases h2
theorem XV {Cl:bX} {keep:Option (List Nat)} {gc:Bool} {ops:List gx} {draw:Option (List (Nat×Nat))} {S:St} :
  pv Cl keep gc ops draw S=(S.mE keep gc).bind (pv Cl none false ops draw):=by
 unfold pv St.mE;simp only [Option.bind_assoc];cases keep with
 | none=>cases gc<;>rfl
 | some l=>
  cases h:S.norm l with
  | none=>simp only [h,Option.bind]
  | some S1=>simp only [h,Option.bind];cases gc<;>rfl
theorem D9 {Cl:bX} {n:Nat} {keep:Option (List Nat)} {gc:Bool}:∀{c:jD},c.BY=true→∀(S:St),
  dm Cl n (kF keep gc (eM c)) S=(S.mE keep gc).bind (dm Cl n (eM c))
 | .iY k g ops draw,h,S=>by
  cases k with
  | none=>
   cases g with
   | false=>
    simp only [eM,kF];show (pv Cl keep gc ops draw S).map _=_;rw [XV];cases S.mE keep gc<;>rfl
   | true=>cases h
  | some=>cases h
 | .seq a b,h,S=>by
  simp only [eM,kF,dm];rw [D9 (c:=a) h S];cases S.mE keep gc<;>rfl
 | .block id b,h,S=>by
  simp only [eM,kF,dm];rw [D9 (c:=b) h S];cases S.mE keep gc<;>rfl
 | .join id k g a b,h,S=>by
  simp only [eM,kF,dm];rw [D9 (c:=a) h S];cases S.mE keep gc<;>rfl
 | .skip,h,_=>by cases h
 | .cond ..,h,_=>by cases h
 | .loop ..,h,_=>by cases h
 | .exit _,h,_=>by cases h
 | .ret,h,_=>by cases h
theorem afH {R:Type} {S:St} {c:X} {K:Bool→St→Option R} {r:R} (h:OC S c K=some r):∃b,yV S c=some b∧K b S=some r:=by
 unfold OC at h;split at h
 ·rename_i i;split at h
  ·rename_i b g he;have h1:K b (S.put (.s i) ⟨.one (.d (.bool b)),g⟩)=some r:=by cases b<;>exact h
   rw [St.kX S _ _ he (by simp)] at h1;refine ⟨b,?_,h1⟩;unfold yV;simp only [rd,Q.run_bind,Q.uA,Option.bind,he,Q.run_pure];rfl
  ·cases h
 ·rw [To] at h;unfold yV;cases hr:(rd c).run S with
  | none=>simp [hr] at h
  | some v=>
   simp only [hr] at h;split at h
   ·rename_i b;refine ⟨b,rfl,?_⟩;cases b<;>exact h
   ·cases h
theorem ZQ {R:Type} {id:Nat} {f:St→kE R→Option R} {g:St→Option (tH×St)} {keep:Option (List Nat)} {gc:Bool} {K:kE R} {r:R}
  (hf:∀S K',f S K'=some r→∃e S',g S=some (e,S')∧K' e S'=some r) :
  ∀(m:Nat) (S S1:St),S.mE keep gc=some S1→Cq id f keep gc m S1 K=some r→∃e S',iter (fun S=>(S.mE keep gc).bind g) m S=some (e,S')∧K e S'=some r
 | 0,_,_,_,h=>by cases h
 | m+1,S,S1,hp,h=>by
  simp only [Cq] at h;obtain ⟨e,S',h1,h2⟩:=hf _ _ h;simp only [iter,hp,Option.bind,h1];cases e with
  | norm=>
   simp only [R5] at h2;cases Cb:S'.mE keep gc with
   | none=>simp [Cb] at h2
   | some S2=>
    simp only [Cb] at h2;exact ZQ hf m S' S2 Cb (EF h2)
  | exit i=>exact ⟨_,_,rfl,h2⟩
  | ret=>exact ⟨_,_,rfl,h2⟩
theorem adY:∀(ds:List DS) (v:au ds),T9 ds (bx ds v)=some v
 | [],_=>rfl
 | s::t,v=>by
  have h:=adY t v.2;unfold T9 at h ⊢;simp only [bx,yX,afp,h]
theorem aki {R:Type} {id:Nat} {f:St→kE R→Option R} {m:Nat} {S:St} {K:kE R} {r:R} (h:Rf id f m S K=some r):f S K=some r:=by
 cases m with
 | zero=>cases h
 | succ m=>exact h
theorem u7 {R:Type} {an:iP} {Cl:bX} {n:Nat}:∀{c:jD} {S:St} {K:kE R} {r:R},kK an Cl n c S K=some r→
  ∃e S',dm Cl n (eM c) S=some (e,S')∧K e S'=some r
 | .skip,S,K,r,h=>⟨_,_,rfl,h⟩
 | .exit id,S,K,r,h=>⟨_,_,rfl,h⟩
 | .ret,S,K,r,h=>⟨_,_,rfl,h⟩
 | .iY keep gc ops draw,S,K,r,h=>by
  simp only [kK] at h;cases hp:S.mE keep gc with
  | none=>simp [hp] at h
  | some S1=>
   simp only [hp] at h;obtain ⟨S',h1,h2⟩:=afS (EF h);refine ⟨_,S',?_,h2⟩;simp only [eM,dm,XV (keep:=keep) (gc:=gc),hp,Option.bind,h1];rfl
 | .seq a b,S,K,r,h=>by
  simp only [kK] at h;obtain ⟨e,S1,h1,h2⟩:=u7 h;cases e with
  | norm=>
   simp only [Dw] at h2;obtain ⟨e2,S2,h3,h4⟩:=u7 h2;exact ⟨e2,S2,by simp only [eM,dm,h1,Option.bind];exact h3,h4⟩
  | exit i=>exact ⟨_,S1,by simp only [eM,dm,h1,Option.bind],h2⟩
  | ret=>exact ⟨_,S1,by simp only [eM,dm,h1,Option.bind],h2⟩
 | .cond c a b,S,K,r,h=>by
  simp only [kK] at h;obtain ⟨t,h1,h2⟩:=afH h;cases t with
  | true=>
   obtain ⟨e,S1,h3,h4⟩:=u7 h2;exact ⟨e,S1,by simp only [eM,dm,h1,Option.bind,bW];exact h3,h4⟩
  | false=>
   obtain ⟨e,S1,h3,h4⟩:=u7 h2;exact ⟨e,S1,by simp only [eM,dm,h1,Option.bind];exact h3,h4⟩
 | .block id b,S,K,r,h=>by
  simp only [kK] at h;obtain ⟨e,S1,h1,h2⟩:=u7 h;cases e with
  | norm=>exact ⟨_,S1,by simp only [eM,dm,h1,Option.map],h2⟩
  | exit i=>
   simp only [NY] at h2;split at h2
   ·rename_i hb;have hi:i=id:=mM hb;exact ⟨.norm,S1,by simp only [eM,dm,h1,Option.map,hi,bW],h2⟩
   ·rename_i hb;have hi:i≠id:=by intro hi;subst hi;simp at hb
    exact ⟨.exit i,S1,by simp only [eM,dm,h1,Option.map,hi,dE],h2⟩
  | ret=>exact ⟨_,S1,by simp only [eM,dm,h1,Option.map],h2⟩
 | .loop id keep gc b,S,K,r,h=>by
  simp only [kK] at h;split at h
  ·rename_i hh;cases hp:S.mE keep gc with
   | none=>simp [hp] at h
   | some S1=>
    simp only [hp] at h;obtain ⟨e,S',h1,h2⟩:=ZQ (g:=dm Cl n (eM b)) (fun S K' h=>u7 h) n S S1 hp (EF h);refine ⟨e,S',?_,h2⟩;simp only [eM,dm];have:(dm Cl n (kF keep gc (eM b)))=(fun S=>(S.mE keep gc).bind (dm Cl n (eM b))):=by
     funext S;exact D9 hh S
    rw [this];exact h1
  ·cases h
 | .join id keep gc a b,S,K,r,h=>by
  simp only [kK] at h;split at h
  ·rename_i hh;obtain ⟨e,S1,h1,h2⟩:=u7 h;cases e with
   | norm=>
    simp only [Dw,Rd] at h2;cases hp:S1.mE keep gc with
    | none=>simp [hp] at h2
    | some S2=>
     simp only [hp] at h2;obtain ⟨e2,S3,h3,h4⟩:=u7 (aki (EF h2));refine ⟨e2,S3,?_,h4⟩;simp only [eM,dm,h1,Option.bind];rw [D9 hh S1,hp];exact h3
   | exit i=>exact ⟨_,S1,by simp only [eM,dm,h1,Option.bind],h2⟩
   | ret=>exact ⟨_,S1,by simp only [eM,dm,h1,Option.bind],h2⟩
  ·cases h
theorem XM {an:iP} {Cl:bX} {n:Nat} {fn:uS} {args:List V} {bx:List (List C)} {r:V×List (List C)} (h:Ey an Cl n fn args bx=some r) :
  u6 Cl n fn.fn args bx=some r:=by
 unfold Ey at h;split at h
 ·rename_i hl;obtain ⟨e,S',h1,h2⟩:=u7 h;unfold u6;have mf:args.length≤fn.fn.C4:=aeP hl;rw [aJ mf];have hb:fn.fn.body=eM fn.body:=rfl;rw [hb,h1];simp only [Option.bind];unfold Td at h2;split at h2
  ·cases h2
  ·rename_i az;have h2:=Pa h2;rw [To] at h2;have BZ:u9 ⟨0,fn.results,.skip,fn.forget⟩ bx=u9 fn.fn bx:=rfl;rw [BZ] at h2;have key:(u9 fn.fn bx).run S'=some r:=by
    cases hr:(u9 fn.fn bx).run S' with
    | none=>simp [hr] at h2
    | some x=>
     simp only [hr] at h2;have h3:=X3 (Pg h2);simpa using h3
   cases e with
   | exit i=>exact absurd rfl (az i)
   | norm=>exact key
   | ret=>exact key
 ·cases h
end
section
def tI (A B:bX):Prop:=∀f vs bx r,A f vs bx=some r→B f vs bx=some r
section
variable {A B:bX}
theorem an7 {α:Type} {o o':Option α} (h:∀x,o=some x→o'=some x):(Q.dr o).le (Q.dr o'):=by
 intro S x hx;rw [Q.ym] at hx;exact ⟨by rw [Q.ym];exact h x hx,by simp⟩
theorem afr (h:tI A B) (dst f:Nat) (vs:List V) (ws:List Wr):(yS A dst f vs ws).le (yS B dst f vs ws):=by
 unfold yS;refine .eT fun _=>.eT fun x=>?_
 obtain ⟨rs,bs⟩:=x;refine .eT fun eR=>.eT fun dK=>(an7 (h f eR dK)).bind fun x=>?_
 exact .refl _
theorem ahU (h:tI A B) (dst:Nat) (op:pa):(bq A dst op).le (bq B dst op):=by
 cases op with
 | call f args=>
  unfold bq;refine .eT fun vf=>?_
  split
  ·refine .eT fun _=>.eT fun x=>?_
   obtain ⟨vs,ws⟩:=x;exact afr h _ _ _ _
  ·exact .refl _
 | len b x=>cases b<;>exact .refl _
 | _=>exact .refl _
theorem XQ (h:tI A B) (o:gx):(gq A o).le (gq B o):=by
 unfold gq;refine .eT fun want=>?_
 split
 ·refine (ahU h _ _).bind fun x=>?_
  exact .refl _
 ·exact .refl _
theorem O8 (h:tI A B):∀(ops:List gx) (S S':St),mc A ops S=some S'→mc B ops S=some S'
 | [],S,S',he=>he
 | o::t,S,S',he=>by
  simp only [mc] at he ⊢;cases hr:(gq A o).run S with
  | none=>simp [hr] at he
  | some ws=>
   rw [hr] at he;rw [(XQ h o S ws hr).1];exact O8 h t _ S' he
theorem XS (h:tI A B):∀(ops:List gx) (S:St) x,ij A ops S=some x→ij B ops S=some x
 | [],S,x,he=>he
 | o::t,S,x,he=>by
  simp only [ij] at he ⊢;cases hr:(gq A o).run S with
  | none=>simp [hr] at he
  | some ws=>
   rw [hr] at he;obtain ⟨h1,h2⟩:=XQ h o S ws hr;rw [h1];simp only [Option.bind] at he ⊢;cases h3:ij A t (S.ah ws) with
   | none=>simp [h3] at he
   | some y=>
    rw [h3] at he;rw [XS h t _ y h3,←h2];exact he
theorem ahV (h:tI A B) (keep:Option (List Nat)) (gc:Bool) (ops:List gx) (draw:Option (List (Nat×Nat))) (S S':St) (he:pv A keep gc ops draw S=some S'):pv B keep gc ops draw S=some S':=by
 unfold pv at he ⊢;obtain ⟨S1,h1,he⟩:=ff.1 he;obtain ⟨S2,h2,he⟩:=ff.1 he;refine ff.2 ⟨S1,h1,ff.2 ⟨S2,h2,?_⟩⟩;split at he
 ·exact O8 h _ _ _ he
 ·exact O8 h _ _ _ he
 ·obtain ⟨y,h3,he⟩:=ff.1 he;exact ff.2 ⟨y,XS h _ _ y h3,he⟩
theorem ZS {f g:St→Option (tH×St)} (h:∀S x,f S=some x→g S=some x):∀(n:Nat) (S:St) x,iter f n S=some x→iter g n S=some x
 | 0,S,x,he=>by cases he
 | n+1,S,x,he=>by
  simp only [iter] at he ⊢;cases hf:f S with
  | none=>simp [hf] at he
  | some y=>
   rw [hf] at he;rw [h S y hf];simp only [Option.bind] at he ⊢;obtain ⟨e,S1⟩:=y;cases e with
   | norm=>exact ZS h n S1 x he
   | exit i=>exact he
   | ret=>exact he
theorem ahR (h:tI A B) (n:Nat):∀(c:lY) (S:St) x,dm A n c S=some x→dm B n c S=some x:=by
 intro c;induction c with
 | skip=>intro S x he;exact he
 | iY keep gc ops draw=>
  intro S x he;simp only [dm] at he ⊢;cases h1:pv A keep gc ops draw S with
  | none=>simp [h1] at he
  | some S'=>rw [h1] at he;rw [ahV h _ _ _ _ _ _ h1];exact he
 | seq a b zN zP=>
  intro S x he;simp only [dm] at he ⊢;cases h1:dm A n a S with
  | none=>simp [h1] at he
  | some y=>
   rw [h1] at he;rw [zN S y h1];obtain ⟨e,S1⟩:=y;simp only [Option.bind] at he ⊢;cases e with
   | norm=>exact zP S1 x he
   | exit i=>exact he
   | ret=>exact he
 | cond c a b zN zP=>
  intro S x he;simp only [dm] at he ⊢;cases h1:yV S c with
  | none=>simp [h1] at he
  | some t=>
   rw [h1] at he;simp only [Option.bind] at he ⊢;cases t with
   | true=>exact zN S x he
   | false=>exact zP S x he
 | block id b ih=>
  intro S x he;simp only [dm] at he ⊢;cases h1:dm A n b S with
  | none=>simp [h1] at he
  | some y=>rw [h1] at he;rw [ih S y h1];exact he
 | loop b ih=>intro S x he;simp only [dm] at he ⊢;exact ZS ih n S x he
 | exit id=>intro S x he;exact he
 | ret=>intro S x he;exact he
end
end
section
section
variable {nm:FuncId→Option Nat} {N:Nat} {S0:St} {w0:World} {L0:aw} {ws:List Wr} {a:Act} {w:World} {L:aw} {P:Program}
theorem vG {i c n sz:Nat} (hi:i < n) (hc:c < sz):i * sz+c < n * sz:=by
 have:(i+1) * sz≤n * sz:=pY _ hi;rw [lJ] at this;omega
theorem afu {rows:List (List D)} {sz k:Nat} (hlen:∀r∈rows,r.length=sz) (hk:k < rows.length * sz):∃i c x,cellOf rows i c=some x∧k=i * sz+c∧i < rows.length∧c < sz:=by
 have bf:0 < sz:=by
  rcases Nk sz with h | h
  ·rw [h] at hk;omega
  ·exact h
 have hi:k / sz < rows.length:=by rw [Nat.div_lt_iff_lt_mul bf];exact hk
 have hc:k % sz < sz:=DU _ bf;refine ⟨k / sz,k % sz,(rows[k / sz]'hi)[k % sz]'(by rw [hlen _ (bM hi)];exact hc),?_,?_,hi,hc⟩
 ·unfold cellOf;simp [hi,hlen _ (bM hi),hc]
 ·have:=Nat.div_add_mod k sz;rw [HM] at this;exact this.symm
theorem Ov (a b:List (List D)) (i c:Nat):cellOf (a++b) i c=if i < a.length then cellOf a i c else cellOf b (i - a.length) c:=by
 unfold cellOf;rw [List.getElem?_append];split<;>rfl
theorem World.ac4 (b:Nat):∀(vs:List Value) (o:Nat) (w:World) {cur:Array Value} {e:TypeId} {fz:Nat×Nat},w.heap[b]? = some (.cells cur e fz)→
  ∃dQ,(w.setCells b o vs).heap[b]? = some (.cells dQ e fz)∧dQ.size=cur.size∧(∀i,i < o→dQ[i]? = cur[i]?)∧(∀j v,vs[j]? = some v→o+j < cur.size→dQ[o+j]? = some v)∧
   ∀i,o+vs.length≤i→dQ[i]? = cur[i]?
 | [],o,w,cur,e,fz,h=>⟨cur,h,rfl,fun _ _=>rfl,fun j v hv=>by simp at hv,fun _ _=>rfl⟩
 | v::vs,o,w,cur,e,fz,h=>by
  have h1:=xi w b o v h;obtain ⟨dQ,g1,g2,g3,g4,g5⟩:=World.ac4 b vs (o+1) (w.setCell ⟨b,o,none⟩ v) h1;refine ⟨dQ,g1,by simpa using g2,?_,?_,?_⟩
  ·intro i hi;rw [g3 i (by omega),yw (by omega)]
  ·intro j u hu af;cases j with
   | zero=>
    simp only [kC,ai] at hu;subst hu;rw [jC,g3 o (by omega),wK];simp only [bW];rw [aJ (by omega)]
   | succ j=>
    have:=g4 j u (by simpa using hu) (by simp;omega);rwa [show o+1+j=o+(j+1) by omega] at this
  ·intro i hi;simp only [gk] at hi;rw [g5 i (by omega),yw (by omega)]
theorem World.ac5 (b:Nat):∀(vs:List Value) (o:Nat) (w:World) {B:Nat},B≠b→(w.setCells b o vs).heap[B]? = w.heap[B]?
 | [],_,_,_,_=>rfl
 | v::vs,o,w,B,h=>by rw [World.setCells,World.ac5 b vs (o+1) _ h,pz _ _ _ _ h]
theorem World.ac6 (b:Nat):∀(vs:List Value) (o:Nat) (w:World),(w.setCells b o vs).os=w.os∧(w.setCells b o vs).tape=w.tape∧(w.setCells b o vs).output=w.output∧(w.setCells b o vs).heap.size=w.heap.size∧(w.setCells b o vs).drawn=w.drawn
 | [],_,_=>⟨rfl,rfl,rfl,rfl,rfl⟩
 | v::vs,o,w=>by
  obtain ⟨h1,h2,h3,h4,h5⟩:=World.ac6 b vs (o+1) (w.setCell ⟨b,o,none⟩ v);exact ⟨h1,h2,h3,by rw [World.setCells,h4];simp,h5⟩
structure Src (P:Program) (sz:Nat) (w:World) (x:Value) (n:Nat) (news:Array Value):Prop where
 len:∀w':World,(Builtin.lenOf x).run P w' = .ok n w'
 read:∀w':World,w'.heap=w.heap→(Builtin.firstCells sz n x).run P w' = .ok news w'
 size:news.size=n * sz
 one:∀u∈news,u.oneCell'=true
theorem apk {t u ty e:TypeId} {i:TypeInfo} {d:TypeDesc} (ht:P.underlying t=some (.slice e)) (hu:P.underlying u=some d) (hd:∀k,d≠.int k) (hi:P.info? e=some i)
  {x:Value} {n:Nat} {news:Array Value} (hx:Src P i.size w x n news) {B o sLen sCap:Nat} (dG:sLen+n≤sCap)
  (hc:∀j,j < news.size→(w.cell? ⟨B,o+sLen * i.size+j,none⟩).isSome=true) (hf:∀j,j < news.size→w.frozen? ⟨B,o+sLen * i.size+j,none⟩=false) :
  (Builtin.append_ #[t,u] ty #[.slice (some ⟨B,o,none⟩) sLen sCap,x]).run P w =
   .ok (.slice (some ⟨B,o,none⟩) (sLen+n) sCap) (w.setCells B (o+sLen * i.size) news.toList):=by
 have hz:(match d with | .int _=>true | _=>false)=false:=by cases d<;>first | rfl | exact absurd rfl (hd _)
 have bp:=run_storeCells_cells (P:=P) B (o+sLen * i.size) news.toList 0 w (by simpa using hc) (by simpa using hf) (by simpa using hx.one);have ai9:(⟨B,o,none⟩:Addr).add (sLen * i.size)=⟨B,o+sLen * i.size,none⟩:=by unfold Addr.add;split<;>simp_all
 simp only [jC] at bp;simp [Builtin.append_,run_underlying ht,run_underlying hu,sizeOf,typeInfo,hi,hz,hx.len,hx.read,dG,bp,ai9]
theorem acR {t u ty e:TypeId} {i:TypeInfo} {d:TypeDesc} (ht:P.underlying t=some (.slice e)) (hu:P.underlying u=some d) (hd:∀k,d≠.int k) (hi:P.info? e=some i)
  {x:Value} {news:Array Value} (hx:Src P i.size w x 0 news) {b:Option Addr} {sLen sCap:Nat} (dG:sLen≤sCap) :
  (Builtin.append_ #[t,u] ty #[.slice b sLen sCap,x]).run P w = .ok (.slice b sLen sCap) w:=by
 have hz:(match d with | .int _=>true | _=>false)=false:=by cases d<;>first | rfl | exact absurd rfl (hd _)
 have hn:news = #[]:=by have:=hx.size;simpa using this
 subst hn;cases b with
 | none=>simp [Builtin.append_,run_underlying ht,run_underlying hu,sizeOf,typeInfo,hi,hz,hx.len,hx.read,dG]
 | some b=>simp [Builtin.append_,run_underlying ht,run_underlying hu,sizeOf,typeInfo,hi,hz,hx.len,hx.read,dG,storeCells]
theorem apl {t u ty e:TypeId} {i:TypeInfo} {d:TypeDesc} {z:Value} (ht:P.underlying t=some (.slice e)) (hu:P.underlying u=some d) (hd:∀k,d≠.int k) (hi:P.info? e=some i) (hz:i.zero=some z)
  {x:Value} {n:Nat} {news:Array Value} (hx:Src P i.size w x n news) {b:Option Addr} {sLen sCap:Nat} {oR:Array Value} (dG:sCap < sLen+n)
  (ho:∀w':World,w'.heap=w.heap→(Builtin.firstCells i.size sLen (.slice b sLen sCap)).run P w' = .ok oR w')
  (BU:i.bytes≠0) (hb:(sLen+n) * i.bytes≤140737488355328) :
  (Builtin.append_ #[t,u] ty #[.slice b sLen sCap,x]).run P w =
   .ok (.slice (some ⟨w.heap.size,0,none⟩) (sLen+n) (grownCap w (sLen+n) sCap e))
    (w.drew.alloc (.cells (oR++news++Builtin.zeroCells z.cells (grownCap w (sLen+n) sCap e - (sLen+n))) e)):=by
 have hzz:(match d with | .int _=>true | _=>false)=false:=by cases d<;>first | rfl | exact absurd rfl (hd _)
 have hn:¬ (sLen+n≤sCap):=by omega
 have ai3:¬ (281474976710656 < Builtin.nextslicecap (sLen+n) sCap * i.bytes):=by
  have:=growslice_fits dG hb;omega
 have h1:=ho w.drew rfl;have h2:=hx.read w.drew rfl;simp [Builtin.append_,run_underlying ht,run_underlying hu,sizeOf,typeInfo,zeroValue,hi,hz,hzz,BU,hx.len,hn,ai3,Question.forced,h1,h2,newRow,grownCap]
def lW (m m2 n:Nat):Place→Option Place:=fun q=>
 if q.k = .h m2∧q.j=0 then (match q.p with | (i,c)::r=>some ⟨.h m,0,(n+i,c)::r⟩ | []=>none)
 else if q.k = .h m∧q.j=0 then (match q.p with | (i,_)::_=>if i < n then some q else none | []=>some q)
 else some q
theorem Hc {m m2 n:Nat} {q:Place} (h:q.k.aT=true):lW m m2 n q=some q:=by
 unfold lW;rw [aB (fun e=>by rw [e.1] at h;simp [Key.aT] at h),aB (fun e=>by rw [e.1] at h;simp [Key.aT] at h)]
theorem adu {m m2 n:Nat} (az:m≠m2) {q t:Place} (h:lW m m2 n q=some t) :
  ((q.k = .h m2∧q.j=0)∧∃i c r,q.p=(i,c)::r∧t=⟨.h m,0,(n+i,c)::r⟩)∨
  ((q.k = .h m∧q.j=0)∧t=q∧∀i c r,q.p=(i,c)::r→i < n)∨
  (¬ (q.k = .h m2∧q.j=0)∧¬ (q.k = .h m∧q.j=0)∧t=q):=by
 unfold lW at h;split at h
 ·rename_i h1;split at h
  ·rename_i i c r hp;simp only [ai] at h;exact .inl ⟨h1,i,c,r,hp,h.symm⟩
  ·cases h
 ·rename_i h1;split at h
  ·rename_i h2;split at h
   ·rename_i i c r hp;split at h
    ·rename_i hi;simp only [ai] at h;exact .inr (.inl ⟨h2,h.symm,fun i' c' r' e=>by rw [hp] at e;simp only [qK,fL] at e;omega⟩)
    ·cases h
   ·rename_i hp;simp only [ai] at h;exact .inr (.inl ⟨h2,h.symm,fun i' c' r' e=>by rw [hp] at e;cases e⟩)
  ·rename_i h2;simp only [ai] at h;exact .inr (.inr ⟨h1,h2,h.symm⟩)
theorem TG {m m2 n:Nat} (az:m≠m2) {q q' t:Place} (h1:lW m m2 n q=some t) (h2:lW m m2 n q'=some t):q=q':=by
 have ext:∀{q q':Place},q.k=q'.k→q.j=q'.j→q.p=q'.p→q=q':=fun {q q'} a b c=>by cases q;cases q';simp_all
 rcases adu az h1 with ⟨a1,i,c,r,a2,a3⟩ | ⟨a1,a2,a3⟩ | ⟨a1,a2,a3⟩<;>rcases adu az h2 with ⟨b1,i',c',r',b2,b3⟩ | ⟨b1,b2,b3⟩ | ⟨b1,b2,b3⟩
 ·rw [a3] at b3;simp only [Place.mk.injEq,qK,fL,lh] at b3;refine ext (a1.1.trans b1.1.symm) (a1.2.trans b1.2.symm) ?_;rw [a2,b2,b3.2,b3.1.2,show i=i' by omega]
 ·have:=b3 (n+i) c r (by rw [←b2,a3]);omega
 ·exact absurd (by rw [←b3,a3];exact ⟨rfl,rfl⟩) b2
 ·have:=a3 (n+i') c' r' (by rw [←a2,b3]);omega
 ·rw [←a2,←b2]
 ·exact absurd (by rw [←b3,a2];exact a1) b2
 ·exact absurd (by rw [←a3,b3];exact ⟨rfl,rfl⟩) a2
 ·exact absurd (by rw [←a3,b2];exact b1) a2
 ·rw [←a3,←b3]
theorem Rel.wh {S:St} (h:Rel nm N S a w L) {f:Place→Option Place} (Ji:∀q:Place,q.k.aT=true→f q=some q) (q6:∀q q' t,f q=some t→f q'=some t→q=q') :
  Rel nm N S a w (cG f L):=by
 refine h.I8 ?_ ?_ (G3 h.eN (fun q q' t _ _ _ _ h1 h2 _ _=>q6 q q' t h1 h2)) (fun B B' r o o' h1 h2=>h.fB B B' r o o' (jv.1 h1) (jv.1 h2))
 ·intro B l hB hl;refine ⟨rfl,?_⟩;cases l with
  | bh=>exact jL.2 hB
  | box r o=>exact jv.2 hB
  | row q o=>exact gL hB (Ji q (hl q o rfl))
 ·intro B l hB;obtain ⟨l0,h0⟩:=G2 hB;exact h.fu B l0 h0
theorem G4 (f:Place→Option Place):dc w w L (cG f L):=
 ⟨rfl,rfl,rfl,bT _,fun B hB=>⟨jL.2 hB,rfl⟩,fun B _ hB=>⟨Mr hB,rfl⟩,fun B i o hB=>jv.2 hB⟩
theorem Vw {m:Nat} {pl:Place} (cK:pl.k.aT=true∨pl=⟨.h m,0,[]⟩) {m2 n0:Nat} (az:m≠m2) {rows src:List (List D)} {val iM:Nat→Nat→Value}
  (h1:∀i c x,cellOf rows i c=some x→bt w L ((if i < n0 then pl else ⟨.h m,0,[]⟩).sub i c) x (val i c)) (h2:oZ w L ⟨.h m2,0,[]⟩ src iM) (af:∀i c x,cellOf rows i c=some x→i < rows.length) :
  ∀i c x,cellOf (rows++src) i c=some x→bt w (cG (lW m m2 rows.length) L) ((if i < min n0 rows.length then pl else ⟨.h m,0,[]⟩).sub i c) x (if i < rows.length then val i c else iM (i - rows.length) c):=by
 intro i c x hx;rw [Ov] at hx;have hH:∀{t:Place} {y:D} {u:Value},bt w L t y u→(∃i c r,t=⟨.h m,0,(i,c)::r⟩∧i < rows.length)→bt w (cG (lW m m2 rows.length) L) t y u:=by
  intro t y u hy ht;refine bt.move id (fun t=>∃i c r,t=⟨.h m,0,(i,c)::r⟩∧i < rows.length) ?_ (fun _ _ _ _=>rfl) (fun B hB=>⟨jL.2 hB,rfl⟩) ?_ hy ht
  ·rintro q i' c' ⟨i,c,r,rfl,hi⟩;exact ⟨i,c,r++[(i',c')],rfl,hi⟩
  ·rintro B q o ⟨i,c,r,rfl,hi⟩ hL;refine ⟨gL hL ?_,rfl⟩;unfold lW;rw [aB (fun e=>by simp only [Key.h.injEq] at e;exact az e.1),aJ ⟨rfl,rfl⟩];simp only [id,hi,bW]
 by_cases hi:i < rows.length
 ·rw [aJ hi] at hx ⊢;have h0:=h1 i c x hx;by_cases hn:i < n0
  ·rw [aJ hn] at h0;rw [aJ (by omega)];rcases cK with cK | rfl
   ·refine bt.move id (fun q=>q.k=pl.k) (fun _ _ _ h=>h) (fun _ _ _ _=>rfl) (fun B hB=>⟨jL.2 hB,rfl⟩) ?_ h0 rfl;intro B q o hq hL;exact ⟨gL hL (Hc (by rw [hq];exact cK)),rfl⟩
   ·exact hH h0 ⟨i,c,[],rfl,hi⟩
  ·rw [aB hn] at h0;rw [aB (by omega)];exact hH h0 ⟨i,c,[],rfl,hi⟩
 ·rw [aB hi] at hx ⊢;rw [aB (by omega)];have h0:=h2 (i - rows.length) c x hx;have:=bt.move (w':=w) (L':=cG (lW m m2 rows.length) L) (fun q=>match q.p with | (i,c)::r=>⟨.h m,0,(rows.length+i,c)::r⟩ | []=>q) (fun q=>∃i c r,q=⟨.h m2,0,(i,c)::r⟩)
   (by rintro q i' c' ⟨i,c,r,rfl⟩;exact ⟨i,c,r++[(i',c')],rfl⟩) (by rintro q i' c' ⟨i,c,r,rfl⟩;rfl) (fun B hB=>⟨jL.2 hB,rfl⟩)
   (by
     rintro B q o ⟨i, c, r, rfl⟩ hL
     refine ⟨gL hL ?_, rfl⟩
     unfold lW
     rw [aJ ⟨rfl, rfl⟩]) h0 ⟨_, _, [], rfl⟩
  simp only [Place.sub,uL] at this ⊢;rwa [show rows.length+(i - rows.length)=i by omega] at this
end
end
section
section
variable {nm:FuncId→Option Nat} {N:Nat} {S0:St} {w0:World} {L0:aw} {ws:List Wr} {a:Act} {w:World} {L:aw} {P:Program}
structure AY (P:Program) (sz bytes:Nat) (t u e:TypeId) (i:TypeInfo) (d:TypeDesc) (z:Value):Prop where
 ht:P.underlying t=some (.slice e)
 hu:P.underlying u=some d
 hd:∀k,d≠.int k
 hi:P.info? e=some i
 hz:i.zero=some z
 size:i.size=sz
 arI:z.cells.size=sz
 pos:0 < sz
 EW:i.bytes≤bytes
 arf:i.bytes≠0
 u8:bytes=1→e=5
theorem qT {B o:Nat} {cur:Array Value} {e:TypeId} {fz:Nat×Nat} (h:w.heap[B]? = some (.cells cur e fz)):w.cell? ⟨B,o,none⟩=cur[o]?:=by
 simp [World.cell?,h]
theorem Po {B o:Nat} {cur:Array Value} {e:TypeId} {fz:Nat×Nat} (h:w.heap[B]? = some (.cells cur e fz)) (hf:jA cur.size fz) (ho:o < cur.size):w.frozen? ⟨B,o,none⟩=false:=by
 have:=hf o ho;obtain ⟨lo,hi⟩:=fz;simp only at this;simp only [World.frozen?,h];cases hx:decide (lo≤o) with
 | false=>rfl
 | true=>
  cases hy:decide (o < hi) with
  | false=>rfl
  | true=>exact absurd ⟨by simpa using hx,by simpa using hy⟩ this
theorem oj (B o n:Nat):(⟨B,o,none⟩:Addr).add n=⟨B,o+n,none⟩:=by unfold Addr.add;split<;>simp_all
theorem acs {B o n:Nat} {cur:Array Value} {e:TypeId} {fz:Nat×Nat} (h:w.heap[B]? = some (.cells cur e fz)) (hn:o+n≤cur.size) :
  (loadCells ⟨B,o,none⟩ n).run P w = .ok (cur.extract o (o+n)) w:=by
 rw [run_loadCells w ⟨B,o,none⟩ n (fun j=>cur.getD (o+j) undef)]
 ·congr 1;apply Array.ext
  ·simp;omega
  ·intro i h1 h2;simp only [List.size_toArray,cy,UT] at h1;have:o+i < cur.size:=by omega
   simp [Array.getD,this]
 ·intro j hj;have:o+j < cur.size:=by omega
  rw [oj,qT h];simp [Array.getD,this]
theorem afU {H:Place} {f:Place→Option Place} {rows:List (List D)} {pl:Place} {n0:Nat} {val:Nat→Nat→Value} (hf:∀q:Place,q≠H→f q=some q) (hH:H.p=[])
  (h:∀i c x,cellOf rows i c=some x→bt w L ((if i < n0 then pl else H).sub i c) x (val i c)) (cK:pl.k≠H.k∨pl=H) :
  ∀i c x,cellOf rows i c=some x→bt w (cG f L) ((if i < n0 then pl else H).sub i c) x (val i c):=by
 intro i c x hx;refine bt.move id (fun q=>q≠H∧(q.p≠[]∨q.k≠H.k)) (fun q i c h=>⟨fun e=>?_,.inl (by simp [Place.sub])⟩) (fun _ _ _ _=>rfl) (fun B hB=>⟨jL.2 hB,rfl⟩)
  (fun B q o hq hL=>⟨gL hL (hf q hq.1),rfl⟩) (h i c x hx) ?_
 ·have:=fX Place.p e;rw [hH] at this;simp [Place.sub] at this
 ·refine ⟨fun e=>?_,.inl (by simp [Place.sub])⟩;have:=fX Place.p e;rw [hH] at this;simp [Place.sub] at this
theorem arc (z:Array Value) (n:Nat):(Builtin.zeroCells z n).size=n * z.size:=by simp [Builtin.zeroCells]
theorem H0 {S:St} (R:Rel nm N S a w L) {m m2:Nat} (az:m≠m2) {pl:Place} {sz bytes:Nat} {rows src:List (List D)} {v x:Value} {t u ty e:TypeId} {i:TypeInfo} {d:TypeDesc} {z:Value}
  (T:AY P sz bytes t u e i d z) (A:p5 w L pl sz rows ⟨.h m,0,[]⟩ v∨(rows=[]∧src≠[]∧v = .slice none 0 0))
  (cK:pl=⟨.h m,0,[]⟩∨(pl.k.aT=true∧∃x qG,(S.E pl.k).cells[pl.j]? = some (.d x)∧eo x pl.p=some (.sl .own sz qG)∧qG.length≤rows.length))
  {news:Array Value} {iM:Nat→Nat→Value} (hx:Src P sz w x src.length news) (lx:∀r∈src,r.length=sz) (gy:oZ w L ⟨.h m2,0,[]⟩ src iM) (dW:pe src sz 0 news iM)
  (BU:(rows.length+src.length) * bytes≤140737488355328) (h8:fT bytes src rows.isEmpty=true∨(fT bytes src false=true∧v = .slice none 0 0)) :
  ∃v' w' L',(Builtin.append_ #[t,u] ty #[v,x]).run P w = .ok v' w'∧dc w w' L L'∧p5 w' L' pl sz (rows++src) ⟨.h m,0,[]⟩ v'∧v'.oneCell'=true∧
   (pl=⟨.h m,0,[]⟩→Rel nm N S a w' L')∧(pl.k.aT=true→Rel nm N (S.wr { k:=.a pl.k,v:=V.dead }) a w' L'):=by
 obtain ⟨ht,hu,hd,hi,hz,rfl,ZH,bf,EW,BV,dX⟩:=T;have hb:(rows.length+src.length) * i.bytes≤140737488355328:=jd (Nat.mul_le_mul_left _ EW) BU;have anZ:src≠[]→tJ (rows++src) e:=by
  intro hs hn;have hn:lS (rows++src)=false:=hn.resolve_right fun e=>hs (Hz.1 e).2
  obtain ⟨k1,k2⟩:=vM.1 hn;have Ft:lS src=false:=vM.2 ⟨hs,fun r hr=>k2 r (aeK _ hr)⟩;apply dX;rcases h8 with h8 | ⟨h8,_⟩<;>simp only [fT,Ft,UG,eU] at h8<;>exact h8
 have Cc:pl.k.aT=true∨pl=⟨.h m,0,[]⟩:=cK.elim .inr (fun h=>.inl h.1);have JF:(rows++src).length=rows.length+src.length:=eu;have fresh:∀(b:Option Addr) (cap:Nat) (oR:Array Value) (n0:Nat) (val:Nat→Nat→Value),v = .slice b rows.length cap→cap < rows.length+src.length→oR.size=rows.length * i.size→
   (∀w':World,w'.heap=w.heap→(Builtin.firstCells i.size rows.length (.slice b rows.length cap)).run P w' = .ok oR w')→(∀r∈rows,r.length=i.size)→
   pe rows i.size 0 oR val→(∀i c x,cellOf rows i c=some x→bt w L ((if i < n0 then pl else ⟨.h m,0,[]⟩).sub i c) x (val i c))→src≠[]→
   ∃v' w' L',(Builtin.append_ #[t,u] ty #[v,x]).run P w = .ok v' w'∧dc w w' L L'∧p5 w' L' pl i.size (rows++src) ⟨.h m,0,[]⟩ v'∧v'.oneCell'=true∧
   (pl=⟨.h m,0,[]⟩→Rel nm N S a w' L')∧(pl.k.aT=true→Rel nm N (S.wr { k:=.a pl.k,v:=V.dead }) a w' L'):=by
  intro b cap oR n0 val hv dL oH zF gB B4 hcr hs8;subst hv;have iT:=apl (ty:=ty) (w:=w) ht hu hd hi hz hx dL zF BV hb;have zr:=Vw (w:=w) (L:=L) Cc az hcr gy (fun i c x h=>(oq gB h).1);let f:Place→Option Place:=fun q=>if q=⟨.h m,0,[]⟩ then none else some q
  have YV:∀q:Place,q≠⟨.h m,0,[]⟩→f q=some q:=fun q hq=>by simp only [f];rw [aB hq]
  have ajo:∀q q' t,f q=some t→f q'=some t→q=q':=by
   intro q q' t h1 h2;simp only [f] at h1 h2;split at h1
   ·cases h1
   ·split at h2
    ·cases h2
    ·simp only [ai] at h1 h2;rw [h1,h2]
  have ajh:=afU (H:=⟨.h m,0,[]⟩) YV rfl zr (Cc.elim (fun h=>.inl (fun e=>by rw [e] at h;simp [Key.aT] at h)) .inr);have qp:∀{S':St},Rel nm N S' a w L→Rel nm N S' a w (cG f (cG (lW m m2 rows.length) L)):=fun R'=>
   (R'.wh (fun q hq=>Hc hq) (fun q q' t h1 h2=>TG az h1 h2)).wh (fun q hq=>YV q (fun e=>by rw [e] at hq;simp [Key.aT] at hq)) ajo
  have eV:=grownCap_ge w (rows.length+src.length) cap e;have Zr:∀{S':St},Rel nm N S' a w L→Rel nm N S' a (w.drew.alloc (.cells (oR++news++Builtin.zeroCells z.cells (grownCap w (rows.length+src.length) cap e - (rows.length+src.length))) e))
    ((cG f (cG (lW m m2 rows.length) L)).put w.heap.size (.row ⟨.h m,0,[]⟩ 0)):=fun R'=>
   (qp R').drew.Vs (fun B o hB => by
     obtain ⟨q0, _, h2⟩ := oS hB
     simp only [f] at h2
     split at h2
     · cases h2
     · rename_i h3; simp only [ai] at h2; exact h3 h2) _ _
  have hD:=(qp R).drew.fu;refine ⟨_,_,(cG f (cG (lW m m2 rows.length) L)).put w.heap.size (.row ⟨.h m,0,[]⟩ 0),iT,?_,?_,rfl,fun _=>Zr R,fun _=>Zr (R.kill (.a pl.k) (fun r e=>by cases e))⟩
  ·exact ((G4 _).trans (G4 _)).trans ((dc.drew _ _).trans (dc.alloc _ _ hD _ _))
  ·refine .inr ⟨w.heap.size, 0, grownCap w (rows.length + src.length) cap e, _, e, (0, 0), min n0 rows.length, fun i c => if i < rows.length then val i c else iM (i - rows.length) c, by rw [JF], bf,
     .inr (aw.kX _ _ _), oF w.drew _, fun j _ => by simp, ?_, by rw [JF]; exact eV, ?_, ?_, ?_, anZ hs8⟩
   ·intro r hr;rcases dC.1 hr with hr | hr
    ·exact gB r hr
    ·exact lx r hr
   ·simp only [Array.size_append,oH,hx.size,arc,ZH,db,←lJ];rw [show rows.length+src.length+(grownCap w (rows.length+src.length) cap e - (rows.length+src.length))=grownCap w (rows.length+src.length) cap e by omega];exact bT _
   ·intro j c y hy;rw [Ov] at hy;simp only [db];by_cases hj:j < rows.length
    ·rw [aJ hj] at hy ⊢;obtain ⟨_,hc⟩:=oq gB hy;have af:=vG hj hc;rw [AQ (by simp;omega),AQ (by omega)];have:=B4 j c y hy;rwa [db] at this
    ·rw [aB hj] at hy ⊢;obtain ⟨lp,hc⟩:=oq lx hy;have af:=vG lp hc;have he:j * i.size=rows.length * i.size+(j - rows.length) * i.size:=by rw [←lJ];congr 1;omega
     rw [AQ (by rw [Array.size_append,oH,hx.size];omega),UC (by omega)];have:=dW (j - rows.length) c y hy;rwa [db,show (j - rows.length) * i.size+c=j * i.size+c - oR.size by omega] at this
   ·intro j c y hy;have h0:=ajh j c y hy;have JA:∀B l,(cG f (cG (lW m m2 rows.length) L)) B=some l→B≠w.heap.size:=fun B l hB e=>by
     have:=hD.new;simp only [World.size_drew] at this;rw [e,this] at hB;cases hB
    exact bt.move (w:=w) id (fun _=>True) (fun _ _ _ _=>trivial) (fun _ _ _ _=>rfl) (fun B hB=>⟨by rw [aw.gu (JA B _ hB)];exact hB,mW w.drew _ (JA B _ hB)⟩)
     (fun B q o _ hB=>⟨by rw [aw.gu (JA B _ hB)];exact hB,mW w.drew _ (JA B _ hB)⟩) h0 trivial
 rcases A with (⟨rfl,a0,rfl⟩ | ⟨B,o,cap,cur,e',fz,n0,val,rfl,_,hL,hB,cU,fQ,dL,dG,cm,dq,Py⟩) | ⟨rfl,Zv,rfl⟩
 ·by_cases hn:src.length=0
  ·have QM:src=[]:=pW.1 hn;subst QM;have iT:=acR (ty:=ty) (w:=w) (b:=some a0) (sLen:=0) (sCap:=0) ht hu hd hi hx (bT _);exact ⟨_,w,L,iT,dc.refl _ _,.inl ⟨rfl,a0,rfl⟩,rfl,fun _=>R,fun _=>R.kill (.a pl.k) (fun r e=>by cases e)⟩
  ·refine fresh (some a0) 0 #[] 0 (fun _ _=>undef) rfl (by simp;omega) (by simp) ?_ (by simp) (fun i c x h=>by simp [cellOf] at h) (fun i c x h=>by simp [cellOf] at h) (fun e=>hn (by rw [e];rfl));intro w' pD;simp [Builtin.firstCells,loadCells,loadCellsFrom]
 ·have eF:rows.length * i.size≤cap * i.size:=pY _ dL;by_cases E5:rows.length+src.length≤cap
  ·
   have ajj:(rows.length+src.length) * i.size≤cap * i.size:=pY _ E5;rw [lJ] at ajj;have iT:=apk (ty:=ty) (w:=w) (B:=B) (o:=o) (sLen:=rows.length) (sCap:=cap) ht hu hd hi hx E5
    (fun j hj=>by rw [qT hB];rw [hx.size] at hj;simp;omega) (fun j hj=>Po hB cU (by rw [hx.size] at hj;omega))
   obtain ⟨dQ,g1,g2,g3,g4,g5⟩:=World.ac4 B news.toList (o+rows.length * i.size) w hB;have lr:∀B',B'≠B→(w.setCells B (o+rows.length * i.size) news.toList).heap[B']? = w.heap[B']?:=fun B' h=>World.ac5 B _ _ _ h
   have zr:=Vw (w:=w) (L:=L) Cc az dq gy (fun i c x h=>(oq fQ h).1);have Ju:∃q,L B=some (.row q o):=hL.elim (fun h=>⟨_,h⟩) (fun h=>⟨_,h⟩);obtain ⟨qB,qW⟩:=Ju;have Fy:qB=pl∨qB=⟨.h m,0,[]⟩:=by
    rcases hL with h | h<;>rw [qW] at h<;>simp only [ai,bO.row.injEq,and_true] at h
    ·exact .inl h
    ·exact .inr h
   have YX:∀{S':St},qB.k.aT=false→Rel nm N S' a w L→Rel nm N S' a (w.setCells B (o+rows.length * i.size) news.toList) L:=by
    intro S' hq R';refine R'.I8 ?_ ?_ R'.eN R'.fB
    ·intro B' l dA hl;refine ⟨lr B' (fun e=>?_),dA⟩;rw [e,qW] at dA;simp only [ai] at dA;have:=hl qB o dA.symm;rw [hq] at this;cases this
    ·intro B' l dA;by_cases he:B'=B
     ·subst he;exact (lH.1 g1).1
     ·exact xh (R'.fu B' l dA) (lr B' he)
   have hR1:pl=⟨.h m,0,[]⟩→Rel nm N S a (w.setCells B (o+rows.length * i.size) news.toList) L:=by
    intro hp;refine YX ?_ R;rcases Fy with rfl | rfl
    ·rw [hp];rfl
    ·rfl
   have PF:pl.k.aT=true→Rel nm N (S.wr { k:=.a pl.k,v:=V.dead }) a (w.setCells B (o+rows.length * i.size) news.toList) L:=by
    intro hp;rcases Fy with rfl | rfl
    ·rcases cK with rfl | ⟨_,x0,qG,hE,hn,hle⟩
     ·simp [Key.aT] at hp
     ·refine R.aoA (n:=rows.length * i.size) hp hE hn (pY _ hle) qW hB (fun B' l _ h=>lr B' h) g1 g2 g3
    ·exact YX rfl (R.kill (.a pl.k) (fun r e=>by cases e))
   have Y0:∀B',L B'=some .bh→B'≠B:=fun B' h e=>by rw [e,qW] at h;cases h
   have arv:∀{q:Place} {B' o':Nat},L B'=some (.row q o')→q≠qB→B'≠B:=fun h hq e=>by
    rw [e,qW] at h;simp only [ai,bO.row.injEq] at h;exact hq h.1.symm
   refine ⟨_, _, cG (lW m m2 rows.length) L, iT, ?_, ?_, rfl, fun h => (hR1 h).wh (fun q hq => Hc hq) (fun q q' t h1 h2 => TG az h1 h2),
     fun h => (PF h).wh (fun q hq => Hc hq) (fun q q' t h1 h2 => TG az h1 h2)⟩
   ·refine dc.trans (L2:=L) (w2:=w.setCells B (o+rows.length * i.size) news.toList) ?_ (G4 _);obtain ⟨e1,e2,e3,e4,_⟩:=World.ac6 B news.toList (o+rows.length * i.size) w;refine ⟨e1,e2,e3,by rw [e4];exact bT _,fun B' h=>⟨h,lr B' (Y0 B' h)⟩,fun B' _ h=>⟨h,lr B' (fun e=>by rw [e,qW] at h;cases h)⟩,fun _ _ _ h=>h⟩
   ·have Qr:cG (lW m m2 rows.length) L B=some (.row qB o):=by
     refine gL qW ?_;rcases Fy with rfl | rfl
     ·rcases Cc with hp | rfl
      ·exact Hc hp
      ·unfold lW;rw [aB (fun e=>by simp only [Key.h.injEq] at e;exact az e.1),aJ ⟨rfl,rfl⟩]
     ·unfold lW;rw [aB (fun e=>by simp only [Key.h.injEq] at e;exact az e.1),aJ ⟨rfl,rfl⟩]
    refine .inr ⟨B,o,cap,dQ,e',fz,min n0 rows.length,fun i c=>if i < rows.length then val i c else iM (i - rows.length) c,by rw [JF],bf,?_,g1,by rw [g2];exact cU,?_,by rw [JF];exact E5,by rw [g2];exact dG,?_,?_,?_⟩
    ·rcases Fy with rfl | rfl
     ·exact .inl Qr
     ·exact .inr Qr
    ·intro r hr;rcases dC.1 hr with hr | hr
     ·exact fQ r hr
     ·exact lx r hr
    ·intro j c y hy;rw [Ov] at hy;simp only;by_cases hj:j < rows.length
     ·rw [aJ hj] at hy ⊢;obtain ⟨_,hc⟩:=oq fQ hy;have af:=vG hj hc;rw [pX,g3 _ (by omega),←pX];exact cm j c y hy
     ·rw [aB hj] at hy ⊢;obtain ⟨lp,hc⟩:=oq lx hy;have af:=vG lp hc;have he:j * i.size=rows.length * i.size+(j - rows.length) * i.size:=by rw [←lJ];congr 1;omega
      have h2:=dW (j - rows.length) c y hy;rw [db] at h2;have:=g4 ((j - rows.length) * i.size+c) _ (by simpa using h2) (by omega);rwa [show o+rows.length * i.size+((j - rows.length) * i.size+c)=o+j * i.size+c by omega] at this
    ·intro j c y hy;have h0:=zr j c y hy;refine bt.move id (fun q=>∃r s,(q=pl.app (r::s)∨q=⟨.h m,0,r::s⟩)) ?_ (fun _ _ _ _=>rfl) (fun B' dA=>⟨dA,lr B' (Y0 B' (jL.1 dA))⟩) ?_ h0 ?_
     ·rintro q i' c' ⟨r,s,h | h⟩
      ·exact ⟨r,s++[(i',c')],.inl (by rw [h,←Place.Ec];rfl)⟩
      ·exact ⟨r,s++[(i',c')],.inr (by rw [h];rfl)⟩
     ·rintro B' q o' ⟨r,s,hq⟩ dA;refine ⟨dA,lr B' (fun e=>?_)⟩;rw [e,Qr] at dA;simp only [ai,bO.row.injEq] at dA;have Ce:q=qB:=dA.1.symm;have Zl:∀r s,pl.app (r::s)≠pl:=fun r s e=>by have:=fX Place.p e;simp [Place.app] at this
      have YA:∀r s,(⟨.h m,0,r::s⟩:Place)≠⟨.h m,0,[]⟩:=fun r s e=>by simp at e
      rcases Fy with h1 | h1<;>rcases hq with h2 | h2
      ·exact Zl r s (by rw [←h2,Ce,h1])
      ·rcases Cc with h3 | h3
       ·have:pl=⟨.h m,0,r::s⟩:=by rw [←h1,←Ce,h2]
        rw [this] at h3;simp [Key.aT] at h3
       ·exact YA r s (by rw [←h2,Ce,h1,h3])
      ·rcases Cc with h3 | h3
       ·have:(pl.app (r::s)).k = .h m:=by rw [←h2,Ce,h1]
        simp only [Place.app] at this;rw [this] at h3;simp [Key.aT] at h3
       ·exact Zl r s (by rw [←h2,Ce,h1,h3])
      ·exact YA r s (by rw [←h2,Ce,h1])
     ·refine ⟨(j,c),[],?_⟩;by_cases hj:j < min n0 rows.length
      ·rw [aJ hj];exact .inl rfl
      ·rw [aB hj];exact .inr rfl
    ·intro hn;by_cases mo:src=[]
     ·rw [mo,mJ] at hn;exact Py hn
     ·have hn:lS (rows++src)=false:=hn.resolve_right fun e=>mo (Hz.1 e).2
      obtain ⟨k1,k2⟩:=vM.1 hn;by_cases xr:rows=[]
      ·exact Py (.inr xr)
      ·exact Py (.inl (vM.2 ⟨xr,fun r hr=>k2 r (HF _ hr)⟩))
  ·refine fresh (some ⟨B,o,none⟩) cap (cur.extract o (o+rows.length * i.size)) n0 val rfl (by omega) (by simp;omega) ?_ fQ ?_ dq (fun e=>by rw [e] at E5;simp at E5;omega)
   ·intro w' pD;simp only [Builtin.firstCells];exact acs (w:=w') (e:=e') (fz:=fz) (by rw [pD];exact hB) (by omega)
   ·intro j c y hy;obtain ⟨hj,hc⟩:=oq fQ hy;have af:=vG hj hc;have:=cm j c y hy;rw [db,UD];rw [aJ (by omega),←pX];exact this
 ·
  have hn:0 < src.length:=List.length_pos_iff.2 Zv;refine fresh none 0 #[] 0 (fun _ _=>undef) rfl (by simp;omega) (by simp) ?_ (by simp) (fun i c x h=>by simp [cellOf] at h) (fun i c x h=>by simp [cellOf] at h) Zv;intro w' pD;simp [Builtin.firstCells]
end
end
section
structure Hint where
 nt:Nat
 MO:Nat
 res:List Nat
 anH:List (Nat×List Nat)
 acv:List (Nat×(Option (List Nat)×Bool))
 deriving Inhabited
def FL:Option TypeDesc→Bool
 | some .string=>true
 | _=>false
def M6 (P:Program) (e:TypeId):Bool:=
 match P.info? e with
 | some i=>match i.zero with
  | some (.bool false)=>true
  | _=>false
 | none=>false
def Q9:Option TypeDesc→Bool
 | some .bool=>true
 | _=>false
def FM:Option TypeDesc→Bool
 | some (.int .u8)=>true
 | _=>false
def AH:TypeId:=5
def aiJ:Option TypeDesc→Bool
 | some (.int _)=>true
 | some .bool=>true
 | some .string=>true
 | _=>false
def wU (e:TypeId) (b:Nat):Nat:=if e=AH then b else if b=1 then 2 else b
section
variable (P:Program)
def jO (t:TypeId):Option Nat:=(P.info? t).map (·.size)
def O4 (t:TypeId):Option Nat:=
 match P.underlying t with
 | some (.slice e)=>jO P e
 | _=>none
def Bn (sz:Nat):Value→Option C
 | .int k n=>some (.d (.int k n))
 | .bool b=>some (.d (.bool b))
 | .string s=>some (.d (.str s.data.toList))
 | .slice none 0 0=>some (.d (.sl (.im true) sz []))
 | .pointer none=>some .cz
 | .nilFunc=>some .eX
 | .nilIface=>some .fS
 | _=>none
def OD (sz:Nat) (v:Value):Option V:=(Bn sz v).map .one
def Ow:Nat→TypeId→Option (List Nat)
 | 0,_=>none
 | n+1,t=>
  match P.underlying t with
  | some (.struct fs)=>fs.toList.foldr (fun f acc=>match Ow n f.type,acc with | some a,some b=>some (a++b) | _,_=>none) (some [])
  | some (.array k e)=>(Ow n e).map fun l=>(List.replicate k l).flatten
  | some (.slice e)=>(jO P e).map fun s=>[s]
  | _=>some [0]
def pU (t:TypeId):Option (List C):=
 match P.info? t,Ow P 12 t with
 | some i,some l=>match i.zero with
  | some z=>if z.cells.size=l.length∧z.cells.size=i.size then (l.zip z.cells.toList).mapM fun x=>Bn x.1 x.2 else none
  | none=>none
 | _,_=>none
def Eb:TypeDesc→Bool
 | .struct _=>true
 | .array _ _=>true
 | _=>false
def r4 (t:TypeId):Option (Nat×Bool):=
 match P.info? t,P.underlying t with
 | some i,some d=>some (i.size,Eb d)
 | _,_=>none
def PN:Nat→TypeId→Bool
 | 0,_=>true
 | n+1,t=>
  match P.underlying t with
  | some (.struct fs)=>fs.any fun f=>PN n f.type
  | some (.array _ e)=>PN n e
  | some (.slice _)=>true
  | _=>false
variable (nm:FuncId→Option Nat) (h:Hint)
def p6 (t:TypeId) (x:Operand):Option X:=
 match x with
 | .tmp i=>some (if h.MO≤i∧PN P 12 t=true then .t i else .s i)
 | .const v=>(OD ((O4 P t).getD 0) v).map .c
 | .func f=>(nm f).bind fun n=>if n < kL then some (.f n) else none
 | .global _=>none
def dZ (t:TypeId) (x:Operand):Option X:=
 match x with
 | .tmp i=>some (.s i)
 | .const v=>(OD ((O4 P t).getD 0) v).map .c
 | .func f=>(nm f).bind fun n=>if n < kL then some (.f n) else none
 | .global _=>none
def EH (f:Field):Option Fl:=
 if f.name = "_" then none else
 match P.underlying f.type with
 | some (.int _)=>some .int
 | some .bool=>some .bool
 | some .string=>some .str
 | _=>none
def EI:Nat→List Field→Option (List Fl)
 | _,[]=>some []
 | i,f::t=>if f.offset=i then
   match EH P f,EI (i+1) t with
   | some x,some l=>some (x::l)
   | _,_=>none
  else none
def Yf (f:Field):Option (List Fl):=
 if f.name = "_" then none else
 match P.underlying f.type with
 | some (.struct gs)=>
  match EI P 0 gs.toList with
  | some l=>if P.stoodInHeld f.type=false∧jO P f.type=some l.length∧l.length≠0 then some l else none
  | none=>none
 | _=>none
def zc:Nat→List Field→Option (List Fl)
 | _,[]=>some []
 | i,f::t=>if f.offset=i then
   match EH P f with
   | some x=>(zc (i+1) t).map (x :: ·)
   | none=>match Yf P f with
    | some l=>(zc (i+l.length) t).map (l ++ ·)
    | none=>none
  else none
def BD (t:TypeId):Option (List Fl):=
 match P.underlying t with
 | some (.struct fs)=>if P.stoodInHeld t=false∧P.eqGuardType P.depth t=false then zc P 0 fs.toList else none
 | _=>none
def xC:Operand→Bool
 | .const _=>true
 | _=>false
def Ix (op:BinOp) (t:TypeId) (y:Operand):Option TC:=
 match op with
 | .eql | .neq=>
  match P.underlying t with
  | some (.int _)=>some .other
  | some .string=>some .other
  | some .bool=>some .bool
  | some (.struct _)=>(BD P t).map .struct
  | some (.pointer _)=>some .ptr
  | some (.slice _)=>some .slice
  | some (.func _ _ _)=>some .func
  | some (.interface _)=>if xC y then some .iface else none
  | _=>none
 | _=>some .other
def ZK (t:TypeId):Bool:=
 match P.underlying t with
 | some (.struct fs)=>
  match fs.toList with
  | [f,g]=>
   match P.underlying f.type,P.underlying g.type with
   | some (.pointer e),some (.slice b)=>decide (e=t)&&decide (b=AH)
   | _,_=>false
  | _=>false
 | _=>false
def Xc (c:Call):Option pa:=
 match c.callee with
 | .value f=>do
  let f ←dZ P nm 0 f
  if c.args.size=c.argTypes.size then
   let args ←(c.args.toList.zip c.argTypes.toList).mapM fun x=>p6 P nm h x.2 x.1
   let ls:=match f with | .f n=>(h.anH.lookup n).getD [] | _=>[]
   pure (.call f (args.zipIdx.map fun x=>(ls.contains x.2,x.1)))
  else none
 | .builtin .len=>
  match c.args.toList,c.argTypes.toList with
  | [x],[t]=>match P.underlying t with
   | some .string=>(dZ P nm t x).map (.len true)
   | some (.slice _)=>(dZ P nm t x).map (.len false)
   | _=>none
  | _,_=>none
 | .builtin .append=>
  match c.args.toList,c.argTypes.toList with
  | [x,y],[t,u]=>match P.underlying t with
   | some (.slice e)=>do
    let i ←P.info? e
    let _ ←pU P e
    let x ←p6 P nm h t x
    match P.underlying u with
    | some (.slice _)=>do let y ←p6 P nm h u y;if i.size=0∨i.bytes=0 then none else pure (if aiJ (P.underlying e) then .A5 i.size (wU e i.bytes) x y else .app i.size (wU e i.bytes) x y)
    | some .string=>do let y ←dZ P nm u y;if i.size=1∧i.bytes=1∧FM (P.underlying e)=true∧e=AH then pure (.A3 x y) else none
    | _=>none
   | _=>none
  | _,_=>none
 | .builtin .unsafeSliceData=>
  match c.args.toList,c.argTypes.toList with
  | [x],[t]=>(dZ P nm t x).map .Ts
  | _,_=>none
 | .builtin .unsafeString=>
  match c.args.toList,c.argTypes.toList with
  | [x,y],[t,u]=>
   match P.underlying t with
   | some (.pointer e)=>if e=AH∧P.cellsOf e=1 then do let x ←dZ P nm t x;let y ←dZ P nm u y;pure (.T' x y) else none
   | _=>none
  | _,_=>none
 | .builtin .min=>
  match c.args.toList,c.argTypes.toList with
  | [x,y],[t,u]=>do let x ←dZ P nm t x;let y ←dZ P nm u y;pure (.min x y)
  | _,_=>none
 | .builtin .max=>
  match c.args.toList,c.argTypes.toList with
  | [x,y],[t,u]=>do let x ←dZ P nm t x;let y ←dZ P nm u y;pure (.max x y)
  | _,_=>none
 | _=>none
def OB (fs:Array Field) (p:Nat×Operand):Option (Nat×Nat×X):=
 match fs[p.1]? with
 | some f=>
  match jO P f.type,p6 P nm h f.type p.2 with
  | some n,some x=>if n=0 then none else some (f.offset,n,x)
  | _,_=>none
 | none=>none
def IA (e:TypeId) (p:Nat×Operand):Option (Nat×X):=(p6 P nm h e p.2).map fun x=>(p.1,x)
def yU (o:Oper):Option pa:=
 match o.op with
 | .move x=>(p6 P nm h o.type x).map .LB
 | .assign x=>(p6 P nm h o.type x).map .LB
 | .pick c a b=>do let c ←dZ P nm 0 c;let a ←dZ P nm o.type a;let b ←dZ P nm o.type b;pure (.pick c a b)
 | .alloc e=>do
  let z ←pU P e
  if ZK P e=true then
   match z with
   | [.cz,_]=>some (.NH e z)
   | _=>none
  else some (.alloc z)
 | .box e v=>do let n ←jO P e;let x ←p6 P nm h e v;if n=0 then none else if ZK P e=true then pure (.NZ e n x) else pure (.box n x)
 | .build t parts=>do
  let z ←pU P t
  match P.underlying t with
  | some (.struct fs)=>if (fs.toList.all fun f=>(jO P f.type).isSome)=true then (parts.toList.mapM (OB P nm h fs)).map (.build z) else none
  | _=>none
 | .buildSlice t len parts=>do
  match P.underlying t with
  | some (.slice e)=>do
   let z ←pU P e
   match mR z with
   | some row=>if len * z.length > 2 ^ 24∨z.length=0∨(tj row=true∧e≠AH) then none else (parts.toList.mapM (IA P nm h e)).map (.N0 z.length (List.replicate len row))
   | none=>do
    let ps ←parts.toList.mapM (IA P nm h e)
    if z.length=1∧len≤2 ^ 24∧ps.map (·.1)=List.range len then pure (.Pp (ps.map (·.2))) else none
  | _=>none
 | .load t a=>do let n ←r4 P t;let x ←dZ P nm 0 a;if n.1=0 then none else pure (.load n.1 n.2 x)
 | .store t a v=>do let n ←jO P t;let x ←dZ P nm 0 a;let v ←p6 P nm h t v;if n=0 then none else pure (.store (match a with | .tmp i=>h.res.contains i | _=>false) n x v)
 | .nilCheck x=>(dZ P nm 0 x).map .R6
 | .binOp op t x y _=>do
  let tc ←Ix P op t y
  let x' ←dZ P nm t x
  let y' ←dZ P nm t y
  pure (.bin tc op x' y')
 | .unOp op t x=>(dZ P nm t x).map (.un op)
 | .convert s d x=>do
  let x' ←dZ P nm s x
  match P.underlying s,P.underlying d with
  | some (.int _),some (.int k)=>pure (.conv (.int k) x')
  | some .string,some .string=>pure (.conv .same x')
  | some .string,some (.slice e)=>if FM (P.underlying e)=true∧e=AH then pure (.conv .TX x') else none
  | some (.slice e),some .string=>if FM (P.underlying e)=true then pure (.conv .Ij x') else none
  | _,_=>none
 | .makeFunc (.func f) a b=>do
  let f ←(nm f).bind fun n=>if n < kL then some n else none
  let a ←a.toList.mapM (dZ P nm 0)
  let b ←b.toList.mapM (dZ P nm 0)
  pure (.RN f a b)
 | .makeSlice t l c=>
  match P.underlying t with
  | some (.slice e)=>do
   let i ←P.info? e
   let z ←pU P e
   let row ←mR z
   let l ←dZ P nm 0 l
   let c ←dZ P nm 0 c
   if i.size=0 then none else pure (.RQ i.size (wU e i.bytes) row l c)
  | _=>none
 | .slice t x lo hi mx=>do
  let x ←dZ P nm t x
  let lo ←(match lo with | none=>some none | some v=>(dZ P nm 0 v).map some)
  let hi ←(match hi with | none=>some none | some v=>(dZ P nm 0 v).map some)
  let mx ←(match mx with | none=>some none | some v=>(dZ P nm 0 v).map some)
  match P.underlying t with
  | some .string=>if mx.isSome then none else pure (.Tz x lo hi)
  | some (.slice e)=>do let n ←jO P e;if n=0∨(mx.isSome∧hi.isNone) then none else pure (.slice n x lo hi mx)
  | _=>none
 | .fieldAddr s x f=>
  match P.underlying s with
  | some (.struct fs)=>do
   let f ←fs[f]?
   let n ←jO P f.type
   let x ←dZ P nm 0 x
   if n=0 then none else pure (.Pj f.offset x)
  | _=>none
 | .field t x f=>
  match P.underlying t with
  | some (.struct fs)=>do
   let f ←fs[f]?
   let n ←r4 P f.type
   let x ←dZ P nm t x
   pure (.field f.offset n.1 n.2 x)
  | _=>none
 | .indexAddr t x i=>
  match P.underlying t with
  | some (.slice e)=>do let n ←jO P e;let x ←dZ P nm t x;let i ←dZ P nm 0 i;if n=0 then none else pure (.Q7 n x i)
  | some (.array k e)=>do let n ←jO P e;let x ←dZ P nm 0 x;let i ←dZ P nm 0 i;if n=0 then none else pure (.Q8 k n x i)
  | _=>none
 | .index t x i=>
  match P.underlying t with
  | some .string=>do let x ←dZ P nm t x;let i ←dZ P nm 0 i;pure (.index x i)
  | _=>none
 | .extract x j=>(dZ P nm 0 x).map (.extract j)
 | .makeInterface t x=>
  match P.underlying t with
  | some (.interface _)=>none
  | some _=>(dZ P nm t x).map .RO
  | none=>none
 | .makeMap t r=>
  match P.underlying t with
  | some (.map k e)=>if FL (P.underlying k)=true∧Q9 (P.underlying e)=true∧r.isNone=true∧o.dst.isSome=true then some .RP else none
  | _=>none
 | .lookup t m k ok=>
  match P.underlying t with
  | some (.map kt e)=>do let m ←dZ P nm t m;let k ←dZ P nm kt k;if FL (P.underlying kt)=true∧Q9 (P.underlying e)=true∧M6 P e=true∧ok=false then pure (.RM m k) else none
  | _=>none
 | .mapUpdate t m k v=>
  match P.underlying t with
  | some (.map kt e)=>do let m ←dZ P nm t m;let k ←dZ P nm kt k;let v ←dZ P nm e v;if FL (P.underlying kt)=true∧Q9 (P.underlying e)=true then pure (.RT m k v) else none
  | _=>none
 | .call c=>Xc P nm h c
 | _=>none
def unordered (ops:Array Oper):List (Nat×Nat):=
 let b:=Region.before ops
 (List.range ops.size).flatMap fun j=>(List.range j).filterMap fun i=>
  if (b.getD j 0).testBit i then none else some (i,j)
def IL (ops:Array Oper):Bool:=
 (List.range ops.size).all fun i=>((ops[i]?).map fun o=>o.after.all fun e=>!Region.binds .any e||decide (e.on < i)).getD false
def IB (ops:Array Oper) (o:Oper):Option gx:=
 if (o.dst.all fun d=>decide (d < h.nt))=true then
  match o.guard with
  | none=>some ⟨o.dst,(yU P nm h o).getD .bad,none⟩
  | some (j,b)=>
   match (ops[j]?).bind (·.dst) with
   | some d=>some ⟨o.dst,(yU P nm h o).getD .bad,some (d,b)⟩
   | none=>none
 else none
def Et (ops:Array Oper):Option (List gx):=ops.toList.mapM (IB P nm h ops)
def Qm (l:List (Nat×(Option (List Nat)×Bool))) (id:Nat):Option (List Nat)×Bool:=
 match l with
 | []=>(none,false)
 | x::t=>if x.1=id then x.2 else Qm t id
def mQ:Code→Option lY
 | .skip=>some .skip
 | .region id ops draw=>do
  let l ←Et P nm h ops
  if draw=true∧IL ops=false then none else
  pure (.iY (Qm h.acv id).1 (Qm h.acv id).2 l (if draw then some (unordered ops) else none))
 | .seq a b=>do let x ←mQ a;let y ←mQ b;pure (.seq x y)
 | .cond c a b=>do let c ←dZ P nm 0 c;let x ←mQ a;let y ←mQ b;pure (.cond c x y)
 | .block id b=>(mQ b).map (.block id)
 | .loop b=>(mQ b).map .loop
 | .exit id=>some (.exit id)
 | .ret=>some .ret
 | _=>some (.iY none false [⟨none,.bad,none⟩] none)
def uY:ResultVar→Option RV
 | .tmp t=>some (.slot t)
 | .cell a t=>do let n ←r4 P t;pure (.cell a n.1 n.2)
def Es (f:Func) (forget:Bool):Option lj:=do
 let c ←f.body
 if h.nt≠f.ntmps then none else
 let b ←mQ P nm h c
 let rs ←f.results.toList.mapM (uY P)
 pure ⟨f.ntmps,rs,b,forget⟩
end
end
section
def AN (dst:Option Nat) (x:V) (ws:List Wr):List Wr:=
 match dst with
 | some d=>{ k:=.s d,v:=x } :: ws
 | none=>ws
def dO (nm:FuncId→Option Nat) (N:Nat) (S:St) (w0:World) (L0:aw) (a:Act) (dst:Option Nat) (x:V) (ws:List Wr) (v:Value) (w':World):Prop:=
 ∃L',oh nm N (S.ah (AN dst x ws)) w0 L0 (a.put dst v) w' L'
def dx (P:Program) (a:Act) (w:World) (o:Oper) (R:Value→World→Prop):Prop:=
 match (execOp a.eval o).run P w with
 | .ok (.value v) w'=>R v w'
 | .ok .skip w'=>R undef w'
 | .ok (.enter f args) w'=>Calls P f args w' fun e tv=>∃v,e = .returned v∧R v tv
 | .ok (.row row args) w'=>Rows P row args w' R
 | _=>False
theorem dx.wp {P:Program} {a:Act} {w:World} {o:Oper} {R:Value→World→Prop} (h:dx P a w o R) {next:Act→World→Prop} {Q:Exit→Act→World→Prop}
  (hr:∀v w',R v w'→next (a.put o.dst v) w'):o.wp P a w next Q:=by
 unfold dx at h;unfold Oper.wp;generalize (execOp a.eval o).run P w=r at h ⊢;cases r with
 | ok n w'=>
  cases n<;>simp only [Oper.upon] at h ⊢<;>first
   | exact h.elim
   | exact hr _ _ h
   | exact Rows.mono h (fun v tv=>hr v tv)
   | exact Calls.mono h (fun e tv=>by rintro ⟨v,rfl,hR⟩;exact hr v tv hR)
 | halt x w'=>simp only at h
section
variable {nm:FuncId→Option Nat} {N:Nat} {S:St} {a:Act} {w:World} {L:aw} {P:Program} {o:Oper}
theorem dx.val {R:Value→World→Prop} {v:Value} {w':World} (h:(execOp a.eval o).run P w = .ok (.value v) w') (hr:R v w'):dx P a w o R:=by
 unfold dx;rw [h];exact hr
theorem dx.skip {R:Value→World→Prop} {w':World} (h:(execOp a.eval o).run P w = .ok .skip w') (hr:R undef w'):dx P a w o R:=by
 unfold dx;rw [h];exact hr
def Bp:Place→Option Place:=fun q=>if q.k.aT=true then some q else none
theorem afT {q q' t:Place} (h1:Bp q=some t) (h2:Bp q'=some t):q=q':=by
 unfold Bp at h1 h2;split at h1
 ·split at h2
  ·simp only [ai] at h1 h2;rw [h1,h2]
  ·cases h2
 ·cases h1
theorem Rel.fZ {S0:St} {ws:List Wr} {w':World} {L':aw} {w0:World} {L0:aw} (R:Rel nm N (S0.ah ws) a w' L') (hm:dc w0 w' L0 L') {dst:Option Nat} (hd:∀d,dst=some d→d < N) {m:Nat} {x:V} {v:Value}
  (hv:bD nm w' L' (S0.ah ws).γ (.h m) x v):dO nm N S0 w0 L0 a dst x ws v w':=by
 cases dst with
 | some d=>
  obtain ⟨L2,h1,h2,h3,_⟩:=R.adn (hd d rfl) hv;exact ⟨L2,h1,hm.trans h3,h2⟩
 | none=>
  refine ⟨cG Bp L',R.wh (fun q hq=>by simp [Bp,hq]) (fun q q' t h1 h2=>afT h1 h2),hm.trans (G4 _),?_⟩;intro B q o hB;obtain ⟨q0,_,h2⟩:=oS hB;unfold Bp at h2;split at h2
  ·rename_i h3;simp only [ai] at h2;rw [←h2];exact h3
  ·cases h2
theorem execOp_builtin {b:Builtin} {args:Array Operand} {ts:Array TypeId} (ho:o.op = .call ⟨.builtin b,args,ts⟩) (ρ:Operand→Value) :
  execOp ρ o=builtin b ts o.type (args.map fun | .const _=>true | _=>false) (args.map ρ):=by
 unfold execOp;simp only [ho];unfold resolve;simp only;rfl
theorem wo {s:Sem Value} {v:Value} {w':World} (h:s.run P w = .ok v w'):(do pure (Next.value (←s)):Sem Next).run P w = .ok (.value v) w':=by
 simp [h]
theorem fp (R:Rel nm N S a w L) (hd:∀d,o.dst=some d→d < N) {x:V} {v:Value} (h:(execOp a.eval o).run P w = .ok (.value v) w) (hv:bD nm w L S.γ (.h 0) x v) :
  dx P a w o (dO nm N S w L a o.dst x []):=
 .val h (Rel.fZ (ws:=[]) R (dc.refl w L) hd hv)
theorem IE {sz:Nat} {v:Value} {c:C} (h:Bn sz v=some c):(∀(w:World) (L:aw) (γ:Key→Nat) (k:Key) (j:Nat),aG nm w L γ k j c v)∧c.own=false:=by
 unfold Bn at h;split at h
 ·cases h;exact ⟨fun _ _ _ _ _=>.d (.plain .int),rfl⟩
 ·cases h;exact ⟨fun _ _ _ _ _=>.d (.plain .bool),rfl⟩
 ·cases h;exact ⟨fun _ _ _ _ _=>.d (.plain .str),rfl⟩
 ·cases h;exact ⟨fun _ _ _ _ _=>.d (.plain .nil),rfl⟩
 ·cases h;exact ⟨fun _ _ _ _ _=>.cz,rfl⟩
 ·cases h;exact ⟨fun _ _ _ _ _=>.eX,rfl⟩
 ·cases h;exact ⟨fun _ _ _ _ _=>.fS,rfl⟩
 ·cases h
theorem eP {t:TypeId} {x:Operand} {X:X} (h:dZ P nm t x=some X):bQ nm X x∧X.iJ=true:=by
 cases x with
 | tmp i=>simp only [dZ,ai] at h;subst h;exact ⟨.s,rfl⟩
 | const v=>
  simp only [dZ,OD] at h;cases hc:Bn ((O4 P t).getD 0) v with
  | none=>simp [hc] at h
  | some c=>
   simp only [hc,fh,ai] at h;subst h;exact ⟨.c fun w L γ k=>.one ((IE hc).1 w L γ k 0),by simp [X.iJ,V.own,V.cells,(IE (nm:=nm) hc).2]⟩
 | func f=>
  simp only [dZ] at h;cases hf:nm f with
  | none=>simp [hf] at h
  | some n=>
   simp only [hf,Option.bind_some] at h;split at h
   ·rename_i ht;simp only [ai] at h;subst h;exact ⟨.f hf ht,rfl⟩
   ·cases h
 | global g=>simp [dZ] at h
theorem uZ {hh:Hint} {t:TypeId} {x:Operand} {X:X} (h:p6 P nm hh t x=some X):bQ nm X x∧X.iJ=true:=by
 cases x with
 | tmp i=>
  simp only [p6,ai] at h;subst h;split
  ·exact ⟨.t,rfl⟩
  ·exact ⟨.s,rfl⟩
 | const v=>exact eP (P:=P) (t:=t) h
 | func f=>exact eP (P:=P) (t:=t) h
 | global g=>simp [p6] at h
theorem rd_val (R:Rel nm N S a w L) {x:Operand} {X:X} (h:bQ nm X x) {v:V} (hr:(rd X).run S=some v):bD nm w L S.γ (.h 0) v (a.eval x):=acr R h hr (.h 0)
theorem bD.cL {γ:Key→Nat} {k:Key} {c:C} {v:Value} (h:bD nm w L γ k (.one c) v):aG nm w L γ k 0 c v:=by cases h with | one h=>exact h
theorem aG.ra {γ:Key→Nat} {k:Key} {j:Nat} {kk:IntKind} {n:Int} {v:Value} (h:aG nm w L γ k j (.d (.int kk n)) v):v = .int kk n:=by
 cases h with | d h=>cases h with | plain h=>cases h;rfl
theorem aG.r7 {γ:Key→Nat} {k:Key} {j:Nat} {b:Bool} {v:Value} (h:aG nm w L γ k j (.d (.bool b)) v):v = .bool b:=by
 cases h with | d h=>cases h with | plain h=>cases h;rfl
theorem aG.rH {γ:Key→Nat} {k:Key} {j:Nat} {b:List UInt8} {v:Value} (h:aG nm w L γ k j (.d (.str b)) v):v = .string ⟨b.toArray⟩:=by
 cases h with | d h=>cases h with | plain h=>cases h;rfl
theorem wR {γ:Key→Nat} {k:Key} {x:V} {n:Nat} {v:Value} (h:bD nm w L γ k x v) (hn:asNat x=some n):∃kk,v = .int kk n:=by
 unfold asNat at hn;split at hn
 ·rename_i kk m;split at hn
  ·rename_i h0;simp only [ai] at hn;refine ⟨kk,?_⟩;rw [h.cL.ra,←hn,Int.toNat_of_nonneg h0]
  ·cases hn
 ·cases hn
theorem Q.aK {α β:Type} {x:Q α} {f:α→Q β} {r:β} (h:(x >>= f).run S=some r):∃a,x.run S=some a∧(f a).run S=some r:=by
 rw [Q.run_bind] at h;cases hx:x.run S with
 | none=>simp [hx] at h
 | some a=>exact ⟨a,rfl,by simpa [hx] using h⟩
theorem Q.ei {α:Type} {b:Bool} {f:Unit→Q α} {r:α} (h:(Q.guard b >>= f).run S=some r):b=true∧(f ()).run S=some r:=by
 obtain ⟨u,h1,h2⟩:=Q.aK h;rw [Q.lD] at h1;split at h1
 ·exact ⟨‹_›,h2⟩
 ·cases h1
theorem Q.gw {α β:Type} {x:Option α} {f:α→Q β} {r:β} (h:(Q.dr x >>= f).run S=some r):∃y,x=some y∧(f y).run S=some r:=by
 obtain ⟨u,h1,h2⟩:=Q.aK h;rw [Q.ym] at h1;exact ⟨u,h1,h2⟩
theorem Q.ni {β:Type} {k:Key} {f:mN→Q β} {r:β} (h:(Q.at_ k >>= f).run S=some r):(f (S.get k)).run S=some r:=by
 obtain ⟨u,h1,h2⟩:=Q.aK h;simp only [Q.uA,ai] at h1;rw [h1];exact h2
theorem Q.aZ {α:Type} {x r:α} (h:(pure x:Q α).run S=some r):r=x:=by simpa using h.symm
end
end
section
section
variable {nm:FuncId→Option Nat} {N:Nat} {S:St} {a:Act} {w:World} {L:aw} {P:Program} {o:Oper} {Cl:bX} {d:Nat} {r:V×List Wr}
theorem Ba (s:List UInt8):(⟨s.toArray⟩:ByteArray).size=s.length:=by
 show s.toArray.size=s.length;simp
theorem aip (R:Rel nm N S a w L) (hd:∀d,o.dst=some d→d < N) {x:Operand} {X:ax.X} (hx:bQ nm X x) (ho:o.op = .nilCheck x) (hr:(bq Cl d (.R6 X)).run S=some r) :
  dx P a w o (dO nm N S w L a o.dst r.1 r.2):=by
 simp only [bq] at hr;obtain ⟨v,h1,h2⟩:=Q.aK hr;have hv:=rd_val R hx h1;have run:∀(u:Value),a.eval x=u→(∃ad,u = .pointer (some ad))∨(∃f b c,u = .func (.func f) b c)→(execOp a.eval o).run P w = .ok (.value (a.eval x)) w:=by
  intro u hu h;rcases h with ⟨ad,rfl⟩ | ⟨f,b,c,rfl⟩<;>simp [execOp,ho,hu]
 split at h2
 ·obtain rfl:=Q.aZ h2;refine fp R hd (run _ rfl (.inl ?_)) hv;cases hv.cL with | ptr hv=>exact hv
 ·obtain rfl:=Q.aZ h2;refine fp R hd (run _ rfl (.inl ?_)) hv;cases hv.cL with | eE hv=>exact hv
 ·obtain rfl:=Q.aZ h2;refine fp R hd (run _ rfl (.inl ?_)) hv;generalize a.eval x=u at hv;cases hv.cL with | pp=>exact ⟨_,rfl⟩
 ·obtain ⟨jG,h2⟩:=Q.ei h2;have jG:=JR jG;obtain rfl:=Q.aZ h2;refine fp R hd (run _ rfl (.inr ?_)) hv;generalize a.eval x=u at hv;cases hv.cL with
  | fn=>exact ⟨_,_,_,rfl⟩
  | fns val hf=>exfalso;rcases hf with ⟨h,_⟩ | ⟨h,_⟩<;>omega
 ·cases h2
theorem aiq (R:Rel nm N S a w L) (hd:∀d,o.dst=some d→d < N) {c x y:Operand} {C' X Y:ax.X} (hc:bQ nm C' c) (hx:bQ nm X x) (hy:bQ nm Y y) (ho:o.op = .pick c x y) (hr:(bq Cl d (.pick C' X Y)).run S=some r) :
  dx P a w o (dO nm N S w L a o.dst r.1 r.2):=by
 simp only [bq] at hr;obtain ⟨v,h1,h2⟩:=Q.aK hr;have hv:=rd_val R hc h1;split at h2
 ·obtain ⟨v2,h3,h4⟩:=Q.aK h2;obtain rfl:=Q.aZ h4;exact fp R hd (by simp [execOp,ho,hv.cL.r7,asBool]) (rd_val R hx h3)
 ·obtain ⟨v2,h3,h4⟩:=Q.aK h2;obtain rfl:=Q.aZ h4;exact fp R hd (by simp [execOp,ho,hv.cL.r7,asBool]) (rd_val R hy h3)
 ·cases h2
theorem XY (R:Rel nm N S a w L) (hd:∀d,o.dst=some d→d < N) {x:Operand} {X:ax.X} {t:TypeId} {str:Bool} (hx:bQ nm X x) (ho:o.op = .call ⟨.builtin .len,#[x],#[t]⟩)
  (ht:if str=true then P.underlying t=some .string else ∃e,P.underlying t=some (.slice e)) (hr:(bq Cl d (.len str X)).run S=some r) :
  dx P a w o (dO nm N S w L a o.dst r.1 r.2):=by
 cases str with
 | true=>
  simp only [bW] at ht;simp only [bq] at hr;obtain ⟨v,h1,h2⟩:=Q.aK hr;have hv:=rd_val R hx h1;split at h2
  ·rename_i s;obtain rfl:=Q.aZ h2;refine fp R hd (v:=.int .i64 s.length) ?_ (.one (.d (.plain .int)));rw [execOp_builtin ho,show (#[x]:Array Operand).map a.eval = #[a.eval x] from by simp];refine wo ?_;show (Builtin.len_ #[t] _ #[a.eval x]).run P w=_;rw [hv.cL.rH];simp [Builtin.len_,run_underlying ht,goInt,Ba]
  ·cases h2
 | false=>
  simp only [rU,dE] at ht;obtain ⟨e,ht⟩:=ht;simp only [bq] at hr;obtain ⟨v,h1,h2⟩:=Q.aK hr;have hv:=rd_val R hx h1;have run:∀(n:Nat),(∃b c,a.eval x = .slice b n c)→(execOp a.eval o).run P w = .ok (.value (.int .i64 n)) w:=by
   rintro n ⟨b,c,hb⟩;rw [execOp_builtin ho,show (#[x]:Array Operand).map a.eval = #[a.eval x] from by simp];refine wo ?_;show (Builtin.len_ #[t] _ #[a.eval x]).run P w=_;rw [hb];simp [Builtin.len_,run_underlying ht,goInt]
  split at h2
  ·rename_i t' sz rows;obtain rfl:=Q.aZ h2;refine fp R hd (run rows.length ?_) (.one (.d (.plain .int)));generalize a.eval x=u at hv;cases hv.cL with
   | d h=>
    cases h with
    | plain h=>
     cases h with
     | nil=>exact ⟨_,_,rfl⟩
     | mD=>exact ⟨_,_,rfl⟩
     | pl=>exact ⟨_,_,rfl⟩
    | jk=>exact ⟨_,_,rfl⟩
    | own=>exact ⟨_,_,rfl⟩
  ·rename_i pl g sz off len;obtain rfl:=Q.aZ h2;refine fp R hd (run len ?_) (.one (.d (.plain .int)));generalize a.eval x=u at hv;cases hv.cL with
   | view hv=>obtain ⟨b,c,rfl,_⟩:=hv;exact ⟨_,_,rfl⟩
  ·rename_i t0 f0 l0;obtain ⟨l',hl,h2⟩:=Q.gw h2;obtain ⟨rfl,rfl,rfl⟩:=C.fn.inj (Pm hl);obtain rfl:=Q.aZ h2;refine fp R hd (run l0.length ?_) (.one (.d (.plain .int)));obtain ⟨B,o',cap,cur,e',fz,val,hf,_⟩:=hv.cL.Pn (bT _);rcases hf with ⟨_,h,_⟩ | ⟨h,_⟩
   ·exact ⟨_,_,h⟩
   ·exact absurd h (by decide)
  ·cases h2
end
end
section
section
variable {nm:FuncId→Option Nat} {N:Nat} {S:St} {a:Act} {w:World} {L:aw} {P:Program} {o:Oper} {Cl:bX} {d:Nat} {r:V×List Wr}
theorem Vo {t:TypeId} {n:Nat} {agg:Bool} (h:r4 P t=some (n,agg)):∃i dd,P.info? t=some i∧P.underlying t=some dd∧i.size=n∧Eb dd=agg:=by
 unfold r4 at h;split at h
 ·rename_i i dd h1 h2;simp only [ai,fL] at h;exact ⟨i,dd,h1,h2,h.1,h.2⟩
 ·cases h
theorem acS {t:TypeId} {n:Nat} {agg:Bool} (h:r4 P t=some (n,agg)) (w:World):(isAgg t).run P w = .ok agg w:=by
 obtain ⟨i,dd,h1,h2,h3,h4⟩:=Vo h;subst h4;unfold isAgg;rw [Sem.run_bind,run_underlying h2,Result.andThen_ok];cases dd<;>rfl
theorem run_sizeOf {t:TypeId} {n:Nat} {agg:Bool} (h:r4 P t=some (n,agg)) (w:World):(sizeOf t).run P w = .ok n w:=by
 obtain ⟨i,dd,h1,h2,h3,h4⟩:=Vo h;simp [sizeOf,typeInfo,h1,h3]
theorem yn {t:TypeId} {n:Nat} (h:jO P t=some n) (w:World):(sizeOf t).run P w = .ok n w:=by
 unfold jO at h;cases hi:P.info? t with
 | none=>simp [hi] at h
 | some i=>
  simp only [hi,fh,ai] at h;simp [sizeOf,typeInfo,hi,h]
def wE (agg:Bool) (vs:List Value):Value:=if agg then .agg vs.toArray else vs.headD undef
theorem Tq {t:TypeId} {n:Nat} {agg:Bool} (h:r4 P t=some (n,agg)) {B o:Nat} {vs:List Value} (hn:vs.length=n) (h1:agg=false→n=1) (hc:∀j v,vs[j]? = some v→w.cell? ⟨B,o+j,none⟩=some v) :
  (loadVar t ⟨B,o,none⟩).run P w = .ok (wE agg vs) w:=by
 unfold loadVar;rw [Sem.run_bind,acS h,Result.andThen_ok];cases agg with
 | true=>
  have:=run_loadCells_list (P:=P) w ⟨B,o,none⟩ vs (fun j v hv=>by rw [oj];exact hc j v hv);simp [run_sizeOf h,←hn,this,wE]
 | false=>
  have oA:=h1 rfl;cases vs with
  | nil=>simp at hn;omega
  | cons v t=>
   have:=hc 0 v rfl;simp only [jC] at this;simp [this,wE]
theorem xM {k:Key} {γ:Key→Nat} {agg:Bool} {cs:List C} {x:V} {vs:List Value} (h:(lQ agg cs).run S=some x) (hl:cs.length=vs.length)
  (hc:∀j c v,cs[j]? = some c→vs[j]? = some v→aG nm w L γ k j c v):bD nm w L γ k x (wE agg vs)∧(agg=false→cs.length=1):=by
 unfold lQ at h;cases agg with
 | true=>
  simp only [bW,Q.run_pure,ai] at h;subst h;exact ⟨.agg (by simpa using hl) (fun j c u h1 h2=>hc j c u h1 (by simpa using h2)),by simp⟩
 | false=>
  simp only [rU,dE] at h;split at h
  ·rename_i c;simp only [Q.run_pure,ai] at h;subst h;cases vs with
   | nil=>simp at hl
   | cons v t=>exact ⟨.one (hc 0 c v rfl rfl),fun _=>rfl⟩
  ·simp at h
theorem Mp {r:aI}:∀(n c:Nat) {cs:List C},(wc r c n).run S=some cs→cs.length=n∧∀j,j < n→∃x,S.E (.b r (c+j)) = .one x∧cs[j]? = some (x.look (.b r (c+j)) (S.γ (.b r (c+j))) 0)
 | 0,c,cs,h=>by
  simp only [wc,Q.run_pure,ai] at h;subst h;exact ⟨rfl,fun j hj=>by omega⟩
 | n+1,c,cs,h=>by
  simp only [wc] at h;have h:=Q.ni h;split at h
  ·rename_i x hx;obtain ⟨t,h1,h2⟩:=Q.aK h;obtain rfl:=Q.aZ h2;obtain ⟨g1,g2⟩:=Mp n (c+1) h1;refine ⟨by simp [g1],fun j hj=>?_⟩;cases j with
   | zero=>exact ⟨x,hx,rfl⟩
   | succ j=>
    obtain ⟨y,g3,g4⟩:=g2 j (by omega);refine ⟨y,by rw [show c+(j+1)=c+1+j by omega];exact g3,?_⟩;rw [show c+(j+1)=c+1+j by omega];simpa using g4
  ·cases h
theorem aaQ (pl:Place) (g i:Nat):∀(row:List D) (c j:Nat),(rj pl g i c row)[j]? = (row[j]?).map fun x=>RE (pl.sub i (c+j)) g x
 | [],c,j=>by simp [rj]
 | x::t,c,0=>by simp [rj]
 | x::t,c,j+1=>by
  simp only [rj,yx];rw [aaQ pl g i t (c+1) j,show c+1+j=c+(j+1) by omega]
theorem aaR (pl:Place) (g i:Nat):∀(row:List D) (c:Nat),(rj pl g i c row).length=row.length
 | [],_=>rfl
 | x::t,c=>by simp [rj,aaR pl g i t]
theorem Sv (R:Rel nm N S a w L) {pl:Place} (hk:pl.k.aT=true) {g sz:Nat} {res:mN×D×List (List D)} (h:(ju [] pl g sz).run S=some res) :
  g=S.γ pl.k∧∃u,bt w L pl (.sl .own sz res.2.2) u:=by
 obtain ⟨h1,h2,h3,h4⟩:=uu h;have M:=cg.init R;exact ⟨h2,M.A9 hk h3 h4⟩
theorem aop {pl:Place} {γ:Key→Nat} {x:D} {v:Value} {k:Key} {j:Nat} (hk:pl.k.aT=true) (h:bt w L pl x v) :
  aG nm w L γ k j (RE pl (γ pl.k) x) v:=by
 have own:∀{sz:Nat} {rows:List (List D)} {v:Value},bt w L pl (.sl .own sz rows) v→aG nm w L γ k j (.view pl (γ pl.k) sz 0 rows.length) v:=by
  intro sz rows v h;refine .view h.adl hk (bT _) (fun _=>?_);rcases h.nU with ⟨rfl,a,rfl⟩ | ⟨B,o,cap,cur,e,fz,val,rfl,bf,hL,hB,cU,fQ,dL,dG,cm,hr,dX⟩
  ·exact .inl ⟨rfl,a,rfl⟩
  ·exact .inr ⟨B,o,cap,cur,e,fz,by simp,bf,hL,hB,cU,dL,by omega,fun _ h0=>dX (.inr (pW.1 h0))⟩
 cases x with
 | sl t sz rows=>
  cases t with
  | own=>exact own h
  | im b=>cases h with | plain h=>exact .d (.plain h)
 | _=>cases h with | plain h=>exact .d (.plain h)
theorem aif (R:Rel nm N S a w L) (hd:∀d,o.dst=some d→d < N) {x:Operand} {X:ax.X} {t:TypeId} {n:Nat} {agg:Bool} (hx:bQ nm X x) (ho:o.op = .load t x) (ht:r4 P t=some (n,agg))
  (hr:(bq Cl d (.load n agg X)).run S=some r):dx P a w o (dO nm N S w L a o.dst r.1 r.2):=by
 simp only [bq] at hr;obtain ⟨v,h1,h2⟩:=Q.aK hr;have hv:=rd_val R hx h1;have run:∀(B o':Nat) (vs:List Value),a.eval x = .pointer (some ⟨B,o',none⟩)→vs.length=n→(agg=false→n=1)→(∀j v,vs[j]? = some v→w.cell? ⟨B,o'+j,none⟩=some v)→
   (execOp a.eval o).run P w = .ok (.value (wE agg vs)) w:=by
  intro B o' vs hb hn h1 hc;have:=Tq ht hn h1 hc;simp [execOp,ho,hb,Instr.loadAt,Instr.sureAddr,this]
 split at h2
 ·
  rename_i r0 g c;have h2:=Q.ni h2;obtain ⟨hg,h2⟩:=Q.ei h2;simp only [bK,nA,eU,fA] at hg;obtain ⟨⟨hG,hg⟩,BX⟩:=hg;obtain ⟨cs,h3,h2⟩:=Q.aK h2;obtain ⟨x',h4,h2⟩:=Q.aK h2;obtain rfl:=Q.aZ h2;obtain ⟨hlen,EZ⟩:=Mp n c h3;cases hv.cL with
  | ptr iH gA hp=>
   obtain ⟨B,o',hB,cm⟩:=hp hg.symm;by_cases nN:n=0
   ·
    subst nN;have eF:cs=[]:=pW.1 hlen;subst eF;obtain ⟨hm,B6⟩:=xM (nm:=nm) (w:=w) (L:=L) (γ:=S.γ) (k:=.h 0) (vs:=[]) h4 rfl (fun j c v h=>by simp at h);exact fp R hd (run B (o'+c) [] cm rfl (fun h=>by have:=B6 h;simp at this) (fun j v h=>by simp at h)) hm
   obtain ⟨B',eY,cur,e,fz,k1,k2,k3,k4⟩:=R.room r0 hG (by have:c+n≤cj (S.E (.r r0)):=BX;omega);obtain rfl:=R.fB B' B r0 eY o' k1 hB;obtain rfl:eY=o':=by rw [k1] at hB;simpa using hB
   have ajg:c+n≤cj (S.E (.r r0)):=BX;let vs:=(List.range n).map fun j=>cur.getD (eY+c+j) undef
   have kQ:∀j v,vs[j]? = some v→j < n∧cur[eY+c+j]? = some v:=by
    intro j v jq;simp only [vs,bS] at jq;have hj:j < n:=by
     rcases yD j n with h | h
     ·exact h
     ·simp [pV,h] at jq
    have af:eY+c+j < cur.size:=by omega
    simp [hj,Array.getD,af] at jq;exact ⟨hj,by simp [af,jq]⟩
   have pC:vs.length=n:=by simp [vs]
   have hm := xM (nm := nm) (w := w) (L := L) (γ := S.γ) (k := .h 0) (vs := vs) h4 (by rw [hlen, pC]) (by
     intro j c1 v1 dF nQ
     obtain ⟨hj, zt⟩ := kQ j v1 nQ
     obtain ⟨y, zK, xw⟩ := EZ j hj
     rw [dF] at xw
     simp only [ai] at xw
     subst xw
     by_cases jg : y = .dead
     · subst jg; exact .dead
     · have oD := R.cell r0 (c + j) y zK jg
       have : ∃ B o cur e fz v, L B = some (.box r0 o) ∧ w.heap[B]? = some (.cells cur e fz) ∧ jA cur.size fz ∧ cur[o + (c + j)]? = some v ∧ aG nm w L S.γ (.b r0 (c + j)) 0 y v := by
         cases r0 with
         | g i => simp [aI.iU] at hG
         | e i => obtain ⟨B, o, cur, e, fz, v, q1, q2, q3, q4, q5, _⟩ := oD; exact ⟨B, o, cur, e, fz, v, q1, q2, q3, q4, q5⟩
         | l i => obtain ⟨B, o, cur, e, fz, v, q1, q2, q3, q4, q5, _⟩ := oD; exact ⟨B, o, cur, e, fz, v, q1, q2, q3, q4, q5⟩
       obtain ⟨B2, o2, iD, e2, ll, v2, a1, a2, a3, a4, a5⟩ := this
       obtain rfl := R.fB B2 B' r0 o2 eY a1 k1
       obtain rfl : o2 = eY := by rw [a1] at k1; simpa using k1
       obtain ⟨rfl, rfl, rfl⟩ : iD = cur ∧ e2 = e ∧ ll = fz := by rw [a2] at k2; simpa using k2
       rw [← pX, zt] at a4
       simp only [ai] at a4
       subst a4
       exact a5.look rfl _ _)
   refine fp R hd (run B' (eY+c) vs cm pC (fun h=>by rw [←hlen];exact hm.2 h) (fun j v h=>?_)) hm.1;rw [qT k2];exact (kQ j v h).2
 ·
  rename_i cells;obtain ⟨hg,h2⟩:=Q.ei h2;simp only [fA] at hg;obtain ⟨x',h4,h2⟩:=Q.aK h2;obtain rfl:=Q.aZ h2;have gI:=hv.cL;generalize qX:a.eval x=u at gI;cases gI with
  | @pp _ B o' cur e fz hL hB hp=>
   have hj:∀j,j < n→∃y u,cells[j]? = some y∧cur[o'+j]? = some u∧fM w L y u:=by
    intro j hj;obtain ⟨u,g1,g2⟩:=hp j (cells[j]'(by omega)) (by simp);exact ⟨_,u,by simp,g1,g2⟩
   let vs:=(List.range n).map fun j=>cur.getD (o'+j) undef
   have pC:vs.length=n:=by simp [vs]
   have kQ:∀j v,vs[j]? = some v→j < n∧cur[o'+j]? = some v:=by
    intro j v jq;simp only [vs,bS] at jq;have nJ:j < n:=by
     rcases yD j n with h | h
     ·exact h
     ·simp [pV,h] at jq
    obtain ⟨y,u,_,g1,_⟩:=hj j nJ;simp [nJ,iw,g1] at jq;exact ⟨nJ,by rw [g1,jq]⟩
   have hm := xM (nm := nm) (w := w) (L := L) (γ := S.γ) (k := .h 0) (vs := vs) h4 (by simp [pC]; omega) (by
     intro j c1 v1 dF nQ
     obtain ⟨nJ, zt⟩ := kQ j v1 nQ
     obtain ⟨y, u, g0, g1, g2⟩ := hj j nJ
     rw [zt] at g1
     simp only [ai] at g1
     subst g1
     simp only [bS, yA nJ, g0, fh, ai] at dF
     subst dF
     exact .d (.plain g2))
   refine fp R hd (run B o' vs qX pC (fun h=>?_) (fun j v h=>?_)) hm.1
   ·have:=hm.2 h;simp at this;omega
   ·rw [qT hB];exact (kQ j v h).2
 ·
  rename_i pl g sz i c;obtain ⟨res,h3,h2⟩:=Q.aK h2;obtain ⟨row,de,h2⟩:=Q.gw h2;obtain ⟨hg,h2⟩:=Q.ei h2;simp only [fA] at hg;obtain ⟨x',h4,h2⟩:=Q.aK h2;obtain rfl:=Q.aZ h2;cases hv.cL with
  | eE iH hh gA hp=>
   obtain ⟨jW,u,hu⟩:=Sv R hh h3;obtain ⟨B,o',hB,cm⟩:=hp jW;rcases hu.nU with ⟨ml,_⟩ | ⟨B',eY,cap,cur,e,fz,val,_,bf,fj,dA,cU,fQ,dL,dG,Cj,dM,dX⟩
   ·rw [ml] at de;simp at de
   obtain rfl:=R.eN B' B pl eY o' fj hB;obtain rfl:eY=o':=by rw [fj] at hB;simpa using hB
   have gB:row.length=sz:=fQ row (ft de);have hj:∀j,j < n→∃y,row[c+j]? = some y∧cellOf res.2.2 i (c+j)=some y:=by
    intro j hj;refine ⟨row[c+j]'(by omega),by simp,kJ.2 ⟨row,de,by simp⟩⟩
   let vs:=(List.range n).map fun j=>val i (c+j)
   have pC:vs.length=n:=by simp [vs]
   have kQ:∀j v,vs[j]? = some v→j < n∧v=val i (c+j):=by
    intro j v jq;simp only [vs,bS] at jq;have nJ:j < n:=by
     rcases yD j n with h | h
     ·exact h
     ·simp [pV,h] at jq
    simp [nJ] at jq;exact ⟨nJ,jq.symm⟩
   have fW:(rj pl g i c ((row.drop c).take n)).length=n:=by rw [aaR];simp;omega
   have hm := xM (nm := nm) (w := w) (L := L) (γ := S.γ) (k := .h 0) (vs := vs) h4 (by rw [fW, pC]) (by
     intro j c1 v1 dF nQ
     obtain ⟨nJ, rfl⟩ := kQ j v1 nQ
     obtain ⟨y, g0, g1⟩ := hj j nJ
     rw [aaQ, yA nJ, tC, g0] at dF
     simp only [fh, ai] at dF
     have := aop (nm := nm) (γ := S.γ) (k := .h 0) (j := j) (pl := pl.sub i (c + j)) hh (dM i (c + j) y g1)
     have ku : S.γ (pl.sub i (c + j)).k = g := jW.symm
     rw [ku] at this
     rw [← dF]
     exact this)
   refine fp R hd (run B' (eY+i * sz+c) vs cm pC (fun h=>?_) (fun j v h=>?_)) hm.1
   ·have:=hm.2 h;rw [fW] at this;exact this
   ·obtain ⟨nJ,rfl⟩:=kQ j v h;obtain ⟨y,g0,g1⟩:=hj j nJ;rw [qT dA];have:=Cj i (c+j) y g1;rwa [←pX] at this
 ·
  rename_i t0 f0 l0;obtain ⟨l',hl,h2⟩:=Q.gw h2;obtain ⟨rfl,rfl,rfl⟩:=C.fn.inj (Pm hl);obtain ⟨hg,h2⟩:=Q.ei h2;have Qt:l0.length=n:=by simpa using hg
  obtain ⟨x',h4,h2⟩:=Q.aK h2;obtain rfl:=Q.aZ h2;obtain ⟨B,o',cap,cur,e',fz,val,hf,hL,hB,aS,oK,dM⟩:=hv.cL.Pn (by omega);rcases hf with ⟨h,_⟩ | ⟨_,cm⟩
  ·exact absurd h (by decide)
  ·let vs:=(List.range n).map val;have pC:vs.length=n:=by simp [vs]
   have kQ:∀j v,vs[j]? = some v→j < n∧v=val j:=by
    intro j v jq;simp only [vs,bS] at jq;rcases yD j n with hj | hj
    ·rw [HC hj] at jq;simp only [fh,ai] at jq;exact ⟨hj,jq.symm⟩
    ·simp [pV,hj] at jq
   have hm := xM (nm := nm) (w := w) (L := L) (γ := S.γ) (k := .h 0) (vs := vs) h4 (by rw [pC, Qt]) (by
     intro j c1 v1 dF nQ
     obtain ⟨nJ, rfl⟩ := kQ j v1 nQ
     exact (dM j c1 dF).any (ko aS dF) _ _)
   refine fp R hd (run B o' vs cm pC (fun h=>?_) (fun j v h=>?_)) hm.1
   ·have:=hm.2 h;omega
   ·obtain ⟨nJ,rfl⟩:=kQ j v h;rw [qT hB];exact oK j (by omega)
 ·cases h2
end
end
section
section
variable {nm:FuncId→Option Nat} {N:Nat} {S:St} {a:Act} {w:World} {L:aw} {P:Program} {o:Oper} {Cl:bX} {d:Nat} {r:V×List Wr}
theorem aia (R:Rel nm N S a w L) (hd:∀d,o.dst=some d→d < N) {x:Operand} {X:ax.X} {s:TypeId} {i:Nat} {fs:Array Field} {f:Field} {n:Nat} (hx:bQ nm X x) (ho:o.op = .fieldAddr s x i)
  (hs:P.underlying s=some (.struct fs)) (hf:fs[i]? = some f) (hn:jO P f.type=some n) (nN:n≠0) (hr:(bq Cl d (.Pj f.offset X)).run S=some r) :
  dx P a w o (dO nm N S w L a o.dst r.1 r.2):=by
 simp only [bq] at hr;obtain ⟨v,h1,h2⟩:=Q.aK hr;clear hr;have hv:=rd_val R hx h1;have run:∀ad:Addr,a.eval x = .pointer (some ad)→(execOp a.eval o).run P w = .ok (.value (.pointer (some (ad.add f.offset)))) w:=by
  intro ad hb;have:(Instr.fieldAt s (a.eval x) i).run P w = .ok (.pointer (some (ad.add f.offset))) w:=by
   rw [hb];simp [Instr.fieldAt,run_underlying hs,hf,Instr.sureAddr,fieldPlace,yn hn,nN]
  simp [execOp,ho,this]
 split at h2
 ·rename_i r0 g c;obtain rfl:=Q.aZ h2;cases hv.cL with
  | ptr iH hg h=>
   obtain ⟨ad,xd⟩:=iH;refine fp R hd (run ad xd) (.one (.ptr ⟨_,rfl⟩ hg (fun he=>?_)));obtain ⟨B,o',hB,hb⟩:=h he;rw [xd] at hb;simp only [Value.pointer.injEq,ai] at hb;subst hb;exact ⟨B,o',hB,by rw [oj,pX]⟩
 ·rename_i cells;obtain rfl:=Q.aZ h2;have gI:=hv.cL;generalize qX:a.eval x=u at gI;cases gI with
  | @pp _ B o' cur e fz hL hB hp=>
   refine fp R hd (run _ qX) ?_;rw [oj];refine .one (.pp hL hB ?_);intro q y hq;rw [tC] at hq;have:=hp (f.offset+q) y hq;rwa [←pX] at this
 ·rename_i pl g sz j c;obtain rfl:=Q.aZ h2;cases hv.cL with
  | eE iH hh hg h=>
   obtain ⟨ad,xd⟩:=iH;refine fp R hd (run ad xd) (.one (.eE ⟨_,rfl⟩ hh hg (fun he=>?_)));obtain ⟨B,o',hB,hb⟩:=h he;rw [xd] at hb;simp only [Value.pointer.injEq,ai] at hb;subst hb;exact ⟨B,o',hB,by rw [oj,pX]⟩
 ·cases h2
theorem bD.NG {γ:Key→Nat} {k:Key} {cs:List C} {v:Value} (h:bD nm w L γ k (.agg cs) v):∃vs:Array Value,v = .agg vs∧cs.length=vs.size∧∀(j:Nat) c u,cs[j]? = some c→vs[j]? = some u→aG nm w L γ k j c u:=by
 cases h with | agg hl h=>exact ⟨_,rfl,hl,h⟩
theorem aG.at_ {γ:Key→Nat} {k k':Key} {j j':Nat} {c:C} {v:Value} (h:aG nm w L γ k j c v) (hc:c.own=false):aG nm w L γ k' j' c v:=h.any (h.uX hc) k' j'
theorem ah' (R:Rel nm N S a w L) (hd:∀d,o.dst=some d→d < N) {x:Operand} {X:ax.X} {s:TypeId} {i:Nat} {fs:Array Field} {f:Field} {n:Nat} {agg:Bool} (hx:bQ nm X x) (aQ:X.iJ=true) (ho:o.op = .field s x i)
  (hs:P.underlying s=some (.struct fs)) (hf:fs[i]? = some f) (hn:r4 P f.type=some (n,agg)) (hr:(bq Cl d (.field f.offset n agg X)).run S=some r) :
  dx P a w o (dO nm N S w L a o.dst r.1 r.2):=by
 simp only [bq] at hr;obtain ⟨v,h1,h2⟩:=Q.aK hr;clear hr;have hv:=rd_val R hx h1;have aS:=Mn aQ h1;split at h2
 ·rename_i cs;obtain ⟨hg,nI⟩:=Q.ei h2;clear h2;have h2:=nI;clear nI
  simp only [fA] at hg;obtain ⟨x',h4,h2⟩:=Q.aK h2;obtain rfl:=Q.aZ h2;obtain ⟨vs,kQ,hl,hc⟩:=hv.NG;let us:=(vs.toList.drop f.offset).take n;have ZC:us.length=n:=by simp [us];omega
  have hm := xM (nm := nm) (w := w) (L := L) (γ := S.γ) (k := .h 0) (vs := us) h4 (by rw [ZC]; simp; omega) (by
    intro j c1 v1 dF nQ
    have hj : j < n := by rw [← ZC]; exact (cw.1 nQ).1
    simp only [us] at nQ
    rw [yA hj, tC] at dF nQ
    exact (hc (f.offset + j) c1 v1 dF (by simpa using nQ)).at_ (L7 aS dF))
  refine fp R hd (v:=wE agg us) ?_ hm.1;have:(Instr.field s (a.eval x) i).run P w = .ok (wE agg us) w:=by
   rw [kQ];simp only [Instr.field,Sem.run_bind,run_underlying hs,Result.andThen_ok,hf,asAgg,Sem.run_pure,part,acS hn];cases agg with
   | true=>
    simp only [bW,Sem.run_bind,run_sizeOf hn,Result.andThen_ok,Sem.run_pure,wE];congr 2;apply rR;simp [us,List.drop_take]
   | false=>
    have mh:n=1:=by have:=hm.2 rfl;simp at this;omega
    subst mh;have af:f.offset < vs.size:=by omega
    have:vs[f.offset]? = some vs[f.offset]:=by simp [af]
    simp only [rU,dE,this,Sem.run_pure,wE];congr 1;have cJ:vs.toList.drop f.offset=vs[f.offset]::vs.toList.drop (f.offset+1):=by
     rw [tA (by simpa using af)];simp
    simp [us,cJ]
  simp [execOp,ho,this]
 ·cases h2
theorem ah9 (R:Rel nm N S a w L) (hd:∀d,o.dst=some d→d < N) {x:Operand} {X:ax.X} {j:Nat} (hx:bQ nm X x) (ho:o.op = .extract x j) (hr:(bq Cl d (.extract j X)).run S=some r) :
  dx P a w o (dO nm N S w L a o.dst r.1 r.2):=by
 simp only [bq] at hr;obtain ⟨v,h1,h2⟩:=Q.aK hr;clear hr;have hv:=rd_val R hx h1;split at h2
 ·rename_i vs;obtain ⟨y,hy,h2⟩:=Q.gw h2;obtain rfl:=Q.aZ h2;generalize qX:a.eval x=u at hv;cases hv with
  | @aq _ us hl aS h=>
   have hj:j < us.size:=by rw [←hl];exact (cw.1 hy).1
   refine fp R hd (v:=us[j]) ?_ (h j y us[j] hy (by simp [hj]));have:us[j]? = some us[j]:=by simp [hj]
   simp [execOp,ho,qX,Instr.extract,this]
 ·cases h2
theorem aic (R:Rel nm N S a w L) (hd:∀d,o.dst=some d→d < N) {x i:Operand} {X I:ax.X} {t:TypeId} (hx:bQ nm X x) (hi:bQ nm I i) (ho:o.op = .index t x i) (ht:P.underlying t=some .string)
  (hr:(bq Cl d (.index X I)).run S=some r):dx P a w o (dO nm N S w L a o.dst r.1 r.2):=by
 simp only [bq] at hr;obtain ⟨v,h1,en⟩:=Q.aK hr;clear hr;have hr:=en;clear en
 have hv:=rd_val R hx h1;obtain ⟨vi,h3,en⟩:=Q.aK hr;clear hr;have hr:=en;clear en
 obtain ⟨n,hn,h2⟩:=Q.gw hr;clear hr;obtain ⟨kk,FG⟩:=wR (rd_val R hi h3) hn;split at h2
 ·rename_i s;obtain ⟨b,hb,h2⟩:=Q.gw h2;obtain rfl:=Q.aZ h2;refine fp R hd (v:=.int .u8 b.toNat) ?_ (.one (.d (.plain .int)));have hs:=hv.cL.rH;have af:=(cw.1 hb).1;have sx:(⟨s.toArray⟩:ByteArray)[n]? = some b:=by
   have h2:n < (⟨s.toArray⟩:ByteArray).size:=by rw [Ba];exact af
   obtain ⟨_,he⟩:=cw.1 hb;rw [show (⟨s.toArray⟩:ByteArray)[n]? = some ((⟨s.toArray⟩:ByteArray)[n]'h2) from by simp [h2]];rw [←he];rfl
  have:(Instr.index t (a.eval x) (a.eval i)).run P w = .ok (.int .u8 b.toNat) w:=by
   rw [hs,FG];simp [Instr.index,asIntOf,run_underlying ht,sx]
  simp [execOp,ho,this]
 ·cases h2
theorem ail (R:Rel nm N S a w L) (hd:∀d,o.dst=some d→d < N) {x:Operand} {X:ax.X} {t:TypeId} {dd:TypeDesc} (ho:o.op = .makeInterface t x) (ht:P.underlying t=some dd) (vj:∀m,dd≠.interface m)
  (hr:(bq Cl d (.RO X)).run S=some r):dx P a w o (dO nm N S w L a o.dst r.1 r.2):=by
 simp only [bq] at hr;obtain rfl:=Q.aZ hr;refine fp R hd (v:=.iface t (a.eval x)) ?_ (.one .fm);have:(Instr.makeInterface t (a.eval x)).run P w = .ok (.iface t (a.eval x)) w:=by
  unfold Instr.makeInterface;rw [Sem.run_bind,run_underlying ht,Result.andThen_ok];cases dd<;>first | rfl | exact absurd rfl (vj _)
 simp [execOp,ho,this]
theorem aij (R:Rel nm N S a w L) (hd:∀d,o.dst=some d→d < N) {x y:Operand} {X Y:ax.X} {ts:Array TypeId} (hx:bQ nm X x) (hy:bQ nm Y y) (ho:o.op = .call ⟨.builtin .min,#[x,y],ts⟩)
  (hr:(bq Cl d (.min X Y)).run S=some r):dx P a w o (dO nm N S w L a o.dst r.1 r.2):=by
 simp only [bq] at hr;obtain ⟨v,h1,en⟩:=Q.aK hr;clear hr;have hr:=en;clear en
 obtain ⟨v2,h3,h2⟩:=Q.aK hr;clear hr;split at h2
 ·rename_i k m k' n;obtain rfl:=Q.aZ h2;refine fp R hd (v:=.int k (if n < m then n else m)) ?_ (.one (.d (.plain .int)));rw [execOp_builtin ho,show (#[x,y]:Array Operand).map a.eval = #[a.eval x,a.eval y] from by simp];refine wo ?_;show (Builtin.min_ ts _ #[a.eval x,a.eval y]).run P w=_;rw [(rd_val R hx h1).cL.ra,(rd_val R hy h3).cL.ra];simp [Builtin.min_,Builtin.min2]
 ·cases h2
theorem aih (R:Rel nm N S a w L) (hd:∀d,o.dst=some d→d < N) {x y:Operand} {X Y:ax.X} {ts:Array TypeId} (hx:bQ nm X x) (hy:bQ nm Y y) (ho:o.op = .call ⟨.builtin .max,#[x,y],ts⟩)
  (hr:(bq Cl d (.max X Y)).run S=some r):dx P a w o (dO nm N S w L a o.dst r.1 r.2):=by
 simp only [bq] at hr;obtain ⟨v,h1,en⟩:=Q.aK hr;clear hr;have hr:=en;clear en
 obtain ⟨v2,h3,h2⟩:=Q.aK hr;clear hr;split at h2
 ·rename_i k m k' n;obtain rfl:=Q.aZ h2;refine fp R hd (v:=.int k (if n > m then n else m)) ?_ (.one (.d (.plain .int)));rw [execOp_builtin ho,show (#[x,y]:Array Operand).map a.eval = #[a.eval x,a.eval y] from by simp];refine wo ?_;show (Builtin.max_ ts _ #[a.eval x,a.eval y]).run P w=_;rw [(rd_val R hx h1).cL.ra,(rd_val R hy h3).cL.ra];simp [Builtin.max_,Builtin.max2]
 ·cases h2
theorem aie (R:Rel nm N S a w L) (hd:∀d,o.dst=some d→d < N) {x i:Operand} {X I:ax.X} {t e:TypeId} {k sz:Nat} (hx:bQ nm X x) (hi:bQ nm I i) (ho:o.op = .indexAddr t x i)
  (ht:P.underlying t=some (.array k e)) (hs:jO P e=some sz) (hr:(bq Cl d (.Q8 k sz X I)).run S=some r):dx P a w o (dO nm N S w L a o.dst r.1 r.2):=by
 simp only [bq] at hr;obtain ⟨v,h1,en⟩:=Q.aK hr;clear hr;have hr:=en;clear en
 have hv:=rd_val R hx h1;obtain ⟨vi,h3,en⟩:=Q.aK hr;clear hr;have hr:=en;clear en
 obtain ⟨n,hn,h2⟩:=Q.gw hr;clear hr;obtain ⟨kk,FG⟩:=wR (rd_val R hi h3) hn;obtain ⟨af,nI⟩:=Q.ei h2;clear h2;have h2:=nI;clear nI
 simp only [fA] at af;split at h2
 ·rename_i r0 g c;obtain rfl:=Q.aZ h2;cases hv.cL with
  | ptr iH hg h=>
   obtain ⟨ad,xd⟩:=iH;have:(Instr.indexAt t (a.eval x) (a.eval i)).run P w = .ok (.pointer (some (ad.add (n * sz)))) w:=by
    rw [xd,FG];have zA:¬ k≤n:=by omega
    simp [Instr.indexAt,asIntOf,run_underlying ht,Instr.sureAddr,yn hs,af]
   refine fp R hd (by simp [execOp,ho,this];rfl) (.one (.ptr ⟨_,rfl⟩ hg (fun he=>?_)));obtain ⟨B,o',hB,hb⟩:=h he;rw [xd] at hb;simp only [Value.pointer.injEq,ai] at hb;subst hb;exact ⟨B,o',hB,by rw [oj,pX]⟩
 ·cases h2
theorem aid (R:Rel nm N S a w L) (hd:∀d,o.dst=some d→d < N) {x i:Operand} {X I:ax.X} {t e:TypeId} {sz:Nat} (hx:bQ nm X x) (hi:bQ nm I i) (ho:o.op = .indexAddr t x i)
  (ht:P.underlying t=some (.slice e)) (hs:jO P e=some sz) (hr:(bq Cl d (.Q7 sz X I)).run S=some r):dx P a w o (dO nm N S w L a o.dst r.1 r.2):=by
 simp only [bq] at hr;obtain ⟨v,h1,en⟩:=Q.aK hr;clear hr;have hr:=en;clear en
 have hv:=rd_val R hx h1;obtain ⟨vi,h3,en⟩:=Q.aK hr;clear hr;have hr:=en;clear en
 obtain ⟨n,hn,h2⟩:=Q.gw hr;clear hr;obtain ⟨kk,FG⟩:=wR (rd_val R hi h3) hn;have run:∀(ad:Addr) (len cap:Nat),a.eval x = .slice (some ad) len cap→n < len→(execOp a.eval o).run P w = .ok (.value (.pointer (some (ad.add (n * sz))))) w:=by
  intro ad len cap hb af;have:(Instr.indexAt t (a.eval x) (a.eval i)).run P w = .ok (.pointer (some (ad.add (n * sz)))) w:=by
   rw [hb,FG];simp [Instr.indexAt,asIntOf,run_underlying ht,yn hs,af]
  simp [execOp,ho,this]
 split at h2
 ·cases h2
 ·rename_i t' cp rows sH;obtain ⟨hg,nI⟩:=Q.ei h2;clear h2;have h2:=nI;clear nI
  simp only [eU] at hg;subst hg;obtain ⟨row,de,h2⟩:=Q.gw h2;obtain rfl:=Q.aZ h2;have gI:=hv.cL;generalize qX:a.eval x=u at gI;cases gI with
  | d h=>
   cases h with
   | plain h=>
    cases h with
    | nil=>simp at de
    | mD=>simp at de
    | @pl cp rows B o' cap cur e' fz val az bf P1 hL hB hlen oK dM=>
     have af:=(cw.1 de).1;refine fp R hd (run ⟨B,o',none⟩ rows.length cap qX af) ?_;rw [oj];refine .one (.pp hL hB ?_);intro q y hq;have hc:cellOf rows n q=some y:=kJ.2 ⟨row,de,hq⟩;exact ⟨val n q,oK n q y hc,dM n q y hc⟩
   | jk=>simp at de
   | own=>simp at sH
 ·rename_i pl g cp off len;obtain ⟨hg,nI⟩:=Q.ei h2;clear h2;have h2:=nI;clear nI
  simp only [bK,eU,fA] at hg;obtain ⟨rfl,af⟩:=hg;obtain rfl:=Q.aZ h2;cases hv.cL with
  | view iH hh gA h=>
   obtain ⟨b,c,hb,ub,qd⟩:=iH;have ajc:b.isSome=true:=qd;obtain ⟨ad,rfl⟩:=yF.1 ajc;refine fp R hd (run ad len c hb af) (.one (.eE ⟨_,rfl⟩ hh gA (fun he=>?_)));rcases h he with ⟨h0,_⟩ | ⟨B,o',cap,cur,e',fz,cm,bf,hL,hB,_⟩
   ·omega
   ·rw [hb] at cm;simp only [Value.slice.injEq,ai,lh] at cm;obtain ⟨rfl,_⟩:=cm;exact ⟨B,o',hL,by rw [oj,lJ,jC,pX]⟩
 ·rename_i t0 f0 l0;obtain ⟨l',hl,nI⟩:=Q.gw h2;clear h2;obtain ⟨rfl,rfl,rfl⟩:=C.fn.inj (Pm hl);obtain ⟨hg,h2⟩:=Q.ei nI;clear nI;obtain ⟨c,hc,h2⟩:=Q.gw h2;obtain rfl:=Q.aZ h2;have bf:sz=1:=by simpa using hg
  subst bf;obtain ⟨B,o',cap,cur,e',fz,val,hf,hL,hB,aS,oK,dM⟩:=hv.cL.Pn (bT _);have af:=(cw.1 hc).1;rcases hf with ⟨_,h,_⟩ | ⟨h,_⟩
  ·refine fp R hd (run _ _ _ h af) ?_;rw [oj];refine .one (.fns (B:=B) (o:=o'+n * 1) (cap:=0) (fun i=>val (n+i)) (.inr ⟨rfl,rfl⟩) hL hB (by simp [jm,ko aS hc]) ?_ ?_)
   ·intro i hi;have hi0:i=0:=by simpa using hi
    subst hi0;have:=oK n af;simpa using this
   ·intro i x hx;cases i with
    | zero=>
     simp only [kC,ai] at hx;subst hx;exact dM n c hc
    | succ i=>simp at hx
  ·exact absurd h (by decide)
 ·cases h2
end
end
section
section
variable {nm:FuncId→Option Nat} {N:Nat} {S:St} {a:Act} {w:World} {L:aw} {P:Program} {o:Oper} {Cl:bX} {d:Nat} {r:V×List Wr}
theorem aiy {op:BinOp} {t yt:TypeId} {x y:Operand} (ho:o.op = .binOp op t x y yt) (hg:(eqGuard op t x y (a.eval x) (a.eval y)).run P w = .ok () w) {v:Value} (hb:(binOp op t (a.eval x) (a.eval y)).run P w = .ok v w) :
  (execOp a.eval o).run P w = .ok (.value v) w:=by
 simp [execOp,ho,hg,hb]
theorem Ex {op:BinOp} {t:TypeId} {x y:Operand} {u v:Value} (h1:∀p q,u = .agg p→v = .agg q→False) (h2:u = .nilIface→v = .nilIface→(xC x=true∨xC y=true)) :
  (eqGuard op t x y u v).run P w = .ok () w:=by
 unfold eqGuard;by_cases ho:op = .eql∨op = .neq
 ·have hm:(match op with | .eql=>true | .neq=>true | _=>false)=true:=by rcases ho with rfl | rfl<;>rfl
  rcases ho with rfl | rfl;all_goals
   simp only [UH,rU,dE]
   cases u<;>cases v<;>first
    | rfl
    | exact (h1 _ _ rfl rfl).elim
    | (rcases h2 rfl rfl with hc | hc
       · cases x <;> simp_all [xC]
       · cases y <;> simp_all [xC])
 ·have oA:op≠.eql:=fun e=>ho (.inl e)
  have nI:op≠.neq:=fun e=>ho (.inr e)
  cases op<;>first | rfl | exact absurd rfl oA | exact absurd rfl nI
theorem aj9 {op:BinOp} {k:IntKind} {x y:Int} {t:TypeId} {z:D} (h:Cp op k x y=some z) (kx:op≠.shl) (lu:op≠.shr):∃v,(binOp op t (.int k x) (.int k y)).run P w = .ok v w∧fM w L z v:=by
 cases op;case add=>cases h;exact ⟨_,by simp [binOp,Op.intArith],.int⟩
 case sub=>cases h;exact ⟨_,by simp [binOp,Op.intArith],.int⟩
 case mul=>cases h;exact ⟨_,by simp [binOp,Op.intArith],.int⟩
 case and=>cases h;exact ⟨_,by simp [binOp,Op.intBits],.int⟩
 case or=>cases h;exact ⟨_,by simp [binOp,Op.intBits],.int⟩
 case xor=>cases h;exact ⟨_,by simp [binOp,Op.intBits],.int⟩
 case andNot=>cases h;exact ⟨_,by simp [binOp,Op.intBits],.int⟩
 case eql=>cases h;exact ⟨_,by simp [binOp,Op.intCmp],.bool⟩
 case neq=>cases h;exact ⟨_,by simp [binOp,Op.intCmp],.bool⟩
 case lss=>cases h;exact ⟨.bool (decide (x < y)),by simp [binOp,Op.intCmp],.bool⟩
 case leq=>cases h;exact ⟨.bool (decide (x≤y)),by simp [binOp,Op.intCmp],.bool⟩
 case gtr=>cases h;exact ⟨.bool (decide (x > y)),by simp [binOp,Op.intCmp],.bool⟩
 case geq=>cases h;exact ⟨.bool (decide (x≥y)),by simp [binOp,Op.intCmp],.bool⟩
 case quo=>
  simp only [Cp] at h;split at h
  ·cases h
  ·rename_i hy;cases h;exact ⟨_,by simp [binOp,Op.intDiv,hy],.int⟩
 case rem=>
  simp only [Cp] at h;split at h
  ·cases h
  ·rename_i hy;cases h;exact ⟨_,by simp [binOp,Op.intDiv,hy],.int⟩
 case shl=>exact absurd rfl kx
 case shr=>exact absurd rfl lu
theorem adj {op:BinOp} (ho:op = .shl∨op = .shr) {k k':IntKind} {x y:Int} {t:TypeId} {z:D} (h:Dz op k x y=some z):∃v,(binOp op t (.int k x) (.int k' y)).run P w = .ok v w∧fM w L z v:=by
 unfold Dz at h;split at h
 ·cases h
 ·rename_i hy;rcases ho with rfl | rfl
  ·simp only [ai] at h;subst h;exact ⟨_,by simp only [binOp,Op.shift,hy,dE];rfl,.int⟩
  ·simp only [ai] at h;subst h;exact ⟨_,by simp only [binOp,Op.shift,hy,dE];rfl,.int⟩
theorem afi (x y:List UInt8):(⟨x.toArray⟩:ByteArray)++⟨y.toArray⟩=⟨(x++y).toArray⟩:=by
 apply ByteArray.ext;simp [ByteArray.data_append]
theorem Ej:∀x y:List UInt8,Op.bytesLess x y=bytesLess x y
 | [],[]=>rfl
 | _::_,[]=>rfl
 | [],_::_=>rfl
 | a::x,b::y=>by simp [Op.bytesLess,bytesLess,Ej x y]
theorem apU {op:BinOp} {x y:List UInt8} {t:TypeId} {z:D} (h:Hi op x y=some z):∃v,(binOp op t (.string ⟨x.toArray⟩) (.string ⟨y.toArray⟩)).run P w = .ok v w∧fM w L z v:=by
 cases op;case add=>
  simp only [Hi] at h;split at h
  ·rename_i hl;cases h;refine ⟨.string ⟨(x++y).toArray⟩,?_,.str⟩;have h1:¬ (9223372036854775807 < (x.length:Int)+(y.length:Int)):=by omega
   have h2:IntKind.i64.max=9223372036854775807:=by decide
   simp [binOp,Op.stringOp,Ba,afi,h2,h1]
  ·cases h
 case eql=>cases h;exact ⟨.bool (x==y),by simp [binOp,Op.stringOp],.bool⟩
 case neq=>cases h;exact ⟨.bool (!(x==y)),by simp [binOp,Op.stringOp],.bool⟩
 case lss=>cases h;exact ⟨.bool (bytesLess x y),by simp [binOp,Op.stringOp,Ej],.bool⟩
 case leq=>cases h;exact ⟨.bool (bytesLess x y||x==y),by simp [binOp,Op.stringOp,Ej],.bool⟩
 case gtr=>cases h;exact ⟨.bool (!(bytesLess x y||x==y)),by simp [binOp,Op.stringOp,Ej],.bool⟩
 case geq=>cases h;exact ⟨.bool (!bytesLess x y),by simp [binOp,Op.stringOp,Ej],.bool⟩
 all_goals simp [Hi] at h
theorem Gt {α β:Type} {x:Option α} {f:α→β} {r:β} (h:x.map f=some r):∃y,x=some y∧r=f y:=by
 cases x with
 | none=>cases h
 | some y=>exact ⟨y,rfl,by simpa using h.symm⟩
theorem XI {γ:Key→Nat} {k:Key} {i:Nat} {f:Field} {x:Fl} {l:List Fl} {c c':C} {t t':List C} {u u':Value} {b:Bool} (hx:EH P f=some x) (he:dz (x::l) (c::t) (c'::t')=some b)
  (r1:aG nm w L γ k i c u) (r2:aG nm w L γ k i c' u'):∃b1 b2,(∀n,(Op.equalIn (n+1) f.type u u').run P w = .ok b1 w)∧dz l t t'=some b2∧b=(b1&&b2)∧f.name≠"_"∧∃dd,P.underlying f.type=some dd∧Eb dd=false:=by
 have mj:f.name≠"_" := by
  intro e;simp [EH,e] at hx
 simp only [EH,mj,dE] at hx;split at hx
 ·rename_i kk xt;cases hx;cases c<;>(try (simp [dz] at he;done))
  rename_i z;cases z<;>(try (simp [dz] at he;done))
  cases c'<;>(try (simp [dz] at he;done))
  rename_i z;cases z<;>(try (simp [dz] at he;done))
  rename_i k1 n1 k2 n2;simp only [dz] at he;split at he
  ·rename_i hk;subst hk;cases hb:dz l t t' with
   | none=>simp [hb] at he
   | some b2=>
    simp only [hb,fh,ai] at he;refine ⟨_,b2,fun n=>?_,rfl,he.symm,mj,_,xt,rfl⟩;rw [r1.ra,r2.ra];exact run_equalIn_int w n f.type k1 kk n1 n2 xt
  ·cases he
 ·rename_i xt;cases hx;cases c<;>(try (simp [dz] at he;done))
  rename_i z;cases z<;>(try (simp [dz] at he;done))
  cases c'<;>(try (simp [dz] at he;done))
  rename_i z;cases z<;>(try (simp [dz] at he;done))
  rename_i n1 n2;simp only [dz] at he;cases hb:dz l t t' with
  | none=>simp [hb] at he
  | some b2=>
   simp only [hb,fh,ai] at he;refine ⟨_,b2,fun n=>?_,rfl,he.symm,mj,_,xt,rfl⟩;rw [r1.r7,r2.r7];exact run_equalIn_bool' w n f.type n1 n2 xt
 ·rename_i xt;cases hx;cases c<;>(try (simp [dz] at he;done))
  rename_i z;cases z<;>(try (simp [dz] at he;done))
  cases c'<;>(try (simp [dz] at he;done))
  rename_i z;cases z<;>(try (simp [dz] at he;done))
  rename_i n1 n2;simp only [dz] at he;cases hb:dz l t t' with
  | none=>simp [hb] at he
  | some b2=>
   simp only [hb,fh,ai] at he;refine ⟨n1==n2,b2,fun n=>?_,rfl,he.symm,mj,_,xt,rfl⟩;rw [r1.rH,r2.rH,run_equalIn_string w n f.type _ _ xt];simp
 ·cases hx
theorem O6 {x:Fl} {l:List Fl} {s t:List C} {b:Bool} (h:dz (x::l) s t=some b):∃c s' c' t',s=c::s'∧t=c'::t':=by
 cases s with
 | nil=>cases x<;>simp [dz] at h
 | cons c s=>
  cases t with
  | nil=>cases x<;>cases c<;>(try (rename_i z;cases z))<;>simp [dz] at h
  | cons c' t=>exact ⟨c,s,c',t,rfl,rfl⟩
theorem drop_cons {α:Type} {cs t:List α} {c:α} {i:Nat} (h:cs.drop i=c::t):cs[i]? = some c∧cs.drop (i+1)=t∧i < cs.length:=by
 have h1:cs[i]? = some c:=by have:=fX (·[0]?) h;simpa [tC] using this
 exact ⟨h1,by rw [←UO,h];rfl,(cw.1 h1).1⟩
theorem L9 {f:Field} {dd:TypeDesc} {xs:Array Value} {u:Value} (vj:P.underlying f.type=some dd) (zp:Eb dd=false) (hu:xs[f.offset]? = some u):(part f.type xs f.offset).run P w = .ok u w:=by
 have vo:(isAgg f.type).run P w = .ok false w:=by
  unfold isAgg;rw [Sem.run_bind,run_underlying vj,Result.andThen_ok];cases dd<;>first | rfl | simp [Eb] at zp
 simp [part,vo,hu]
theorem XJ {n:Nat} {γ:Key→Nat} {k:Key} {xs ys:Array Value} {cs ds:List C} {o:Nat} (eF:∀(j:Nat) c u,cs[j]? = some c→xs[j]? = some u→aG nm w L γ k (o+j) c u) (zv:∀(j:Nat) c u,ds[j]? = some c→ys[j]? = some u→aG nm w L γ k (o+j) c u)
  (ub:cs.length=xs.size) (Fg:ds.length=ys.size):∀(fs:List Field) (i:Nat) {fl:List Fl} {b:Bool},EI P i fs=some fl→dz fl (cs.drop i) (ds.drop i)=some b→(Op.eqFields (n+1) xs ys fs).run P w = .ok b w
 | [],i,fl,b,hf,he=>by
  simp only [EI,ai] at hf;subst hf;cases hc:cs.drop i with
  | cons c t=>rw [hc] at he;simp [dz] at he
  | nil=>
   cases hd:ds.drop i with
   | cons c t=>rw [hc,hd] at he;simp [dz] at he
   | nil=>
    rw [hc,hd] at he;simp only [dz,ai] at he;subst he;rfl
 | f::fs,i,fl,b,hf,he=>by
  simp only [EI] at hf;split at hf
  ·rename_i Fv;split at hf
   ·rename_i x l hx hl;simp only [ai] at hf;subst hf;obtain ⟨c,t,c',t',hc,hd⟩:=O6 he;obtain ⟨P4,P7,hic⟩:=drop_cons hc;obtain ⟨P8,sB,hid⟩:=drop_cons hd;obtain ⟨u,hu⟩:∃u,xs[i]? = some u:=⟨xs[i]'(by omega),by simp⟩
    obtain ⟨u',jt⟩:∃u,ys[i]? = some u:=⟨ys[i]'(by omega),by simp⟩
    rw [hc,hd] at he;obtain ⟨b1,b2,g1,g2,g3,mj,dd,vj,zp⟩:=XI hx he (eF i c u P4 hu) (zv i c' u' P8 jt);have ih:=XJ (n:=n) eF zv ub Fg fs (i+1) hl (by rw [P7,sB];exact g2);subst Fv;simp only [Op.eqFields,mj,ne_eq,Np,bW,Sem.run_bind,L9 vj zp hu,L9 vj zp jt,g1 n,Result.andThen_ok];cases b1
    ·simp [g3]
    ·simp [ih,g3]
   ·cases hf
  ·cases hf
theorem XH:∀(l1:List Fl) {l2:List Fl} {s t:List C} {b:Bool},dz (l1++l2) s t=some b→
  ∃b1 b2,dz l1 (s.take l1.length) (t.take l1.length)=some b1∧dz l2 (s.drop l1.length) (t.drop l1.length)=some b2∧b=(b1&&b2)∧l1.length≤s.length∧l1.length≤t.length
 | [],l2,s,t,b,h=>⟨true,b,by simp [dz],by simpa using h,by simp,by simp,by simp⟩
 | x::l1,l2,s,t,b,h=>by
  obtain ⟨c,s',c',t',rfl,rfl⟩:=O6 (l:=l1++l2) h;have key:∀{b0 NQ:Bool},dz (l1++l2) s' t'=some NQ→b=(b0&&NQ)→(∀{r:List Fl} {u v:List C} {q:Bool},dz r u v=some q→dz (x::r) (c::u) (c'::v)=some (b0&&q))→
    ∃b1 b2,dz (x::l1) ((c::s').take (l1.length+1)) ((c'::t').take (l1.length+1))=some b1∧dz l2 ((c::s').drop (l1.length+1)) ((c'::t').drop (l1.length+1))=some b2∧b=(b1&&b2)∧l1.length+1≤(c::s').length∧l1.length+1≤(c'::t').length:=by
   intro b0 NQ h1 h2 h3;obtain ⟨a1,a2,k1,k2,k3,k4,k5⟩:=XH l1 h1;exact ⟨b0&&a1,a2,h3 k1,k2,by rw [h2,k3,Bool.and_assoc],by simp;omega,by simp;omega⟩
  cases x<;>cases c<;>(try (simp [dz] at h;done))<;>(rename_i z;cases z)<;>(try (simp [dz] at h;done))<;>cases c'<;>(try (simp [dz] at h;done))<;>(rename_i z;cases z)<;>(try (simp [dz] at h;done))
  ·simp only [qJ,dz] at h;split at h
   ·rename_i hk;obtain ⟨q,h1,h2⟩:=Gt h;exact key h1 h2 (fun hq=>by simp [dz,hk,hq])
   ·cases h
  ·simp only [qJ,dz] at h;obtain ⟨q,h1,h2⟩:=Gt h;exact key h1 h2 (fun hq=>by simp [dz,hq])
  ·simp only [qJ,dz] at h;obtain ⟨q,h1,h2⟩:=Gt h;exact key h1 h2 (fun hq=>by simp [dz,hq])
theorem IN {n:Nat} {γ:Key→Nat} {k:Key} {xs ys:Array Value} {cs ds:List C} (eF:∀(j:Nat) c u,cs[j]? = some c→xs[j]? = some u→aG nm w L γ k j c u) (zv:∀(j:Nat) c u,ds[j]? = some c→ys[j]? = some u→aG nm w L γ k j c u)
  (ub:cs.length=xs.size) (Fg:ds.length=ys.size):∀(fs:List Field) (i:Nat) {fl:List Fl} {b:Bool},zc P i fs=some fl→dz fl (cs.drop i) (ds.drop i)=some b→(Op.eqFields (n+2) xs ys fs).run P w = .ok b w
 | [],i,fl,b,hf,he=>by
  simp only [zc,ai] at hf;subst hf;cases hc:cs.drop i with
  | cons c t=>rw [hc] at he;simp [dz] at he
  | nil=>
   cases hd:ds.drop i with
   | cons c t=>rw [hc,hd] at he;simp [dz] at he
   | nil=>
    rw [hc,hd] at he;simp only [dz,ai] at he;subst he;rfl
 | f::fs,i,fl,b,hf,he=>by
  simp only [zc] at hf;split at hf
  ·rename_i Fv;split at hf
   ·rename_i x hx;obtain ⟨l,hl,rfl⟩:=Gt hf;obtain ⟨c,t,c',t',hc,hd⟩:=O6 he;obtain ⟨P4,P7,hic⟩:=drop_cons hc;obtain ⟨P8,sB,hid⟩:=drop_cons hd;obtain ⟨u,hu⟩:∃u,xs[i]? = some u:=⟨xs[i]'(by omega),by simp⟩
    obtain ⟨u',jt⟩:∃u,ys[i]? = some u:=⟨ys[i]'(by omega),by simp⟩
    rw [hc,hd] at he;obtain ⟨b1,b2,g1,g2,g3,mj,dd,vj,zp⟩:=XI hx he (eF i c u P4 hu) (zv i c' u' P8 jt);have ih:=IN (n:=n) eF zv ub Fg fs (i+1) hl (by rw [P7,sB];exact g2);subst Fv;simp only [Op.eqFields,mj,ne_eq,Np,bW,Sem.run_bind,L9 vj zp hu,L9 vj zp jt,g1 (n+1),Result.andThen_ok];cases b1
    ·simp [g3]
    ·simp [ih,g3]
   ·split at hf
    ·rename_i l1 mh;obtain ⟨l,hl,rfl⟩:=Gt hf;unfold Yf at mh;split at mh
     ·cases mh
     ·rename_i mj;split at mh
      ·rename_i gs qi;split at mh
       ·rename_i l0 nL;split at mh
        ·rename_i iF;cases mh;obtain ⟨b1,b2,g1,g2,g3,g4,g5⟩:=XH l1 he;simp only [Nb] at g4 g5;have ih:=IN (n:=n) eF zv ub Fg fs (i+l1.length) hl (by simpa [UO] using g2);have bf:=iF.2.1;have az:=iF.2.2;have pt:∀{zs:Array Value},(part f.type zs f.offset).run P w = .ok (.agg (zs.extract i (i+l1.length))) w:=by
          intro zs;have vo:(isAgg f.type).run P w = .ok true w:=by
           unfold isAgg;rw [Sem.run_bind,run_underlying qi,Result.andThen_ok];rfl
          subst Fv;simp [part,vo,yn bf]
         have xl:P.fieldsOf f.type=gs:=by simp [Program.fieldsOf,qi]
         have sub:∀{zs:Array Value} {es:List C},es.length=zs.size→i+l1.length≤es.length→(∀(j:Nat) c u,es[j]? = some c→zs[j]? = some u→aG nm w L γ k j c u)→((es.drop i).take l1.length).length=(zs.extract i (i+l1.length)).size∧
           ∀(j:Nat) c u,((es.drop i).take l1.length)[j]? = some c→(zs.extract i (i+l1.length))[j]? = some u→aG nm w L γ k (i+j) c u:=by
          intro zs es h1 h2 h3;refine ⟨by simp;omega,fun j c u hc hu=>?_⟩;rw [Na] at hc;split at hc
          ·rename_i hj;rw [tC] at hc;rw [UD] at hu;split at hu
           ·exact h3 _ c u hc hu
           ·cases hu
          ·cases hc
         obtain ⟨s1,s2⟩:=sub ub (by omega) eF;obtain ⟨s3,s4⟩:=sub Fg (by omega) zv;have inner:=XJ (P:=P) (w:=w) (n:=n) (o:=i) s2 s4 s1 s3 gs.toList 0 nL (by simpa using g1);have heq:(Op.equalIn (n+2) f.type (.agg (xs.extract i (i+l1.length))) (.agg (ys.extract i (i+l1.length)))).run P w = .ok b1 w:=by
          rw [run_equalIn_struct w (n+1) f.type _ _ (by rw [xl];exact qi) iF.1,xl];exact inner
         simp only [Op.eqFields,mj,ne_eq,Np,bW,Sem.run_bind,pt,heq,Result.andThen_ok];cases b1
         ·simp [g3]
         ·simp [ih,g3]
        ·cases mh
       ·cases mh
      ·cases mh
    ·cases hf
  ·cases hf
theorem Yg {t:TypeId} {fl:List Fl} (h:BD P t=some fl):∃fs,P.underlying t=some (.struct fs)∧P.stoodInHeld t=false∧P.eqGuardType P.depth t=false∧zc P 0 fs.toList=some fl:=by
 unfold BD at h;split at h
 ·rename_i fs hu;split at h
  ·rename_i hc;exact ⟨fs,hu,hc.1,hc.2,h⟩
  ·cases h
 ·cases h
theorem sf {t:TypeId} {u v:Value} {b:Bool} (h:∀n,(Op.equalIn (n+1) t u v).run P w = .ok b w):(Op.equal t u v).run P w = .ok b w:=h 9999
theorem XK {t:TypeId} (h:P.underlying t=some .bool) (x y:Bool):(Op.equal t (.bool x) (.bool y)).run P w = .ok (x==y) w:=
 sf fun n=>run_equalIn_bool' w n t x y h
def NB (P:Program) (t:TypeId):TC→Prop
 | .other=>True
 | .bool=>P.underlying t=some .bool
 | .struct fl=>BD P t=some fl
 | .ptr=>∃e,P.underlying t=some (.pointer e)
 | .slice=>∃e,P.underlying t=some (.slice e)
 | .func=>∃x y z,P.underlying t=some (.func x y z)
 | .iface=>∃m,P.underlying t=some (.interface m)
theorem afD {op:BinOp} {t:TypeId} {y:Operand} {tc:TC} (h:Ix P op t y=some tc):NB P t tc∧(tc = .iface→xC y=true):=by
 have go : (match P.underlying t with
   | some (.int _) => some TC.other
   | some .string => some .other
   | some .bool => some .bool
   | some (.struct _) => (BD P t).map .struct
   | some (.pointer _) => some .ptr
   | some (.slice _) => some .slice
   | some (.func _ _ _) => some .func
   | some (.interface _) => if xC y then some .iface else none
   | _ => none) = some tc → NB P t tc ∧ (tc = .iface → xC y = true) := by
  intro h;split at h
  ·cases h;exact ⟨trivial,by simp⟩
  ·cases h;exact ⟨trivial,by simp⟩
  ·rename_i hu;cases h;exact ⟨hu,by simp⟩
  ·cases hf:BD P t with
   | none=>simp [hf] at h
   | some fl=>simp only [hf,fh,ai] at h;subst h;exact ⟨hf,by simp⟩
  ·rename_i e hu;cases h;exact ⟨⟨e,hu⟩,by simp⟩
  ·rename_i e hu;cases h;exact ⟨⟨e,hu⟩,by simp⟩
  ·rename_i x y z hu;cases h;exact ⟨⟨_,_,_,hu⟩,by simp⟩
  ·rename_i m hu;split at h
   ·rename_i hc;cases h;exact ⟨⟨m,hu⟩,fun _=>hc⟩
   ·cases h
  ·cases h
 unfold Ix at h;cases op<;>first
  | exact go h
  | (cases h;exact ⟨trivial,by simp⟩)
theorem ZN {γ:Key→Nat} {k k2:Key} {j j2:Nat} {t:TypeId} {tc:TC} {c0 c:C} {u v:Value} {b:Bool} (ht:NB P t tc) (h0:jJ tc c0=some true) (h:jJ tc c=some b) (hc:aG nm w L γ k j c u) (xe:aG nm w L γ k2 j2 c0 v) :
  ((binOp .eql t u v).run P w = .ok (.bool b) w∧(binOp .neq t u v).run P w = .ok (.bool !b) w)∧(∀p q,u = .agg p→v = .agg q→False)∧(tc≠.iface→v≠.nilIface):=by
 have two:(Op.equal t u v).run P w = .ok b w→(binOp .eql t u v=do pure (.bool (←Op.equal t u v)))→(binOp .neq t u v=do pure (.bool (!(←Op.equal t u v))))→
  ((binOp .eql t u v).run P w = .ok (.bool b) w∧(binOp .neq t u v).run P w = .ok (.bool !b) w):=fun h1 h2 h3=>⟨by rw [h2];simp [h1],by rw [h3];simp [h1]⟩
 cases tc with
 | other=>simp [jJ] at h0
 | bool=>simp [jJ] at h0
 | struct fl=>simp [jJ] at h0
 | ptr=>
  obtain ⟨e,ht⟩:=ht;cases c0<;>simp [jJ] at h0;cases xe;cases c<;>simp [jJ] at h
  ·subst h;cases hc with
   | ptr hv=>
    obtain ⟨ad,rfl⟩:=hv;exact ⟨two (sf fun n=>by simp [Op.equalIn,run_underlying ht]) rfl rfl,(fun p q e _=>by cases e),(fun _ e=>by cases e)⟩
  ·subst h;cases hc;exact ⟨two (sf fun n=>by simp [Op.equalIn,run_underlying ht]) rfl rfl,(fun p q e _=>by cases e),(fun _ e=>by cases e)⟩
 | func=>
  obtain ⟨e1,e2,e3,ht⟩:=ht;have i1:∀(c:C) (b:Bool),jJ .func c=some b→(c = .eX∧b=true)∨(∃f x y,c = .fn f x y∧f < kL∧b=false):=by
   intro c b h;cases c with
   | eX=>simp only [jJ,ai] at h;exact .inl ⟨rfl,h.symm⟩
   | fn f x y=>
    simp only [jJ] at h;cases hf:zQ f with
    | true=>simp only [hf,ai] at h;exact .inr ⟨_,_,_,rfl,JR hf,h.symm⟩
    | false=>simp [hf] at h
   | _=>simp [jJ] at h
  rcases i1 _ _ h0 with ⟨rfl,_⟩ | ⟨_,_,_,_,_,h⟩
  ·cases xe;rcases i1 _ _ h with ⟨rfl,rfl⟩ | ⟨f,x,y,rfl,jG,rfl⟩
   ·cases hc;exact ⟨two (sf fun n=>by simp [Op.equalIn,run_underlying ht]) rfl rfl,(fun p q e _=>by cases e),(fun _ e=>by cases e)⟩
   ·cases hc with
    | fn=>exact ⟨two (sf fun n=>by simp [Op.equalIn,run_underlying ht]) rfl rfl,(fun p q e _=>by cases e),(fun _ e=>by cases e)⟩
    | fns val hf=>exfalso;rcases hf with ⟨h,_⟩ | ⟨h,_⟩<;>omega
  ·cases h
 | iface=>
  obtain ⟨e1,ht⟩:=ht;cases c0<;>simp [jJ] at h0;cases xe;cases c<;>simp [jJ] at h
  ·subst h;cases hc;exact ⟨two (sf fun n=>by simp [Op.equalIn,run_underlying ht]) rfl rfl,(fun p q e _=>by cases e),(fun h=>absurd rfl h)⟩
  ·subst h;cases hc;exact ⟨two (sf fun n=>by simp [Op.equalIn,run_underlying ht]) rfl rfl,(fun p q e _=>by cases e),(fun h=>absurd rfl h)⟩
 | slice=>
  obtain ⟨e1,ht⟩:=ht;have inv:∀{c:C} {b:Bool},jJ .slice c=some b→(∃sz rows,c = .d (.sl (.im true) sz rows)∧b=true)∨(∃sz rows,c = .d (.sl (.im false) sz rows)∧b=false)∨(∃pl g sz off len,c = .view pl g sz off len∧b=false):=by
   intro c b h;cases c with
   | d x=>
    cases x with
    | sl t sz rows=>
     cases t with
     | im b'=>
      simp only [jJ,ai] at h;subst h;cases b' with
      | true=>exact .inl ⟨sz,rows,rfl,rfl⟩
      | false=>exact .inr (.inl ⟨sz,rows,rfl,rfl⟩)
     | own=>simp [jJ] at h
    | _=>simp [jJ] at h
   | view=>simp only [jJ,ai] at h;exact .inr (.inr ⟨_,_,_,_,_,rfl,h.symm⟩)
   | _=>simp [jJ] at h
  rcases inv h0 with ⟨pP,qG,rfl,_⟩ | ⟨_,_,_,h1⟩ | ⟨_,_,_,_,_,_,h1⟩
  ·cases xe with
   | d E1=>
    cases E1 with
    | plain E1=>
     cases E1;rcases inv h with ⟨MI,acI,rfl,rfl⟩ | ⟨MI,acI,rfl,rfl⟩ | ⟨pl,g,MI,off,len,rfl,rfl⟩
     ·cases hc with
      | d hd=>
       cases hd with
       | plain hd=>
        cases hd;exact ⟨two (sf fun n=>by simp [Op.equalIn,run_underlying ht]) rfl rfl,(fun p q e _=>by cases e),(fun _ e=>by cases e)⟩
     ·cases hc with
      | d hd=>
       cases hd with
       | plain hd=>
        cases hd with
        | mD=>exact ⟨two (sf fun n=>by simp [Op.equalIn,run_underlying ht]) rfl rfl,(fun p q e _=>by cases e),(fun _ e=>by cases e)⟩
        | pl=>exact ⟨two (sf fun n=>by simp [Op.equalIn,run_underlying ht]) rfl rfl,(fun p q e _=>by cases e),(fun _ e=>by cases e)⟩
     ·cases hc with
      | view hv=>
       obtain ⟨b,c,rfl,_,hb⟩:=hv;obtain ⟨ad,rfl⟩:=yF.1 hb;exact ⟨two (sf fun n=>by simp [Op.equalIn,run_underlying ht]) rfl rfl,(fun p q e _=>by cases e),(fun _ e=>by cases e)⟩
  ·cases h1
  ·cases h1
theorem ah1 (R:Rel nm N S a w L) (hd:∀d,o.dst=some d→d < N) {x y:Operand} {X Y:ax.X} {op:BinOp} {t yt:TypeId} {tc:TC} (hx:bQ nm X x) (hy:bQ nm Y y) (ho:o.op = .binOp op t x y yt) (vB:Ix P op t y=some tc)
  (hr:(bq Cl d (.bin tc op X Y)).run S=some r):dx P a w o (dO nm N S w L a o.dst r.1 r.2):=by
 simp only [bq] at hr;obtain ⟨v1,h1,en⟩:=Q.aK hr;clear hr;obtain ⟨v2,h3,hr⟩:=Q.aK en;clear en;obtain ⟨z,hz,h2⟩:=Q.gw hr;clear hr;obtain rfl:=Q.aZ h2;clear h2;have r1:=rd_val R hx h1;have r2:=rd_val R hy h3;obtain ⟨ZB,YZ⟩:=afD vB;clear vB;have vB:=ZB;clear ZB;have done:∀{v:Value},(eqGuard op t x y (a.eval x) (a.eval y)).run P w = .ok () w→(binOp op t (a.eval x) (a.eval y)).run P w = .ok v w→fM w L z v→dx P a w o (dO nm N S w L a o.dst (.one (.d z)) []):=
  fun hg hb hp=>fp R hd (aiy ho hg hb) (.one (.d (.plain hp)))
 unfold r6 at hz;split at hz
 ·
  rename_i k n k' n';have e1:=r1.cL.ra;have e2:=r2.cL.ra;have hg:(eqGuard op t x y (a.eval x) (a.eval y)).run P w = .ok () w:=Ex (by rw [e1];simp) (by rw [e1];simp);split at hz
  ·obtain ⟨v,g1,g2⟩:=adj (P:=P) (w:=w) (L:=L) (.inl rfl) (k':=k') (t:=t) hz;exact done hg (by rw [e1,e2];exact g1) g2
  ·obtain ⟨v,g1,g2⟩:=adj (P:=P) (w:=w) (L:=L) (.inr rfl) (k':=k') (t:=t) hz;exact done hg (by rw [e1,e2];exact g1) g2
  ·rename_i mh vu;split at hz
   ·rename_i hk;subst hk;obtain ⟨v,g1,g2⟩:=aj9 (P:=P) (w:=w) (L:=L) (t:=t) hz (fun e=>mh e) (fun e=>vu e);exact done hg (by rw [e1,e2];exact g1) g2
   ·cases hz
 ·
  have e1:=r1.cL.rH;have e2:=r2.cL.rH;obtain ⟨v,g1,g2⟩:=apU (P:=P) (w:=w) (L:=L) (t:=t) hz;exact done (Ex (by rw [e1];simp) (by rw [e1];simp)) (by rw [e1,e2];exact g1) g2
 ·
  have e1:=r1.cL.r7;have e2:=r2.cL.r7;have hg:(eqGuard op t x y (a.eval x) (a.eval y)).run P w = .ok () w:=Ex (by rw [e1];simp) (by rw [e1];simp);split at hz
  ·cases hz;exact done hg (v:=.bool _) (by rw [e1,e2];simp [binOp,XK vB]) .bool
  ·cases hz;exact done hg (v:=.bool _) (by rw [e1,e2];simp [binOp,XK vB]) .bool
  ·cases hz
 ·
  rename_i cs ds;obtain ⟨xs,e1,jH,dF⟩:=r1.NG;obtain ⟨ys,e2,dW,gy⟩:=r2.NG;split at hz
  ·rename_i fl;obtain ⟨fs,hu,hs,sF,hf⟩:=Yg vB;cases hb:dz fl cs ds with
   | none=>simp [hb] at hz
   | some b=>
    simp only [hb,fh,ai] at hz;subst hz;have xl:P.fieldsOf t=fs:=by simp [Program.fieldsOf,hu]
    have h0:=IN (P:=P) (w:=w) (n:=9997) dF gy jH dW fs.toList 0 hf (by simpa using hb);have he:(Op.equalIn 10000 t (.agg xs) (.agg ys)).run P w = .ok b w:=by
     rw [run_equalIn_struct w 9999 t xs ys (by rw [xl];exact hu) hs,xl];exact h0
    refine done (v:=.bool b) (by rw [e1,e2];exact run_eqGuard_agg w _ t x y xs ys sF) ?_ .bool;rw [e1,e2,run_eql_struct,he];rfl
  ·rename_i fl;obtain ⟨fs,hu,hs,sF,hf⟩:=Yg vB;cases hb:dz fl cs ds with
   | none=>simp [hb] at hz
   | some b=>
    simp only [hb,fh,ai] at hz;subst hz;have xl:P.fieldsOf t=fs:=by simp [Program.fieldsOf,hu]
    have h0:=IN (P:=P) (w:=w) (n:=9997) dF gy jH dW fs.toList 0 hf (by simpa using hb);have he:(Op.equalIn 10000 t (.agg xs) (.agg ys)).run P w = .ok b w:=by
     rw [run_equalIn_struct w 9999 t xs ys (by rw [xl];exact hu) hs,xl];exact h0
    refine done (v:=.bool !b) (by rw [e1,e2];exact run_eqGuard_agg w _ t x y xs ys sF) ?_ .bool;rw [e1,e2,run_neq_struct,he];rfl
  ·cases hz
 ·
  rename_i c c0 _ _ _;split at hz
  ·rename_i ml;split at hz
   ·cases hb:jJ tc c with
    | none=>simp [hb] at hz
    | some b=>
     simp only [hb,fh,ai] at hz;subst hz;obtain ⟨g1,g2,g3⟩:=ZN (P:=P) vB ml hb r1.cL r2.cL;exact done (v:=.bool b) (Ex g2 (fun _ hv=>.inr (YZ (UI fun az=>g3 az hv)))) g1.1 .bool
   ·cases hb:jJ tc c with
    | none=>simp [hb] at hz
    | some b=>
     simp only [hb,fh,ai] at hz;subst hz;obtain ⟨g1,g2,g3⟩:=ZN (P:=P) vB ml hb r1.cL r2.cL;exact done (v:=.bool !b) (Ex g2 (fun _ hv=>.inr (YZ (UI fun az=>g3 az hv)))) g1.2 .bool
   ·cases hz
  ·cases hz
 ·cases hz
end
end
end Go.ax
