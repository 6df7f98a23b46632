/- A part of the proof. -/
import Derived.Test.YtfmpdgeiodnnfaaGreatDoorQ0
import Derived.Laws.IdiomCopy
import Derived.Laws.AppendOwn
import GoSem.Core.Program
import GoSem.Core.Region
import GoSem.Core.Check
import GoSem.Core.Layout
import GoSem.Op.Equal
import Derived.Laws.Strings
import Derived.Laws.StructEq
set_option linter.all false
namespace Go.ax
section
section
variable {nm:FuncId→Option Nat} {N:Nat} {S0:St} {w0:World} {L0:aw} {ws:List Wr} {a:Act} {w:World} {L:aw}
def pf (k:Key) (m j:Nat):Place→Option Place:=fun q=>
 if q.k = .h m∧q.j=j then some ⟨k,0,q.p⟩ else if q.k=k then none else some q
theorem ad3 {k:Key} {m j:Nat} {q:Place} (h1:¬ (q.k = .h m∧q.j=j)) (h2:q.k≠k):pf k m j q=some q:=by
 simp only [pf];rw [aB h1,aB h2]
theorem aqa {k:Key} {m j:Nat} {q:Place} (h1:q.k = .h m∧q.j=j):pf k m j q=some ⟨k,0,q.p⟩:=by
 simp only [pf];rw [aJ h1]
theorem ap9 {k:Key} {m j:Nat} {q t:Place} (h:pf k m j q=some t) (h2:t.k≠k):q=t∧¬ (q.k = .h m∧q.j=j):=by
 simp only [pf] at h;split at h
 ·simp only [aj] at h;exact absurd (by rw [←h]) h2
 ·rename_i h1;split at h
  ·cases h
  ·simp only [aj] at h;exact ⟨h,h1⟩
theorem ap' {k:Key} {m j:Nat} {q q' t:Place} (h1:pf k m j q=some t) (h2:pf k m j q'=some t):q=q':=by
 simp only [pf] at h1 h2;split at h1
 ·rename_i a1;simp only [aj] at h1;split at h2
  ·rename_i a2;simp only [aj] at h2;rw [←h1] at h2;simp only [Place.mk.injEq,ll] at h2;cases q;cases q';simp_all
  ·split at h2
   ·cases h2
   ·rename_i a3;simp only [aj] at h2;exact absurd (by rw [h2,←h1]) a3
 ·split at h1
  ·cases h1
  ·rename_i a3;simp only [aj] at h1;split at h2
   ·simp only [aj] at h2;exact absurd (by rw [h1,←h2]) a3
   ·split at h2
    ·cases h2
    ·simp only [aj] at h2;rw [h1,h2]
theorem Rel.Wk {S:St} (h:Rel nm N S a w L) {m j:Nat} {r:aI} {B o c:Nat} {x:C} {v:Value} (hB:L B=some (.box r o)) (hc:c < cp (S.E (.r r)))
  (hr:r.iW=false) (hx:aF nm w L S.γ (.h m) j x v) :
  ∃L',Rel nm N (S.wr { k:=.b r c,v:=.one x }) a (w.setCell ⟨B,o+c,none⟩ v) L'∧
   pk w (w.setCell ⟨B,o+c,none⟩ v) L L' S.γ (S.wr { k:=.b r c,v:=.one x }).γ (fun q=>¬ (q.k = .h m∧q.j=j))∧
   df w (w.setCell ⟨B,o+c,none⟩ v) L L'∧L' B=some (.box r o)∧(∀B q o,q.k.aT=false→L' B=some (.row q o)→L B=some (.row q o)):=by
 obtain ⟨B',o',cur,e,fz,h1,h2,h3,h4⟩:=h.room r hr (by omega);obtain rfl:=h.fE B' B r o' o h1 hB;obtain rfl:o'=o:=by rw [h1] at hB;simpa using hB
 have aA:∀{B2 l},L B2=some l→(∀r o,l≠.box r o)→(w.setCell ⟨B',o'+c,none⟩ v).heap[B2]? = w.heap[B2]?:=by
  intro B2 l hl qu;refine pD _ _ _ _ ?_;rintro rfl;rw [hB] at hl;simp only [aj] at hl;exact qu _ _ hl.symm
 have ZB:∀{q:Place},q.k.aT=true→q.k≠.b r c→pf (.b r c) m j q=some q:=fun hq hk=>
  ad3 (fun h=>by rw [h.1] at hq;simp [Key.aT] at hq) hk
 have bA:Step w (w.setCell ⟨B',o'+c,none⟩ v) L (cI (pf (.b r c) m j) L) S.γ (S.wr { k:=.b r c,v:=.one x }).γ:=by
  refine ⟨fun B hB=>⟨jM.2 hB,aA hB (by simp)⟩,S.p7 _,?_,fun B q o _ _ _ hB=>aA hB (by simp),fun B r o _ hB=>jz.2 hB⟩;intro B q o hq hγ hL;rw [D4] at hγ;exact ⟨gL hL (ZB hq (En hγ)),fun cur e fz hB=>⟨cur,(aA hL (by simp)).trans hB,rfl⟩⟩
 refine ⟨cI (pf (.b r c) m j) L,?_,⟨bA,?_⟩,?_,jz.2 hB,?_⟩
 ·refine h.write { k:=.b r c,v:=.one x } rfl h.defers (fun _ _=>rfl) bA ?_ ?_ ?_ ?_ ?_ ?_
  ·intro B q o hq FE hL;exact ⟨gL hL (ZB FE hq),aA hL (by simp)⟩
  ·intro B2 r2 o2 _ hL;refine ⟨jz.2 hL,fun iG e2 lr pC=>?_⟩;by_cases he:B2=B'
   ·subst he;rw [hB] at hL;simp only [aj,bS.box.injEq] at hL;obtain ⟨rfl,rfl⟩:=hL;refine ⟨iG.setIfInBounds (o'+c) v,xr w B2 _ v pC,by simp,?_⟩;intro c' kO;rw [yJ];intro e;exact kO (by rw [show c=c' by omega])
   ·exact ⟨iG,(pD _ _ _ _ he).trans pC,rfl,fun _ _=>rfl⟩
  ·refine ⟨x,rfl,fun gi=>⟨hc,?_⟩⟩;have kR:aF nm (w.setCell ⟨B',o'+c,none⟩ v) (cI (pf (.b r c) m j) L) (S.wr { k:=.b r c,v:=.one x }).γ (.b r c) 0 x v:=by
    refine hx.step bA ?_;intro B q o h1 h2 hL;exact ⟨gL hL (aqa ⟨h1,h2⟩),aA hL (by simp)⟩
   have hex:∃B o cur e fz v',cI (pf (.b r c) m j) L B=some (.box r o)∧(w.setCell ⟨B',o'+c,none⟩ v).heap[B]? = some (.cells cur e fz)∧jD cur.size fz∧cur[o+c]? = some v'∧
     aF nm (w.setCell ⟨B',o'+c,none⟩ v) (cI (pf (.b r c) m j) L) (S.wr { k:=.b r c,v:=.one x }).γ (.b r c) 0 x v'∧lO x B o c e cur.size v':=by
    refine ⟨B',o',_,e,fz,v,jz.2 hB,xr w B' _ v h2,by simpa using h3,?_,kR,.of hx.Lz⟩;simp only [wR,bW];rw [aJ (by omega)]
   cases r with
   | g i=>exact ⟨v,kR⟩
   | e i=>exact hex
   | l i=>exact hex
  ·intro B2 l hl;obtain ⟨l0,h0⟩:=G7 hl;have:=h.ft B2 l0 h0;simpa using this
  ·exact G8 h.eM (fun q q' t B B' o o' h1 h2 _ _=>ap' h1 h2)
  ·intro B1 B2 r1 o1 o2 g1 g2;exact h.fE B1 B2 r1 o1 o2 (jz.1 g1) (jz.1 g2)
 ·intro B q o hq hK hL;refine ⟨gL hL (ad3 hK (fun e=>?_)),aA hL (by simp)⟩;rw [e] at hq;simp [Key.aT] at hq
 ·refine ⟨rfl,rfl,rfl,by simp,fun B hB=>⟨jM.2 hB,aA hB (by simp)⟩,?_,fun B i o hB=>jz.2 hB⟩;intro B2 _ hn;refine ⟨Mp hn,pD _ _ _ _ ?_⟩;rintro rfl;rw [hB] at hn;cases hn
 ·intro B2 q o hq hL;obtain ⟨q0,g1,g2⟩:=oY hL;have:=(ap9 g2 (fun e=>by rw [e] at hq;simp [Key.aT] at hq)).1;rwa [this] at g1
theorem pk.trans {w1 w2 w3:World} {L1 L2 L3:aw} {γ1 γ2 γ3:Key→Nat} {K:Place→Prop} (h:pk w1 w2 L1 L2 γ1 γ2 K) (k:pk w2 w3 L2 L3 γ2 γ3 K):pk w1 w3 L1 L3 γ1 γ3 K:=
 ⟨h.di.trans k.di,fun B q o h1 h2 h3=>⟨(k.h B q o h1 h2 (h.h B q o h1 h2 h3).1).1,(k.h B q o h1 h2 (h.h B q o h1 h2 h3).1).2.trans (h.h B q o h1 h2 h3).2⟩⟩
theorem pk.weaken {w1 w2:World} {L1 L2:aw} {γ1 γ2:Key→Nat} {K K':Place→Prop} (h:pk w1 w2 L1 L2 γ1 γ2 K) (hK:∀q,K' q→K q):pk w1 w2 L1 L2 γ1 γ2 K':=
 ⟨h.di,fun B q o h1 h2 h3=>h.h B q o h1 (hK q h2) h3⟩
theorem Rel.Wm {m:Nat} {r:aI} (hr:r.iW=false) {B o:Nat}:∀(cs:List C) (vs:List Value) (j0 c0:Nat) {S:St} {ws:List Wr} {w:World} {L:aw} (h:Rel nm N (S.ah ws) a w L)
  (hB:L B=some (.box r o)) (hl:cs.length=vs.length) (hc:c0+cs.length≤cp ((S.ah ws).E (.r r)))
  (hx:∀j x v,cs[j]? = some x→vs[j]? = some v→aF nm w L (S.ah ws).γ (.h m) (j0+j) x v),
  ∃L',Rel nm N (S.ah (gf r c0 cs ws)) a (w.setCells B (o+c0) vs) L'∧df w (w.setCells B (o+c0) vs) L L'∧L' B=some (.box r o)∧
   (∀B q o,q.k.aT=false→L' B=some (.row q o)→L B=some (.row q o))
 | [],vs,j0,c0,S,ws,w,L,h,hB,hl,hc,hx=>by
  have:vs=[]:=by simpa using hl.symm
  subst this;exact ⟨L,h,df.refl _ _,hB,fun _ _ _ _ h=>h⟩
 | x::cs,[],j0,c0,S,ws,w,L,h,hB,hl,hc,hx=>by simp at hl
 | x::cs,v::vs,j0,c0,S,ws,w,L,h,hB,hl,hc,hx=>by
  simp only [fX] at hc hl;obtain ⟨L1,h1,k1,m1,b1,f1⟩:=h.Wk hB (c:=c0) (by omega) hr (hx 0 x v rfl rfl);have hE:((S.ah ({ k:=.b r c0,v:=.one x } :: ws)).E (.r r))=(S.ah ws).E (.r r):=by
   simp only [St.ah,St.ij];simp
  obtain ⟨L2, h2, m2, b2, f2⟩ := Rel.Wm hr cs vs (j0 + 1) (c0 + 1) (S := S) (ws := { k := .b r c0, v := .one x } :: ws) h1 b1 (by omega) (by rw [hE]; omega) (by
    intro j y u hy hu
    have := (hx (j + 1) y u (by simpa using hy) (by simpa using hu)).keep k1 (fun p => by simp)
    rwa [show j0 + 1 + j = j0 + (j + 1) by omega])
  refine ⟨L2,h2,m1.trans m2,b2,fun B q o hq hL=>f1 B q o hq (f2 B q o hq hL)⟩
theorem Bs (S:St) (r:aI):∀(cs:List C) (c0:Nat) (ws:List Wr) (k:Key),
  (∀c x,k = .b r (c0+c)→cs[c]? = some x→(S.ah (gf r c0 cs ws)).E k = .one x)∧
  ((∀c,c < cs.length→k≠.b r (c0+c))→(S.ah (gf r c0 cs ws)).E k=(S.ah ws).E k∧(S.ah (gf r c0 cs ws)).γ k=(S.ah ws).γ k)∧
  (∀c,c < cs.length→k = .b r (c0+c)→(S.ah ws).γ k < (S.ah (gf r c0 cs ws)).γ k)∧(S.ah ws).γ k≤(S.ah (gf r c0 cs ws)).γ k
 | [],c0,ws,k=>⟨fun c x _ h=>by simp at h,fun _=>⟨rfl,rfl⟩,fun c h=>by simp at h,bV _⟩
 | x::cs,c0,ws,k=>by
  obtain ⟨h1,h2,h3,h4⟩:=Bs S r cs (c0+1) ({ k:=.b r c0,v:=.one x } :: ws) k;have hle:(S.ah ws).γ k≤(S.ah ({ k:=.b r c0,v:=.one x } :: ws)).γ k:=St.p7 _ _ k;simp only [gf];refine ⟨?_,?_,?_,je hle h4⟩
  ·intro c y hk hy;cases c with
   | zero=>
    simp only [kE,aj] at hy;subst hy;rw [(h2 (fun c' _ e=>by rw [hk] at e;simp only [Key.b.injEq,ll] at e;omega)).1];simp only [St.ah,St.ij,hk,jn,bW]
   | succ c=>exact h1 c y (by rw [hk,show c0+(c+1)=c0+1+c by omega]) (by simpa using hy)
  ·intro aA;obtain ⟨g1,g2⟩:=h2 (fun c hc e=>aA (c+1) (by simpa using hc) (by rw [e,show c0+(c+1)=c0+1+c by omega]));have h0:(Key.b r c0)≠k:=fun e=>aA 0 (by simp) (by rw [←e];rfl)
   rw [g1,g2];simp only [St.ah,St.ij,St.jS,h0,dF];trivial
  ·intro c hc hk;cases c with
   | zero=>
    refine HL ?_ h4;simp only [St.ah,St.jS,hk,jn,bW];simp
   | succ c=>
    exact Vg hle (h3 c (by simpa using hc) (by rw [hk,show c0+(c+1)=c0+1+c by omega]))
def wH (r:aI) (n m:Nat):Place→Option Place:=fun q=>
 if q.k = .h m then (if q.j < n then some ⟨.b r q.j,0,q.p⟩ else none)
 else match q.k with
  | .b r' c=>if r'=r∧c < n then none else some q
  | .s _=>some q
  | _=>none
theorem Ue {r:aI} {n m:Nat} {q t:Place} (h:wH r n m q=some t):(q.k = .h m∧q.j < n∧t=⟨.b r q.j,0,q.p⟩)∨(q.k.aT=true∧t=q∧∀c,c < n→q.k≠.b r c):=by
 unfold wH at h;split at h
 ·rename_i h1;split at h
  ·rename_i h2;simp only [aj] at h;exact .inl ⟨h1,h2,h.symm⟩
  ·cases h
 ·rename_i h1;split at h
  ·rename_i r' c hk;split at h
   ·cases h
   ·rename_i h2;simp only [aj] at h;refine .inr ⟨by rw [hk];rfl,h.symm,?_⟩;intro c' kO e;rw [hk] at e;simp only [Key.b.injEq] at e;exact h2 ⟨e.1,by omega⟩
  ·rename_i i hk;simp only [aj] at h;exact .inr ⟨by rw [hk];rfl,h.symm,fun c _ e=>by rw [hk] at e;cases e⟩
  ·cases h
theorem Uf {r:aI} {n m:Nat} {q:Place} (h:q.k.aT=true) (hn:∀c,c < n→q.k≠.b r c):wH r n m q=some q:=by
 unfold wH;rw [aB (fun e=>by rw [e] at h;simp [Key.aT] at h)];obtain ⟨k,i,p⟩:=q;cases k with
 | s i=>rfl
 | b r' c=>
  simp only;rw [aB];rintro ⟨rfl,hc⟩;exact hn c hc rfl
 | _=>simp [Key.aT] at h
theorem ap8 {r:aI} {n m:Nat} {q:Place} (h:q.k = .h m) (hj:q.j < n):wH r n m q=some ⟨.b r q.j,0,q.p⟩:=by
 unfold wH;rw [aJ h,aJ hj]
def kI (r:aI) (n m:Nat) (w:World) (L:aw):aw:=fun B=>
 if B=w.heap.size then some (.box r 0) else
 match L B with
 | some (.box r' o)=>if r'=r then none else some (.box r' o)
 | _=>cI (wH r n m) L B
theorem y9 {r:aI} {n m:Nat}:kI r n m w L w.heap.size=some (.box r 0):=by simp [kI]
theorem Ih {r:aI} {n m B o:Nat} {q q':Place} (aA:B≠w.heap.size) (h:L B=some (.row q o)) (hf:wH r n m q=some q'):kI r n m w L B=some (.row q' o):=by
 unfold kI;rw [aB aA];simp only [h];exact gL h hf
theorem Wi {r:aI} {n m B:Nat} (aA:B≠w.heap.size) (h:L B=some .bh):kI r n m w L B=some .bh:=by
 unfold kI;rw [aB aA];simp only [h];exact jM.2 h
theorem afr {r:aI} {n m B:Nat} (aA:B≠w.heap.size) (h:L B=none):kI r n m w L B=none:=by
 unfold kI;rw [aB aA];simp only [h];exact Mp h
theorem Ig {r:aI} {n m B o:Nat} {r':aI} (aA:B≠w.heap.size) (h:L B=some (.box r' o)) (hr:r'≠r):kI r n m w L B=some (.box r' o):=by
 unfold kI;rw [aB aA];simp only [h,hr,dF]
theorem y7 {r:aI} {n m B:Nat} {l:bS} (h:kI r n m w L B=some l):(B=w.heap.size∧l = .box r 0)∨
  (B≠w.heap.size∧((l = .bh∧L B=some .bh)∨(∃r' o,l = .box r' o∧r'≠r∧L B=some (.box r' o))∨∃q q' o,l = .row q' o∧L B=some (.row q o)∧wH r n m q=some q')):=by
 unfold kI at h;split at h
 ·rename_i he;simp only [aj] at h;exact .inl ⟨he,h.symm⟩
 ·rename_i he;refine .inr ⟨he,?_⟩;split at h
  ·rename_i r' o hL;split at h
   ·cases h
   ·rename_i hr;simp only [aj] at h;exact .inr (.inl ⟨r',o,h.symm,hr,hL⟩)
  ·rename_i qu;cases l with
   | bh=>exact .inl ⟨rfl,jM.1 h⟩
   | row q o=>obtain ⟨q0,g1,g2⟩:=oY h;exact .inr (.inr ⟨q0,q,o,rfl,g1,g2⟩)
   | box r' o=>exact absurd (jz.1 h) (qu r' o)
theorem qW (n:Nat):cp (fy n)=n:=by simp [cp,fy]
theorem Rel.sY {S:St} {ws:List Wr} (h:Rel nm N (S.ah ws) a w L) {m:Nat} {r:aI} {cs:List C} {vs:Array Value} {e:TypeId} (hr:r.iW=false) (xE:∀i,r≠.e i)
  (hl:cs.length=vs.size) (hn:cp ((S.ah ws).E (.r r))=0∨cp ((S.ah ws).E (.r r))=cs.length)
  (hx:∀(j:Nat) x v,cs[j]? = some x→vs[j]? = some v→aF nm w L (S.ah ws).γ (.h m) j x v) :
  Rel nm N (S.ah (gf r 0 cs ({ k:=.r r,v:=fy cs.length } :: ws))) a (w.alloc (.cells vs e)) (kI r cs.length m w L)∧
   df w (w.alloc (.cells vs e)) L (kI r cs.length m w L)∧eI (kI r cs.length m w L):=by
 have Ci:=h.ft.new;have af:∀{B l},L B=some l→B≠w.heap.size:=fun {B l} hB e=>by rw [e,Ci] at hB;cases hB
 have ek:∀{B l},L B=some l→(w.alloc (.cells vs e)).heap[B]? = w.heap[B]?:=fun hB=>nk w _ (af hB)
 have hw:=fun k=>Bs S r cs 0 ({ k:=.r r,v:=fy cs.length } :: ws) k
 have zw:∀r',(S.ah (gf r 0 cs ({ k:=.r r,v:=fy cs.length } :: ws))).E (.r r')=if r=r' then fy cs.length else (S.ah ws).E (.r r'):=by
  intro r';rw [((hw (.r r')).2.1 (fun c _ e=>by cases e)).1];simp only [St.ah,St.ij,Key.r.injEq]
 have hEs:∀i,(S.ah (gf r 0 cs ({ k:=.r r,v:=fy cs.length } :: ws))).E (.s i)=(S.ah ws).E (.s i):=by
  intro i;rw [((hw (.s i)).2.1 (fun c _ e=>by cases e)).1];simp [St.ah,St.ij]
 have I':∀r' c,(r'≠r∨cs.length≤c)→(S.ah (gf r 0 cs ({ k:=.r r,v:=fy cs.length } :: ws))).E (.b r' c)=(S.ah ws).E (.b r' c):=by
  intro r' c hc;rw [((hw (.b r' c)).2.1 (fun c' h1 e=>by simp only [Key.b.injEq] at e;rcases hc with hc | hc;exact hc e.1;omega)).1];simp [St.ah,St.ij]
 have akg:∀k,(S.ah ws).γ k≤(S.ah (gf r 0 cs ({ k:=.r r,v:=fy cs.length } :: ws))).γ k:=fun k=>
  je (St.p7 (S.ah ws) { k:=.r r,v:=fy cs.length } k) (hw k).2.2.2
 have hγb:∀c,c < cs.length→(S.ah ws).γ (.b r c) < (S.ah (gf r 0 cs ({ k:=.r r,v:=fy cs.length } :: ws))).γ (.b r c):=fun c hc=>
  Vg (St.p7 (S.ah ws) { k:=.r r,v:=fy cs.length } (.b r c)) ((hw (.b r c)).2.2.1 c hc (by simp))
 have hγr:(S.ah ws).γ (.r r) < (S.ah (gf r 0 cs ({ k:=.r r,v:=fy cs.length } :: ws))).γ (.r r):=by
  refine HL ?_ (hw (.r r)).2.2.2;simp only [St.ah,St.jS,bW];simp
 have bA:Step w (w.alloc (.cells vs e)) L (kI r cs.length m w L) (S.ah ws).γ (S.ah (gf r 0 cs ({ k:=.r r,v:=fy cs.length } :: ws))).γ:=by
  refine ⟨fun B hB=>⟨Wi (af hB) hB,ek hB⟩,akg,?_,fun B q o _ _ _ hB=>ek hB,?_⟩
  ·intro B q o hq hγ hL;refine ⟨Ih (af hL) hL (Uf hq ?_),fun cur e fz hc=>⟨cur,(ek hL).trans hc,rfl⟩⟩;intro c hc e;rw [e] at hγ;exact absurd hγ (Nat.ne_of_gt (hγb c hc))
  ·intro B r' o hγ hL;refine Ig (af hL) hL ?_;rintro rfl;exact absurd hγ (Nat.ne_of_gt hγr)
 refine ⟨⟨h.size,h.defers,?_,?_,?_,?_,?_,?_,?_,?_⟩,?_,?_⟩
 ·intro i;rw [hEs];refine (h.slot i).step bA ?_;intro B q o hq hL;refine ⟨?_,ek hL⟩;rw [←hq,Place.mh];exact Ih (af hL) hL (Uf (by rw [hq];rfl) (fun c _ e=>by rw [hq] at e;cases e))
 ·intro r' c x hE gi;by_cases hc:r'=r∧c < cs.length
  ·obtain ⟨rfl,hc⟩:=hc;have lU:=(hw (.b r' c)).1 c cs[c] (by simp) (by simp [hc]);rw [hE] at lU;simp only [V.one.injEq] at lU;have kR:aF nm (w.alloc (.cells vs e)) (kI r' cs.length m w L) (S.ah (gf r' 0 cs ({ k:=.r r',v:=fy cs.length } :: ws))).γ (.b r' c) 0 x (vs[c]'(by omega)):=by
    refine (hx c x vs[c] (by rw [lU];simp [hc]) (by simp [←hl,hc])).step bA ?_;intro B q o h1 h2 hL;refine ⟨?_,ek hL⟩;have:=Ih (af hL) hL (ap8 (r:=r') (n:=cs.length) h1 (by rw [h2];exact hc));rwa [h2] at this
   have hex:∃B o cur e' fz v',kI r' cs.length m w L B=some (.box r' o)∧(w.alloc (.cells vs e)).heap[B]? = some (.cells cur e' fz)∧jD cur.size fz∧cur[o+c]? = some v'∧
     aF nm (w.alloc (.cells vs e)) (kI r' cs.length m w L) (S.ah (gf r' 0 cs ({ k:=.r r',v:=fy cs.length } :: ws))).γ (.b r' c) 0 x v'∧lO x B o c e' cur.size v':=
    ⟨w.heap.size,0,vs,e,(0,0),_,y9,oL w _,fun j _=>by simp,by simp [←hl,hc],kR,.of (hx c x vs[c] (by rw [lU];simp [hc]) (by simp [←hl,hc])).Lz⟩
   cases r' with
   | g i=>simp [aI.iW] at hr
   | e i=>exact hex
   | l i=>exact hex
  ·rw [I' r' c (by by_cases h1:r'=r<;>simp_all)] at hE;by_cases dP:r'=r
   ·subst dP;have aS:cs.length≤c:=by simpa using hc
    have:=h.bound r' c (by rcases hn with hn | hn<;>rw [hn]<;>omega);rw [this] at hE;simp only [V.one.injEq] at hE;exact absurd hE.symm gi
   ·refine (h.cell r' c x hE gi).step bA ?_ ?_
    ·intro B q o hq hL;exact ⟨Ih (af hL) hL (Uf (by rw [hq];rfl) (fun c' _ e=>by rw [hq] at e;simp only [Key.b.injEq] at e;exact dP e.1)),ek hL⟩
    ·intro B o hL;exact ⟨Ig (af hL) hL dP,fun cur e fz hc=>⟨cur,(ek hL).trans hc,rfl,rfl⟩⟩
 ·intro r' c;by_cases hc:r'=r∧c < cs.length
  ·obtain ⟨rfl,hc⟩:=hc;exact ⟨cs[c],(hw (.b r' c)).1 c cs[c] (by simp) (by simp [hc])⟩
  ·rw [I' r' c (by by_cases h1:r'=r<;>simp_all)];exact h.kg r' c
 ·intro r' c hc;rw [zw] at hc;by_cases dP:r=r'
  ·subst dP;simp only [bW,qW] at hc;rw [I' r c (.inr hc)];exact h.bound r c (by rcases hn with hn | hn<;>rw [hn]<;>omega)
  ·rw [aB dP] at hc;rw [I' r' c (.inl (fun e=>dP e.symm))];exact h.bound r' c hc
 ·intro r' hg hb;rw [zw] at hb ⊢;by_cases dP:r=r'
  ·subst dP;simp only [bW,qW] at hb ⊢;exact ⟨w.heap.size,0,vs,e,(0,0),y9,oL w _,fun j _=>by simp,by omega⟩
  ·rw [aB dP] at hb ⊢;obtain ⟨B,o,cur,e',fz,h1,h2,h3,h4⟩:=h.room r' hg hb;exact ⟨B,o,cur,e',fz,Ig (af h1) h1 (fun e=>dP e.symm),(ek h1).trans h2,h3,h4⟩
 ·intro B l hB;have hz:(w.alloc (.cells vs e)).heap.size=w.heap.size+1:=by simp
  rw [hz];rcases y7 hB with ⟨rfl,_⟩ | ⟨aA,dD⟩
  ·exact Nat.lt_succ_self _
  ·refine Nat.lt_succ_of_lt ?_;rcases dD with ⟨_,h1⟩ | ⟨r',o,_,_,h1⟩ | ⟨q,q',o,_,h1,_⟩<;>exact h.ft B _ h1
 ·intro B B' pl o o' h1 h2;rcases y7 h1 with ⟨_,he⟩ | ⟨_,⟨he,_⟩ | ⟨_,_,he,_⟩ | ⟨q,t,o1,he,g1,g2⟩⟩
  ·cases he
  ·cases he
  ·cases he
  rcases y7 h2 with ⟨_,cZ⟩ | ⟨_,⟨cZ,_⟩ | ⟨_,_,cZ,_⟩ | ⟨q',t',np,cZ,ml,sy⟩⟩
  ·cases cZ
  ·cases cZ
  ·cases cZ
  simp only [bS.row.injEq] at he cZ;obtain ⟨rfl,rfl⟩:=he;obtain ⟨rfl,rfl⟩:=cZ;have:q=q':=by
   rcases Ue g2 with ⟨a1,a4,a2⟩ | ⟨a1,a2,a3⟩<;>rcases Ue sy with ⟨b1,b4,b2⟩ | ⟨b1,b2,b3⟩
   ·rw [a2] at b2;simp only [Place.mk.injEq,Key.b.injEq,ll] at b2;cases q;cases q';simp_all
   ·exact absurd (by rw [←b2,a2]) (b3 q.j a4)
   ·exact absurd (by rw [←a2,b2]) (a3 q'.j b4)
   ·rw [←a2,←b2]
  subst this;exact h.eM B B' q o o' g1 ml
 ·intro B B' r' o o' h1 h2;rcases y7 h1 with ⟨rfl,he⟩ | ⟨_,⟨he,_⟩ | ⟨r1,o1,he,jX,g1⟩ | ⟨q,t,o1,he,g1,g2⟩⟩
  ·simp only [bS.box.injEq] at he;rcases y7 h2 with ⟨rfl,cZ⟩ | ⟨_,⟨cZ,_⟩ | ⟨G1,np,cZ,ZF,ml⟩ | ⟨q',t',np,cZ,ml,sy⟩⟩
   ·rfl
   ·cases cZ
   ·simp only [bS.box.injEq] at cZ;exact absurd (cZ.1.symm.trans he.1) ZF
   ·cases cZ
  ·cases he
  ·simp only [bS.box.injEq] at he;rcases y7 h2 with ⟨rfl,cZ⟩ | ⟨_,⟨cZ,_⟩ | ⟨G1,np,cZ,ZF,ml⟩ | ⟨q',t',np,cZ,ml,sy⟩⟩
   ·simp only [bS.box.injEq] at cZ;exact absurd (he.1.symm.trans cZ.1) jX
   ·cases cZ
   ·simp only [bS.box.injEq] at cZ;rw [←he.1] at g1;rw [←cZ.1] at ml;exact h.fE B B' r' o1 np g1 ml
   ·cases cZ
  ·cases he
 ·refine ⟨rfl,rfl,rfl,by simp,fun B hB=>⟨Wi (af hB) hB,ek hB⟩,?_,fun B i o hB=>Ig (af hB) hB (fun e=>xE i e.symm)⟩;intro B vC hB;have aA:B≠w.heap.size:=by omega
  exact ⟨afr aA hB,nk w _ aA⟩
 ·intro B q o hB;rcases y7 hB with ⟨_,he⟩ | ⟨_,⟨he,_⟩ | ⟨_,_,he,_⟩ | ⟨q0,t,o1,he,g1,g2⟩⟩
  ·cases he
  ·cases he
  ·cases he
  ·simp only [bS.row.injEq] at he;obtain ⟨rfl,rfl⟩:=he;rcases Ue g2 with ⟨_,_,rfl⟩ | ⟨h1,rfl,_⟩
   ·rfl
   ·exact h1
end
end
section
section
variable {nm:FuncId→Option Nat} {N:Nat} {S0:St} {w0:World} {L0:aw} {ws:List Wr} {a:Act} {w:World} {L:aw}
theorem V.apz {x:V} {j:Nat} {c:C} (h:x.cells[j]? = some c):x.setCell j c=x:=by
 cases x with
 | one c0=>
  cases j with
  | zero=>simp only [V.cells,kE,aj] at h;simp [V.setCell,h]
  | succ j=>simp [V.cells] at h
 | agg cs=>
  simp only [V.cells] at h;simp only [V.setCell];congr 1;obtain ⟨hj,rfl⟩:=cA.1 h;exact ae2 hj
 | aq vs=>simp [V.cells] at h
theorem V.afL {x:V} {j:Nat} {c c':C} (h:x.cells[j]? = some c):(x.setCell j c').cells[j]? = some c':=by
 cases x with
 | one c0=>
  cases j with
  | zero=>simp [V.setCell,V.cells]
  | succ j=>simp [V.cells] at h
 | agg cs=>
  simp only [V.cells] at h;obtain ⟨hj,rfl⟩:=cA.1 h;simp [V.setCell,V.cells,hj]
 | aq vs=>simp [V.cells] at h
open Classical in
noncomputable def nc (t:Place) (m j:Nat) (L:aw):aw:=fun B=>
 match L B with
 | some (.row q o)=>if q.k = .h m∧q.j=j then some (.row (t.app q.p) o) else if bE t q then none else some (.row q o)
 | x=>x
theorem XP {t:Place} {m j B:Nat}:nc t m j L B=some .bh↔L B=some .bh:=by
 unfold nc;split
 ·rename_i q o hL;rw [hL];split
  ·simp
  ·split<;>simp
 ·rfl
theorem ahR {t:Place} {m j B o:Nat} {r:aI}:nc t m j L B=some (.box r o)↔L B=some (.box r o):=by
 unfold nc;split
 ·rename_i q o' hL;rw [hL];split
  ·simp
  ·split<;>simp
 ·rfl
theorem ahW {t:Place} {m j B:Nat} (h:L B=none):nc t m j L B=none:=by simp [nc,h]
theorem ahS {t:Place} {m j B:Nat} {l:bS} (h:nc t m j L B=some l):∃l0,L B=some l0:=by
 unfold nc at h;split at h
 ·rename_i q o hL;exact ⟨_,hL⟩
 ·exact ⟨_,h⟩
theorem ahU {t:Place} {m j B o:Nat} {q:Place} (h:L B=some (.row q o)) (h1:¬ (q.k = .h m∧q.j=j)) (h2:¬ bE t q):nc t m j L B=some (.row q o):=by
 simp only [nc,h];rw [aB h1,aB h2]
theorem ahV {t:Place} {m j B o:Nat} {q:Place} (h:L B=some (.row q o)) (h1:q.k = .h m∧q.j=j):nc t m j L B=some (.row (t.app q.p) o):=by
 simp only [nc,h];rw [aJ h1]
theorem O5 {t:Place} {m j B o:Nat} {q:Place} (h:nc t m j L B=some (.row q o)) :
  (∃q0,L B=some (.row q0 o)∧(q0.k = .h m∧q0.j=j)∧q=t.app q0.p)∨(L B=some (.row q o)∧¬ (q.k = .h m∧q.j=j)∧¬ bE t q):=by
 unfold nc at h;split at h
 ·rename_i q0 o0 hL;split at h
  ·rename_i h1;simp only [aj,bS.row.injEq] at h;exact .inl ⟨q0,by rw [hL,h.2],h1,h.1.symm⟩
  ·rename_i h1;split at h
   ·cases h
   ·rename_i h2;simp only [aj,bS.row.injEq] at h;obtain ⟨rfl,rfl⟩:=h;exact .inr ⟨hL,h1,h2⟩
 ·rename_i hn;exact absurd h (hn q o)
theorem ahT {t:Place} {m j:Nat} (h:me L):me (nc t m j L):=by
 intro B B' pl o o' h1 h2;rcases O5 h1 with ⟨q,a1,a2,a3⟩ | ⟨a1,a2,a3⟩<;>rcases O5 h2 with ⟨q',b1,b2,b3⟩ | ⟨b1,b2,b3⟩
 ·have:=Place.afb (a3.symm.trans b3);have:q=q':=by cases q;cases q';simp_all
  subst this;exact h B B' q o o' a1 b1
 ·exact absurd ⟨q.p,a3⟩ b3
 ·exact absurd ⟨q'.p,b3⟩ a3
 ·exact h B B' pl o o' a1 b1
theorem aF.Yu {γ:Key→Nat} {k:Key} {j:Nat} {z:D} {v:Value} (h:aF nm w L γ k j (.d z) v) (hf:z.flat=true):fL w L z v:=by
 cases h with
 | d h=>
  cases h with
  | plain h=>exact h
  | jl=>simp [D.flat] at hf
  | own=>simp [D.flat] at hf
theorem ae4 (S:St) (k:Key) (v:V) (kp:Bool) (k':Key) :
  (S.ah [{ k,v,keep:=kp },{ k:=.a k,v:=V.dead }]).γ k'=if k' = .a k then S.γ k'+1 else if k'=k∧kp=false then S.γ k'+1 else S.γ k':=by
 have Fk:∀k:Key,k≠.a k:=by
  intro k;induction k with
  | a k ih=>intro e;simp only [Key.a.injEq] at e;exact ih e
  | _=>intro e;cases e
 simp only [St.ah,St.jS];by_cases h1:k' = .a k
 ·subst h1;simp [Fk k]
 ·rw [aB h1];by_cases h2:k=k'
  ·subst h2;cases kp<;>simp [Ne.symm h1]
  ·simp [h2,Ne.symm h1,Ne.symm h2]
theorem Rel.ahX {S:St} (h:Rel nm N S a w L) {m j:Nat} {pl:Place} {B o i c sz:Nat} {x dJ z:D} {rows:List (List D)} {u:Value} (hk:pl.k.aT=true)
  (hE:(S.E pl.k).cells[pl.j]? = some (.d x)) (hn:ew x pl.p=some (.sl .own sz rows)) (hc:cellOf rows i c=some dJ) (hB:L B=some (.row pl o))
  (hz:aF nm w L S.γ (.h m) j (.d z) u) (QT:AQ z dJ=true) :
  ∃L',Rel nm N (S.ah [{ k:=pl.k,v:=(S.E pl.k).setCell pl.j (.d (eF x (pl.p++[(i,c)]) z)),keep:=dJ.flat&&z.flat },{ k:=.a pl.k,v:=V.dead }]) a (w.setCell ⟨B,o+i * sz+c,none⟩ u) L'∧
   pk w (w.setCell ⟨B,o+i * sz+c,none⟩ u) L L' S.γ (S.ah [{ k:=pl.k,v:=(S.E pl.k).setCell pl.j (.d (eF x (pl.p++[(i,c)]) z)),keep:=dJ.flat&&z.flat },{ k:=.a pl.k,v:=V.dead }]).γ (fun q=>¬ (q.k = .h m∧q.j=j))∧
   df w (w.setCell ⟨B,o+i * sz+c,none⟩ u) L L'∧L' B=some (.row pl o)∧(∀B q o,q.k.aT=false→L' B=some (.row q o)→L B=some (.row q o)):=by
 have aA:∀{B2 l},L B2=some l→l≠.row pl o→(w.setCell ⟨B,o+i * sz+c,none⟩ u).heap[B2]? = w.heap[B2]?:=by
  intro B2 l hl qu;refine pD _ _ _ _ ?_;rintro rfl;rw [hB] at hl;simp only [aj] at hl;exact qu hl.symm
 have Jo:∀{q:Place},q.k.aT=true→¬ (q.k = .h m∧q.j=j):=fun hq h=>by rw [h.1] at hq;simp [Key.aT] at hq
 have zP:¬ bE (pl.sub i c) pl:=bE.Sl;have h1:Rel nm N (S.wr { k:=.a pl.k,v:=V.dead }) a w L:=h.kill (.a pl.k) (fun r e=>by cases e);have Fk:∀k:Key,k≠.a k:=by
  intro k;induction k with
  | a k ih=>intro e;simp only [Key.a.injEq] at e;exact ih e
  | _=>intro e;cases e
 have YN:(S.wr { k:=.a pl.k,v:=V.dead }).E pl.k=S.E pl.k:=by
  rw [St.ij];simp [Ne.symm (Fk pl.k)]
 have main:∀L',(∀B,L' B=some .bh↔L B=some .bh)→(∀B r o,L' B=some (.box r o)↔L B=some (.box r o))→(∀B,L B=none→L' B=none)→(∀B l,L' B=some l→∃l0,L B=some l0)→me L'→
   (∀B q o,¬ (q.k = .h m∧q.j=j)→¬ bE (pl.sub i c) q→L B=some (.row q o)→L' B=some (.row q o))→
   (∀B q o,q.k.aT=false→L' B=some (.row q o)→L B=some (.row q o))→
   (((dJ.flat&&z.flat)=true)→L'=L)→
   br (w.setCell ⟨B,o+i * sz+c,none⟩ u) L' (pl.sub i c) z u→
   Rel nm N (S.ah [{ k:=pl.k,v:=(S.E pl.k).setCell pl.j (.d (eF x (pl.p++[(i,c)]) z)),keep:=dJ.flat&&z.flat },{ k:=.a pl.k,v:=V.dead }]) a (w.setCell ⟨B,o+i * sz+c,none⟩ u) L'∧
   pk w (w.setCell ⟨B,o+i * sz+c,none⟩ u) L L' S.γ (S.ah [{ k:=pl.k,v:=(S.E pl.k).setCell pl.j (.d (eF x (pl.p++[(i,c)]) z)),keep:=dJ.flat&&z.flat },{ k:=.a pl.k,v:=V.dead }]).γ (fun q=>¬ (q.k = .h m∧q.j=j))∧
   df w (w.setCell ⟨B,o+i * sz+c,none⟩ u) L L'∧L' B=some (.row pl o)∧(∀B q o,q.k.aT=false→L' B=some (.row q o)→L B=some (.row q o)):=by
  intro L' fT gY vH hdm oO zN vu ajB hzd;have Qp:r8 w (w.setCell ⟨B,o+i * sz+c,none⟩ u) L L':=fun B2 hb=>⟨(fT B2).2 hb,aA hb (by simp)⟩
  have cL:∀{B2 q o2},q.k.aT=true→((S.ah [{ k:=pl.k,v:=(S.E pl.k).setCell pl.j (.d (eF x (pl.p++[(i,c)]) z)),keep:=dJ.flat&&z.flat },{ k:=.a pl.k,v:=V.dead }]).γ q.k=S.γ q.k)→
    L B2=some (.row q o2)→L' B2=some (.row q o2):=by
   intro B2 q o2 hq hγ hL;cases hf:(dJ.flat&&z.flat) with
   | true=>rw [ajB hf];exact hL
   | false=>
    rw [ae4,hf] at hγ;refine zN B2 q o2 (Jo hq) (fun hu=>?_) hL;have hqk:q.k=pl.k:=hu.key.1;rw [hqk] at hγ;simp [Fk pl.k] at hγ
  have bA:Step w (w.setCell ⟨B,o+i * sz+c,none⟩ u) L L' S.γ (S.ah [{ k:=pl.k,v:=(S.E pl.k).setCell pl.j (.d (eF x (pl.p++[(i,c)]) z)),keep:=dJ.flat&&z.flat },{ k:=.a pl.k,v:=V.dead }]).γ:=by
   refine ⟨Qp,fun k=>St.wU S _ k,?_,?_,fun B2 r o2 _ hb=>(gY B2 r o2).2 hb⟩
   ·intro B2 q o2 hq hγ hL;refine ⟨cL hq hγ hL,fun iG e2 lr gB=>?_⟩;by_cases he:B2=B
    ·subst he;exact ⟨_,xr w B2 _ u gB,by simp⟩
    ·exact ⟨iG,(pD _ _ _ _ he).trans gB,rfl⟩
   ·intro B2 q o2 hq _ Cw hL;refine aA hL ?_;intro e;simp only [bS.row.injEq] at e;rw [ae4,e.1,aJ rfl] at Cw;omega
  have aj5:∀B' q o',L B'=some (.row q o')→q=(⟨pl.k,pl.j,[]⟩:Place).app pl.p→B'=B:=by
   intro B' q o' hL he;rw [Place.Bg] at he;subst he;exact h.eM B' B q o' o hL hB
  have qj:∀v,aF nm w L S.γ pl.k pl.j (.d x) v→aF nm (w.setCell ⟨B,o+i * sz+c,none⟩ u) L' (S.ah [{ k:=pl.k,v:=(S.E pl.k).setCell pl.j (.d (eF x (pl.p++[(i,c)]) z)),keep:=dJ.flat&&z.flat },{ k:=.a pl.k,v:=V.dead }]).γ pl.k pl.j (.d (eF x (pl.p++[(i,c)]) z)) v:=by
   intro v hv;cases hv with
   | d hv=>
    refine .d (br.set hc pl.p hv hn (by rw [Place.Bg];exact hB) aj5 Qp ?_ (by rw [Place.Bg];exact hzd) QT);intro B' q o' hu zP hL;rw [Place.Bg] at zP;refine zN B' q o' (Jo ?_) zP hL;rw [hu.key.1];exact hk
  have E':r7 (w.setCell ⟨B,o+i * sz+c,none⟩ u) L':=by
   intro B2 l hl;obtain ⟨l0,h0⟩:=hdm B2 l hl;have:=h.ft B2 l0 h0;simpa using this
  have qf:D6 L':=fun B1 B2 r o1 o2 g1 g2=>h.fE B1 B2 r o1 o2 ((gY _ _ _).1 g1) ((gY _ _ _).1 g2)
  have lA:∀B2 q o2,q.k≠pl.k∨q.j≠pl.j→q.k.aT=true→L B2=some (.row q o2)→L' B2=some (.row q o2)∧(w.setCell ⟨B,o+i * sz+c,none⟩ u).heap[B2]? = w.heap[B2]?:=by
   intro B2 q o2 hq FE hL;refine ⟨zN B2 q o2 (Jo FE) (fun hu=>?_) hL,aA hL (fun e=>?_)⟩
   ·have:=hu.key;simp only [Place.sub] at this;rcases hq with hq | hq
    ·exact hq this.1
    ·exact hq this.2
   ·simp only [bS.row.injEq] at e;rcases hq with hq | hq<;>exact hq (by rw [e.1])
  refine ⟨?_,⟨bA,?_⟩,?_,zN B pl o (Jo hk) zP hB,vu⟩
  ·
   generalize vq:St.ah S [{ k:=pl.k,v:=(S.E pl.k).setCell pl.j (.d (eF x (pl.p++[(i,c)]) z)),keep:=dJ.flat&&z.flat },{ k:=.a pl.k,v:=V.dead }]=S' at bA qj ⊢;have sF:∀k,k≠.a pl.k→S'.E k=if pl.k=k then (S.E pl.k).setCell pl.j (.d (eF x (pl.p++[(i,c)]) z)) else S.E k:=by
    intro k ku;rw [←vq];simp only [St.ah,St.ij,Ne.symm ku,dF]
   have zw:∀r,S'.E (.r r)=S.E (.r r):=fun r=>by rw [sF _ (by simp),aB (fun e=>by rw [e] at hk;simp [Key.aT] at hk)]
   have ud:∀B2 r o2,L B2=some (.box r o2)→L' B2=some (.box r o2)∧(w.setCell ⟨B,o+i * sz+c,none⟩ u).heap[B2]? = w.heap[B2]?:=fun B2 r o2 hL=>⟨(gY _ _ _).2 hL,aA hL (by simp)⟩
   clear cL vq;generalize w.setCell ⟨B,o+i * sz+c,none⟩ u=w' at *;refine ⟨h.size,h.defers,?_,?_,?_,?_,?_,E',oO,qf⟩
   ·intro i2;rw [sF _ (by simp)];by_cases he:pl.k = .s i2
    ·rw [aJ he,he];rw [he] at hE qj;exact (h.slot i2).setCell hE bA (fun B2 q o2 hq FD hL=>lA B2 q o2 (.inr FD) (by rw [hq];rfl) hL) qj
    ·rw [aB he];refine (h.slot i2).step bA ?_;intro B2 q o2 hq hL;rw [←hq,Place.mh];exact lA B2 q o2 (.inl (by rw [hq];exact fun e=>he e.symm)) (by rw [hq];rfl) hL
   ·intro r cc y hy jh;rw [sF _ (by simp)] at hy;by_cases he:pl.k = .b r cc
    ·rw [aJ he,he] at hy;rw [he] at hE qj;obtain ⟨c0,vp⟩:=h.kg r cc;rw [vp] at hE hy;simp only [V.cells] at hE;have Cd:pl.j=0:=by
      cases hj:pl.j with
      | zero=>rfl
      | succ n=>rw [hj] at hE;simp at hE
     rw [Cd] at hE hy qj;simp only [kE,aj] at hE;subst hE;simp only [V.setCell,bW,V.one.injEq] at hy;subst hy;have hold:=h.cell r cc _ vp (by simp);have tr:(∃B o cur e fz v,L B=some (.box r o)∧w.heap[B]? = some (.cells cur e fz)∧jD cur.size fz∧cur[o+cc]? = some v∧aF nm w L S.γ (.b r cc) 0 (.d x) v∧lO (.d x) B o cc e cur.size v)→
       (∃ B2 o2 iG e2 lr v, L' B2 = some (.box r o2) ∧ w'.heap[B2]? = some (.cells iG e2 lr) ∧ jD iG.size lr ∧ iG[o2 + cc]? = some v ∧
         aF nm w' L' S'.γ (.b r cc) 0 (.d (eF x (pl.p ++ [(i, c)]) z)) v ∧ lO (.d (eF x (pl.p ++ [(i, c)]) z)) B2 o2 cc e2 iG.size v) := fun ⟨B2, o2, iG, e2, lr, v, h1, h2, h3, h4, h5, _⟩ =>
      ⟨B2,o2,iG,e2,lr,v,(ud B2 r o2 h1).1,(ud B2 r o2 h1).2.trans h2,h3,h4,qj v h5,trivial⟩
     cases r with
     | g i'=>obtain ⟨v,hv⟩:=hold;exact ⟨v,qj v hv⟩
     | e i'=>exact tr hold
     | l i'=>exact tr hold
    ·rw [aB he] at hy;refine (h.cell r cc y hy jh).step bA ?_ ?_
     ·intro B2 q o2 hq hL;exact lA B2 q o2 (.inl (by rw [hq];exact fun e=>he e.symm)) (by rw [hq];rfl) hL
     ·intro B2 o2 hL;exact ⟨(ud B2 r o2 hL).1,fun iG e2 lr gB=>⟨iG,(ud B2 r o2 hL).2.trans gB,rfl,rfl⟩⟩
   ·intro r cc;rw [sF _ (by simp)];by_cases he:pl.k = .b r cc
    ·rw [aJ he,he];obtain ⟨c0,vp⟩:=h.kg r cc;rw [vp];by_cases hj:pl.j=0
     ·exact ⟨.d (eF x (pl.p++[(i,c)]) z),by rw [hj];simp [V.setCell]⟩
     ·exact ⟨c0,by simp [V.setCell,hj]⟩
    ·rw [aB he];exact h.kg r cc
   ·intro r cc da;rw [zw] at da;have hb:=h.bound r cc da;rw [sF _ (by simp)];by_cases he:pl.k = .b r cc
    ·rw [he,hb] at hE;exfalso;cases hj:pl.j with
     | zero=>rw [hj] at hE;simp [V.cells] at hE
     | succ n=>rw [hj] at hE;simp [V.cells] at hE
    ·rw [aB he];exact hb
   ·intro r hg hr;rw [zw] at hr ⊢;obtain ⟨B2,o2,iG,e2,lr,h1,h2,h3,h4⟩:=h.room r hg hr;exact ⟨B2,o2,iG,e2,lr,(ud _ _ _ h1).1,(ud _ _ _ h1).2.trans h2,h3,h4⟩
  ·intro B2 q o2 hq hK hL;refine ⟨zN B2 q o2 hK (fun hu=>?_) hL,aA hL (fun e=>?_)⟩
   ·rw [hu.key.1] at hq;simp only [Place.sub] at hq;rw [hk] at hq;cases hq
   ·simp only [bS.row.injEq] at e;rw [e.1,hk] at hq;cases hq
  ·refine ⟨rfl,rfl,rfl,by simp,Qp,?_,fun B i o hB=>(gY _ _ _).2 hB⟩;intro B2 _ vG;refine ⟨vH B2 vG,pD _ _ _ _ ?_⟩;rintro rfl;rw [hB] at vG;cases vG
 cases hf:(dJ.flat&&z.flat) with
 | true=>
  have hzf:z.flat=true:=by simp only [bK] at hf;exact hf.2
  have:=main L (fun _=>Iff.rfl) (fun _ _ _=>Iff.rfl) (fun _ h=>h) (fun B l h=>⟨l,h⟩) h.eM (fun _ _ _ _ _ h=>h) (fun _ _ _ _ h=>h) (fun _=>rfl)
   (.plain ((hz.Yu hzf).mono (fun B2 hb=>⟨hb,aA hb (by simp)⟩)))
  rw [hf] at this;exact ⟨L,this⟩
 | false=>
  have:=main (nc (pl.sub i c) m j L) (fun _=>XP) (fun _ _ _=>ahR) (fun _ h=>ahW h) (fun B l h=>ahS h) (ahT h.eM) (fun _ _ _ h1 h2 h=>ahU h h1 h2)
   (fun B q o hq hL => by
     rcases O5 hL with ⟨q0, _, _, rfl⟩ | ⟨h1, _⟩
     · simp only [Place.app, Place.sub] at hq; rw [hk] at hq; cases hq
     · exact h1)
   (fun h1 => by rw [hf] at h1; cases h1) (by
     cases hz with
     | d hz =>
       have := br.move (w' := w.setCell ⟨B, o + i * sz + c, none⟩ u) (L' := nc (pl.sub i c) m j L) (fun q => (pl.sub i c).app q.p) (fun q => q.k = .h m ∧ q.j = j) (fun _ _ _ h => h)
         (fun q a b _ => Place.Eh _ _ _ _) (fun B2 hb => ⟨XP.2 hb, aA hb (by simp)⟩) (fun B2 q o2 hq hL => ⟨ahV hL hq, aA hL (fun e => by
           simp only [bS.row.injEq] at e; rw [e.1] at hq; rw [hq.1] at hk; simp [Key.aT] at hk)⟩) hz ⟨rfl, rfl⟩
       simpa [Place.app] using this)
  rw [hf] at this;exact ⟨_,this⟩
end
end
section
section
variable {nm:FuncId→Option Nat} {N:Nat} {S0:St} {w0:World} {L0:aw} {ws:List Wr} {a:Act} {w:World} {L:aw}
theorem Sc:∀(p:List (Nat×Nat)) (x:D) (q:List (Nat×Nat)),ew x (p++q)=(ew x p).bind (ew · q)
 | [],x,q=>by simp [ew]
 | (i,c)::p,x,q=>by
  simp only [qQ];cases x with
  | sl t sz rows=>
   cases t with
   | own=>
    rw [Da,Da];cases h:cellOf rows i c with
    | none=>simp
    | some y=>simp [Sc p y q]
   | im b=>simp [ew]
  | _=>simp [ew]
theorem an4 {x dJ:D} {p:List (Nat×Nat)} {i c:Nat} (h:ew x (p++[(i,c)])=some dJ):∃sz rows,ew x p=some (.sl .own sz rows)∧cellOf rows i c=some dJ:=by
 rw [Sc] at h;cases hx:ew x p with
 | none=>simp [hx] at h
 | some y=>
  rw [hx] at h;simp only [Option.bind_some] at h;obtain ⟨sz,rows,z,rfl,h1,h2⟩:=An h;simp only [ew,aj] at h2;subst h2;exact ⟨sz,rows,rfl,h1⟩
theorem Sd {z dJ:D} {i c:Nat}:∀(p:List (Nat×Nat)) {x:D} {sz:Nat} {rows:List (List D)},ew x p=some (.sl .own sz rows)→cellOf rows i c=some dJ→
  ew (eF x (p++[(i,c)]) z) p=some (.sl .own sz (rows.set i ((rows.getD i []).set c z)))
 | [],x,sz,rows,h,hc=>by
  simp only [ew,aj] at h;subst h;simp only [uV];rw [He hc,eF];rfl
 | (i',c')::p,x,sz,rows,h,hc=>by
  obtain ⟨pS,qM,y,rfl,h1,h2⟩:=An h;simp only [qQ];rw [He h1,Da,Ew h1,aJ ⟨rfl,rfl⟩];simp only [Option.bind_some];exact Sd p h2 hc
theorem Rel.XQ {m:Nat} {pl:Place} {B o i sz:Nat} (hk:pl.k.aT=true):∀(zs:List D) (us:List Value) (j0 c:Nat) (x:D) {ws e8:List Wr} {w:World} {L:aw} (h:Rel nm N (S0.ah ws) a w L)
  (hE:((S0.ah ws).E pl.k).cells[pl.j]? = some (.d x)) (hn:∃rows,ew x pl.p=some (.sl .own sz rows)) (hB:L B=some (.row pl o)) (hl:zs.length=us.length)
  (hw:xe ((S0.ah ws).E pl.k) pl i c zs x ws=some e8)
  (hz:∀j z u,zs[j]? = some z→us[j]? = some u→aF nm w L (S0.ah ws).γ (.h m) (j0+j) (.d z) u),
  ∃L',Rel nm N (S0.ah e8) a (w.setCells B (o+i * sz+c) us) L'∧df w (w.setCells B (o+i * sz+c) us) L L'∧(∀B q o,q.k.aT=false→L' B=some (.row q o)→L B=some (.row q o))
 | [],us,j0,c,x,ws,e8,w,L,h,hE,hn,hB,hl,hw,hz=>by
  have:us=[]:=by simpa using hl.symm
  subst this;simp only [xe,aj] at hw;subst hw;exact ⟨L,h,df.refl _ _,fun _ _ _ _ h=>h⟩
 | z::zs,[],j0,c,x,ws,e8,w,L,h,hE,hn,hB,hl,hw,hz=>by simp at hl
 | z::zs,u::us,j0,c,x,ws,e8,w,L,h,hE,hn,hB,hl,hw,hz=>by
  simp only [xe] at hw;cases ho:ew x (pl.p++[(i,c)]) with
  | none=>simp [ho] at hw
  | some dJ=>
   rw [ho] at hw;simp only at hw;split at hw;rotate_left
   ·cases hw
   rename_i QT;obtain ⟨MI,rows,h1,h2⟩:=an4 ho;obtain ⟨uI,sL⟩:=hn;obtain ⟨rfl,rfl⟩:MI=sz∧rows=uI:=by rw [h1] at sL;simpa using sL
   obtain ⟨L1,g1,g2,g3,g4,g5⟩:=h.ahX hk hE h1 h2 hB (hz 0 z u rfl rfl) QT;have Fk:∀k:Key,k≠.a k:=by
    intro k;induction k with
    | a k ih=>intro e;simp only [Key.a.injEq] at e;exact ih e
    | _=>intro e;cases e
   have uc:(S0.ah ({ k:=pl.k,v:=((S0.ah ws).E pl.k).setCell pl.j (.d (eF x (pl.p++[(i,c)]) z)),keep:=dJ.flat&&z.flat } :: { k:=.a pl.k,v:=V.dead } :: ws)).E pl.k =
     ((S0.ah ws).E pl.k).setCell pl.j (.d (eF x (pl.p++[(i,c)]) z)):=by
    simp only [St.ah,St.ij,bW]
   obtain ⟨L2,k1,k2,k3⟩:=Rel.XQ hk zs us (j0+1) (c+1) (eF x (pl.p++[(i,c)]) z) (ws:={ k:=pl.k,v:=((S0.ah ws).E pl.k).setCell pl.j (.d (eF x (pl.p++[(i,c)]) z)),keep:=dJ.flat&&z.flat } :: { k:=.a pl.k,v:=V.dead } :: ws) g1
    (by rw [uc]; exact V.afL hE) ⟨_, Sd pl.p h1 h2⟩ g4 (by simpa using hl) (by rw [uc]; exact hw) (by
      intro j z' u' Q7 jv
      have := (hz (j + 1) z' u' (by simpa using Q7) (by simpa using jv)).keep g2 (fun p => by simp)
      rwa [show j0 + 1 + j = j0 + (j + 1) by omega])
   exact ⟨L2,k1,g3.trans k2,fun B q o hq hL=>g5 B q o hq (k3 B q o hq hL)⟩
theorem Rel.I7 {S:St} (h:Rel nm N S a w L) {w':World} {L':aw}
  (ek:∀B l,L B=some l→(∀q o,l = .row q o→q.k.aT=true)→w'.heap[B]? = w.heap[B]?∧L' B=some l)
  (hd:r7 w' L') (oO:me L') (qf:D6 L'):Rel nm N S a w' L':=by
 have bA:Step w w' L L' S.γ S.γ:=by
  refine ⟨fun B hB=>⟨(ek B _ hB (by simp)).2,(ek B _ hB (by simp)).1⟩,fun _=>bV _,?_,?_,fun B r o _ hB=>(ek B _ hB (by simp)).2⟩
  ·intro B q o hq _ hB;have:=ek B _ hB (fun q' o' e=>by simp only [bS.row.injEq] at e;rw [←e.1];exact hq);exact ⟨this.2,fun cur e fz hc=>⟨cur,this.1.trans hc,rfl⟩⟩
  ·intro B q o hq _ _ hB;exact (ek B _ hB (fun q' o' e=>by simp only [bS.row.injEq] at e;rw [←e.1];exact hq)).1
 refine ⟨h.size,h.defers,?_,?_,h.kg,h.bound,fun r hg hr=>let ⟨B,o,cur,e,fz,h1,h2,h3,h4⟩:=h.room r hg hr;⟨B,o,cur,e,fz,(ek B _ h1 (by simp)).2,(ek B _ h1 (by simp)).1.trans h2,h3,h4⟩,hd,oO,qf⟩
 ·intro i;refine (h.slot i).step bA ?_;intro B q o hq hB;have:=ek B _ hB (fun q' o' e=>by simp only [bS.row.injEq] at e;rw [←e.1,hq];rfl);exact ⟨by rw [←hq,Place.mh];exact this.2,this.1⟩
 ·intro r c x hx gi;refine (h.cell r c x hx gi).step bA (fun B q o hq hB=>?_) (fun B o hB=>⟨(ek B _ hB (by simp)).2,fun cur e fz hc=>⟨cur,(ek B _ hB (by simp)).1.trans hc,rfl,rfl⟩⟩);have:=ek B _ hB (fun q' o' e=>by simp only [bS.row.injEq] at e;rw [←e.1,hq];rfl);exact ⟨this.2,this.1⟩
theorem br.beyond {w':World} {pl:Place} {B o n:Nat} {cur dU:Array Value} {e:TypeId} {fz:Nat×Nat} (hL:L B=some (.row pl o)) (hB:w.heap[B]? = some (.cells cur e fz))
  (aA:∀B' l,L B'=some l→B'≠B→w'.heap[B']? = w.heap[B']?) (dD:w'.heap[B]? = some (.cells dU e fz)) (bf:dU.size=cur.size) (Cp:∀i,i < o+n→dU[i]? = cur[i]?)
  {t:Place} {x:D} {v:Value} (h:br w L t x v):(∀p sz rows,t.app p=pl→ew x p=some (.sl .own sz rows)→rows.length * sz≤n)→br w' L t x v:=by
 have fT:r8 w w' L L:=fun B2 hb=>⟨hb,aA B2 _ hb (fun e=>by rw [e,hL] at hb;cases hb)⟩
 induction h with
 | plain h=>exact fun _=>.plain (h.mono fT)
 | jl=>exact fun _=>.jl
 | @own t sz rows B1 o1 cap ark e1 fz1 val ZQ oI I9 cU hlen dN dI hv hr ec ih=>
  intro Jx;have rh:∀i c x,cellOf rows i c=some x→br w' L (t.sub i c) x (val i c):=by
   intro i c x hx;refine ih i c x hx (fun p cu uI ht hn=>Jx ((i,c)::p) cu uI ?_ ?_)
   ·rw [Place.qV];exact ht
   ·rw [Da,hx];exact hn
  by_cases he:B1=B
  ·subst he;rw [hL] at oI;simp only [aj,bS.row.injEq] at oI;obtain ⟨rfl,rfl⟩:=oI;have hn:=Jx [] sz rows (Place.Bf _) rfl;rw [hB] at I9;simp only [aj,Obj.cells.injEq] at I9;obtain ⟨rfl,rfl,rfl⟩:=I9;refine .own val ZQ hL dD (by rw [bf];exact cU) hlen dN (by rw [bf];exact dI) ?_ rh ec;intro i c x hx;obtain ⟨hi,hc⟩:=ox hlen hx;rw [Cp]
   ·exact hv i c x hx
   ·have:(i+1) * sz≤rows.length * sz:=p6 _ (by omega);rw [lN] at this;omega
  ·exact .own val ZQ oI ((aA _ _ oI he).trans I9) cU hlen dN dI hv rh ec
theorem Rel.aoH {S:St} (h:Rel nm N S a w L) {w':World} {pl:Place} {B o n sz:Nat} {cur dU:Array Value} {e:TypeId} {fz:Nat×Nat} {x:D} {rows:List (List D)} (hk:pl.k.aT=true)
  (hE:(S.E pl.k).cells[pl.j]? = some (.d x)) (hn:ew x pl.p=some (.sl .own sz rows)) (hlen:rows.length * sz≤n)
  (hL:L B=some (.row pl o)) (hB:w.heap[B]? = some (.cells cur e fz))
  (aA:∀B' l,L B'=some l→B'≠B→w'.heap[B']? = w.heap[B']?) (dD:w'.heap[B]? = some (.cells dU e fz)) (bf:dU.size=cur.size) (Cp:∀i,i < o+n→dU[i]? = cur[i]?) :
  Rel nm N (S.wr { k:=.a pl.k,v:=V.dead }) a w' L:=by
 have bA:Step w w' L L S.γ (S.wr { k:=.a pl.k,v:=V.dead }).γ:=by
  refine ⟨fun B2 hb=>⟨hb,aA B2 _ hb (fun e=>by rw [e,hL] at hb;cases hb)⟩,S.p7 _,?_,?_,fun _ _ _ _ hb=>hb⟩
  ·intro B2 q o2 _ _ hb;refine ⟨hb,fun iG e2 lr gB=>?_⟩;by_cases he:B2=B
   ·subst he;rw [hB] at gB;simp only [aj,Obj.cells.injEq] at gB;obtain ⟨rfl,rfl,rfl⟩:=gB;exact ⟨dU,dD,bf⟩
   ·exact ⟨iG,(aA B2 _ hb he).trans gB,rfl⟩
  ·intro B2 q o2 _ _ Cw hb;refine aA B2 _ hb (fun he=>?_);subst he;rw [hL] at hb;simp only [aj,bS.row.injEq] at hb;rw [←hb.1,St.jS] at Cw;simp at Cw
 have sF:∀k,k≠.a pl.k→(S.wr { k:=.a pl.k,v:=V.dead }).E k=S.E k:=fun k ku=>by rw [St.ij];simp [Ne.symm ku]
 have lA:∀B2 q o2,q.k≠pl.k∨q.j≠pl.j→L B2=some (.row q o2)→L B2=some (.row q o2)∧w'.heap[B2]? = w.heap[B2]?:=by
  intro B2 q o2 hq hb;refine ⟨hb,aA B2 _ hb (fun he=>?_)⟩;subst he;rw [hL] at hb;simp only [aj,bS.row.injEq] at hb;rcases hq with hq | hq<;>exact hq (by rw [hb.1])
 have qj:∀v,aF nm w L S.γ pl.k pl.j (.d x) v→aF nm w' L (S.wr { k:=.a pl.k,v:=V.dead }).γ pl.k pl.j (.d x) v:=by
  intro v hv;cases hv with
  | d hv=>
   refine .d (br.beyond hL hB aA dD bf Cp hv ?_);intro p cu uI hp sL;have:p=pl.p:=by
    have:=fU Place.p hp;simpa [Place.app] using this
   subst this;rw [hn] at sL;simp only [aj,D.sl.injEq,ll] at sL;rw [←sL.1,←sL.2];exact hlen
 have E':r7 w' L:=by
  intro B2 l hb;by_cases he:B2=B
  ·subst he;exact (lL.1 dD).1
  ·exact xq (h.ft B2 l hb) (aA B2 _ hb he)
 have ud:∀B2 r o2,L B2=some (.box r o2)→w'.heap[B2]? = w.heap[B2]?:=fun B2 r o2 hb=>aA B2 _ hb (fun he=>by rw [he,hL] at hb;cases hb)
 generalize vq:S.wr { k:=.a pl.k,v:=V.dead } = S' at *;refine ⟨h.size,h.defers,?_,?_,?_,?_,?_,E',h.eM,h.fE⟩
 ·intro i2;rw [sF _ (by simp)];by_cases he:pl.k = .s i2
  ·have:=(h.slot i2).setCell (j:=pl.j) (c:=.d x) (c':=.d x) (by rw [←he];exact hE) bA
    (fun B2 q o2 hq FD hb=>lA B2 q o2 (.inr FD) hb) (by rw [←he];exact qj)
   rwa [V.apz (by rw [←he];exact hE)] at this
  ·refine (h.slot i2).step bA ?_;intro B2 q o2 hq hb;rw [←hq,Place.mh];exact lA B2 q o2 (.inl (by rw [hq];exact fun e=>he e.symm)) hb
 ·intro r cc y hy jh;rw [sF _ (by simp)] at hy;by_cases he:pl.k = .b r cc
  ·rw [he] at hE qj;rw [hy] at hE;simp only [V.cells] at hE;have Cd:pl.j=0:=by
    cases hj:pl.j with
    | zero=>rfl
    | succ n=>rw [hj] at hE;simp at hE
   rw [Cd] at hE qj;simp only [kE,aj] at hE;subst hE;have hold:=h.cell r cc _ hy jh;have tr:(∃B o cur e fz v,L B=some (.box r o)∧w.heap[B]? = some (.cells cur e fz)∧jD cur.size fz∧cur[o+cc]? = some v∧aF nm w L S.γ (.b r cc) 0 (.d x) v∧lO (.d x) B o cc e cur.size v)→
     (∃B o cur e fz v,L B=some (.box r o)∧w'.heap[B]? = some (.cells cur e fz)∧jD cur.size fz∧cur[o+cc]? = some v∧aF nm w' L S'.γ (.b r cc) 0 (.d x) v∧lO (.d x) B o cc e cur.size v):=
    fun ⟨B2,o2,iG,e2,lr,v,h1,h2,h3,h4,h5,_⟩=>⟨B2,o2,iG,e2,lr,v,h1,(ud B2 r o2 h1).trans h2,h3,h4,qj v h5,trivial⟩
   cases r with
   | g i'=>obtain ⟨v,hv⟩:=hold;exact ⟨v,qj v hv⟩
   | e i'=>exact tr hold
   | l i'=>exact tr hold
  ·refine (h.cell r cc y hy jh).step bA ?_ ?_
   ·intro B2 q o2 hq hb;exact lA B2 q o2 (.inl (by rw [hq];exact fun e=>he e.symm)) hb
   ·intro B2 o2 hb;exact ⟨hb,fun iG e2 lr gB=>⟨iG,(ud B2 r o2 hb).trans gB,rfl,rfl⟩⟩
 ·intro r cc;rw [sF _ (by simp)];exact h.kg r cc
 ·intro r cc da;rw [sF _ (by simp)] at da ⊢;exact h.bound r cc da
 ·intro r hg hr;rw [sF _ (by simp)] at hr ⊢;obtain ⟨B2,o2,iG,e2,lr,h1,h2,h3,h4⟩:=h.room r hg hr;exact ⟨B2,o2,iG,e2,lr,h1,(ud B2 r o2 h1).trans h2,h3,h4⟩
theorem Rel.VI {S:St} (h:Rel nm N S a w L) {m j:Nat} (hm:∀B o,L B≠some (.row ⟨.h m,j,[]⟩ o)) (cur:Array Value) (e:TypeId) :
  Rel nm N S a (w.alloc (.cells cur e)) (L.put w.heap.size (.row ⟨.h m,j,[]⟩ 0)):=by
 have Ci:=h.ft.new;have aA:∀B l,L B=some l→B≠w.heap.size:=fun B l hB e=>by rw [e,Ci] at hB;cases hB
 refine h.grow (fun B l hB=>nk w _ (aA B l hB)) (fun B l hB=>by rw [aw.gw (aA B l hB)];exact hB) ?_ ?_ ?_
 ·intro B l hB;by_cases he:B=w.heap.size
  ·subst he;exact (lL.1 (oL w _)).1
  ·rw [aw.gw he] at hB;exact xq (h.ft B l hB) (nk w _ he)
 ·intro B B' pl o o' h1 h2;by_cases he:B=w.heap.size
  ·by_cases cZ:B'=w.heap.size
   ·rw [he,cZ]
   ·subst he;rw [aw.kZ] at h1;rw [aw.gw cZ] at h2;simp only [aj,bS.row.injEq] at h1;rw [←h1.1] at h2;exact absurd h2 (hm B' o')
  ·rw [aw.gw he] at h1;by_cases cZ:B'=w.heap.size
   ·subst cZ;rw [aw.kZ] at h2;simp only [aj,bS.row.injEq] at h2;rw [←h2.1] at h1;exact absurd h1 (hm B o)
   ·rw [aw.gw cZ] at h2;exact h.eM B B' pl o o' h1 h2
 ·intro B B' r o o' h1 h2;by_cases he:B=w.heap.size
  ·subst he;rw [aw.kZ] at h1;simp at h1
  ·by_cases cZ:B'=w.heap.size
   ·subst cZ;rw [aw.kZ] at h2;simp at h2
   ·rw [aw.gw he] at h1;rw [aw.gw cZ] at h2;exact h.fE B B' r o o' h1 h2
def ph (w:World) (L:aw) (H:Place) (rows:List (List D)) (val:Nat→Nat→Value):Prop:=∀i c x,cellOf rows i c=some x→br w L (H.sub i c) x (val i c)
def pn (rows:List (List D)) (sz o:Nat) (cur:Array Value) (val:Nat→Nat→Value):Prop:=∀i c x,cellOf rows i c=some x→cur[o+i * sz+c]? = some (val i c)
theorem aoT {cur:Array Value} {e:TypeId} {H:Place} {rows:List (List D)} {val:Nat→Nat→Value} (hd:r7 w L) (hc:ph w L H rows val) :
  ph (w.alloc (.cells cur e)) (L.put w.heap.size (.row H 0)) H rows val:=by
 intro i c x hx;have aA:∀B l,L B=some l→B≠w.heap.size:=fun B l hB e=>by rw [e,hd.new] at hB;cases hB
 exact br.move id (fun _=>True) (fun _ _ _ _=>trivial) (fun _ _ _ _=>rfl) (fun B hB=>⟨by rw [aw.gw (aA B _ hB)];exact hB,nk w _ (aA B _ hB)⟩)
  (fun B q o _ hB=>⟨by rw [aw.gw (aA B _ hB)];exact hB,nk w _ (aA B _ hB)⟩) (hc i c x hx) trivial
theorem Rel.newRow {S:St} (h:Rel nm N S a w L) {m j:Nat} (hm:∀B o,L B≠some (.row ⟨.h m,j,[]⟩ o)) {cur:Array Value} {e:TypeId} {rows:List (List D)} {val:Nat→Nat→Value} {sz cap:Nat} (bf:0 < sz)
  (hlen:∀r∈rows,r.length=sz) (dN:rows.length≤cap) (dI:cap * sz≤cur.size) (hv:pn rows sz 0 cur val) (hc:ph w L ⟨.h m,j,[]⟩ rows val) (ec:tT rows e) :
  Rel nm N S a (w.alloc (.cells cur e)) (L.put w.heap.size (.row ⟨.h m,j,[]⟩ 0))∧
   aF nm (w.alloc (.cells cur e)) (L.put w.heap.size (.row ⟨.h m,j,[]⟩ 0)) S.γ (.h m) j (.d (.sl .own sz rows)) (.slice (some ⟨w.heap.size,0,none⟩) rows.length cap):=
 ⟨h.VI hm cur e,.d (.own val bf (aw.kZ _ _ _) (oL w _) (fun j _=>by simp) hlen dN (by omega) (by simpa [pn] using hv) (aoT h.ft hc) ec)⟩
end
end
section
theorem TE {α R:Type} (S:St) (q:Q α):∀(rs:List Key) (K:α→List Key→Option R),runK S q rs K=match q.run S with | some a=>K a ((q.reads S).reverse++rs) | none=>none:=by
 induction q with
 | ret a=>intro rs K;rfl
 | get k f ih=>
  intro rs K;simp only [runK,Q.run,Q.reads,ih,List.reverse_cons,ej,qQ,uV]
 | oz h nat f ih=>
  intro rs K;simp only [runK,Q.run,Q.reads];rw [nat,nat α,nat (List Key)];cases h _ some with
  | none=>rfl
  | some b=>simp only [Option.bind,Option.getD];exact ih b rs K
 | no=>intro rs K;rfl
theorem Q.wy {α β:Type} (S:St) (x:Q α) (f:α→Q β):(x >>= f).reads S=x.reads S++(match x.run S with | some a=>(f a).reads S | none=>[]):=by
 show (x.bind f).reads S=_;induction x with
 | ret a=>rfl
 | get k g ih=>simp only [Q.bind,Q.reads,Q.run];rw [ih];rfl
 | oz h nat g ih=>
  simp only [Q.bind,Q.reads,Q.run];rw [nat,nat _ (fun b=>some ((g b).reads S)),nat α];cases h _ some with
  | none=>rfl
  | some b=>simp only [Option.bind,Option.getD];exact ih b
 | no=>rfl
def Q.le {α:Type} (p q:Q α):Prop:=∀S x,p.run S=some x→q.run S=some x∧p.reads S=q.reads S
theorem Q.le.refl {α:Type} (p:Q α):p.le p:=fun _ _ h=>⟨h,rfl⟩
theorem Q.le.bind {α β:Type} {p q:Q α} {f g:α→Q β} (h:p.le q) (hf:∀a,(f a).le (g a)):(p >>= f).le (q >>= g):=by
 intro S x hx;rw [Q.run_bind] at hx;cases hp:p.run S with
 | none=>simp [hp] at hx
 | some a=>
  simp only [hp,Option.bind] at hx;obtain ⟨h1,h2⟩:=h S a hp;obtain ⟨h3,h4⟩:=hf a S x hx;refine ⟨by rw [Q.run_bind,h1];exact h3,?_⟩;rw [Q.wy,Q.wy,hp,h1,h2];simp only [h4]
theorem Q.le.eU {α β:Type} {p:Q α} {f g:α→Q β} (hf:∀a,(f a).le (g a)):(p >>= f).le (p >>= g):=(Q.le.refl p).bind hf
theorem Q.le.trans {α:Type} {p q r:Q α} (h:p.le q) (h':q.le r):p.le r:=fun S x hx=>
 ⟨(h' S x (h S x hx).1).1,(h S x hx).2.trans (h' S x (h S x hx).1).2⟩
theorem Q.le.no {α:Type} (q:Q α):(Q.no:Q α).le q:=by intro S x h;cases h
theorem Q.le.GO {α:Type} {p q:Q α} (h:∀S x,p.run S=some x→q.run S=some x) (hp:∀S,p.reads S=[]) (hq:∀S,q.reads S=[]):p.le q:=
 fun S x hx=>⟨h S x hx,by rw [hp,hq]⟩
theorem afY:∀(s:DS) (x:D) (v:s.T),kq s x=some v→BE s v some=some x:=by
 intro s x v h;cases s<;>cases x<;>simp only [kq] at h<;>try cases h
 ·split at h<;>cases h;rename_i hk;subst hk;rfl
 ·rfl
 ·rfl
 ·rename_i t cu rows;cases t<;>simp only at h
  ·split at h<;>cases h;rename_i hk;subst hk;rfl
  ·cases h
 ·rename_i t cu rows;cases t<;>simp only at h
  ·cases h
  ·split at h<;>cases h;rename_i hk;subst hk;rfl
 ·rename_i t cu rows;split at h<;>cases h;rename_i hk;subst hk;cases t<;>rfl
 ·rename_i t cu rows;split at h<;>cases h;rename_i hk;subst hk;rfl
 ·rfl
 all_goals rfl
theorem OM:∀(ds:List DS) (l:List D) (v:au ds),eb ds l=some v→oC ds v some=some l
 | [],[],v,_=>rfl
 | [],x::l,v,h=>by cases h
 | s::t,[],v,h=>by cases h
 | s::t,x::l,v,h=>by
  simp only [eb] at h;cases h1:kq s x with
  | none=>simp [h1] at h
  | some a=>
   cases h2:eb t l with
   | none=>simp [h1,h2] at h
   | some b=>
    simp only [h1,h2,aj] at h;subst h;simp only [oC];rw [OL,afY s x a h1];simp only [Option.bind];rw [xh,OM t l b h2];rfl
theorem Xu:∀{cs:List C} {l:List D},na cs=some l→cs=l.map .d
 | [],l,h=>by cases h;rfl
 | c::t,l,h=>by
  cases c<;>simp only [na] at h<;>try cases h
  rename_i x;cases h1:na t with
  | none=>simp [h1] at h
  | some l1=>simp [h1] at h;subst h;simp [Xu h1]
theorem afX:∀(s:DS) (x:D) (v:s.T),kq s x=some v→C.d x=cC s v:=by
 intro s x v h;cases s with
 | int k=>
  cases x with
  | int k' n=>
   simp only [kq] at h;split at h
   ·rename_i he;simp only [aj] at h;subst h;subst he;rfl
   ·cases h
  | _=>cases h
 | bool=>
  cases x with
  | bool b=>simp only [kq,aj] at h;subst h;rfl
  | _=>cases h
 | str=>
  cases x with
  | str b=>simp only [kq,aj] at h;subst h;rfl
  | _=>cases h
 | im sz=>
  cases x with
  | sl t cu rows=>
   cases t with
   | im b=>
    simp only [kq] at h;split at h
    ·rename_i he;simp only [aj] at h;subst h;subst he;rfl
    ·cases h
   | own=>cases h
  | _=>cases h
 | own sz=>
  cases x with
  | sl t cu rows=>
   cases t with
   | im b=>cases h
   | own=>
    simp only [kq] at h;split at h
    ·rename_i he;simp only [aj] at h;subst h;subst he;rfl
    ·cases h
  | _=>cases h
 | sl sz=>
  cases x with
  | sl t cu rows=>
   simp only [kq] at h;split at h
   ·rename_i he;simp only [aj] at h;subst h;subst he;rfl
   ·cases h
  | _=>cases h
 | tg sz=>
  cases x with
  | sl t cu rows=>
   simp only [kq] at h;split at h
   ·rename_i he;simp only [aj] at h;subst h;subst he;rfl
   ·cases h
  | _=>cases h
 | bt t=>cases x<;>cases h
 | lq f l=>cases x<;>cases h
 | ptr i c=>cases x<;>cases h
 | cE=>cases x<;>cases h
 | eX=>cases x<;>cases h
 | dead=>
  cases x with
  | dead=>rfl
  | _=>cases h
 | any=>simp only [kq,aj] at h;subst h;rfl
theorem Oo:∀{l:List (Nat×Nat)} {cap:List C},w9 l cap=true→cap=xa l
 | [],[],_=>rfl
 | [],_::_,h=>by cases h
 | _::_,[],h=>by cases h
 | x::l,c::t,h=>by
  unfold w9 at h;split at h
  ·rename_i heq _;cases heq
  ·rename_i i g c' t' h1 h2;simp only [qR] at h1 h2;obtain ⟨rfl,rfl⟩:=h1;obtain ⟨rfl,rfl⟩:=h2;simp only [bK,nJ] at h;obtain ⟨h1,h2,h3,h4,h5⟩:=h;rw [Oo h5];simp only [xa,Ip];rw [mU h1,h4,mU h2,mU h3]
  ·rename_i n t' h1 h2;simp only [qR] at h1 h2;obtain ⟨rfl,rfl⟩:=h1;obtain ⟨rfl,rfl⟩:=h2;simp only [bK] at h;obtain ⟨h1,h2,h3⟩:=h;rw [Oo h3];simp only [xa,Ip];rw [h1,mU h2]
  ·cases h
theorem Oq:∀(l:List (Nat×Nat)),w9 l (xa l)=true
 | []=>rfl
 | x::l=>by
  unfold xa Ip;cases h:Nat.beq x.1 ER with
  | true=>simp [w9,h,Oq l]
  | false=>simp [w9,h,Oq l]
theorem Xw (s:DS) (x:C) (v:s.T) (h:tX s x=some v):x=cC s v:=by
 unfold tX at h;split at h
 ·exact afX s _ v h
 ·split at h
  ·split at h
   ·rename_i h1 h2;rw [←mU h1,Oo h2];rfl
   ·cases h
  ·cases h
 ·split at h
  ·split at h
   ·rename_i h1 h2 h3;rw [←mU h1,mU h2,←mU h3];rfl
   ·cases h
  ·cases h
 ·split at h
  ·rfl
  ·cases h
 ·split at h
  ·rfl
  ·cases h
 ·split at h
  ·split at h
   ·rename_i he;subst he;rfl
   ·cases h
  ·cases h
 ·cases h
theorem afC (s:DS) (v:s.T):tX s (cC s v)=some v:=by
 cases s<;>simp [cC,tX,kq,Oq]
theorem XU (s:DS) (v:s.T):xg s v some=some (cC s v):=by
 cases s<;>try rfl
 case sl sz=>obtain ⟨t,rows⟩:=v;cases t<;>rfl
theorem Xx:∀(ds:List DS) (l:List C) (v:au ds),zh ds l=some v→l=bx ds v
 | [],[],_,_=>rfl
 | [],_::_,_,h=>by cases h
 | _::_,[],_,h=>by cases h
 | s::t,x::l,v,h=>by
  simp only [zh] at h;split at h
  ·rename_i a b h1 h2;simp only [aj] at h;subst h;simp only [bx];rw [←Xw s x a h1,←Xx t l b h2]
  ·cases h
theorem XV:∀(ds:List DS) (v:au ds),tY ds v some=some (bx ds v)
 | [],_=>rfl
 | s::t,v=>by
  simp only [tY];rw [BA,XU];simp only [Option.bind];rw [BD,XV t v.2];rfl
theorem Xy (s:VS) (x:V) (v:s.T) (h:oA s x=some v):sq s v some=some x:=by
 cases s with
 | one s=>
  cases x with
  | one c=>
   simp only [oA] at h;simp only [sq];rw [BA,XU,Xw s c v h];rfl
  | agg cs=>cases h
  | aq vs=>cases h
 | fj=>
  cases x with
  | one c=>cases c<;>simp only [oA] at h<;>cases h<;>rfl
  | agg cs=>cases h
  | aq vs=>cases h
 | agg ds=>
  cases x with
  | agg cs=>
   simp only [oA] at h;cases h1:na cs with
   | none=>simp [h1] at h
   | some l=>
    simp only [h1] at h;simp only [sq];rw [xh,OM ds l v h,Xu h1];rfl
  | one c=>cases h
  | aq vs=>cases h
theorem Xz:∀(ss:List VS) (l:List V) (v:yX ss),zi ss l=some v→tZ ss v some=some l
 | [],[],v,_=>rfl
 | [],x::l,v,h=>by cases h
 | s::t,[],v,h=>by cases h
 | s::t,x::l,v,h=>by
  simp only [zi] at h;cases h1:oA s x with
  | none=>simp [h1] at h
  | some a=>
   cases h2:zi t l with
   | none=>simp [h1,h2] at h
   | some b=>
    simp only [h1,h2,aj] at h;subst h;simp only [tZ];rw [BF,Xy s x a h1];simp only [Option.bind];rw [BH,Xz t l b h2];rfl
theorem OJ:∀(ss:List (List DS)) (l:List (List C)) (v:yU ss),sn ss l=some v→py ss v some=some l
 | [],[],v,_=>rfl
 | [],x::l,v,h=>by cases h
 | s::t,[],v,h=>by cases h
 | s::t,x::l,v,h=>by
  simp only [sn] at h;cases h1:zh s x with
  | none=>simp [h1] at h
  | some a=>
   cases h2:sn t l with
   | none=>simp [h1,h2] at h
   | some b=>
    simp only [h1,h2,aj] at h;subst h;simp only [py];rw [BD,XV];simp only [Option.bind];rw [ve,OJ t l b h2,←Xx s x a h1];rfl
theorem afZ (s:RS) (x:V×List (List C)) (v:s.T) (h:gW s x=some v):q7 s v some=some x:=by
 obtain ⟨x,out⟩:=x;cases s with
 | val s bs=>
  simp only [gW] at h;cases h1:oA s x with
  | none=>simp [h1] at h
  | some a=>
   cases h2:sn bs out with
   | none=>simp [h1,h2] at h
   | some b=>
    simp only [h1,h2,aj] at h;subst h;simp only [q7];rw [BF,Xy s x a h1];simp only [Option.bind];rw [ve,OJ bs out b h2];rfl
 | aq ss bs=>
  cases x with
  | aq xs=>
   simp only [gW] at h;cases h1:zi ss xs with
   | none=>simp [h1] at h
   | some a=>
    cases h2:sn bs out with
    | none=>simp [h1,h2] at h
    | some b=>
     simp only [h1,h2,aj] at h;subst h;simp only [q7];rw [BH,Xz ss xs a h1];simp only [Option.bind];rw [ve,OJ bs out b h2];rfl
  | one c=>cases h
  | agg cs=>cases h
theorem Mv (an:iQ) (dst:Nat) (l:List D):(Dy an dst l).le (pure l):=by
 unfold Dy;cases an.row dst with
 | none=>exact Q.le.refl _
 | some ds=>
  have Fm:∀(R:Type) (k:List D→Option R) x,(cw ds l fun v=>oC ds v k)=some x→k l=some x:=by
   intro R k x h;unfold cw at h;cases h1:eb ds l with
   | none=>simp [h1] at h
   | some v=>
    simp only [h1] at h;rw [xh,OM ds l v h1] at h;exact h
  intro S x h;have hr:(cw ds l fun v=>oC ds v fun b=>(Q.ret b:Q (List D)).run S)=some x:=h;have h1:=Fm _ _ _ hr;refine ⟨h1,?_⟩;show ((cw ds l fun v=>oC ds v fun b=>some ((Q.ret b:Q (List D)).reads S)).getD [])=[]
  cases hh:(cw ds l fun v=>oC ds v fun b=>some ((Q.ret b:Q (List D)).reads S)) with
  | none=>rfl
  | some y=>have:=Fm _ _ _ hh;simp only [Q.reads,aj] at this;rw [←this];rfl
theorem acN (s:RS) (o:Option (V×List (List C))):(Q.res s o).le (Q.dr o):=by
 have Fm:∀(R:Type) (k:V×List (List C)→Option R) x,(aG s o fun v=>q7 s v k)=some x→∃y,o=some y∧k y=some x:=by
  intro R k x h;unfold aG at h;cases o with
  | none=>simp at h
  | some y=>
   simp only at h;cases h1:gW s y with
   | none=>simp [h1] at h
   | some v=>
    simp only [h1] at h;rw [XW,afZ s y v h1] at h;exact ⟨y,rfl,h⟩
 intro S x h;have hr:(aG s o fun v=>q7 s v fun b=>(Q.ret b:Q (V×List (List C))).run S)=some x:=h;obtain ⟨y,ho,h1⟩:=Fm _ _ _ hr;subst ho;simp only [Q.run,aj] at h1;subst h1;refine ⟨by simp,?_⟩;show ((aG s (some y) fun v=>q7 s v fun b=>some ((Q.ret b:Q (V×List (List C))).reads S)).getD [])=[]
 cases hh:(aG s (some y) fun v=>q7 s v fun b=>some ((Q.ret b:Q (V×List (List C))).reads S)) with
 | none=>rfl
 | some z=>obtain ⟨_,_,h4⟩:=Fm _ _ _ hh;simp only [Q.reads,aj] at h4;rw [←h4];rfl
theorem ao4 (an:iQ) (f:Nat) (bs:List (List C)) (o:Option (V×List (List C))):(Tn an f bs o).le (Q.dr o):=by
 unfold Tn;split
 ·exact Q.le.no _
 ·split
  ·split
   ·exact acN _ _
   ·split
    ·exact acN _ _
    ·exact Q.le.refl _
  ·exact Q.le.refl _
theorem afD (an:iQ) (Cl:bX) (dst f:Nat) (vs:List V) (ws:List Wr):(On an Cl dst f vs ws).le (zd Cl dst f vs ws):=by
 unfold On zd;refine .eU fun _=>.eU fun x=>?_
 obtain ⟨rs,bs⟩:=x;refine .eU fun eR=>.eU fun dM=>(ao4 _ f _ _).bind fun x=>?_
 exact .refl _
@[simp] theorem Q.acK {α:Type} (S:St) (a:α):(pure a:Q α).reads S=[]:=rfl
@[simp] theorem Q.Tl (S:St) (b:Bool):(Q.guard b).reads S=[]:=by cases b<;>rfl
@[simp] theorem Q.ao1 (S:St) (b:Bool):(Q.ask b).reads S=[]:=by cases b<;>rfl
@[simp] theorem Q.ao2 {α:Type} (S:St) (o:Option α):(Q.dr o).reads S=[]:=by cases o<;>rfl
theorem Q.G6 {α:Type} (S:St) (b:Bool) (x:α):(Q.guard b >>= fun _=>(pure x:Q α)).reads S=[]:=by
 cases b<;>rfl
theorem afk (tc:TC) (op:BinOp) (x y:V):(NW tc op x y).le (Q.dr (si tc op x y)):=by
 unfold NW;split
 ·rename_i k a k' b;split
  ·refine .GO (fun S x h=>?_) (fun S=>Q.G6 ..) (fun S=>by simp);simp only [Q.run_bind,Q.lH,Q.run_pure] at h;by_cases hg:(decide (k=k') && !decide (b=0))=true
   ·simp only [bK,fB,nJ,Vo] at hg;obtain ⟨rfl,hb⟩:=hg;simpa [hb,si,Cz] using h
   ·simp [hg] at h
  ·refine .GO (fun S x h=>?_) (fun S=>Q.G6 ..) (fun S=>by simp);simp only [Q.run_bind,Q.lH,Q.run_pure] at h;by_cases hg:(decide (k=k') && !decide (b=0))=true
   ·simp only [bK,fB,nJ,Vo] at hg;obtain ⟨rfl,hb⟩:=hg;simpa [hb,si,Cz] using h
   ·simp [hg] at h
  ·refine .GO (fun S x h=>?_) (fun S=>Q.G6 ..) (fun S=>by simp);simp only [Q.run_bind,Q.lH,Q.run_pure] at h;by_cases hb:b < 0
   ·simp [hb] at h
   ·simpa [hb,si,DH] using h
  ·refine .GO (fun S x h=>?_) (fun S=>Q.G6 ..) (fun S=>by simp);simp only [Q.run_bind,Q.lH,Q.run_pure] at h;by_cases hb:b < 0
   ·simp [hb] at h
   ·simpa [hb,si,DH] using h
  ·exact .refl _
 ·rename_i a b;split
  ·refine .GO (fun S x h=>?_) (fun S=>Q.G6 ..) (fun S=>by simp);simp only [Q.run_bind,Q.lH,Q.run_pure] at h;by_cases hb:a.length+b.length≤9223372036854775807
   ·simpa [hb,si,Hl] using h
   ·simp [hb] at h
  ·exact .refl _
 ·exact .refl _
theorem Xq:∀(p q:List (Nat×Nat)),Bv p q=true→FN p q=true→p=q
 | [],[],_,_=>rfl
 | [],_::_,h,_=>by simp [Bv] at h
 | _::_,[],h,_=>by simp [Bv] at h
 | (i,c)::p,(i',c')::q,h,h'=>by
  simp only [Bv,bK] at h;simp only [FN,bK] at h';rw [mU h.1,mU h'.2,Xq p q h.2 h'.1]
theorem apT (ws:List Wr) (P:Place) (c:C):(T3 ws P c).le (pa ws P c):=by
 unfold T3;split
 ·rename_i pl g a sz rows;split
  ·rename_i hb;simp only [bK,eW] at hb;intro S x hx;rw [Q.run_bind,Q.lH] at hx;by_cases hi:FN pl.p P.p=true
   ·rw [aJ hi] at hx;have hp:pl=P:=by
     obtain ⟨k,j,p⟩:=pl;obtain ⟨k',j',p'⟩:=P;obtain ⟨h1,h2,h3⟩:=hb;simp only at h1 h2 h3 hi;rw [h1,mU h2,Xq p p' h3 hi]
    refine ⟨by simp only [pa,hp,bW];rw [hp] at hx;exact hx,?_⟩;rw [Q.wy,Q.Tl,Q.lH,aJ hi];simp only [pa,hp,bW,uV]
   ·rw [aB hi] at hx;cases hx
  ·exact .refl _
 ·exact .refl _
theorem Yr (P:Place) (i:Nat):∀(l:List C) (ws:List Wr) (c:Nat),(IZ P i ws c l).le (vo P i ws c l)
 | [],_,_=>.refl _
 | y::t,ws,c=>by
  unfold IZ vo;refine (apT ws (P.sub i c) y).bind fun r=>?_
  obtain ⟨y',e8⟩:=r;dsimp only;split
  ·exact (Yr P i t e8 (c+1)).bind fun _=>.refl _
  ·exact .no _
theorem H0 (sz bytes:Nat) (v:V) (ws:List Wr) (src:List (List D)):(Bc sz bytes v ws src).le (wX sz bytes v ws src):=by
 unfold Bc;split
 ·rename_i b cu rows;refine Q.le.eU fun _=>?_
  intro S x h;simp only [Q.run_bind,Q.MC,Option.bind] at h;exact ⟨h,by cases src<;>rfl⟩
 ·exact .refl _
def Q.C6 {α:Type} (S:St) (p q:Q α):Prop:=∀x,p.run S=some x→q.run S=some x∧p.reads S=q.reads S
theorem Q.C6.eU {α β:Type} {S:St} {p:Q α} {f g:α→Q β} (hf:∀a,p.run S=some a→Q.C6 S (f a) (g a)):Q.C6 S (p >>= f) (p >>= g):=by
 intro x hx;rw [Q.run_bind] at hx;cases hp:p.run S with
 | none=>simp [hp] at hx
 | some a=>
  simp only [hp,Option.bind] at hx;obtain ⟨h3,h4⟩:=hf a hp x hx;refine ⟨by rw [Q.run_bind,hp];exact h3,?_⟩;rw [Q.wy,Q.wy,hp];simp only [h4]
theorem XR {pl:Place} {i:Nat}:∀(zs oX:List D) (c:Nat) (v:V) (x:D) (ws:List Wr) (sz:Nat) (rows:List (List D)) (row:List D),ew x pl.p=some (.sl .own sz rows)→rows[i]? = some row→
  (∀(j:Nat) o,oX[j]? = some o→row[c+j]? = some o)→oX.length=zs.length→Hp zs oX=true→xe v pl i c zs x ws=some (ED pl i v c zs oX x ws)
 | [],oX,c,v,x,ws,sz,rows,row,_,_,_,_,_=>by simp [xe,ED]
 | z::t,[],c,v,x,ws,sz,rows,row,_,_,_,h,_=>by cases h
 | z::t,o::os,c,v,x,ws,sz,rows,row,hn,hr,ho,hl,h8=>by
  simp only [Hp,bK] at h8;have hc:row[c]? = some o:=by simpa using ho 0 o rfl
  have fG:cellOf rows i c=some o:=kK.2 ⟨row,hr,hc⟩;have Jx:ew x (pl.p++[(i,c)])=some o:=by
   rw [Sc,hn];simp only [Option.bind_some];rw [Da,fG];simp only [Option.bind_some];cases o<;>rfl
  simp only [xe,Jx,ED,h8.1,bW];rw [Bool.and_comm o.flat z.flat];have hi:i < rows.length:=(cA.1 hr).1;have hg:rows.getD i []=row:=by
   rw [kD,hr];rfl
  refine XR t os (c+1) _ _ _ sz (rows.set i (row.set c z)) (row.set c z) ?_ ?_ ?_ (by simpa using hl) h8.2
  ·rw [Sd pl.p hn fG,hg]
  ·simp [hi]
  ·intro j o' hj;have:=ho (j+1) o' hj;rw [qS (by omega)];rw [show c+1+j=c+(j+1) by omega];exact this
theorem apU (ws:List Wr) (P:Place) (c:C):(T6 ws P c).le (tp ws P c):=by
 unfold T6;split
 ·rename_i pl g sz off len;split
  ·rename_i hb;simp only [bK] at hb;obtain ⟨B8,oK⟩:=hb;show (jw ws pl g sz >>= fun y=>Q.guard (off==0&&len==y.2.2.length && !y.2.2.isEmpty) >>= fun _=>(pure (.d (.sl .own sz y.2.2),nA ws pl.k (sR y.1.v pl y.2.1)):Q (C×List Wr))).le
    (jw ws pl g sz >>= fun y=>Q.ask (!(pl.k==P.k)&&pl.k.GC&&(off==0&&len==y.2.2.length && !y.2.2.isEmpty)) >>= fun t=>if t then (pure (.d (.sl .own sz y.2.2),nA ws pl.k (sR y.1.v pl y.2.1)):Q (C×List Wr)) else st ws (.view pl g sz off len))
   refine .eU fun y=>?_
   obtain ⟨e,x,rows⟩:=y;intro S r h;simp only [Q.run_bind,Q.lH] at h;by_cases hg:(off==0&&len==rows.length && !rows.isEmpty)=true
   ·simp only [hg,bW,Option.bind,Q.run_pure,aj] at h;subst h;have ht:(!(pl.k==P.k)&&pl.k.GC&&(off==0&&len==rows.length && !rows.isEmpty))=true:=by
     simp only [bK] at hg ⊢;exact ⟨⟨B8,oK⟩,hg⟩
    constructor
    ·simp only [Q.run_bind,Q.MC,ht,Option.bind,bW,Q.run_pure]
    ·simp only [Q.wy,Q.Tl,Q.ao1,Q.lH,Q.MC,hg,B8,oK,Bool.and_self,bW,Q.acK]
   ·simp [hg] at h
  ·exact .refl _
 ·exact .refl _
theorem acx (mv:Bool) (r:aI):∀(l:List C) (ws:List Wr) (c:Nat),(Md mv r ws c l).le (putCells mv r ws c l)
 | [],ws,c=>.refl _
 | y::t,ws,c=>by
  unfold Md putCells;refine Q.le.bind ?_ fun x=>?_
  ·unfold acw Mc;split
   ·exact apU _ _ _
   ·exact .refl _
  ·obtain ⟨y',e8⟩:=x;refine (acx mv r t e8 (c+1)).bind fun x=>?_
   exact .refl _
theorem ah4 (an:iQ) (Cl:bX) (dst:Nat) (op:pj):(su an Cl dst op).le (bp Cl dst op):=by
 cases op with
 | pick c a b=>
  unfold su bp;refine .eU fun v=>?_
  split
  ·rename_i t;cases t with
   | true=>
    intro S x h;exact ⟨h,rfl⟩
   | false=>
    intro S x h;exact ⟨h,rfl⟩
  ·exact .no _
 | load n agg x=>
  unfold su bp;refine .eU fun v=>?_
  split
  ·exact .refl _
  ·rename_i cells;refine .eU fun _=>?_
   have:(do let r' ←lY agg ((cells.take n).map .d);pure (r',[]):Q (V×List Wr))=(do let l ←(pure (cells.take n):Q (List D));let r' ←lY agg (l.map .d);pure (r',[])):=rfl;rw [this];exact (Mv an dst _).bind fun _=>.refl _
  ·rename_i pl g sz i c;refine .eU fun y=>?_
   obtain ⟨e,x0,rows⟩:=y;refine .eU fun row=>.eU fun _=>?_
   have:(do let r' ←lY agg (rB pl g i c ((row.drop c).take n));pure (r',[]):Q (V×List Wr))=(do let l ←(pure ((row.drop c).take n):Q (List D));let r' ←lY agg (rB pl g i c l);pure (r',[])):=rfl;rw [this];exact (Mv an dst _).bind fun _=>.refl _
  ·exact .refl _
  ·exact .no _
 | store mv n x v=>
  unfold su bp;refine .eU fun p=>.eU fun vv=>.eU fun _=>?_
  split
  ·refine (acx mv _ _ _ _).bind fun x=>?_
   exact .refl _
  ·rename_i pl g sz i c;refine Q.le.trans ((Yr pl i vv.1.cells vv.2 c).bind fun _=>.refl _) ?_;intro S;refine Q.C6.eU fun zz hz=>Q.C6.eU fun er he=>Q.C6.eU fun row c6=>?_
   obtain ⟨zs,fe⟩:=zz;obtain ⟨e,x0,rows⟩:=er;obtain ⟨_,_,_,hn⟩:=uF he;simp only [Q.yA] at c6;intro y hy;rw [Q.run_bind,Q.lH] at hy;by_cases hg:(decide (c+n≤row.length)&&zs.length==n)=true
   ·rw [aJ hg] at hy;simp only [bK,fB,eW] at hg;simp only [Option.bind,Q.run_bind] at hy;cases ho:(Dy an (ME x) ((row.drop c).take n)).run S with
    | none=>simp [ho] at hy
    | some dJ=>
     have hold:=(Mv an (ME x) _ S dJ ho).1;simp only [Q.run_pure,aj] at hold;simp only [ho,Q.lH] at hy;by_cases jV:(dJ.length==n&&Hp zs dJ)=true
     ·simp only [jV,bW,Q.run_pure,aj] at hy;have Fe:=jV;simp only [bK,eW] at Fe;have hlen:dJ.length=zs.length:=by omega
      have uf := XR (pl := pl) (i := i) zs dJ c e.v x0 fe sz rows row hn c6 (by
        intro j o hj
        rw [← hold] at hj
        rw [Nd] at hj
        split at hj
        · rwa [tH] at hj
        · cases hj) hlen Fe.2
      constructor
      ·simp only [Q.run_bind,Q.lH,hg.1,decide_true,bW,Option.bind,Q.yA,uf,Q.run_pure,hy]
      ·simp only [Q.wy,Q.Tl,Q.lH,hg.1,hg.2,decide_true,D2,Bool.and_self,bW,(Mv an (ME x) _ S dJ ho).2,ho,jV,Q.acK,Q.ao2,Q.yA,uf,mR]
     ·simp [jV] at hy
   ·rw [aB hg] at hy;cases hy
  ·exact .no _
 | bin tc op x y=>
  unfold su bp;exact .eU fun a=>.eU fun b=>(afk tc op a b).bind fun _=>.refl _
 | app sz bytes x y=>
  unfold su bp;refine .eU fun a=>?_
  obtain ⟨a,ws⟩:=a;refine .eU fun a=>?_
  obtain ⟨a,ws⟩:=a;refine .eU fun b=>?_
  exact H0 _ _ b.1 b.2 a
 | Be sz bytes x y=>
  unfold su bp;refine .eU fun a=>?_
  split
  ·refine .eU fun a=>.eU fun _=>.eU fun b=>?_
   exact H0 _ _ b.1 b.2 _
  ·rename_i sM;try split
   all_goals first
    | exact absurd rfl (sM _ _ _ _ _)
    | (unfold X2
       refine .eU fun a => ?_
       obtain ⟨a, ws⟩ := a
       refine .eU fun a => ?_
       obtain ⟨a, ws⟩ := a
       refine .eU fun b => ?_
       exact H0 _ _ b.1 b.2 a)
 | Bb x y=>
  unfold su bp;refine .eU fun a=>?_
  split
  ·refine .eU fun a=>?_
   exact H0 _ _ a.1 a.2 _
  ·exact .no _
 | call f args=>
  unfold su bp;refine .eU fun v=>?_
  split
  ·refine .eU fun _=>.eU fun a=>?_
   exact afD _ _ _ _ _ a.2
  ·exact .no _
 | _=>exact .refl _
theorem St.kZ:∀(S:St) (k:Key) (e:mV),S.get k=e→e≠⟨.one .dead,0⟩→S.put k e=S
 | [],k,e,h,hn=>absurd h.symm hn
 | (k',e')::t,k,e,h,hn=>by
  simp only [St.get] at h;simp only [St.put];by_cases hk:k'=k
  ·simp only [hk,bW] at h ⊢;rw [h]
  ·simp only [hk,dF] at h ⊢;rw [St.kZ t k e h hn]
theorem aq7 {R:Type} {S:St} {g:Option (Nat×Bool)} {K:Bool→St→List Key→Option R} {r:R} (h:UD S g K=some r) :
  ∃want,(BY g).run S=some want∧K want S ((BY g).reads S).reverse=some r:=by
 unfold UD at h;cases g with
 | none=>exact ⟨true,rfl,h⟩
 | some x=>
  obtain ⟨t,b⟩:=x;simp only at h;cases he:S.get (.s t) with
  | mk v c=>
   rw [he] at h;have iU:(BY (some (t,b))).run S=(match v with | .one (.d (.bool x))=>(pure (x==b):Q Bool) | .aq []=>pure false | _=>Q.no).run S:=by
    show (Q.run S (match (S.get (.s t)).v with | .one (.d (.bool x))=>(pure (x==b):Q Bool) | .aq []=>pure false | _=>Q.no))=_;rw [he]
   have ZG:∀y,(match v with | .one (.d (.bool x))=>(pure (x==b):Q Bool) | .aq []=>pure false | _=>Q.no)=pure y→(BY (some (t,b))).reads S=[.s t]:=by
    intro y hy;show (.s t::Q.reads S (match (S.get (.s t)).v with | .one (.d (.bool x))=>(pure (x==b):Q Bool) | .aq []=>pure false | _=>Q.no))=_;rw [he];simp only [hy];rfl
   split at h
   ·rename_i x c' heq;cases heq;have h2:K (x==b) (S.put (.s t) ⟨.one (.d (.bool x)),c⟩) [.s t]=some r:=by
     cases x<;>exact h
    rw [St.kZ S _ _ he (by simp)] at h2;refine ⟨x==b,by rw [iU];rfl,?_⟩;rw [ZG _ rfl];exact h2
   ·rename_i c' heq;cases heq;refine ⟨false,by rw [iU];rfl,?_⟩;rw [ZG _ rfl];exact h
   ·cases h
theorem Pa {R:Type} {r:aI} {x:R}:∀{n c:Nat} {S:St} {K:St→Option R},BJ r n c S K=some x→K S=some x
 | 0,c,S,K,h=>h
 | n+1,c,S,K,h=>by
  simp only [BJ] at h;split at h
  ·rename_i t sz rows g he;have h1:BJ r n (c+1) (S.put (.b r c) ⟨.one (.d (.sl t sz rows)),g⟩) K=some x:=by
    cases t<;>exact h
   have h2:=Pa h1;rw [St.kZ S _ _ he (by simp)] at h2;exact h2
  ·exact Pa h
theorem Pd {R:Type} {n:Nat} {v:V} {S:St} {K:St→Option R} {x:R} (h:EL n v S K=some x):K S=some x:=by
 unfold EL at h;split at h
 ·exact Pa h
 ·exact h
theorem aiM {R:Type} {op:pj} {S:St} {K:St→Option R} {x:R} (h:Pb op S K=some x):K S=some x:=by
 unfold Pb at h;split at h
 ·exact Pd h
 ·exact Pd h
 ·exact h
theorem Pc {R:Type} {x:R}:∀{l:List RV} {S:St} {K:St→Option R},EK l S K=some x→K S=some x
 | [],S,K,h=>h
 | .cell t n a::l,S,K,h=>Pc (Pd (K:=fun S=>EK l S K) h)
 | .slot t::l,S,K,h=>Pc (l:=l) h
theorem X5 {R:Type} {an:iQ} {Cl:bX} {o:gy} {S:St} {K:St→List Key→List Wr→Option R} {r:R} (h:IN an Cl o S K=some r) :
  ∃ws,(gq Cl o).run S=some ws∧K S ((gq Cl o).reads S).reverse ws=some r:=by
 unfold IN at h;obtain ⟨want,h1,h2⟩:=aq7 h;clear h;unfold gq;rw [Q.run_bind,Q.wy,h1];simp only [Option.bind];cases want with
 | true=>
  simp only at h2;have h2:=aiM h2;rw [TE] at h2;cases QI:(su an Cl (o.dst.getD 0) o.op).run S with
  | none=>simp [QI] at h2
  | some x=>
   simp only [QI] at h2;obtain ⟨h3,h4⟩:=ah4 an Cl (o.dst.getD 0) o.op S x QI;rw [h4] at h2;simp only [bW];rw [Q.run_bind,Q.wy,h3];obtain ⟨v,ws⟩:=x;cases hd:o.dst with
   | none=>
    simp only [hd,Option.bind,Option.getD] at h2 ⊢;exact ⟨ws,rfl,by simpa using h2⟩
   | some d=>
    simp only [hd,Option.bind,Option.getD] at h2 ⊢;exact ⟨_,rfl,by simpa using h2⟩
 | false=>
  simp only at h2;cases hd:o.dst with
  | none=>
   simp only [hd] at h2;exact ⟨[],rfl,by simpa using h2⟩
  | some d=>
   simp only [hd] at h2;exact ⟨_,rfl,by simpa using h2⟩
section
variable {R:Type} {r:R}
theorem Ym:∀{f i g:Nat} {K:Nat→Option R},IU f i g K=some r→K g=some r
 | 0,_,_,_,h=>by cases h
 | f+1,i,g,K,h=>by
  simp only [IU] at h;split at h
  ·rename_i hb;rw [mU hb];exact h
  ·exact Ym h
theorem sv {g:Nat} {K:Nat→Option R} (h:fN g K=some r):K g=some r:=Ym h
theorem Pg {x:aI} {K:aI→Option R} (h:IV x K=some r):K x=some r:=by cases x<;>exact h
theorem Pf:∀{x:Key} {K:Key→Option R},IT x K=some r→K x=some r
 | .s _,_,h=>h
 | .b _ _,_,h=>sv (Pg h)
 | .r _,_,h=>Pg h
 | .h _,_,h=>h
 | .a k,K,h=>Pf (x:=k) (K:=fun k=>K (.a k)) h
theorem Yk {x:D} {K:D→Option R} (h:fD x K=some r):K x=some r:=by
 cases x<;>exact h
theorem Pe {x:C} {K:C→Option R} (h:fC x K=some r):K x=some r:=by
 cases x with
 | d x=>exact Yk (K:=fun x=>K (.d x)) h
 | ptr a g c=>exact sv (K:=fun c=>K (.ptr a g c)) (sv (K:=fun g=>fN c fun c=>K (.ptr a g c)) (Pg (K:=fun a=>fN g fun g=>fN c fun c=>K (.ptr a g c)) h))
 | eD pl g sz i c=>exact sv (K:=fun c=>K (.eD pl g sz i c)) (sv (K:=fun g=>fN c fun c=>K (.eD pl g sz i c)) h)
 | view pl g sz off len=>exact sv (K:=fun g=>K (.view pl g sz off len)) h
 | c8 pl g a sz rows=>exact sv (K:=fun a=>K (.c8 pl g a sz rows)) (sv (K:=fun g=>fN a fun a=>K (.c8 pl g a sz rows)) h)
 | mp x=>exact Yk (K:=fun x=>K (.mp x)) h
 | gj i g=>exact sv (K:=fun g=>K (.gj i g)) h
 | _=>exact h
theorem IS:∀{l:List C} {K:List C→Option R},BL l K=some r→K l=some r
 | [],_,h=>h
 | c::t,K,h=>IS (K:=fun t=>K (c::t)) (Pe (K:=fun c=>BL t fun t=>K (c::t)) h)
theorem IX:∀{l:List V} {K:List V→Option R},zo l K=some r→K l=some r
 | [],_,h=>h
 | .one c::t,K,h=>IX (K:=fun t=>K (.one c::t)) (Pe (K:=fun c=>zo t fun t=>K (.one c::t)) h)
 | .agg cs::t,K,h=>IX (K:=fun t=>K (.agg cs::t)) (IS (K:=fun cs=>zo t fun t=>K (.agg cs::t)) h)
 | .aq vs::t,K,h=>IX (K:=fun t=>K (.aq vs::t)) h
theorem Pj {x:V} {K:V→Option R} (h:fV x K=some r):K x=some r:=by
 cases x with
 | one c=>exact Pe (K:=fun c=>K (.one c)) h
 | agg cs=>exact IS (K:=fun cs=>K (.agg cs)) h
 | aq vs=>exact IX (K:=fun vs=>K (.aq vs)) h
theorem aiN {x:Bool} {K:Bool→Option R} (h:Yl x K=some r):K x=some r:=by cases x<;>exact h
theorem Pk:∀{l:List Wr} {K:List Wr→Option R},IY l K=some r→K l=some r
 | [],_,h=>h
 | ⟨k,v,b⟩::t,K,h=>by
  have h:=aiN (Pj (Pf h));exact Pk (K:=fun t=>K (⟨k,v,b⟩::t)) h
theorem Yj:∀{l:List (List C)} {K:List (List C)→Option R},IQ l K=some r→K l=some r
 | [],_,h=>h
 | c::t,K,h=>Yj (K:=fun t=>K (c::t)) (IS (K:=fun c=>IQ t fun t=>K (c::t)) h)
theorem EM:∀{l:St} {K:St→Option R},BM l K=some r→K l=some r
 | [],_,h=>h
 | (k,⟨v,g⟩)::t,K,h=>by
  have h:=sv (Pj (Pf h));exact EM (K:=fun t=>K ((k,⟨v,g⟩)::t)) h
theorem Ph:∀{l:St} {K:St→Option R},IW l K=some r→K l=some r
 | [],_,h=>h
 | (k,⟨v,g⟩)::t,K,h=>by
  have h:=sv h;exact Ph (K:=fun t=>K ((k,⟨v,g⟩)::t)) h
end
theorem O9 {R:Type} {an:iQ} {Cl:bX}:∀{ops:List gy} {S:St} {K:St→Option R} {r:R},EG an Cl ops S K=some r→
  ∃S',mj Cl ops S=some S'∧K S'=some r
 | [],S,K,r,h=>⟨S,rfl,h⟩
 | o::t,S,K,r,h=>by
  simp only [EG] at h;obtain ⟨ws,h1,h2⟩:=X5 h;obtain ⟨S',h3,h4⟩:=O9 (Ph (Pk h2));exact ⟨S',by simp only [mj,h1,Option.bind];exact h3,h4⟩
theorem X7 {R:Type} {an:iQ} {Cl:bX}:∀{ops:List gy} {S:St} {fs:List lP} {K:St→List lP→Option R} {r:R},EH an Cl ops S fs K=some r→
  ∃S' I6,iq Cl ops S=some (S',I6)∧K S' (fs.reverse++I6)=some r
 | [],S,fs,K,r,h=>⟨S,[],rfl,by simpa [EH] using h⟩
 | o::t,S,fs,K,r,h=>by
  simp only [EH] at h;obtain ⟨ws,h1,h2⟩:=X5 h;obtain ⟨S',I6,h3,h4⟩:=X7 (Ph (Pk h2));refine ⟨S',_,by simp only [iq,h1,Option.bind,h3,Option.map];rfl,?_⟩;simpa using h4
theorem af2 {R:Type} {an:iQ} {Cl:bX} {ops:List gy} {draw:Option (List (Nat×Nat))} {S:St} {K:St→Option R} {r:R} (h:OT an Cl ops draw S K=some r) :
  ∃S',pA Cl none false ops draw S=some S'∧K S'=some r:=by
 unfold OT at h;unfold pA;simp only [Option.bind];split at h
 ·obtain ⟨S',h1,h2⟩:=O9 h;exact ⟨S',by simpa using h1,h2⟩
 ·obtain ⟨S',h1,h2⟩:=O9 h;exact ⟨S',by simpa using h1,h2⟩
 ·rename_i ps aA;obtain ⟨S',I6,h1,h2⟩:=X7 h;simp only [List.reverse_nil,uV] at h2;split at h2
  ·rename_i hp;refine ⟨S',?_,h2⟩;cases ps with
   | nil=>exact absurd rfl aA
   | cons p ps=>simp [h1,hp]
  ·cases h2
theorem Yb {Cl:bX} {keep:Option (List Nat)} {gc:Bool} {ops:List gy} {draw:Option (List (Nat×Nat))} {S:St} :
  pA Cl keep gc ops draw S=(S.mM keep gc).bind (pA Cl none false ops draw):=by
 unfold pA St.mM;simp only [Option.bind_assoc];cases keep with
 | none=>cases gc<;>rfl
 | some l=>
  cases h:S.norm l with
  | none=>simp only [h,Option.bind]
  | some S1=>simp only [h,Option.bind];cases gc<;>rfl
theorem Ee {Cl:bX} {n:Nat} {keep:Option (List Nat)} {gc:Bool}:∀{c:jF},c.Ca=true→∀(S:St),
  dq Cl n (kH keep gc (eL c)) S=(S.mM keep gc).bind (dq Cl n (eL c))
 | .iZ k g ops draw,h,S=>by
  cases k with
  | none=>
   cases g with
   | false=>
    simp only [eL,kH];show (pA Cl keep gc ops draw S).map _=_;rw [Yb];cases S.mM keep gc<;>rfl
   | true=>cases h
  | some=>cases h
 | .seq a b,h,S=>by
  simp only [eL,kH,dq];rw [Ee (c:=a) h S];cases S.mM keep gc<;>rfl
 | .block id b,h,S=>by
  simp only [eL,kH,dq];rw [Ee (c:=b) h S];cases S.mM keep gc<;>rfl
 | .join id k g a b,h,S=>by
  simp only [eL,kH,dq];rw [Ee (c:=a) h S];cases S.mM keep gc<;>rfl
 | .skip,h,_=>by cases h
 | .cond ..,h,_=>by cases h
 | .loop ..,h,_=>by cases h
 | .exit _,h,_=>by cases h
 | .ret,h,_=>by cases h
theorem afS {R:Type} {S:St} {c:X} {K:Bool→St→Option R} {r:R} (h:OE S c K=some r):∃b,zg S c=some b∧K b S=some r:=by
 unfold OE at h;split at h
 ·rename_i i;split at h
  ·rename_i b g he;have h1:K b (S.put (.s i) ⟨.one (.d (.bool b)),g⟩)=some r:=by cases b<;>exact h
   rw [St.kZ S _ _ he (by simp)] at h1;refine ⟨b,?_,h1⟩;unfold zg;simp only [rd,Q.run_bind,Q.uL,Option.bind,he,Q.run_pure];rfl
  ·cases h
 ·rw [TE] at h;unfold zg;cases hr:(rd c).run S with
  | none=>simp [hr] at h
  | some v=>
   simp only [hr] at h;split at h
   ·rename_i b;refine ⟨b,rfl,?_⟩;cases b<;>exact h
   ·cases h
theorem Z8 {R:Type} {id:Nat} {f:St→kG R→Option R} {g:St→Option (tQ×St)} {keep:Option (List Nat)} {gc:Bool} {K:kG R} {r:R}
  (hf:∀S K',f S K'=some r→∃e S',g S=some (e,S')∧K' e S'=some r) :
  ∀(m:Nat) (S S1:St),S.mM keep gc=some S1→CA id f keep gc m S1 K=some r→∃e S',iter (fun S=>(S.mM keep gc).bind g) m S=some (e,S')∧K e S'=some r
 | 0,_,_,_,h=>by cases h
 | m+1,S,S1,hp,h=>by
  simp only [CA] at h;obtain ⟨e,S',h1,h2⟩:=hf _ _ h;simp only [iter,hp,Option.bind,h1];cases e with
  | norm=>
   simp only [Si] at h2;cases vI:S'.mM keep gc with
   | none=>simp [vI] at h2
   | some S2=>
    simp only [vI] at h2;exact Z8 hf m S' S2 vI (EM h2)
  | exit i=>exact ⟨_,_,rfl,h2⟩
  | ret=>exact ⟨_,_,rfl,h2⟩
theorem aec:∀(ds:List DS) (v:au ds),Ul ds (bx ds v)=some v
 | [],_=>rfl
 | s::t,v=>by
  have h:=aec t v.2;unfold Ul at h ⊢;simp only [bx,zh,afC,h]
theorem aks {R:Type} {id:Nat} {f:St→kG R→Option R} {m:Nat} {S:St} {K:kG R} {r:R} (h:Rm id f m S K=some r):f S K=some r:=by
 cases m with
 | zero=>cases h
 | succ m=>exact h
theorem vj {R:Type} {an:iQ} {Cl:bX} {n:Nat}:∀{c:jF} {S:St} {K:kG R} {r:R},kL an Cl n c S K=some r→
  ∃e S',dq Cl n (eL c) S=some (e,S')∧K e S'=some r
 | .skip,S,K,r,h=>⟨_,_,rfl,h⟩
 | .exit id,S,K,r,h=>⟨_,_,rfl,h⟩
 | .ret,S,K,r,h=>⟨_,_,rfl,h⟩
 | .iZ keep gc ops draw,S,K,r,h=>by
  simp only [kL] at h;cases hp:S.mM keep gc with
  | none=>simp [hp] at h
  | some S1=>
   simp only [hp] at h;obtain ⟨S',h1,h2⟩:=af2 (EM h);refine ⟨_,S',?_,h2⟩;simp only [eL,dq,Yb (keep:=keep) (gc:=gc),hp,Option.bind,h1];rfl
 | .seq a b,S,K,r,h=>by
  simp only [kL] at h;obtain ⟨e,S1,h1,h2⟩:=vj h;cases e with
  | norm=>
   simp only [DC] at h2;obtain ⟨e2,S2,h3,h4⟩:=vj h2;exact ⟨e2,S2,by simp only [eL,dq,h1,Option.bind];exact h3,h4⟩
  | exit i=>exact ⟨_,S1,by simp only [eL,dq,h1,Option.bind],h2⟩
  | ret=>exact ⟨_,S1,by simp only [eL,dq,h1,Option.bind],h2⟩
 | .cond c a b,S,K,r,h=>by
  simp only [kL] at h;obtain ⟨t,h1,h2⟩:=afS h;cases t with
  | true=>
   obtain ⟨e,S1,h3,h4⟩:=vj h2;exact ⟨e,S1,by simp only [eL,dq,h1,Option.bind,bW];exact h3,h4⟩
  | false=>
   obtain ⟨e,S1,h3,h4⟩:=vj h2;exact ⟨e,S1,by simp only [eL,dq,h1,Option.bind];exact h3,h4⟩
 | .block id b,S,K,r,h=>by
  simp only [kL] at h;obtain ⟨e,S1,h1,h2⟩:=vj h;cases e with
  | norm=>exact ⟨_,S1,by simp only [eL,dq,h1,Option.map],h2⟩
  | exit i=>
   simp only [NZ] at h2;split at h2
   ·rename_i hb;have hi:i=id:=mU hb;exact ⟨.norm,S1,by simp only [eL,dq,h1,Option.map,hi,bW],h2⟩
   ·rename_i hb;have hi:i≠id:=by intro hi;subst hi;simp at hb
    exact ⟨.exit i,S1,by simp only [eL,dq,h1,Option.map,hi,dF],h2⟩
  | ret=>exact ⟨_,S1,by simp only [eL,dq,h1,Option.map],h2⟩
 | .loop id keep gc b,S,K,r,h=>by
  simp only [kL] at h;split at h
  ·rename_i hh;cases hp:S.mM keep gc with
   | none=>simp [hp] at h
   | some S1=>
    simp only [hp] at h;obtain ⟨e,S',h1,h2⟩:=Z8 (g:=dq Cl n (eL b)) (fun S K' h=>vj h) n S S1 hp (EM h);refine ⟨e,S',?_,h2⟩;simp only [eL,dq];have:(dq Cl n (kH keep gc (eL b)))=(fun S=>(S.mM keep gc).bind (dq Cl n (eL b))):=by
     funext S;exact Ee hh S
    rw [this];exact h1
  ·cases h
 | .join id keep gc a b,S,K,r,h=>by
  simp only [kL] at h;split at h
  ·rename_i hh;obtain ⟨e,S1,h1,h2⟩:=vj h;cases e with
   | norm=>
    simp only [DC,Rk] at h2;cases hp:S1.mM keep gc with
    | none=>simp [hp] at h2
    | some S2=>
     simp only [hp] at h2;obtain ⟨e2,S3,h3,h4⟩:=vj (aks (EM h2));refine ⟨e2,S3,?_,h4⟩;simp only [eL,dq,h1,Option.bind];rw [Ee hh S1,hp];exact h3
   | exit i=>exact ⟨_,S1,by simp only [eL,dq,h1,Option.bind],h2⟩
   | ret=>exact ⟨_,S1,by simp only [eL,dq,h1,Option.bind],h2⟩
  ·cases h
theorem X3 {an:iQ} {Cl:bX} {n:Nat} {fn:u4} {args:List V} {bx:List (List C)} {r:V×List (List C)} (h:EF an Cl n fn args bx=some r) :
  vh Cl n fn.fn args bx=some r:=by
 unfold EF at h;split at h
 ·rename_i hl;obtain ⟨e,S',h1,h2⟩:=vj h;unfold vh;have mo:args.length≤fn.fn.Db:=ae3 hl;rw [aJ mo];have hb:fn.fn.body=eL fn.body:=rfl;rw [hb,h1];simp only [Option.bind];unfold Tr at h2;split at h2
  ·cases h2
  ·rename_i aA;have h2:=Pc h2;rw [TE] at h2;have Cb:vk ⟨0,fn.results,.skip,fn.forget⟩ bx=vk fn.fn bx:=rfl;rw [Cb] at h2;have key:(vk fn.fn bx).run S'=some r:=by
    cases hr:(vk fn.fn bx).run S' with
    | none=>simp [hr] at h2
    | some x=>
     simp only [hr] at h2;have h3:=Yj (Pj h2);simpa using h3
   cases e with
   | exit i=>exact absurd rfl (aA i)
   | norm=>exact key
   | ret=>exact key
 ·cases h
end
section
def tR (A B:bX):Prop:=∀f vs bx r,A f vs bx=some r→B f vs bx=some r
section
variable {A B:bX}
theorem aod {α:Type} {o o':Option α} (h:∀x,o=some x→o'=some x):(Q.dr o).le (Q.dr o'):=by
 intro S x hx;rw [Q.yA] at hx;exact ⟨by rw [Q.yA];exact h x hx,by simp⟩
theorem afE (h:tR A B) (dst f:Nat) (vs:List V) (ws:List Wr):(zd A dst f vs ws).le (zd B dst f vs ws):=by
 unfold zd;refine .eU fun _=>.eU fun x=>?_
 obtain ⟨rs,bs⟩:=x;refine .eU fun eR=>.eU fun dM=>(aod (h f eR dM)).bind fun x=>?_
 exact .refl _
theorem ah5 (h:tR A B) (dst:Nat) (op:pj):(bp A dst op).le (bp B dst op):=by
 cases op with
 | call f args=>
  unfold bp;refine .eU fun vf=>?_
  split
  ·refine .eU fun _=>.eU fun x=>?_
   obtain ⟨vs,ws⟩:=x;exact afE h _ _ _ _
  ·exact .refl _
 | len b x=>cases b<;>exact .refl _
 | _=>exact .refl _
theorem X6 (h:tR A B) (o:gy):(gq A o).le (gq B o):=by
 unfold gq;refine .eU fun want=>?_
 split
 ·refine (ah5 h _ _).bind fun x=>?_
  exact .refl _
 ·exact .refl _
theorem O' (h:tR A B):∀(ops:List gy) (S S':St),mj A ops S=some S'→mj B ops S=some S'
 | [],S,S',he=>he
 | o::t,S,S',he=>by
  simp only [mj] at he ⊢;cases hr:(gq A o).run S with
  | none=>simp [hr] at he
  | some ws=>
   rw [hr] at he;rw [(X6 h o S ws hr).1];exact O' h t _ S' he
theorem X8 (h:tR A B):∀(ops:List gy) (S:St) x,iq A ops S=some x→iq B ops S=some x
 | [],S,x,he=>he
 | o::t,S,x,he=>by
  simp only [iq] at he ⊢;cases hr:(gq A o).run S with
  | none=>simp [hr] at he
  | some ws=>
   rw [hr] at he;obtain ⟨h1,h2⟩:=X6 h o S ws hr;rw [h1];simp only [Option.bind] at he ⊢;cases h3:iq A t (S.ah ws) with
   | none=>simp [h3] at he
   | some y=>
    rw [h3] at he;rw [X8 h t _ y h3,←h2];exact he
theorem ah6 (h:tR A B) (keep:Option (List Nat)) (gc:Bool) (ops:List gy) (draw:Option (List (Nat×Nat))) (S S':St) (he:pA A keep gc ops draw S=some S'):pA B keep gc ops draw S=some S':=by
 unfold pA at he ⊢;obtain ⟨S1,h1,he⟩:=fq.1 he;obtain ⟨S2,h2,he⟩:=fq.1 he;refine fq.2 ⟨S1,h1,fq.2 ⟨S2,h2,?_⟩⟩;split at he
 ·exact O' h _ _ _ he
 ·exact O' h _ _ _ he
 ·obtain ⟨y,h3,he⟩:=fq.1 he;exact fq.2 ⟨y,X8 h _ _ y h3,he⟩
theorem Z' {f g:St→Option (tQ×St)} (h:∀S x,f S=some x→g S=some x):∀(n:Nat) (S:St) x,iter f n S=some x→iter g n S=some x
 | 0,S,x,he=>by cases he
 | n+1,S,x,he=>by
  simp only [iter] at he ⊢;cases hf:f S with
  | none=>simp [hf] at he
  | some y=>
   rw [hf] at he;rw [h S y hf];simp only [Option.bind] at he ⊢;obtain ⟨e,S1⟩:=y;cases e with
   | norm=>exact Z' h n S1 x he
   | exit i=>exact he
   | ret=>exact he
theorem ah2 (h:tR A B) (n:Nat):∀(c:mc) (S:St) x,dq A n c S=some x→dq B n c S=some x:=by
 intro c;induction c with
 | skip=>intro S x he;exact he
 | iZ keep gc ops draw=>
  intro S x he;simp only [dq] at he ⊢;cases h1:pA A keep gc ops draw S with
  | none=>simp [h1] at he
  | some S'=>rw [h1] at he;rw [ah6 h _ _ _ _ _ _ h1];exact he
 | seq a b z6 z7=>
  intro S x he;simp only [dq] at he ⊢;cases h1:dq A n a S with
  | none=>simp [h1] at he
  | some y=>
   rw [h1] at he;rw [z6 S y h1];obtain ⟨e,S1⟩:=y;simp only [Option.bind] at he ⊢;cases e with
   | norm=>exact z7 S1 x he
   | exit i=>exact he
   | ret=>exact he
 | cond c a b z6 z7=>
  intro S x he;simp only [dq] at he ⊢;cases h1:zg S c with
  | none=>simp [h1] at he
  | some t=>
   rw [h1] at he;simp only [Option.bind] at he ⊢;cases t with
   | true=>exact z6 S x he
   | false=>exact z7 S x he
 | block id b ih=>
  intro S x he;simp only [dq] at he ⊢;cases h1:dq A n b S with
  | none=>simp [h1] at he
  | some y=>rw [h1] at he;rw [ih S y h1];exact he
 | loop b ih=>intro S x he;simp only [dq] at he ⊢;exact Z' ih n S x he
 | exit id=>intro S x he;exact he
 | ret=>intro S x he;exact he
end
end
section
section
variable {nm:FuncId→Option Nat} {N:Nat} {S0:St} {w0:World} {L0:aw} {ws:List Wr} {a:Act} {w:World} {L:aw} {P:Program}
theorem vS {i c n sz:Nat} (hi:i < n) (hc:c < sz):i * sz+c < n * sz:=by
 have:(i+1) * sz≤n * sz:=p6 _ hi;rw [lN] at this;omega
theorem afG {rows:List (List D)} {sz k:Nat} (hlen:∀r∈rows,r.length=sz) (hk:k < rows.length * sz):∃i c x,cellOf rows i c=some x∧k=i * sz+c∧i < rows.length∧c < sz:=by
 have bf:0 < sz:=by
  rcases Nn sz with h | h
  ·rw [h] at hk;omega
  ·exact h
 have hi:k / sz < rows.length:=by rw [Nat.div_lt_iff_lt_mul bf];exact hk
 have hc:k % sz < sz:=D0 _ bf;refine ⟨k / sz,k % sz,(rows[k / sz]'hi)[k % sz]'(by rw [hlen _ (bM hi)];exact hc),?_,?_,hi,hc⟩
 ·unfold cellOf;simp [hi,hlen _ (bM hi),hc]
 ·have:=Nat.div_add_mod k sz;rw [HN] at this;exact this.symm
theorem Ox (a b:List (List D)) (i c:Nat):cellOf (a++b) i c=if i < a.length then cellOf a i c else cellOf b (i - a.length) c:=by
 unfold cellOf;rw [List.getElem?_append];split<;>rfl
theorem World.adk (b:Nat):∀(vs:List Value) (o:Nat) (w:World) {cur:Array Value} {e:TypeId} {fz:Nat×Nat},w.heap[b]? = some (.cells cur e fz)→
  ∃dU,(w.setCells b o vs).heap[b]? = some (.cells dU e fz)∧dU.size=cur.size∧(∀i,i < o→dU[i]? = cur[i]?)∧(∀j v,vs[j]? = some v→o+j < cur.size→dU[o+j]? = some v)∧
   ∀i,o+vs.length≤i→dU[i]? = cur[i]?
 | [],o,w,cur,e,fz,h=>⟨cur,h,rfl,fun _ _=>rfl,fun j v hv=>by simp at hv,fun _ _=>rfl⟩
 | v::vs,o,w,cur,e,fz,h=>by
  have h1:=xr w b o v h;obtain ⟨dU,g1,g2,g3,g4,g5⟩:=World.adk b vs (o+1) (w.setCell ⟨b,o,none⟩ v) h1;refine ⟨dU,g1,by simpa using g2,?_,?_,?_⟩
  ·intro i hi;rw [g3 i (by omega),yJ (by omega)]
  ·intro j u hu af;cases j with
   | zero=>
    simp only [kE,aj] at hu;subst hu;rw [jn,g3 o (by omega),wR];simp only [bW];rw [aJ (by omega)]
   | succ j=>
    have:=g4 j u (by simpa using hu) (by simp;omega);rwa [show o+1+j=o+(j+1) by omega] at this
  ·intro i hi;simp only [fX] at hi;rw [g5 i (by omega),yJ (by omega)]
theorem World.adl (b:Nat):∀(vs:List Value) (o:Nat) (w:World) {B:Nat},B≠b→(w.setCells b o vs).heap[B]? = w.heap[B]?
 | [],_,_,_,_=>rfl
 | v::vs,o,w,B,h=>by rw [World.setCells,World.adl b vs (o+1) _ h,pD _ _ _ _ h]
theorem World.adn (b:Nat):∀(vs:List Value) (o:Nat) (w:World),(w.setCells b o vs).os=w.os∧(w.setCells b o vs).tape=w.tape∧(w.setCells b o vs).output=w.output∧(w.setCells b o vs).heap.size=w.heap.size∧(w.setCells b o vs).drawn=w.drawn
 | [],_,_=>⟨rfl,rfl,rfl,rfl,rfl⟩
 | v::vs,o,w=>by
  obtain ⟨h1,h2,h3,h4,h5⟩:=World.adn b vs (o+1) (w.setCell ⟨b,o,none⟩ v);exact ⟨h1,h2,h3,by rw [World.setCells,h4];simp,h5⟩
structure Src (P:Program) (sz:Nat) (w:World) (x:Value) (n:Nat) (news:Array Value):Prop where
 len:∀w':World,(Builtin.lenOf x).run P w' = .ok n w'
 read:∀w':World,w'.heap=w.heap→(Builtin.firstCells sz n x).run P w' = .ok news w'
 size:news.size=n * sz
 one:∀u∈news,u.oneCell'=true
theorem aps {t u ty e:TypeId} {i:TypeInfo} {d:TypeDesc} (ht:P.underlying t=some (.slice e)) (hu:P.underlying u=some d) (hd:∀k,d≠.int k) (hi:P.info? e=some i)
  {x:Value} {n:Nat} {news:Array Value} (hx:Src P i.size w x n news) {B o sLen sCap:Nat} (dI:sLen+n≤sCap)
  (hc:∀j,j < news.size→(w.cell? ⟨B,o+sLen * i.size+j,none⟩).isSome=true) (hf:∀j,j < news.size→w.frozen? ⟨B,o+sLen * i.size+j,none⟩=false) :
  (Builtin.append_ #[t,u] ty #[.slice (some ⟨B,o,none⟩) sLen sCap,x]).run P w =
   .ok (.slice (some ⟨B,o,none⟩) (sLen+n) sCap) (w.setCells B (o+sLen * i.size) news.toList):=by
 have hz:(match d with | .int _=>true | _=>false)=false:=by cases d<;>first | rfl | exact absurd rfl (hd _)
 have bA:=run_storeCells_cells (P:=P) B (o+sLen * i.size) news.toList 0 w (by simpa using hc) (by simpa using hf) (by simpa using hx.one);have ajk:(⟨B,o,none⟩:Addr).add (sLen * i.size)=⟨B,o+sLen * i.size,none⟩:=by unfold Addr.add;split<;>simp_all
 simp only [jn] at bA;simp [Builtin.append_,run_underlying ht,run_underlying hu,sizeOf,typeInfo,hi,hz,hx.len,hx.read,dI,bA,ajk]
theorem ac6 {t u ty e:TypeId} {i:TypeInfo} {d:TypeDesc} (ht:P.underlying t=some (.slice e)) (hu:P.underlying u=some d) (hd:∀k,d≠.int k) (hi:P.info? e=some i)
  {x:Value} {news:Array Value} (hx:Src P i.size w x 0 news) {b:Option Addr} {sLen sCap:Nat} (dI:sLen≤sCap) :
  (Builtin.append_ #[t,u] ty #[.slice b sLen sCap,x]).run P w = .ok (.slice b sLen sCap) w:=by
 have hz:(match d with | .int _=>true | _=>false)=false:=by cases d<;>first | rfl | exact absurd rfl (hd _)
 have hn:news = #[]:=by have:=hx.size;simpa using this
 subst hn;cases b with
 | none=>simp [Builtin.append_,run_underlying ht,run_underlying hu,sizeOf,typeInfo,hi,hz,hx.len,hx.read,dI]
 | some b=>simp [Builtin.append_,run_underlying ht,run_underlying hu,sizeOf,typeInfo,hi,hz,hx.len,hx.read,dI,storeCells]
theorem apt {t u ty e:TypeId} {i:TypeInfo} {d:TypeDesc} {z:Value} (ht:P.underlying t=some (.slice e)) (hu:P.underlying u=some d) (hd:∀k,d≠.int k) (hi:P.info? e=some i) (hz:i.zero=some z)
  {x:Value} {n:Nat} {news:Array Value} (hx:Src P i.size w x n news) {b:Option Addr} {sLen sCap:Nat} {oX:Array Value} (dI:sCap < sLen+n)
  (ho:∀w':World,w'.heap=w.heap→(Builtin.firstCells i.size sLen (.slice b sLen sCap)).run P w' = .ok oX w')
  (B7:i.bytes≠0) (hb:(sLen+n) * i.bytes≤140737488355328) :
  (Builtin.append_ #[t,u] ty #[.slice b sLen sCap,x]).run P w =
   .ok (.slice (some ⟨w.heap.size,0,none⟩) (sLen+n) (grownCap w (sLen+n) sCap e))
    (w.drew.alloc (.cells (oX++news++Builtin.zeroCells z.cells (grownCap w (sLen+n) sCap e - (sLen+n))) e)):=by
 have hzz:(match d with | .int _=>true | _=>false)=false:=by cases d<;>first | rfl | exact absurd rfl (hd _)
 have hn:¬ (sLen+n≤sCap):=by omega
 have ajd:¬ (281474976710656 < Builtin.nextslicecap (sLen+n) sCap * i.bytes):=by
  have:=growslice_fits dI hb;omega
 have h1:=ho w.drew rfl;have h2:=hx.read w.drew rfl;simp [Builtin.append_,run_underlying ht,run_underlying hu,sizeOf,typeInfo,zeroValue,hi,hz,hzz,B7,hx.len,hn,ajd,Question.forced,h1,h2,newRow,grownCap]
def ma (m m2 n:Nat):Place→Option Place:=fun q=>
 if q.k = .h m2∧q.j=0 then (match q.p with | (i,c)::r=>some ⟨.h m,0,(n+i,c)::r⟩ | []=>none)
 else if q.k = .h m∧q.j=0 then (match q.p with | (i,_)::_=>if i < n then some q else none | []=>some q)
 else some q
theorem Hf {m m2 n:Nat} {q:Place} (h:q.k.aT=true):ma m m2 n q=some q:=by
 unfold ma;rw [aB (fun e=>by rw [e.1] at h;simp [Key.aT] at h),aB (fun e=>by rw [e.1] at h;simp [Key.aT] at h)]
theorem adJ {m m2 n:Nat} (aA:m≠m2) {q t:Place} (h:ma m m2 n q=some t) :
  ((q.k = .h m2∧q.j=0)∧∃i c r,q.p=(i,c)::r∧t=⟨.h m,0,(n+i,c)::r⟩)∨
  ((q.k = .h m∧q.j=0)∧t=q∧∀i c r,q.p=(i,c)::r→i < n)∨
  (¬ (q.k = .h m2∧q.j=0)∧¬ (q.k = .h m∧q.j=0)∧t=q):=by
 unfold ma at h;split at h
 ·rename_i h1;split at h
  ·rename_i i c r hp;simp only [aj] at h;exact .inl ⟨h1,i,c,r,hp,h.symm⟩
  ·cases h
 ·rename_i h1;split at h
  ·rename_i h2;split at h
   ·rename_i i c r hp;split at h
    ·rename_i hi;simp only [aj] at h;exact .inr (.inl ⟨h2,h.symm,fun i' c' r' e=>by rw [hp] at e;simp only [qR,fK] at e;omega⟩)
    ·cases h
   ·rename_i hp;simp only [aj] at h;exact .inr (.inl ⟨h2,h.symm,fun i' c' r' e=>by rw [hp] at e;cases e⟩)
  ·rename_i h2;simp only [aj] at h;exact .inr (.inr ⟨h1,h2,h.symm⟩)
theorem T2 {m m2 n:Nat} (aA:m≠m2) {q q' t:Place} (h1:ma m m2 n q=some t) (h2:ma m m2 n q'=some t):q=q':=by
 have ext:∀{q q':Place},q.k=q'.k→q.j=q'.j→q.p=q'.p→q=q':=fun {q q'} a b c=>by cases q;cases q';simp_all
 rcases adJ aA h1 with ⟨a1,i,c,r,a2,a3⟩ | ⟨a1,a2,a3⟩ | ⟨a1,a2,a3⟩<;>rcases adJ aA h2 with ⟨b1,i',c',r',b2,b3⟩ | ⟨b1,b2,b3⟩ | ⟨b1,b2,b3⟩
 ·rw [a3] at b3;simp only [Place.mk.injEq,qR,fK,ll] at b3;refine ext (a1.1.trans b1.1.symm) (a1.2.trans b1.2.symm) ?_;rw [a2,b2,b3.2,b3.1.2,show i=i' by omega]
 ·have:=b3 (n+i) c r (by rw [←b2,a3]);omega
 ·exact absurd (by rw [←b3,a3];exact ⟨rfl,rfl⟩) b2
 ·have:=a3 (n+i') c' r' (by rw [←a2,b3]);omega
 ·rw [←a2,←b2]
 ·exact absurd (by rw [←b3,a2];exact a1) b2
 ·exact absurd (by rw [←a3,b3];exact ⟨rfl,rfl⟩) a2
 ·exact absurd (by rw [←a3,b2];exact b1) a2
 ·rw [←a3,←b3]
theorem Rel.wz {S:St} (h:Rel nm N S a w L) {f:Place→Option Place} (Ji:∀q:Place,q.k.aT=true→f q=some q) (re:∀q q' t,f q=some t→f q'=some t→q=q') :
  Rel nm N S a w (cI f L):=by
 refine h.I7 ?_ ?_ (G8 h.eM (fun q q' t _ _ _ _ h1 h2 _ _=>re q q' t h1 h2)) (fun B B' r o o' h1 h2=>h.fE B B' r o o' (jz.1 h1) (jz.1 h2))
 ·intro B l hB hl;refine ⟨rfl,?_⟩;cases l with
  | bh=>exact jM.2 hB
  | box r o=>exact jz.2 hB
  | row q o=>exact gL hB (Ji q (hl q o rfl))
 ·intro B l hB;obtain ⟨l0,h0⟩:=G7 hB;exact h.ft B l0 h0
theorem G9 (f:Place→Option Place):df w w L (cI f L):=
 ⟨rfl,rfl,rfl,bV _,fun B hB=>⟨jM.2 hB,rfl⟩,fun B _ hB=>⟨Mp hB,rfl⟩,fun B i o hB=>jz.2 hB⟩
theorem VN {m:Nat} {pl:Place} (cL:pl.k.aT=true∨pl=⟨.h m,0,[]⟩) {m2 n0:Nat} (aA:m≠m2) {rows src:List (List D)} {val iO:Nat→Nat→Value}
  (h1:∀i c x,cellOf rows i c=some x→br w L ((if i < n0 then pl else ⟨.h m,0,[]⟩).sub i c) x (val i c)) (h2:ph w L ⟨.h m2,0,[]⟩ src iO) (af:∀i c x,cellOf rows i c=some x→i < rows.length) :
  ∀i c x,cellOf (rows++src) i c=some x→br w (cI (ma m m2 rows.length) L) ((if i < min n0 rows.length then pl else ⟨.h m,0,[]⟩).sub i c) x (if i < rows.length then val i c else iO (i - rows.length) c):=by
 intro i c x hx;rw [Ox] at hx;have hH:∀{t:Place} {y:D} {u:Value},br w L t y u→(∃i c r,t=⟨.h m,0,(i,c)::r⟩∧i < rows.length)→br w (cI (ma m m2 rows.length) L) t y u:=by
  intro t y u hy ht;refine br.move id (fun t=>∃i c r,t=⟨.h m,0,(i,c)::r⟩∧i < rows.length) ?_ (fun _ _ _ _=>rfl) (fun B hB=>⟨jM.2 hB,rfl⟩) ?_ hy ht
  ·rintro q i' c' ⟨i,c,r,rfl,hi⟩;exact ⟨i,c,r++[(i',c')],rfl,hi⟩
  ·rintro B q o ⟨i,c,r,rfl,hi⟩ hL;refine ⟨gL hL ?_,rfl⟩;unfold ma;rw [aB (fun e=>by simp only [Key.h.injEq] at e;exact aA e.1),aJ ⟨rfl,rfl⟩];simp only [id,hi,bW]
 by_cases hi:i < rows.length
 ·rw [aJ hi] at hx ⊢;have h0:=h1 i c x hx;by_cases hn:i < n0
  ·rw [aJ hn] at h0;rw [aJ (by omega)];rcases cL with cL | rfl
   ·refine br.move id (fun q=>q.k=pl.k) (fun _ _ _ h=>h) (fun _ _ _ _=>rfl) (fun B hB=>⟨jM.2 hB,rfl⟩) ?_ h0 rfl;intro B q o hq hL;exact ⟨gL hL (Hf (by rw [hq];exact cL)),rfl⟩
   ·exact hH h0 ⟨i,c,[],rfl,hi⟩
  ·rw [aB hn] at h0;rw [aB (by omega)];exact hH h0 ⟨i,c,[],rfl,hi⟩
 ·rw [aB hi] at hx ⊢;rw [aB (by omega)];have h0:=h2 (i - rows.length) c x hx;have:=br.move (w':=w) (L':=cI (ma m m2 rows.length) L) (fun q=>match q.p with | (i,c)::r=>⟨.h m,0,(rows.length+i,c)::r⟩ | []=>q) (fun q=>∃i c r,q=⟨.h m2,0,(i,c)::r⟩)
   (by rintro q i' c' ⟨i,c,r,rfl⟩;exact ⟨i,c,r++[(i',c')],rfl⟩) (by rintro q i' c' ⟨i,c,r,rfl⟩;rfl) (fun B hB=>⟨jM.2 hB,rfl⟩)
   (by
     rintro B q o ⟨i, c, r, rfl⟩ hL
     refine ⟨gL hL ?_, rfl⟩
     unfold ma
     rw [aJ ⟨rfl, rfl⟩]) h0 ⟨_, _, [], rfl⟩
  simp only [Place.sub,uV] at this ⊢;rwa [show rows.length+(i - rows.length)=i by omega] at this
end
end
section
section
variable {nm:FuncId→Option Nat} {N:Nat} {S0:St} {w0:World} {L0:aw} {ws:List Wr} {a:Act} {w:World} {L:aw} {P:Program}
structure A7 (P:Program) (sz bytes:Nat) (t u e:TypeId) (i:TypeInfo) (d:TypeDesc) (z:Value):Prop where
 ht:P.underlying t=some (.slice e)
 hu:P.underlying u=some d
 hd:∀k,d≠.int k
 hi:P.info? e=some i
 hz:i.zero=some z
 size:i.size=sz
 arM:z.cells.size=sz
 pos:0 < sz
 E3:i.bytes≤bytes
 arj:i.bytes≠0
 u8:bytes=1→e=5
theorem qZ {B o:Nat} {cur:Array Value} {e:TypeId} {fz:Nat×Nat} (h:w.heap[B]? = some (.cells cur e fz)):w.cell? ⟨B,o,none⟩=cur[o]?:=by
 simp [World.cell?,h]
theorem Pq {B o:Nat} {cur:Array Value} {e:TypeId} {fz:Nat×Nat} (h:w.heap[B]? = some (.cells cur e fz)) (hf:jD cur.size fz) (ho:o < cur.size):w.frozen? ⟨B,o,none⟩=false:=by
 have:=hf o ho;obtain ⟨lo,hi⟩:=fz;simp only at this;simp only [World.frozen?,h];cases hx:decide (lo≤o) with
 | false=>rfl
 | true=>
  cases hy:decide (o < hi) with
  | false=>rfl
  | true=>exact absurd ⟨by simpa using hx,by simpa using hy⟩ this
theorem ov (B o n:Nat):(⟨B,o,none⟩:Addr).add n=⟨B,o+n,none⟩:=by unfold Addr.add;split<;>simp_all
theorem acJ {B o n:Nat} {cur:Array Value} {e:TypeId} {fz:Nat×Nat} (h:w.heap[B]? = some (.cells cur e fz)) (hn:o+n≤cur.size) :
  (loadCells ⟨B,o,none⟩ n).run P w = .ok (cur.extract o (o+n)) w:=by
 rw [run_loadCells w ⟨B,o,none⟩ n (fun j=>cur.getD (o+j) undef)]
 ·congr 1;apply Array.ext
  ·simp;omega
  ·intro i h1 h2;simp only [List.size_toArray,cf,U7] at h1;have:o+i < cur.size:=by omega
   simp [Array.getD,this]
 ·intro j hj;have:o+j < cur.size:=by omega
  rw [ov,qZ h];simp [Array.getD,this]
theorem af4 {H:Place} {f:Place→Option Place} {rows:List (List D)} {pl:Place} {n0:Nat} {val:Nat→Nat→Value} (hf:∀q:Place,q≠H→f q=some q) (hH:H.p=[])
  (h:∀i c x,cellOf rows i c=some x→br w L ((if i < n0 then pl else H).sub i c) x (val i c)) (cL:pl.k≠H.k∨pl=H) :
  ∀i c x,cellOf rows i c=some x→br w (cI f L) ((if i < n0 then pl else H).sub i c) x (val i c):=by
 intro i c x hx;refine br.move id (fun q=>q≠H∧(q.p≠[]∨q.k≠H.k)) (fun q i c h=>⟨fun e=>?_,.inl (by simp [Place.sub])⟩) (fun _ _ _ _=>rfl) (fun B hB=>⟨jM.2 hB,rfl⟩)
  (fun B q o hq hL=>⟨gL hL (hf q hq.1),rfl⟩) (h i c x hx) ?_
 ·have:=fU Place.p e;rw [hH] at this;simp [Place.sub] at this
 ·refine ⟨fun e=>?_,.inl (by simp [Place.sub])⟩;have:=fU Place.p e;rw [hH] at this;simp [Place.sub] at this
theorem arh (z:Array Value) (n:Nat):(Builtin.zeroCells z n).size=n * z.size:=by simp [Builtin.zeroCells]
theorem H8 {S:St} (R:Rel nm N S a w L) {m m2:Nat} (aA:m≠m2) {pl:Place} {sz bytes:Nat} {rows src:List (List D)} {v x:Value} {t u ty e:TypeId} {i:TypeInfo} {d:TypeDesc} {z:Value}
  (T:A7 P sz bytes t u e i d z) (A:p8 w L pl sz rows ⟨.h m,0,[]⟩ v∨(rows=[]∧src≠[]∧v = .slice none 0 0))
  (cL:pl=⟨.h m,0,[]⟩∨(pl.k.aT=true∧∃x qM,(S.E pl.k).cells[pl.j]? = some (.d x)∧ew x pl.p=some (.sl .own sz qM)∧qM.length≤rows.length))
  {news:Array Value} {iO:Nat→Nat→Value} (hx:Src P sz w x src.length news) (lT:∀r∈src,r.length=sz) (gB:ph w L ⟨.h m2,0,[]⟩ src iO) (dO:pn src sz 0 news iO)
  (B7:(rows.length+src.length) * bytes≤140737488355328) (h8:fS bytes src rows.isEmpty=true∨(fS bytes src false=true∧v = .slice none 0 0)) :
  ∃v' w' L',(Builtin.append_ #[t,u] ty #[v,x]).run P w = .ok v' w'∧df w w' L L'∧p8 w' L' pl sz (rows++src) ⟨.h m,0,[]⟩ v'∧v'.oneCell'=true∧
   (pl=⟨.h m,0,[]⟩→Rel nm N S a w' L')∧(pl.k.aT=true→Rel nm N (S.wr { k:=.a pl.k,v:=V.dead }) a w' L'):=by
 obtain ⟨ht,hu,hd,hi,hz,rfl,ZZ,bf,E3,B8,ec⟩:=T;have hb:(rows.length+src.length) * i.bytes≤140737488355328:=je (Nat.mul_le_mul_left _ E3) B7;have an6:src≠[]→tT (rows++src) e:=by
  intro hs hn;have hn:lZ (rows++src)=false:=hn.resolve_right fun e=>hs (HB.1 e).2
  obtain ⟨k1,k2⟩:=vY.1 hn;have Fz:lZ src=false:=vY.2 ⟨hs,fun r hr=>k2 r (aeZ _ hr)⟩;apply ec;rcases h8 with h8 | ⟨h8,_⟩<;>simp only [fS,Fz,UT,eW] at h8<;>exact h8
 have Ck:pl.k.aT=true∨pl=⟨.h m,0,[]⟩:=cL.elim .inr (fun h=>.inl h.1);have JD:(rows++src).length=rows.length+src.length:=dL;have fresh:∀(b:Option Addr) (cap:Nat) (oX:Array Value) (n0:Nat) (val:Nat→Nat→Value),v = .slice b rows.length cap→cap < rows.length+src.length→oX.size=rows.length * i.size→
   (∀w':World,w'.heap=w.heap→(Builtin.firstCells i.size rows.length (.slice b rows.length cap)).run P w' = .ok oX w')→(∀r∈rows,r.length=i.size)→
   pn rows i.size 0 oX val→(∀i c x,cellOf rows i c=some x→br w L ((if i < n0 then pl else ⟨.h m,0,[]⟩).sub i c) x (val i c))→src≠[]→
   ∃v' w' L',(Builtin.append_ #[t,u] ty #[v,x]).run P w = .ok v' w'∧df w w' L L'∧p8 w' L' pl i.size (rows++src) ⟨.h m,0,[]⟩ v'∧v'.oneCell'=true∧
   (pl=⟨.h m,0,[]⟩→Rel nm N S a w' L')∧(pl.k.aT=true→Rel nm N (S.wr { k:=.a pl.k,v:=V.dead }) a w' L'):=by
  intro b cap oX n0 val hv dN oN zS gC Ce hcr hs8;subst hv;have iU:=apt (ty:=ty) (w:=w) ht hu hd hi hz hx dN zS B8 hb;have zE:=VN (w:=w) (L:=L) Ck aA hcr gB (fun i c x h=>(ox gC h).1);let f:Place→Option Place:=fun q=>if q=⟨.h m,0,[]⟩ then none else some q
  have Zb:∀q:Place,q≠⟨.h m,0,[]⟩→f q=some q:=fun q hq=>by simp only [f];rw [aB hq]
  have ajA:∀q q' t,f q=some t→f q'=some t→q=q':=by
   intro q q' t h1 h2;simp only [f] at h1 h2;split at h1
   ·cases h1
   ·split at h2
    ·cases h2
    ·simp only [aj] at h1 h2;rw [h1,h2]
  have ajt:=af4 (H:=⟨.h m,0,[]⟩) Zb rfl zE (Ck.elim (fun h=>.inl (fun e=>by rw [e] at h;simp [Key.aT] at h)) .inr);have qy:∀{S':St},Rel nm N S' a w L→Rel nm N S' a w (cI f (cI (ma m m2 rows.length) L)):=fun R'=>
   (R'.wz (fun q hq=>Hf hq) (fun q q' t h1 h2=>T2 aA h1 h2)).wz (fun q hq=>Zb q (fun e=>by rw [e] at hq;simp [Key.aT] at hq)) ajA
  have eP:=grownCap_ge w (rows.length+src.length) cap e;have ZJ:∀{S':St},Rel nm N S' a w L→Rel nm N S' a (w.drew.alloc (.cells (oX++news++Builtin.zeroCells z.cells (grownCap w (rows.length+src.length) cap e - (rows.length+src.length))) e))
    ((cI f (cI (ma m m2 rows.length) L)).put w.heap.size (.row ⟨.h m,0,[]⟩ 0)):=fun R'=>
   (qy R').drew.VI (fun B o hB => by
     obtain ⟨q0, _, h2⟩ := oY hB
     simp only [f] at h2
     split at h2
     · cases h2
     · rename_i h3; simp only [aj] at h2; exact h3 h2) _ _
  have hD:=(qy R).drew.ft;refine ⟨_,_,(cI f (cI (ma m m2 rows.length) L)).put w.heap.size (.row ⟨.h m,0,[]⟩ 0),iU,?_,?_,rfl,fun _=>ZJ R,fun _=>ZJ (R.kill (.a pl.k) (fun r e=>by cases e))⟩
  ·exact ((G9 _).trans (G9 _)).trans ((df.drew _ _).trans (df.alloc _ _ hD _ _))
  ·refine .inr ⟨w.heap.size, 0, grownCap w (rows.length + src.length) cap e, _, e, (0, 0), min n0 rows.length, fun i c => if i < rows.length then val i c else iO (i - rows.length) c, by rw [JD], bf,
     .inr (aw.kZ _ _ _), oL w.drew _, fun j _ => by simp, ?_, by rw [JD]; exact eP, ?_, ?_, ?_, an6 hs8⟩
   ·intro r hr;rcases dA.1 hr with hr | hr
    ·exact gC r hr
    ·exact lT r hr
   ·simp only [Array.size_append,oN,hx.size,arh,ZZ,de,←lN];rw [show rows.length+src.length+(grownCap w (rows.length+src.length) cap e - (rows.length+src.length))=grownCap w (rows.length+src.length) cap e by omega];exact bV _
   ·intro j c y hy;rw [Ox] at hy;simp only [de];by_cases hj:j < rows.length
    ·rw [aJ hj] at hy ⊢;obtain ⟨_,hc⟩:=ox gC hy;have af:=vS hj hc;rw [AZ (by simp;omega),AZ (by omega)];have:=Ce j c y hy;rwa [de] at this
    ·rw [aB hj] at hy ⊢;obtain ⟨lu,hc⟩:=ox lT hy;have af:=vS lu hc;have he:j * i.size=rows.length * i.size+(j - rows.length) * i.size:=by rw [←lN];congr 1;omega
     rw [AZ (by rw [Array.size_append,oN,hx.size];omega),UP (by omega)];have:=dO (j - rows.length) c y hy;rwa [de,show (j - rows.length) * i.size+c=j * i.size+c - oX.size by omega] at this
   ·intro j c y hy;have h0:=ajt j c y hy;have Jz:∀B l,(cI f (cI (ma m m2 rows.length) L)) B=some l→B≠w.heap.size:=fun B l hB e=>by
     have:=hD.new;simp only [World.size_drew] at this;rw [e,this] at hB;cases hB
    exact br.move (w:=w) id (fun _=>True) (fun _ _ _ _=>trivial) (fun _ _ _ _=>rfl) (fun B hB=>⟨by rw [aw.gw (Jz B _ hB)];exact hB,nk w.drew _ (Jz B _ hB)⟩)
     (fun B q o _ hB=>⟨by rw [aw.gw (Jz B _ hB)];exact hB,nk w.drew _ (Jz B _ hB)⟩) h0 trivial
 rcases A with (⟨rfl,a0,rfl⟩ | ⟨B,o,cap,cur,e',fz,n0,val,rfl,_,hL,hB,cU,fO,dN,dI,cr,dy,PB⟩) | ⟨rfl,ZN,rfl⟩
 ·by_cases hn:src.length=0
  ·have QS:src=[]:=pZ.1 hn;subst QS;have iU:=ac6 (ty:=ty) (w:=w) (b:=some a0) (sLen:=0) (sCap:=0) ht hu hd hi hx (bV _);exact ⟨_,w,L,iU,df.refl _ _,.inl ⟨rfl,a0,rfl⟩,rfl,fun _=>R,fun _=>R.kill (.a pl.k) (fun r e=>by cases e)⟩
  ·refine fresh (some a0) 0 #[] 0 (fun _ _=>undef) rfl (by simp;omega) (by simp) ?_ (by simp) (fun i c x h=>by simp [cellOf] at h) (fun i c x h=>by simp [cellOf] at h) (fun e=>hn (by rw [e];rfl));intro w' pH;simp [Builtin.firstCells,loadCells,loadCellsFrom]
 ·have eE:rows.length * i.size≤cap * i.size:=p6 _ dN;by_cases Fb:rows.length+src.length≤cap
  ·
   have ajv:(rows.length+src.length) * i.size≤cap * i.size:=p6 _ Fb;rw [lN] at ajv;have iU:=aps (ty:=ty) (w:=w) (B:=B) (o:=o) (sLen:=rows.length) (sCap:=cap) ht hu hd hi hx Fb
    (fun j hj=>by rw [qZ hB];rw [hx.size] at hj;simp;omega) (fun j hj=>Pq hB cU (by rw [hx.size] at hj;omega))
   obtain ⟨dU,g1,g2,g3,g4,g5⟩:=World.adk B news.toList (o+rows.length * i.size) w hB;have lA:∀B',B'≠B→(w.setCells B (o+rows.length * i.size) news.toList).heap[B']? = w.heap[B']?:=fun B' h=>World.adl B _ _ _ h
   have zE:=VN (w:=w) (L:=L) Ck aA dy gB (fun i c x h=>(ox fO h).1);have Jt:∃q,L B=some (.row q o):=hL.elim (fun h=>⟨_,h⟩) (fun h=>⟨_,h⟩);obtain ⟨qB,q8⟩:=Jt;have FC:qB=pl∨qB=⟨.h m,0,[]⟩:=by
    rcases hL with h | h<;>rw [q8] at h<;>simp only [aj,bS.row.injEq,and_true] at h
    ·exact .inl h
    ·exact .inr h
   have Ze:∀{S':St},qB.k.aT=false→Rel nm N S' a w L→Rel nm N S' a (w.setCells B (o+rows.length * i.size) news.toList) L:=by
    intro S' hq R';refine R'.I7 ?_ ?_ R'.eM R'.fE
    ·intro B' l dD hl;refine ⟨lA B' (fun e=>?_),dD⟩;rw [e,q8] at dD;simp only [aj] at dD;have:=hl qB o dD.symm;rw [hq] at this;cases this
    ·intro B' l dD;by_cases he:B'=B
     ·subst he;exact (lL.1 g1).1
     ·exact xq (R'.ft B' l dD) (lA B' he)
   have hR1:pl=⟨.h m,0,[]⟩→Rel nm N S a (w.setCells B (o+rows.length * i.size) news.toList) L:=by
    intro hp;refine Ze ?_ R;rcases FC with rfl | rfl
    ·rw [hp];rfl
    ·rfl
   have PJ:pl.k.aT=true→Rel nm N (S.wr { k:=.a pl.k,v:=V.dead }) a (w.setCells B (o+rows.length * i.size) news.toList) L:=by
    intro hp;rcases FC with rfl | rfl
    ·rcases cL with rfl | ⟨_,x0,qM,hE,hn,hle⟩
     ·simp [Key.aT] at hp
     ·refine R.aoH (n:=rows.length * i.size) hp hE hn (p6 _ hle) q8 hB (fun B' l _ h=>lA B' h) g1 g2 g3
    ·exact Ze rfl (R.kill (.a pl.k) (fun r e=>by cases e))
   have Zg:∀B',L B'=some .bh→B'≠B:=fun B' h e=>by rw [e,q8] at h;cases h
   have ary:∀{q:Place} {B' o':Nat},L B'=some (.row q o')→q≠qB→B'≠B:=fun h hq e=>by
    rw [e,q8] at h;simp only [aj,bS.row.injEq] at h;exact hq h.1.symm
   refine ⟨_, _, cI (ma m m2 rows.length) L, iU, ?_, ?_, rfl, fun h => (hR1 h).wz (fun q hq => Hf hq) (fun q q' t h1 h2 => T2 aA h1 h2),
     fun h => (PJ h).wz (fun q hq => Hf hq) (fun q q' t h1 h2 => T2 aA h1 h2)⟩
   ·refine df.trans (L2:=L) (w2:=w.setCells B (o+rows.length * i.size) news.toList) ?_ (G9 _);obtain ⟨e1,e2,e3,e4,_⟩:=World.adn B news.toList (o+rows.length * i.size) w;refine ⟨e1,e2,e3,by rw [e4];exact bV _,fun B' h=>⟨h,lA B' (Zg B' h)⟩,fun B' _ h=>⟨h,lA B' (fun e=>by rw [e,q8] at h;cases h)⟩,fun _ _ _ h=>h⟩
   ·have Qw:cI (ma m m2 rows.length) L B=some (.row qB o):=by
     refine gL q8 ?_;rcases FC with rfl | rfl
     ·rcases Ck with hp | rfl
      ·exact Hf hp
      ·unfold ma;rw [aB (fun e=>by simp only [Key.h.injEq] at e;exact aA e.1),aJ ⟨rfl,rfl⟩]
     ·unfold ma;rw [aB (fun e=>by simp only [Key.h.injEq] at e;exact aA e.1),aJ ⟨rfl,rfl⟩]
    refine .inr ⟨B,o,cap,dU,e',fz,min n0 rows.length,fun i c=>if i < rows.length then val i c else iO (i - rows.length) c,by rw [JD],bf,?_,g1,by rw [g2];exact cU,?_,by rw [JD];exact Fb,by rw [g2];exact dI,?_,?_,?_⟩
    ·rcases FC with rfl | rfl
     ·exact .inl Qw
     ·exact .inr Qw
    ·intro r hr;rcases dA.1 hr with hr | hr
     ·exact fO r hr
     ·exact lT r hr
    ·intro j c y hy;rw [Ox] at hy;simp only;by_cases hj:j < rows.length
     ·rw [aJ hj] at hy ⊢;obtain ⟨_,hc⟩:=ox fO hy;have af:=vS hj hc;rw [p5,g3 _ (by omega),←p5];exact cr j c y hy
     ·rw [aB hj] at hy ⊢;obtain ⟨lu,hc⟩:=ox lT hy;have af:=vS lu hc;have he:j * i.size=rows.length * i.size+(j - rows.length) * i.size:=by rw [←lN];congr 1;omega
      have h2:=dO (j - rows.length) c y hy;rw [de] at h2;have:=g4 ((j - rows.length) * i.size+c) _ (by simpa using h2) (by omega);rwa [show o+rows.length * i.size+((j - rows.length) * i.size+c)=o+j * i.size+c by omega] at this
    ·intro j c y hy;have h0:=zE j c y hy;refine br.move id (fun q=>∃r s,(q=pl.app (r::s)∨q=⟨.h m,0,r::s⟩)) ?_ (fun _ _ _ _=>rfl) (fun B' dD=>⟨dD,lA B' (Zg B' (jM.1 dD))⟩) ?_ h0 ?_
     ·rintro q i' c' ⟨r,s,h | h⟩
      ·exact ⟨r,s++[(i',c')],.inl (by rw [h,←Place.Eh];rfl)⟩
      ·exact ⟨r,s++[(i',c')],.inr (by rw [h];rfl)⟩
     ·rintro B' q o' ⟨r,s,hq⟩ dD;refine ⟨dD,lA B' (fun e=>?_)⟩;rw [e,Qw] at dD;simp only [aj,bS.row.injEq] at dD;have Co:q=qB:=dD.1.symm;have ZC:∀r s,pl.app (r::s)≠pl:=fun r s e=>by have:=fU Place.p e;simp [Place.app] at this
      have YQ:∀r s,(⟨.h m,0,r::s⟩:Place)≠⟨.h m,0,[]⟩:=fun r s e=>by simp at e
      rcases FC with h1 | h1<;>rcases hq with h2 | h2
      ·exact ZC r s (by rw [←h2,Co,h1])
      ·rcases Ck with h3 | h3
       ·have:pl=⟨.h m,0,r::s⟩:=by rw [←h1,←Co,h2]
        rw [this] at h3;simp [Key.aT] at h3
       ·exact YQ r s (by rw [←h2,Co,h1,h3])
      ·rcases Ck with h3 | h3
       ·have:(pl.app (r::s)).k = .h m:=by rw [←h2,Co,h1]
        simp only [Place.app] at this;rw [this] at h3;simp [Key.aT] at h3
       ·exact ZC r s (by rw [←h2,Co,h1,h3])
      ·exact YQ r s (by rw [←h2,Co,h1])
     ·refine ⟨(j,c),[],?_⟩;by_cases hj:j < min n0 rows.length
      ·rw [aJ hj];exact .inl rfl
      ·rw [aB hj];exact .inr rfl
    ·intro hn;by_cases mB:src=[]
     ·rw [mB,mR] at hn;exact PB hn
     ·have hn:lZ (rows++src)=false:=hn.resolve_right fun e=>mB (HB.1 e).2
      obtain ⟨k1,k2⟩:=vY.1 hn;by_cases xE:rows=[]
      ·exact PB (.inr xE)
      ·exact PB (.inl (vY.2 ⟨xE,fun r hr=>k2 r (HF _ hr)⟩))
  ·refine fresh (some ⟨B,o,none⟩) cap (cur.extract o (o+rows.length * i.size)) n0 val rfl (by omega) (by simp;omega) ?_ fO ?_ dy (fun e=>by rw [e] at Fb;simp at Fb;omega)
   ·intro w' pH;simp only [Builtin.firstCells];exact acJ (w:=w') (e:=e') (fz:=fz) (by rw [pH];exact hB) (by omega)
   ·intro j c y hy;obtain ⟨hj,hc⟩:=ox fO hy;have af:=vS hj hc;have:=cr j c y hy;rw [de,UQ];rw [aJ (by omega),←p5];exact this
 ·
  have hn:0 < src.length:=List.length_pos_iff.2 ZN;refine fresh none 0 #[] 0 (fun _ _=>undef) rfl (by simp;omega) (by simp) ?_ (by simp) (fun i c x h=>by simp [cellOf] at h) (fun i c x h=>by simp [cellOf] at h) ZN;intro w' pH;simp [Builtin.firstCells]
end
end
section
structure Hint where
 nt:Nat
 MP:Nat
 res:List Nat
 anN:List (Nat×List Nat)
 acL:List (Nat×(Option (List Nat)×Bool))
 deriving Inhabited
def FP:Option TypeDesc→Bool
 | some .string=>true
 | _=>false
def M8 (P:Program) (e:TypeId):Bool:=
 match P.info? e with
 | some i=>match i.zero with
  | some (.bool false)=>true
  | _=>false
 | none=>false
def Rh:Option TypeDesc→Bool
 | some .bool=>true
 | _=>false
def FQ:Option TypeDesc→Bool
 | some (.int .u8)=>true
 | _=>false
def AP:TypeId:=5
def aiU:Option TypeDesc→Bool
 | some (.int _)=>true
 | some .bool=>true
 | some .string=>true
 | _=>false
def w5 (e:TypeId) (b:Nat):Nat:=if e=AP then b else if b=1 then 2 else b
section
variable (P:Program)
def jP (t:TypeId):Option Nat:=(P.info? t).map (·.size)
def O6 (t:TypeId):Option Nat:=
 match P.underlying t with
 | some (.slice e)=>jP P e
 | _=>none
def Bw (sz:Nat):Value→Option C
 | .int k n=>some (.d (.int k n))
 | .bool b=>some (.d (.bool b))
 | .string s=>some (.d (.str s.data.toList))
 | .slice none 0 0=>some (.d (.sl (.im true) sz []))
 | .pointer none=>some .cE
 | .nilFunc=>some .eX
 | .nilIface=>some .fR
 | _=>none
def OF (sz:Nat) (v:Value):Option V:=(Bw sz v).map .one
def Oy:Nat→TypeId→Option (List Nat)
 | 0,_=>none
 | n+1,t=>
  match P.underlying t with
  | some (.struct fs)=>fs.toList.foldr (fun f acc=>match Oy n f.type,acc with | some a,some b=>some (a++b) | _,_=>none) (some [])
  | some (.array k e)=>(Oy n e).map fun l=>(List.replicate k l).flatten
  | some (.slice e)=>(jP P e).map fun s=>[s]
  | _=>some [0]
def pW (t:TypeId):Option (List C):=
 match P.info? t,Oy P 12 t with
 | some i,some l=>match i.zero with
  | some z=>if z.cells.size=l.length∧z.cells.size=i.size then (l.zip z.cells.toList).mapM fun x=>Bw x.1 x.2 else none
  | none=>none
 | _,_=>none
def Eg:TypeDesc→Bool
 | .struct _=>true
 | .array _ _=>true
 | _=>false
def sf (t:TypeId):Option (Nat×Bool):=
 match P.info? t,P.underlying t with
 | some i,some d=>some (i.size,Eg d)
 | _,_=>none
def PU:Nat→TypeId→Bool
 | 0,_=>true
 | n+1,t=>
  match P.underlying t with
  | some (.struct fs)=>fs.any fun f=>PU n f.type
  | some (.array _ e)=>PU n e
  | some (.slice _)=>true
  | _=>false
variable (nm:FuncId→Option Nat) (h:Hint)
def p9 (t:TypeId) (x:Operand):Option X:=
 match x with
 | .tmp i=>some (if h.MP≤i∧PU P 12 t=true then .t i else .s i)
 | .const v=>(OF ((O6 P t).getD 0) v).map .c
 | .func f=>(nm f).bind fun n=>if n < kM then some (.f n) else none
 | .global _=>none
def eg (t:TypeId) (x:Operand):Option X:=
 match x with
 | .tmp i=>some (.s i)
 | .const v=>(OF ((O6 P t).getD 0) v).map .c
 | .func f=>(nm f).bind fun n=>if n < kM then some (.f n) else none
 | .global _=>none
def EO (f:Field):Option Fl:=
 if f.name = "_" then none else
 match P.underlying f.type with
 | some (.int _)=>some .int
 | some .bool=>some .bool
 | some .string=>some .str
 | _=>none
def EP:Nat→List Field→Option (List Fl)
 | _,[]=>some []
 | i,f::t=>if f.offset=i then
   match EO P f,EP (i+1) t with
   | some x,some l=>some (x::l)
   | _,_=>none
  else none
def Yv (f:Field):Option (List Fl):=
 if f.name = "_" then none else
 match P.underlying f.type with
 | some (.struct gs)=>
  match EP P 0 gs.toList with
  | some l=>if P.stoodInHeld f.type=false∧jP P f.type=some l.length∧l.length≠0 then some l else none
  | none=>none
 | _=>none
def zp:Nat→List Field→Option (List Fl)
 | _,[]=>some []
 | i,f::t=>if f.offset=i then
   match EO P f with
   | some x=>(zp (i+1) t).map (x :: ·)
   | none=>match Yv P f with
    | some l=>(zp (i+l.length) t).map (l ++ ·)
    | none=>none
  else none
def BN (t:TypeId):Option (List Fl):=
 match P.underlying t with
 | some (.struct fs)=>if P.stoodInHeld t=false∧P.eqGuardType P.depth t=false then zp P 0 fs.toList else none
 | _=>none
def xN:Operand→Bool
 | .const _=>true
 | _=>false
def Ix (op:BinOp) (t:TypeId) (y:Operand):Option TC:=
 match op with
 | .eql | .neq=>
  match P.underlying t with
  | some (.int _)=>some .other
  | some .string=>some .other
  | some .bool=>some .bool
  | some (.struct _)=>(BN P t).map .struct
  | some (.pointer _)=>some .ptr
  | some (.slice _)=>some .slice
  | some (.func _ _ _)=>some .func
  | some (.interface _)=>if xN y then some .iface else none
  | _=>none
 | _=>some .other
def Z2 (t:TypeId):Bool:=
 match P.underlying t with
 | some (.struct fs)=>
  match fs.toList with
  | [f,g]=>
   match P.underlying f.type,P.underlying g.type with
   | some (.pointer e),some (.slice b)=>decide (e=t)&&decide (b=AP)
   | _,_=>false
  | _=>false
 | _=>false
def Xr (c:Call):Option pj:=
 match c.callee with
 | .value f=>do
  let f ←eg P nm 0 f
  if c.args.size=c.argTypes.size then
   let args ←(c.args.toList.zip c.argTypes.toList).mapM fun x=>p9 P nm h x.2 x.1
   let ls:=match f with | .f n=>(h.anN.lookup n).getD [] | _=>[]
   pure (.call f (args.zipIdx.map fun x=>(ls.contains x.2,x.1)))
  else none
 | .builtin .len=>
  match c.args.toList,c.argTypes.toList with
  | [x],[t]=>match P.underlying t with
   | some .string=>(eg P nm t x).map (.len true)
   | some (.slice _)=>(eg P nm t x).map (.len false)
   | _=>none
  | _,_=>none
 | .builtin .append=>
  match c.args.toList,c.argTypes.toList with
  | [x,y],[t,u]=>match P.underlying t with
   | some (.slice e)=>do
    let i ←P.info? e
    let _ ←pW P e
    let x ←p9 P nm h t x
    match P.underlying u with
    | some (.slice _)=>do let y ←p9 P nm h u y;if i.size=0∨i.bytes=0 then none else pure (if aiU (P.underlying e) then .Be i.size (w5 e i.bytes) x y else .app i.size (w5 e i.bytes) x y)
    | some .string=>do let y ←eg P nm u y;if i.size=1∧i.bytes=1∧FQ (P.underlying e)=true∧e=AP then pure (.Bb x y) else none
    | _=>none
   | _=>none
  | _,_=>none
 | .builtin .unsafeSliceData=>
  match c.args.toList,c.argTypes.toList with
  | [x],[t]=>(eg P nm t x).map .TI
  | _,_=>none
 | .builtin .unsafeString=>
  match c.args.toList,c.argTypes.toList with
  | [x,y],[t,u]=>
   match P.underlying t with
   | some (.pointer e)=>if e=AP∧P.cellsOf e=1 then do let x ←eg P nm t x;let y ←eg P nm u y;pure (.Um x y) else none
   | _=>none
  | _,_=>none
 | .builtin .min=>
  match c.args.toList,c.argTypes.toList with
  | [x,y],[t,u]=>do let x ←eg P nm t x;let y ←eg P nm u y;pure (.min x y)
  | _,_=>none
 | .builtin .max=>
  match c.args.toList,c.argTypes.toList with
  | [x,y],[t,u]=>do let x ←eg P nm t x;let y ←eg P nm u y;pure (.max x y)
  | _,_=>none
 | _=>none
def OD (fs:Array Field) (p:Nat×Operand):Option (Nat×Nat×X):=
 match fs[p.1]? with
 | some f=>
  match jP P f.type,p9 P nm h f.type p.2 with
  | some n,some x=>if n=0 then none else some (f.offset,n,x)
  | _,_=>none
 | none=>none
def IA (e:TypeId) (p:Nat×Operand):Option (Nat×X):=(p9 P nm h e p.2).map fun x=>(p.1,x)
def zf (o:Oper):Option pj:=
 match o.op with
 | .move x=>(p9 P nm h o.type x).map .Ly
 | .assign x=>(p9 P nm h o.type x).map .Ly
 | .pick c a b=>do let c ←eg P nm 0 c;let a ←eg P nm o.type a;let b ←eg P nm o.type b;pure (.pick c a b)
 | .alloc e=>do
  let z ←pW P e
  if Z2 P e=true then
   match z with
   | [.cE,_]=>some (.NI e z)
   | _=>none
  else some (.alloc z)
 | .box e v=>do let n ←jP P e;let x ←p9 P nm h e v;if n=0 then none else if Z2 P e=true then pure (.N0 e n x) else pure (.box n x)
 | .build t parts=>do
  let z ←pW P t
  match P.underlying t with
  | some (.struct fs)=>if (fs.toList.all fun f=>(jP P f.type).isSome)=true then (parts.toList.mapM (OD P nm h fs)).map (.build z) else none
  | _=>none
 | .buildSlice t len parts=>do
  match P.underlying t with
  | some (.slice e)=>do
   let z ←pW P e
   match na z with
   | some row=>if len * z.length > 2 ^ 24∨z.length=0∨(tw row=true∧e≠AP) then none else (parts.toList.mapM (IA P nm h e)).map (.N1 z.length (List.replicate len row))
   | none=>do
    let ps ←parts.toList.mapM (IA P nm h e)
    if z.length=1∧len≤2 ^ 24∧ps.map (·.1)=List.range len then pure (.Pr (ps.map (·.2))) else none
  | _=>none
 | .load t a=>do let n ←sf P t;let x ←eg P nm 0 a;if n.1=0 then none else pure (.load n.1 n.2 x)
 | .store t a v=>do let n ←jP P t;let x ←eg P nm 0 a;let v ←p9 P nm h t v;if n=0 then none else pure (.store (match a with | .tmp i=>h.res.contains i | _=>false) n x v)
 | .nilCheck x=>(eg P nm 0 x).map .Sj
 | .binOp op t x y _=>do
  let tc ←Ix P op t y
  let x' ←eg P nm t x
  let y' ←eg P nm t y
  pure (.bin tc op x' y')
 | .unOp op t x=>(eg P nm t x).map (.un op)
 | .convert s d x=>do
  let x' ←eg P nm s x
  match P.underlying s,P.underlying d with
  | some (.int _),some (.int k)=>pure (.conv (.int k) x')
  | some .string,some .string=>pure (.conv .same x')
  | some .string,some (.slice e)=>if FQ (P.underlying e)=true∧e=AP then pure (.conv .Ub x') else none
  | some (.slice e),some .string=>if FQ (P.underlying e)=true then pure (.conv .Ij x') else none
  | _,_=>none
 | .makeFunc (.func f) a b=>do
  let f ←(nm f).bind fun n=>if n < kM then some n else none
  let a ←a.toList.mapM (eg P nm 0)
  let b ←b.toList.mapM (eg P nm 0)
  pure (.R6 f a b)
 | .makeSlice t l c=>
  match P.underlying t with
  | some (.slice e)=>do
   let i ←P.info? e
   let z ←pW P e
   let row ←na z
   let l ←eg P nm 0 l
   let c ←eg P nm 0 c
   if i.size=0 then none else pure (.R9 i.size (w5 e i.bytes) row l c)
  | _=>none
 | .slice t x lo hi mx=>do
  let x ←eg P nm t x
  let lo ←(match lo with | none=>some none | some v=>(eg P nm 0 v).map some)
  let hi ←(match hi with | none=>some none | some v=>(eg P nm 0 v).map some)
  let mx ←(match mx with | none=>some none | some v=>(eg P nm 0 v).map some)
  match P.underlying t with
  | some .string=>if mx.isSome then none else pure (.TV x lo hi)
  | some (.slice e)=>do let n ←jP P e;if n=0∨(mx.isSome∧hi.isNone) then none else pure (.slice n x lo hi mx)
  | _=>none
 | .fieldAddr s x f=>
  match P.underlying s with
  | some (.struct fs)=>do
   let f ←fs[f]?
   let n ←jP P f.type
   let x ←eg P nm 0 x
   if n=0 then none else pure (.Pm f.offset x)
  | _=>none
 | .field t x f=>
  match P.underlying t with
  | some (.struct fs)=>do
   let f ←fs[f]?
   let n ←sf P f.type
   let x ←eg P nm t x
   pure (.field f.offset n.1 n.2 x)
  | _=>none
 | .indexAddr t x i=>
  match P.underlying t with
  | some (.slice e)=>do let n ←jP P e;let x ←eg P nm t x;let i ←eg P nm 0 i;if n=0 then none else pure (.Re n x i)
  | some (.array k e)=>do let n ←jP P e;let x ←eg P nm 0 x;let i ←eg P nm 0 i;if n=0 then none else pure (.Rf k n x i)
  | _=>none
 | .index t x i=>
  match P.underlying t with
  | some .string=>do let x ←eg P nm t x;let i ←eg P nm 0 i;pure (.index x i)
  | _=>none
 | .extract x j=>(eg P nm 0 x).map (.extract j)
 | .makeInterface t x=>
  match P.underlying t with
  | some (.interface _)=>none
  | some _=>(eg P nm t x).map .R7
  | none=>none
 | .makeMap t r=>
  match P.underlying t with
  | some (.map k e)=>if FP (P.underlying k)=true∧Rh (P.underlying e)=true∧r.isNone=true∧o.dst.isSome=true then some .R8 else none
  | _=>none
 | .lookup t m k ok=>
  match P.underlying t with
  | some (.map kt e)=>do let m ←eg P nm t m;let k ←eg P nm kt k;if FP (P.underlying kt)=true∧Rh (P.underlying e)=true∧M8 P e=true∧ok=false then pure (.R5 m k) else none
  | _=>none
 | .mapUpdate t m k v=>
  match P.underlying t with
  | some (.map kt e)=>do let m ←eg P nm t m;let k ←eg P nm kt k;let v ←eg P nm e v;if FP (P.underlying kt)=true∧Rh (P.underlying e)=true then pure (.Sb m k v) else none
  | _=>none
 | .call c=>Xr P nm h c
 | _=>none
def unordered (ops:Array Oper):List (Nat×Nat):=
 let b:=Region.before ops
 (List.range ops.size).flatMap fun j=>(List.range j).filterMap fun i=>
  if (b.getD j 0).testBit i then none else some (i,j)
def IK (ops:Array Oper):Bool:=
 (List.range ops.size).all fun i=>((ops[i]?).map fun o=>o.after.all fun e=>!Region.binds .any e||decide (e.on < i)).getD false
def IB (ops:Array Oper) (o:Oper):Option gy:=
 if (o.dst.all fun d=>decide (d < h.nt))=true then
  match o.guard with
  | none=>some ⟨o.dst,(zf P nm h o).getD .bad,none⟩
  | some (j,b)=>
   match (ops[j]?).bind (·.dst) with
   | some d=>some ⟨o.dst,(zf P nm h o).getD .bad,some (d,b)⟩
   | none=>none
 else none
def EA (ops:Array Oper):Option (List gy):=ops.toList.mapM (IB P nm h ops)
def Qr (l:List (Nat×(Option (List Nat)×Bool))) (id:Nat):Option (List Nat)×Bool:=
 match l with
 | []=>(none,false)
 | x::t=>if x.1=id then x.2 else Qr t id
def mZ:Code→Option mc
 | .skip=>some .skip
 | .region id ops draw=>do
  let l ←EA P nm h ops
  if draw=true∧IK ops=false then none else
  pure (.iZ (Qr h.acL id).1 (Qr h.acL id).2 l (if draw then some (unordered ops) else none))
 | .seq a b=>do let x ←mZ a;let y ←mZ b;pure (.seq x y)
 | .cond c a b=>do let c ←eg P nm 0 c;let x ←mZ a;let y ←mZ b;pure (.cond c x y)
 | .block id b=>(mZ b).map (.block id)
 | .loop b=>(mZ b).map .loop
 | .exit id=>some (.exit id)
 | .ret=>some .ret
 | _=>some (.iZ none false [⟨none,.bad,none⟩] none)
def vb:ResultVar→Option RV
 | .tmp t=>some (.slot t)
 | .cell a t=>do let n ←sf P t;pure (.cell a n.1 n.2)
def Ez (f:Func) (forget:Bool):Option lp:=do
 let c ←f.body
 if h.nt≠f.ntmps then none else
 let b ←mZ P nm h c
 let rs ←f.results.toList.mapM (vb P)
 pure ⟨f.ntmps,rs,b,forget⟩
end
end
section
def AW (dst:Option Nat) (x:V) (ws:List Wr):List Wr:=
 match dst with
 | some d=>{ k:=.s d,v:=x } :: ws
 | none=>ws
def dR (nm:FuncId→Option Nat) (N:Nat) (S:St) (w0:World) (L0:aw) (a:Act) (dst:Option Nat) (x:V) (ws:List Wr) (v:Value) (w':World):Prop:=
 ∃L',oq nm N (S.ah (AW dst x ws)) w0 L0 (a.put dst v) w' L'
def dw (P:Program) (a:Act) (w:World) (o:Oper) (R:Value→World→Prop):Prop:=
 match (execOp a.eval o).run P w with
 | .ok (.value v) w'=>R v w'
 | .ok .skip w'=>R undef w'
 | .ok (.enter f args) w'=>Calls P f args w' fun e tE=>∃v,e = .returned v∧R v tE
 | .ok (.row row args) w'=>Rows P row args w' R
 | _=>False
theorem dw.wp {P:Program} {a:Act} {w:World} {o:Oper} {R:Value→World→Prop} (h:dw P a w o R) {next:Act→World→Prop} {Q:Exit→Act→World→Prop}
  (hr:∀v w',R v w'→next (a.put o.dst v) w'):o.wp P a w next Q:=by
 unfold dw at h;unfold Oper.wp;generalize (execOp a.eval o).run P w=r at h ⊢;cases r with
 | ok n w'=>
  cases n<;>simp only [Oper.upon] at h ⊢<;>first
   | exact h.elim
   | exact hr _ _ h
   | exact Rows.mono h (fun v tE=>hr v tE)
   | exact Calls.mono h (fun e tE=>by rintro ⟨v,rfl,hR⟩;exact hr v tE hR)
 | halt x w'=>simp only at h
section
variable {nm:FuncId→Option Nat} {N:Nat} {S:St} {a:Act} {w:World} {L:aw} {P:Program} {o:Oper}
theorem dw.val {R:Value→World→Prop} {v:Value} {w':World} (h:(execOp a.eval o).run P w = .ok (.value v) w') (hr:R v w'):dw P a w o R:=by
 unfold dw;rw [h];exact hr
theorem dw.skip {R:Value→World→Prop} {w':World} (h:(execOp a.eval o).run P w = .ok .skip w') (hr:R undef w'):dw P a w o R:=by
 unfold dw;rw [h];exact hr
def By:Place→Option Place:=fun q=>if q.k.aT=true then some q else none
theorem af3 {q q' t:Place} (h1:By q=some t) (h2:By q'=some t):q=q':=by
 unfold By at h1 h2;split at h1
 ·split at h2
  ·simp only [aj] at h1 h2;rw [h1,h2]
  ·cases h2
 ·cases h1
theorem Rel.fZ {S0:St} {ws:List Wr} {w':World} {L':aw} {w0:World} {L0:aw} (R:Rel nm N (S0.ah ws) a w' L') (hm:df w0 w' L0 L') {dst:Option Nat} (hd:∀d,dst=some d→d < N) {m:Nat} {x:V} {v:Value}
  (hv:bD nm w' L' (S0.ah ws).γ (.h m) x v):dR nm N S0 w0 L0 a dst x ws v w':=by
 cases dst with
 | some d=>
  obtain ⟨L2,h1,h2,h3,_⟩:=R.adC (hd d rfl) hv;exact ⟨L2,h1,hm.trans h3,h2⟩
 | none=>
  refine ⟨cI By L',R.wz (fun q hq=>by simp [By,hq]) (fun q q' t h1 h2=>af3 h1 h2),hm.trans (G9 _),?_⟩;intro B q o hB;obtain ⟨q0,_,h2⟩:=oY hB;unfold By at h2;split at h2
  ·rename_i h3;simp only [aj] at h2;rw [←h2];exact h3
  ·cases h2
theorem execOp_builtin {b:Builtin} {args:Array Operand} {ts:Array TypeId} (ho:o.op = .call ⟨.builtin b,args,ts⟩) (ρ:Operand→Value) :
  execOp ρ o=builtin b ts o.type (args.map fun | .const _=>true | _=>false) (args.map ρ):=by
 unfold execOp;simp only [ho];unfold resolve;simp only;rfl
theorem wD {s:Sem Value} {v:Value} {w':World} (h:s.run P w = .ok v w'):(do pure (Next.value (←s)):Sem Next).run P w = .ok (.value v) w':=by
 simp [h]
theorem fk (R:Rel nm N S a w L) (hd:∀d,o.dst=some d→d < N) {x:V} {v:Value} (h:(execOp a.eval o).run P w = .ok (.value v) w) (hv:bD nm w L S.γ (.h 0) x v) :
  dw P a w o (dR nm N S w L a o.dst x []):=
 .val h (Rel.fZ (ws:=[]) R (df.refl w L) hd hv)
theorem IE {sz:Nat} {v:Value} {c:C} (h:Bw sz v=some c):(∀(w:World) (L:aw) (γ:Key→Nat) (k:Key) (j:Nat),aF nm w L γ k j c v)∧c.own=false:=by
 unfold Bw at h;split at h
 ·cases h;exact ⟨fun _ _ _ _ _=>.d (.plain .int),rfl⟩
 ·cases h;exact ⟨fun _ _ _ _ _=>.d (.plain .bool),rfl⟩
 ·cases h;exact ⟨fun _ _ _ _ _=>.d (.plain .str),rfl⟩
 ·cases h;exact ⟨fun _ _ _ _ _=>.d (.plain .nil),rfl⟩
 ·cases h;exact ⟨fun _ _ _ _ _=>.cE,rfl⟩
 ·cases h;exact ⟨fun _ _ _ _ _=>.eX,rfl⟩
 ·cases h;exact ⟨fun _ _ _ _ _=>.fR,rfl⟩
 ·cases h
theorem eQ {t:TypeId} {x:Operand} {X:X} (h:eg P nm t x=some X):bT nm X x∧X.iL=true:=by
 cases x with
 | tmp i=>simp only [eg,aj] at h;subst h;exact ⟨.s,rfl⟩
 | const v=>
  simp only [eg,OF] at h;cases hc:Bw ((O6 P t).getD 0) v with
  | none=>simp [hc] at h
  | some c=>
   simp only [hc,ff,aj] at h;subst h;exact ⟨.c fun w L γ k=>.one ((IE hc).1 w L γ k 0),by simp [X.iL,V.own,V.cells,(IE (nm:=nm) hc).2]⟩
 | func f=>
  simp only [eg] at h;cases hf:nm f with
  | none=>simp [hf] at h
  | some n=>
   simp only [hf,Option.bind_some] at h;split at h
   ·rename_i ht;simp only [aj] at h;subst h;exact ⟨.f hf ht,rfl⟩
   ·cases h
 | global g=>simp [eg] at h
theorem vd {hh:Hint} {t:TypeId} {x:Operand} {X:X} (h:p9 P nm hh t x=some X):bT nm X x∧X.iL=true:=by
 cases x with
 | tmp i=>
  simp only [p9,aj] at h;subst h;split
  ·exact ⟨.t,rfl⟩
  ·exact ⟨.s,rfl⟩
 | const v=>exact eQ (P:=P) (t:=t) h
 | func f=>exact eQ (P:=P) (t:=t) h
 | global g=>simp [p9] at h
theorem rd_val (R:Rel nm N S a w L) {x:Operand} {X:X} (h:bT nm X x) {v:V} (hr:(rd X).run S=some v):bD nm w L S.γ (.h 0) v (a.eval x):=acI R h hr (.h 0)
theorem bD.cQ {γ:Key→Nat} {k:Key} {c:C} {v:Value} (h:bD nm w L γ k (.one c) v):aF nm w L γ k 0 c v:=by cases h with | one h=>exact h
theorem aF.rk {γ:Key→Nat} {k:Key} {j:Nat} {kk:IntKind} {n:Int} {v:Value} (h:aF nm w L γ k j (.d (.int kk n)) v):v = .int kk n:=by
 cases h with | d h=>cases h with | plain h=>cases h;rfl
theorem aF.sj {γ:Key→Nat} {k:Key} {j:Nat} {b:Bool} {v:Value} (h:aF nm w L γ k j (.d (.bool b)) v):v = .bool b:=by
 cases h with | d h=>cases h with | plain h=>cases h;rfl
theorem aF.rQ {γ:Key→Nat} {k:Key} {j:Nat} {b:List UInt8} {v:Value} (h:aF nm w L γ k j (.d (.str b)) v):v = .string ⟨b.toArray⟩:=by
 cases h with | d h=>cases h with | plain h=>cases h;rfl
theorem wY {γ:Key→Nat} {k:Key} {x:V} {n:Nat} {v:Value} (h:bD nm w L γ k x v) (hn:asNat x=some n):∃kk,v = .int kk n:=by
 unfold asNat at hn;split at hn
 ·rename_i kk m;split at hn
  ·rename_i h0;simp only [aj] at hn;refine ⟨kk,?_⟩;rw [h.cQ.rk,←hn,Int.toNat_of_nonneg h0]
  ·cases hn
 ·cases hn
theorem Q.aK {α β:Type} {x:Q α} {f:α→Q β} {r:β} (h:(x >>= f).run S=some r):∃a,x.run S=some a∧(f a).run S=some r:=by
 rw [Q.run_bind] at h;cases hx:x.run S with
 | none=>simp [hx] at h
 | some a=>exact ⟨a,rfl,by simpa [hx] using h⟩
theorem Q.en {α:Type} {b:Bool} {f:Unit→Q α} {r:α} (h:(Q.guard b >>= f).run S=some r):b=true∧(f ()).run S=some r:=by
 obtain ⟨u,h1,h2⟩:=Q.aK h;rw [Q.lH] at h1;split at h1
 ·exact ⟨‹_›,h2⟩
 ·cases h1
theorem Q.gx {α β:Type} {x:Option α} {f:α→Q β} {r:β} (h:(Q.dr x >>= f).run S=some r):∃y,x=some y∧(f y).run S=some r:=by
 obtain ⟨u,h1,h2⟩:=Q.aK h;rw [Q.yA] at h1;exact ⟨u,h1,h2⟩
theorem Q.ny {β:Type} {k:Key} {f:mV→Q β} {r:β} (h:(Q.at_ k >>= f).run S=some r):(f (S.get k)).run S=some r:=by
 obtain ⟨u,h1,h2⟩:=Q.aK h;simp only [Q.uL,aj] at h1;rw [h1];exact h2
theorem Q.aZ {α:Type} {x r:α} (h:(pure x:Q α).run S=some r):r=x:=by simpa using h.symm
end
end
section
section
variable {nm:FuncId→Option Nat} {N:Nat} {S:St} {a:Act} {w:World} {L:aw} {P:Program} {o:Oper} {Cl:bX} {d:Nat} {r:V×List Wr}
theorem Bk (s:List UInt8):(⟨s.toArray⟩:ByteArray).size=s.length:=by
 show s.toArray.size=s.length;simp
theorem aiA (R:Rel nm N S a w L) (hd:∀d,o.dst=some d→d < N) {x:Operand} {X:ax.X} (hx:bT nm X x) (ho:o.op = .nilCheck x) (hr:(bp Cl d (.Sj X)).run S=some r) :
  dw P a w o (dR nm N S w L a o.dst r.1 r.2):=by
 simp only [bp] at hr;obtain ⟨v,h1,h2⟩:=Q.aK hr;have hv:=rd_val R hx h1;have run:∀(u:Value),a.eval x=u→(∃ad,u = .pointer (some ad))∨(∃f b c,u = .func (.func f) b c)→(execOp a.eval o).run P w = .ok (.value (a.eval x)) w:=by
  intro u hu h;rcases h with ⟨ad,rfl⟩ | ⟨f,b,c,rfl⟩<;>simp [execOp,ho,hu]
 split at h2
 ·obtain rfl:=Q.aZ h2;refine fk R hd (run _ rfl (.inl ?_)) hv;cases hv.cQ with | ptr hv=>exact hv
 ·obtain rfl:=Q.aZ h2;refine fk R hd (run _ rfl (.inl ?_)) hv;cases hv.cQ with | eD hv=>exact hv
 ·obtain rfl:=Q.aZ h2;refine fk R hd (run _ rfl (.inl ?_)) hv;generalize a.eval x=u at hv;cases hv.cQ with | pp=>exact ⟨_,rfl⟩
 ·obtain ⟨jI,h2⟩:=Q.en h2;have jI:=JO jI;obtain rfl:=Q.aZ h2;refine fk R hd (run _ rfl (.inr ?_)) hv;generalize a.eval x=u at hv;cases hv.cQ with
  | fn=>exact ⟨_,_,_,rfl⟩
  | fns val hf=>exfalso;rcases hf with ⟨h,_⟩ | ⟨h,_⟩<;>omega
 ·cases h2
theorem aiB (R:Rel nm N S a w L) (hd:∀d,o.dst=some d→d < N) {c x y:Operand} {C' X Y:ax.X} (hc:bT nm C' c) (hx:bT nm X x) (hy:bT nm Y y) (ho:o.op = .pick c x y) (hr:(bp Cl d (.pick C' X Y)).run S=some r) :
  dw P a w o (dR nm N S w L a o.dst r.1 r.2):=by
 simp only [bp] at hr;obtain ⟨v,h1,h2⟩:=Q.aK hr;have hv:=rd_val R hc h1;split at h2
 ·obtain ⟨v2,h3,h4⟩:=Q.aK h2;obtain rfl:=Q.aZ h4;exact fk R hd (by simp [execOp,ho,hv.cQ.sj,asBool]) (rd_val R hx h3)
 ·obtain ⟨v2,h3,h4⟩:=Q.aK h2;obtain rfl:=Q.aZ h4;exact fk R hd (by simp [execOp,ho,hv.cQ.sj,asBool]) (rd_val R hy h3)
 ·cases h2
theorem Ye (R:Rel nm N S a w L) (hd:∀d,o.dst=some d→d < N) {x:Operand} {X:ax.X} {t:TypeId} {str:Bool} (hx:bT nm X x) (ho:o.op = .call ⟨.builtin .len,#[x],#[t]⟩)
  (ht:if str=true then P.underlying t=some .string else ∃e,P.underlying t=some (.slice e)) (hr:(bp Cl d (.len str X)).run S=some r) :
  dw P a w o (dR nm N S w L a o.dst r.1 r.2):=by
 cases str with
 | true=>
  simp only [bW] at ht;simp only [bp] at hr;obtain ⟨v,h1,h2⟩:=Q.aK hr;have hv:=rd_val R hx h1;split at h2
  ·rename_i s;obtain rfl:=Q.aZ h2;refine fk R hd (v:=.int .i64 s.length) ?_ (.one (.d (.plain .int)));rw [execOp_builtin ho,show (#[x]:Array Operand).map a.eval = #[a.eval x] from by simp];refine wD ?_;show (Builtin.len_ #[t] _ #[a.eval x]).run P w=_;rw [hv.cQ.rQ];simp [Builtin.len_,run_underlying ht,goInt,Bk]
  ·cases h2
 | false=>
  simp only [r6,dF] at ht;obtain ⟨e,ht⟩:=ht;simp only [bp] at hr;obtain ⟨v,h1,h2⟩:=Q.aK hr;have hv:=rd_val R hx h1;have run:∀(n:Nat),(∃b c,a.eval x = .slice b n c)→(execOp a.eval o).run P w = .ok (.value (.int .i64 n)) w:=by
   rintro n ⟨b,c,hb⟩;rw [execOp_builtin ho,show (#[x]:Array Operand).map a.eval = #[a.eval x] from by simp];refine wD ?_;show (Builtin.len_ #[t] _ #[a.eval x]).run P w=_;rw [hb];simp [Builtin.len_,run_underlying ht,goInt]
  split at h2
  ·rename_i t' sz rows;obtain rfl:=Q.aZ h2;refine fk R hd (run rows.length ?_) (.one (.d (.plain .int)));generalize a.eval x=u at hv;cases hv.cQ with
   | d h=>
    cases h with
    | plain h=>
     cases h with
     | nil=>exact ⟨_,_,rfl⟩
     | mL=>exact ⟨_,_,rfl⟩
     | pl=>exact ⟨_,_,rfl⟩
    | jl=>exact ⟨_,_,rfl⟩
    | own=>exact ⟨_,_,rfl⟩
  ·rename_i pl g sz off len;obtain rfl:=Q.aZ h2;refine fk R hd (run len ?_) (.one (.d (.plain .int)));generalize a.eval x=u at hv;cases hv.cQ with
   | view hv=>obtain ⟨b,c,rfl,_⟩:=hv;exact ⟨_,_,rfl⟩
  ·rename_i t0 f0 l0;obtain ⟨l',hl,h2⟩:=Q.gx h2;obtain ⟨rfl,rfl,rfl⟩:=C.fn.inj (Po hl);obtain rfl:=Q.aZ h2;refine fk R hd (run l0.length ?_) (.one (.d (.plain .int)));obtain ⟨B,o',cap,cur,e',fz,val,hf,_⟩:=hv.cQ.Pp (bV _);rcases hf with ⟨_,h,_⟩ | ⟨h,_⟩
   ·exact ⟨_,_,h⟩
   ·exact absurd h (by decide)
  ·cases h2
end
end
section
section
variable {nm:FuncId→Option Nat} {N:Nat} {S:St} {a:Act} {w:World} {L:aw} {P:Program} {o:Oper} {Cl:bX} {d:Nat} {r:V×List Wr}
theorem VE {t:TypeId} {n:Nat} {agg:Bool} (h:sf P t=some (n,agg)):∃i dd,P.info? t=some i∧P.underlying t=some dd∧i.size=n∧Eg dd=agg:=by
 unfold sf at h;split at h
 ·rename_i i dd h1 h2;simp only [aj,fK] at h;exact ⟨i,dd,h1,h2,h.1,h.2⟩
 ·cases h
theorem ac7 {t:TypeId} {n:Nat} {agg:Bool} (h:sf P t=some (n,agg)) (w:World):(isAgg t).run P w = .ok agg w:=by
 obtain ⟨i,dd,h1,h2,h3,h4⟩:=VE h;subst h4;unfold isAgg;rw [Sem.run_bind,run_underlying h2,Result.andThen_ok];cases dd<;>rfl
theorem run_sizeOf {t:TypeId} {n:Nat} {agg:Bool} (h:sf P t=some (n,agg)) (w:World):(sizeOf t).run P w = .ok n w:=by
 obtain ⟨i,dd,h1,h2,h3,h4⟩:=VE h;simp [sizeOf,typeInfo,h1,h3]
theorem yB {t:TypeId} {n:Nat} (h:jP P t=some n) (w:World):(sizeOf t).run P w = .ok n w:=by
 unfold jP at h;cases hi:P.info? t with
 | none=>simp [hi] at h
 | some i=>
  simp only [hi,ff,aj] at h;simp [sizeOf,typeInfo,hi,h]
def wM (agg:Bool) (vs:List Value):Value:=if agg then .agg vs.toArray else vs.headD undef
theorem TG {t:TypeId} {n:Nat} {agg:Bool} (h:sf P t=some (n,agg)) {B o:Nat} {vs:List Value} (hn:vs.length=n) (h1:agg=false→n=1) (hc:∀j v,vs[j]? = some v→w.cell? ⟨B,o+j,none⟩=some v) :
  (loadVar t ⟨B,o,none⟩).run P w = .ok (wM agg vs) w:=by
 unfold loadVar;rw [Sem.run_bind,ac7 h,Result.andThen_ok];cases agg with
 | true=>
  have:=run_loadCells_list (P:=P) w ⟨B,o,none⟩ vs (fun j v hv=>by rw [ov];exact hc j v hv);simp [run_sizeOf h,←hn,this,wM]
 | false=>
  have oG:=h1 rfl;cases vs with
  | nil=>simp at hn;omega
  | cons v t=>
   have:=hc 0 v rfl;simp only [jn] at this;simp [this,wM]
theorem xY {k:Key} {γ:Key→Nat} {agg:Bool} {cs:List C} {x:V} {vs:List Value} (h:(lY agg cs).run S=some x) (hl:cs.length=vs.length)
  (hc:∀j c v,cs[j]? = some c→vs[j]? = some v→aF nm w L γ k j c v):bD nm w L γ k x (wM agg vs)∧(agg=false→cs.length=1):=by
 unfold lY at h;cases agg with
 | true=>
  simp only [bW,Q.run_pure,aj] at h;subst h;exact ⟨.agg (by simpa using hl) (fun j c u h1 h2=>hc j c u h1 (by simpa using h2)),by simp⟩
 | false=>
  simp only [r6,dF] at h;split at h
  ·rename_i c;simp only [Q.run_pure,aj] at h;subst h;cases vs with
   | nil=>simp at hl
   | cons v t=>exact ⟨.one (hc 0 c v rfl rfl),fun _=>rfl⟩
  ·simp at h
theorem Mm {r:aI}:∀(n c:Nat) {cs:List C},(wv r c n).run S=some cs→cs.length=n∧∀j,j < n→∃x,S.E (.b r (c+j)) = .one x∧cs[j]? = some (x.look (.b r (c+j)) (S.γ (.b r (c+j))) 0)
 | 0,c,cs,h=>by
  simp only [wv,Q.run_pure,aj] at h;subst h;exact ⟨rfl,fun j hj=>by omega⟩
 | n+1,c,cs,h=>by
  simp only [wv] at h;have h:=Q.ny h;split at h
  ·rename_i x hx;obtain ⟨t,h1,h2⟩:=Q.aK h;obtain rfl:=Q.aZ h2;obtain ⟨g1,g2⟩:=Mm n (c+1) h1;refine ⟨by simp [g1],fun j hj=>?_⟩;cases j with
   | zero=>exact ⟨x,hx,rfl⟩
   | succ j=>
    obtain ⟨y,g3,g4⟩:=g2 j (by omega);refine ⟨y,by rw [show c+(j+1)=c+1+j by omega];exact g3,?_⟩;rw [show c+(j+1)=c+1+j by omega];simpa using g4
  ·cases h
theorem aa7 (pl:Place) (g i:Nat):∀(row:List D) (c j:Nat),(rB pl g i c row)[j]? = (row[j]?).map fun x=>RT (pl.sub i (c+j)) g x
 | [],c,j=>by simp [rB]
 | x::t,c,0=>by simp [rB]
 | x::t,c,j+1=>by
  simp only [rB,yL];rw [aa7 pl g i t (c+1) j,show c+1+j=c+(j+1) by omega]
theorem aa8 (pl:Place) (g i:Nat):∀(row:List D) (c:Nat),(rB pl g i c row).length=row.length
 | [],_=>rfl
 | x::t,c=>by simp [rB,aa8 pl g i t]
theorem SM (R:Rel nm N S a w L) {pl:Place} (hk:pl.k.aT=true) {g sz:Nat} {res:mV×D×List (List D)} (h:(jw [] pl g sz).run S=some res) :
  g=S.γ pl.k∧∃u,br w L pl (.sl .own sz res.2.2) u:=by
 obtain ⟨h1,h2,h3,h4⟩:=uF h;have M:=ch.init R;exact ⟨h2,M.Bi hk h3 h4⟩
theorem aov {pl:Place} {γ:Key→Nat} {x:D} {v:Value} {k:Key} {j:Nat} (hk:pl.k.aT=true) (h:br w L pl x v) :
  aF nm w L γ k j (RT pl (γ pl.k) x) v:=by
 have own:∀{sz:Nat} {rows:List (List D)} {v:Value},br w L pl (.sl .own sz rows) v→aF nm w L γ k j (.view pl (γ pl.k) sz 0 rows.length) v:=by
  intro sz rows v h;refine .view h.adB hk (bV _) (fun _=>?_);rcases h.nX with ⟨rfl,a,rfl⟩ | ⟨B,o,cap,cur,e,fz,val,rfl,bf,hL,hB,cU,fO,dN,dI,cr,hr,ec⟩
  ·exact .inl ⟨rfl,a,rfl⟩
  ·exact .inr ⟨B,o,cap,cur,e,fz,by simp,bf,hL,hB,cU,dN,by omega,fun _ h0=>ec (.inr (pZ.1 h0))⟩
 cases x with
 | sl t sz rows=>
  cases t with
  | own=>exact own h
  | im b=>cases h with | plain h=>exact .d (.plain h)
 | _=>cases h with | plain h=>exact .d (.plain h)
theorem air (R:Rel nm N S a w L) (hd:∀d,o.dst=some d→d < N) {x:Operand} {X:ax.X} {t:TypeId} {n:Nat} {agg:Bool} (hx:bT nm X x) (ho:o.op = .load t x) (ht:sf P t=some (n,agg))
  (hr:(bp Cl d (.load n agg X)).run S=some r):dw P a w o (dR nm N S w L a o.dst r.1 r.2):=by
 simp only [bp] at hr;obtain ⟨v,h1,h2⟩:=Q.aK hr;have hv:=rd_val R hx h1;have run:∀(B o':Nat) (vs:List Value),a.eval x = .pointer (some ⟨B,o',none⟩)→vs.length=n→(agg=false→n=1)→(∀j v,vs[j]? = some v→w.cell? ⟨B,o'+j,none⟩=some v)→
   (execOp a.eval o).run P w = .ok (.value (wM agg vs)) w:=by
  intro B o' vs hb hn h1 hc;have:=TG ht hn h1 hc;simp [execOp,ho,hb,Instr.loadAt,Instr.sureAddr,this]
 split at h2
 ·
  rename_i r0 g c;have h2:=Q.ny h2;obtain ⟨hg,h2⟩:=Q.en h2;simp only [bK,nJ,eW,fB] at hg;obtain ⟨⟨hG,hg⟩,B9⟩:=hg;obtain ⟨cs,h3,h2⟩:=Q.aK h2;obtain ⟨x',h4,h2⟩:=Q.aK h2;obtain rfl:=Q.aZ h2;obtain ⟨hlen,E6⟩:=Mm n c h3;cases hv.cQ with
  | ptr iJ gu hp=>
   obtain ⟨B,o',hB,cr⟩:=hp hg.symm;by_cases nS:n=0
   ·
    subst nS;have eE:cs=[]:=pZ.1 hlen;subst eE;obtain ⟨hm,Cg⟩:=xY (nm:=nm) (w:=w) (L:=L) (γ:=S.γ) (k:=.h 0) (vs:=[]) h4 rfl (fun j c v h=>by simp at h);exact fk R hd (run B (o'+c) [] cr rfl (fun h=>by have:=Cg h;simp at this) (fun j v h=>by simp at h)) hm
   obtain ⟨B',eY,cur,e,fz,k1,k2,k3,k4⟩:=R.room r0 hG (by have:c+n≤cp (S.E (.r r0)):=B9;omega);obtain rfl:=R.fE B' B r0 eY o' k1 hB;obtain rfl:eY=o':=by rw [k1] at hB;simpa using hB
   have ajs:c+n≤cp (S.E (.r r0)):=B9;let vs:=(List.range n).map fun j=>cur.getD (eY+c+j) undef
   have kU:∀j v,vs[j]? = some v→j < n∧cur[eY+c+j]? = some v:=by
    intro j v jt;simp only [vs,bQ] at jt;have hj:j < n:=by
     rcases yQ j n with h | h
     ·exact h
     ·simp [pY,h] at jt
    have af:eY+c+j < cur.size:=by omega
    simp [hj,Array.getD,af] at jt;exact ⟨hj,by simp [af,jt]⟩
   have pG:vs.length=n:=by simp [vs]
   have hm := xY (nm := nm) (w := w) (L := L) (γ := S.γ) (k := .h 0) (vs := vs) h4 (by rw [hlen, pG]) (by
     intro j c1 v1 dH nU
     obtain ⟨hj, zF⟩ := kU j v1 nU
     obtain ⟨y, zX, xI⟩ := E6 j hj
     rw [dH] at xI
     simp only [aj] at xI
     subst xI
     by_cases jh : y = .dead
     · subst jh; exact .dead
     · have oJ := R.cell r0 (c + j) y zX jh
       have : ∃ B o cur e fz v, L B = some (.box r0 o) ∧ w.heap[B]? = some (.cells cur e fz) ∧ jD cur.size fz ∧ cur[o + (c + j)]? = some v ∧ aF nm w L S.γ (.b r0 (c + j)) 0 y v := by
         cases r0 with
         | g i => simp [aI.iW] at hG
         | e i => obtain ⟨B, o, cur, e, fz, v, q1, q2, q3, q4, q5, _⟩ := oJ; exact ⟨B, o, cur, e, fz, v, q1, q2, q3, q4, q5⟩
         | l i => obtain ⟨B, o, cur, e, fz, v, q1, q2, q3, q4, q5, _⟩ := oJ; exact ⟨B, o, cur, e, fz, v, q1, q2, q3, q4, q5⟩
       obtain ⟨B2, o2, iG, e2, lr, v2, a1, a2, a3, a4, a5⟩ := this
       obtain rfl := R.fE B2 B' r0 o2 eY a1 k1
       obtain rfl : o2 = eY := by rw [a1] at k1; simpa using k1
       obtain ⟨rfl, rfl, rfl⟩ : iG = cur ∧ e2 = e ∧ lr = fz := by rw [a2] at k2; simpa using k2
       rw [← p5, zF] at a4
       simp only [aj] at a4
       subst a4
       exact a5.look rfl _ _)
   refine fk R hd (run B' (eY+c) vs cr pG (fun h=>by rw [←hlen];exact hm.2 h) (fun j v h=>?_)) hm.1;rw [qZ k2];exact (kU j v h).2
 ·
  rename_i cells;obtain ⟨hg,h2⟩:=Q.en h2;simp only [fB] at hg;obtain ⟨x',h4,h2⟩:=Q.aK h2;obtain rfl:=Q.aZ h2;have gJ:=hv.cQ;generalize q9:a.eval x=u at gJ;cases gJ with
  | @pp _ B o' cur e fz hL hB hp=>
   have hj:∀j,j < n→∃y u,cells[j]? = some y∧cur[o'+j]? = some u∧fL w L y u:=by
    intro j hj;obtain ⟨u,g1,g2⟩:=hp j (cells[j]'(by omega)) (by simp);exact ⟨_,u,by simp,g1,g2⟩
   let vs:=(List.range n).map fun j=>cur.getD (o'+j) undef
   have pG:vs.length=n:=by simp [vs]
   have kU:∀j v,vs[j]? = some v→j < n∧cur[o'+j]? = some v:=by
    intro j v jt;simp only [vs,bQ] at jt;have nP:j < n:=by
     rcases yQ j n with h | h
     ·exact h
     ·simp [pY,h] at jt
    obtain ⟨y,u,_,g1,_⟩:=hj j nP;simp [nP,iB,g1] at jt;exact ⟨nP,by rw [g1,jt]⟩
   have hm := xY (nm := nm) (w := w) (L := L) (γ := S.γ) (k := .h 0) (vs := vs) h4 (by simp [pG]; omega) (by
     intro j c1 v1 dH nU
     obtain ⟨nP, zF⟩ := kU j v1 nU
     obtain ⟨y, u, g0, g1, g2⟩ := hj j nP
     rw [zF] at g1
     simp only [aj] at g1
     subst g1
     simp only [bQ, yN nP, g0, ff, aj] at dH
     subst dH
     exact .d (.plain g2))
   refine fk R hd (run B o' vs q9 pG (fun h=>?_) (fun j v h=>?_)) hm.1
   ·have:=hm.2 h;simp at this;omega
   ·rw [qZ hB];exact (kU j v h).2
 ·
  rename_i pl g sz i c;obtain ⟨res,h3,h2⟩:=Q.aK h2;obtain ⟨row,c6,h2⟩:=Q.gx h2;obtain ⟨hg,h2⟩:=Q.en h2;simp only [fB] at hg;obtain ⟨x',h4,h2⟩:=Q.aK h2;obtain rfl:=Q.aZ h2;cases hv.cQ with
  | eD iJ hh gu hp=>
   obtain ⟨jW,u,hu⟩:=SM R hh h3;obtain ⟨B,o',hB,cr⟩:=hp jW;rcases hu.nX with ⟨mw,_⟩ | ⟨B',eY,cap,cur,e,fz,val,_,bf,fh,dD,cU,fO,dN,dI,Ct,dP,ec⟩
   ·rw [mw] at c6;simp at c6
   obtain rfl:=R.eM B' B pl eY o' fh hB;obtain rfl:eY=o':=by rw [fh] at hB;simpa using hB
   have gC:row.length=sz:=fO row (fp c6);have hj:∀j,j < n→∃y,row[c+j]? = some y∧cellOf res.2.2 i (c+j)=some y:=by
    intro j hj;refine ⟨row[c+j]'(by omega),by simp,kK.2 ⟨row,c6,by simp⟩⟩
   let vs:=(List.range n).map fun j=>val i (c+j)
   have pG:vs.length=n:=by simp [vs]
   have kU:∀j v,vs[j]? = some v→j < n∧v=val i (c+j):=by
    intro j v jt;simp only [vs,bQ] at jt;have nP:j < n:=by
     rcases yQ j n with h | h
     ·exact h
     ·simp [pY,h] at jt
    simp [nP] at jt;exact ⟨nP,jt.symm⟩
   have gg:(rB pl g i c ((row.drop c).take n)).length=n:=by rw [aa8];simp;omega
   have hm := xY (nm := nm) (w := w) (L := L) (γ := S.γ) (k := .h 0) (vs := vs) h4 (by rw [gg, pG]) (by
     intro j c1 v1 dH nU
     obtain ⟨nP, rfl⟩ := kU j v1 nU
     obtain ⟨y, g0, g1⟩ := hj j nP
     rw [aa7, yN nP, tH, g0] at dH
     simp only [ff, aj] at dH
     have := aov (nm := nm) (γ := S.γ) (k := .h 0) (j := j) (pl := pl.sub i (c + j)) hh (dP i (c + j) y g1)
     have ku : S.γ (pl.sub i (c + j)).k = g := jW.symm
     rw [ku] at this
     rw [← dH]
     exact this)
   refine fk R hd (run B' (eY+i * sz+c) vs cr pG (fun h=>?_) (fun j v h=>?_)) hm.1
   ·have:=hm.2 h;rw [gg] at this;exact this
   ·obtain ⟨nP,rfl⟩:=kU j v h;obtain ⟨y,g0,g1⟩:=hj j nP;rw [qZ dD];have:=Ct i (c+j) y g1;rwa [←p5] at this
 ·
  rename_i t0 f0 l0;obtain ⟨l',hl,h2⟩:=Q.gx h2;obtain ⟨rfl,rfl,rfl⟩:=C.fn.inj (Po hl);obtain ⟨hg,h2⟩:=Q.en h2;have Qz:l0.length=n:=by simpa using hg
  obtain ⟨x',h4,h2⟩:=Q.aK h2;obtain rfl:=Q.aZ h2;obtain ⟨B,o',cap,cur,e',fz,val,hf,hL,hB,aS,oQ,dP⟩:=hv.cQ.Pp (by omega);rcases hf with ⟨h,_⟩ | ⟨_,cr⟩
  ·exact absurd h (by decide)
  ·let vs:=(List.range n).map val;have pG:vs.length=n:=by simp [vs]
   have kU:∀j v,vs[j]? = some v→j < n∧v=val j:=by
    intro j v jt;simp only [vs,bQ] at jt;rcases yQ j n with hj | hj
    ·rw [HE hj] at jt;simp only [ff,aj] at jt;exact ⟨hj,jt.symm⟩
    ·simp [pY,hj] at jt
   have hm := xY (nm := nm) (w := w) (L := L) (γ := S.γ) (k := .h 0) (vs := vs) h4 (by rw [pG, Qz]) (by
     intro j c1 v1 dH nU
     obtain ⟨nP, rfl⟩ := kU j v1 nU
     exact (dP j c1 dH).any (ko aS dH) _ _)
   refine fk R hd (run B o' vs cr pG (fun h=>?_) (fun j v h=>?_)) hm.1
   ·have:=hm.2 h;omega
   ·obtain ⟨nP,rfl⟩:=kU j v h;rw [qZ hB];exact oQ j (by omega)
 ·cases h2
end
end
section
section
variable {nm:FuncId→Option Nat} {N:Nat} {S:St} {a:Act} {w:World} {L:aw} {P:Program} {o:Oper} {Cl:bX} {d:Nat} {r:V×List Wr}
theorem aim (R:Rel nm N S a w L) (hd:∀d,o.dst=some d→d < N) {x:Operand} {X:ax.X} {s:TypeId} {i:Nat} {fs:Array Field} {f:Field} {n:Nat} (hx:bT nm X x) (ho:o.op = .fieldAddr s x i)
  (hs:P.underlying s=some (.struct fs)) (hf:fs[i]? = some f) (hn:jP P f.type=some n) (nS:n≠0) (hr:(bp Cl d (.Pm f.offset X)).run S=some r) :
  dw P a w o (dR nm N S w L a o.dst r.1 r.2):=by
 simp only [bp] at hr;obtain ⟨v,h1,h2⟩:=Q.aK hr;clear hr;have hv:=rd_val R hx h1;have run:∀ad:Addr,a.eval x = .pointer (some ad)→(execOp a.eval o).run P w = .ok (.value (.pointer (some (ad.add f.offset)))) w:=by
  intro ad hb;have:(Instr.fieldAt s (a.eval x) i).run P w = .ok (.pointer (some (ad.add f.offset))) w:=by
   rw [hb];simp [Instr.fieldAt,run_underlying hs,hf,Instr.sureAddr,fieldPlace,yB hn,nS]
  simp [execOp,ho,this]
 split at h2
 ·rename_i r0 g c;obtain rfl:=Q.aZ h2;cases hv.cQ with
  | ptr iJ hg h=>
   obtain ⟨ad,xn⟩:=iJ;refine fk R hd (run ad xn) (.one (.ptr ⟨_,rfl⟩ hg (fun he=>?_)));obtain ⟨B,o',hB,hb⟩:=h he;rw [xn] at hb;simp only [Value.pointer.injEq,aj] at hb;subst hb;exact ⟨B,o',hB,by rw [ov,p5]⟩
 ·rename_i cells;obtain rfl:=Q.aZ h2;have gJ:=hv.cQ;generalize q9:a.eval x=u at gJ;cases gJ with
  | @pp _ B o' cur e fz hL hB hp=>
   refine fk R hd (run _ q9) ?_;rw [ov];refine .one (.pp hL hB ?_);intro q y hq;rw [tH] at hq;have:=hp (f.offset+q) y hq;rwa [←p5] at this
 ·rename_i pl g sz j c;obtain rfl:=Q.aZ h2;cases hv.cQ with
  | eD iJ hh hg h=>
   obtain ⟨ad,xn⟩:=iJ;refine fk R hd (run ad xn) (.one (.eD ⟨_,rfl⟩ hh hg (fun he=>?_)));obtain ⟨B,o',hB,hb⟩:=h he;rw [xn] at hb;simp only [Value.pointer.injEq,aj] at hb;subst hb;exact ⟨B,o',hB,by rw [ov,p5]⟩
 ·cases h2
theorem bD.NH {γ:Key→Nat} {k:Key} {cs:List C} {v:Value} (h:bD nm w L γ k (.agg cs) v):∃vs:Array Value,v = .agg vs∧cs.length=vs.size∧∀(j:Nat) c u,cs[j]? = some c→vs[j]? = some u→aF nm w L γ k j c u:=by
 cases h with | agg hl h=>exact ⟨_,rfl,hl,h⟩
theorem aF.at_ {γ:Key→Nat} {k k':Key} {j j':Nat} {c:C} {v:Value} (h:aF nm w L γ k j c v) (hc:c.own=false):aF nm w L γ k' j' c v:=h.any (h.va hc) k' j'
theorem ail (R:Rel nm N S a w L) (hd:∀d,o.dst=some d→d < N) {x:Operand} {X:ax.X} {s:TypeId} {i:Nat} {fs:Array Field} {f:Field} {n:Nat} {agg:Bool} (hx:bT nm X x) (aQ:X.iL=true) (ho:o.op = .field s x i)
  (hs:P.underlying s=some (.struct fs)) (hf:fs[i]? = some f) (hn:sf P f.type=some (n,agg)) (hr:(bp Cl d (.field f.offset n agg X)).run S=some r) :
  dw P a w o (dR nm N S w L a o.dst r.1 r.2):=by
 simp only [bp] at hr;obtain ⟨v,h1,h2⟩:=Q.aK hr;clear hr;have hv:=rd_val R hx h1;have aS:=Ml aQ h1;split at h2
 ·rename_i cs;obtain ⟨hg,nO⟩:=Q.en h2;clear h2;have h2:=nO;clear nO
  simp only [fB] at hg;obtain ⟨x',h4,h2⟩:=Q.aK h2;obtain rfl:=Q.aZ h2;obtain ⟨vs,kU,hl,hc⟩:=hv.NH;let us:=(vs.toList.drop f.offset).take n;have ZU:us.length=n:=by simp [us];omega
  have hm := xY (nm := nm) (w := w) (L := L) (γ := S.γ) (k := .h 0) (vs := us) h4 (by rw [ZU]; simp; omega) (by
    intro j c1 v1 dH nU
    have hj : j < n := by rw [← ZU]; exact (cA.1 nU).1
    simp only [us] at nU
    rw [yN hj, tH] at dH nU
    exact (hc (f.offset + j) c1 v1 dH (by simpa using nU)).at_ (LZ aS dH))
  refine fk R hd (v:=wM agg us) ?_ hm.1;have:(Instr.field s (a.eval x) i).run P w = .ok (wM agg us) w:=by
   rw [kU];simp only [Instr.field,Sem.run_bind,run_underlying hs,Result.andThen_ok,hf,asAgg,Sem.run_pure,part,ac7 hn];cases agg with
   | true=>
    simp only [bW,Sem.run_bind,run_sizeOf hn,Result.andThen_ok,Sem.run_pure,wM];congr 2;apply r5;simp [us,List.drop_take]
   | false=>
    have lz:n=1:=by have:=hm.2 rfl;simp at this;omega
    subst lz;have af:f.offset < vs.size:=by omega
    have:vs[f.offset]? = some vs[f.offset]:=by simp [af]
    simp only [r6,dF,this,Sem.run_pure,wM];congr 1;have cq:vs.toList.drop f.offset=vs[f.offset]::vs.toList.drop (f.offset+1):=by
     rw [tG (by simpa using af)];simp
    simp [us,cq]
  simp [execOp,ho,this]
 ·cases h2
theorem aik (R:Rel nm N S a w L) (hd:∀d,o.dst=some d→d < N) {x:Operand} {X:ax.X} {j:Nat} (hx:bT nm X x) (ho:o.op = .extract x j) (hr:(bp Cl d (.extract j X)).run S=some r) :
  dw P a w o (dR nm N S w L a o.dst r.1 r.2):=by
 simp only [bp] at hr;obtain ⟨v,h1,h2⟩:=Q.aK hr;clear hr;have hv:=rd_val R hx h1;split at h2
 ·rename_i vs;obtain ⟨y,hy,h2⟩:=Q.gx h2;obtain rfl:=Q.aZ h2;generalize q9:a.eval x=u at hv;cases hv with
  | @aq _ us hl aS h=>
   have hj:j < us.size:=by rw [←hl];exact (cA.1 hy).1
   refine fk R hd (v:=us[j]) ?_ (h j y us[j] hy (by simp [hj]));have:us[j]? = some us[j]:=by simp [hj]
   simp [execOp,ho,q9,Instr.extract,this]
 ·cases h2
theorem aio (R:Rel nm N S a w L) (hd:∀d,o.dst=some d→d < N) {x i:Operand} {X I:ax.X} {t:TypeId} (hx:bT nm X x) (hi:bT nm I i) (ho:o.op = .index t x i) (ht:P.underlying t=some .string)
  (hr:(bp Cl d (.index X I)).run S=some r):dw P a w o (dR nm N S w L a o.dst r.1 r.2):=by
 simp only [bp] at hr;obtain ⟨v,h1,eV⟩:=Q.aK hr;clear hr;have hr:=eV;clear eV
 have hv:=rd_val R hx h1;obtain ⟨vi,h3,eV⟩:=Q.aK hr;clear hr;have hr:=eV;clear eV
 obtain ⟨n,hn,h2⟩:=Q.gx hr;clear hr;obtain ⟨kk,FK⟩:=wY (rd_val R hi h3) hn;split at h2
 ·rename_i s;obtain ⟨b,hb,h2⟩:=Q.gx h2;obtain rfl:=Q.aZ h2;refine fk R hd (v:=.int .u8 b.toNat) ?_ (.one (.d (.plain .int)));have hs:=hv.cQ.rQ;have af:=(cA.1 hb).1;have vt:(⟨s.toArray⟩:ByteArray)[n]? = some b:=by
   have h2:n < (⟨s.toArray⟩:ByteArray).size:=by rw [Bk];exact af
   obtain ⟨_,he⟩:=cA.1 hb;rw [show (⟨s.toArray⟩:ByteArray)[n]? = some ((⟨s.toArray⟩:ByteArray)[n]'h2) from by simp [h2]];rw [←he];rfl
  have:(Instr.index t (a.eval x) (a.eval i)).run P w = .ok (.int .u8 b.toNat) w:=by
   rw [hs,FK];simp [Instr.index,asIntOf,run_underlying ht,vt]
  simp [execOp,ho,this]
 ·cases h2
theorem aiw (R:Rel nm N S a w L) (hd:∀d,o.dst=some d→d < N) {x:Operand} {X:ax.X} {t:TypeId} {dd:TypeDesc} (ho:o.op = .makeInterface t x) (ht:P.underlying t=some dd) (vx:∀m,dd≠.interface m)
  (hr:(bp Cl d (.R7 X)).run S=some r):dw P a w o (dR nm N S w L a o.dst r.1 r.2):=by
 simp only [bp] at hr;obtain rfl:=Q.aZ hr;refine fk R hd (v:=.iface t (a.eval x)) ?_ (.one .fj);have:(Instr.makeInterface t (a.eval x)).run P w = .ok (.iface t (a.eval x)) w:=by
  unfold Instr.makeInterface;rw [Sem.run_bind,run_underlying ht,Result.andThen_ok];cases dd<;>first | rfl | exact absurd rfl (vx _)
 simp [execOp,ho,this]
theorem aiu (R:Rel nm N S a w L) (hd:∀d,o.dst=some d→d < N) {x y:Operand} {X Y:ax.X} {ts:Array TypeId} (hx:bT nm X x) (hy:bT nm Y y) (ho:o.op = .call ⟨.builtin .min,#[x,y],ts⟩)
  (hr:(bp Cl d (.min X Y)).run S=some r):dw P a w o (dR nm N S w L a o.dst r.1 r.2):=by
 simp only [bp] at hr;obtain ⟨v,h1,eV⟩:=Q.aK hr;clear hr;have hr:=eV;clear eV
 obtain ⟨v2,h3,h2⟩:=Q.aK hr;clear hr;split at h2
 ·rename_i k m k' n;obtain rfl:=Q.aZ h2;refine fk R hd (v:=.int k (if n < m then n else m)) ?_ (.one (.d (.plain .int)));rw [execOp_builtin ho,show (#[x,y]:Array Operand).map a.eval = #[a.eval x,a.eval y] from by simp];refine wD ?_;show (Builtin.min_ ts _ #[a.eval x,a.eval y]).run P w=_;rw [(rd_val R hx h1).cQ.rk,(rd_val R hy h3).cQ.rk];simp [Builtin.min_,Builtin.min2]
 ·cases h2
theorem ais (R:Rel nm N S a w L) (hd:∀d,o.dst=some d→d < N) {x y:Operand} {X Y:ax.X} {ts:Array TypeId} (hx:bT nm X x) (hy:bT nm Y y) (ho:o.op = .call ⟨.builtin .max,#[x,y],ts⟩)
  (hr:(bp Cl d (.max X Y)).run S=some r):dw P a w o (dR nm N S w L a o.dst r.1 r.2):=by
 simp only [bp] at hr;obtain ⟨v,h1,eV⟩:=Q.aK hr;clear hr;have hr:=eV;clear eV
 obtain ⟨v2,h3,h2⟩:=Q.aK hr;clear hr;split at h2
 ·rename_i k m k' n;obtain rfl:=Q.aZ h2;refine fk R hd (v:=.int k (if n > m then n else m)) ?_ (.one (.d (.plain .int)));rw [execOp_builtin ho,show (#[x,y]:Array Operand).map a.eval = #[a.eval x,a.eval y] from by simp];refine wD ?_;show (Builtin.max_ ts _ #[a.eval x,a.eval y]).run P w=_;rw [(rd_val R hx h1).cQ.rk,(rd_val R hy h3).cQ.rk];simp [Builtin.max_,Builtin.max2]
 ·cases h2
theorem aiq (R:Rel nm N S a w L) (hd:∀d,o.dst=some d→d < N) {x i:Operand} {X I:ax.X} {t e:TypeId} {k sz:Nat} (hx:bT nm X x) (hi:bT nm I i) (ho:o.op = .indexAddr t x i)
  (ht:P.underlying t=some (.array k e)) (hs:jP P e=some sz) (hr:(bp Cl d (.Rf k sz X I)).run S=some r):dw P a w o (dR nm N S w L a o.dst r.1 r.2):=by
 simp only [bp] at hr;obtain ⟨v,h1,eV⟩:=Q.aK hr;clear hr;have hr:=eV;clear eV
 have hv:=rd_val R hx h1;obtain ⟨vi,h3,eV⟩:=Q.aK hr;clear hr;have hr:=eV;clear eV
 obtain ⟨n,hn,h2⟩:=Q.gx hr;clear hr;obtain ⟨kk,FK⟩:=wY (rd_val R hi h3) hn;obtain ⟨af,nO⟩:=Q.en h2;clear h2;have h2:=nO;clear nO
 simp only [fB] at af;split at h2
 ·rename_i r0 g c;obtain rfl:=Q.aZ h2;cases hv.cQ with
  | ptr iJ hg h=>
   obtain ⟨ad,xn⟩:=iJ;have:(Instr.indexAt t (a.eval x) (a.eval i)).run P w = .ok (.pointer (some (ad.add (n * sz)))) w:=by
    rw [xn,FK];have vC:¬ k≤n:=by omega
    simp [Instr.indexAt,asIntOf,run_underlying ht,Instr.sureAddr,yB hs,af]
   refine fk R hd (by simp [execOp,ho,this];rfl) (.one (.ptr ⟨_,rfl⟩ hg (fun he=>?_)));obtain ⟨B,o',hB,hb⟩:=h he;rw [xn] at hb;simp only [Value.pointer.injEq,aj] at hb;subst hb;exact ⟨B,o',hB,by rw [ov,p5]⟩
 ·cases h2
theorem aip (R:Rel nm N S a w L) (hd:∀d,o.dst=some d→d < N) {x i:Operand} {X I:ax.X} {t e:TypeId} {sz:Nat} (hx:bT nm X x) (hi:bT nm I i) (ho:o.op = .indexAddr t x i)
  (ht:P.underlying t=some (.slice e)) (hs:jP P e=some sz) (hr:(bp Cl d (.Re sz X I)).run S=some r):dw P a w o (dR nm N S w L a o.dst r.1 r.2):=by
 simp only [bp] at hr;obtain ⟨v,h1,eV⟩:=Q.aK hr;clear hr;have hr:=eV;clear eV
 have hv:=rd_val R hx h1;obtain ⟨vi,h3,eV⟩:=Q.aK hr;clear hr;have hr:=eV;clear eV
 obtain ⟨n,hn,h2⟩:=Q.gx hr;clear hr;obtain ⟨kk,FK⟩:=wY (rd_val R hi h3) hn;have run:∀(ad:Addr) (len cap:Nat),a.eval x = .slice (some ad) len cap→n < len→(execOp a.eval o).run P w = .ok (.value (.pointer (some (ad.add (n * sz))))) w:=by
  intro ad len cap hb af;have:(Instr.indexAt t (a.eval x) (a.eval i)).run P w = .ok (.pointer (some (ad.add (n * sz)))) w:=by
   rw [hb,FK];simp [Instr.indexAt,asIntOf,run_underlying ht,yB hs,af]
  simp [execOp,ho,this]
 split at h2
 ·cases h2
 ·rename_i t' cu rows sM;obtain ⟨hg,nO⟩:=Q.en h2;clear h2;have h2:=nO;clear nO
  simp only [eW] at hg;subst hg;obtain ⟨row,c6,h2⟩:=Q.gx h2;obtain rfl:=Q.aZ h2;have gJ:=hv.cQ;generalize q9:a.eval x=u at gJ;cases gJ with
  | d h=>
   cases h with
   | plain h=>
    cases h with
    | nil=>simp at c6
    | mL=>simp at c6
    | @pl cu rows B o' cap cur e' fz val aA bf P4 hL hB hlen oQ dP=>
     have af:=(cA.1 c6).1;refine fk R hd (run ⟨B,o',none⟩ rows.length cap q9 af) ?_;rw [ov];refine .one (.pp hL hB ?_);intro q y hq;have hc:cellOf rows n q=some y:=kK.2 ⟨row,c6,hq⟩;exact ⟨val n q,oQ n q y hc,dP n q y hc⟩
   | jl=>simp at c6
   | own=>simp at sM
 ·rename_i pl g cu off len;obtain ⟨hg,nO⟩:=Q.en h2;clear h2;have h2:=nO;clear nO
  simp only [bK,eW,fB] at hg;obtain ⟨rfl,af⟩:=hg;obtain rfl:=Q.aZ h2;cases hv.cQ with
  | view iJ hh gu h=>
   obtain ⟨b,c,hb,uk,qi⟩:=iJ;have ajo:b.isSome=true:=qi;obtain ⟨ad,rfl⟩:=yS.1 ajo;refine fk R hd (run ad len c hb af) (.one (.eD ⟨_,rfl⟩ hh gu (fun he=>?_)));rcases h he with ⟨h0,_⟩ | ⟨B,o',cap,cur,e',fz,cr,bf,hL,hB,_⟩
   ·omega
   ·rw [hb] at cr;simp only [Value.slice.injEq,aj,ll] at cr;obtain ⟨rfl,_⟩:=cr;exact ⟨B,o',hL,by rw [ov,lN,jn,p5]⟩
 ·rename_i t0 f0 l0;obtain ⟨l',hl,nO⟩:=Q.gx h2;clear h2;obtain ⟨rfl,rfl,rfl⟩:=C.fn.inj (Po hl);obtain ⟨hg,h2⟩:=Q.en nO;clear nO;obtain ⟨c,hc,h2⟩:=Q.gx h2;obtain rfl:=Q.aZ h2;have bf:sz=1:=by simpa using hg
  subst bf;obtain ⟨B,o',cap,cur,e',fz,val,hf,hL,hB,aS,oQ,dP⟩:=hv.cQ.Pp (bV _);have af:=(cA.1 hc).1;rcases hf with ⟨_,h,_⟩ | ⟨h,_⟩
  ·refine fk R hd (run _ _ _ h af) ?_;rw [ov];refine .one (.fns (B:=B) (o:=o'+n * 1) (cap:=0) (fun i=>val (n+i)) (.inr ⟨rfl,rfl⟩) hL hB (by simp [jo,ko aS hc]) ?_ ?_)
   ·intro i hi;have hi0:i=0:=by simpa using hi
    subst hi0;have:=oQ n af;simpa using this
   ·intro i x hx;cases i with
    | zero=>
     simp only [kE,aj] at hx;subst hx;exact dP n c hc
    | succ i=>simp at hx
  ·exact absurd h (by decide)
 ·cases h2
end
end
section
section
variable {nm:FuncId→Option Nat} {N:Nat} {S:St} {a:Act} {w:World} {L:aw} {P:Program} {o:Oper} {Cl:bX} {d:Nat} {r:V×List Wr}
theorem aiJ {op:BinOp} {t yt:TypeId} {x y:Operand} (ho:o.op = .binOp op t x y yt) (hg:(eqGuard op t x y (a.eval x) (a.eval y)).run P w = .ok () w) {v:Value} (hb:(binOp op t (a.eval x) (a.eval y)).run P w = .ok v w) :
  (execOp a.eval o).run P w = .ok (.value v) w:=by
 simp [execOp,ho,hg,hb]
theorem EE {op:BinOp} {t:TypeId} {x y:Operand} {u v:Value} (h1:∀p q,u = .agg p→v = .agg q→False) (h2:u = .nilIface→v = .nilIface→(xN x=true∨xN y=true)) :
  (eqGuard op t x y u v).run P w = .ok () w:=by
 unfold eqGuard;by_cases ho:op = .eql∨op = .neq
 ·have hm:(match op with | .eql=>true | .neq=>true | _=>false)=true:=by rcases ho with rfl | rfl<;>rfl
  rcases ho with rfl | rfl;all_goals
   simp only [UU,r6,dF]
   cases u<;>cases v<;>first
    | rfl
    | exact (h1 _ _ rfl rfl).elim
    | (rcases h2 rfl rfl with hc | hc
       · cases x <;> simp_all [xN]
       · cases y <;> simp_all [xN])
 ·have oG:op≠.eql:=fun e=>ho (.inl e)
  have nO:op≠.neq:=fun e=>ho (.inr e)
  cases op<;>first | rfl | exact absurd rfl oG | exact absurd rfl nO
theorem aki {op:BinOp} {k:IntKind} {x y:Int} {t:TypeId} {z:D} (h:Cz op k x y=some z) (kx:op≠.shl) (lS:op≠.shr):∃v,(binOp op t (.int k x) (.int k y)).run P w = .ok v w∧fL w L z v:=by
 cases op;case add=>cases h;exact ⟨_,by simp [binOp,Op.intArith],.int⟩
 case sub=>cases h;exact ⟨_,by simp [binOp,Op.intArith],.int⟩
 case mul=>cases h;exact ⟨_,by simp [binOp,Op.intArith],.int⟩
 case and=>cases h;exact ⟨_,by simp [binOp,Op.intBits],.int⟩
 case or=>cases h;exact ⟨_,by simp [binOp,Op.intBits],.int⟩
 case xor=>cases h;exact ⟨_,by simp [binOp,Op.intBits],.int⟩
 case andNot=>cases h;exact ⟨_,by simp [binOp,Op.intBits],.int⟩
 case eql=>cases h;exact ⟨_,by simp [binOp,Op.intCmp],.bool⟩
 case neq=>cases h;exact ⟨_,by simp [binOp,Op.intCmp],.bool⟩
 case lss=>cases h;exact ⟨.bool (decide (x < y)),by simp [binOp,Op.intCmp],.bool⟩
 case leq=>cases h;exact ⟨.bool (decide (x≤y)),by simp [binOp,Op.intCmp],.bool⟩
 case gtr=>cases h;exact ⟨.bool (decide (x > y)),by simp [binOp,Op.intCmp],.bool⟩
 case geq=>cases h;exact ⟨.bool (decide (x≥y)),by simp [binOp,Op.intCmp],.bool⟩
 case quo=>
  simp only [Cz] at h;split at h
  ·cases h
  ·rename_i hy;cases h;exact ⟨_,by simp [binOp,Op.intDiv,hy],.int⟩
 case rem=>
  simp only [Cz] at h;split at h
  ·cases h
  ·rename_i hy;cases h;exact ⟨_,by simp [binOp,Op.intDiv,hy],.int⟩
 case shl=>exact absurd rfl kx
 case shr=>exact absurd rfl lS
theorem adz {op:BinOp} (ho:op = .shl∨op = .shr) {k k':IntKind} {x y:Int} {t:TypeId} {z:D} (h:DH op k x y=some z):∃v,(binOp op t (.int k x) (.int k' y)).run P w = .ok v w∧fL w L z v:=by
 unfold DH at h;split at h
 ·cases h
 ·rename_i hy;rcases ho with rfl | rfl
  ·simp only [aj] at h;subst h;exact ⟨_,by simp only [binOp,Op.shift,hy,dF];rfl,.int⟩
  ·simp only [aj] at h;subst h;exact ⟨_,by simp only [binOp,Op.shift,hy,dF];rfl,.int⟩
theorem afv (x y:List UInt8):(⟨x.toArray⟩:ByteArray)++⟨y.toArray⟩=⟨(x++y).toArray⟩:=by
 apply ByteArray.ext;simp [ByteArray.data_append]
theorem Eo:∀x y:List UInt8,Op.bytesLess x y=bytesLess x y
 | [],[]=>rfl
 | _::_,[]=>rfl
 | [],_::_=>rfl
 | a::x,b::y=>by simp [Op.bytesLess,bytesLess,Eo x y]
theorem ap1 {op:BinOp} {x y:List UInt8} {t:TypeId} {z:D} (h:Hl op x y=some z):∃v,(binOp op t (.string ⟨x.toArray⟩) (.string ⟨y.toArray⟩)).run P w = .ok v w∧fL w L z v:=by
 cases op;case add=>
  simp only [Hl] at h;split at h
  ·rename_i hl;cases h;refine ⟨.string ⟨(x++y).toArray⟩,?_,.str⟩;have h1:¬ (9223372036854775807 < (x.length:Int)+(y.length:Int)):=by omega
   have h2:IntKind.i64.max=9223372036854775807:=by decide
   simp [binOp,Op.stringOp,Bk,afv,h2,h1]
  ·cases h
 case eql=>cases h;exact ⟨.bool (x==y),by simp [binOp,Op.stringOp],.bool⟩
 case neq=>cases h;exact ⟨.bool (!(x==y)),by simp [binOp,Op.stringOp],.bool⟩
 case lss=>cases h;exact ⟨.bool (bytesLess x y),by simp [binOp,Op.stringOp,Eo],.bool⟩
 case leq=>cases h;exact ⟨.bool (bytesLess x y||x==y),by simp [binOp,Op.stringOp,Eo],.bool⟩
 case gtr=>cases h;exact ⟨.bool (!(bytesLess x y||x==y)),by simp [binOp,Op.stringOp,Eo],.bool⟩
 case geq=>cases h;exact ⟨.bool (!bytesLess x y),by simp [binOp,Op.stringOp,Eo],.bool⟩
 all_goals simp [Hl] at h
theorem Gx {α β:Type} {x:Option α} {f:α→β} {r:β} (h:x.map f=some r):∃y,x=some y∧r=f y:=by
 cases x with
 | none=>cases h
 | some y=>exact ⟨y,rfl,by simpa using h.symm⟩
theorem XZ {γ:Key→Nat} {k:Key} {i:Nat} {f:Field} {x:Fl} {l:List Fl} {c c':C} {t t':List C} {u u':Value} {b:Bool} (hx:EO P f=some x) (he:dB (x::l) (c::t) (c'::t')=some b)
  (r1:aF nm w L γ k i c u) (r2:aF nm w L γ k i c' u'):∃b1 b2,(∀n,(Op.equalIn (n+1) f.type u u').run P w = .ok b1 w)∧dB l t t'=some b2∧b=(b1&&b2)∧f.name≠"_"∧∃dd,P.underlying f.type=some dd∧Eg dd=false:=by
 have mu:f.name≠"_" := by
  intro e;simp [EO,e] at hx
 simp only [EO,mu,dF] at hx;split at hx
 ·rename_i kk xF;cases hx;cases c<;>(try (simp [dB] at he;done))
  rename_i z;cases z<;>(try (simp [dB] at he;done))
  cases c'<;>(try (simp [dB] at he;done))
  rename_i z;cases z<;>(try (simp [dB] at he;done))
  rename_i k1 n1 k2 n2;simp only [dB] at he;split at he
  ·rename_i hk;subst hk;cases hb:dB l t t' with
   | none=>simp [hb] at he
   | some b2=>
    simp only [hb,ff,aj] at he;refine ⟨_,b2,fun n=>?_,rfl,he.symm,mu,_,xF,rfl⟩;rw [r1.rk,r2.rk];exact run_equalIn_int w n f.type k1 kk n1 n2 xF
  ·cases he
 ·rename_i xF;cases hx;cases c<;>(try (simp [dB] at he;done))
  rename_i z;cases z<;>(try (simp [dB] at he;done))
  cases c'<;>(try (simp [dB] at he;done))
  rename_i z;cases z<;>(try (simp [dB] at he;done))
  rename_i n1 n2;simp only [dB] at he;cases hb:dB l t t' with
  | none=>simp [hb] at he
  | some b2=>
   simp only [hb,ff,aj] at he;refine ⟨_,b2,fun n=>?_,rfl,he.symm,mu,_,xF,rfl⟩;rw [r1.sj,r2.sj];exact run_equalIn_bool' w n f.type n1 n2 xF
 ·rename_i xF;cases hx;cases c<;>(try (simp [dB] at he;done))
  rename_i z;cases z<;>(try (simp [dB] at he;done))
  cases c'<;>(try (simp [dB] at he;done))
  rename_i z;cases z<;>(try (simp [dB] at he;done))
  rename_i n1 n2;simp only [dB] at he;cases hb:dB l t t' with
  | none=>simp [hb] at he
  | some b2=>
   simp only [hb,ff,aj] at he;refine ⟨n1==n2,b2,fun n=>?_,rfl,he.symm,mu,_,xF,rfl⟩;rw [r1.rQ,r2.rQ,run_equalIn_string w n f.type _ _ xF];simp
 ·cases hx
theorem O8 {x:Fl} {l:List Fl} {s t:List C} {b:Bool} (h:dB (x::l) s t=some b):∃c s' c' t',s=c::s'∧t=c'::t':=by
 cases s with
 | nil=>cases x<;>simp [dB] at h
 | cons c s=>
  cases t with
  | nil=>cases x<;>cases c<;>(try (rename_i z;cases z))<;>simp [dB] at h
  | cons c' t=>exact ⟨c,s,c',t,rfl,rfl⟩
theorem drop_cons {α:Type} {cs t:List α} {c:α} {i:Nat} (h:cs.drop i=c::t):cs[i]? = some c∧cs.drop (i+1)=t∧i < cs.length:=by
 have h1:cs[i]? = some c:=by have:=fU (·[0]?) h;simpa [tH] using this
 exact ⟨h1,by rw [←U1,h];rfl,(cA.1 h1).1⟩
theorem L5 {f:Field} {dd:TypeDesc} {xs:Array Value} {u:Value} (vx:P.underlying f.type=some dd) (zC:Eg dd=false) (hu:xs[f.offset]? = some u):(part f.type xs f.offset).run P w = .ok u w:=by
 have vz:(isAgg f.type).run P w = .ok false w:=by
  unfold isAgg;rw [Sem.run_bind,run_underlying vx,Result.andThen_ok];cases dd<;>first | rfl | simp [Eg] at zC
 simp [part,vz,hu]
theorem X0 {n:Nat} {γ:Key→Nat} {k:Key} {xs ys:Array Value} {cs ds:List C} {o:Nat} (eE:∀(j:Nat) c u,cs[j]? = some c→xs[j]? = some u→aF nm w L γ k (o+j) c u) (zH:∀(j:Nat) c u,ds[j]? = some c→ys[j]? = some u→aF nm w L γ k (o+j) c u)
  (uk:cs.length=xs.size) (Fo:ds.length=ys.size):∀(fs:List Field) (i:Nat) {fl:List Fl} {b:Bool},EP P i fs=some fl→dB fl (cs.drop i) (ds.drop i)=some b→(Op.eqFields (n+1) xs ys fs).run P w = .ok b w
 | [],i,fl,b,hf,he=>by
  simp only [EP,aj] at hf;subst hf;cases hc:cs.drop i with
  | cons c t=>rw [hc] at he;simp [dB] at he
  | nil=>
   cases hd:ds.drop i with
   | cons c t=>rw [hc,hd] at he;simp [dB] at he
   | nil=>
    rw [hc,hd] at he;simp only [dB,aj] at he;subst he;rfl
 | f::fs,i,fl,b,hf,he=>by
  simp only [EP] at hf;split at hf
  ·rename_i FA;split at hf
   ·rename_i x l hx hl;simp only [aj] at hf;subst hf;obtain ⟨c,t,c',t',hc,hd⟩:=O8 he;obtain ⟨P7,P',hic⟩:=drop_cons hc;obtain ⟨Qa,sJ,hid⟩:=drop_cons hd;obtain ⟨u,hu⟩:∃u,xs[i]? = some u:=⟨xs[i]'(by omega),by simp⟩
    obtain ⟨u',jv⟩:∃u,ys[i]? = some u:=⟨ys[i]'(by omega),by simp⟩
    rw [hc,hd] at he;obtain ⟨b1,b2,g1,g2,g3,mu,dd,vx,zC⟩:=XZ hx he (eE i c u P7 hu) (zH i c' u' Qa jv);have ih:=X0 (n:=n) eE zH uk Fo fs (i+1) hl (by rw [P',sJ];exact g2);subst FA;simp only [Op.eqFields,mu,ne_eq,Nq,bW,Sem.run_bind,L5 vx zC hu,L5 vx zC jv,g1 n,Result.andThen_ok];cases b1
    ·simp [g3]
    ·simp [ih,g3]
   ·cases hf
  ·cases hf
theorem XY:∀(l1:List Fl) {l2:List Fl} {s t:List C} {b:Bool},dB (l1++l2) s t=some b→
  ∃b1 b2,dB l1 (s.take l1.length) (t.take l1.length)=some b1∧dB l2 (s.drop l1.length) (t.drop l1.length)=some b2∧b=(b1&&b2)∧l1.length≤s.length∧l1.length≤t.length
 | [],l2,s,t,b,h=>⟨true,b,by simp [dB],by simpa using h,by simp,by simp,by simp⟩
 | x::l1,l2,s,t,b,h=>by
  obtain ⟨c,s',c',t',rfl,rfl⟩:=O8 (l:=l1++l2) h;have key:∀{b0 NR:Bool},dB (l1++l2) s' t'=some NR→b=(b0&&NR)→(∀{r:List Fl} {u v:List C} {q:Bool},dB r u v=some q→dB (x::r) (c::u) (c'::v)=some (b0&&q))→
    ∃b1 b2,dB (x::l1) ((c::s').take (l1.length+1)) ((c'::t').take (l1.length+1))=some b1∧dB l2 ((c::s').drop (l1.length+1)) ((c'::t').drop (l1.length+1))=some b2∧b=(b1&&b2)∧l1.length+1≤(c::s').length∧l1.length+1≤(c'::t').length:=by
   intro b0 NR h1 h2 h3;obtain ⟨a1,a2,k1,k2,k3,k4,k5⟩:=XY l1 h1;exact ⟨b0&&a1,a2,h3 k1,k2,by rw [h2,k3,Bool.and_assoc],by simp;omega,by simp;omega⟩
  cases x<;>cases c<;>(try (simp [dB] at h;done))<;>(rename_i z;cases z)<;>(try (simp [dB] at h;done))<;>cases c'<;>(try (simp [dB] at h;done))<;>(rename_i z;cases z)<;>(try (simp [dB] at h;done))
  ·simp only [qQ,dB] at h;split at h
   ·rename_i hk;obtain ⟨q,h1,h2⟩:=Gx h;exact key h1 h2 (fun hq=>by simp [dB,hk,hq])
   ·cases h
  ·simp only [qQ,dB] at h;obtain ⟨q,h1,h2⟩:=Gx h;exact key h1 h2 (fun hq=>by simp [dB,hq])
  ·simp only [qQ,dB] at h;obtain ⟨q,h1,h2⟩:=Gx h;exact key h1 h2 (fun hq=>by simp [dB,hq])
theorem IL {n:Nat} {γ:Key→Nat} {k:Key} {xs ys:Array Value} {cs ds:List C} (eE:∀(j:Nat) c u,cs[j]? = some c→xs[j]? = some u→aF nm w L γ k j c u) (zH:∀(j:Nat) c u,ds[j]? = some c→ys[j]? = some u→aF nm w L γ k j c u)
  (uk:cs.length=xs.size) (Fo:ds.length=ys.size):∀(fs:List Field) (i:Nat) {fl:List Fl} {b:Bool},zp P i fs=some fl→dB fl (cs.drop i) (ds.drop i)=some b→(Op.eqFields (n+2) xs ys fs).run P w = .ok b w
 | [],i,fl,b,hf,he=>by
  simp only [zp,aj] at hf;subst hf;cases hc:cs.drop i with
  | cons c t=>rw [hc] at he;simp [dB] at he
  | nil=>
   cases hd:ds.drop i with
   | cons c t=>rw [hc,hd] at he;simp [dB] at he
   | nil=>
    rw [hc,hd] at he;simp only [dB,aj] at he;subst he;rfl
 | f::fs,i,fl,b,hf,he=>by
  simp only [zp] at hf;split at hf
  ·rename_i FA;split at hf
   ·rename_i x hx;obtain ⟨l,hl,rfl⟩:=Gx hf;obtain ⟨c,t,c',t',hc,hd⟩:=O8 he;obtain ⟨P7,P',hic⟩:=drop_cons hc;obtain ⟨Qa,sJ,hid⟩:=drop_cons hd;obtain ⟨u,hu⟩:∃u,xs[i]? = some u:=⟨xs[i]'(by omega),by simp⟩
    obtain ⟨u',jv⟩:∃u,ys[i]? = some u:=⟨ys[i]'(by omega),by simp⟩
    rw [hc,hd] at he;obtain ⟨b1,b2,g1,g2,g3,mu,dd,vx,zC⟩:=XZ hx he (eE i c u P7 hu) (zH i c' u' Qa jv);have ih:=IL (n:=n) eE zH uk Fo fs (i+1) hl (by rw [P',sJ];exact g2);subst FA;simp only [Op.eqFields,mu,ne_eq,Nq,bW,Sem.run_bind,L5 vx zC hu,L5 vx zC jv,g1 (n+1),Result.andThen_ok];cases b1
    ·simp [g3]
    ·simp [ih,g3]
   ·split at hf
    ·rename_i l1 lz;obtain ⟨l,hl,rfl⟩:=Gx hf;unfold Yv at lz;split at lz
     ·cases lz
     ·rename_i mu;split at lz
      ·rename_i gs qp;split at lz
       ·rename_i l0 nR;split at lz
        ·rename_i iI;cases lz;obtain ⟨b1,b2,g1,g2,g3,g4,g5⟩:=XY l1 he;simp only [Nf] at g4 g5;have ih:=IL (n:=n) eE zH uk Fo fs (i+l1.length) hl (by simpa [U1] using g2);have bf:=iI.2.1;have aA:=iI.2.2;have pt:∀{zs:Array Value},(part f.type zs f.offset).run P w = .ok (.agg (zs.extract i (i+l1.length))) w:=by
          intro zs;have vz:(isAgg f.type).run P w = .ok true w:=by
           unfold isAgg;rw [Sem.run_bind,run_underlying qp,Result.andThen_ok];rfl
          subst FA;simp [part,vz,yB bf]
         have xv:P.fieldsOf f.type=gs:=by simp [Program.fieldsOf,qp]
         have sub:∀{zs:Array Value} {es:List C},es.length=zs.size→i+l1.length≤es.length→(∀(j:Nat) c u,es[j]? = some c→zs[j]? = some u→aF nm w L γ k j c u)→((es.drop i).take l1.length).length=(zs.extract i (i+l1.length)).size∧
           ∀(j:Nat) c u,((es.drop i).take l1.length)[j]? = some c→(zs.extract i (i+l1.length))[j]? = some u→aF nm w L γ k (i+j) c u:=by
          intro zs es h1 h2 h3;refine ⟨by simp;omega,fun j c u hc hu=>?_⟩;rw [Nd] at hc;split at hc
          ·rename_i hj;rw [tH] at hc;rw [UQ] at hu;split at hu
           ·exact h3 _ c u hc hu
           ·cases hu
          ·cases hc
         obtain ⟨s1,s2⟩:=sub uk (by omega) eE;obtain ⟨s3,s4⟩:=sub Fo (by omega) zH;have inner:=X0 (P:=P) (w:=w) (n:=n) (o:=i) s2 s4 s1 s3 gs.toList 0 nR (by simpa using g1);have heq:(Op.equalIn (n+2) f.type (.agg (xs.extract i (i+l1.length))) (.agg (ys.extract i (i+l1.length)))).run P w = .ok b1 w:=by
          rw [run_equalIn_struct w (n+1) f.type _ _ (by rw [xv];exact qp) iI.1,xv];exact inner
         simp only [Op.eqFields,mu,ne_eq,Nq,bW,Sem.run_bind,pt,heq,Result.andThen_ok];cases b1
         ·simp [g3]
         ·simp [ih,g3]
        ·cases lz
       ·cases lz
      ·cases lz
    ·cases hf
  ·cases hf
theorem Yw {t:TypeId} {fl:List Fl} (h:BN P t=some fl):∃fs,P.underlying t=some (.struct fs)∧P.stoodInHeld t=false∧P.eqGuardType P.depth t=false∧zp P 0 fs.toList=some fl:=by
 unfold BN at h;split at h
 ·rename_i fs hu;split at h
  ·rename_i hc;exact ⟨fs,hu,hc.1,hc.2,h⟩
  ·cases h
 ·cases h
theorem sr {t:TypeId} {u v:Value} {b:Bool} (h:∀n,(Op.equalIn (n+1) t u v).run P w = .ok b w):(Op.equal t u v).run P w = .ok b w:=h 9999
theorem X1 {t:TypeId} (h:P.underlying t=some .bool) (x y:Bool):(Op.equal t (.bool x) (.bool y)).run P w = .ok (x==y) w:=
 sr fun n=>run_equalIn_bool' w n t x y h
def NC (P:Program) (t:TypeId):TC→Prop
 | .other=>True
 | .bool=>P.underlying t=some .bool
 | .struct fl=>BN P t=some fl
 | .ptr=>∃e,P.underlying t=some (.pointer e)
 | .slice=>∃e,P.underlying t=some (.slice e)
 | .func=>∃x y z,P.underlying t=some (.func x y z)
 | .iface=>∃m,P.underlying t=some (.interface m)
theorem afP {op:BinOp} {t:TypeId} {y:Operand} {tc:TC} (h:Ix P op t y=some tc):NC P t tc∧(tc = .iface→xN y=true):=by
 have go : (match P.underlying t with
   | some (.int _) => some TC.other
   | some .string => some .other
   | some .bool => some .bool
   | some (.struct _) => (BN P t).map .struct
   | some (.pointer _) => some .ptr
   | some (.slice _) => some .slice
   | some (.func _ _ _) => some .func
   | some (.interface _) => if xN y then some .iface else none
   | _ => none) = some tc → NC P t tc ∧ (tc = .iface → xN y = true) := by
  intro h;split at h
  ·cases h;exact ⟨trivial,by simp⟩
  ·cases h;exact ⟨trivial,by simp⟩
  ·rename_i hu;cases h;exact ⟨hu,by simp⟩
  ·cases hf:BN P t with
   | none=>simp [hf] at h
   | some fl=>simp only [hf,ff,aj] at h;subst h;exact ⟨hf,by simp⟩
  ·rename_i e hu;cases h;exact ⟨⟨e,hu⟩,by simp⟩
  ·rename_i e hu;cases h;exact ⟨⟨e,hu⟩,by simp⟩
  ·rename_i x y z hu;cases h;exact ⟨⟨_,_,_,hu⟩,by simp⟩
  ·rename_i m hu;split at h
   ·rename_i hc;cases h;exact ⟨⟨m,hu⟩,fun _=>hc⟩
   ·cases h
  ·cases h
 unfold Ix at h;cases op<;>first
  | exact go h
  | (cases h;exact ⟨trivial,by simp⟩)
theorem Z5 {γ:Key→Nat} {k k2:Key} {j j2:Nat} {t:TypeId} {tc:TC} {c0 c:C} {u v:Value} {b:Bool} (ht:NC P t tc) (h0:jK tc c0=some true) (h:jK tc c=some b) (hc:aF nm w L γ k j c u) (xo:aF nm w L γ k2 j2 c0 v) :
  ((binOp .eql t u v).run P w = .ok (.bool b) w∧(binOp .neq t u v).run P w = .ok (.bool !b) w)∧(∀p q,u = .agg p→v = .agg q→False)∧(tc≠.iface→v≠.nilIface):=by
 have two:(Op.equal t u v).run P w = .ok b w→(binOp .eql t u v=do pure (.bool (←Op.equal t u v)))→(binOp .neq t u v=do pure (.bool (!(←Op.equal t u v))))→
  ((binOp .eql t u v).run P w = .ok (.bool b) w∧(binOp .neq t u v).run P w = .ok (.bool !b) w):=fun h1 h2 h3=>⟨by rw [h2];simp [h1],by rw [h3];simp [h1]⟩
 cases tc with
 | other=>simp [jK] at h0
 | bool=>simp [jK] at h0
 | struct fl=>simp [jK] at h0
 | ptr=>
  obtain ⟨e,ht⟩:=ht;cases c0<;>simp [jK] at h0;cases xo;cases c<;>simp [jK] at h
  ·subst h;cases hc with
   | ptr hv=>
    obtain ⟨ad,rfl⟩:=hv;exact ⟨two (sr fun n=>by simp [Op.equalIn,run_underlying ht]) rfl rfl,(fun p q e _=>by cases e),(fun _ e=>by cases e)⟩
  ·subst h;cases hc;exact ⟨two (sr fun n=>by simp [Op.equalIn,run_underlying ht]) rfl rfl,(fun p q e _=>by cases e),(fun _ e=>by cases e)⟩
 | func=>
  obtain ⟨e1,e2,e3,ht⟩:=ht;have i1:∀(c:C) (b:Bool),jK .func c=some b→(c = .eX∧b=true)∨(∃f x y,c = .fn f x y∧f < kM∧b=false):=by
   intro c b h;cases c with
   | eX=>simp only [jK,aj] at h;exact .inl ⟨rfl,h.symm⟩
   | fn f x y=>
    simp only [jK] at h;cases hf:z8 f with
    | true=>simp only [hf,aj] at h;exact .inr ⟨_,_,_,rfl,JO hf,h.symm⟩
    | false=>simp [hf] at h
   | _=>simp [jK] at h
  rcases i1 _ _ h0 with ⟨rfl,_⟩ | ⟨_,_,_,_,_,h⟩
  ·cases xo;rcases i1 _ _ h with ⟨rfl,rfl⟩ | ⟨f,x,y,rfl,jI,rfl⟩
   ·cases hc;exact ⟨two (sr fun n=>by simp [Op.equalIn,run_underlying ht]) rfl rfl,(fun p q e _=>by cases e),(fun _ e=>by cases e)⟩
   ·cases hc with
    | fn=>exact ⟨two (sr fun n=>by simp [Op.equalIn,run_underlying ht]) rfl rfl,(fun p q e _=>by cases e),(fun _ e=>by cases e)⟩
    | fns val hf=>exfalso;rcases hf with ⟨h,_⟩ | ⟨h,_⟩<;>omega
  ·cases h
 | iface=>
  obtain ⟨e1,ht⟩:=ht;cases c0<;>simp [jK] at h0;cases xo;cases c<;>simp [jK] at h
  ·subst h;cases hc;exact ⟨two (sr fun n=>by simp [Op.equalIn,run_underlying ht]) rfl rfl,(fun p q e _=>by cases e),(fun h=>absurd rfl h)⟩
  ·subst h;cases hc;exact ⟨two (sr fun n=>by simp [Op.equalIn,run_underlying ht]) rfl rfl,(fun p q e _=>by cases e),(fun h=>absurd rfl h)⟩
 | slice=>
  obtain ⟨e1,ht⟩:=ht;have inv:∀{c:C} {b:Bool},jK .slice c=some b→(∃sz rows,c = .d (.sl (.im true) sz rows)∧b=true)∨(∃sz rows,c = .d (.sl (.im false) sz rows)∧b=false)∨(∃pl g sz off len,c = .view pl g sz off len∧b=false):=by
   intro c b h;cases c with
   | d x=>
    cases x with
    | sl t sz rows=>
     cases t with
     | im b'=>
      simp only [jK,aj] at h;subst h;cases b' with
      | true=>exact .inl ⟨sz,rows,rfl,rfl⟩
      | false=>exact .inr (.inl ⟨sz,rows,rfl,rfl⟩)
     | own=>simp [jK] at h
    | _=>simp [jK] at h
   | view=>simp only [jK,aj] at h;exact .inr (.inr ⟨_,_,_,_,_,rfl,h.symm⟩)
   | _=>simp [jK] at h
  rcases inv h0 with ⟨pS,qM,rfl,_⟩ | ⟨_,_,_,h1⟩ | ⟨_,_,_,_,_,_,h1⟩
  ·cases xo with
   | d E8=>
    cases E8 with
    | plain E8=>
     cases E8;rcases inv h with ⟨MI,acY,rfl,rfl⟩ | ⟨MI,acY,rfl,rfl⟩ | ⟨pl,g,MI,off,len,rfl,rfl⟩
     ·cases hc with
      | d hd=>
       cases hd with
       | plain hd=>
        cases hd;exact ⟨two (sr fun n=>by simp [Op.equalIn,run_underlying ht]) rfl rfl,(fun p q e _=>by cases e),(fun _ e=>by cases e)⟩
     ·cases hc with
      | d hd=>
       cases hd with
       | plain hd=>
        cases hd with
        | mL=>exact ⟨two (sr fun n=>by simp [Op.equalIn,run_underlying ht]) rfl rfl,(fun p q e _=>by cases e),(fun _ e=>by cases e)⟩
        | pl=>exact ⟨two (sr fun n=>by simp [Op.equalIn,run_underlying ht]) rfl rfl,(fun p q e _=>by cases e),(fun _ e=>by cases e)⟩
     ·cases hc with
      | view hv=>
       obtain ⟨b,c,rfl,_,hb⟩:=hv;obtain ⟨ad,rfl⟩:=yS.1 hb;exact ⟨two (sr fun n=>by simp [Op.equalIn,run_underlying ht]) rfl rfl,(fun p q e _=>by cases e),(fun _ e=>by cases e)⟩
  ·cases h1
  ·cases h1
theorem aib (R:Rel nm N S a w L) (hd:∀d,o.dst=some d→d < N) {x y:Operand} {X Y:ax.X} {op:BinOp} {t yt:TypeId} {tc:TC} (hx:bT nm X x) (hy:bT nm Y y) (ho:o.op = .binOp op t x y yt) (vN:Ix P op t y=some tc)
  (hr:(bp Cl d (.bin tc op X Y)).run S=some r):dw P a w o (dR nm N S w L a o.dst r.1 r.2):=by
 simp only [bp] at hr;obtain ⟨v1,h1,eV⟩:=Q.aK hr;clear hr;obtain ⟨v2,h3,hr⟩:=Q.aK eV;clear eV;obtain ⟨z,hz,h2⟩:=Q.gx hr;clear hr;obtain rfl:=Q.aZ h2;clear h2;have r1:=rd_val R hx h1;have r2:=rd_val R hy h3;obtain ⟨ZT,Zf⟩:=afP vN;clear vN;have vN:=ZT;clear ZT;have done:∀{v:Value},(eqGuard op t x y (a.eval x) (a.eval y)).run P w = .ok () w→(binOp op t (a.eval x) (a.eval y)).run P w = .ok v w→fL w L z v→dw P a w o (dR nm N S w L a o.dst (.one (.d z)) []):=
  fun hg hb hp=>fk R hd (aiJ ho hg hb) (.one (.d (.plain hp)))
 unfold si at hz;split at hz
 ·
  rename_i k n k' n';have e1:=r1.cQ.rk;have e2:=r2.cQ.rk;have hg:(eqGuard op t x y (a.eval x) (a.eval y)).run P w = .ok () w:=EE (by rw [e1];simp) (by rw [e1];simp);split at hz
  ·obtain ⟨v,g1,g2⟩:=adz (P:=P) (w:=w) (L:=L) (.inl rfl) (k':=k') (t:=t) hz;exact done hg (by rw [e1,e2];exact g1) g2
  ·obtain ⟨v,g1,g2⟩:=adz (P:=P) (w:=w) (L:=L) (.inr rfl) (k':=k') (t:=t) hz;exact done hg (by rw [e1,e2];exact g1) g2
  ·rename_i lz vG;split at hz
   ·rename_i hk;subst hk;obtain ⟨v,g1,g2⟩:=aki (P:=P) (w:=w) (L:=L) (t:=t) hz (fun e=>lz e) (fun e=>vG e);exact done hg (by rw [e1,e2];exact g1) g2
   ·cases hz
 ·
  have e1:=r1.cQ.rQ;have e2:=r2.cQ.rQ;obtain ⟨v,g1,g2⟩:=ap1 (P:=P) (w:=w) (L:=L) (t:=t) hz;exact done (EE (by rw [e1];simp) (by rw [e1];simp)) (by rw [e1,e2];exact g1) g2
 ·
  have e1:=r1.cQ.sj;have e2:=r2.cQ.sj;have hg:(eqGuard op t x y (a.eval x) (a.eval y)).run P w = .ok () w:=EE (by rw [e1];simp) (by rw [e1];simp);split at hz
  ·cases hz;exact done hg (v:=.bool _) (by rw [e1,e2];simp [binOp,X1 vN]) .bool
  ·cases hz;exact done hg (v:=.bool _) (by rw [e1,e2];simp [binOp,X1 vN]) .bool
  ·cases hz
 ·
  rename_i cs ds;obtain ⟨xs,e1,jJ,dH⟩:=r1.NH;obtain ⟨ys,e2,dO,gB⟩:=r2.NH;split at hz
  ·rename_i fl;obtain ⟨fs,hu,hs,sK,hf⟩:=Yw vN;cases hb:dB fl cs ds with
   | none=>simp [hb] at hz
   | some b=>
    simp only [hb,ff,aj] at hz;subst hz;have xv:P.fieldsOf t=fs:=by simp [Program.fieldsOf,hu]
    have h0:=IL (P:=P) (w:=w) (n:=9997) dH gB jJ dO fs.toList 0 hf (by simpa using hb);have he:(Op.equalIn 10000 t (.agg xs) (.agg ys)).run P w = .ok b w:=by
     rw [run_equalIn_struct w 9999 t xs ys (by rw [xv];exact hu) hs,xv];exact h0
    refine done (v:=.bool b) (by rw [e1,e2];exact run_eqGuard_agg w _ t x y xs ys sK) ?_ .bool;rw [e1,e2,run_eql_struct,he];rfl
  ·rename_i fl;obtain ⟨fs,hu,hs,sK,hf⟩:=Yw vN;cases hb:dB fl cs ds with
   | none=>simp [hb] at hz
   | some b=>
    simp only [hb,ff,aj] at hz;subst hz;have xv:P.fieldsOf t=fs:=by simp [Program.fieldsOf,hu]
    have h0:=IL (P:=P) (w:=w) (n:=9997) dH gB jJ dO fs.toList 0 hf (by simpa using hb);have he:(Op.equalIn 10000 t (.agg xs) (.agg ys)).run P w = .ok b w:=by
     rw [run_equalIn_struct w 9999 t xs ys (by rw [xv];exact hu) hs,xv];exact h0
    refine done (v:=.bool !b) (by rw [e1,e2];exact run_eqGuard_agg w _ t x y xs ys sK) ?_ .bool;rw [e1,e2,run_neq_struct,he];rfl
  ·cases hz
 ·
  rename_i c c0 _ _ _;split at hz
  ·rename_i mw;split at hz
   ·cases hb:jK tc c with
    | none=>simp [hb] at hz
    | some b=>
     simp only [hb,ff,aj] at hz;subst hz;obtain ⟨g1,g2,g3⟩:=Z5 (P:=P) vN mw hb r1.cQ r2.cQ;exact done (v:=.bool b) (EE g2 (fun _ hv=>.inr (Zf (UW fun aA=>g3 aA hv)))) g1.1 .bool
   ·cases hb:jK tc c with
    | none=>simp [hb] at hz
    | some b=>
     simp only [hb,ff,aj] at hz;subst hz;obtain ⟨g1,g2,g3⟩:=Z5 (P:=P) vN mw hb r1.cQ r2.cQ;exact done (v:=.bool !b) (EE g2 (fun _ hv=>.inr (Zf (UW fun aA=>g3 aA hv)))) g1.2 .bool
   ·cases hz
  ·cases hz
 ·cases hz
end
end
end Go.ax
