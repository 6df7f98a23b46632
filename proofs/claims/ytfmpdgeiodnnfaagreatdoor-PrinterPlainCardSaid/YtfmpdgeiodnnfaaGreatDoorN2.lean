/- A part of the proof. -/
import Derived.Test.YtfmpdgeiodnnfaaGreatDoorN1
import Derived.Lib.UnsafeStr
import Derived.Orders
set_option linter.all false
namespace Go.ax
section
section
variable {nm:FuncId->Option Nat} {N:Nat} {S S0:St} {a:Act} {w w0:World} {L L0:aw} {P:Program} {o:Oper} {Cl:bX} {d:Nat} {r:V×List Wr} {ws:List Wr}
def Rel.Mw {S:St} (h:Rel nm N S a w L) {m j:Nat} (hm:∀B o,L B≠some (.row ⟨.h m,j,[]⟩ o)) {w':World} {cur:Array Value} {e:TypeId} {fz:Nat×Nat} {rows:List (List D)} {val:Nat->Nat->Value} {sz cap:Nat}
  (hw:w'.heap[w.heap.size]? = some (.cells cur e fz)) (ho:∀B,B≠w.heap.size->w'.heap[B]? = w.heap[B]?) (c6:jA cur.size fz) (yi:w'.os=w.os/\w'.tape=w.tape/\w'.output=w.output/\w.heap.size<=w'.heap.size)
  (aY:0 < sz) (hlen:∀r∈rows,r.length=sz) (eC:rows.length<=cap) (dU:cap * sz<=cur.size) (hv:ph rows sz 0 cur val) (hc:pe w L ⟨.h m,j,[]⟩ rows val) (dW:uj rows e) :
  Rel nm N S a w' (L.put w.heap.size (.row ⟨.h m,j,[]⟩ 0))/\dc w w' L (L.put w.heap.size (.row ⟨.h m,j,[]⟩ 0))/\
   aC nm w' (L.put w.heap.size (.row ⟨.h m,j,[]⟩ 0)) S.γ (.h m) j (.d (.sl .own sz rows)) (.slice (some ⟨w.heap.size,0,none⟩) rows.length cap):=by
 have aD:∀B l,L B=some l->B≠w.heap.size:=λB l hB e=>by rw[e,h.fx.new] at hB;cases hB
 refine⟨?_,⟨yi.1,yi.2.1,yi.2.2.1,yi.2.2.2,λB hB=>⟨by rw[aw.gw (aD B _ hB)];exact hB,ho B (aD B _ hB)⟩,λB af hB=>⟨by rw[aw.gw (by omega)];exact hB,ho B (by omega)⟩,λB i o hB=>by rw[aw.gw (aD B _ hB)];exact hB⟩,?_⟩
 ·refine h.grow (λB l hB=>ho B (aD B l hB)) (λB l hB=>by rw[aw.gw (aD B l hB)];exact hB) ?_ ?_ ?_
  ·intro B l hB;by_cases he:B=w.heap.size
   ·subst he;exact(lH.1 hw).1
   ·rw[aw.gw he] at hB;exact xY (h.fx B l hB) (ho B he)
  ·intro B B' pl o o' h1 h2;by_cases he:B=w.heap.size
   ·by_cases dh:B'=w.heap.size
    ·omega
    ·subst he;rw[aw.kZ] at h1;rw[aw.gw dh] at h2;simp at h1;rw[<-h1.1] at h2;exact absurd h2 (hm B' o')
   ·rw[aw.gw he] at h1;by_cases dh:B'=w.heap.size
    ·subst dh;rw[aw.kZ] at h2;simp at h2;rw[<-h2.1] at h1;exact absurd h1 (hm B o)
    ·rw[aw.gw dh] at h2;exact h.ey B B' pl o o' h1 h2
  ·intro B B' r o o' h1 h2;by_cases he:B=w.heap.size
   ·subst he;rw[aw.kZ] at h1;simp at h1
   ·by_cases dh:B'=w.heap.size
    ·subst dh;rw[aw.kZ] at h2;simp at h2
    ·rw[aw.gw he] at h1;rw[aw.gw dh] at h2;exact h.fy B B' r o o' h1 h2
 ·refine .d (.own val aY (aw.kZ _ _ _) hw c6 hlen eC (by omega) (by simpa[ph] using hv) ?_ dW);intro i c x hx;exact bt.move id (λ_=>True) (λ_ _ _ _=>trivial) (λ_ _ _ _=>rfl) (λB hB=>⟨by rw[aw.gw (aD B _ hB)];exact hB,ho B (aD B _ hB)⟩)
   (λB q o _ hB=>⟨by rw[aw.gw (aD B _ hB)];exact hB,ho B (aD B _ hB)⟩) (hc i c x hx) trivial
def PI:∀{l:List C} {r:List D},mT l=some r->l=r.map .d
 | [],r,h=>by simp only[mT,au] at h;subst h;rfl
 | c::l,r,h=>by
  cases c with
  | d x=>
   simp only[mT] at h;cases hl:mT l with
   | none=>simp[hl] at h
   | some t=>simp only[hl,fJ,au] at h;subst h;rw[PI hl];rfl
  | _=>simp[mT] at h
def vA.plain {x:D} {u:Value} (h:vA (.d x) u) (w:World) (L:aw):fK w L x u:=by
 have h1:=h.rep (nm:=λ_=>none) w L (λ_=>0) (.s 0) 0;have h2:=h.own;cases h1 with
 | d h1=>
  cases h1 with
  | plain h1=>exact h1
  | jg=>simp[C.own] at h2
  | own=>simp[C.own] at h2
def afT {zs:List C} {row:List D} {z:Value} {n m:Nat} (hd:mT zs=some row) (hz:z.cells.size=zs.length) (hc:∀(j:Nat) c u,zs[j]? = some c->z.cells[j]? = some u->vA c u) (jJ:n<=m) (yq:zs.length≠0) :
  (∀r∈List.replicate n row,r.length=zs.length)/\∀i c x,cellOf (List.replicate n row) i c=some x->∃u,(madeCells z.cells (m * zs.length))[i * zs.length+c]? = some u/\vA (.d x) u:=by
 have dr:=PI hd;have iu:row.length=zs.length:=by rw[dr];simp
 refine⟨λr hr=>by rw[afY hr,iu],?_⟩;intro i c x hx;obtain⟨r,h1,h2⟩:=kM.1 hx;have hi:=by have:=(cd.1 h1).1;simpa using this
 have hr:=by
  rw[VF,aP hi] at h1;exact(ue h1).symm
 subst hr;have aU:c < zs.length:=by rw[<-iu];exact(cd.1 h2).1
 have af:i * zs.length+c < m * zs.length:=wv (by omega) aU;have Gk:(i * zs.length+c) % zs.length=c:=by rw[II,Nat.mul_add_mod];exact IF aU
 have ZO:c < z.cells.size:=by omega
 have hzc:zs[c]? = some (.d x):=by rw[dr,bQ,h2];rfl
 refine⟨z.cells[c],?_,hc c (.d x) _ hzc (oZ ZO)⟩;unfold madeCells;rw[IE,Array.getElem?_range,aP af];simp only[fJ,hz,Gk];rw[getElem!_pos z.cells c ZO]
def qI (i sz:Nat):Place->Option Place:=λq=>
 if q.k = .h 1 then(if q.j < sz then some ⟨.h 0,0,(i,q.j)::q.p⟩ else none)
 else if q.k = .h 0/\q.j=0 then(match q.p with | (i',_)::_=>if i'=i then none else some q | []=>some q)
 else some q
def HY {i sz:Nat} {q t:Place} (h:qI i sz q=some t):(q.k = .h 1/\q.j < sz/\t=⟨.h 0,0,(i,q.j)::q.p⟩)\/(q.k≠.h 1/\(∀c r,¬ (q.k = .h 0/\q.j=0/\q.p=(i,c)::r))/\t=q):=by
 unfold qI at h;split at h
 ·split at h
  ·simp at h;exact .inl ⟨‹_›,‹_›,h.symm⟩
  ·cases h
 ·rename_i h1;split at h
  ·split at h
   ·rename_i i' c' r' hp;split at h
    ·cases h
    ·rename_i aD;simp at h;exact .inr ⟨h1,λc r e=>aD (by have:=e.2.2;rw[hp] at this;simp at this;omega),h.symm⟩
   ·rename_i hp;simp at h;exact .inr ⟨h1,(λc r e=>by have:=e.2.2;rw[hp] at this;cases this),h.symm⟩
  ·rename_i h2;simp at h;exact .inr ⟨h1,λc r e=>h2 ⟨e.1,e.2.1⟩,h.symm⟩
def aq9 {i sz:Nat} {q q' t:Place} (h1:qI i sz q=some t) (h2:qI i sz q'=some t):q=q':=by
 rcases HY h1 with⟨a1,a2,a3⟩ | ⟨a1,a2,a3⟩<;>rcases HY h2 with⟨b1,b2,b3⟩ | ⟨b1,b2,b3⟩
 ·rw[a3] at b3;cases q;cases q';simp_all
 ·exact absurd (by rw[<-b3,a3];exact⟨rfl,rfl,rfl⟩) (b2 q.j q.p)
 ·exact absurd (by rw[<-a3,b3];exact⟨rfl,rfl,rfl⟩) (a2 q'.j q'.p)
 ·rw[<-a3,<-b3]
def aq8 {i sz:Nat} {q:Place} (h:q.k.aT=true):qI i sz q=some q:=by
 unfold qI;rw[aI (λe=>by rw[e] at h;simp[Key.aT] at h),aI (λe=>by rw[e.1] at h;simp[Key.aT] at h)]
def aq7 {i sz:Nat} {q t:Place} (h:qI i sz q=some t) (ht:t.k.aT=true):q=t:=by
 rcases HY h with⟨_,_,rfl⟩ | ⟨_,_,h⟩
 ·simp[Key.aT] at ht
 ·exact h.symm
def BI (nm:FuncId->Option Nat):List (Nat×ax.X)->List (Nat×Operand)->Prop
 | [],[]=>True
 | (i,X)::t,(i',x)::t'=>i=i'/\bV nm X x/\X.iJ=true/\BI nm t t'
 | _,_=>False
def YW {mv:Bool} (R0:Rel nm N S0 a w0 L0) {sz:Nat} (aY:0 < sz):∀(parts:List (Nat×ax.X)) (ps:List (Nat×Operand)) {ws:List Wr} {L:aw} {rows:List (List D)} {vs:Array Value} (M:cf nm N S0 w0 L0 ws a w L) (hf:sw L 1) (hm:∀B o,L B≠some (.row ⟨.h 0,0,[]⟩ o))
  (hl:rows.length * sz=vs.size) (hlen:∀r∈rows,r.length=sz) (hc:∀i c x,cellOf rows i c=some x->∃u,vs[i * sz+c]? = some u/\bt w L ⟨.h 0,0,[(i,c)]⟩ x u) (hp:BI nm parts ps) {r:List (List D)×List Wr} (hr:(JC mv sz ws rows parts).run S0=some r),
  ∃L' eR,Instr.fill (λi=>some (i * sz,sz)) vs (ps.map λp=>(p.1,a.eval p.2))=some eR/\cf nm N S0 w0 L0 r.2 a w L'/\(∀B o,L' B≠some (.row ⟨.h 0,0,[]⟩ o))/\r.1.length=rows.length/\eR.size=vs.size/\(∀r'∈r.1,r'.length=sz)/\
   ∀i c x,cellOf r.1 i c=some x->∃u,eR[i * sz+c]? = some u/\bt w L' ⟨.h 0,0,[(i,c)]⟩ x u
 | [],[],ws,L,rows,vs,M,hf,hm,hl,hlen,hc,hp,r,hr=>by
  obtain rfl:=Q.aW hr;exact⟨L,vs,rfl,M,hm,rfl,rfl,hlen,hc⟩
 | (i,X)::parts,(i',x)::ps,ws,L,rows,vs,M,hf,hm,hl,hlen,hc,hp,r,hr=>by
  obtain⟨rfl,hx,bh,hp⟩:=hp;simp only[JC] at hr;obtain⟨⟨v,eS⟩,h1,h2⟩:=Q.aL hr;obtain⟨⟨cs,fu⟩,h3,h4⟩:=Q.aL h2;obtain⟨row,h5,h6⟩:=Q.gy h4;obtain⟨hg,h7⟩:=Q.ec h6;simp at hg;obtain⟨iu,hi⟩:=hg;have eJ:=PI h5;have aU:cs.length=sz:=by simp only at eJ;rw[eJ];simp[iu]
  obtain⟨L1,O1,jI,dM⟩:=MT M R0 hf hx bh h1 h3 (by omega);obtain⟨M2,bF⟩:=O1.mid.wZ (f:=qI i sz) (λq hq=>aq8 hq) (λq t h ht=>aq7 h ht) (λq q' t a b=>aq9 a b);have F0:sw (cT (qI i sz) L1) 1:=by
   intro B q o hB e;obtain⟨q0,_,h2⟩:=oR hB;rcases HY h2 with⟨_,_,h⟩ | ⟨h6,_,h⟩
   ·rw[h] at e;simp at e
   ·rw[h] at e;exact h6 e
  have Gh:∀B o,cT (qI i sz) L1 B≠some (.row ⟨.h 0,0,[]⟩ o):=by
   intro B o hB;obtain⟨q0,h8,h2⟩:=oR hB;rcases HY h2 with⟨_,_,h⟩ | ⟨h6,_,h⟩
   ·simp at h
   ·rw[<-h] at h8;exact hm B o (O1.yO B _ o rfl (by simp) h8)
  obtain⟨u1,u2⟩:=ae8 vs (i * sz) (a.eval x).cells;have atD:=by
   have:(i+1) * sz<=rows.length * sz:=p8 _ hi;rw[lJ] at this;omega
  have Z7:∀r∈rows.set i row,r.length=sz:=by
   intro r hr;rcases IK hr with h | h
   ·exact hlen r h
   ·rw[h];omega
  have gn:∀i' c y,cellOf (rows.set i row) i' c=some y->(i'=i/\row[c]? = some y)\/(i'≠i/\cellOf rows i' c=some y):=by
   intro i' c y hy;obtain⟨rr,k1,k2⟩:=kM.1 hy;rw[VX] at k1;by_cases he:i=i'
   ·subst he;rw[aP rfl,aP hi] at k1;simp at k1;rw[k1];exact .inl ⟨rfl,k2⟩
   ·rw[aI he] at k1;exact .inr ⟨λe=>he e.symm,kM.2 ⟨rr,k1,k2⟩⟩
  obtain⟨L', eR, g1, g2, g3, g4, g5, g6, g7⟩ := YW R0 aY parts ps (rows := rows.set i row) (vs := Io vs (i * sz) (a.eval x).cells) M2 F0 Gh (by rw[EJ, u1]; exact hl) Z7 (by
    intro i' c y hy
    have af := og Z7 hy
    rw[EJ] at af
    have qq := wv af.1 af.2
    rw[hl] at qq
    rw[u2 _ qq, <- jI, aU]
    rcases gn i' c y hy with⟨rfl, dr⟩ | ⟨aD, hold⟩
    · have J1 : cs[c]? = some (.d y) := by simp only at eJ; rw[eJ]; simp[dr]
      have ZM : c < (a.eval x).cells.size := by omega
      refine⟨(a.eval x).cells[c], ?_, ?_⟩
      · rw[aP ⟨by omega, by omega⟩, show i' * sz + c - i' * sz = c by omega]
        simp[ZM]
      · have h9 := dM c (.d y) _ J1 (oZ ZM)
        cases h9 with
        | d h9 =>
          have := bt.move (w' := w) (L' := cT (qI i' sz) L1) (λq => ⟨.h 0, 0, (i', q.j) :: q.p⟩) (λq => q.k = .h 1 /\ q.j = c) (λ_ _ _ h => h) (λ_ _ _ _ => rfl) (λB hB => ⟨jP.2 hB, rfl⟩)
            (λB q o hq hL => ⟨gO hL (by unfold qI; rw[aP hq.1, aP (by omega)]), rfl⟩) h9 ⟨rfl, rfl⟩
          omega
    · have aln : ¬ (i * sz <= i' * sz + c /\ i' * sz + c < i * sz + sz) := by
        rcases Nat.lt_or_gt_of_ne aD with h | h
        · have : (i' + 1) * sz <= i * sz := p8 _ h
          rw[lJ] at this; omega
        · have : (i + 1) * sz <= i' * sz := p8 _ h
          rw[lJ] at this; omega
      rw[aI aln]
      obtain⟨u, k1, k2⟩ := hc i' c y hold
      refine⟨u, k1, ?_⟩
      have k3  := by
        refine bt.move id (λq => q.k = .h 0) (λ_ _ _ h => h) (λ_ _ _ _ => rfl) O1.cU.bg (λB q o hq hL => ⟨O1.Dk B q o (by rw[hq]; rfl) (by rw[hq]; simp) hL, rfl⟩) k2 rfl
      refine bt.move id (λq => ∃ r, q = ⟨.h 0, 0, (i', c) :: r⟩) (by rintro q a b ⟨r, rfl⟩; exact⟨r ++ [(a, b)], rfl⟩) (λ_ _ _ _ => rfl) (λB hB => ⟨jP.2 hB, rfl⟩) ?_ k3 ⟨[], rfl⟩
      rintro B q o ⟨r, rfl⟩ hL
      refine⟨gO hL ?_, rfl⟩
      unfold qI
      rw[aI (by simp), aP ⟨rfl, rfl⟩]
      simp only[id, aD, eX]) hp h7
  refine⟨L',eR,?_,g2,g3,by rw[g4,EJ],by omega,g6,g7⟩;simp only[e9,Instr.fill];rw[aI (by simp;omega)];exact g1
 | [],_::_,_,_,_,_,_,_,_,_,_,_,hp,_,_=>hp.elim
 | (_,_)::_,[],_,_,_,_,_,_,_,_,_,_,hp,_,_=>hp.elim
def Za {rows:List (List D)} {sz:Nat} {vs:Array Value} (hc:∀i c x,cellOf rows i c=some x->∃u,vs[i * sz+c]? = some u/\bt w L ⟨.h 0,0,[(i,c)]⟩ x u) :
  ∃val,ph rows sz 0 vs val/\pe w L ⟨.h 0,0,[]⟩ rows val:=by
 refine⟨λi c=>vs.getD (i * sz+c) undef,?_,?_⟩
 ·intro i c x hx;obtain⟨u,h1,_⟩:=hc i c x hx;simp[jW,h1]
 ·intro i c x hx;obtain⟨u,h1,h2⟩:=hc i c x hx;simp only[jW,h1,Option.getD_some];exact h2
def Rel.Tf {S:St} (h:Rel nm N S a w L) (c:Array Value) (e:TypeId) :
  Rel nm N S a (w.alloc (.cells c e)) (L.put w.heap.size .bg)/\dc w (w.alloc (.cells c e)) L (L.put w.heap.size .bg)/\Step w (w.alloc (.cells c e)) L (L.put w.heap.size .bg) S.γ S.γ:=by
 have aD:∀B l,L B=some l->B≠w.heap.size:=λB l hB e=>by rw[e,h.fx.new] at hB;cases hB
 have ho:∀B,B≠w.heap.size->(w.alloc (.cells c e)).heap[B]? = w.heap[B]?:=λB hB=>mY w _ hB
 have hw:=ox w (.cells c e);have hL:∀B l,L B=some l->(L.put w.heap.size .bg) B=some l:=λB l hB=>by rw[aw.gw (aD B l hB)];exact hB
 refine⟨h.grow (λB l hB => ho B (aD B l hB)) hL ?_ ?_ ?_, ⟨rfl, rfl, rfl, by simp, λB hB => ⟨hL B _ hB, ho B (aD B _ hB)⟩, λB af hB => ⟨by rw[aw.gw (by omega)]; exact hB, ho B (by omega)⟩, λB i o hB => hL B _ hB⟩,
   ⟨λB hB => ⟨hL B _ hB, ho B (aD B _ hB)⟩, λ_ => cp _, λB q o _ _ hB => ⟨hL B _ hB, λcur e fz hc => ⟨cur, (ho B (aD B _ hB)).trans hc, rfl⟩⟩, λB q o _ _ _ hB => ho B (aD B _ hB), λB r o _ hB => hL B _ hB⟩⟩
 ·intro B l hB;by_cases he:B=w.heap.size
  ·subst he;exact(lH.1 hw).1
  ·rw[aw.gw he] at hB;exact xY (h.fx B l hB) (ho B he)
 ·intro B B' pl o o' h1 h2;by_cases he:B=w.heap.size
  ·subst he;rw[aw.kZ] at h1;simp at h1
  ·by_cases dh:B'=w.heap.size
   ·subst dh;rw[aw.kZ] at h2;simp at h2
   ·rw[aw.gw he] at h1;rw[aw.gw dh] at h2;exact h.ey B B' pl o o' h1 h2
 ·intro B B' r o o' h1 h2;by_cases he:B=w.heap.size
  ·subst he;rw[aw.kZ] at h1;simp at h1
  ·by_cases dh:B'=w.heap.size
   ·subst dh;rw[aw.kZ] at h2;simp at h2
   ·rw[aw.gw he] at h1;rw[aw.gw dh] at h2;exact h.fy B B' r o o' h1 h2
def ajI {mv:Bool} (R:Rel nm N S a w L) (hH:eA L) (hd:∀d,o.dst=some d->d < N) {t e:TypeId} {len:Nat} {parts:Array (Nat×Operand)} {zs:List C} {row:List D} {ps:List (Nat×ax.X)} (ho:o.op = .buildSlice t len parts) (ht:P.underlying t=some (.slice e)) (hz:p5 P e=some zs) (Ra:mT zs=some row)
  (aan:¬ (len * zs.length > 2 ^ 24)) (yq:zs.length≠0) (hp:BI nm ps parts.toList) (h8:tV row=true->e=5)
  (hr:(ch Cl d (.O4 mv zs.length (List.replicate len row) ps)).run S=some r):dx P a w o (dN nm N S w L a o.dst r.1 r.2):=by
 obtain⟨⟨rs,eS⟩,h1,h2⟩:=Q.aL hr;obtain⟨ye,h2⟩:=Q.ec h2;obtain rfl:=Q.aW h2;have dW:rs≠[]->uj rs e:=by
  intro aD hn;simp at ye;have hn:=hn.resolve_right aD;rcases ye.1 with ye | ye
  ·rw[hn] at ye;cases ye
  ·obtain⟨q1,q2⟩:=wK.1 ye;cases len with
   | zero=>exact absurd rfl q1
   | succ n=>exact h8 (q2 row (by simp[List.replicate_succ]))
 obtain⟨i,z,k1,k2,k3,k4,k5⟩:=Bx hz;have J4:∀m,sw L m:=λm B q o hB e=>by have:=hH B q o hB;rw[e] at this;simp[Key.aT] at this
 obtain⟨z1,z2⟩:=afT (n:=len) (m:=len) Ra k3 k5 (cp _) yq;obtain⟨L',eR,g1,g2,g3,g4,g5,g6,g7⟩:=YW R (N' yq) ps parts.toList (cf.init R) (J4 1) (λB o hB=>J4 0 B _ o hB rfl) (rows:=List.replicate len row) (vs:=madeCells z.cells (len * zs.length))
  (by rw[size_madeCells, List.length_replicate]) z1 (λi c x hx => by
    obtain⟨u, h3, h4⟩ := z2 i c x hx
    exact⟨u, h3, .plain (h4.plain w L)⟩) hp h1
 obtain⟨val,hv,Ai⟩:=Za g7;simp at g4;have hi:i.size=zs.length:=by omega
 have:(Instr.buildSlice t len (parts.map λ(i,x)=>(i,a.eval x))).run P w = .ok (.slice (some ⟨w.heap.size,0,none⟩) len len) (w.alloc (.cells eR e)):=by
  have At:(parts.map λ(i,x)=>(i,a.eval x)).toList=parts.toList.map λp=>(p.1,a.eval p.2):=by simp
  unfold Instr.buildSlice;simp only[Sem.run_bind,run_underlying ht,Result.andThen_ok,sizeOf,typeInfo,run_program,k1,Sem.run_pure,hi];have sZ:=aan;by_cases h0:len * zs.length=0
  ·have CY:madeCells z.cells (len * zs.length) = #[]:=by rw[h0];simp[madeCells]
   rw[CY] at g1;simp only[sZ,eX,h0,dj,Sem.run_pure,Result.andThen_ok,Sem.run_bind];simp only[Array.range_zero',At];simp[g1,newRow]
  ·simp only[sZ,eX,h0,Sem.run_bind,zeroValue,typeInfo,run_program,k1,k2,Result.andThen_ok,Sem.run_pure];have Ry:((Array.range (len * zs.length)).map λx=>z.cells[x % z.cells.size]!)=madeCells z.cells (len * zs.length):=rfl;simp[At,Ry,g1,newRow]
 by_cases aD:rs=[]
 ·subst aD;have rj:=by simpa using g4.symm
  subst rj;obtain⟨hR,hM,_⟩:=g2.rel.Tf eR e;exact .val (v:=.slice (some ⟨w.heap.size,0,none⟩) 0 0) (w':=w.alloc (.cells eR e)) (by simp[execOp,ho,this]) (hR.gj (g2.mono.trans hM) hd (m:=0) (.one (.d .jg)))
 obtain⟨hR,hM,lA⟩:=g2.rel.Mw (m:=0) (j:=0) (w':=w.alloc (.cells eR e)) (cap:=len) g3 (ox w _) (λB hB=>mY w _ hB) (λj _=>by simp) ⟨rfl,rfl,rfl,by simp⟩ (N' yq) g6 (by rw[g4];omega) (by rw[g5,size_madeCells];omega) hv Ai (dW aD);refine .val (v:=.slice (some ⟨w.heap.size,0,none⟩) len len) (w':=w.alloc (.cells eR e)) ?_ (hR.gj (g2.mono.trans hM) hd (m:=0) (.one (by rw[<-g4];rw[<-g4] at lA;omega)));simp[execOp,ho,this]
end
end
section
section
variable {nm:FuncId->Option Nat} {N:Nat} {S S0:St} {a:Act} {w w0:World} {L L0:aw} {P:Program} {o:Oper} {Cl:bX} {d:Nat} {r:V×List Wr} {ws:List Wr}
def eA.free (h:eA L) (m:Nat):sw L m:=λB q o hB e=>by have:=h B q o hB;rw[e] at this;simp[Key.aT] at this
def aj1 (R:Rel nm N S a w L) (hH:eA L) (hd:∀d,o.dst=some d->d < N) {t e:TypeId} {l c:Operand} {LX CX:ax.X} {i:TypeInfo} {zs:List C} {row:List D} (hl:bV nm LX l) (hc:bV nm CX c) (ho:o.op = .makeSlice t l c) (ht:P.underlying t=some (.slice e)) (hi:P.info? e=some i) (hz:p5 P e=some zs) (Ra:mT zs=some row)
  (oE:i.size≠0) {bytes:Nat} (J0:i.bytes<=bytes/\(bytes=1->e=5)) (hr:(ch Cl d (.S9 i.size bytes row LX CX)).run S=some r):dx P a w o (dN nm N S w L a o.dst r.1 r.2):=by
 obtain⟨vl,h1,h2⟩:=Q.aL hr;obtain⟨vc,h3,h4⟩:=Q.aL h2;obtain⟨n,h5,h6⟩:=Q.gy h4;obtain⟨m,h7,h8⟩:=Q.gy h6;obtain⟨hg,h9⟩:=Q.ec h8;clear h8;obtain rfl:=Q.aW h9;simp only[cI,gX,kv] at hg;obtain⟨⟨⟨⟨jJ,CP⟩,h63⟩,_⟩,h8⟩:=hg;have hb:=iD (IN _ J0.1) CP;obtain⟨kl,lQ⟩:=xw (rd_val R hl h1) h5;obtain⟨kc,ml⟩:=xw (rd_val R hc h3) h7;obtain⟨i',z,k1,k2,k3,k4,k5⟩:=Bx hz;obtain rfl:i'=i:=by simp_all
 have aY:i'.size=zs.length:=by omega
 obtain⟨z1,z2⟩:=afT (n:=n) (m:=m) Ra k3 k5 jJ (by omega);rw[<-aY] at z1 z2
 obtain⟨val, hv, Ai⟩ := Za (w := w) (L := L) (rows := List.replicate n row) (sz := i'.size) (vs := madeCells z.cells (m * i'.size)) (λi c x hx => by
   obtain⟨u, h3, h4⟩ := z2 i c x hx
   exact⟨u, h3, .plain (h4.plain w L)⟩)
 have jr:(Instr.makeSlice t (a.eval l) (a.eval c)).run P w = .ok (.slice (some ⟨w.heap.size,0,none⟩) n m) (w.alloc (.cells (madeCells z.cells (m * i'.size)) e)):=by
  rw[lQ,ml];have FP:(i'.bytes:Int) * (m:Int)<=281474976710656:=by
   have h1:i'.bytes * m<=281474976710656:=by rw[II];omega
   omega
  exact run_make w t e i' z ht hi k2 kl kc n m (by omega) (by omega) FP (by omega)
 by_cases CY:n=0/\m=0
 ·obtain⟨rfl,rfl⟩:=CY;obtain⟨hR,hM,_⟩:=R.Tf (madeCells z.cells (0 * i'.size)) e;exact .val (v:=.slice (some ⟨w.heap.size,0,none⟩) 0 0) (w':=w.alloc (.cells (madeCells z.cells (0 * i'.size)) e)) (by simp[execOp,ho,jr]) (Rel.gj (ws:=[]) hR hM hd (m:=0) (.one (.d .jg)))
 obtain⟨hR,hM,lA⟩:=R.Mw (m:=0) (j:=0) (w':=w.alloc (.cells (madeCells z.cells (m * i'.size)) e)) (cap:=m) (λB o hB=>hH.free 0 B _ o hB rfl) (ox w _) (λB hB=>mY w _ hB) (λj _=>by simp) ⟨rfl,rfl,rfl,by simp⟩ (N' oE) z1
  (by simp_all) (by rw[size_madeCells]; omega) hv Ai (by
    intro hn
    simp at h8
    rcases h8 with h8 | ⟨h8, cz⟩
    · simp_all
    · have hn := hn.resolve_right λe => (cz.elim (λh => h (by simp_all)) λh => CY ⟨by omega, h⟩)
      obtain⟨q1, q2⟩ := wK.1 hn
      simp_all)
 simp at lA;exact .val (v:=.slice (some ⟨w.heap.size,0,none⟩) n m) (w':=w.alloc (.cells (madeCells z.cells (m * i'.size)) e)) (by simp[execOp,ho,jr]) (Rel.gj (ws:=[]) hR hM hd (m:=0) (.one lA))
def NG {s:List UInt8} {i c:Nat} {x:D} (h:cellOf (D.c8 s) i c=some x):∃b,s[i]? = some b/\c=0/\x = .int .u8 b.toNat:=by
 obtain⟨r,h1,h2⟩:=kM.1 h;simp only[D.c8,bQ] at h1;cases hb:s[i]? with
 | none=>simp_all
 | some b=>
  simp only[hb,fJ,au] at h1;subst h1;cases c with
  | zero=>simp_all
  | succ c=>simp at h2
def nw (s:List UInt8):(D.c8 s).length=s.length:=by simp[D.c8]
def aeM (s:List UInt8):∀r∈D.c8 s,r.length=1:=by
 intro r hr;simp only[D.c8,kJ] at hr;obtain⟨b,_,rfl⟩:=hr;rfl
def strCells (s:List UInt8):Array Value:=(s.map λb=>Value.int .u8 b.toNat).toArray
def aj9 (R:Rel nm N S a w L) (hH:eA L) (hd:∀d,o.dst=some d->d < N) {t u e:TypeId} {x:Operand} {X:ax.X} (hx:bV nm X x) (ho:o.op = .convert t u x) (ht:P.underlying t=some .string) (hu:P.underlying u=some (.slice e)) (he:P.underlying e=some (.int .u8)) (Rb:e=5)
  (hr:(ch Cl d (.conv .UX X)).run S=some r):dx P a w o (dN nm N S w L a o.dst r.1 r.2):=by
 obtain⟨v1,h1,h2⟩:=Q.aL hr;have r1:=rd_val R hx h1;cases v1 with
 | one c=>
  cases c with
  | d z=>
   cases z with
   | str s=>
    obtain⟨hg,h3⟩:=Q.ec (b:=decide (s.length<=140737488355328)) (f:=λ_=>(pure (V.one (C.d (D.sl Tag.own 1 (D.c8 s))),[]):Q (V×List Wr))) h2;obtain rfl:=Q.aW h3;have e1:=r1.cB.r8;let cap:=grownCap w s.length 0 e;have eC:=grownCap_ge w s.length 0 e;let cur:=strCells s++Array.replicate (cap - s.length) (.int .u8 0);have eJ:cur.size=cap:=by simp[cur,strCells];omega
    let w':=(w.drew.alloc (.cells cur e)).freeze ⟨w.heap.size,cur.size,none⟩ 1;have Ax:w'.heap[w.heap.size]? = some (.cells cur e (cur.size,cur.size+1)):=by
     have h0:=ox w.drew (.cells cur e);simp only[World.size_drew] at h0;simp only[w',World.freeze,Nat.one_ne_zero,eX,BD,h0];simp
    have ly:∀B,B≠w.heap.size->w'.heap[B]? = w.heap[B]?:=by
     intro B hB;have h0:=mY w.drew (.cells cur e) (B:=B) hB;simp only[w',World.freeze,Nat.one_ne_zero,eX,BD];rw[aI (λe=>hB e.symm)];exact h0
    have gn:∀(i:Nat) b,s[i]? = some b->cur[i]? = some (Value.int .u8 b.toNat):=by
     intro i b hb;have hi:=(cd.1 hb).1;rw[Bz (by simp[strCells];exact hi)];simp[strCells,hb]
    obtain⟨hR,hM,lA⟩:=R.Mw (m:=0) (j:=0) (w':=w') (cap:=cap) (rows:=D.c8 s) (sz:=1) (val:=λi _=>Value.int .u8 (((s.getD i 0).toNat:Nat):Int)) (λB o hB=>hH.free 0 B _ o hB rfl) Ax ly (λj hj h=>by omega)
     ⟨rfl, rfl, rfl, by simp[w', World.freeze]⟩ (by omega) (aeM s) (by rw[nw]; omega) (by omega) (λi c x hx => by
       obtain⟨b, g1, rfl, rfl⟩ := NG hx
       simp_all) (λi c x hx => by
       obtain⟨b, g1, rfl, rfl⟩ := NG hx
       simp only[nY, g1, Option.getD_some]
       exact .plain .int) (λ_ => Rb)
    rw[nw] at lA;refine .val (v:=.slice (some ⟨w.heap.size,0,none⟩) s.length cap) (w':=w') ?_ (Rel.gj (ws:=[]) hR hM hd (m:=0) (.one lA));have:(convert t u (a.eval x)).run P w = .ok (.slice (some ⟨w.heap.size,0,none⟩) s.length cap) w':=by
     rw[e1];have Da:(w.drew.alloc (.cells cur e)).shape? w.heap.size=some (e,cur.size):=by
      have h0:=ox w.drew (.cells cur e);simp only[World.size_drew] at h0;unfold World.shape?;rw[h0]
     have vX:(⟨s.toArray⟩:ByteArray).data.map (λb=>Value.int .u8 b.toNat)=strCells s:=by
      simp[strCells]
     simp only[convert,Sem.run_bind,run_underlying ht,run_underlying hu,Result.andThen_ok,run_underlying he,Conv.stringToBytes,run_choose,Question.forced,BU,vX,newRow,run_newObj,Sem.run_pure,markStringish,run_shape,run_freeze];simp;rw[show (Question.cut (.appendCap s.length 0 e) (w.tape w.drawn (.appendCap s.length 0 e)))=cap from rfl];rw[show strCells s++Array.replicate (cap - s.length) (Value.int .u8 0)=cur from rfl,Da];rfl
    simp[execOp,ho,this]
   | _=>cases h2
  | _=>cases h2
 | _=>cases h2
def adK {sz B o cap:Nat} {rows:List (List D)} {cur:Array Value} {e:TypeId} {fz:Nat×Nat} {val:Nat->Nat->Value} (hB:w.heap[B]? = some (.cells cur e fz)) (hlen:∀r∈rows,r.length=sz)
  (hv:∀i c x,cellOf rows i c=some x->cur[o+i * sz+c]? = some (val i c)) (Kj:∀i c x,cellOf rows i c=some x->(val i c).oneCell'=true) :
  ∃news,Src P sz w (.slice (some ⟨B,o,none⟩) rows.length cap) rows.length news/\ph rows sz 0 news val:=by
 have hk:∀k,k < rows.length * sz->∃i c x,cellOf rows i c=some x/\k=i * sz+c/\cur[o+k]? = some (val i c):=by
  intro k hk;obtain⟨i,c,x,g1,g2,_,_⟩:=agT hlen hk;exact⟨i,c,x,g1,g2,by rw[g2,<-p9];simp_all⟩
 have RN:o+rows.length * sz<=cur.size\/rows.length * sz=0:=by
  rcases Oa (rows.length * sz) with h | h
  ·omega
  ·obtain⟨i,c,x,_,_,g⟩:=hk (rows.length * sz - 1) (by omega);have:=(lH.1 g).1;omega
 rcases RN with RN | h0
 ·refine⟨cur.extract o (o+rows.length * sz),⟨λw'=>by simp[Builtin.lenOf],λw' hw=>?_,by simp;omega,?_⟩,?_⟩
  ·exact adt (w:=w') (by rw[hw];exact hB) RN
  ·intro u hu;obtain⟨k,uH,kP⟩:=Array.mem_iff_getElem.1 hu;simp at uH;obtain⟨i,c,x,g1,g2,g3⟩:=hk k (by omega);have:u=val i c:=by
    rw[<-kP,Array.getElem_extract];rw[oZ (by omega)] at g3;simp_all
   simp_all
  ·intro i c x hx;obtain⟨h1,h2⟩:=og hlen hx;have:=wv h1 h2;rw[cQ,VH,aP (by omega),<-p9];simp_all
 ·refine⟨#[],⟨λw'=>by simp[Builtin.lenOf],λw' hw=>?_,by simp[h0],by simp⟩,?_⟩
  ·simp[Builtin.firstCells,loadCells,loadCellsFrom,h0]
  ·intro i c x hx;obtain⟨h1,h2⟩:=og hlen hx;have:=wv h1 h2;omega
def ako {w:World} {L L':aw} {pl tE:Place} {x:D} {v:Value} (h:bt w L pl x v) (hf:x.flat=true):bt w L' tE x v:=by
 cases h with
 | plain h=>cases h<;>first | exact .plain .int | exact .plain .bool | exact .plain .str | simp[D.flat] at hf
 | _=>simp[D.flat] at hf
def akk {rows:List (List D)} (h:sN rows=true) {i c:Nat} {x:D} (hx:cellOf rows i c=some x):x.flat=true:=by
 obtain⟨r,h1,h2⟩:=kM.1 hx;exact gY.1 (gY.1 h r (ff h1)) x (ff h2)
def asC (R:Rel nm N S a w L) {pl:Place} {g sz off len:Nat} {u:Value} (hv:bJ nm w L S.γ (.h 0) (.one (.view pl g sz off len)) u) {e0:mO} {x0:D} {rows:List (List D)} (h3:(jO [] pl g sz).run S=some (e0,x0,rows)) (hg:off+len<=rows.length) (hf:sN ((rows.drop off).take len)=true) :
  ∃news iO,Src P sz w u ((rows.drop off).take len).length news/\(∀r∈(rows.drop off).take len,r.length=sz)/\(∀L' tE,pe w L' tE ((rows.drop off).take len) iO)/\ph ((rows.drop off).take len) sz 0 news iO:=by
 have hlen:((rows.drop off).take len).length=len:=by rw[ud,zq];omega
 have empty:len=0->(∃b cap,u = .slice b 0 cap)->∃news iO,Src P sz w u ((rows.drop off).take len).length news/\(∀r∈(rows.drop off).take len,r.length=sz)/\(∀L' tE,pe w L' tE ((rows.drop off).take len) iO)/\ph ((rows.drop off).take len) sz 0 news iO:=by
  rintro rfl ⟨b,cap,rfl⟩;refine⟨#[],λ_ _=>undef,⟨λw'=>by simp[Builtin.lenOf],λw' _=>?_,by simp,by simp⟩,by simp,λ_ _ i c x hx=>by simp[cellOf] at hx,λi c x hx=>by simp[cellOf] at hx⟩;cases b<;>simp[Builtin.firstCells,loadCells,loadCellsFrom]
 cases hv.cB with
 | view iI hh gR hV=>
  obtain⟨kC,u0,s9⟩:=TJ R hh h3;rcases hV kC with⟨h0,a0,rfl⟩ | ⟨B,o,cap,cur,e,fz,rfl,aY,hL,hB,c6,uI,dU,_⟩
  ·simp_all
  ·rcases s9.nR with⟨pJ,_⟩ | ⟨B',o',zH,ei,e',xS,val,_,_,fY,dH,_,fO,QX,RM,cH,hr,dW⟩
   ·simp_all
   ·obtain rfl:=R.ey B' B pl o' o fY hL;obtain rfl:o'=o:=by simp_all
    have gn:∀i c x,cellOf ((rows.drop off).take len) i c=some x->cellOf rows (off+i) c=some x:=by
     intro i c x hx;obtain⟨rr,k1,k2⟩:=kM.1 hx;have jn:i < len:=by
      have:=(cd.1 k1).1;omega
     rw[zm jn,vr] at k1;exact kM.2 ⟨rr,k1,k2⟩
    have ew:∀r∈(rows.drop off).take len,r.length=sz:=λr gS=>fO r (N7 (EN gS))
    have lA:∀i c x,cellOf ((rows.drop off).take len) i c=some x->∀L' tE,bt w L' tE x (val (off+i) c):=λi c x hx L' tE=>
     ako (hr _ _ _ (gn i c x hx)) (akk hf hx)
    obtain⟨news,g1,g2⟩:=adK (P:=P) (w:=w) (B:=B') (o:=o'+off * sz) (cap:=cap) (rows:=(rows.drop off).take len) (val:=λi c=>val (off+i) c) dH ew
     (λi c x hx => by
       have := cH _ _ _ (gn i c x hx)
       rw[lJ] at this
       rw[show o' + off * sz + i * sz + c = o' + (off * sz + i * sz) + c by omega]
       omega)
     (λi c x hx=>(lA i c x hx L pl).wT)
    rw[hlen] at g1 ⊢;exact⟨news,_,g1,ew,λL' tE i c x hx=>lA i c x hx L' _,g2⟩
def aq' {γ:Key->Nat} {m:Nat} {tg:Tag} {sz da:Nat} {rows:List (List D)} {v:Value} (h:aC nm w L γ (.h m) 0 (.d (.sl tg da rows)) v) (hs:da=sz\/rows=[]) :
  ∃news iO,Src P sz w v rows.length news/\(∀r∈rows,r.length=sz)/\pe w L ⟨.h m,0,[]⟩ rows iO/\ph rows sz 0 news iO:=by
 have empty:rows=[]->(∃b cap,v = .slice b 0 cap)->∃news iO,Src P sz w v rows.length news/\(∀r∈rows,r.length=sz)/\pe w L ⟨.h m,0,[]⟩ rows iO/\ph rows sz 0 news iO:=by
  rintro rfl ⟨b,cap,rfl⟩;refine⟨#[],λ_ _=>undef,⟨λw'=>by simp[Builtin.lenOf],λw' _=>?_,by simp,by simp⟩,by simp,λi c x hx=>by simp[cellOf] at hx,λi c x hx=>by simp[cellOf] at hx⟩;cases b<;>simp[Builtin.firstCells,loadCells,loadCellsFrom]
 have full:∀(B o cap:Nat) (cur:Array Value) (e:TypeId) (fz:Nat×Nat) (val:Nat->Nat->Value),v = .slice (some ⟨B,o,none⟩) rows.length cap->da=sz->w.heap[B]? = some (.cells cur e fz)->(∀r∈rows,r.length=da)->
   (∀i c x,cellOf rows i c=some x->cur[o+i * da+c]? = some (val i c))->pe w L ⟨.h m,0,[]⟩ rows val->∃news iO,Src P sz w v rows.length news/\(∀r∈rows,r.length=sz)/\pe w L ⟨.h m,0,[]⟩ rows iO/\ph rows sz 0 news iO:=by
  rintro B o cap cur e fz val rfl rfl hB hlen hv hc;obtain⟨news,g1,g2⟩:=adK (P:=P) (cap:=cap) hB hlen hv (λi c x hx=>(hc i c x hx).wT);exact⟨news,val,g1,hlen,hc,g2⟩
 cases h with
 | d h=>
  cases h with
  | plain h=>
   cases h with
   | nil=>simp_all
   | mE=>simp_all
   | pl val aD aY eC hL hB hlen hv hr=>exact full _ _ _ _ _ _ val rfl (hs.resolve_right aD) hB hlen hv (λi c x hx=>.plain (hr i c x hx))
  | jg=>simp_all
  | own val aY hL hB c6 hlen eC dU hv hr=>
   rcases hs with hs | hs
   ·exact full _ _ _ _ _ _ val rfl hs hB hlen hv (λi c x hx=>by simp_all)
   simp_all
def qb.own {m sz:Nat} {rows:List (List D)} {v:Value} (h:qb w L ⟨.h m,0,[]⟩ sz rows ⟨.h m,0,[]⟩ v):bt w L ⟨.h m,0,[]⟩ (.sl .own sz rows) v:=by
 rcases h with⟨rfl,a,rfl⟩ | ⟨B,o,cap,cur,e,fz,n0,val,rfl,aY,hL,hB,c6,fO,eC,dU,cH,hd,dW⟩
 ·exact .jg
 ·refine .own val aY (hL.elim id id) hB c6 fO eC dU cH (λi c x hx=>?_) dW;simp_all
def qb.apV {m sz:Nat} {rows:List (List D)} {v:Value} (h:bt w L ⟨.h m,0,[]⟩ (.sl .own sz rows) v):qb w L ⟨.h m,0,[]⟩ sz rows ⟨.h m,0,[]⟩ v:=by
 rcases h.nR with⟨rfl,a,rfl⟩ | ⟨B,o,cap,cur,e,fz,val,rfl,aY,hL,hB,c6,fO,eC,dU,cH,hd,dW⟩
 ·exact .inl ⟨rfl,a,rfl⟩
 ·exact .inr ⟨B,o,cap,cur,e,fz,0,val,rfl,aY,.inl hL,hB,c6,fO,eC,dU,cH,λi c x hx=>by simp_all,dW⟩
def OL (M:cf nm N S0 w0 L0 ws a w L) {sz bytes:Nat} {v:V} {u x:Value} {src:List (List D)} {t ut ty e:TypeId} {i:TypeInfo} {dd:TypeDesc} {z:Value} (T:BH P sz bytes t ut e i dd z) (hv:mP nm w0 L0 S0.γ w L (S0.ai ws).γ 0 v u)
  {news:Array Value} {iO:Nat->Nat->Value} (hx:Src P sz w x src.length news) (na:∀r∈src,r.length=sz) (gG:pe w L ⟨.h 1,0,[]⟩ src iO) (ew:ph src sz 0 news iO)
  (hr:(xv sz bytes v ws src).run S0=some r) {dst:Option Nat} (hd:∀d,dst=some d->d < N) :
  ∃v' w',(Builtin.append_ #[t,ut] ty #[u,x]).run P w = .ok v' w'/\dN nm N S0 w0 L0 a dst r.1 r.2 v' w':=by
 unfold xv at hr;split at hr
 ·
  rename_i da rows;obtain⟨hg,h2⟩:=Q.ec hr;obtain rfl:=Q.aW h2;simp at hg;obtain⟨h8,rfl,hb⟩:=hg;have gM:=hv;cases gM with
  | d gM=>
   obtain⟨v',w',L',g1,g2,g3,g4,g5,_⟩:=I1 (ty:=ty) M.rel (by omega:(0:Nat)≠1) T (.inl (qb.apV gM)) (.inl rfl) hx na gG ew hb (.inl h8);exact⟨v',w',g1,(g5 rfl).gj (M.mono.trans g2) hd (m:=0) (.one (.d g3.own))⟩
 ·
  rename_i bn da rows;obtain⟨hg,h2⟩:=Q.ec hr;obtain rfl:=Q.aW h2;simp at hg;obtain⟨h8,⟨rfl,rfl⟩,hb⟩:=hg;have gM:=hv;cases gM with
  | d gM=>
   cases gM with
   | plain gM=>
    cases gM;cases src with
    | nil=>
     obtain⟨ht,hu,dD,hi,hz,ka,hzs,aY,mq,CP,_⟩:=T;have jr:=adX (ty:=ty) (w:=w) (b:=none) (sLen:=0) (sCap:=0) ht hu dD hi (by rw[ka];exact hx) (cp _);exact⟨_,w,jr,M.rel.gj M.mono hd (m:=0) (.one (.d (.plain (by simpa using fK.nil))))⟩
    | cons r0 rs=>
     obtain⟨v',w',L',g1,g2,g3,g4,g5,_⟩:=I1 (ty:=ty) (rows:=[]) (pl:=⟨.h 0,0,[]⟩) M.rel (by omega:(0:Nat)≠1) T (.inr ⟨rfl,by simp,rfl⟩) (.inl rfl) hx na gG ew (by simp_all) (.inr ⟨h8,rfl⟩);exact⟨v',w',g1,(g5 rfl).gj (M.mono.trans g2) hd (m:=0) (.one (.d g3.own))⟩
 ·
  rename_i pl g da off len;obtain⟨res,h3,h4⟩:=Q.aL hr;obtain⟨e',x',rows⟩:=res;obtain⟨rfl,kC,hE,hn⟩:=u4 h3;obtain⟨hg,h5⟩:=Q.ec h4;have h6:=Q.np h5;obtain rfl:=Q.aW h6;simp at hg;obtain⟨⟨⟨⟨⟨h8,rfl⟩,rfl⟩,rfl⟩,An⟩,hb⟩:=hg;obtain⟨f1,f2,f3⟩:=JO (S:=S0) An;have gM:=hv;cases gM with
  | view iI hh gR hV=>
   obtain⟨u0,s9⟩:=M.BS hh hE hn;have hA:qb w L pl da rows ⟨.h 0,0,[]⟩ u:=by
    rcases hV kC with⟨h0,a0,rfl⟩ | ⟨B,o,cap,cur,e',fz,rfl,aY,hL,hB,c6,hle,dU,QB⟩
    ·exact .inl ⟨p7.1 h0,a0,rfl⟩
    ·have uC:=(M.cU.view B pl o hh f1 hL).1;have hBw:=(M.heap B _ hL).trans hB;simp at dU ⊢;rcases s9.nR with⟨rfl,_⟩ | ⟨B',o',zH,ei,e2,xS,val,_,_,fY,dH,_,fO,QX,RM,cH,dV,dW⟩
     ·exact .inr ⟨B,o,cap,cur,e',fz,0,λ_ _=>undef,rfl,aY,.inl uC,hBw,c6,by simp,by simp,dU,λi c x hx=>by simp[cellOf] at hx,λi c x hx=>by simp[cellOf] at hx,λ_=>QB rfl rfl⟩
     ·obtain rfl:=M.rel.ey B' B pl o' o fY uC;obtain rfl:o'=o:=by simp_all
      obtain⟨rfl,rfl,rfl⟩:ei=cur/\e2=e'/\xS=fz:=by simp_all
      exact .inr ⟨B', o', cap, ei, e2, xS, rows.length, val, rfl, aY, .inl fY, dH, c6, fO, hle, dU, cH, λi c x hx => by
        rw[aP (og fO hx).1]; simp_all, dW⟩
   obtain⟨v',w',L',g1,g2,g3,g4,_,g5⟩:=I1 (ty:=ty) M.rel (by omega:(0:Nat)≠1) T (.inl hA) (.inr ⟨hh,x',rows,hE,hn,cp _⟩) hx na gG ew hb (.inl h8);refine⟨v',w',g1,Rel.gj (ws:={ k:=.a pl.k,v:=V.dead } :: ws) (g5 hh) (M.mono.trans g2) hd (m:=0) (.one (.cY g4 hh ?_ ?_ (λ_ _=>g3)))⟩
   ·rw[kC];exact St.xq S0 _ _
   ·show (S0.γ (.a pl.k))+1<=((S0.ai ws).wr { k:=.a pl.k,v:=V.dead }).γ (.a pl.k);rw[St.jX,f2];simp
 ·
  rename_i pl g aa da rows;obtain⟨res,h3,h4⟩:=Q.aL hr;obtain⟨e',x',dJ⟩:=res;obtain⟨rfl,kC,hE,hn⟩:=u4 h3;have h5:=Q.np h4;obtain⟨hg,h6⟩:=Q.ec h5;obtain rfl:=Q.aW h6;simp at hg;obtain⟨⟨⟨⟨⟨h8,rfl⟩,hold⟩,haa⟩,An⟩,hb⟩:=hg;obtain⟨f1,f2,f3⟩:=JO (S:=S0) An;have gM:=hv;cases gM with
  | cY iI hh gR Ah hV=>
   have hA:=hV (by omega) (by rw[f2];exact haa.symm);obtain⟨v',w',L',g1,g2,g3,g4,_,g5⟩:=I1 (ty:=ty) M.rel (by omega:(0:Nat)≠1) T (.inl hA) (.inr ⟨hh,x',dJ,hE,hn,hold⟩) hx na gG ew hb (.inl h8);refine⟨v',w',g1,Rel.gj (ws:={ k:=.a pl.k,v:=V.dead } :: ws) (g5 hh) (M.mono.trans g2) hd (m:=0) (.one (.cY g4 hh ?_ ?_ (λ_ _=>g3)))⟩
   ·rw[kC];exact St.xq S0 _ _
   ·show (S0.γ (.a pl.k))+1<=((S0.ai ws).wr { k:=.a pl.k,v:=V.dead }).γ (.a pl.k);rw[St.jX,f2];simp
 ·cases hr
end
end
section
section
variable {nm:FuncId->Option Nat} {N:Nat} {S S0:St} {a:Act} {w w0:World} {L L0:aw} {P:Program} {o:Oper} {Cl:bX} {d:Nat} {r:V×List Wr} {ws:List Wr}
def YX (R:Rel nm N S a w L) (hH:eA L) (hd:∀d,o.dst=some d->d < N) {x y:Operand} {X Y:ax.X} {t u e:TypeId} {sz bytes:Nat} {i:TypeInfo} {dd:TypeDesc} {z:Value} (hx:bV nm X x) (yo:X.iJ=true) (hy:bV nm Y y) (R7:Y.iJ=true)
  (ho:o.op = .call ⟨.builtin .append,#[x,y],#[t,u]⟩) (T:BH P sz bytes t u e i dd z) (hr:(ch Cl d (.app sz bytes X Y)).run S=some r):dx P a w o (dN nm N S w L a o.dst r.1 r.2):=by
 obtain⟨⟨av,eS⟩,h1,h2⟩:=Q.aL hr;obtain⟨⟨src,fu⟩,h3,h4⟩:=Q.aL h2;obtain⟨⟨v,xk⟩,h5,h6⟩:=Q.aL h4;obtain⟨L1,O1,V1⟩:=r9 (cf.init R) R (hH.free 1) R7 hy h1;dsimp only at h3 h5 h6 V1 O1;unfold rowsOf at h3;split at h3
 ·rename_i c;obtain⟨⟨c',auh⟩,h7,h8⟩:=Q.aL h3;have hV:=V1;obtain⟨L2,O2,R2⟩:=vh O1.mid hV h7;dsimp only at h8;split at h8
  ·rename_i tg da rows;obtain⟨hg,h9⟩:=Q.ec h8;have cz:=Q.aW h9;obtain⟨rfl,rfl⟩:=cz;have aY:=by simpa using hg
   have Re:=O2.free (O1.free (hH.free 0) (by omega)) (by omega);obtain⟨L3,O3,V3⟩:=r9 O2.mid R Re yo hx h5;have R3:=aC.keep (m:=1) (j:=0) O3.keep (λ_=>trivial) R2;obtain⟨news,iO,g1,g2,g3,g4⟩:=aq' (P:=P) (sz:=sz) R3 aY;obtain⟨v',w',g5,g6⟩:=OL (ty:=o.type) O3.mid T V3 g1 g2 g3 g4 h6 hd;refine .val ?_ g6;rw[execOp_builtin ho,show (#[x,y]:Array Operand).map a.eval = #[a.eval x,a.eval y] from by simp];exact xa g5
  ·cases h8
 ·cases h3
def ajE (R:Rel nm N S a w L) (hH:eA L) (hd:∀d,o.dst=some d->d < N) {x y:Operand} {X Y:ax.X} {t u e:TypeId} {sz bytes:Nat} {i:TypeInfo} {dd:TypeDesc} {z:Value} (hx:bV nm X x) (yo:X.iJ=true) (hy:bV nm Y y) (R7:Y.iJ=true)
  (ho:o.op = .call ⟨.builtin .append,#[x,y],#[t,u]⟩) (T:BH P sz bytes t u e i dd z) (hr:(ch Cl d (.BP sz bytes X Y)).run S=some r):dx P a w o (dN nm N S w L a o.dst r.1 r.2):=by
 obtain⟨av,h1,h2⟩:=Q.aL hr;split at h2
 ·have r1:=rd_val R hy h1;obtain⟨res,h3,h4⟩:=Q.aL h2;obtain⟨hg,h5⟩:=Q.ec h4;obtain⟨⟨v,xk⟩,h6,h7⟩:=Q.aL h5;simp at hg;obtain⟨⟨rfl,F5⟩,lP⟩:=hg;obtain⟨L3,O3,V3⟩:=r9 (cf.init R) R (hH.free 0) yo hx h6;obtain⟨news,iO,g1,g2,g3,g4⟩:=asC (P:=P) R r1 h3 F5 lP;obtain⟨v',w',g5,g6⟩:=OL (ty:=o.type) O3.mid T V3 g1 g2 (g3 _ _) g4 h7 hd;refine .val ?_ g6;rw[execOp_builtin ho,show (#[x,y]:Array Operand).map a.eval = #[a.eval x,a.eval y] from by simp];exact xa g5
 ·exact YX (Cl:=Cl) (d:=d) R hH hd hx yo hy R7 ho T h2
def ajD (R:Rel nm N S a w L) (hH:eA L) (hd:∀d,o.dst=some d->d < N) {x y:Operand} {X Y:ax.X} {t u e:TypeId} {i:TypeInfo} {dd:TypeDesc} {z:Value} (hx:bV nm X x) (yo:X.iJ=true) (hy:bV nm Y y)
  (ho:o.op = .call ⟨.builtin .append,#[x,y],#[t,u]⟩) (T:BH P 1 1 t u e i dd z) (hr:(ch Cl d (.BN X Y)).run S=some r):dx P a w o (dN nm N S w L a o.dst r.1 r.2):=by
 obtain⟨av,h1,h2⟩:=Q.aL hr;have r1:=rd_val R hy h1;split at h2
 ·rename_i s;obtain⟨⟨v,xk⟩,h5,h6⟩:=Q.aL h2;obtain⟨L3,O3,V3⟩:=r9 (cf.init R) R (hH.free 0) yo hx h5;have e1:=r1.cB.r8;have RO:Src P 1 w (.string ⟨s.toArray⟩) (D.c8 s).length (strCells s):=by
   refine⟨λw'=>by simp[Builtin.lenOf,BU,nw],λw' _=>?_,by simp[strCells,nw],?_⟩
   ·simp only[Builtin.firstCells,nw];have hex:(⟨s.toArray⟩:ByteArray).extract 0 s.length=⟨s.toArray⟩:=by
     apply ByteArray.ext;simp_all
    rw[hex];have:(⟨s.toArray⟩:ByteArray).data.map (λb=>Value.int .u8 b.toNat)=strCells s:=by
     simp[strCells]
    simp_all
   ·intro u hu;simp only[strCells,List.mem_toArray,kJ] at hu;obtain⟨b,_,rfl⟩:=hu;rfl
  obtain⟨v', w', g5, g6⟩ := OL (ty := o.type) O3.mid T V3 RO (aeM s) (iO := λi _ => Value.int .u8 (((s.getD i 0).toNat : Nat) : Int)) (λi c x hx => by
      obtain⟨b, g1, rfl, rfl⟩ := NG hx
      simp only[nY, g1, Option.getD_some]
      exact .plain .int) (λi c x hx => by
      obtain⟨b, g1, rfl, rfl⟩ := NG hx
      simp[strCells, nY, g1]) h6 hd
  refine .val ?_ g6;rw[execOp_builtin ho,show (#[x,y]:Array Operand).map a.eval = #[a.eval x,a.eval y] from by simp,e1];exact xa g5
 ·cases h2
def YZ (R:Rel nm N S a w L) (hH:eA L) (hd:∀d,o.dst=some d->d < N) {x:Operand} {X:ax.X} (hx:bV nm X x) (yo:X.iJ=true) (ho:o.op = .move x\/o.op = .assign x)
  (hr:(ch Cl d (.Mu X)).run S=some r):dx P a w o (dN nm N S w L a o.dst r.1 r.2):=by
 obtain⟨⟨v,eS⟩,h1,h2⟩:=Q.aL hr;obtain⟨L1,O1,V1⟩:=r9 (cf.init R) R (hH.free 0) yo hx h1;have hex:(execOp a.eval o).run P w = .ok (.value (a.eval x)) w:=by rcases ho with ho | ho<;>simp[execOp,ho]
 refine .val hex ?_;have plain:∀{r:V×List Wr},(pure (v,eS):Q (V×List Wr)).run S=some r->dN nm N S w L a o.dst r.1 r.2 (a.eval x) w:=by
  intro r h;obtain rfl:=Q.aW h;exact O1.mid.rel.gj O1.mid.mono hd (V1.rep O1.mid.cU)
 simp only at h2;unfold abU at h2;split at h2
 ·obtain⟨⟨c,fu⟩,h3,h4⟩:=Q.aL h2;obtain rfl:=Q.aW h4;obtain⟨L2,O2,R2⟩:=UB (m:=0) (j:=0) O1.mid V1 h3;exact O2.mid.rel.gj O2.mid.mono hd (m:=0) (.one R2)
 ·rename_i pl g sz off len;split at h2
  ·obtain⟨⟨c,fu⟩,h3,h4⟩:=Q.aL h2;obtain rfl:=Q.aW h4;obtain⟨L2,O2,R2⟩:=vh (m:=0) (j:=0) (c:=.view pl g sz off len) (v:=a.eval x) O1.mid V1 h3;exact O2.mid.rel.gj O2.mid.mono hd (m:=0) (.one R2)
  simp_all
 simp_all
def ac' {m:Nat} {mv:Bool} {r:aJ}:∀(cs:List C) {ws:List Wr} {L:aw} (M:cf nm N S0 w0 L0 ws a w L) (j0 c0:Nat) (vs:Nat->Value)
  (hc:∀j c,cs[j]? = some c->iS nm w0 L0 S0.γ w L (S0.ai ws).γ m (j0+j) c (vs (j0+j))) {rr:List C×List Wr} (hr:(putCells mv r ws c0 cs).run S0=some rr),
  ∃L',Out nm N S0 w0 L0 ws rr.2 a w L L' (λq=>¬ (q.k = .h m/\j0<=q.j)) m/\rr.1.length=cs.length/\(∀c∈cs,c≠.dead)/\
   ∀j c,rr.1[j]? = some c->aC nm w L' (S0.ai rr.2).γ (.h m) (j0+j) c (vs (j0+j))
 | [],ws,L,M,j0,c0,vs,hc,rr,hr=>by
  obtain rfl:=Q.aW hr;exact⟨L,Out.refl M _ m,rfl,λc h=>by simp at h,λj c h=>by simp at h⟩
 | c::cs,ws,L,M,j0,c0,vs,hc,rr,hr=>by
  obtain⟨⟨c1,eS⟩,h1,h2⟩:=Q.aL hr;obtain⟨⟨Fk,fu⟩,h3,h4⟩:=Q.aL h2;obtain rfl:=Q.aW h4;have cZ:=hc 0 c rfl;have mn:c≠.dead:=by
   rintro rfl;cases mv<;>simp[M0,oW,oV,st] at h1
  obtain⟨L1,O1,R1⟩:∃L',Out nm N S0 w0 L0 ws eS a w L L' (λq=>¬ (q.k = .h m/\q.j=j0)) m/\aC nm w L' (S0.ai eS).γ (.h m) j0 c1 (vs j0):=by
   cases mv with
   | true=>exact NC M cZ h1
   | false=>exact UP M cZ h1
  obtain⟨L2, O2, hl, nL, R2⟩ := ac' cs O1.mid (j0 + 1) (c0 + 1) vs (λj c h => by
    have := hc (j + 1) c (by simp_all)
    have := this.keep O1.keep (λp => by simp)
    rwa[show j0 + 1 + j = j0 + (j + 1) by omega]) h3
  refine⟨L2,(O1.weaken ?_).trans (O2.weaken ?_),by simp[hl],?_,?_⟩
  ·intro q hq h;simp_all
  ·intro q hq h;exact hq ⟨h.1,by omega⟩
  ·simp_all
  ·intro j y hj;cases j with
   | zero=>
    simp at hj;subst hj;exact R1.keep O2.keep (λp=>by simp)
   | succ j=>
    have:=R2 j y (by simp_all);rwa[show j0+1+j=j0+(j+1) by omega] at this
def Zd {m:Nat} {Pl:Place} {i:Nat}:∀(cs:List C) {ws:List Wr} {L:aw} (M:cf nm N S0 w0 L0 ws a w L) (j0 c0:Nat) (vs:Nat->Value)
  (hc:∀j c,cs[j]? = some c->iS nm w0 L0 S0.γ w L (S0.ai ws).γ m (j0+j) c (vs (j0+j))) {rr:List D×List Wr} (hr:(Fy Pl i ws c0 cs).run S0=some rr),
  ∃L',Out nm N S0 w0 L0 ws rr.2 a w L L' (λq=>¬ (q.k = .h m/\j0<=q.j)) m/\rr.1.length=cs.length/\(∀c∈cs,c≠.dead)/\
   ∀j c,rr.1[j]? = some c->aC nm w L' (S0.ai rr.2).γ (.h m) (j0+j) (.d c) (vs (j0+j))
 | [],ws,L,M,j0,c0,vs,hc,rr,hr=>by
  obtain rfl:=Q.aW hr;exact⟨L,Out.refl M _ m,rfl,λc h=>by simp at h,λj c h=>by simp at h⟩
 | c::cs,ws,L,M,j0,c0,vs,hc,rr,hr=>by
  obtain⟨⟨c1,eS⟩,h1,h2⟩:=Q.aL hr;have cZ:=hc 0 c rfl;have mn:c≠.dead:=by
   rintro rfl;simp[oV,st] at h1
  obtain⟨L1,O1,R1⟩:=UP M cZ h1;simp only at h2;split at h2
  ·obtain⟨⟨Fk,fu⟩,h3,h4⟩:=Q.aL h2;obtain rfl:=Q.aW h4
   obtain⟨L2, O2, hl, nL, R2⟩ := Zd cs O1.mid (j0 + 1) (c0 + 1) vs (λj c h => by
     have := hc (j + 1) c (by simp_all)
     have := this.keep O1.keep (λp => by simp)
     rwa[show j0 + 1 + j = j0 + (j + 1) by omega]) h3
   refine⟨L2,(O1.weaken ?_).trans (O2.weaken ?_),by simp[hl],?_,?_⟩
   ·intro q hq h;simp_all
   ·intro q hq h;exact hq ⟨h.1,by omega⟩
   ·simp_all
   ·intro j y hj;cases j with
    | zero=>
     simp at hj;subst hj;exact R1.keep O2.keep (λp=>by simp)
    | succ j=>
     have:=R2 j y (by simp_all);rwa[show j0+1+j=j0+(j+1) by omega] at this
  ·cases h2
def aj8 (R:Rel nm N S a w L) (hH:eA L) (hd:∀d,o.dst=some d->d < N) {x v:Operand} {X V':ax.X} {t:TypeId} {mv:Bool} {n:Nat} (hx:bV nm X x) (hv:bV nm V' v) (hvo:V'.iJ=true)
  (ho:o.op = .store t x v) (ht:jT P t=some n) (hn:n≠0) (hr:(ch Cl d (.store mv n X V')).run S=some r):dx P a w o (dN nm N S w L a o.dst r.1 r.2):=by
 obtain⟨p,h1,h2⟩:=Q.aL hr;obtain⟨⟨vv,eS⟩,h3,h4⟩:=Q.aL h2;obtain⟨hg,h5⟩:=Q.ec h4;simp at hg;have rp:=rd_val R hx h1;obtain⟨L1,O1,V1⟩:=r9 (cf.init R) R (hH.free 0) hvo hv h3;dsimp only at V1 O1 hg h5;have qv:∀vs,vv≠.ao vs:=by rintro vs rfl;exact hn (by rw[<-hg];rfl)
 have run:∀(B o':Nat),a.eval x = .pointer (some ⟨B,o',none⟩)->(a.eval v).cells.size=n->(∀j,j < n->(w.cell? ⟨B,o'+j,none⟩).isSome=true)->(∀j,j < n->w.frozen? ⟨B,o'+j,none⟩=false)->(∀u∈(a.eval v).cells.toList,u.oneCell'=true)->
   (execOp a.eval o).run P w = .ok .skip (w.setCells B o' (a.eval v).cells.toList):=by
  intro B o' hb hs hc hf h1;have bF:=run_storeCells_cells (P:=P) B o' (a.eval v).cells.toList 0 w (by simp_all) (by simp_all) h1;have:(Instr.storeAt t (a.eval x) (a.eval v)).run P w = .ok () (w.setCells B o' (a.eval v).cells.toList):=by
   rw[hb];simp[Instr.storeAt,Instr.sureAddr,storeVar,y7 ht,hs,bF]
  simp[execOp,ho,this]
 have abx:∀(nL:∀c∈vv.cells,c≠.dead),(a.eval v).cells.size=n/\(∀j c,vv.cells[j]? = some c->iS nm w L S.γ w L1 (S.ai eS).γ 0 (0+j) c ((a.eval v).cells.getD (0+j) undef))/\(∀u∈(a.eval v).cells.toList,u.oneCell'=true):=by
  intro nL;obtain⟨c1,c2⟩:=V1.cells O1.mid.cU qv nL;refine⟨by omega,λj c hc=>?_,λu hu=>?_⟩
  ·have hj:j < (a.eval v).cells.size:=by rw[<-c1];exact(cd.1 hc).1
   simp_all
  ·obtain⟨j,hj,Z5⟩:=List.mem_iff_getElem.1 hu;have yf:=by simpa using hj
   have hcj:j < vv.cells.length:=by omega
   have:=c2 j vv.cells[j] u (by simp) (by simp_all);exact(this.rep O1.mid.cU).wT (nL _ (bU hcj))
 split at h5
 ·
  rename_i r0 g c;obtain⟨⟨cs,fu⟩,h6,h7⟩:=Q.aL h5;rw[Q.run_bind,vI,Option.bind_some] at h7;obtain⟨lP,h8⟩:=Q.ec h7;obtain rfl:=Q.aW h8;simp at lP;obtain⟨⟨hG,kC⟩,uE⟩:=lP;have mn:=by
   have aux:∀(l:List C) (ws:List Wr) (c0:Nat) (rr:List C×List Wr),(putCells mv r0 ws c0 l).run S=some rr->∀c∈l,c≠.dead:=by
    intro l;induction l with
    | nil=>simp_all
    | cons y l ih=>
     intro ws c0 rr h c hc;obtain⟨r1,g1,g2⟩:=Q.aL h;obtain⟨r2,g3,_⟩:=Q.aL g2;rcases ik.1 hc with rfl | hc
     ·rintro rfl;cases mv<;>simp[M0,oW,oV,st] at g1
     ·exact ih _ _ _ g3 c hc
   exact aux _ _ _ _ h6
  obtain⟨hs,Gf,Kj⟩:=abx mn;obtain⟨L2,O2,ew,_,R2⟩:=ac' (m:=0) vv.cells O1.mid 0 c (λj=>(a.eval v).cells.getD j undef) Gf h6;dsimp only at O2 R2 ew;cases rp.cB with
  | ptr iI gR hp=>
   obtain⟨B,o',hB,cH⟩:=hp kC.symm;have qZ:=O2.mid.boxes B r0 o' hB;obtain⟨B',fm,cur,e,fz,k1,k2,k3,k4⟩:=O2.mid.rel.room r0 hG (by omega);obtain rfl:=O2.mid.rel.fy B' B r0 fm o' k1 qZ;obtain rfl:fm=o':=by simp_all
   obtain⟨L3, hR, hM, _, _⟩ := Rel.Xg (m := 0) hG cs (a.eval v).cells.toList 0 c (S := S) (ws := fu) O2.mid.rel qZ (by simp; omega) (by omega) (by
     intro j y u hy hu
     have := R2 j y hy
     simp_all)
   refine .skip (run B' (fm+c) cH hs (λj hj=>?_) (λj hj=>?_) Kj) (hR.gj (O2.mid.mono.trans hM) hd (m:=0) (.ao (us:=#[]) rfl rfl (λi x u h=>by simp at h)))
   ·rw[qW k2];simp;omega
   ·exact Qs k2 k3 (by omega)
 ·
  rename_i pl g sz i c;obtain⟨⟨zs,fu⟩,h6,h7⟩:=Q.aL h5;obtain⟨⟨e,x0,rows⟩,h8,h9⟩:=Q.aL h7;obtain⟨rfl,kC,hE,yj⟩:=u4 h8;obtain⟨row,dr,cz⟩:=Q.gy h9;obtain⟨lP,fT⟩:=Q.ec cz;simp at lP;obtain⟨xk,uN,gl⟩:=Q.gy fT;obtain rfl:=Q.aW gl;have mn:=by
   have aux:∀(l:List C) (ws:List Wr) (c0:Nat) (rr:List D×List Wr),(Fy pl i ws c0 l).run S=some rr->∀c∈l,c≠.dead:=by
    intro l;induction l with
    | nil=>simp_all
    | cons y l ih=>
     intro ws c0 rr h c hc;obtain⟨⟨y1,wsy⟩,g1,g2⟩:=Q.aL h;rcases ik.1 hc with rfl | hc
     ·rintro rfl;simp[oV,st] at g1
     ·simp only at g2;split at g2
      ·obtain⟨r2,g3,_⟩:=Q.aL g2;exact ih _ _ _ g3 c hc
      ·cases g2
   exact aux _ _ _ _ h6
  obtain⟨hs,Gf,Kj⟩:=abx mn;obtain⟨L2,O2,ew,_,R2⟩:=Zd (m:=0) vv.cells O1.mid 0 c (λj=>(a.eval v).cells.getD j undef) Gf h6;dsimp only at O2 R2 ew;cases rp.cB with
  | eB iI hh gR hp=>
   obtain⟨B,o',hB,cH⟩:=hp kC;obtain⟨u0,s9⟩:=O2.mid.BS hh hE yj;rcases s9.nR with⟨pJ,_⟩ | ⟨B',fm,cap,cur,e',fz,val,_,aY,fY,dH,c6,fO,eC,dU,Dc,dV,dW⟩
   ·simp_all
   have uB:=O2.mid.rows B' pl fm hh fY;obtain rfl:=O2.mid.wC B' B pl fm o' uB hB;obtain rfl:fm=o':=by simp_all
   dsimp only at eC fO fY dH Dc yj hE dr uN;have hi:=(cd.1 dr).1;have iu:=fO row (ff dr);have qq:=by
    have:(i+1) * sz<=cap * sz:=p8 _ (by omega);rwa[lJ,Nat.one_mul] at this
   obtain⟨L3, hR, hM, _⟩ := Rel.YA (m := 0) (sz := sz) (i := i) hh zs (a.eval v).cells.toList 0 c x0 (S0 := S) (ws := fu) (e8 := xk) O2.mid.rel hE ⟨rows, yj⟩ fY (by simp; omega) uN (by
     intro j y u hy hu
     have := R2 j y hy
     simp_all)
   refine .skip (run B' (fm+i * sz+c) cH hs (λj hj=>?_) (λj hj=>?_) Kj) (hR.gj (O2.mid.mono.trans hM) hd (m:=0) (.ao (us:=#[]) rfl rfl (λi x u h=>by simp at h)))
   ·rw[qW dH];simp;omega
   ·exact Qs dH c6 (by omega)
 ·cases h5
def arV {c:C} {k:Key} {j:Nat} {v:Value} {γ:Key->Nat} {rr:C×List Wr} (h:(st ws c).run S=some rr) (hc:c.clean=true):rr.1.clean=true:=by
 cases c with
 | view pl g sz off len=>
  obtain⟨res,h1,h2⟩:=Q.aL h;obtain⟨_,h3⟩:=Q.ec h2;obtain rfl:=Q.aW h3;rfl
 | cY=>simp[C.clean] at hc
 | mp=>simp[C.clean] at hc
 | gq=>simp[st] at h
 | eB=>simp[st] at h
 | bz=>simp[st] at h
 | dead=>simp[st] at h
 | _=>obtain rfl:=Q.aW h;exact hc
def JM (R0:Rel nm N S0 a w0 L0):∀(xs:List ax.X) (ps:List Operand) {ws:List Wr} {L:aw} (M:cf nm N S0 w0 L0 ws a w L) (hp:xs.length=ps.length) (hx:∀(j:Nat) X x,xs[j]? = some X->ps[j]? = some x->bV nm X x/\X.iJ=true) {rr:List C×List Wr} (hr:(FC ws xs).run S0=some rr),
  ∃L',Out nm N S0 w0 L0 ws rr.2 a w L L' (λq=>q.k≠.h 0) 0/\rr.1.length=xs.length/\jZ rr.1=true/\∀(j:Nat) c x,rr.1[j]? = some c->ps[j]? = some x->aC nm w L' (S0.ai rr.2).γ (.h 0) 0 c (a.eval x)
 | [],[],ws,L,M,hp,hx,rr,hr=>by
  obtain rfl:=Q.aW hr;exact⟨L,Out.refl M _ 0,rfl,rfl,λj c x h=>by simp at h⟩
 | X::xs,x::ps,ws,L,M,hp,hx,rr,hr=>by
  obtain⟨v,h1,h2⟩:=Q.aL hr;obtain⟨hX,CM⟩:=hx 0 X x rfl rfl;have rv:=rd_val R0 hX h1;have aU:=Nc CM h1;split at h2
  ·rename_i c;obtain⟨⟨c1,eS⟩,h3,h4⟩:=Q.aL h2;obtain⟨⟨cs,fu⟩,h5,h6⟩:=Q.aL h4;obtain rfl:=Q.aW h6;have ZL:=MQ (j:=0) aU rfl;have cZ:=rv.cB.uv ZL;obtain⟨L1,O1,R1⟩:=vh (m:=0) (j:=0) M (iS.A0 M.cU rv.cB ZL) h3;obtain⟨L2,O2,hl,akW,R2⟩:=JM R0 xs ps O1.mid (by simp_all) (λj X x h1 h2=>hx (j+1) X x (by simp_all) (by simp_all)) h5;have dM:=arV (k:=.h 0) (j:=0) (v:=undef) (γ:=S0.γ) h3 cZ;refine⟨L2,(O1.weaken (λq hq h=>hq h.1)).trans O2,by simp[hl],by simp[jZ,dM,akW],?_⟩;intro j y z hj hz;cases j with
   | zero=>
    simp at hj hz;subst hj;subst hz;exact R1.rZ O2.cU dM _ _
   | succ j=>exact R2 j y z (by simp_all) (by simp_all)
  ·cases h2
 | [],_::_,_,_,_,hp,_,_,_=>by simp at hp
 | _::_,[],_,_,_,hp,_,_,_=>by simp at hp
def ajY (R:Rel nm N S a w L) (hH:eA L) (hd:∀d,o.dst=some d->d < N) {cj f:Nat} {first cap:Array Operand} {xs ys:List ax.X} (j8:f < kN) (hf:nm cj=some f) (hp1:xs.length=first.toList.length) (wq:∀(j:Nat) X x,xs[j]? = some X->first.toList[j]? = some x->bV nm X x/\X.iJ=true)
  (Kl:ys.length=cap.toList.length) (Gz:∀(j:Nat) X x,ys[j]? = some X->cap.toList[j]? = some x->bV nm X x/\X.iJ=true) (ho:o.op = .makeFunc (.func cj) first cap)
  (hr:(ch Cl d (.S6 f xs ys)).run S=some r):dx P a w o (dN nm N S w L a o.dst r.1 r.2):=by
 obtain⟨⟨fa,eS⟩,h1,h2⟩:=Q.aL hr;obtain⟨⟨fb,fu⟩,h3,h4⟩:=Q.aL h2;obtain rfl:=Q.aW h4;obtain⟨L1,O1,jI,dM,R1⟩:=JM R xs first.toList (cf.init R) hp1 wq h1;obtain⟨L2,O2,ew,gG,R2⟩:=JM R ys cap.toList O1.mid Kl Gz h3;have Kb:fa.length=xs.length:=jI;have atF:fb.length=ys.length:=ew;refine .val (v:=.func (.func cj) (first.map a.eval) (cap.map a.eval)) (w':=w) ?_ (O2.mid.rel.gj O2.mid.mono hd (m:=0) (.one (.fn j8 hf (by simp_all) (by simp_all) ⟨dM,gG⟩ ?_ ?_)))
 ·simp[execOp,ho,Instr.makeFunc]
 ·intro j x u h5 h6;rw[IE] at h6;cases hj:first[j]? with
  | none=>simp_all
  | some y=>
   simp only[hj,fJ,au] at h6;subst h6;exact(R1 j x y h5 (by simp_all)).rZ O2.cU (jG dM h5) _ _
 ·intro j x u h5 h6;rw[IE] at h6;cases hj:cap[j]? with
  | none=>simp_all
  | some y=>
   simp only[hj,fJ,au] at h6;subst h6;exact R2 j x y h5 (by simp_all)
end
end
section
section
variable {nm:FuncId->Option Nat} {N:Nat} {S S0:St} {a:Act} {w w0:World} {L L0:aw} {P:Program} {o:Oper} {Cl:bX} {d:Nat} {r:V×List Wr} {ws:List Wr}
def ajC (R:Rel nm N S a w L) (hd:∀d,o.dst=some d->d < N) {t:TypeId} {z1:C} (ho:o.op = .alloc t) (hz:p5 P t=some [.c7,z1])
  (hr:(ch Cl d (.OH t [.c7,z1])).run S=some r):dx P a w o (dN nm N S w L a o.dst r.1 r.2):=by
 obtain⟨⟨v,ws0⟩,h1,h2⟩:=Q.aL hr;obtain rfl:=Q.aW h2;obtain⟨i,z,k1,k2,k3,k4,k5⟩:=Bx hz;unfold boxed at h1;rw[Q.run_bind,vI,Option.bind_some] at h1;obtain⟨hg,h3⟩:=Q.ec h1;have h4:=Q.aW h3;obtain⟨rfl,rfl⟩:=h4;have hn:=by
  simpa using hg
 obtain⟨R1,hm,_⟩:=Rel.tq (S:=S) (ws:=[]) (w:=w) R (m:=0) (r:=.l d) (cs:=[.c7,z1]) (vs:=z.cells) (e:=t) rfl (by simp) k3.symm hn
  (λj x v hx hv=>(k5 j x v hx hv).rep _ _ _ _ _)
 have yq:z.cells[0]? = some (.pointer none):=by
  have af:0 < z.cells.size:=by rw[k3];simp
  obtain⟨u,hu⟩:∃u,z.cells[0]? = some u:=⟨_,oZ af⟩
  have:=(k5 0 .c7 u rfl hu).rep (nm:=λ_=>none) w L (λ_=>0) (.h 0) 0;cases this;exact hu
 have hγ:S.γ (.r (.l d))+1<=(S.ai ({ k:=.b (.l d) 0,v:=.one (.bz t) } :: gC (.l d) 0 [.c7,z1] [{ k:=.r (.l d),v:=fR [C.c7,z1].length }])).γ (.r (.l d)):=by
  simp only[St.ai,gC,St.jX];simp
 have R2:=by
  refine R1.Iz { k:=.b (.l d) 0,v:=.one (.bz t) } _ rfl (λ_ h=>h) (λ_ _ _ _ _ h=>h) (λ_ _ _ h=>h) ?_ (λB l h=>⟨l,h⟩) R1.ey (λ_ _ _ h=>h);refine⟨.bz t,rfl,λ_=>⟨?_,?_⟩⟩
  ·simp only[gC,St.ai,St.il];simp[qU]
  ·exact⟨w.heap.size,0,z.cells,t,(0,0),.pointer none,zE,ox w _,λj _=>by simp,yq,.bz ⟨_,_,rfl⟩ rfl,rfl,rfl,rfl,k3,.inl rfl⟩
 refine .val (v:=.pointer (some ⟨w.heap.size,0,none⟩)) (w':=w.alloc (.cells z.cells t)) ?_ (R2.gj ((dc.refl w L).trans hm) hd (m:=0) (.one (.ptr ⟨_,rfl⟩ hγ (λ_=>⟨_,0,zE,rfl⟩))));have:(Instr.alloc t true (.tuple #[])).run P w = .ok (.pointer (some ⟨w.heap.size,0,none⟩)) (w.alloc (.cells z.cells t)):=by
  simp[Instr.alloc,zeroValue,typeInfo,k1,k2,newVar,newRow]
 simp[execOp,ho,this]
def agx {S0:St} {w0:World} {L0:aw} {ws:List Wr} (M:cf nm N S0 w0 L0 ws a w L) {m:Nat} {z1:C} {vs:Array Value} {e:TypeId} (hl:[C.c7,z1].length=vs.size)
  (hx:∀(j:Nat) x v,[C.c7,z1][j]? = some x->vs[j]? = some v->aC nm w L (S0.ai ws).γ (.h m) j x v) {r:V×List Wr} (hr:(boxed d [C.c7,z1] ws).run S0=some r) {dst:Option Nat} (hd:∀d,dst=some d->d < N) :
  dN nm N S0 w0 L0 a dst r.1 ({ k:=.b (.l d) 0,v:=.one (.bz e) } :: r.2) (.pointer (some ⟨w.heap.size,0,none⟩)) (w.alloc (.cells vs e)):=by
 unfold boxed at hr;rw[Q.run_bind,vI,Option.bind_some] at hr;obtain⟨hg,h2⟩:=Q.ec hr;obtain rfl:=Q.aW h2;have hn:=by simpa using hg
 obtain⟨R1,hm,_⟩:=M.rel.tq (r:=.l d) (cs:=[.c7,z1]) (vs:=vs) (e:=e) rfl (by simp) hl hn hx;have yq:vs[0]? = some (.pointer none):=by
  have af:0 < vs.size:=by rw[<-hl];simp
  obtain⟨u,hu⟩:∃u,vs[0]? = some u:=⟨_,oZ af⟩
  have:=hx 0 .c7 u rfl hu;cases this;exact hu
 have hγ:S0.γ (.r (.l d))+1<=(S0.ai ({ k:=.b (.l d) 0,v:=.one (.bz e) } :: gC (.l d) 0 [.c7,z1] ({ k:=.r (.l d),v:=fR [C.c7,z1].length } :: ws))).γ (.r (.l d)):=by
  refine iD (iD ?_ (Ca S0 (.l d) [.c7,z1] 0 ({ k:=.r (.l d),v:=fR [C.c7,z1].length } :: ws) (.r (.l d))).2.2.2) (St.qa _ _ _);simp only[St.ai,St.jX,dj];have:=St.xq S0 ws (.r (.l d));simp;omega
 have Ab:cr ((S0.ai (gC (.l d) 0 [.c7,z1] ({ k:=.r (.l d),v:=fR [C.c7,z1].length } :: ws))).E (.r (.l d)))=2:=by
  rw[((Ca S0 (.l d) [.c7,z1] 0 ({ k:=.r (.l d),v:=fR [C.c7,z1].length } :: ws) (.r (.l d))).2.1 (λc hc e=>by cases e)).1];simp only[St.ai,St.il,dj,qU];rfl
 have R2:=by
  refine R1.Iz { k:=.b (.l d) 0,v:=.one (.bz e) } _ rfl (λ_ h=>h) (λ_ _ _ _ _ h=>h) (λ_ _ _ h=>h) ?_ (λB l h=>⟨l,h⟩) R1.ey (λ_ _ _ h=>h);refine⟨.bz e,rfl,λ_=>⟨?_,?_⟩⟩
  ·omega
  ·exact⟨w.heap.size,0,vs,e,(0,0),.pointer none,zE,ox w _,λj _=>by simp,yq,.bz ⟨_,_,rfl⟩ rfl,rfl,rfl,rfl,hl.symm,.inl rfl⟩
 exact R2.gj (M.mono.trans hm) hd (.one (.ptr (k:=.h 0) ⟨_,rfl⟩ hγ (λ_=>⟨_,0,zE,rfl⟩)))
def ajH (R:Rel nm N S a w L) (hH:eA L) (hd:∀d,o.dst=some d->d < N) {t:TypeId} {n:Nat} {x:Operand} {X:ax.X} (hx:bV nm X x) (bh:X.iJ=true) (ho:o.op = .box t x) (hn:n≠0)
  (hr:(ch Cl d (.OZ t n X)).run S=some r):dx P a w o (dN nm N S w L a o.dst r.1 r.2):=by
 obtain⟨⟨v,eS⟩,h1,h2⟩:=Q.aL hr;obtain⟨⟨cs,fu⟩,h3,h4⟩:=Q.aL h2;obtain⟨hg,h5⟩:=Q.ec h4;simp at hg;obtain⟨L',O,hl,hc⟩:=MT (mv:=false) (cf.init R) R (m:=0) (λB q o hB e=>by have:=hH B q o hB;rw[e] at this;simp[Key.aT] at this) hx bh h1 h3 (by omega);dsimp only at h5;split at h5
 ·obtain⟨⟨r1,xk⟩,h6,h7⟩:=Q.aL h5;obtain rfl:=Q.aW h7;refine .val (v:=.pointer (some ⟨w.heap.size,0,none⟩)) (w':=w.alloc (.cells (a.eval x).cells t)) ?_ (agx O.mid hl hc h6 hd);have:(Instr.box t (a.eval x)).run P w = .ok (.pointer (some ⟨w.heap.size,0,none⟩)) (w.alloc (.cells (a.eval x).cells t)):=by
   simp[Instr.box,newVar,newRow]
  simp[execOp,ho,this]
 ·cases h5
def aj5 (R:Rel nm N S a w L) (hd:∀d,o.dst=some d->d < N) {x:Operand} {X:ax.X} {t:TypeId} (hx:bV nm X x)
  (ho:o.op = .call ⟨.builtin .unsafeSliceData,#[x],#[t]⟩) (hr:(ch Cl d (.Ux X)).run S=some r):dx P a w o (dN nm N S w L a o.dst r.1 r.2):=by
 obtain⟨v,h1,h2⟩:=Q.aL hr;have hv:=rd_val R hx h1;split at h2
 ·obtain⟨hg,h3⟩:=Q.ec h2;obtain rfl:=Q.aW h3;simp at hg;obtain⟨rj,rfl⟩:=hg;cases hv.cB with
  | view iI hh gR hV=>
   obtain⟨b,cap,q8,hle,hb⟩:=iI;obtain⟨ad,rfl⟩:=zk.1 hb;have xX:cap≠0:=by omega
   refine fp R hd (v:=.pointer (some ad)) ?_ (.one (.eB ⟨_,rfl⟩ hh gR ?_))
   ·rw[execOp_builtin ho,show (#[x]:Array Operand).map a.eval = #[a.eval x] from by simp,q8];exact xa (Lib.run_unsafeSliceData_row _ _ _ _ _ _ xX)
   ·intro kC;rcases hV kC with⟨h0,_⟩ | ⟨B,o',zH,cur,e,fz,ou,_,hL,_⟩
    ·omega
    ·rw[q8] at ou;simp at ou;refine⟨B,o',hL,?_⟩;rw[ou.1];simp
 ·cases h2
def aps {e:TypeId} (hc:P.cellsOf e=1) (count off n:Nat) (hn:off+n<=count):liesAt P P.depth e count off e n=true:=by
 have hd:P.depth=(2 * (P.types.size+Made.depth)+1)+1:=rfl;rw[hd];simp only[liesAt,IG];left;rw[hd];simp[rowAt,hc,hn,sameLayout];omega
def aro {pt it ty e:TypeId} (hp:P.underlying pt=some (.pointer e)) (hc:P.cellsOf e=1) {B off cells:Nat} (Da:w.shape? B=some (e,cells)) {n:Nat} {k:IntKind} (h0:n≠0) (hn:off+n<=cells) (h63:n<=9223372036854775807) {s:ByteArray}
  (Gg:(loadBytes ⟨B,off,none⟩ .empty n).run P w = .ok s w) :
  (Builtin.unsafeString_ #[pt,it] ty #[.pointer (some ⟨B,off,none⟩),.int k n]).run P w = .ok (.string s) (w.freeze ⟨B,off,none⟩ n):=by
 have alf:=aps (P:=P) hc (cells / P.cellsOf e) off n (by rw[hc];omega);have akK:¬ (9223372036854775807:Int) < (n:Int):=by omega
 have Kf:IntKind.i64.max=9223372036854775807:=rfl;have alm:¬ (n:Int) < 0:=by omega
 rw[show Builtin.unsafeString_ #[pt,it] ty #[.pointer (some ⟨B,off,none⟩),.int k n]=(asInt (.int k n) >>= _) from rfl];simp[asInt,asIntOf,Kf,akK,alm,h0,variablesAt,Da,elemOf,run_underlying hp,alf,Gg]
def abA {B:Nat}:∀(n off:Nat) (acc:ByteArray) (l:List UInt8),l.length=n->(∀i b,l[i]? = some b->∃m,w.cell? ⟨B,off+i,none⟩=some (.int .u8 m)/\b=UInt8.ofNat m.toNat)->
  (loadBytes ⟨B,off,none⟩ acc n).run P w = .ok ⟨acc.data++l.toArray⟩ w
 | 0,off,acc,l,hl,h=>by
  have:=p7.1 hl;subst this;simp[loadBytes]
 | n+1,off,acc,[],hl,h=>by cases hl
 | n+1,off,acc,b::t,hl,h=>by
  obtain⟨m,h1,rfl⟩:=h 0 b rfl;rw[mN] at h1
  have ih := abA (B := B) n (off + 1) (acc.push (UInt8.ofNat m.toNat)) t (by simpa using hl) (λi b' hb => by
    obtain⟨m', g1, g2⟩ := h (i + 1) b' (by simpa using hb)
    exact⟨m', by rw[show off + 1 + i = off + (i + 1) by omega]; exact g1, g2⟩)
  simp only[loadBytes,Sem.run_bind,run_load,h1,Result.andThen];refine Eq.trans ih ?_;congr 1;simp[ByteArray.push]
def JN {B off n B':Nat} (h:B'≠B):(w.freeze ⟨B,off,none⟩ n).heap[B']? = w.heap[B']?:=by
 unfold World.freeze;split
 ·rfl
 ·simp only[BD];rw[aI (λe=>h e.symm)]
def akt {B off n:Nat} {cur:Array Value} {e:TypeId} {fz:Nat×Nat} (h:w.heap[B]? = some (.cells cur e fz)):∃cur e fz,(w.freeze ⟨B,off,none⟩ n).heap[B]? = some (.cells cur e fz):=by
 unfold World.freeze;split
 ·exact⟨_,_,_,h⟩
 ·simp only[BD,dj,h,fJ];obtain⟨lo,hi⟩:=fz;split<;>exact⟨_,_,_,rfl⟩
def aka (R:Rel nm N S a w L) (hd:∀d,o.dst=some d->d < N) {x y:Operand} {X Y:ax.X} {t u:TypeId} (hx:bV nm X x) (hy:bV nm Y y)
  (ho:o.op = .call ⟨.builtin .unsafeString,#[x,y],#[t,u]⟩) (ht:P.underlying t=some (.pointer 5)) (dM:P.cellsOf 5=1) (hr:(ch Cl d (.U' X Y)).run S=some r):dx P a w o (dN nm N S w L a o.dst r.1 r.2):=by
 obtain⟨v,h1,h2⟩:=Q.aL hr;obtain⟨vn,h3,h4⟩:=Q.aL h2;obtain⟨n,h5,h6⟩:=Q.gy h4;have hv:=rd_val R hx h1;obtain⟨kn,hn⟩:=xw (rd_val R hy h3) h5;split at h6
 ·rename_i pl g sz i c;obtain⟨⟨e0,x0,rows⟩,h7,h8⟩:=Q.aL h6;obtain⟨rfl,kC,hE,yj⟩:=u4 h7;obtain⟨hg,h9⟩:=Q.ec h8;obtain⟨s,hs,cz⟩:=Q.gy h9;obtain rfl:=Q.aW cz;simp at hg;obtain⟨⟨⟨⟨⟨rfl,rfl⟩,rfl⟩,rfl⟩,oz⟩,Kf⟩:=hg;cases hv.cB with
  | eB iI hh gR hp=>
   obtain⟨B,o',hB,cH⟩:=hp kC;have M:=cf.init R;obtain⟨u0,s9⟩:=M.BS hh hE yj;rcases s9.nR with⟨pJ,_⟩ | ⟨B',fm,cap,cur,e',fz,val,_,aY,fY,dH,c6,fO,eC,dU,Dc,dV,dW⟩
   ·subst pJ;simp at oz
   obtain rfl:=R.ey B' B pl fm o' fY hB;obtain rfl:fm=o':=by rw[fY] at hB;simpa using hB
   dsimp only at hs fY dH fO eC Dc dW oz Kf hn;obtain⟨hl,hb⟩:=U2 rows hs
   have Rb  := dW (.inl (wK.2 ⟨λe => oz (by rw[e]; rfl), λq hq => by
     obtain⟨i, hi⟩ := vq hq
     obtain⟨m, g1, g2, _⟩ := hb i (cd.1 hi).1
     rw[hi] at g2
     simp at g2
     subst g2
     rfl⟩))
   subst Rb;have Gg:=by
    have := abA (P := P) (w := w) (B := B') rows.length fm .empty s hl.symm (λi b ql => by
      have hi : i < rows.length := by rw[hl]; exact(cd.1 ql).1
      obtain⟨m, g1, g2, g3⟩ := hb i hi
      refine⟨m, ?_, by rw[ql] at g3; simpa using g3⟩
      rw[qW dH]
      have h := Dc i 0 _ g1
      have h2 := dV i 0 _ g1
      rw[EL, mN] at h
      rw[h]
      generalize val i 0 = vv at h2
      cases h2 with
      | plain h2 => cases h2; rfl)
    simpa using this
   have jr:=aro (P:=P) (w:=w) (ty:=o.type) (it:=u) (k:=kn) ht dM (B:=B') (off:=fm) (cells:=cur.size) (by simp[World.shape?,dH]) oz (by omega) (by omega) Gg;have O:=M.FK (m:=0) (j:=0) hh (lX true rows.length) hE yj;have pF:=by
    have:=gO fY (Ji (m:=0) (j:=0) (jQ:=lX true rows.length) (bM.refl pl) (by rw[Ba];rfl));rwa[Ba] at this
   have QJ:Rel nm N (S.ai (nS [] pl.k (wE ((S.ai []).E pl.k) pl x0))) a (w.freeze ⟨B',fm,none⟩ rows.length) (cT (kA pl 0 0 (lX true rows.length)) L):=by
    refine O.mid.rel.JT ?_ ?_ O.mid.rel.ey O.mid.rel.fy
    ·intro B2 l ew di;refine⟨JN (λe=>?_),ew⟩;rw[e,pF] at ew;simp at ew;have:=di _ _ ew.symm;simp[Key.aT] at this
    ·intro B2 l ew;by_cases he:B2=B'
     ·subst he;obtain⟨_,_,_,h3⟩:=akt (off:=fm) (n:=rows.length) dH;exact(lH.1 h3).1
     ·exact xY (O.mid.rel.fx B2 l ew) (JN he)
   have hM:dc w (w.freeze ⟨B',fm,none⟩ rows.length) (cT (kA pl 0 0 (lX true rows.length)) L) (cT (kA pl 0 0 (lX true rows.length)) L):=by
    refine⟨?_,?_,?_,?_,λB2 pG=>⟨pG,JN (λe=>by rw[e,pF] at pG;cases pG)⟩,λB2 _ pG=>⟨pG,JN (λe=>by rw[e,pF] at pG;cases pG)⟩,λ_ _ _ h=>h⟩<;>
     (unfold World.freeze;split<;>simp)
   refine .val (v:=.string ⟨s.toArray⟩) (w':=w.freeze ⟨B',fm,none⟩ rows.length) ?_ (QJ.gj (O.mid.mono.trans hM) hd (m:=0) (.one (.d (.plain .str))));rw[execOp_builtin ho,show (#[x,y]:Array Operand).map a.eval = #[a.eval x,a.eval y] from by simp,cH,hn];exact xa jr
 ·cases h6
end
end
section
section
variable {nm:FuncId->Option Nat} {N:Nat} {S S0:St} {a:Act} {w w0:World} {L L0:aw} {P:Program} {o:Oper} {Cl:bX} {d:Nat} {r:V×List Wr} {ws:List Wr}
abbrev Hr (i:Nat):Place:=⟨.b (.g i) 0,0,[]⟩
def Rel.akH (h:Rel nm N S a w L) (i:Nat) (hn:cr (S.E (.r (.g i)))<=1):Rel nm N (S.wr { k:=.r (.g i),v:=fR 1 }) a w L:=by
 have bF:Step w w L L S.γ (S.wr { k:=.r (.g i),v:=fR 1 }).γ:=
  ⟨λB hB=>⟨hB,rfl⟩,St.qa S _,λB q o _ _ hB=>⟨hB,λcur e fz h=>⟨cur,h,rfl⟩⟩,λ_ _ _ _ _ _ _=>rfl,λB r o _ hB=>hB⟩
 have hE:∀k,k≠.r (.g i)->(S.wr { k:=.r (.g i),v:=fR 1 }).E k=S.E k:=λk hk=>by rw[St.il];simp[Ne.symm hk]
 refine⟨h.size,h.defers,λj=>?_,λr c x hx hd=>?_,λr c=>?_,λr c hc=>?_,λr hg hr=>?_,h.fx,h.ey,h.fy⟩
 ·rw[hE _ (by simp)];exact(h.slot j).step bF (λB q o hq hB=>by rw[<-hq,Place.mf];exact⟨hB,rfl⟩)
 ·rw[hE _ (by simp)] at hx;exact(h.cell r c x hx hd).step bF (λB q o _ hB=>⟨hB,rfl⟩) (λB o hB=>⟨hB,λcur e fz hc=>⟨cur,hc,rfl,rfl⟩⟩)
 ·rw[hE _ (by simp)];exact h.kx r c
 ·rw[hE (.b r c) (by simp)];by_cases he:r = .g i
  ·subst he;rw[St.il] at hc;simp only[dj,qU] at hc;exact h.bound _ c (by omega)
  ·rw[hE _ (by simpa using he)] at hc;exact h.bound r c hc
 ·have he:r≠.g i:=by rintro rfl;cases hg
  rw[hE _ (by simpa using he)] at hr ⊢;exact h.room r hg hr
def oK (n i:Nat) (L:aw):aw:=λB=>if B=n then some (.row (Hr i) 0) else match L B with
 | some (.row q o)=>if q.k = .b (.g i) 0 then none else some (.row q o)
 | x=>x
def AU {n i B:Nat} {l:db} (h:oK n i L B=some l) (hn:B≠n):L B=some l/\∀q o,l = .row q o->q.k≠.b (.g i) 0:=by
 unfold oK at h;rw[aI hn] at h;split at h
 ·rename_i q o hq;split at h
  ·cases h
  ·rename_i hk;cases h;exact⟨hq,λq' o' e=>by cases e;exact hk⟩
 ·rename_i hx;exact⟨h,λq o e=>absurd (e▸h) (hx q o)⟩
def abN {n i B:Nat} {q:Place} {o':Nat} (h:L B=some (.row q o')) (hn:B≠n) (hk:q.k≠.b (.g i) 0):oK n i L B=some (.row q o'):=by
 unfold oK;rw[aI hn,h];simp[hk]
def S4 {n i B:Nat} {q:aJ} {o':Nat} (h:L B=some (.box q o')) (hn:B≠n):oK n i L B=some (.box q o'):=by
 unfold oK;rw[aI hn,h]
def abM {n i B:Nat} (h:L B=some .bg) (hn:B≠n):oK n i L B=some .bg:=by
 unfold oK;rw[aI hn,h]
def apx {n i B:Nat} (h:L B=none) (hn:B≠n):oK n i L B=none:=by
 unfold oK;rw[aI hn,h]
def Rel.apy (h:Rel nm N S a w L) (i:Nat) (hn:0 < cr (S.E (.r (.g i)))) :
  Rel nm N (S.wr { k:=.b (.g i) 0,v:=.one (.mp (.sl (.im false) 2 [])) }) a (w.alloc (.map #[] 0)) (oK w.heap.size i L)/\dc w (w.alloc (.map #[] 0)) L (oK w.heap.size i L):=by
 have af:=λ{B l} hB=>Nat.ne_of_lt (h.fx B l hB)
 have ej:∀{B l},L B=some l->(w.alloc (.map #[] 0)).heap[B]? = w.heap[B]?:=λhB=>mY w _ (af hB)
 have hz:(w.alloc (.map #[] 0)).heap.size=w.heap.size+1:=by simp
 have Ax:oK w.heap.size i L w.heap.size=some (.row (Hr i) 0):=by unfold oK;rw[aP rfl]
 refine⟨h.write _ rfl h.defers (λ_ _ => rfl) ⟨λB hB => ⟨abM hB (af hB), ej hB⟩, St.qa S _, ?_, λB q o _ _ _ hB => ej hB, λB r o _ hB => S4 hB (af hB)⟩
   (λB q o hk _ hB => ⟨abN hB (af hB) hk, ej hB⟩) (λB r o _ hB => ⟨S4 hB (af hB), λcur e fz hc => ⟨cur, (ej hB).trans hc, rfl, λ_ _ => rfl⟩⟩) ?_ ?_ ?_ ?_, ?_⟩
 ·intro B q o hq hγ hB;refine⟨abN hB (af hB) (λe=>?_),λcur e fz hc=>⟨cur,(ej hB).trans hc,rfl⟩⟩;rw[St.jX,e] at hγ;simp at hγ
 ·exact⟨_,rfl,λ_=>⟨hn,.map (some w.heap.size),.mp ⟨w.heap.size,#[],0,rfl,Ax,ox w _,false,[],[],rfl,rfl,rfl⟩⟩⟩
 ·intro B l hB;rw[hz];by_cases he:B=w.heap.size
  ·omega
  ·exact Nat.lt_succ_of_lt (h.fx B l (AU hB he).1)
 ·intro B B' pl o o' h1 h2;by_cases he:B=w.heap.size
  ·by_cases dh:B'=w.heap.size
   ·omega
   ·rw[he,Ax] at h1;simp at h1;exact absurd (by rw[<-h1.1]) ((AU h2 dh).2 _ _ rfl)
  ·by_cases dh:B'=w.heap.size
   ·rw[dh,Ax] at h2;simp at h2;exact absurd (by rw[<-h2.1]) ((AU h1 he).2 _ _ rfl)
   ·exact h.ey B B' pl o o' (AU h1 he).1 (AU h2 dh).1
 ·intro B B' q o o' h1 h2;by_cases he:B=w.heap.size
  ·rw[he,Ax] at h1;cases h1
  ·by_cases dh:B'=w.heap.size
   ·rw[dh,Ax] at h2;cases h2
   ·exact h.fy B B' q o o' (AU h1 he).1 (AU h2 dh).1
 ·exact⟨rfl,rfl,rfl,by omega,λB hB=>⟨abM hB (af hB),ej hB⟩,λB hl hB=>⟨apx hB (by omega),mY w _ (by omega)⟩,λB j o hB=>S4 hB (af hB)⟩
def aj0 (R:Rel nm N S a w L) (hd:∀d,o.dst=some d->d < N) {t:TypeId} (ho:o.op = .makeMap t none) (hr:(ch Cl d .S8).run S=some r):dx P a w o (dN nm N S w L a o.dst r.1 r.2):=by
 obtain⟨hg,h1⟩:=Q.ec (Q.np (Q.np hr));obtain rfl:=Q.aW h1;have R1:=R.akH d (by simpa[St.E] using hg);obtain⟨R2,hm⟩:=R1.apy d (by rw[St.il];simp[qU])
 refine .val (v := .map (some w.heap.size)) (w' := w.alloc (.map #[] 0)) ?_ (Rel.gj (ws := [{ k := .b (.g d) 0, v := .one (.mp (.sl (.im false) 2 [])) }, { k := .r (.g d), v := fR 1 }]) R2 hm hd (m := 0)
   (.one (.gq ⟨_, rfl⟩ ?_ (λ_ => ⟨w.heap.size, by unfold oK; rw[aP rfl], rfl⟩))))
 ·have:(Instr.makeMap t none).run P w = .ok (.map (some w.heap.size)) (w.alloc (.map #[] 0)):=by
   rfl
  simp[execOp,ho,this]
 ·simp only[St.ai,St.jX];simp[St.γ]
def Rel.apz (h:Rel nm N S a w L) {i B:Nat} {es xO:Array MapEntry} {ck xH:Nat} {x':D} {w':World} (hL:L B=some (.row (Hr i) 0)) (hB:w.heap[B]? = some (.map es ck)) (hb:0 < cr (S.E (.r (.g i)))) (hx:IS x' xO)
  (Az:w'.heap[B]? = some (.map xO xH)) (ho:∀B',B'≠B->w'.heap[B']? = w.heap[B']?) (aY:w.heap.size<=w'.heap.size) (yi:w'.os=w.os/\w'.tape=w.tape/\w'.output=w.output) :
  Rel nm N (S.ai [{ k:=.b (.g i) 0,v:=.one (.mp x'),keep:=true },{ k:=.a (.b (.g i) 0),v:=V.dead }]) a w' L/\dc w w' L L:=by
 have aD:∀{B' l},L B'=some l->l≠.row (Hr i) 0->w'.heap[B']? = w.heap[B']?:=by
  intro B' l hl hn;refine ho B' (λe=>?_);rw[e,hL] at hl;exact hn (by simpa using hl.symm)
 have hE:∀k,(∀k',k≠.a k')->k≠.b (.g i) 0->(S.ai [{ k:=.b (.g i) 0,v:=.one (.mp x'),keep:=true },{ k:=.a (.b (.g i) 0),v:=V.dead }]).E k=S.E k:=by
  intro k h1 h2;simp only[St.ai,St.il];rw[aI (Ne.symm h2),aI (Ne.symm (h1 _))]
 have ZB:(S.ai [{ k:=.b (.g i) 0,v:=.one (.mp x'),keep:=true },{ k:=.a (.b (.g i) 0),v:=V.dead }]).E (.b (.g i) 0) = .one (.mp x'):=by
  simp only[St.ai,St.il,dj]
 have hγ:∀k,(S.ai [{ k:=.b (.g i) 0,v:=.one (.mp x'),keep:=true },{ k:=.a (.b (.g i) 0),v:=V.dead }]).γ k=if k = .a (.b (.g i) 0) then S.γ k+1 else S.γ k:=by
  intro k;simp only[St.ai,St.jX];by_cases h1:Key.b (.g i) 0=k
  ·subst h1;simp
  ·by_cases h2:k = .a (.b (.g i) 0)
   ·subst h2;simp
   ·simp[h1,h2,Ne.symm h2]
 generalize St.ai S [{ k:=.b (.g i) 0,v:=.one (.mp x'),keep:=true },{ k:=.a (.b (.g i) 0),v:=V.dead }]=S' at *;have bF:Step w w' L L S.γ S'.γ:=by
  refine⟨λB' dH=>⟨dH,aD dH (by simp)⟩,λk=>?_,?_,?_,λ_ _ _ _ dH=>dH⟩
  ·rw[hγ];split<;>omega
  ·intro B' q o hq _ hl;refine⟨hl,λcur e fz hc=>?_⟩;by_cases he:B'=B
   ·rw[he,hB] at hc;cases hc
   ·exact⟨cur,(ho B' he).trans hc,rfl⟩
  ·intro B' q o hq _ Df hl;refine aD hl (λe=>?_);simp at e;rw[hγ,e.1,aP rfl] at Df;omega
 have ly:∀{B' q o},q.k≠.b (.g i) 0->L B'=some (.row q o)->w'.heap[B']? = w.heap[B']?:=λhq hl=>aD hl (λe=>by simp at e;exact hq (by rw[e.1]))
 refine⟨⟨h.size,h.defers,λj=>?_,λr c y hy jK=>?_,λr c=>?_,λr c hc=>?_,λr hg hr=>?_,λB' l hl=>?_,h.ey,h.fy⟩,?_⟩
 ·rw[hE _ (by simp) (by simp)];exact(h.slot j).step bF (λB' q o hq hl=>by rw[<-hq,Place.mf];exact⟨hl,ly (by rw[hq];simp) hl⟩)
 ·by_cases he:Key.b r c = .b (.g i) 0
  ·rw[he,ZB] at hy;cases hy;obtain⟨rfl,rfl⟩:=he;exact⟨.map (some B),.mp ⟨B,xO,xH,rfl,hL,Az,hx⟩⟩
  ·rw[hE _ (by simp) he] at hy;exact(h.cell r c y hy jK).step bF (λB' q o hq hl=>⟨hl,ly (by rw[hq];exact he) hl⟩) (λB' o hl=>⟨hl,λcur e fz hc=>⟨cur,(aD hl (by simp)).trans hc,rfl,rfl⟩⟩)
 ·by_cases he:Key.b r c = .b (.g i) 0
  ·rw[he,ZB];exact⟨_,rfl⟩
  ·rw[hE _ (by simp) he];exact h.kx r c
 ·rw[hE (.r r) (by simp) (by simp)] at hc;by_cases he:Key.b r c = .b (.g i) 0
  ·obtain⟨rfl,rfl⟩:=he;omega
  ·rw[hE _ (by simp) he];exact h.bound r c hc
 ·rw[hE (.r r) (by simp) (by simp)] at hr ⊢;obtain⟨B',o,cur,e,fz,h1,h2,h3,h4⟩:=h.room r hg hr;exact⟨B',o,cur,e,fz,h1,(aD h1 (by simp)).trans h2,h3,h4⟩
 ·exact IC (h.fx B' l hl) aY
 ·exact⟨yi.1,yi.2.1,yi.2.2,aY,λB' dH=>⟨dH,aD dH (by simp)⟩,λB' _ hl=>⟨hl,ho B' (λe=>by rw[e,hL] at hl;cases hl)⟩,λ_ _ _ hl=>hl⟩
def Rel.abL (R:Rel nm N S a w L) {i g:Nat} {k:Key} {j:Nat} {v:Value} {x:D} (hv:aC nm w L S.γ k j (.gq i g) v) (hE:(S.get (.b (.g i) 0)).v = .one (.mp x)) (hg:(S.get (.b (.g i) 0)).g=g) :
  ∃B es ck,v = .map (some B)/\L B=some (.row (Hr i) 0)/\w.heap[B]? = some (.map es ck)/\IS x es/\0 < cr (S.E (.r (.g i))):=by
 cases hv with
 | gq iI gR h=>
  obtain⟨B,h1,h2⟩:=h hg.symm;obtain⟨u,hu⟩:=R.cell (.g i) 0 (.mp x) hE (by simp);cases hu with
  | mp h3=>
   obtain⟨B',es,ck,_,g1,g2,g3⟩:=h3;have FP:=R.ey B B' _ _ _ h1 g1;subst FP;refine⟨B,es,ck,h2,h1,g2,g3,?_⟩;rcases Oa (cr (S.E (.r (.g i)))) with h0 | h0
   ·have:=R.bound (.g i) 0 (by omega);unfold St.E at this;rw[hE] at this;cases this
   omega
def aaA {t:Option TypeDesc} (h:GG t=true):t=some .string:=by
 unfold GG at h;split at h
 ·rfl
 ·cases h
def atu {e:TypeId} (h:N3 P e=true):∃i,P.info? e=some i/\i.zero=some (.bool false):=by
 unfold N3 at h;split at h
 ·rename_i i hi;split at h
  ·exact⟨i,hi,by omega⟩
  ·cases h
 ·cases h
def W3 {s t:List UInt8}:((⟨s.toArray⟩:ByteArray)==⟨t.toArray⟩)=(s==t):=by
 show (s.toArray==t.toArray)=_;simp
def Qo {s:List UInt8}:∀(l:List (List UInt8×Bool)) (es:List MapEntry) (n:Nat),es.map (λe=>(e.key,e.val))=l.map (λp=>(Value.string ⟨p.1.toArray⟩,Value.bool p.2))->
  ∃ x, Instr.findNow .string (.string ⟨s.toArray⟩) es n = some x /\ (match x with
    | some (m, v) => n <= m /\ v = .bool (qz (l.map λp => [.str p.1, .bool p.2]) s) /\ m - n < l.length /\ (∃ e, es[m - n]? = some e /\ e.key = .string ⟨s.toArray⟩) /\
        ∀ b, qA (l.map λp => [.str p.1, .bool p.2]) s b = (l.set (m - n) (s, b)).map λp => [.str p.1, .bool p.2]
    | none => qz (l.map λp => [.str p.1, .bool p.2]) s = false /\ ∀ b, qA (l.map λp => [.str p.1, .bool p.2]) s b = (l ++ [(s, b)]).map λp => [.str p.1, .bool p.2])
 | [],es,n,h=>by
  have:=by simpa using h
  subst this;exact⟨none,rfl,rfl,λb=>rfl⟩
 | p::l,es,n,h=>by
  cases es with
  | nil=>cases h
  | cons e es=>
   simp at h;obtain⟨⟨h1,h2⟩,h3⟩:=h;have alo:Instr.findNow .string (.string ⟨s.toArray⟩) (e::es) n=if(s==p.1)=true then some (some (n,e.val)) else Instr.findNow .string (.string ⟨s.toArray⟩) es (n+1):=by
    simp only[Instr.findNow,h1,Instr.sameNow,W3];cases hb:s==p.1<;>rfl
   rw[alo];by_cases he:s=p.1
   ·subst he;refine⟨some (n,e.val),by simp,cp n,by rw[h2];simp[qz],by simp,⟨e,by simp,h1⟩,λb=>by simp[qA]⟩
   ·have QU:=lI.2 he;obtain⟨x,g1,g2⟩:=Qo (s:=s) l es (n+1) h3;refine⟨x,by simp[QU,g1],?_⟩;have hg:qz ([D.str p.1,D.bool p.2]::l.map λp=>[.str p.1,.bool p.2]) s=qz (l.map λp=>[.str p.1,.bool p.2]) s:=by simp[qz,QU]
    have hp:∀b,qA ([D.str p.1,D.bool p.2]::l.map λp=>[.str p.1,.bool p.2]) s b=[D.str p.1,D.bool p.2]::qA (l.map λp=>[.str p.1,.bool p.2]) s b:=λb=>by simp[qA,QU]
    simp only[e9];cases x with
    | none=>
     obtain⟨k1,k2⟩:=g2;exact⟨by rw[hg];exact k1,λb=>by rw[hp,k2];rfl⟩
    | some y=>
     obtain⟨m,v⟩:=y;obtain⟨k1,k2,k3,⟨e',k4,k5⟩,k6⟩:=g2;have hm:m - n=(m - (n+1))+1:=by omega
     refine⟨by omega,by rw[hg];exact k2,by simp;omega,⟨e',by rw[hm];simpa using k4,k5⟩,λb=>?_⟩;rw[hp,k6,hm];rfl
def apB {t:TypeId} {P:Program} {w:World} {b:Bool} {s:ByteArray} (n:Nat) (h:P.underlying t=some .string):(Instr.checkKey b (n+1) t (.string s)).run P w = .ok () w:=by
 simp[Instr.checkKey,run_underlying h]
def Ms {t:TypeId} {P:Program} {w:World} {b:Bool} {s:ByteArray} (h:P.underlying t=some .string):(Instr.checkKey b 10000 t (.string s)).run P w = .ok () w:=apB 9999 h
def ajW (R:Rel nm N S a w L) (hd:∀d,o.dst=some d->d < N) {x y:Operand} {X Y:ax.X} {t kt e:TypeId} (hx:bV nm X x) (hy:bV nm Y y) (ho:o.op = .lookup t x y false)
  (ht:P.underlying t=some (.map kt e)) (hk:P.underlying kt=some .string) (hz:N3 P e=true) (hr:(ch Cl d (.S5 X Y)).run S=some r):dx P a w o (dN nm N S w L a o.dst r.1 r.2):=by
 obtain⟨v,h1,h2⟩:=Q.aL hr;obtain⟨u,h3,h4⟩:=Q.aL h2;have hv:=rd_val R hx h1;have hu:=rd_val R hy h3;split at h4
 ·rename_i i g s;have h5:=Q.np h4;split at h5
  ·rename_i tg sz rows hE;obtain⟨hg,h6⟩:=Q.ec h5;obtain rfl:=Q.aW h6;obtain⟨B,es,ck,g1,g2,g3,⟨tb,va,l,g4,g5,g6⟩,g7⟩:=R.abL hv.cB hE (by simpa using hg);obtain⟨_,_,rfl⟩:=g4;subst g5;have hs:=hu.cB.r8;obtain⟨f,k1,k2⟩:=Qo (s:=s) l es.toList 0 g6;have F4:(Instr.findKey kt (.string ⟨s.toArray⟩) es.toList).run P w = .ok f w:=by
    simp[Instr.findKey,run_underlying hk,k1]
   refine fp R hd (v:=.bool (qz (l.map λp=>[.str p.1,.bool p.2]) s)) ?_ (.one (.d (.plain .bool)));have:(Instr.lookup t (a.eval x) (a.eval y) false).run P w = .ok (.bool (qz (l.map λp=>[.str p.1,.bool p.2]) s)) w:=by
    rw[g1,hs];simp only[Instr.lookup];cases f with
    | some f=>
     simp[run_underlying ht,getObj,Sem.run,g3,Ms hk,F4,k2.2.1]
    | none=>
     obtain⟨i,hi,R8⟩:=atu hz;simp[run_underlying ht,getObj,Sem.run,g3,Ms hk,F4,k2.1,zeroValue,typeInfo,hi,R8]
   simp[execOp,ho,this]
  ·cases h5
 ·cases h4
def abP {α β:Type} {f:α->α} {g:α->β} {y:β}:∀(l:List α) (i:Nat),(∀x,g (f x)=y)->(l.modify i f).map g=(l.map g).set i y
 | [],i,h=>by simp
 | x::l,0,h=>by simp[h]
 | x::l,i+1,h=>by simp[abP l i h]
def aj2 (R:Rel nm N S a w L) (hd:∀d,o.dst=some d->d < N) {x y z:Operand} {X Y Z:ax.X} {t kt e:TypeId} (hx:bV nm X x) (hy:bV nm Y y) (hz:bV nm Z z) (ho:o.op = .mapUpdate t x y z)
  (ht:P.underlying t=some (.map kt e)) (hk:P.underlying kt=some .string) (hr:(ch Cl d (.Ta X Y Z)).run S=some r):dx P a w o (dN nm N S w L a o.dst r.1 r.2):=by
 obtain⟨v,h1,h2⟩:=Q.aL hr;obtain⟨u,h3,h4⟩:=Q.aL h2;obtain⟨q,h5,h6⟩:=Q.aL h4;have hv:=rd_val R hx h1;have hu:=rd_val R hy h3;have hq:=rd_val R hz h5;split at h6
 ·rename_i i g s b;have h7:=Q.np h6;split at h7
  ·rename_i tg sz rows hE;obtain⟨hg,h8⟩:=Q.ec h7;obtain rfl:=Q.aW h8;obtain⟨B,es,ck,g1,g2,g3,⟨tb,va,l,g4,g5,g6⟩,g7⟩:=R.abL hv.cB hE (by simpa using hg);obtain⟨_,_,rfl⟩:=g4;subst g5;have hs:=hu.cB.r8;have hb:=aC.sH hq.cB;obtain⟨f,k1,k2⟩:=Qo (s:=s) l es.toList 0 g6;have F4:(Instr.findKey kt (.string ⟨s.toArray⟩) es.toList).run P w = .ok f w:=by
    simp[Instr.findKey,run_underlying hk,k1]
   have akM:=(lH.1 g3).1;have fin:∀xO xH,IS (.sl (.im false) 2 (qA (l.map λp=>[.str p.1,.bool p.2]) s b)) xO->
     (Instr.mapUpdate t (a.eval x) (a.eval y) (a.eval z)).run P w = .ok () { w with heap:=w.heap.setIfInBounds B (.map xO xH) }->
     dx P a w o (dN nm N S w L a o.dst (.ao []) [{ k:=.b (.g i) 0,v:=.one (.mp (.sl (.im false) 2 (qA (l.map λp=>[.str p.1,.bool p.2]) s b))),keep:=true },{ k:=.a (.b (.g i) 0),v:=V.dead }]):=by
    intro xO xH hm jr;obtain⟨R',Z'⟩:=R.apz (w':={ w with heap:=w.heap.setIfInBounds B (.map xO xH) }) (xH:=xH) g2 g3 g7 hm (by simp[akM]) (λB' aD=>by simp[zj,Ne.symm aD]) (by simp) ⟨rfl,rfl,rfl⟩;refine .skip ?_ (R'.gj Z' hd (m:=0) (.ao (us:=#[]) rfl rfl (λi x u h=>by simp at h)));simp[execOp,ho,jr]
   cases f with
   | some f=>
    obtain⟨m,fv⟩:=f;simp only[xp] at k2;obtain⟨k3,k4,k5,⟨e',k6,k7⟩,k8⟩:=k2;have k6':=by simpa using k6
    refine fin (es.modify m λe=>{ e with key:=.string ⟨s.toArray⟩,val:=.bool b }) ck ⟨false,_,_,rfl,k8 b,?_⟩ ?_
    ·rw[Array.toList_modify,abP (g:=λe:MapEntry=>(e.key,e.val)) (y:=(Value.string ⟨s.toArray⟩,Value.bool b)) _ _ (λ_=>rfl),g6,vx]
    ·have alB:(Instr.keyThatStays (.string ⟨s.toArray⟩) (.string ⟨s.toArray⟩)).run P w = .ok (.string ⟨s.toArray⟩) w:=by
      simp[Instr.keyThatStays,Instr.sameBits,W3]
     rw[g1,hs,hb];simp[Instr.mapUpdate,run_underlying ht,getObj,setObj,Sem.run,g3,Ms hk,F4,k6',k7,alB]
   | none=>
    refine fin (es.push { key:=.string ⟨s.toArray⟩,val:=.bool b,born:=ck }) (ck+1) ⟨false,_,_,rfl,k2.2 b,?_⟩ ?_
    ·simp[g6]
    ·rw[g1,hs,hb];simp[Instr.mapUpdate,run_underlying ht,getObj,setObj,Sem.run,g3,Ms hk,F4]
  ·cases h7
 ·cases h6
end
end
section
section
variable {nm:FuncId->Option Nat} {N:Nat} {S S0:St} {a:Act} {w w0:World} {L L0:aw} {P:Program} {o:Oper} {Cl:bX} {d:Nat} {r:V×List Wr} {ws:List Wr}
def Y':∀(vs:List (Nat×Value)) (cells:Array Value) (k:Nat),(∀(j:Nat) p,vs[j]? = some p->p.1=k+j/\p.2.cells = #[p.2])->k+vs.length=cells.size->
  ∃Jj,Instr.fill (λi=>some (i * 1,1)) cells vs=some Jj/\Jj.size=cells.size/\(∀i,i < k->Jj[i]? = cells[i]?)/\∀(j:Nat) p,vs[j]? = some p->Jj[k+j]? = some p.2
 | [],cells,k,_,_=>⟨cells,rfl,rfl,λi _=>rfl,λj p h=>by simp at h⟩
 | (i,v)::t,cells,k,h,hl=>by
  obtain⟨h1,h2⟩:=h 0 (i,v) rfl;simp only[mN] at h1;subst h1;simp only[jl] at hl;have h2:v.cells = #[v]:=h2
  obtain⟨c', g1, g2, g3, g4⟩ := Y' t (cells.setIfInBounds (i * 1 + 0) v) (i + 1) (λj p hj => by
    obtain⟨q1, q2⟩ := h (j + 1) p (by simpa using hj)
    exact⟨by omega, q2⟩) (by simp; omega)
  refine⟨c',?_,by rw[g2];simp,λj hj=>?_,λj p hj=>?_⟩
  ·simp only[Instr.fill,h2];rw[aI (by simp;omega)];simpa using g1
  ·rw[g3 j (by omega),By (by omega)]
  ·cases j with
   | zero=>
    simp only[qQ,au] at hj;subst hj;rw[mN,g3 i (by omega),EL,mN,Array.getElem?_setIfInBounds_self_of_lt (by omega)]
   | succ j=>
    have:=g4 j p (by simpa using hj);rw[<-this];congr 1;omega
def YC:∀{ps:List (Nat×ax.X)} {qs:List (Nat×Operand)},BI nm ps qs->ps.length=qs.length/\∀(j:Nat) X x,ps[j]? = some X->qs[j]? = some x->X.1=x.1/\bV nm X.2 x.2/\X.2.iJ=true
 | [],[],_=>⟨rfl,λj X x h=>by simp at h⟩
 | (i,X)::t,(i',x)::t',h=>by
  obtain⟨h1,h2,h3,h4⟩:=h;obtain⟨g1,g2⟩:=YC h4;refine⟨by simp[g1],λj Y y hY hy=>?_⟩;cases j with
  | zero=>
   simp only[qQ,au] at hY hy;subst hY;subst hy;exact⟨h1,h2,h3⟩
  | succ j=>exact g2 j Y y (by simpa using hY) (by simpa using hy)
 | [],_::_,h=>h.elim
 | (_,_)::_,[],h=>h.elim
def alL {γ:Key->Nat} {k:Key} {j:Nat} {c:C} {v:Value} (h:aC nm w L γ k j c v) (hf:c.isF=true):v.cells = #[v]:=by
 cases h with
 | fn=>rfl
 | fns val hf'=>
  have:=Kz hf;rcases hf' with⟨h,_⟩ | ⟨h,_⟩<;>exact absurd this (by omega)
 | _=>cases hf
def ajQ (R:Rel nm N S a w L) (hH:eA L) (hd:∀d,o.dst=some d->d < N) {t e:TypeId} {len:Nat} {parts:Array (Nat×Operand)} {zs:List C} {ps:List (Nat×ax.X)} (ho:o.op = .buildSlice t len parts) (ht:P.underlying t=some (.slice e)) (hz:p5 P e=some zs) (hz1:zs.length=1)
  (aan:len<=2 ^ 24) (qq:ps.map (·.1)=List.range len) (hp:BI nm ps parts.toList)
  (hr:(ch Cl d (.Qt (ps.map (·.2)))).run S=some r):dx P a w o (dN nm N S w L a o.dst r.1 r.2):=by
 simp only[ch] at hr;obtain⟨⟨cs,eS⟩,h1,h2⟩:=Q.aL hr;clear hr;obtain⟨hf,h2⟩:=Q.ec h2;obtain rfl:=Q.aW h2;obtain⟨i,z,k1,k2,k3,k4,k5⟩:=Bx hz;obtain⟨e1,e2⟩:=YC hp;have di:ps.length=len:=by have:=fW List.length qq;simpa using this
 obtain⟨L1, O1, jI, dM, R1⟩ := JM R (ps.map (·.2)) (parts.toList.map (·.2)) (cf.init R) (by simpa using e1) (λj X x hX hx => by
   rw[bQ] at hX hx
   cases CL : ps[j]? with
   | none => simp[CL] at hX
   | some X' =>
     cases fF : parts.toList[j]? with
     | none => rw[fF] at hx; simp at hx
     | some x' =>
       rw[CL] at hX; rw[fF] at hx
       simp only[fJ, au] at hX hx
       subst hX; subst hx
       exact(e2 j X' x' CL fF).2) h1
 have Kb:cs.length=len:=by have:cs.length=(ps.map (·.2)).length:=jI;rw[this,cX,di]
 have cH:∀(j:Nat) (p:Nat×Value),(parts.toList.map λp=>(p.1,a.eval p.2))[j]? = some p->p.1=0+j/\p.2.cells = #[p.2]:=by
  intro j p hj;rw[bQ] at hj;cases fF:parts.toList[j]? with
  | none=>rw[fF] at hj;simp at hj
  | some x'=>
   rw[fF] at hj;simp only[fJ,au] at hj;subst hj;have CU:j < ps.length:=by rw[e1];exact(cd.1 fF).1
   have CL:ps[j]? = some ps[j]:=kI CU;have q1:=(e2 j _ x' CL fF).1;have q2:(ps.map (·.1))[j]? = some ps[j].1:=by rw[bQ,CL];rfl
   rw[qq,VO (by omega)] at q2;simp only[au] at q2;have hc:cs[j]? = some (cs[j]'(by omega)):=kI (by omega);have hr:=R1 j _ x'.2 hc (by rw[bQ,fF];rfl);exact⟨by show x'.1=0+j;omega,alL hr (gY.1 hf _ (bU ..))⟩
 have atS:parts.toList.length=len:=by omega
 obtain⟨c',g1,g2,g3,g4⟩:=Y' (parts.toList.map λp=>(p.1,a.eval p.2)) (madeCells z.cells (len * 1)) 0 cH (by rw[size_madeCells,cX];omega);obtain⟨hR,hM,bF⟩:=O1.mid.rel.Tf c' e;have hi:i.size=1:=by omega
 have run:(execOp a.eval o).run P w = .ok (.value (.slice (some ⟨w.heap.size,0,none⟩) len len)) (w.alloc (.cells c' e)):=by
  have:(Instr.buildSlice t len (parts.map λ(i,x)=>(i,a.eval x))).run P w = .ok (.slice (some ⟨w.heap.size,0,none⟩) len len) (w.alloc (.cells c' e)):=by
   have At:(parts.map λ(i,x)=>(i,a.eval x)).toList=parts.toList.map λp=>(p.1,a.eval p.2):=by simp
   simp only[EL] at g1;unfold Instr.buildSlice;simp only[Sem.run_bind,run_underlying ht,Result.andThen_ok,sizeOf,typeInfo,run_program,k1,Sem.run_pure,hi,EL];have sZ:¬ (len > 2 ^ 24):=by omega
   by_cases h0:len=0
   ·have CY:madeCells z.cells len = #[]:=by rw[h0];simp[madeCells]
    rw[CY] at g1;simp only[sZ,eX,h0,dj,Sem.run_pure,Result.andThen_ok,Sem.run_bind];simp only[Array.range_zero',At];simp[g1,newRow]
   ·simp only[sZ,eX,h0,Sem.run_bind,zeroValue,typeInfo,run_program,k1,k2,Result.andThen_ok,Sem.run_pure];have Ry:((Array.range len).map λx=>z.cells[x % z.cells.size]!)=madeCells z.cells len:=rfl;simp[At,Ry,g1,newRow]
  simp[execOp,ho,this]
 refine .val (v:=.slice (some ⟨w.heap.size,0,none⟩) len len) (w':=w.alloc (.cells c' e)) run (hR.gj (O1.mid.mono.trans hM) hd (m:=0) (.one ?_));refine .fns (B:=w.heap.size) (o:=0) (cap:=len) (cur:=c') (e:=e) (fz:=(0,0)) (λj=>c'.getD j undef) (.inl ⟨rfl,by rw[Kb],Nat.le_of_eq Kb⟩) (aw.kZ _ _ _) (ox w _) dM ?_ ?_
 ·intro j hj;have hj:j < cs.length:=hj;have yf:j < c'.size:=by rw[g2,size_madeCells];omega
  rw[cQ];simp[jW,yf]
 ·intro j x hx;have CU:j < len:=by rw[<-Kb];exact(cd.1 hx).1
  have fF:parts.toList[j]? = some (parts.toList[j]'(by omega)):=kI (by omega);have hr:=R1 j x _ hx (by rw[bQ,fF];rfl);have hv:=g4 j (_,a.eval (parts.toList[j]'(by omega)).2) (by rw[bQ,fF];rfl);rw[cQ] at hv;have:c'.getD j undef=a.eval (parts.toList[j]'(by omega)).2:=by simp[jW,hv]
  rw[this];exact hr.rZ bF (jG dM hx) _ _
end
end
section
def GI (G:Nat->Option Obj) (w:World) (L:aw):Prop:=∀B c,G B=some c->L B=some .bg/\w.heap[B]? = some c
def GI.mono {G:Nat->Option Obj} {w w':World} {L L':aw} (h:GI G w L) (m:dc w w' L L'):GI G w' L':=
 λB c hB=>⟨(m.bg B (h B c hB).1).1,(m.bg B (h B c hB).1).2.trans (h B c hB).2⟩
def GI.none (w:World) (L:aw):GI (λ_=>Option.none) w L:=λ_ _ h=>by cases h
section
variable {nm:FuncId->Option Nat} {G:Nat->Option Obj} {N:Nat} {S:St} {a:Act} {w:World} {L:aw} {P:Program} {o:Oper} {Cl:bX} {d:Nat} {r:V×List Wr} {hh:Hint}
def xr (P:Program) (nm:FuncId->Option Nat) (G:Nat->Option Obj) (Cl:bX):Prop:=
 ∀{N:Nat} {S:St} {a:Act} {w:World} {L:aw} {o:Oper} {d:Nat} {r:V×List Wr} {c:Call} {f:Operand} {F:X} {xs:List (Bool×X)},Rel nm N S a w L->eA L->GI G w L->(∀d,o.dst=some d->d < N)->o.op = .call c->c.callee = .value f->bV nm F f->F.iJ=true->
  xs.length=c.args.toList.length->(∀(j:Nat) x y,xs[j]? = some x->c.args.toList[j]? = some y->bV nm x.2 y/\x.2.iJ=true)->(ch Cl d (.call F xs)).run S=some r->dx P a w o (dN nm N S w L a o.dst r.1 r.2)
def bind_some {α β:Type} {x:Option α} {f:α->Option β} {r:β} (h:(x >>= f)=some r):∃y,x=some y/\f y=some r:=by
 cases x with
 | none=>cases h
 | some y=>exact⟨y,rfl,h⟩
def bK {α β:Type} {x:Option α} {f:α->β} {r:β} (h:x.map f=some r):∃y,x=some y/\r=f y:=by
 cases x with
 | none=>cases h
 | some y=>exact⟨y,rfl,by simpa using h.symm⟩
def P8 {e:TypeId}:∀(ps:List (Nat×Operand)) {xs:List (Nat×X)},ps.mapM (Jp P nm hh e)=some xs->BI nm xs ps
 | [],xs,h=>by
  have:xs=[]:=by simpa using h.symm
  subst this;trivial
 | p::ps,xs,h=>by
  rw[mM] at h;obtain⟨y,h1,h2⟩:=bind_some h;obtain⟨ys,h3,h4⟩:=bind_some h2;have:xs=y::ys:=by simpa using h4.symm
  subst this;unfold Jp at h1;obtain⟨x,h5,rfl⟩:=bK h1;obtain⟨g1,g2⟩:=vL h5;exact⟨rfl,g1,g2,P8 ps h3⟩
def acD {fs:Array Field}:∀(ps:List (Nat×Operand)) {xs:List (Nat×Nat×X)},ps.mapM (PD P nm hh fs)=some xs->IT nm (λi=>(fs.map λf=>(f.offset,(jT P f.type).getD 0))[i]?) xs ps
 | [],xs,h=>by
  have:xs=[]:=by simpa using h.symm
  subst this;trivial
 | p::ps,xs,h=>by
  rw[mM] at h;obtain⟨y,h1,h2⟩:=bind_some h;obtain⟨ys,h3,h4⟩:=bind_some h2;have:xs=y::ys:=by simpa using h4.symm
  subst this;unfold PD at h1;split at h1
  ·rename_i f hf;split at h1
   ·rename_i n x hn hx;split at h1
    ·cases h1
    ·rename_i oz;cases h1;obtain⟨g1,g2⟩:=vL hx;refine⟨?_,oz,g1,g2,acD ps h3⟩;simp[IE,hf,hn]
   ·cases h1
  ·cases h1
def SX {t:TypeId} {lo:Option Operand} {LO:Option X} (h:(match lo with | none=>some none | some v=>(dY P nm t v).map some)=some LO) :
  (∀x,lo=some x->∃y,LO=some y/\bV nm y x)/\(lo=none->LO=none):=by
 cases lo with
 | none=>
  have:LO=none:=by simpa using h.symm
  exact⟨(λx hx=>by cases hx),λ_=>this⟩
 | some v=>
  obtain⟨y,h1,rfl⟩:=bK h;exact⟨λx hx=>by cases hx;exact⟨y,rfl,(eO h1).1⟩,λhx=>by cases hx⟩
def aaB {t:TypeId} (h:GH (P.underlying t)=true):P.underlying t=some (.int .u8):=by
 unfold GH at h;split at h
 ·assumption
 ·cases h
def O6 {e:TypeId} {b:Nat}:b<=xB e b/\(xB e b=1->e=5):=by
 unfold xB;by_cases he:e=Bp
 ·rw[aP he];exact⟨cp _,λ_=>he⟩
 ·rw[aI he];by_cases hb:b=1
  ·rw[aP hb];exact⟨by omega,λh=>by cases h⟩
  ·rw[aI hb];exact⟨cp _,λh=>absurd h hb⟩
def WS {t u e:TypeId} {i:TypeInfo} {dd:TypeDesc} {zs:List C} (ht:P.underlying t=some (.slice e)) (hu:P.underlying u=some dd) (hd:∀k,dd≠.int k) (hi:P.info? e=some i) (hz:p5 P e=some zs) (hs:i.size≠0) (hb:i.bytes≠0) :
  ∃z,BH P i.size (xB e i.bytes) t u e i dd z:=by
 obtain⟨i',z,k1,k2,k3,k4,k5⟩:=Bx hz;obtain rfl:i'=i:=by rw[hi] at k1;simpa using k1.symm
 exact⟨z,ht,hu,hd,hi,k2,rfl,k4,N' hs,O6.1,hb,O6.2⟩
def atw {l1:List Operand} {l2:List TypeId} {xs:List X} (h:(l1.zip l2).mapM (λx=>qe P nm hh x.2 x.1)=some xs) (hl:l1.length=l2.length):xs.length=l1.length/\∀(j:Nat) x y,xs[j]? = some x->l1[j]? = some y->bV nm x y/\x.iJ=true:=by
 obtain⟨h1,h2⟩:=DQ _ h;refine⟨by rw[h1,List.length_zip];omega,λj x y hx hy=>?_⟩;obtain⟨p,g1,g2⟩:=h2 j x hx;rw[afV] at g1;have:p.1=y:=by rw[g1.1] at hy;simpa using hy
 rw[this] at g2;exact vL g2
def aqa (hc:xr P nm G Cl) (R:Rel nm N S a w L) (hH:eA L) (hG:GI G w L) (hd:∀d,o.dst=some d->d < N) {io:oc} (bD:zJ P nm hh o=some io) (hr:(ch Cl d io).run S=some r) :
  dx P a w o (dN nm N S w L a o.dst r.1 r.2):=by
 have bad:∀{io:oc},(none:Option oc)=some io->False:=λh=>by cases h
 unfold zJ at bD;split at bD
 ·rename_i x ho;obtain⟨X,h1,rfl⟩:=bK bD;obtain⟨g1,g2⟩:=vL h1;exact YZ R hH hd g1 g2 (.inl ho) hr
 ·rename_i x ho;obtain⟨X,h1,rfl⟩:=bK bD;obtain⟨g1,g2⟩:=vL h1;exact YZ R hH hd g1 g2 (.inr ho) hr
 ·rename_i c x y ho;obtain⟨C',h1,h2⟩:=bind_some bD;obtain⟨X,h3,h4⟩:=bind_some h2;obtain⟨Y,h5,h6⟩:=bind_some h4;cases h6;exact aj4 R hd (eO h1).1 (eO h3).1 (eO h5).1 ho hr
 ·rename_i e ho;obtain⟨zs,h1,h2⟩:=bind_some bD;split at h2
  ·split at h2
   ·cases h2;exact ajC R hd ho h1 hr
   ·cases h2
  ·cases h2;exact ajB R hd ho h1 hr
 ·rename_i e v ho;obtain⟨n,h1,h2⟩:=bind_some bD;obtain⟨X,h3,h4⟩:=bind_some h2;split at h4
  ·cases h4
  ·rename_i hn;obtain⟨g1,g2⟩:=vL h3;split at h4
   ·cases h4;exact ajH R hH hd g1 g2 ho hn hr
   ·cases h4;exact ajG R hH hd g1 g2 ho hn hr
 ·rename_i t parts ho;obtain⟨zs,h1,h2⟩:=bind_some bD;split at h2
  ·rename_i fs ht;split at h2
   ·rename_i CO;obtain⟨ps,h3,rfl⟩:=bK h2;exact ajJ R hH hd ho h1 ht (λf hf=>by simpa using gY.1 CO f hf) (acD _ h3) hr
   ·cases h2
  ·cases h2
 ·rename_i t len parts ho;split at bD
  ·rename_i e ht;obtain⟨zs,h1,h2⟩:=bind_some bD;split at h2
   ·rename_i row h3;split at h2
    ·cases h2
    ·rename_i iG;obtain⟨ps,h5,rfl⟩:=bK h2;exact ajI R hH hd ho ht h1 h3 (λh=>iG (.inl h)) (λh=>iG (.inr (.inl h))) (P8 _ h5) (λh=>VE λh8=>iG (.inr (.inr ⟨h,h8⟩))) hr
   ·obtain⟨ps,h5,h6⟩:=bind_some h2;split at h6
    ·rename_i iG;cases h6;exact ajQ R hH hd ho ht h1 iG.1 iG.2.1 iG.2.2 (P8 _ h5) hr
    ·cases h6
  ·cases bD
 ·rename_i t x ho;obtain⟨⟨n,agg⟩,h1,h2⟩:=bind_some bD;obtain⟨X,h3,h4⟩:=bind_some h2;split at h4
  ·cases h4
  ·cases h4;exact ajU R hd (eO h3).1 ho h1 hr
 ·rename_i t x v ho;obtain⟨n,h1,h2⟩:=bind_some bD;obtain⟨X,h3,h4⟩:=bind_some h2;obtain⟨V',h5,h6⟩:=bind_some h4;split at h6
  ·cases h6
  ·rename_i hn;cases h6;obtain⟨g1,g2⟩:=vL h5;exact aj8 R hH hd (eO h3).1 g1 g2 ho h1 hn hr
 ·rename_i x ho;obtain⟨X,h1,rfl⟩:=bK bD;exact aj3 R hd (eO h1).1 ho hr
 ·rename_i op t x y yt ho;obtain⟨tc,h1,h2⟩:=bind_some bD;obtain⟨X,h3,h4⟩:=bind_some h2;obtain⟨Y,h5,h6⟩:=bind_some h4;cases h6;exact ajF R hd (eO h3).1 (eO h5).1 ho h1 hr
 ·rename_i op t x ho;obtain⟨X,h1,rfl⟩:=bK bD;exact aj' R hd (eO h1).1 ho hr
 ·rename_i s dt x ho;obtain⟨X,h1,h2⟩:=bind_some bD;obtain⟨g1,g2⟩:=eO h1;split at h2
  ·rename_i k k' hs sY;cases h2;exact ajL R hd g1 ho hs sY hr
  ·rename_i hs sY;cases h2;exact ajM R hd g1 ho hs sY hr
  ·rename_i e hs sY;split at h2
   ·rename_i hu;cases h2;exact aj9 R hH hd g1 ho hs sY (aaB hu.1) hu.2 hr
   ·cases h2
  ·rename_i e hs sY;split at h2
   ·rename_i hu;cases h2;exact ajK R hd g1 g2 ho hs sY (aaB hu) hr
   ·cases h2
  ·cases h2
 ·rename_i f x y ho;obtain⟨n,h1,h2⟩:=bind_some bD;obtain⟨n',k0,ou⟩:=fw.1 h1;obtain⟨ht,rfl⟩:n' < kN/\n'=n:=by
   split at ou
   ·rename_i ht;cases ou;exact⟨ht,rfl⟩
   ·cases ou
  obtain⟨xs,h3,h4⟩:=bind_some h2;obtain⟨ys,h5,h6⟩:=bind_some h4;cases h6;obtain⟨g1,g2⟩:=DQ _ h3;obtain⟨g3,g4⟩:=DQ _ h5;refine ajY R hH hd ht k0 g1 (λj X z hX hz=>?_) g3 (λj X z hX hz=>?_) ho hr
  ·obtain⟨z',k1,k2⟩:=g2 j X hX;rw[hz] at k1;cases k1;exact eO k2
  ·obtain⟨z',k1,k2⟩:=g4 j X hX;rw[hz] at k1;cases k1;exact eO k2
 ·rename_i t l c ho;split at bD
  ·rename_i e ht;obtain⟨i,h1,h2⟩:=bind_some bD;obtain⟨zs,h3,h4⟩:=bind_some h2;obtain⟨row,h5,h6⟩:=bind_some h4;obtain⟨LX,h7,h8⟩:=bind_some h6;obtain⟨CX,h9,cz⟩:=bind_some h8;split at cz
   ·cases cz
   ·rename_i hs;cases cz;exact aj1 R hH hd (eO h7).1 (eO h9).1 ho ht h1 h3 h5 hs O6 hr
  ·cases bD
 ·rename_i t x lo hi mx ho;obtain⟨X,h1,h2⟩:=bind_some bD;obtain⟨LO,h3,h4⟩:=bind_some h2;obtain⟨HI,h5,h6⟩:=bind_some h4;obtain⟨MX,h7,h8⟩:=bind_some h6;obtain⟨l1,l2⟩:=SX h3;obtain⟨l3,l4⟩:=SX h5;obtain⟨l5,l6⟩:=SX h7;split at h8
  ·rename_i ht;split at h8
   ·cases h8
   ·rename_i hm;cases h8;have hmn:mx=none:=by
     cases mx with
     | none=>rfl
     | some m=>obtain⟨y,hy,_⟩:=l5 m rfl;simp[hy] at hm
    subst hmn;exact aj7 R hd (eO h1).1 ho ht l1 l2 l3 l4 hr
  ·rename_i e ht;obtain⟨n,h9,cz⟩:=bind_some h8;split at cz
   ·cases cz
   ·rename_i iG;cases cz;refine aj6 R hd (eO h1).1 ho ht h9 (λh=>iG (.inl h)) l1 l2 l3 l4 l5 l6 (λhm hh=>?_) hr;apply iG;right;cases mx with
    | none=>exact absurd rfl hm
    | some m=>obtain⟨y,hy,_⟩:=l5 m rfl;exact⟨by rw[hy];rfl,by rw[l4 hh];rfl⟩
  ·cases h8
 ·rename_i s x fi ho;split at bD
  ·rename_i fs hs;obtain⟨f,h1,h2⟩:=bind_some bD;obtain⟨n,h3,h4⟩:=bind_some h2;obtain⟨X,h5,h6⟩:=bind_some h4;split at h6
   ·cases h6
   ·rename_i hn;cases h6;exact ajP R hd (eO h5).1 ho hs h1 h3 hn hr
  ·cases bD
 ·rename_i t x fi ho;split at bD
  ·rename_i fs hs;obtain⟨f,h1,h2⟩:=bind_some bD;obtain⟨⟨n,agg⟩,h3,h4⟩:=bind_some h2;obtain⟨X,h5,h6⟩:=bind_some h4;cases h6;obtain⟨g1,g2⟩:=eO h5;exact ajO R hd g1 g2 ho hs h1 h3 hr
  ·cases bD
 ·rename_i t x i ho;split at bD
  ·rename_i e ht;obtain⟨n,h1,h2⟩:=bind_some bD;obtain⟨X,h3,h4⟩:=bind_some h2;obtain⟨I,h5,h6⟩:=bind_some h4;split at h6
   ·cases h6
   ·cases h6;exact ajS R hd (eO h3).1 (eO h5).1 ho ht h1 hr
  ·rename_i k e ht;obtain⟨n,h1,h2⟩:=bind_some bD;obtain⟨X,h3,h4⟩:=bind_some h2;obtain⟨I,h5,h6⟩:=bind_some h4;split at h6
   ·cases h6
   ·cases h6;exact ajT R hd (eO h3).1 (eO h5).1 ho ht h1 hr
  ·cases bD
 ·rename_i t x i ho;split at bD
  ·rename_i ht;obtain⟨X,h3,h4⟩:=bind_some bD;obtain⟨I,h5,h6⟩:=bind_some h4;cases h6;exact ajR R hd (eO h3).1 (eO h5).1 ho ht hr
  ·cases bD
 ·rename_i x j ho;obtain⟨X,h1,rfl⟩:=bK bD;exact ajN R hd (eO h1).1 ho hr
 ·rename_i t x ho;split at bD
  ·cases bD
  ·rename_i dd jq ht;obtain⟨X,h1,rfl⟩:=bK bD;exact ajZ R hd ho ht (λm e=>jq m e) hr
  ·cases bD
 ·rename_i t r ho;split at bD
  ·rename_i k e ht;split at bD
   ·rename_i hc;cases bD;cases r with
    | none=>exact aj0 R hd ho hr
    | some x=>cases hc.2.2.1
   ·cases bD
  ·cases bD
 ·rename_i t m k ok ho;split at bD
  ·rename_i kt e ht;obtain⟨M,h1,h2⟩:=bind_some bD;obtain⟨K,h3,h4⟩:=bind_some h2;split at h4
   ·rename_i hc;cases h4;obtain⟨c1,c2,c3,rfl⟩:=hc;exact ajW R hd (eO h1).1 (eO h3).1 ho ht (aaA c1) c3 hr
   ·cases h4
  ·cases bD
 ·rename_i t m k x ho;split at bD
  ·rename_i kt e ht;obtain⟨M,h1,h2⟩:=bind_some bD;obtain⟨K,h3,h4⟩:=bind_some h2;obtain⟨Z,h5,h6⟩:=bind_some h4;split at h6
   ·rename_i hc;cases h6;exact aj2 R hd (eO h1).1 (eO h3).1 (eO h5).1 ho ht (aaA hc.1) hr
   ·cases h6
  ·cases bD
 ·rename_i c ho;unfold X8 at bD;split at bD
  ·rename_i f hf;obtain⟨F,h1,h2⟩:=bind_some bD;split at h2
   ·rename_i aY;obtain⟨xs,h3,h4⟩:=bind_some h2;cases h4;obtain⟨g1,g2⟩:=eO h1;obtain⟨g3,g4⟩:=atw h3 (by simpa using aY);refine hc R hH hG hd ho hf g1 g2 (by simpa using g3) (λj x y hx hy=>?_) hr;rw[bQ] at hx;cases hz:(xs.zipIdx)[j]? with
    | none=>simp[hz] at hx
    | some p=>
     simp only[hz,fJ,au] at hx;subst hx;rw[List.getElem?_zipIdx] at hz;cases R5:xs[j]? with
     | none=>simp[R5] at hz
     | some X=>
      simp only[R5,fJ,au] at hz;subst hz;exact g4 j X y R5 hy
   ·cases h2
  ·rename_i hb;split at bD
   ·rename_i x t hx ht;have cZ:c=⟨.builtin .len,#[x],#[t]⟩:=by obtain⟨cl,ca,ct⟩:=c;simp only at hb hx ht;subst hb;congr<;>(apply zi;simpa using by assumption)
    subst cZ;split at bD
    ·rename_i hu;obtain⟨X,h1,rfl⟩:=bK bD;exact YY R hd (eO h1).1 ho (by simpa using hu) hr
    ·rename_i e hu;obtain⟨X,h1,rfl⟩:=bK bD;exact YY R hd (eO h1).1 ho (by simpa using ⟨e,hu⟩) hr
    ·cases bD
   ·cases bD
  ·rename_i hb;split at bD
   ·rename_i x y t u hx ht;have cZ:c=⟨.builtin .append,#[x,y],#[t,u]⟩:=by obtain⟨cl,ca,ct⟩:=c;simp only at hb hx ht;subst hb;congr<;>(apply zi;simpa using by assumption)
    subst cZ;split at bD
    ·rename_i e Db;obtain⟨i,h1,h2⟩:=bind_some bD;obtain⟨zs,h3,h4⟩:=bind_some h2;obtain⟨X,h5,h6⟩:=bind_some h4;obtain⟨g1,g2⟩:=vL h5;split at h6
     ·rename_i e' Gw;obtain⟨Y,h7,h8⟩:=bind_some h6;split at h8
      ·cases h8
      ·rename_i iG;cases h8;obtain⟨g3,g4⟩:=vL h7;obtain⟨z,T⟩:=WS Db Gw (by simp) h1 h3 (λh=>iG (.inl h)) (λh=>iG (.inr h));split at hr
       ·exact ajE R hH hd g1 g2 g3 g4 ho T hr
       ·exact YX R hH hd g1 g2 g3 g4 ho T hr
     ·rename_i Gw;obtain⟨Y,h7,h8⟩:=bind_some h6;split at h8
      ·rename_i iG;cases h8;obtain⟨z,T⟩:=WS Db Gw (by simp) h1 h3 (by omega) (by omega);have FO:xB e i.bytes=1:=by rw[iG.2.2.2,iG.2.1];rfl
       rw[iG.1,FO] at T;exact ajD R hH hd g1 g2 (eO h7).1 ho T hr
      ·cases h8
     ·cases h6
    ·cases bD
   ·cases bD
  ·rename_i hb;split at bD
   ·rename_i x t hx ht;have cZ:c=⟨.builtin .unsafeSliceData,#[x],#[t]⟩:=by obtain⟨cl,ca,ct⟩:=c;simp only at hb hx ht;subst hb;congr<;>(apply zi;simpa using by assumption)
    subst cZ;obtain⟨X,h1,rfl⟩:=bK bD;exact aj5 R hd (eO h1).1 ho hr
   ·cases bD
  ·rename_i hb;split at bD
   ·rename_i x y t u hx ht;have cZ:c=⟨.builtin .unsafeString,#[x,y],#[t,u]⟩:=by obtain⟨cl,ca,ct⟩:=c;simp only at hb hx ht;subst hb;congr<;>(apply zi;simpa using by assumption)
    subst cZ;split at bD
    ·rename_i e he;split at bD
     ·rename_i iG;obtain⟨X,h3,h4⟩:=bind_some bD;obtain⟨Y,h5,h6⟩:=bind_some h4;cases h6;obtain⟨h7,h8⟩:=iG;have h9:e=5:=h7;subst h9;exact aka R hd (eO h3).1 (eO h5).1 ho he h8 hr
     ·cases bD
    ·cases bD
   ·cases bD
  ·rename_i hb;split at bD
   ·rename_i x y t u hx ht;have cZ:c=⟨.builtin .min,#[x,y],#[t,u]⟩:=by obtain⟨cl,ca,ct⟩:=c;simp only at hb hx ht;subst hb;congr<;>(apply zi;simpa using by assumption)
    subst cZ;obtain⟨X,h3,h4⟩:=bind_some bD;obtain⟨Y,h5,h6⟩:=bind_some h4;cases h6;exact ajX R hd (eO h3).1 (eO h5).1 ho hr
   ·cases bD
  ·rename_i hb;split at bD
   ·rename_i x y t u hx ht;have cZ:c=⟨.builtin .max,#[x,y],#[t,u]⟩:=by obtain⟨cl,ca,ct⟩:=c;simp only at hb hx ht;subst hb;congr<;>(apply zi;simpa using by assumption)
    subst cZ;obtain⟨X,h3,h4⟩:=bind_some bD;obtain⟨Y,h5,h6⟩:=bind_some h4;cases h6;exact ajV R hd (eO h3).1 (eO h5).1 ho hr
   ·cases bD
  ·cases bD
 ·cases bD
end
end
section
def St.same (S S':St):Prop:=∀k,S.get k=S'.get k
def St.same.refl (S:St):S.same S:=λ_=>rfl
def St.same.symm {S S':St} (h:S.same S'):S'.same S:=λk=>(h k).symm
def St.same.trans {S S' WA:St} (h:S.same S') (k:S'.same WA):S.same WA:=λx=>(h x).trans (k x)
def St.same.wr {S S':St} (h:S.same S') (x:Wr):(S.wr x).same (S'.wr x):=by
 intro k;rw[St.CD,St.CD,h x.k,h k]
def St.same.ai {S S':St} (h:S.same S'):∀ws:List Wr,(S.ai ws).same (S'.ai ws)
 | []=>h
 | x::t=>(St.same.ai h t).wr x
def Q.arn {α:Type} {S S':St} (h:S.same S') (x:Q α):x.run S'=x.run S/\x.reads S'=x.reads S:=Q.Uu x (λk _=>(h k).symm)
def Bw (S:St):∀(ws:List Wr) (k:Key),(∀x∈ws,x.k≠k)->(S.ai ws).get k=S.get k
 | [],_,_=>rfl
 | x::t,k,h=>by
  simp only[St.ai,St.CD];rw[aI (h x (by simp))];exact Bw S t k (λy hy=>h y (by simp[hy]))
def afQ (ws:List Wr) {S S':St} {k:Key} (h:S.get k=S'.get k):(S.ai ws).get k=(S'.ai ws).get k:=by
 induction ws with
 | nil=>exact h
 | cons x t ih=>
  simp only[St.ai,St.CD];by_cases hk:x.k=k
  ·subst hk;rw[aP rfl,aP rfl,ih]
  ·rw[aI hk,aI hk];exact ih
def atn (S:St) (u v:List Wr) (h:∀x∈u,∀y∈v,x.k≠y.k):((S.ai u).ai v).same ((S.ai v).ai u):=by
 intro k;by_cases hu:∃x∈u,x.k=k
 ·obtain⟨x,hx,rfl⟩:=hu;rw[Bw _ v x.k (λy hy e=>h x hx y hy e.symm)];exact afQ u (Bw S v x.k (λy hy e=>h x hx y hy e.symm)).symm
 ·have kb:∀x∈u,x.k≠k:=λx hx e=>hu ⟨x,hx,e⟩
  rw[Bw (S.ai v) u k kb];exact afQ v (Bw S u k kb)
def l9.agb {x y:l9} (h:x.apart y=true):(∀k∈x.w,k∉y.r/\k∉y.w)/\∀k∈y.w,k∉x.r:=by
 unfold l9.apart at h;simp only[cI,gY,zp,List.contains_eq_mem,decide_eq_false_iff_not] at h;exact h
def YT (Cl:bX):∀(l:List gA) {S S' Sf:St} {F:List l9},S.same S'->jd Cl l S=some (Sf,F)->∃zx,jd Cl l S'=some (zx,F)/\Sf.same zx
 | [],S,S',Sf,F,h,he=>by
  simp only[jd,au,iB] at he;obtain⟨rfl,rfl⟩:=he;exact⟨S',rfl,h⟩
 | o::t,S,S',Sf,F,h,he=>by
  simp only[jd] at he ⊢;obtain⟨h1,h2⟩:=Q.arn h (gF Cl o);rw[h1,h2];cases hw:(gF Cl o).run S with
  | none=>simp[hw] at he
  | some ws=>
   simp only[hw,Option.bind_some] at he ⊢;obtain⟨⟨S1,F1⟩,h3,h4⟩:=bK he;simp only[iB] at h4;obtain⟨rfl,rfl⟩:=h4;obtain⟨S2,h5,h6⟩:=YT Cl t (h.ai ws) h3;exact⟨S2,by rw[h5];rfl,h6⟩
def Xj (Cl:bX) (o:gA) (f:l9) (l2:List gA) (F2:List l9):∀(l1:List gA) {S Sf:St} {F1:List l9},F1.length=l1.length->jd Cl (l1++o::l2) S=some (Sf,F1++f::F2)->(∀g∈F1,g.apart f=true)->
  ∃ws,(gF Cl o).run S=some ws/\f=⟨(gF Cl o).reads S,ws.map (·.k)⟩/\∃zx,jd Cl (l1++l2) (S.ai ws)=some (zx,F1++F2)/\Sf.same zx
 | [],S,Sf,F1,hl,he,ha=>by
  have:F1=[]:=p7.1 hl;subst this;simp only[zr,jd] at he ⊢;cases hw:(gF Cl o).run S with
  | none=>simp[hw] at he
  | some ws=>
   simp only[hw,Option.bind_some] at he;obtain⟨⟨S1,F1⟩,h3,h4⟩:=bK he;simp only[iB,Ol] at h4;obtain⟨rfl,rfl,rfl⟩:=h4;exact⟨ws,rfl,rfl,Sf,h3,St.same.refl _⟩
 | x::t,S,Sf,F1,hl,he,ha=>by
  cases F1 with
  | nil=>simp at hl
  | cons g F1=>
   simp only[sr,jd] at he;cases hw:(gF Cl x).run S with
   | none=>simp[hw] at he
   | some wx=>
    simp only[hw,Option.bind_some] at he;obtain⟨⟨S1,F'⟩,h3,h4⟩:=bK he;simp only[iB,Ol] at h4;obtain⟨rfl,rfl,rfl⟩:=h4;obtain⟨ws,h5,h6,zx,h7,h8⟩:=Xj Cl o f l2 F2 t (by simpa using hl) h3 (λg hg=>ha g (by simp[hg]));obtain⟨a1,a2⟩:=l9.agb (ha ⟨(gF Cl x).reads S,wx.map (·.k)⟩ (by simp));have Aw:(gF Cl o).run S=some ws/\(gF Cl o).reads S=(gF Cl o).reads (S.ai wx):=by
     have := Q.Uu (S := S.ai wx) (S' := S) (gF Cl o) (λk hk => by
       refine(Bw S wx k ?_).symm
       rintro y hy rfl
       have := (a1 y.k (kJ.2 ⟨y, hy, rfl⟩)).1
       rw[h6] at this
       exact this hk)
     exact⟨this.1.trans h5,this.2⟩
    have hrx:(gF Cl x).run (S.ai ws)=some wx/\(gF Cl x).reads (S.ai ws)=(gF Cl x).reads S:=by
     have := Q.Uu (S := S) (S' := S.ai ws) (gF Cl x) (λk hk => by
       refine Bw S ws k ?_
       rintro y hy rfl
       exact a2 y.k (by rw[h6]; exact kJ.2 ⟨y, hy, rfl⟩) hk)
     exact⟨this.1.trans hw,this.2⟩
    have ak1:∀y∈wx,∀z∈ws,y.k≠z.k:=by
     intro y hy z hz e;have:=(a1 y.k (kJ.2 ⟨y,hy,rfl⟩)).2;rw[h6,e] at this;exact this (kJ.2 ⟨z,hz,rfl⟩)
    obtain⟨af',h9,cz⟩:=YT Cl (t++l2) (atn S wx ws ak1) h7;refine⟨ws,Aw.1,by rw[h6,Aw.2],af',?_,h8.trans cz⟩;simp only[sr,jd,hrx.1,hrx.2,Option.bind_some,h9,fJ]
def agn (ops:Array Oper):(Region.before ops).size=ops.size/\∀i j,((Region.before ops).getD i 0).testBit j=true->∃o e,ops[i]? = some o/\e∈o.after/\Region.binds .any e=true/\(e.on=j\/(e.on < i/\((Region.before ops).getD e.on 0).testBit j=true)):=by
 have inner:∀(acc:Array Nat) (l:List Edge) (s j:Nat),(l.foldl (λs e=>if Region.binds .any e then s ||| 2 ^ e.on ||| acc.getD e.on 0 else s) s).testBit j=true->
   s.testBit j=true\/∃e∈l,Region.binds .any e=true/\(e.on=j\/(acc.getD e.on 0).testBit j=true):=by
  intro acc l;induction l with
  | nil=>intro s j h;exact .inl h
  | cons e l ih=>
   intro s j h;simp only[V4] at h;rcases ih _ _ h with h | ⟨e',h1,h2,h3⟩
   ·split at h
    ·rename_i hb;rw[Nat.testBit_or,Nat.testBit_or,IG,IG] at h;rcases h with(h | h) | h
     ·exact .inl h
     ·rw[Nat.testBit_two_pow] at h;exact .inr ⟨e,by simp,hb,.inl (by simpa using h)⟩
     ·exact .inr ⟨e,by simp,hb,.inr h⟩
    ·exact .inl h
   ·exact .inr ⟨e',by simp[h1],h2,h3⟩
 have main:∀(n:Nat),n<=ops.size->∀(acc:Array Nat),acc=(ops.toList.take n).foldl (λacc o=>acc.push (o.after.foldl (λs e=>if Region.binds .any e then s ||| 2 ^ e.on ||| acc.getD e.on 0 else s) 0)) #[]->
   acc.size=n/\∀i j,(acc.getD i 0).testBit j=true->∃o e,ops[i]? = some o/\e∈o.after/\Region.binds .any e=true/\(e.on=j\/(e.on < i/\(acc.getD e.on 0).testBit j=true)):=by
  intro n;induction n with
  | zero=>
   intro _ acc h;subst h;exact⟨rfl,λi j h=>by simp at h⟩
  | succ n ih=>
   intro hn acc h;rw[List.take_succ_eq_append_getElem (by rw[VP];omega),List.foldl_append] at h;obtain⟨IX,QM⟩:∃x,x=(ops.toList.take n).foldl (λacc o=>acc.push (o.after.foldl (λs e=>if Region.binds .any e then s ||| 2 ^ e.on ||| acc.getD e.on 0 else s) 0)) #[]:=⟨_,rfl⟩
   obtain⟨g1,g2⟩:=ih (by omega) IX QM;rw[<-QM] at h;clear QM ih;simp only[V4,List.foldl_nil] at h;have RG:∀k,k < n->acc.getD k 0=IX.getD k 0:=by
    intro k hk;subst h;simp only[jW];rw[VQ,aI (by omega)]
   refine⟨by rw[h];simp[g1],λi j hb=>?_⟩;by_cases hi:i < n
   ·rw[RG i hi] at hb;obtain⟨o,e,k1,k2,k3,k4⟩:=g2 i j hb;refine⟨o,e,k1,k2,k3,k4.imp id (λ⟨k5,k6⟩=>⟨k5,by rw[RG _ (by omega)];exact k6⟩)⟩
   ·by_cases j9:i=n
    ·subst j9;have hv:acc.getD i 0=(ops[i]'(by omega)).after.foldl (λs e=>if Region.binds .any e then s ||| 2 ^ e.on ||| IX.getD e.on 0 else s) 0:=by
      rw[h];simp only[jW];rw[VQ,aP (by omega)];simp
     rw[hv,<-VU] at hb;rcases inner IX _ 0 j hb with h0 | ⟨e,k1,k2,k3⟩
     ·simp at h0
     ·refine⟨ops[i],e,by simp,by simpa using k1,k2,?_⟩;rcases k3 with k3 | k3
      ·exact .inl k3
      ·have hon:e.on < i:=by
        rcases zh e.on i with h | h
        ·exact h
        ·rw[jW,N5 (by omega)] at k3;simp at k3
       exact .inr ⟨hon,by rw[RG _ hon];exact k3⟩
    ·rw[jW,N5 (by rw[h];simp[g1];omega)] at hb;simp at hb
 have := main ops.size (cp _) (Region.before ops) (by
   unfold Region.before
   rw[zn (by rw[VP]; exact cp _), VU])
 exact this
def Wk (ops:Array Oper) (listed:Array Bool):Prop:=∀(i:Nat) o,ops[i]? = some o->listed.getD i true=true->∀e∈o.after,Region.binds .any e=true->listed.getD e.on false=true
def W4 (ops:Array Oper) (listed:Array Bool) (hs:listed.size=ops.size) (hc:Wk ops listed):∀(n i:Nat),i < n->∀o,ops[i]? = some o->(∀e∈o.after,Region.binds .any e=true->listed.getD e.on false=true)->
  ∀j,((Region.before ops).getD i 0).testBit j=true->listed.getD j false=true
 | 0,i,hi,_,_,_,_,_=>by omega
 | n+1,i,hi,o,ho,hr,j,hb=>by
  obtain⟨o',e,h1,h2,h3,h4⟩:=(agn ops).2 i j hb;rw[ho] at h1;cases h1;have hl:=hr e h2 h3;rcases h4 with rfl | ⟨h4,h5⟩
  ·exact hl
  ·have af:e.on < ops.size:=by
    rcases zh e.on ops.size with h | h
    ·exact h
    ·rw[jW,N5 (by omega)] at hl;cases hl
   refine W4 ops listed hs hc n e.on (by omega) ops[e.on] (by simp[af]) (hc e.on _ (by simp[af]) ?_) j h5;rw[jW] at hl ⊢;cases hx:listed[e.on]? with
   | none=>rfl
   | some b=>simpa[hx] using hl
end
section
section
variable {nm:FuncId->Option Nat} {G:Nat->Option Obj} {N:Nat} {S:St} {a:Act} {w:World} {L:aw} {P:Program} {o:Oper} {Cl:bX} {hh:Hint} {ops:Array Oper}
def Rel.same {S S':St} (h:S.same S') (R:Rel nm N S a w L):Rel nm N S' a w L:=by
 have h1:S'.E=S.E:=funext λk=>by unfold St.E;rw[h k]
 have h2:S'.γ=S.γ:=funext λk=>by unfold St.γ;rw[h k]
 unfold Rel;rw[h1,h2];exact R
def ob.same {S S':St} {w0:World} {L0:aw} (h:S.same S') (D:ob nm N S w0 L0 a w L):ob nm N S' w0 L0 a w L:=⟨D.rel.same h,D.mono,D.yH⟩
def atp {j d:Nat} {g:Oper} (hg:ops[j]? = some g) (hd:g.dst=some d) (tmps:Array Value):yielded ops tmps j=match tmps[d]? with | some (.bool b)=>some b | _=>none:=by
 unfold yielded;rw[hg,Option.bind_some,hd,Option.bind_some];cases tmps[d]? with
 | none=>rfl
 | some v=>cases v<;>rfl
def acr (hc:xr P nm G Cl) (R:Rel nm N S a w L) (hH:eA L) (hG:GI G w L) (hN:hh.nt=N) {io:gA} {i:Nat} (hi:ops[i]? = some o) (bD:Jq P nm hh ops o=some io) {ws:List Wr} (hr:(gF Cl io).run S=some ws)
  {K:Act->World->Prop} {Qx:Exit->Act->World->Prop} (hK:∀a' w' L',ob nm N (S.ai ws) w L a' w' L'->K a' w'):wpOp P ops Qx i K a w:=by
 unfold Jq at bD;split at bD
 ·rename_i ZP;have hd:∀d,o.dst=some d->d < N:=by
   intro d hd;rw[hd] at ZP;simpa[hN] using ZP
  have wanted:∀{v:V} {eS:List Wr},Region.wanted o (yielded ops a.tmps)=true->(ch Cl (o.dst.getD 0) ((zJ P nm hh o).getD .bad)).run S=some (v,eS)->ws=Bv o.dst v eS->wpOp P ops Qx i K a w:=by
   intro v eS hw CT uN;unfold wpOp;rw[hi];simp only[hw,dj];left;cases Q7:zJ P nm hh o with
   | none=>rw[Q7] at CT;simp[ch] at CT
   | some io'=>
    rw[Q7] at CT;exact(aqa hc R hH hG hd Q7 CT).wp (λv' w' ⟨L',D⟩=>hK _ _ _ (by rw[uN];exact D))
  have skip:Region.wanted o (yielded ops a.tmps)=false->ws=(match o.dst with | some d=>[{ k:=.s d,v:=.ao [] }] | none=>[])->wpOp P ops Qx i K a w:=by
   intro hw uN;unfold wpOp;rw[hi];simp only[hw,xn,eX];obtain⟨L',D⟩:=Rel.gj (ws:=[]) (dst:=o.dst) (m:=0) (x:=.ao []) (v:=undef) R (dc.refl w L) hd (.ao (us:=#[]) rfl rfl (λi x u h=>by simp at h));refine hK _ _ _ (by rw[uN];cases uJ:o.dst<;>simpa[Bv,uJ] using D)
  have fin:∀{gd:Option (Nat×Bool)} {want:Bool} {f:Unit},io=⟨o.dst,(zJ P nm hh o).getD .bad,gd⟩->True:=λ_=>trivial
  split at bD
  ·rename_i hg;cases bD;unfold gF at hr;obtain⟨want,h1,h2⟩:=Q.aL hr;obtain rfl:=Q.aW h1;simp only[dj] at h2;obtain⟨⟨v,eS⟩,h3,h4⟩:=Q.aL h2;refine wanted (by unfold Region.wanted;rw[hg]) h3 ?_;cases uJ:o.dst with
   | none=>rw[uJ] at h4;simpa[Bv] using Q.aW h4
   | some d=>rw[uJ] at h4;simpa[Bv] using Q.aW h4
  ·rename_i j b hg;split at bD
   ·rename_i d Z1;cases bD;obtain⟨g,hgj,rh⟩:∃g,ops[j]? = some g/\g.dst=some d:=by
     cases hx:ops[j]? with
     | none=>simp[hx] at Z1
     | some g=>exact⟨g,rfl,by simpa[hx] using Z1⟩
    have hy:=atp hgj rh a.tmps;have na:=R.slot d;unfold gF at hr;obtain⟨want,h1,h2⟩:=Q.aL hr;have ou:=Q.np h1;have aat:Region.wanted o (yielded ops a.tmps)=want:=by
     unfold Region.wanted;rw[hg];simp only;rw[hy];split at ou
     ·rename_i x hx;obtain rfl:=Q.aW ou;have hE:S.E (.s d) = .one (.d (.bool x)):=hx;rw[hE] at na;have hv:=na.cB.sH;rw[jW] at hv;cases ht:a.tmps[d]? with
      | none=>rw[ht] at hv;simp[undef] at hv
      | some u=>
       rw[ht] at hv;simp only[Option.getD_some] at hv;subst hv;cases x<;>cases b<;>rfl
     ·rename_i hx;obtain rfl:=Q.aW ou;have hE:S.E (.s d) = .ao []:=hx;rw[hE] at na;rw[jW] at na;cases ht:a.tmps[d]? with
      | none=>rfl
      | some u=>
       rw[ht] at na;simp only[Option.getD_some] at na;cases na;rfl
     ·cases ou
    cases want with
    | true=>
     simp only[dj] at h2;obtain⟨⟨v,eS⟩,h3,h4⟩:=Q.aL h2;refine wanted aat h3 ?_;cases uJ:o.dst with
     | none=>rw[uJ] at h4;simpa[Bv] using Q.aW h4
     | some d=>rw[uJ] at h4;simpa[Bv] using Q.aW h4
    | false=>
     simp only[xn,eX] at h2;refine skip aat ?_;cases uJ:o.dst with
     | none=>rw[uJ] at h2;simpa using Q.aW h2
     | some d=>rw[uJ] at h2;simpa using Q.aW h2
   ·cases bD
 ·cases bD
def Jr {l:List gA} (h:Fj P nm hh ops=some l):l.length=ops.size/\∀(i:Nat) io,l[i]? = some io->∃o,ops[i]? = some o/\Jq P nm hh ops o=some io:=by
 obtain⟨h1,h2⟩:=DQ _ h;refine⟨by simpa using h1,λi io hi=>?_⟩;obtain⟨o,g1,g2⟩:=h2 i io hi;exact⟨o,by rw[<-af4];exact g1,g2⟩
def ob.trans {S S':St} {a a':Act} {w0 w w':World} {L0 L L':aw} (h:ob nm N S w0 L0 a w L) (k:ob nm N S' w L a' w' L'):ob nm N S' w0 L0 a' w' L':=⟨k.rel,h.mono.trans k.mono,k.yH⟩
def acs (hc:xr P nm G Cl) (hN:hh.nt=N) {l:List gA} (hl:Fj P nm hh ops=some l) {Q:Exit->Act->World->Prop}:∀(m k:Nat),k+m=ops.size->∀{S Sf:St} {a:Act} {w:World} {L:aw},Rel nm N S a w L->eA L->GI G w L->oj Cl (l.drop k) S=some Sf->
  (∀a' w' L',ob nm N Sf w L a' w' L'->Q .normal a' w')->wpOps P ops Q (List.range' k m) a w
 | 0,k,hk,S,Sf,a,w,L,R,hH,hG,he,hQ=>by
  obtain⟨h1,_⟩:=Jr hl;rw[List.drop_of_length_le (by omega)] at he;simp only[oj,au] at he;subst he;exact hQ a w L ⟨R,dc.refl w L,hH⟩
 | m+1,k,hk,S,Sf,a,w,L,R,hH,hG,he,hQ=>by
  obtain⟨h1,h2⟩:=Jr hl;have s5:k < l.length:=by omega
  rw[ku s5] at he;simp only[oj] at he;cases hw:(gF Cl l[k]).run S with
  | none=>simp[hw] at he
  | some ws=>
   simp only[hw,Option.bind_some] at he;obtain⟨o,g1,g2⟩:=h2 k l[k] (by simp);rw[List.range'_succ,wpOps_cons];exact acr hc R hH hG hN g1 g2 hw (λa' w' L' D=>acs hc hN hl m (k+1) (by omega) D.rel D.yH (hG.mono D.mono) he (λWE tY EZ D'=>hQ _ _ _ (D.trans D')))
def Uf {listed:Array Bool} {i:Nat}:i∈Region.ready .any ops listed↔i < ops.size/\listed.getD i true=false/\∃o,ops[i]? = some o/\∀e∈o.after,Region.binds .any e=true->listed.getD e.on false=true:=by
 unfold Region.ready;rw[List.mem_filter,vu];simp only[cI,zp];constructor
 ·rintro⟨h1,h2,h3⟩;refine⟨h1,h2,ops[i],by simp[h1],?_⟩;simp only[oZ h1,fJ,Option.getD_some] at h3;intro e he hb;have:=VW.1 h3 e he;simpa[hb] using this
 ·rintro⟨h1,h2,o,h3,h4⟩;refine⟨h1,h2,?_⟩;rw[h3];simp only[fJ,Option.getD_some];rw[VW];intro e he;cases hb:Region.binds .any e with
  | false=>rfl
  | true=>simpa[hb] using h4 e he hb
def WQ (hc:xr P nm G Cl) (hN:hh.nt=N) {l:List gA} (hl:Fj P nm hh ops=some l) (bh:Jy ops=true) {Q:Exit->Act->World->Prop} {φ:Nat->l9}
  (hφ:∀i j,i < j->j < ops.size->((Region.before ops).getD j 0).testBit i=false->(φ i).apart (φ j)=true) :
  ∀(fuel:Nat) (rem:List Nat) (listed:Array Bool),rem.length=fuel->listed.size=ops.size->rem.Pairwise (· < ·)->(∀i,i∈rem↔i < ops.size/\listed.getD i true=false)->Wk ops listed->
  ∀{S Sf:St} {a:Act} {w:World} {L:aw},Rel nm N S a w L->eA L->GI G w L->jd Cl (rem.map λi=>l.getD i default) S=some (Sf,rem.map φ)->(∀a' w' L',ob nm N Sf w L a' w' L'->Q .normal a' w')->wpAny P .any ops Q fuel listed a w
 | 0,rem,listed,hlen,aY,Gv,Av,aU,S,Sf,a,w,L,R,hH,hG,he,hQ=>by
  have:rem=[]:=p7.1 hlen;subst this;simp only[vy,jd,au,iB,and_true] at he;subst he;refine⟨?_,hQ a w L ⟨R,dc.refl w L,hH⟩⟩;rw[List.eq_nil_iff_forall_not_mem];intro i hi;obtain⟨h1,h2,_⟩:=Uf.1 hi;exact absurd ((Av i).2 ⟨h1,h2⟩) (by simp)
 | fuel+1,rem,listed,hlen,aY,Gv,Av,aU,S,Sf,a,w,L,R,hH,hG,he,hQ=>by
  obtain⟨g1,g2⟩:=Jr hl;refine⟨?_,?_⟩
  ·
   intro pJ;exfalso;cases rem with
   | nil=>simp at hlen
   | cons r0 rest=>
    have uK:=(Av r0).1 (by simp);have:r0∈Region.ready .any ops listed:=by
     refine Uf.2 ⟨uK.1,uK.2,ops[r0],by simp[uK.1],?_⟩;intro e he hb;have h3:=gY.1 bh r0 (vu.2 uK.1);simp only[oZ uK.1,fJ,Option.getD_some] at h3;have h4:=VW.1 h3 e he;simp only[hb,Wb,xo,gX] at h4;cases hx:listed.getD e.on true with
     | false=>
      have:e.on∈r0::rest:=(Av e.on).2 ⟨by omega,hx⟩;rcases ik.1 this with h5 | h5
      ·omega
      ·have:=(VT.1 Gv).1 e.on h5;omega
     | true=>
      have af:e.on < listed.size:=by omega
      simp only[jW,oZ af,Option.getD_some] at hx ⊢;exact hx
    rw[pJ] at this;simp at this
  ·intro i hi;obtain⟨h1,h2,o,h3,h4⟩:=Uf.1 hi;have alb:i∈rem:=(Av i).2 ⟨h1,h2⟩;obtain⟨l1,l2,alA⟩:=List.append_of_mem alb;subst alA;have af:∀r∈l1,r < i:=λr hr=>(N6.1 Gv).2.2 r hr i (by simp)
   have QN:∀g∈l1.map φ,g.apart (φ i)=true:=by
    intro g hg;obtain⟨r,hr,rfl⟩:=kJ.1 hg;refine hφ r i (af r hr) h1 ?_;cases hb:((Region.before ops).getD i 0).testBit r with
    | false=>rfl
    | true=>
     have iu:=W4 ops listed aY aU (i+1) i (by omega) o h3 h4 r hb;have RJ:=((Av r).1 (by simp[hr]))
     have kU:r < listed.size:=by omega
     simp only[jW,oZ kU,Option.getD_some] at iu RJ;rw[iu] at RJ;exact absurd RJ.2 (by simp)
   simp only[eF,e9] at he;obtain⟨ws,k1,_,zx,k3,k4⟩:=Xj Cl _ (φ i) _ _ (l1.map λi=>l.getD i default) (by simp) he QN;have Z8:i < l.length:=by omega
   have vZ:l.getD i default=l[i]:=by simp[nY,Z8]
   rw[vZ] at k1;obtain⟨o',m1,m2⟩:=g2 i l[i] (by simp);refine acr hc R hH hG hN m1 m2 k1 (λa' w' L' D=>?_);rw[<-eF,<-eF] at k3;have Km:∀k b,(listed.setIfInBounds i true).getD k b=if k=i then true else listed.getD k b:=by
    intro k b;simp only[jW];by_cases qt:k=i
    ·subst qt;rw[zj];simp[show k < listed.size by omega]
    ·rw[By (λe=>qt e.symm),aI qt]
   have alz:(l1++l2).Pairwise (· < ·):=by
    have:=N6.1 Gv;refine N6.2 ⟨this.1,(VT.1 this.2.1).2,λx hx y hy=>this.2.2 x hx y (by simp[hy])⟩
   have hni:i∉l1++l2:=by
    intro hm;rcases dk.1 hm with hm | hm
    ·exact V8 _ (af i hm)
    ·exact V8 _ ((VT.1 (N6.1 Gv).2.1).1 i hm)
   refine WQ hc hN hl bh hφ fuel (l1++l2) (listed.setIfInBounds i true) (by simp at hlen ⊢;omega) (by simpa using aY) alz ?_ ?_ D.rel D.yH (hG.mono D.mono) k3 (λWE tY EZ D'=>hQ _ _ _ ((D.trans D').same k4.symm))
   ·intro k;rw[Km];by_cases qt:k=i
    ·subst qt;simp only[dj];exact⟨λh=>absurd h hni,λh=>by simp at h⟩
    ·rw[aI qt,<-Av k];simp[dk,ik,qt]
   ·intro k ok RB hk e he hb;rw[Km] at hk ⊢;by_cases qt:k=i
    ·subst qt;rw[h3] at RB;cases RB;have:=h4 e he hb;split
     ·rfl
     ·exact this
    ·rw[aI qt] at hk;have:=aU k ok RB hk e he hb;split
     ·rfl
     ·exact this
end
end
section
section
variable {nm:FuncId->Option Nat} {G:Nat->Option Obj} {N:Nat} {S:St} {a:Act} {w:World} {L:aw} {P:Program} {o:Oper} {Cl:bX} {hh:Hint} {ops:Array Oper}
mutual
def C.ev:C->List Key
 | .view pl .. => [pl.k]
 | .eB pl .. => [pl.k]
 | .cY pl .. => [pl.k,.a pl.k]
 | .gq i _=>[.b (.g i) 0]
 | .ptr r _ _=>[.r r]
 | .fn _ a b=>qk a++qk b
 | _=>[]
def qk:List C->List Key
 | []=>[]
 | c::t=>c.ev++qk t
end
mutual
def V.ev:V->List Key
 | .one c=>c.ev
 | .agg cs=>qk cs
 | .ao vs=>sU vs
def sU:List V->List Key
 | []=>[]
 | v::t=>v.ev++sU t
end
def FL:∀{l:List C} {i:Nat} {c:C} {k:Key},l[i]? = some c->k∈c.ev->k∈qk l
 | [],_,_,_,h,_=>by simp at h
 | x::t,0,c,k,h,hk=>by simp at h;subst h;simp[qk,hk]
 | x::t,i+1,c,k,h,hk=>by simp only[qk,dk];exact .inr (FL (by simpa using h) hk)
def ZG:∀{l:List V} {i:Nat} {c:V} {k:Key},l[i]? = some c->k∈c.ev->k∈sU l
 | [],_,_,_,h,_=>by simp at h
 | x::t,0,c,k,h,hk=>by simp at h;subst h;simp[sU,hk]
 | x::t,i+1,c,k,h,hk=>by simp only[sU,dk];exact .inr (ZG (by simpa using h) hk)
def aC.dP {γ γ':Key->Nat} {k:Key} {j:Nat} {c:C} {v:Value} (h:aC nm w L γ k j c v):(∀x∈c.ev,γ' x=γ x)->aC nm w L γ' k j c v:=by
 induction h with
 | d h=>exactλ_=>.d h
 | @ptr r g c v hv hg h=>intro hx;have:=hx (.r r) (by simp[C.ev]);exact .ptr hv (by omega) (λe=>h (by omega))
 | @eB pl g sz i c v hv hh hg h=>intro hx;have:=hx pl.k (by simp[C.ev]);exact .eB hv hh (by omega) (λe=>h (by omega))
 | pp hL hB h=>exactλ_=>.pp hL hB h
 | @view pl g sz off len v hv hh hg h=>intro hx;have:=hx pl.k (by simp[C.ev]);exact .view hv hh (by omega) (λe=>h (by omega))
 | @cY pl g a sz rows v hv hh hg ha h=>
  intro hx;have h1:=hx pl.k (by simp[C.ev]);have h2:=hx (.a pl.k) (by simp[C.ev]);exact .cY hv hh (by omega) (by omega) (λe e'=>h (by omega) (by omega))
 | fns val hf hL hB aU hv h ih=>
  intro hx;exact .fns val hf hL hB aU hv (λi x hi=>ih i x hi (λy hy=>hx y (by simp only[C.ev,dk];exact .inr (FL hi hy))))
 | fn j8 hf h1 h2 aU h3 h4 ta td=>
  intro hx;exact .fn j8 hf h1 h2 aU (λi x u hi hu=>ta i x u hi hu (λy hy=>hx y (by simp only[C.ev,dk];exact .inl (FL hi hy))))
   (λi x u hi hu=>td i x u hi hu (λy hy=>hx y (by simp only[C.ev,dk];exact .inr (FL hi hy))))
 | c7=>exactλ_=>.c7
 | eY=>exactλ_=>.eY
 | fQ=>exactλ_=>.fQ
 | fk=>exactλ_=>.fk
 | bz hk hv=>exactλ_=>.bz hk hv
 | mp h=>exactλ_=>.mp h
 | @gq i g v hv hg h=>intro hx;have:=hx (.b (.g i) 0) (by simp[C.ev]);exact .gq hv (by omega) (λe=>h (by omega))
 | dead=>exactλ_=>.dead
def bJ.dP {γ γ':Key->Nat} {k:Key} {x:V} {v:Value} (h:bJ nm w L γ k x v):(∀y∈x.ev,γ' y=γ y)->bJ nm w L γ' k x v:=by
 induction h with
 | one h=>exactλhx=>.one (h.dP hx)
 | agg hl h=>exactλhx=>.agg hl (λj c u h1 h2=>(h j c u h1 h2).dP (λy hy=>hx y (FL h1 hy)))
 | ao hl aU h ih=>exactλhx=>.ao hl aU (λi x u h1 h2=>ih i x u h1 h2 (λy hy=>hx y (ZG h1 hy)))
def Rel.forget {S S':St} (R:Rel nm N S a w L)
  (hE:∀k,(S'.E k=S.E k\/S'.E k=(S.E k).pO)\/(S'.E k=V.dead)) (hr:∀r,cr (S'.E (.r r))≠0->S'.E (.r r)=S.E (.r r))
  (hb:∀r c,S'.E (.b r c)≠V.dead->cr (S'.E (.r r))=cr (S.E (.r r)))
  (hγ:∀k y,k.aT=true->S'.E k≠V.dead->y∈(S.E k).ev->S'.γ y=S.γ y):Rel nm N S' a w L:=by
 have loose:∀{k:Key} {x:V} {v:Value},bJ nm w L S.γ k x v->bJ nm w L S.γ k x.pO v:=by
  intro k x v h;cases x with
  | one c=>
   cases c with
   | d y=>
    cases y with
    | sl t sz rows=>
     cases t with
     | _=>exact h
    | _=>exact h
   | _=>exact h
  | _=>exact h
 have akR:∀x:V,∀y∈x.pO.ev,y∈x.ev:=by
  intro x y hy;cases x with
  | one c=>
   cases c with
   | d z=>cases z with
    | sl t sz rows=>cases t<;>exact hy
    | _=>exact hy
   | _=>exact hy
  | _=>exact hy
 have slot:∀k v,k.aT=true->bJ nm w L S.γ k (S.E k) v->bJ nm w L S'.γ k (S'.E k) v:=by
  intro k v hk h;by_cases hd:S'.E k=V.dead
  ·rw[hd];exact .one .dead
  ·rcases hE k with(h1 | h1) | h1
   ·rw[h1];exact h.dP (λy hy=>hγ k y hk hd hy)
   ·rw[h1];exact(loose h).dP (λy hy=>hγ k y hk hd (akR _ y hy))
   simp_all
 refine⟨R.size,R.defers,λi=>slot (.s i) _ rfl (R.slot i),?_,?_,?_,?_,R.fx,R.ey,R.fy⟩
 ·intro r c x hx gp;have jq:S'.E (.b r c)≠V.dead:=by rw[hx];intro e;exact gp (by simpa[V.dead] using e)
  obtain⟨x0,oG⟩:=R.kx r c;have alG:x0≠.dead:=by
   rintro rfl;apply jq;rcases hE (.b r c) with(h1 | h1) | h1
   ·simp_all
   ·rw[h1,oG];rfl
   omega
  have wu:x0=x:=by
   rcases hE (.b r c) with(h1 | h1) | h1
   ·simp_all
   ·rw[hx,oG] at h1;simpa[V.pO,C.pO] using h1.symm
   simp_all
  have ow:=R.cell r c x0 oG alG;have tr:∀v,aC nm w L S.γ (.b r c) 0 x0 v->aC nm w L S'.γ (.b r c) 0 x v:=by
   intro v hv;have:=slot (.b r c) v rfl (by rw[oG];exact .one hv);rw[hx] at this;exact this.cB
  have ex:(∃B o cur e fz v,L B=some (.box r o)/\w.heap[B]? = some (.cells cur e fz)/\jA cur.size fz/\cur[o+c]? = some v/\aC nm w L S.γ (.b r c) 0 x0 v/\lK x0 B o c e cur.size v)->
    ∃B o cur e fz v,L B=some (.box r o)/\w.heap[B]? = some (.cells cur e fz)/\jA cur.size fz/\cur[o+c]? = some v/\aC nm w L S'.γ (.b r c) 0 x v/\lK x B o c e cur.size v:=
   λ⟨B,o,cur,e,fz,v,h1,h2,h3,h4,h5,h6⟩=>⟨B,o,cur,e,fz,v,h1,h2,h3,h4,tr v h5,wu▸h6⟩
  cases r with
  | g i=>obtain⟨v,hv⟩:=ow;exact⟨v,tr v hv⟩
  | e i=>exact ex ow
  | l i=>exact ex ow
 ·intro r c;obtain⟨x0,oG⟩:=R.kx r c;rcases hE (.b r c) with(h1 | h1) | h1
  ·simp_all
  ·exact⟨x0.pO,by rw[h1,oG];rfl⟩
  ·exact⟨.dead,h1⟩
 ·intro r c hc;by_cases hd:S'.E (.b r c)=V.dead
  ·exact hd
  ·rw[hb r c hd] at hc;have:=R.bound r c hc;rcases hE (.b r c) with(h1 | h1) | h1
   ·simp_all
   ·rw[h1,this];rfl
   ·exact h1
 ·intro r hg dV;have:=hr r (by omega);rw[this] at dV ⊢;exact R.room r hg dV
def get_mem:∀(S:St) (k:Key),S.get k=⟨.one .dead,0⟩\/(k,S.get k)∈S
 | [],k=>.inl rfl
 | (k',e)::t,k=>by
  simp only[St.get];by_cases h:k'=k
  ·simp_all
  ·rw[aI h];exact(get_mem t k).imp id (λh=>by simp[h])
def get_filter (p:Key->Bool):∀(S:St) (k:Key),St.get (S.filter λx=>p x.1) k=if p k=true then S.get k else⟨.one .dead,0⟩
 | [],k=>by simp[St.get]
 | (k',e)::t,k=>by
  have ih:=get_filter p t k;by_cases hp:p k'=true
  ·rw[List.filter_cons,aP (by omega)];simp only[St.get];by_cases h:k'=k
   ·simp_all
   simp_all
  ·rw[List.filter_cons,aI (by omega)];simp only[St.get];by_cases h:k'=k
   ·simp_all
   simp_all
def Qy (refs:List Key):∀(S:St) (k:Key),(reset refs S).get k = { (S.get k) with g:=Ni refs k (S.get k).g }
 | [],k=>by
  simp only[reset,St.get,Ni];split
  ·rfl
  ·cases k<;>rfl
 | (k',e)::t,k=>by
  simp only[reset,St.get];by_cases h:k'=k
  ·simp_all
  ·simp only[h,eX];exact Qy refs t k
def Zu:∀(S:St) (k:Key),(DP S).get k = { (S.get k) with v:=(S.get k).v.pO }
 | [],k=>rfl
 | (k',e)::t,k=>by
  simp only[DP,St.get];by_cases h:k'=k
  ·simp_all
  ·simp only[h,eX];exact Zu t k
mutual
def C.FM:∀(c:C) (k:Key),k∈c.ev->k∈c.refs\/∃r,k = .r r
 | .view pl _ _ _ _,k,h=>.inl h
 | .eB pl _ _ _ _,k,h=>.inl h
 | .cY pl _ _ _ _,k,h=>.inl h
 | .gq i _,k,h=>.inl h
 | .ptr r _ _,k,h=>.inr ⟨r,by simpa[C.ev] using h⟩
 | .fn _ a b,k,h=>by
  simp only[C.ev,dk] at h;simp only[C.refs,dk];rcases h with h | h
  ·exact(JX a k h).imp .inl id
  ·exact(JX b k h).imp .inr id
 | .d _,k,h=>by simp[C.ev] at h
 | .pp _,k,h=>by simp[C.ev] at h
 | .c7,k,h=>by simp[C.ev] at h
 | .eY,k,h=>by simp[C.ev] at h
 | .fQ,k,h=>by simp[C.ev] at h
 | .fk,k,h=>by simp[C.ev] at h
 | .dead,k,h=>by simp[C.ev] at h
def JX:∀(l:List C) (k:Key),k∈qk l->k∈Ef l\/∃r,k = .r r
 | [],k,h=>by simp[qk] at h
 | c::t,k,h=>by
  simp only[qk,dk] at h;simp only[Ef,dk];rcases h with h | h
  ·exact(C.FM c k h).imp .inl id
  ·exact(JX t k h).imp .inr id
end
mutual
def V.FM:∀(x:V) (k:Key),k∈x.ev->k∈x.refs\/∃r,k = .r r
 | .one c,k,h=>C.FM c k h
 | .agg cs,k,h=>JX cs k h
 | .ao vs,k,h=>ZH vs k h
def ZH:∀(l:List V) (k:Key),k∈sU l->k∈Nf l\/∃r,k = .r r
 | [],k,h=>by simp[sU] at h
 | c::t,k,h=>by
  simp only[sU,dk] at h;simp only[Nf,dk];rcases h with h | h
  ·exact(V.FM c k h).imp .inl id
  ·exact(ZH t k h).imp .inr id
end
def WI:∀(S:St) {k:Key} {e:mO},(k,e)∈S->∀x∈e.v.refs,x∈allRefs S
 | [],k,e,h,x,hx=>by simp at h
 | (k',e')::t,k,e,h,x,hx=>by
  simp only[allRefs,dk];rcases ik.1 h with h | h
  ·simp_all
  ·exact .inr (WI t h x hx)
def Zt (S:St) (k:Key):(Fm S).get k=S.get k:=by
 unfold Fm;rw[get_filter (λk=>!PV S k) S k];split
 ·rfl
 ·rename_i h;simp at h;unfold PV at h;split at h
  ·rename_i k;generalize S.get (.a k)=e at h ⊢;unfold aay at h;split at h
   ·simp_all
   ·cases h
  ·cases h
def apJ {keep:List Nat} {S':St} (R:Rel nm N S a w L) (h:S.Tj keep=some S'):Rel nm N S' a w L:=by
 unfold St.Tj at h;dsimp only at h;split at h
 ·rename_i CO;simp at h;have rn:Rel nm N (reset (allRefs (S.filter λx=>kept keep x.1)) (S.filter λx=>kept keep x.1)) a w L->Rel nm N S' a w L:=by
   subst h;intro hR;unfold Rel at hR ⊢;have e1:(Fm (reset (allRefs (S.filter λx=>kept keep x.1)) (S.filter λx=>kept keep x.1))).E=(reset (allRefs (S.filter λx=>kept keep x.1)) (S.filter λx=>kept keep x.1)).E:=by
    funext k;unfold St.E;rw[Zt]
   have e2:(Fm (reset (allRefs (S.filter λx=>kept keep x.1)) (S.filter λx=>kept keep x.1))).γ=(reset (allRefs (S.filter λx=>kept keep x.1)) (S.filter λx=>kept keep x.1)).γ:=by
    funext k;unfold St.γ;rw[Zt]
   simp_all
  refine rn ?_;have hg:∀k,(reset (allRefs (S.filter λx=>kept keep x.1)) (S.filter λx=>kept keep x.1)).E k=if kept keep k=true then S.E k else V.dead:=by
   intro k;unfold St.E;rw[Qy,get_filter];split<;>rfl
  have Ao:∀r,kept keep (.r r)=true:=λ_=>rfl
  refine R.forget ?_ ?_ ?_ ?_
  ·intro k;rw[hg];split
   ·simp_all
   simp_all
  ·simp_all
  ·simp_all
  ·intro k y hk hd hy;rw[hg] at hd;split at hd
   ·rename_i hkk;have hγ:∀z,(z∈allRefs (S.filter λx=>kept keep x.1)\/∃r,z = .r r)->kept keep z=true->(reset (allRefs (S.filter λx=>kept keep x.1)) (S.filter λx=>kept keep x.1)).γ z=S.γ z:=by
     intro z hz hkz;unfold St.γ;rw[Qy,get_filter,aP hkz];simp only[Ni];rcases hz with hz | ⟨r,rfl⟩
     ·simp_all
     simp_all
    rcases V.FM _ _ hy with hr | ⟨r,rfl⟩
    ·have hm:y∈allRefs (S.filter λx=>kept keep x.1):=by
      have h0:=get_filter (kept keep) S k;rw[aP hkk] at h0;rcases get_mem (List.filter (λx=>kept keep x.1) S) k with h1 | h1
      ·rw[h0] at h1;have:S.E k = .one .dead:=by unfold St.E;rw[h1]
       rw[this] at hr;simp[V.refs,C.refs] at hr
      ·refine WI _ h1 y ?_;rw[h0];exact hr
     simp_all
    simp_all
   simp_all
 ·cases h
def apK {keep:List Nat} {S':St} (R:Rel nm N S a w L) (h:S.norm keep=some S'):Rel nm N S' a w L:=apJ R h
mutual
def C.FN:∀(c:C) (k:Key),k∈c.ev->(∀r,k.u9 = some r->r∈c.w7)
 | .view pl _ _ _ _,k,h,r,hr=>by
  simp only[C.ev,pd] at h;subst h;simp[C.w7,hr]
 | .eB pl _ _ _ _,k,h,r,hr=>by
  simp only[C.ev,pd] at h;subst h;simp[C.w7,hr]
 | .cY pl _ _ _ _,k,h,r,hr=>by
  simp only[C.ev,ik,uc,ub] at h;rcases h with rfl | rfl
  ·simp[C.w7,hr]
  ·cases hr
 | .gq i _,k,h,r,hr=>by
  simp only[C.ev,pd] at h;subst h;simp only[Key.u9,au] at hr;simp[C.w7,hr]
 | .ptr r0 _ _,k,h,r,hr=>by
  simp only[C.ev,pd] at h;subst h;simp only[Key.u9,au] at hr;simp[C.w7,hr]
 | .fn _ a b,k,h,r,hr=>by
  simp only[C.ev,dk] at h;simp only[C.w7,dk];rcases h with h | h
  ·exact .inl (JY a k h r hr)
  ·exact .inr (JY b k h r hr)
 | .d _,k,h,_,_=>by simp[C.ev] at h
 | .pp _,k,h,_,_=>by simp[C.ev] at h
 | .c7,k,h,_,_=>by simp[C.ev] at h
 | .eY,k,h,_,_=>by simp[C.ev] at h
 | .fQ,k,h,_,_=>by simp[C.ev] at h
 | .fk,k,h,_,_=>by simp[C.ev] at h
 | .dead,k,h,_,_=>by simp[C.ev] at h
def JY:∀(l:List C) (k:Key),k∈qk l->(∀r,k.u9 = some r->r∈Ej l)
 | [],k,h,_,_=>by simp[qk] at h
 | c::t,k,h,r,hr=>by
  simp only[qk,dk] at h;simp only[Ej,dk];rcases h with h | h
  ·exact .inl (C.FN c k h r hr)
  ·exact .inr (JY t k h r hr)
end
mutual
def V.FN:∀(x:V) (k:Key),k∈x.ev->(∀r,k.u9 = some r->r∈x.roots)
 | .one c,k,h,r,hr=>C.FN c k h r hr
 | .agg cs,k,h,r,hr=>JY cs k h r hr
 | .ao vs,k,h,r,hr=>ZI vs k h r hr
def ZI:∀(l:List V) (k:Key),k∈sU l->(∀r,k.u9 = some r->r∈Nn l)
 | [],k,h,_,_=>by simp[sU] at h
 | c::t,k,h,r,hr=>by
  simp only[sU,dk] at h;simp only[Nn,dk];rcases h with h | h
  ·exact .inl (V.FN c k h r hr)
  ·exact .inr (ZI t k h r hr)
end
def akB {S':St} (R:Rel nm N S a w L) (h:S.gc=some S'):Rel nm N S' a w L:=by
 unfold St.gc at h;dsimp only at h;generalize Qz S 3 (UG S)=live at h;split at h
 ·rename_i CO;simp at h;subst h;have vZ:∀k,(DP (S.filter λx=>sP live x.1)).get k=if sP live k=true then⟨(S.get k).v.pO,(S.get k).g⟩ else⟨.one .dead,0⟩:=by
   intro k;rw[Zu,get_filter];split<;>rfl
  have hg:∀k,(DP (S.filter λx=>sP live x.1)).E k=if sP live k=true then(S.E k).pO else V.dead:=by
   intro k;unfold St.E;rw[vZ];split<;>rfl
  have atE:∀r c,sP live (.b r c)=sP live (.r r):=λ_ _=>rfl
  have hbn:∀x:V,cr x.pO=cr x:=by
   intro x;cases x with
   | one c=>
    cases c with
    | d z=>cases z with
     | sl t sz rows=>cases t<;>rfl
     | _=>rfl
    | _=>rfl
   | _=>rfl
  have Z9:∀x:V,cr x≠0->x.pO=x:=by
   intro x hx;cases x with
   | one c=>
    cases c with
    | d z=>cases z with
     | sl t sz rows=>simp[cr] at hx
     | _=>rfl
    | _=>rfl
   | _=>rfl
  refine R.forget ?_ ?_ ?_ ?_
  ·intro k;rw[hg];split
   ·simp_all
   simp_all
  ·intro r hr;rw[hg] at hr ⊢;split at hr
   ·simp_all
   ·exact absurd rfl hr
  ·simp_all
  ·intro k y hk hd hy;rw[hg] at hd;split at hd
   ·rename_i hkk;have CV:sP live y=true:=by
     unfold sP;split
     ·rename_i r hr;have hm:=V.FN _ _ hy r hr;have h0:=get_filter (sP live) S k;rw[aP hkk] at h0;rcases get_mem (List.filter (λx=>sP live x.1) S) k with h1 | h1
      ·rw[h0] at h1;have:S.E k = .one .dead:=by unfold St.E;rw[h1]
       rw[this] at hy;simp[V.ev,C.ev] at hy
      ·rw[h0] at h1;have:=gY.1 CO _ h1;exact gY.1 this r hm
     ·rfl
    unfold St.γ;simp_all
   simp_all
 ·cases h
def aqS (Aq:P.follows .mixedOrders=true) (hc:xr P nm G Cl) (hN:hh.nt=N) {id:Nat} {draw:Bool} {keep:Option (List Nat)} {gc:Bool} {l:List gA} (hl:Fj P nm hh ops=some l) (bh:draw=true->Jy ops=true) (R:Rel nm N S a w L) (hH:eA L) (hG:GI G w L) {Sf:St}
  (he:qi Cl keep gc l (if draw then some (unordered ops) else none) S=some Sf) {Q:Exit->Act->World->Prop} (hQ:∀a' w' L',ob nm N Sf w L a' w' L'->Q .normal a' w'):(Code.region id ops draw).wp P Q a w:=by
 obtain⟨S1,h1,h2⟩:=fw.1 he;obtain⟨S2,h3,h4⟩:=fw.1 h2;have R1:Rel nm N S1 a w L:=by
  cases keep with
  | none=>simp_all
  | some kl=>exact apK R h1
 have R2:Rel nm N S2 a w L:=by
  cases gc with
  | false=>simp_all
  | true=>exact akB R1 h3
 obtain⟨g1,g2⟩:=Jr hl;cases draw with
 | false=>
  refine wp_region ?_;rw[List.range_eq_range'];exact acs hc hN hl ops.size 0 (by omega) R2 hH hG (by simp_all) hQ
 | true=>
  have akN:=R2.drew;have ak7:∃F,jd Cl l S2=some (Sf,F)/\TO F (unordered ops)=true:=by
   split at h4
   ·simp_all
   ·rename_i hun;have jr:∀(l':List gA) {S Sf:St},oj Cl l' S=some Sf->∃F,jd Cl l' S=some (Sf,F):=by
     intro l';induction l' with
     | nil=>intro S Sf h;simp only[oj,au] at h;exact⟨[],by simp[jd,h]⟩
     | cons o t ih=>
      intro S Sf h;simp only[oj] at h;simp only[jd];cases hw:(gF Cl o).run S with
      | none=>simp_all
      | some ws=>
       simp only[hw,Option.bind_some] at h ⊢;obtain⟨F,k1⟩:=ih h;simp_all
    obtain⟨F,k1⟩:=jr l h4;refine⟨F,k1,?_⟩;have:=by simpa using hun
    rw[this];rfl
   ·rename_i ps _ fj;obtain⟨⟨S3,F⟩,k1,k2⟩:=fw.1 h4;simp_all
  obtain⟨F,hF,alr⟩:=ak7;have hFl:=by
   have:∀(l':List gA) {S Sf:St} {F:List l9},jd Cl l' S=some (Sf,F)->F.length=l'.length:=by
    intro l';induction l' with
    | nil=>
     intro S Sf F h;simp only[jd,au,iB] at h;simp_all
    | cons o t ih=>
     intro S Sf F h;simp only[jd] at h;cases hw:(gF Cl o).run S with
     | none=>simp_all
     | some ws=>
      simp only[hw,Option.bind_some] at h;obtain⟨⟨S1,F1⟩,k1,k2⟩:=bK h;simp at k2;rw[k2.2];simp[ih k1]
   exact this l hF
  refine wp_region_any Aq ?_;have atJ:(List.range ops.size).map (λi=>l.getD i default)=l:=by
   apply VY;intro i;rw[bQ];by_cases hi:i < ops.size
   ·simp_all
   simp_all
  have atK:(List.range ops.size).map (λi=>F.getD i ⟨[],[]⟩)=F:=by
   apply VY;intro i;rw[bQ];by_cases hi:i < ops.size
   ·simp_all
   simp_all
  refine WQ (S:=S2) (Sf:=Sf) (L:=L) hc hN hl (bh rfl) (φ:=λi=>F.getD i ⟨[],[]⟩) ?_ ops.size (List.range ops.size) _ (by simp) (by simp) af1 ?_ ?_ akN hH (show GI G w.drew L from hG) (by simp_all) ?_
  ·intro i j hij hj hb;have hm:(i,j)∈unordered ops:=by
    refine Oi.2 ⟨j,vu.2 hj,List.mem_filterMap.2 ⟨i,vu.2 hij,?_⟩⟩;simp_all
   have:=gY.1 alr (i,j) hm;simp only at this;rw[kI (by omega),kI (by omega)] at this;simp only[nY,kI (show i < F.length by omega),kI (show j < F.length by omega),Option.getD_some];omega
  ·simp_all
  ·intro i o ho hi;have:=(lH.1 ho).1;simp_all
  ·intro a' w' L' D;exact hQ a' w' L' ⟨D.rel,(dc.drew w L).trans D.mono,D.yH⟩
end
end
section
section
variable {nm:FuncId->Option Nat} {G:Nat->Option Obj} {N:Nat} {P:Program} {Cl:bX} {hh:Hint}
def akd:uh->Exit
 | .norm=>.normal
 | .exit id=>.exit id
 | .ret=>.ret
def least {p:Nat->Prop} (h:∃n,p n):∃n,p n/\∀m,m < n->¬ p m:=by
 obtain⟨n,hn⟩:=h;induction n using Nat.strongRecOn with
 | _ n ih=>
  by_cases hx:∃m,m < n/\p m
  ·obtain⟨m,h1,h2⟩:=hx;exact ih m h1 h2
  ·exact⟨n,hn,λm hm hp=>hx ⟨m,hm,hp⟩⟩
def ag4 (Aq:P.follows .mixedOrders=true) (hc:xr P nm G Cl) (hN:hh.nt=N) (n:Nat):∀(c:Code) {ic:ma},mS P nm hh c=some ic->∀{S S':St} {e:uh},dq Cl n ic S=some (e,S')->
  ∀{a:Act} {w:World} {L:aw},Rel nm N S a w L->eA L->GI G w L->∀{Q:Exit->Act->World->Prop},(∀a' w' L',ob nm N S' w L a' w' L'->Q (akd e) a' w')->c.wp P Q a w:=by
 have bad:∀{S S':St} {e:uh},dq Cl n (.iY none false [⟨none,.bad,none⟩] none) S=some (e,S')->False:=by
  intro S S' e h;simp[dq,qi,oj,gF,CG,ch] at h
 intro c;induction c with
 | skip=>
  intro ic cZ S S' e he a w L R hH hG Q hQ;simp only[mS,au] at cZ;subst cZ;simp only[dq,au,iB] at he;obtain⟨rfl,rfl⟩:=he;exact wp_skip (hQ a w L ⟨R,dc.refl w L,hH⟩)
 | region id ops draw=>
  intro ic cZ S S' e he a w L R hH hG Q hQ;simp only[mS] at cZ;obtain⟨l,h1,h2⟩:=bind_some cZ;split at h2
  ·cases h2
  ·rename_i iG;cases h2;simp only[dq] at he;obtain⟨Sf,h3,h4⟩:=bK he;simp only[iB] at h4;obtain⟨rfl,rfl⟩:=h4;refine aqS Aq hc hN h1 (λhd=>?_) R hH hG h3 hQ;cases hx:Jy ops with
   | true=>rfl
   | false=>exact absurd ⟨hd,hx⟩ iG
 | seq x y R9 Sb=>
  intro ic cZ S S' e he a w L R hH hG Q hQ;simp only[mS] at cZ;obtain⟨ix,h1,h2⟩:=bind_some cZ;obtain⟨iy,h3,h4⟩:=bind_some h2;cases h4;simp only[dq] at he;obtain⟨⟨e1,S1⟩,h5,h6⟩:=fw.1 he;refine wp_seq (R9 h1 h5 R hH hG (λa' w' L' D=>?_));cases e1 with
  | norm=>
   simp only at h6;exact Sb h3 h6 D.rel D.yH (hG.mono D.mono) (λWE tY EZ D'=>hQ _ _ _ (D.trans D'))
  | exit id=>
   simp only[au,iB] at h6;obtain⟨rfl,rfl⟩:=h6;exact hQ _ _ _ D
  | ret=>
   simp only[au,iB] at h6;obtain⟨rfl,rfl⟩:=h6;exact hQ _ _ _ D
 | cond c x y R9 Sb=>
  intro ic cZ S S' e he a w L R hH hG Q hQ;simp only[mS] at cZ;obtain⟨cx,h0,h1⟩:=bind_some cZ;obtain⟨ix,h2,h3⟩:=bind_some h1;obtain⟨iy,h4,h5⟩:=bind_some h3;cases h5;simp only[dq] at he;obtain⟨t,h6,h7⟩:=fw.1 he;have hb:a.eval c = .bool t:=by
   unfold zK at h6;obtain⟨v,g1,g2⟩:=fw.1 h6;have rv:=rd_val R (eO h0).1 g1;split at g2
   ·simp only[au] at g2;subst g2;exact rv.cB.sH
   ·cases g2
  refine wp_cond hb ?_;cases t with
  | true=>exact R9 h2 (by simpa using h7) R hH hG hQ
  | false=>exact Sb h4 (by simpa using h7) R hH hG hQ
 | block id b ih=>
  intro ic cZ S S' e he a w L R hH hG Q hQ;simp only[mS] at cZ;obtain⟨ib,h1,rfl⟩:=bK cZ;simp only[dq] at he;obtain⟨⟨e1,S1⟩,h2,h3⟩:=bK he;simp only[iB] at h3;obtain⟨h3,rfl⟩:=h3;refine wp_block (ih h1 h2 R hH hG (λa' w' L' D=>?_));cases e1 with
  | norm=>subst h3;exact hQ _ _ _ D
  | exit i=>
   show Exit.inBlock id Q (.exit i) a' w';simp only[Exit.inBlock];by_cases hi:i=id
   ·subst hi;simp only[dj] at h3 ⊢;subst h3;exact hQ _ _ _ D
   ·simp only[hi,eX] at h3 ⊢;subst h3;exact hQ _ _ _ D
  | ret=>subst h3;exact hQ _ _ _ D
 | loop b ih=>
  intro ic cZ S S' e he a w L R hH hG Q hQ;simp only[mS] at cZ;obtain⟨ib,h1,rfl⟩:=bK cZ;simp only[dq] at he;let Good:Nat->Act->World->Prop:=λm a1 w1=>∃S1 L1,ob nm N S1 w L a1 w1 L1/\iter (dq Cl n ib) m S1=some (e,S')
  let μ:Act->World->Nat:=λa1 w1=>open Classical in if h:∃m,Good m a1 w1 then Classical.choose (least h) else 0
  have hμ:∀{a1 w1} (h:∃m,Good m a1 w1),Good (μ a1 w1) a1 w1/\∀m,m < μ a1 w1->¬ Good m a1 w1:=by
   intro a1 w1 h;have:=Classical.choose_spec (least h);simp only[μ,dif_pos h];exact this
  refine wp_loop (λa1 w1=>∃m,Good m a1 w1) μ ⟨n,S,L,⟨R,dc.refl w L,hH⟩,he⟩ ?_;intro a1 w1 hI;obtain⟨⟨S1,L1,D1,F8⟩,atL⟩:=hμ hI;cases hm:μ a1 w1 with
  | zero=>rw[hm] at F8;simp[iter] at F8
  | succ m=>
   rw[hm] at F8;simp only[iter] at F8;obtain⟨⟨e1,S2⟩,h2,h3⟩:=fw.1 F8;refine ih h1 h2 D1.rel D1.yH (hG.mono D1.mono) (λa' w' L' D=>?_);cases e1 with
   | norm=>
    simp only at h3;have hg:Good m a' w':=⟨S2,L',D1.trans D,h3⟩
    refine⟨⟨m,hg⟩,?_⟩;rcases zh m (μ a' w') with h | h
    ·exact absurd hg ((hμ ⟨m,hg⟩).2 m h)
    ·omega
   | exit id=>
    simp only[au,iB] at h3;obtain⟨rfl,rfl⟩:=h3;exact hQ _ _ _ (D1.trans D)
   | ret=>
    simp only[au,iB] at h3;obtain⟨rfl,rfl⟩:=h3;exact hQ _ _ _ (D1.trans D)
 | exit id=>
  intro ic cZ S S' e he a w L R hH hG Q hQ;simp only[mS,au] at cZ;subst cZ;simp only[dq,au,iB] at he;obtain⟨rfl,rfl⟩:=he;exact wp_exit (hQ a w L ⟨R,dc.refl w L,hH⟩)
 | ret=>
  intro ic cZ S S' e he a w L R hH hG Q hQ;simp only[mS,au] at cZ;subst cZ;simp only[dq,au,iB] at he;obtain⟨rfl,rfl⟩:=he;exact wp_ret (hQ a w L ⟨R,dc.refl w L,hH⟩)
 | _=>
  intros
  rename_i cZ S S' e he a w L R hH hG Q hQ;simp only[mS,au] at cZ;subst cZ;exact(bad he).elim
end
end
section
section
variable {nm:FuncId->Option Nat} {N:Nat} {S S0:St} {a:Act} {w w0:World} {L L0:aw} {P:Program} {o:Oper} {Cl:bX} {d:Nat} {ws:List Wr} {γ:Key->Nat}
def kB (L:aw):aw:=λB=>
 match L B with
 | some (.row q o)=>if q.k = .h 0 then some .bg else some (.row q o)
 | x=>x
def JQ {B:Nat} (h:L B=some .bg):kB L B=some .bg:=by simp[kB,h]
def Cx {B o:Nat} {r:aJ}:kB L B=some (.box r o)↔L B=some (.box r o):=by
 unfold kB;split
 ·rename_i q o' hL;rw[hL];split<;>simp
 ·rfl
def akw {B:Nat} (h:L B=none):kB L B=none:=by simp[kB,h]
def Zn {B o:Nat} {q:Place} (h:L B=some (.row q o)) (hq:q.k≠.h 0):kB L B=some (.row q o):=by simp[kB,h,hq]
def akv {B o:Nat} {q:Place} (h:L B=some (.row q o)) (hq:q.k = .h 0):kB L B=some .bg:=by simp[kB,h,hq]
def JR {B o:Nat} {q:Place} (h:kB L B=some (.row q o)):L B=some (.row q o)/\q.k≠.h 0:=by
 unfold kB at h;split at h
 ·rename_i q0 o0 hL;split at h
  ·cases h
  ·rename_i hq;simp only[au,db.row.injEq] at h;obtain⟨rfl,rfl⟩:=h;exact⟨hL,hq⟩
 ·rename_i h1;exact absurd h (h1 q o)
def aku {B:Nat} {l:db} (h:kB L B=some l):∃l0,L B=some l0:=by
 unfold kB at h;split at h
 ·rename_i q0 o0 hL;exact⟨_,hL⟩
 ·exact⟨_,h⟩
def cf.JP (M:cf nm N S0 w0 L0 ws a w L):cf nm N S0 w0 L0 ws a w (kB L)/\Step w w L (kB L) (S0.ai ws).γ (S0.ai ws).γ:=by
 have di:∀{q:Place},q.k.aT=true->q.k≠.h 0:=λh e=>by rw[e] at h;simp[Key.aT] at h
 have bF:Step w w L (kB L) (S0.ai ws).γ (S0.ai ws).γ:=
  ⟨λB hB=>⟨JQ hB,rfl⟩,λ_=>cp _,λB q o hq _ hB=>⟨Zn hB (di hq),λcur e fz h=>⟨cur,h,rfl⟩⟩,λ_ _ _ _ _ _ _=>rfl,λB r o _ hB=>Cx.2 hB⟩
 refine⟨⟨M.rel.JT ?_ ?_ ?_ ?_,M.cU.trans bF,M.mono.trans ⟨rfl,rfl,rfl,cp _,λB hB=>⟨JQ hB,rfl⟩,λB _ hB=>⟨akw hB,rfl⟩,λB i o hB=>Cx.2 hB⟩,?_,M.heap,M.wC,λB r o hB=>Cx.2 (M.boxes B r o hB)⟩,bF⟩
 ·intro B l hB hl;refine⟨rfl,?_⟩;cases l with
  | bg=>exact JQ hB
  | box r o=>exact Cx.2 hB
  | row q o=>exact Zn hB (di (hl q o rfl))
 ·intro B l hB;obtain⟨l0,h0⟩:=aku hB;exact M.rel.fx B l0 h0
 ·intro B B' pl o o' h1 h2;exact M.rel.ey B B' pl o o' (JR h1).1 (JR h2).1
 ·intro B B' r o o' h1 h2;exact M.rel.fy B B' r o o' (Cx.1 h1) (Cx.1 h2)
 ·intro B q o hq hB;exact M.rows B q o hq (JR hB).1
def aqn (x:D):(C.d (lW x)).clean=true:=by
 cases x with
 | sl t sz rows=>cases t<;>rfl
 | _=>rfl
def aC.MV {k':Key} {j j':Nat} {c:C} {v:Value} (bF:Step w w L (kB L) γ γ) (h:aC nm w L γ (.h 0) j c v) (hc:∀pl g a sz rows,c≠.cY pl g a sz rows):aC nm w (kB L) γ k' j' c.plain v/\c.plain.clean=true:=by
 cases c with
 | d x=>
  cases h with
  | d h=>
   exact⟨.d (.plain (bt.freeze (λq=>q.k = .h 0) (λ_ _ _ h=>h) (λB hB=>⟨JQ hB,rfl⟩) (λB q o hq hL=>⟨akv hL hq,rfl⟩) h rfl)),aqn x⟩
 | cY pl g a sz rows=>exact absurd rfl (hc pl g a sz rows)
 | bz t=>exact absurd rfl (h.Hs t)
 | mp x=>exact⟨.dead,rfl⟩
 | _=>exact⟨h.rZ bF (h.uv rfl) _ _,h.uv rfl⟩
def UT {c:C} {rr:C×List Wr} (h:(st ws c).run S=some rr):∀pl g a sz rows,rr.1≠.cY pl g a sz rows:=by
 intro pl g a sz rows e;cases c with
 | view tE g' da off len=>
  simp only[st] at h;obtain⟨res,h1,h2⟩:=Q.aL h;obtain⟨_,h3⟩:=Q.ec h2;obtain rfl:=Q.aW h3;cases e
 | cY tE g' a' da va=>
  simp only[st] at h;obtain⟨res,h1,h2⟩:=Q.aL h;have h3:=Q.np h2;obtain⟨_,h4⟩:=Q.ec h3;obtain rfl:=Q.aW h4;cases e
 | eB=>simp[st] at h
 | bz=>simp[st] at h
 | mp=>simp[st] at h
 | gq=>simp[st] at h
 | dead=>simp[st] at h
 | _=>simp only[st] at h;obtain rfl:=Q.aW h;cases e
def UQ:∀(cs:List C) {ws:List Wr} {rr:List C×List Wr},(l7 ws cs).run S=some rr->∀c∈rr.1,∀pl g a sz rows,c≠.cY pl g a sz rows
 | [],ws,rr,h,c,hc=>by
  simp only[l7] at h;obtain rfl:=Q.aW h;simp at hc
 | x::cs,ws,rr,h,c,hc=>by
  simp only[l7] at h;obtain⟨r1,h1,h2⟩:=Q.aL h;obtain⟨r2,h3,h4⟩:=Q.aL h2;obtain rfl:=Q.aW h4;rcases ik.1 hc with rfl | hc
  ·exact UT h1
  ·exact UQ cs h3 c hc
def Mx (M:cf nm N S0 w0 L0 ws a w L) (h:∀B q o,L B=some (.row q o)->q.k.aT=false->q.k = .h 0):eA (kB L):=by
 intro B q o hB;obtain⟨h1,h2⟩:=JR hB;cases hq:q.k.aT with
 | true=>rfl
 | false=>exact absurd (h B q o h1 hq) h2
def X3 {cs:List C} (h:∀(j:Nat) c,cs[j]? = some c->c.clean=true):jZ cs=true:=by
 induction cs with
 | nil=>rfl
 | cons c t ih=>
  simp only[jZ,cI];exact⟨h 0 c rfl,ih (λj c' hj=>h (j+1) c' (by simpa using hj))⟩
def EY (L:aw):Prop:=∀B q o,L B=some (.row q o)->q.k.aT=true\/∃n,q.k = .h (n+1)
def eA.akS (h:eA L):EY L:=λB q o hB=>.inl (h B q o hB)
def uf (nm:FuncId->Option Nat) (w:World) (L:aw) (γ:Key->Nat) (j:Nat) (x:V) (u:Value):Prop:=
 (x.clean=true/\bJ nm w L γ (.h 0) x u)\/(bJ nm w L γ (.h (j+1)) x u/\∀l,x≠.ao l)
def uf.ar0 {w':World} {L':aw} {γ':Key->Nat} {j:Nat} {x:V} {u:Value} (h:x.clean=true/\bJ nm w L γ (.h 0) x u) (hs:Step w w' L L' γ γ'):uf nm w' L' γ' j x u:=
 .inl ⟨h.1,h.2.rZ hs h.1 _⟩
def adp (R0:Rel nm N S0 a w0 L0):∀(xs:List (Bool×X)) (ps:List Operand) {i:Nat} {ws:List Wr} {L:aw} (M:cf nm N S0 w0 L0 ws a w L) (hH:eA L) (hp:xs.length=ps.length) (hx:∀(j:Nat) X x,xs[j]? = some X->ps[j]? = some x->bV nm X.2 x/\X.2.iJ=true) {rr:List V×List Wr} (hr:(yS i ws xs).run S0=some rr),
  ∃L',cf nm N S0 w0 L0 rr.2 a w L'/\EY L'/\(xs.any (·.1)=false->eA L')/\Step w w L L' (S0.ai ws).γ (S0.ai rr.2).γ/\rr.1.length=ps.length/\∀(j:Nat) x p,rr.1[j]? = some x->ps[j]? = some p->uf nm w L' (S0.ai rr.2).γ (i+j) x (a.eval p)
 | [],[],i,ws,L,M,hH,hp,hx,rr,hr=>by
  simp only[yS] at hr;obtain rfl:=Q.aW hr;exact⟨L,M,hH.akS,λ_=>hH,Step.same w L (λ_=>cp _),rfl,λj x p h=>by simp at h⟩
 | (b,X)::xs,p::ps,i,ws,L,M,hH,hp,hx,rr,hr=>by
  simp only[yS] at hr;obtain⟨⟨v,eS⟩,h1,h2⟩:=Q.aL hr;clear hr;dsimp only at h2;obtain⟨hX,CM⟩:=hx 0 (b,X) p rfl rfl;have fin:∀{fu:List Wr} {L2:aw} {x':V} {rest:List V×List Wr},cf nm N S0 w0 L0 fu a w L2->eA L2->Step w w L L2 (S0.ai ws).γ (S0.ai fu).γ->x'.clean=true->bJ nm w L2 (S0.ai fu).γ (.h 0) x' (a.eval p)->(yS (i+1) fu xs).run S0=some rest->rr=(x'::rest.1,rest.2)->
    ∃L',cf nm N S0 w0 L0 rr.2 a w L'/\EY L'/\(((b,X)::xs).any (·.1)=false->eA L')/\Step w w L L' (S0.ai ws).γ (S0.ai rr.2).γ/\rr.1.length=(p::ps).length/\∀(j:Nat) x p',rr.1[j]? = some x->(p::ps)[j]? = some p'->uf nm w L' (S0.ai rr.2).γ (i+j) x (a.eval p'):=by
   intro fu L2 x' rest M2 QE Ig aU rep h5 dV;obtain⟨L3,M3,QF,hN3,nu,Kc,R3⟩:=adp R0 xs ps M2 QE (by simpa using hp) (λj X x h1 h2=>hx (j+1) X x (by simpa using h1) (by simpa using h2)) h5;subst dV;refine⟨L3,M3,QF,λh=>hN3 (by simp only[Wa,VM] at h;exact h.2),Ig.trans nu,by simp[Kc],?_⟩;intro j x p' hj lz;cases j with
   | zero=>
    simp only[qQ,au] at hj lz;subst hj;subst lz;exact uf.ar0 ⟨aU,rep⟩ nu
   | succ j=>
    have:=R3 j x p' (by simpa using hj) (by simpa using lz);rwa[show i+1+j=i+(j+1) by omega] at this
  have SU:∀{eS:List Wr} {L1:aw} {K:Place->Prop} {m:Nat},Out nm N S0 w0 L0 ws eS a w L L1 K m->∀B q o,L1 B=some (.row q o)->q.k.aT=false->q.k = .h m:=by
   intro eS L1 K m O B q o hB hq;by_cases hk:q.k = .h m
   ·exact hk
   ·have:=hH B q o (O.yO B q o hq hk hB);rw[hq] at this;cases this
  have ZJ:∀{eS:List Wr} {L1:aw} {K:Place->Prop} {m:Nat},Out nm N S0 w0 L0 ws eS a w L L1 K (m+1)->EY L1:=by
   intro eS L1 K m O B q o hB;cases hq:q.k.aT with
   | true=>exact .inl rfl
   | false=>exact .inr ⟨m,SU O B q o hB hq⟩
  have last:∀{b:Bool},(b&&xs.isEmpty)=true->ps=[]:=λh=>by
   have:xs=[]:=by simpa using (Bool.and_eq_true_iff.1 h).2
   rw[this] at hp;exact p7.1 (by simpa using hp.symm)
  split at h2
  ·rename_i c;rw[Q.run_ite] at h2;split at h2
   ·rename_i hb;obtain rfl:=last hb;obtain⟨L1,O1,V1⟩:=r9 M R0 (hH.free (i+1)) CM hX h1;dsimp only at O1 V1;obtain⟨⟨c',fu⟩,h3,h4⟩:=Q.aL h2;obtain rfl:=Q.aW h4;obtain⟨L2,O2,R2⟩:=NC (m:=i+1) (j:=0) (v:=a.eval p) O1.mid V1 h3;dsimp only at O2 R2;have mQ:=(O1.weaken (K':=λq=>¬ (q.k = .h (i+1)/\q.j=0)) (λ_ _=>trivial)).trans O2;refine⟨L2,O2.mid,ZJ mQ,λh=>by simp only[Wa,VM] at h;rw[h.1] at hb;simp at hb,mQ.cU,rfl,λj x p' hj lz=>?_⟩;cases j with
    | zero=>
     simp only[qQ,au] at hj lz;subst hj;subst lz;exact .inr ⟨.one R2,λl h=>by cases h⟩
    | succ j=>simp at hj
   obtain⟨L1,O1,V1⟩:=r9 M R0 (hH.free 0) CM hX h1;dsimp only at O1 V1;obtain⟨⟨c',fu⟩,h3,h4⟩:=Q.aL h2;clear h2;obtain⟨⟨vs,xk⟩,h5,h6⟩:=Q.aL h4;clear h4;have dV:=Q.aW h6;obtain⟨L2,O2,R2⟩:=vh (m:=0) (j:=0) (c:=c) (v:=a.eval p) O1.mid V1 h3;dsimp only at O2 R2 h5;have mQ:=(O1.weaken (K':=λq=>¬ (q.k = .h 0/\q.j=0)) (λ_ _=>trivial)).trans O2;obtain⟨M3,nu⟩:=O2.mid.JP;obtain⟨R3,aU⟩:=aC.MV (k':=.h 0) (j':=0) nu R2 (UT h3);exact fin M3 (Mx O2.mid (SU mQ)) (mQ.cU.trans nu) (x':=.one c'.plain) aU (.one R3) h5 dV
  ·rename_i cs;rw[Q.run_ite] at h2;split at h2
   ·rename_i hb;obtain rfl:=last hb;obtain⟨L1,O1,V1⟩:=r9 M R0 (hH.free (i+1)) CM hX h1;dsimp only at O1 V1;obtain⟨⟨dQ,fu⟩,h3,h4⟩:=Q.aL h2;obtain rfl:=Q.aW h4;obtain⟨us,mw,hl,hV⟩:=V1
    obtain⟨L2, O2, l2, R2⟩ := NB (m := i + 1) cs O1.mid 0 (λj => us.getD j undef) (λj c hc => by
      have hj : j < us.size := by rw[<- hl]; exact(cd.1 hc).1
      have := hV j c _ hc (oZ hj)
      simpa[Array.getD, hj] using this) h3
    dsimp only at O2 R2 l2;have mQ:=(O1.weaken (K':=λq=>¬ (q.k = .h (i+1)/\0<=q.j)) (λ_ _=>trivial)).trans O2;refine⟨L2,O2.mid,ZJ mQ,λh=>by simp only[Wa,VM] at h;rw[h.1] at hb;simp at hb,mQ.cU,rfl,λj x p' hj lz=>?_⟩;cases j with
    | zero=>
     simp only[qQ,au] at hj lz;subst hj;subst lz;refine .inr ⟨?_,λl h=>by cases h⟩;rw[mw];refine .agg (by simp[l2,hl]) (λj c u hc hu=>?_);have:=R2 j c hc;rw[cQ] at this;simp only[jW,hu,Option.getD_some] at this;exact this
    | succ j=>simp at hj
   obtain⟨L1,O1,V1⟩:=r9 M R0 (hH.free 0) CM hX h1;dsimp only at O1 V1;obtain⟨⟨dQ,fu⟩,h3,h4⟩:=Q.aL h2;clear h2;obtain⟨⟨vs,xk⟩,h5,h6⟩:=Q.aL h4;clear h4;have dV:=Q.aW h6;obtain⟨us,mw,hl,hV⟩:=V1
   obtain⟨L2, O2, l2, R2⟩ := NA (m := 0) cs O1.mid 0 (λj => us.getD j undef) (λj c hc => by
     have hj : j < us.size := by rw[<- hl]; exact(cd.1 hc).1
     have := hV j c _ hc (oZ hj)
     simpa[Array.getD, hj] using this) h3
   dsimp only at O2 R2 h5 l2;have mQ:=(O1.weaken (K':=λq=>¬ (q.k = .h 0/\0<=q.j)) (λ_ _=>trivial)).trans O2;obtain⟨M3,nu⟩:=O2.mid.JP;have each:∀(j:Nat) c,(dQ.map C.plain)[j]? = some c->c.clean=true/\∀u,us[j]? = some u->aC nm w (kB L2) (S0.ai fu).γ (.h 0) j c u:=by
    intro j c hc;rw[bQ] at hc;cases hj:dQ[j]? with
    | none=>simp[hj] at hc
    | some c0=>
     simp only[hj,fJ,au] at hc;subst hc;have:=R2 j c0 hj;rw[cQ] at this;have hp:=aC.MV (k':=.h 0) (j':=j) nu this (UQ _ h3 c0 (ff hj));refine⟨hp.2,λu hu=>?_⟩;have h1:=hp.1;simp only[jW,hu,Option.getD_some] at h1;exact h1
   refine fin M3 (Mx O2.mid (SU mQ)) (mQ.cU.trans nu) (x':=.agg (dQ.map C.plain)) (X3 (λj c hc=>(each j c hc).1)) ?_ h5 dV;rw[mw];exact .agg (by simp[l2,hl]) (λj c u hc hu=>(each j c hc).2 u hu)
  ·cases h2
 | [],_::_,_,_,_,_,_,hp,_,_,_=>by simp at hp
 | _::_,[],_,_,_,_,_,hp,_,_,_=>by simp at hp
end
end
section
def qG:∀(rs:List aJ) {r:aJ} {i k:Nat},jh rs r i=some k->i<=k/\rs[k - i]? = some r
 | [],r,i,k,h=>by simp[jh] at h
 | x::t,r,i,k,h=>by
  simp only[jh] at h;split at h
  ·rename_i hx;simp at h;subst h;subst hx;exact⟨cp _,by simp⟩
  ·obtain⟨h1,h2⟩:=qG t h;refine⟨by omega,?_⟩;rw[show k - i=(k - (i+1))+1 by omega,BA];exact h2
def yV:∀(rs:List aJ) {r:aJ} {i k:Nat},rs.Nodup->rs[k]? = some r->jh rs r i=some (i+k)
 | [],r,i,k,_,h=>by simp at h
 | x::t,r,i,k,hn,h=>by
  simp only[jh];cases k with
  | zero=>simp at h;subst h;simp
  | succ k=>
   have aD:x≠r:=by
    rintro rfl;exact(Ok.1 hn).1 (ff h)
   rw[aI aD,yV t (Ok.1 hn).2 h];congr 1;omega
def fM (rs:List aJ) (E:Key->V) (L:aw):aw:=λB=>
 match L B with
 | some .bg=>some .bg
 | some (.box r o)=>(jh rs r 0).map λi=>.box (.e i) o
 | some (.row ⟨.b r c,j,p⟩ o)=>match jh rs r 0,E (.b r c) with
  | some i,.one (.d _)=>some (.row ⟨.b (.e i) c,j,p⟩ o)
  | _,_=>none
 | some (.row ⟨.h (i+1),j,p⟩ o)=>some (.row ⟨.s i,j,p⟩ o)
 | _=>none
section
variable {nm:FuncId->Option Nat} {N:Nat} {S S0:St} {a:Act} {w w0:World} {L L0:aw} {P:Program} {o:Oper} {Cl:bX} {d:Nat} {ws:List Wr} {γ:Key->Nat} {rs:List aJ} {E:Key->V}
def uz {B:Nat} (h:L B=some .bg):fM rs E L B=some .bg:=by simp[fM,h]
def zS {B o i:Nat} {r:aJ} (h:L B=some (.box r o)) (hi:jh rs r 0=some i):fM rs E L B=some (.box (.e i) o):=by simp[fM,h,hi]
def ajq {B o i c j:Nat} {r:aJ} {p:List (Nat×Nat)} {x:D} (h:L B=some (.row ⟨.b r c,j,p⟩ o)) (hi:jh rs r 0=some i) (hE:E (.b r c) = .one (.d x)):fM rs E L B=some (.row ⟨.b (.e i) c,j,p⟩ o):=by
 simp[fM,h,hi,hE]
def ajp {B o i j:Nat} {p:List (Nat×Nat)} (h:L B=some (.row ⟨.h (i+1),j,p⟩ o)):fM rs E L B=some (.row ⟨.s i,j,p⟩ o):=by simp[fM,h]
def nF {B:Nat} {l:db} (h:fM rs E L B=some l):(l = .bg/\L B=some .bg)\/(∃r o i,l = .box (.e i) o/\L B=some (.box r o)/\jh rs r 0=some i)\/
  (∃r c j p o i x,l = .row ⟨.b (.e i) c,j,p⟩ o/\L B=some (.row ⟨.b r c,j,p⟩ o)/\jh rs r 0=some i/\E (.b r c) = .one (.d x))\/
  ∃i j p o,l = .row ⟨.s i,j,p⟩ o/\L B=some (.row ⟨.h (i+1),j,p⟩ o):=by
 unfold fM at h;split at h
 ·simp at h;exact .inl ⟨h.symm,‹_›⟩
 ·rename_i r o hL;obtain⟨i,h1,h2⟩:=bK h;exact .inr (.inl ⟨r,o,i,h2,hL,h1⟩)
 ·rename_i r c j p o hL;split at h
  ·rename_i i x h1 h2;simp at h;exact .inr (.inr (.inl ⟨r,c,j,p,o,i,x,h.symm,hL,h1,h2⟩))
  ·cases h
 ·rename_i i j p o hL;simp at h;exact .inr (.inr (.inr ⟨i,j,p,o,h.symm,hL⟩))
 ·cases h
def wy:∀{l l':List C} (j:Nat) {c':C},nc rs l=some l'->l'[j]? = some c'->∃c,l[j]? = some c/\c.dX rs=some c'
 | [],l',j,c',h,hj=>by simp only[nc,au] at h;subst h;simp at hj
 | c::t,l',j,c',h,hj=>by
  obtain⟨c1,h1,h2⟩:=fw.1 h;obtain⟨t1,h3,rfl⟩:=bK h2;cases j with
  | zero=>simp at hj;subst hj;exact⟨c,rfl,h1⟩
  | succ j=>obtain⟨c2,g1,g2⟩:=wy j h3 (by simpa using hj);exact⟨c2,by simpa using g1,g2⟩
def wz:∀{l l':List C},nc rs l=some l'->l'.length=l.length
 | [],l',h=>by simp only[nc,au] at h;subst h;rfl
 | c::t,l',h=>by
  obtain⟨c1,h1,h2⟩:=fw.1 h;obtain⟨t1,h3,rfl⟩:=bK h2;simp[wz h3]
def wV:∀{l:List C} {j:Nat} {c:C} {x:aJ×Nat},l[j]? = some c->x∈c.u6->x∈kg l
 | [],_,_,_,h,_=>by simp at h
 | y::t,0,c,x,h,hx=>by simp at h;subst h;simp[kg,hx]
 | y::t,j+1,c,x,h,hx=>by simp only[kg,dk];exact .inr (wV (by simpa using h) hx)
mutual
def Kw:∀{c c':C},c.clean=true->c.dX rs=some c'->c'.clean=true
 | .d x,c',h,hi=>by simp only[C.dX,au] at hi;subst hi;exact h
 | .ptr r g k,c',h,hi=>by simp only[C.dX] at hi;obtain⟨i,_,rfl⟩:=bK hi;rfl
 | .pp cells,c',h,hi=>by simp only[C.dX,au] at hi;subst hi;rfl
 | .fn f x y,c',h,hi=>by
  simp only[C.dX] at hi;obtain⟨x',h1,h2⟩:=fw.1 hi;obtain⟨y',h3,rfl⟩:=bK h2;simp only[C.clean,cI] at h ⊢;exact⟨Ky h.1 h1,Ky h.2 h3⟩
 | .c7,c',h,hi=>by simp only[C.dX,au] at hi;subst hi;rfl
 | .eY,c',h,hi=>by simp only[C.dX,au] at hi;subst hi;rfl
 | .fQ,c',h,hi=>by simp only[C.dX,au] at hi;subst hi;rfl
 | .fk,c',h,hi=>by simp only[C.dX,au] at hi;subst hi;rfl
 | .dead,c',h,hi=>by simp only[C.dX,au] at hi;subst hi;rfl
 | .eB ..,c',h,hi=>by simp[C.dX] at hi
 | .view ..,c',h,hi=>by simp[C.dX] at hi
 | .cY ..,c',h,hi=>by simp[C.dX] at hi
 | .mp _,c',h,hi=>by simp[C.dX] at hi
 | .gq ..,c',h,hi=>by simp[C.dX] at hi
def Ky:∀{l l':List C},jZ l=true->nc rs l=some l'->jZ l'=true
 | [],l',h,hi=>by simp only[nc,au] at hi;subst hi;rfl
 | c::t,l',h,hi=>by
  simp only[nc] at hi;obtain⟨c1,h1,h2⟩:=fw.1 hi;obtain⟨t1,h3,rfl⟩:=bK h2;simp only[jZ,cI] at h ⊢;exact⟨Kw h.1 h1,Ky h.2 h3⟩
end
def aC.enter {k:Key} {j:Nat} {c:C} {v:Value} (h:aC nm w L γ k j c v):∀{c':C},c.dX rs=some c'->(∀x∈c.u6,x.2=γ (.r x.1))->c.clean=true->∀k' j',aC nm w (fM rs E L) (λ_=>0) k' j' c' v:=by
 induction h with
 | @d x v h=>
  intro c' hi hl hc k' j';simp only[C.dX,au] at hi;subst hi;cases h with
  | plain h=>exact .d (.plain (h.mono (λB hB=>⟨uz hB,rfl⟩)))
  | jg=>simp[C.clean] at hc
  | own=>simp[C.clean] at hc
 | @ptr r g c v hv hg h=>
  intro c' hi hl hc k' j';obtain⟨i,h1,rfl⟩:=bK hi;have mn:=hl (r,g) (by simp[C.u6]);obtain⟨B,o,h2,h3⟩:=h mn;exact .ptr hv (cp _) (λ_=>⟨B,o,zS h2 h1,h3⟩)
 | eB=>intro c' hi;simp[C.dX] at hi
 | pp hL hB h=>
  intro c' hi hl hc k' j';simp only[C.dX,au] at hi;subst hi;refine .pp (uz hL) hB (λq x hx=>?_);obtain⟨u,h1,h2⟩:=h q x hx;exact⟨u,h1,h2.mono (λB hB=>⟨uz hB,rfl⟩)⟩
 | view=>intro c' hi;simp[C.dX] at hi
 | cY=>intro c' hi;simp[C.dX] at hi
 | mp=>intro c' hi;simp[C.dX] at hi
 | gq=>intro c' hi;simp[C.dX] at hi
 | @fns f l v B o cap cur e fz val hf hL hB aU hv h ih=>
  intro c' hi hl hc k' j';have sW:=Kw hc hi;simp only[C.dX] at hi;obtain⟨x',g1,g2⟩:=fw.1 hi;obtain⟨y',g3,rfl⟩:=bK g2;simp only[nc,au] at g1;subst g1;simp only[C.clean,cI] at sW;simp only[C.u6,dk] at hl;have hlen:=wz g3;refine .fns val (by rw[hlen];exact hf) (uz hL) hB sW.2 (by rw[hlen];exact hv) ?_;intro i x hx;obtain⟨c0,k1,k2⟩:=wy i g3 hx;exact ih i c0 k1 k2 (λy hy=>hl y (.inr (wV k1 hy))) (jG aU k1) _ _
 | @fn f first cap cj fs cs j8 hf h1 h2 aU h3 h4 ta td=>
  intro c' hi hl hc k' j';have sW:=Kw hc hi;obtain⟨x',g1,g2⟩:=fw.1 hi;obtain⟨y',g3,rfl⟩:=bK g2;simp only[C.clean,cI] at sW;simp only[C.u6,dk] at hl;refine .fn j8 hf (by rw[wz g1];exact h1) (by rw[wz g3];exact h2) sW ?_ ?_
  ·intro i x u hx hu;obtain⟨c0,k1,k2⟩:=wy i g1 hx;exact ta i c0 u k1 hu k2 (λy hy=>hl y (.inl (wV k1 hy))) (jG aU.1 k1) _ _
  ·intro i x u hx hu;obtain⟨c0,k1,k2⟩:=wy i g3 hx;exact td i c0 u k1 hu k2 (λy hy=>hl y (.inr (wV k1 hy))) (jG aU.2 k1) _ _
 | c7=>intro c' hi _ _ _ _;simp only[C.dX,au] at hi;subst hi;exact .c7
 | eY=>intro c' hi _ _ _ _;simp only[C.dX,au] at hi;subst hi;exact .eY
 | fQ=>intro c' hi _ _ _ _;simp only[C.dX,au] at hi;subst hi;exact .fQ
 | fk=>intro c' hi _ _ _ _;simp only[C.dX,au] at hi;subst hi;exact .fk
 | bz=>intro c' hi _ hc;simp[C.clean] at hc
 | dead=>intro c' hi _ _ _ _;simp only[C.dX,au] at hi;subst hi;exact .dead
def aau {rs:List aJ} {c c':C} (hi:c.dX rs=some c') {B o k:Nat} {e:TypeId} {n:Nat} {v:Value} (h:lK c B o k e n v):lK c' B o k e n v:=by
 cases c' with
 | bz t=>
  cases c with
  | bz t'=>simp only[C.dX,au,C.bz.injEq] at hi;subst hi;exact h
  | ptr r g c=>obtain⟨i,_,h2⟩:=bK hi;cases h2
  | fn f a b=>obtain⟨_,_,h2⟩:=fw.1 hi;obtain⟨_,_,h3⟩:=bK h2;cases h3
  | _=>simp[C.dX] at hi
 | _=>trivial
def aC.YH {r:aJ} {c0 i:Nat} {c:C} {v:Value} (h:aC nm w L γ (.b r c0) 0 c v) {c':C} (hi:c.dX rs=some c') (hl:∀x∈c.u6,x.2=γ (.r x.1)) (hE:E (.b r c0) = .one c) (hr:jh rs r 0=some i) :
  aC nm w (fM rs E L) (λ_=>0) (.b (.e i) c0) 0 c' v:=by
 cases c with
 | d x=>
  simp only[C.dX,au] at hi;subst hi;cases h with
  | d h=>
   refine .d ?_
   exact bt.move (λq => ⟨.b (.e i) c0, q.j, q.p⟩) (λq => q.k = .b r c0) (λ_ _ _ h => h) (λ_ _ _ _ => rfl) (λB hB => ⟨uz hB, rfl⟩) (λB q o hq hL => by
     obtain⟨k, j, p⟩ := q
     subst hq
     exact⟨ajq hL hr hE, rfl⟩) h rfl
 | cY=>simp[C.dX] at hi
 | mp=>simp[C.dX] at hi
 | bz t=>
  simp only[C.dX,au] at hi;subst hi;cases h with
  | bz hk hv=>exact .bz ⟨_,_,rfl⟩ hv
 | _=>exact h.enter hi hl (h.uv rfl) _ _
def aC.YI {i j:Nat} {c:C} {v:Value} (h:aC nm w L γ (.h (i+1)) j c v) {c':C} (hi:c.dX rs=some c') (hl:∀x∈c.u6,x.2=γ (.r x.1)) :
  aC nm w (fM rs E L) (λ_=>0) (.s i) j c' v:=by
 cases c with
 | d x=>
  simp only[C.dX,au] at hi;subst hi;cases h with
  | d h=>
   refine .d ?_
   exact bt.move (λq => ⟨.s i, q.j, q.p⟩) (λq => q.k = .h (i + 1)) (λ_ _ _ h => h) (λ_ _ _ _ => rfl) (λB hB => ⟨uz hB, rfl⟩) (λB q o hq hL => by
     obtain⟨k, j, p⟩ := q
     subst hq
     exact⟨ajp hL, rfl⟩) h rfl
 | cY=>simp[C.dX] at hi
 | mp=>simp[C.dX] at hi
 | bz t=>exact absurd rfl (h.Hs t)
 | _=>exact h.enter hi hl (h.uv rfl) _ _
def pk:∀(vs:List V) (i:Nat) (rest:St) (k:Key),St.get (gk i vs++rest) k=match k with
  | .s j=>if i<=j/\j < i+vs.length then⟨vs.getD (j - i) V.dead,0⟩ else rest.get (.s j)
  | k=>rest.get k
 | [],i,rest,k=>by
  simp only[gk,zr];cases k<;>simp;omega
 | v::vs,i,rest,k=>by
  simp only[gk,sr,St.get];have ih:=pk vs (i+1) rest k;cases k with
  | s j=>
   simp only at ih ⊢;by_cases h:i=j
   ·subst h;simp
   ·rw[aI (by simpa using h),ih];by_cases h2:i+1<=j/\j < i+1+vs.length
    ·rw[aP h2,aP ⟨by omega,by simp;omega⟩,show j - i=(j - (i+1))+1 by omega];rfl
    ·rw[aI h2,aI (by simp;omega)]
  | _=>simpa using ih
def Xc (r:aJ):∀(cs:List C) (c0:Nat) (rest:St) (k:Key),St.get (BT r c0 cs++rest) k=match k with
  | .b r' c=>if r'=r/\c0<=c/\c < c0+cs.length then⟨.one (cs.getD (c - c0) .dead),0⟩ else rest.get (.b r' c)
  | k=>rest.get k
 | [],c0,rest,k=>by
  simp only[BT,zr];cases k<;>simp;omega
 | x::cs,c0,rest,k=>by
  simp only[BT,sr,St.get];have ih:=Xc r cs (c0+1) rest k;cases k with
  | b r' c=>
   simp only at ih ⊢;by_cases h:r=r'/\c0=c
   ·obtain⟨rfl,rfl⟩:=h;simp
   ·rw[aI (by simpa using h),ih];by_cases h2:r'=r/\c0+1<=c/\c < c0+1+cs.length
    ·rw[aP h2,aP ⟨h2.1,by omega,by simp;omega⟩,show c - c0=(c - (c0+1))+1 by omega];rfl
    ·rw[aI h2,aI];rintro⟨h3,h4,h5⟩;subst h3;simp at h5;by_cases h6:c0=c
     ·exact h ⟨rfl,h6⟩
     ·exact h2 ⟨rfl,by omega,by omega⟩
  | _=>simpa using ih
def pv:∀(bs:List (List C)) (i:Nat) (k:Key),St.get (dm i bs) k=match k with
  | .r (.e j)=>if i<=j/\j < i+bs.length then⟨fR (bs.getD (j - i) []).length,0⟩ else⟨.one .dead,0⟩
  | .b (.e j) c=>if(i<=j/\j < i+bs.length)/\c < (bs.getD (j - i) []).length then⟨.one ((bs.getD (j - i) []).getD c .dead),0⟩ else⟨.one .dead,0⟩
  | _=>⟨.one .dead,0⟩
 | [],i,k=>by
  simp only[dm,St.get];cases k with
  | r x=>
   cases x<;>simp;omega
  | b x c=>cases x<;>simp
  | _=>rfl
 | b::bs,i,k=>by
  simp only[dm,St.get];have ih:=pv bs (i+1) k;rw[Xc];cases k with
  | r x=>
   cases x with
   | e j=>
    simp only at ih ⊢;by_cases h:i=j
    ·subst h;simp
    ·rw[aI (by simpa using h),ih];by_cases h2:i+1<=j/\j < i+1+bs.length
     ·rw[aP h2,aP ⟨by omega,by simp;omega⟩,show j - i=(j - (i+1))+1 by omega];rfl
     ·rw[aI h2,aI (by simp;omega)]
   | _=>simpa using ih
  | b x c=>
   cases x with
   | e j=>
    simp only at ih ⊢;by_cases h:i=j
    ·subst h;rw[aI (by simp)];by_cases hc:c < b.length
     ·simp[hc]
     ·rw[aI (by omega),ih,aI (by omega),aI (by simp;omega)]
    ·rw[aI (by simp),aI (by simp;omega),ih];by_cases h2:(i+1<=j/\j < i+1+bs.length)/\c < (bs.getD (j - (i+1)) []).length
     ·rw[aP h2,aP ⟨⟨by omega,by simp;omega⟩,by rw[show j - i=(j - (i+1))+1 by omega];exact h2.2⟩,show j - i=(j - (i+1))+1 by omega];rfl
     ·rw[aI h2,aI];rintro⟨⟨h3,h4⟩,h5⟩;simp at h4;rw[show j - i=(j - (i+1))+1 by omega] at h5;exact h2 ⟨⟨by omega,by omega⟩,h5⟩
   | g j=>simpa using ih
   | l j=>simpa using ih
  | _=>simpa using ih
def IZ:∀(l:List (aJ×Nat)) (bu:List aJ),bu.Nodup->(sA bu l).Nodup/\(∃t,sA bu l=bu++t)/\∀r∈sA bu l,r∈bu\/∃g,(r,g)∈l
 | [],bu,h=>⟨h,⟨[],by simp[sA]⟩,λr hr=>.inl hr⟩
 | (x,g)::t,bu,h=>by
  simp only[sA];split
  ·obtain⟨h1,h2,h3⟩:=IZ t bu h;exact⟨h1,h2,λr hr=>(h3 r hr).imp id (λ⟨g',hg⟩=>⟨g',by simp[hg]⟩)⟩
  ·rename_i hx;have hn:(bu++[x]).Nodup:=by
    rw[Og];refine⟨h,by simp,λa ha b hb=>?_⟩;simp at hb;subst hb;rintro rfl;exact hx (by simpa using ha)
   obtain⟨h1,⟨u,h2⟩,h3⟩:=IZ t (bu++[x]) hn;refine⟨h1,⟨x::u,by rw[h2];simp⟩,λr hr=>?_⟩;rcases h3 r hr with h4 | ⟨g',h4⟩
   ·rcases dk.1 h4 with h5 | h5
    ·exact .inl h5
    ·simp at h5;subst h5;exact .inr ⟨g,by simp⟩
   ·exact .inr ⟨g',by simp[h4]⟩
def BJ (S0:St) (ws:List Wr) (r:aJ):Prop:=qj ws (.r r)=none/\r.iT=false
def xt (S0:St) (ws:List Wr) (x:aJ×Nat):Prop:=x.2=S0.γ (.r x.1)/\BJ S0 ws x.1
def Hn:∀(l:List (aJ×Nat)) {u:Unit},(AS ws l).run S0=some u->∀x∈l,xt S0 ws x
 | [],u,h,x,hx=>by simp at hx
 | (r,g)::t,u,h,x,hx=>by
  have h1:=Q.np h;obtain⟨h2,h3⟩:=Q.ec h1;simp at h2;rcases ik.1 hx with rfl | hx
  ·exact⟨h2.1.1.symm,h2.1.2,h2.2⟩
  ·exact Hn t h3 x hx
def M' {r:aJ}:∀(n c:Nat) {cs:List C},(A7 ws r c n).run S0=some cs->cs.length=n/\∀j x,cs[j]? = some x->(S0.ai ws).E (.b r (c+j)) = .one x
 | 0,c,cs,h=>by
  simp only[A7,Q.run_pure,au] at h;subst h;exact⟨rfl,λj x hj=>by simp at hj⟩
 | n+1,c,cs,h=>by
  simp only[A7] at h;rw[Q.run_bind,vI,Option.bind_some] at h;split at h
  ·rename_i x hx;obtain⟨t,h1,h2⟩:=Q.aL h;obtain rfl:=Q.aW h2;obtain⟨g1,g2⟩:=M' n (c+1) h1;refine⟨by simp[g1],λj y hj=>?_⟩;cases j with
   | zero=>simp at hj;subst hj;exact hx
   | succ j=>
    have:=g2 j y (by simpa using hj);rwa[show c+1+j=c+(j+1) by omega] at this
  ·cases h
def Zq:∀(fuel:Nat) (bu:List aJ) (i:Nat) {rs:List aJ} {bs:List (List C)},bu.Nodup->(z6 ws fuel bu i).run S0=some (rs,bs)->rs.Nodup/\(∃t,rs=bu++t)/\(∀r∈rs,r∈bu\/BJ S0 ws r)/\bs.length=rs.length - i/\
  ∀(k:Nat) r cs,rs[i+k]? = some r->bs[k]? = some cs->cs.length=cr (S0.E (.r r))/\(∀j x,cs[j]? = some x->(S0.ai ws).E (.b r j) = .one x)/\∀x∈kg cs,xt S0 ws x
 | 0,bu,i,rs,bs,hn,h=>by
  simp only[z6,Q.run_ite] at h;split at h
  ·obtain⟨rfl,rfl⟩:rs=bu/\bs=[]:=by simpa[eq_comm] using h
   exact⟨hn,⟨[],by simp⟩,λr hr=>.inl hr,by simp;omega,λk r cs hk hc=>by simp at hc⟩
  ·cases h
 | f+1,bu,i,rs,bs,hn,h=>by
  simp only[z6] at h;split at h
  ·rename_i wc;obtain⟨rfl,rfl⟩:rs=bu/\bs=[]:=by simpa[eq_comm] using h
   have:=afW.1 wc;exact⟨hn,⟨[],by simp⟩,λr hr=>.inl hr,by simp;omega,λk r cs hk hc=>by simp at hc⟩
  ·rename_i r0 uK;have h1:=Q.np h;obtain⟨gZ,h2,h3⟩:=Q.aL h1;obtain⟨u,h4,h5⟩:=Q.aL h3;obtain⟨⟨Ul,dL⟩,h6,h7⟩:=Q.aL h5;obtain⟨rfl,rfl⟩:rs=Ul/\bs=gZ::dL:=by simpa[eq_comm] using Q.aW h7
   obtain⟨a1,⟨t1,a2⟩,a3⟩:=IZ (kg gZ) bu hn;obtain⟨b1,⟨t2,b2⟩,b3,b4,b5⟩:=Zq f _ (i+1) a1 h6;obtain⟨c1,c2⟩:=M' _ _ h2;have nL:=Hn _ h4;have hi:=(cd.1 uK).1;have hlen:rs.length>=bu.length:=by rw[b2,a2];simp
   refine⟨b1,⟨t1++t2,by rw[b2,a2];simp⟩,λr hr=>?_,by simp[b4];omega,?_⟩
   ·rcases b3 r hr with h | h
    ·rcases a3 r h with h | ⟨g,h⟩
     ·exact .inl h
     ·exact .inr (nL _ h).2
    ·exact .inr h
   ·intro k r cs hk hc;cases k with
    | zero=>
     simp at hc;subst hc;have:=by
      rw[b2,a2,mN,fI,nZ hi,uK] at hk;simpa using hk.symm
     subst this;refine⟨c1,λj x hj=>?_,nL⟩;have:=c2 j x hj;rwa[cQ] at this
    | succ k=>
     exact b5 k r cs (by rw[show i+1+k=i+(k+1) by omega];exact hk) (by simpa using hc)
end
end
section
section
variable {nm:FuncId->Option Nat} {N:Nat} {S S0:St} {a:Act} {w w0 w':World} {L L0:aw} {P:Program} {o:Oper} {Cl:bX} {d:Nat} {ws:List Wr} {γ:Key->Nat} {rs:List aJ} {E:Key->V}
def getD_some {α:Type} {l:List α} {i:Nat} {d:α} (h:i < l.length):l[i]? = some (l.getD i d):=by
 rw[kI h,nY,kI h];rfl
def aav:∀{l l':List V} (j:Nat) {c':V},uP rs l=some l'->l'[j]? = some c'->∃c,l[j]? = some c/\c.uO rs=some c'
 | [],l',j,c',h,hj=>by simp only[uP,au] at h;subst h;simp at hj
 | c::t,l',j,c',h,hj=>by
  simp only[uP] at h;obtain⟨c1,h1,h2⟩:=fw.1 h;obtain⟨t1,h3,rfl⟩:=bK h2;cases j with
  | zero=>simp at hj;subst hj;exact⟨c,rfl,h1⟩
  | succ j=>obtain⟨c2,g1,g2⟩:=aav j h3 (by simpa using hj);exact⟨c2,by simpa using g1,g2⟩
def Se:∀{l l':List V},uP rs l=some l'->l'.length=l.length
 | [],l',h=>by simp only[uP,au] at h;subst h;rfl
 | c::t,l',h=>by
  simp only[uP] at h;obtain⟨c1,h1,h2⟩:=fw.1 h;obtain⟨t1,h3,rfl⟩:=bK h2;simp[Se h3]
def Sc:∀{l l':List (List C)} (j:Nat) {c':List C},pL rs l=some l'->l'[j]? = some c'->∃c,l[j]? = some c/\nc rs c=some c'
 | [],l',j,c',h,hj=>by simp only[pL,au] at h;subst h;simp at hj
 | c::t,l',j,c',h,hj=>by
  simp only[pL] at h;obtain⟨c1,h1,h2⟩:=fw.1 h;obtain⟨t1,h3,rfl⟩:=bK h2;cases j with
  | zero=>simp at hj;subst hj;exact⟨c,rfl,h1⟩
  | succ j=>obtain⟨c2,g1,g2⟩:=Sc j h3 (by simpa using hj);exact⟨c2,by simpa using g1,g2⟩
def Sd:∀{l l':List (List C)},pL rs l=some l'->l'.length=l.length
 | [],l',h=>by simp only[pL,au] at h;subst h;rfl
 | c::t,l',h=>by
  simp only[pL] at h;obtain⟨c1,h1,h2⟩:=fw.1 h;obtain⟨t1,h3,rfl⟩:=bK h2;simp[Sd h3]
def ae':∀{l:List V} {j:Nat} {v:V} {x:aJ×Nat},l[j]? = some v->x∈kg v.cells->x∈tX l
 | [],_,_,_,h,_=>by simp at h
 | y::t,0,c,x,h,hx=>by simp at h;subst h;simp[tX,hx]
 | y::t,j+1,c,x,h,hx=>by simp only[tX,dk];exact .inr (ae' (by simpa using h) hx)
def bJ.enter {k:Key} {x:V} {v:Value} (h:bJ nm w L γ k x v) {x':V} (hi:x.uO rs=some x') (hl:∀y∈kg x.cells,y.2=γ (.r y.1)) (hc:x.clean=true) (k':Key):bJ nm w (fM rs E L) (λ_=>0) k' x' v:=by
 cases h with
 | @one c v h=>
  simp only[V.uO] at hi;obtain⟨c',h1,rfl⟩:=bK hi;exact .one (h.enter h1 (λy hy=>hl y (by simp[V.cells,kg,hy])) hc _ _)
 | @agg cs vs hlen h=>
  simp only[V.uO] at hi;obtain⟨dQ,h1,rfl⟩:=bK hi;refine .agg (by rw[wz h1];exact hlen) (λj c u hj hu=>?_);obtain⟨c0,g1,g2⟩:=wy j h1 hj;exact(h j c0 u g1 hu).enter g2 (λy hy=>hl y (wV g1 hy)) (jG hc g1) _ _
 | ao=>simp[V.uO] at hi
def uf.enter {i:Nat} {x:V} {v:Value} (h:uf nm w L γ i x v) {x':V} (hi:x.uO rs=some x') (hl:∀y∈kg x.cells,y.2=γ (.r y.1)):bJ nm w (fM rs E L) (λ_=>0) (.s i) x' v:=by
 rcases h with⟨hc,h⟩ | ⟨h,ht⟩
 ·exact h.enter hi hl hc _
 ·cases h with
  | @one c v h=>
   simp only[V.uO] at hi;obtain⟨c',h1,rfl⟩:=bK hi;exact .one (h.YI h1 (λy hy=>hl y (by simp[V.cells,kg,hy])))
  | @agg cs vs hlen h=>
   simp only[V.uO] at hi;obtain⟨dQ,h1,rfl⟩:=bK hi;refine .agg (by rw[wz h1];exact hlen) (λj c u hj hu=>?_);obtain⟨c0,g1,g2⟩:=wy j h1 hj;exact(h j c0 u g1 hu).YI g2 (λy hy=>hl y (wV g1 hy))
  | ao=>simp[V.uO] at hi
def Cn (vs:List V) (bs:List (List C)):(gk 0 vs++dm 0 bs:St).γ=λ_=>0:=by
 funext k;unfold St.γ;rw[pk];cases k with
 | s j=>simp only;split;rfl;rw[pv]
 | r x=>simp only;rw[pv];cases x<;>simp only<;>(try split)<;>rfl
 | b x c=>simp only;rw[pv];cases x<;>simp only<;>(try split)<;>rfl
 | h i=>simp only;rw[pv]
 | a k=>simp only;rw[pv]
def I7 (bs:List (List C)):(dm 0 bs:St).γ=λ_=>0:=by
 have:=Cn [] bs;simpa[gk] using this
def px (bs:List (List C)) (k:Key):(dm 0 bs:St).E k=match k with
  | .r (.e j)=>if j < bs.length then fR (bs.getD j []).length else V.dead
  | .b (.e j) c=>if j < bs.length/\c < (bs.getD j []).length then .one ((bs.getD j []).getD c .dead) else V.dead
  | _=>V.dead:=by
 unfold St.E;rw[pv];cases k with
 | r x=>cases x<;>simp only<;>(try (simp only[EK,nD,cQ,xp];split<;>rfl))<;>rfl
 | b x c=>cases x<;>simp only<;>(try (simp only[EK,nD,cQ,xp];split<;>rfl))<;>rfl
 | _=>rfl
def ajr (M:cf nm N S0 w0 L0 ws a w L) {vs eR:List V} {bs dL:List (List C)} (nL:∀x∈tX vs,xt S0 ws x) (hg:(z6 ws 40 (sA [] (tX vs)) 0).run S0=some (rs,bs)) (kV:uP rs vs=some eR) (qm:pL rs bs=some dL)
  {args:Array Value} (aY:args.size=vs.length) (lA:∀(j:Nat) x u,vs[j]? = some x->args[j]? = some u->uf nm w L (S0.ai ws).γ j x u) :
  Rel nm eR.length (gk 0 eR++dm 0 dL) ⟨args,[]⟩ w (fM rs (S0.ai ws).E L)/\eA (fM rs (S0.ai ws).E L)/\rs.Nodup/\(∀r∈rs,BJ S0 ws r)/\bs.length=rs.length/\dL.length=rs.length/\
   (∀(k:Nat) r cs,rs[k]? = some r->bs[k]? = some cs->cs.length=cr (S0.E (.r r))/\(∀j x,cs[j]? = some x->(S0.ai ws).E (.b r j) = .one x)):=by
 obtain⟨a1,⟨t1,a2⟩,a3⟩:=IZ (tX vs) [] List.nodup_nil;obtain⟨b1,⟨t2,b2⟩,b3,b4,b5⟩:=Zq 40 _ 0 a1 hg;have mn:∀r∈rs,BJ S0 ws r:=by
  intro r hr;rcases b3 r hr with h | h
  ·rcases a3 r h with h | ⟨g,h⟩
   ·simp at h
   ·exact(nL _ h).2
  ·exact h
 have xW:bs.length=rs.length:=by rw[b4];omega
 have akT:dL.length=rs.length:=by rw[Sd qm,xW]
 have QT:∀(k:Nat) r cs,rs[k]? = some r->bs[k]? = some cs->cs.length=cr (S0.E (.r r))/\(∀j x,cs[j]? = some x->(S0.ai ws).E (.b r j) = .one x)/\∀x∈kg cs,xt S0 ws x:=
  λk r cs h1 h2=>b5 k r cs (by rw[cQ];exact h1) h2
 have hγ:∀{x:aJ×Nat},xt S0 ws x->x.2=(S0.ai ws).γ (.r x.1):=λh=>by rw[IP h.2.1];exact h.1
 have box:∀j,j < dL.length->∃r cs,rs[j]? = some r/\bs[j]? = some cs/\nc rs cs=some (dL.getD j [])/\(dL.getD j []).length=cr ((S0.ai ws).E (.r r))/\r.iT=false/\jh rs r 0=some j/\
   (∀i x,cs[i]? = some x->(S0.ai ws).E (.b r i) = .one x)/\∀x∈kg cs,xt S0 ws x:=by
  intro j hj;have vZ:dL[j]? = some (dL.getD j []):=by simp[nY,hj]
  obtain⟨cs,h1,h2⟩:=Sc j qm vZ;have Rp:j < rs.length:=by omega
  obtain⟨c1,c2,c3⟩:=QT j rs[j] cs (by simp) h1;have hl:=mn rs[j] (bU Rp);refine⟨rs[j],cs,by simp,h1,h2,?_,hl.2,?_,c2,c3⟩
  ·rw[wz h2,c1,CA,hl.1];rfl
  ·have:=yV rs (i:=0) b1 (show rs[j]? = some rs[j] by simp);rwa[cQ] at this
 refine⟨⟨?_,rfl,?_,?_,?_,?_,?_,?_,?_,?_⟩,?_,b1,mn,xW,akT,λk r cs h1 h2=>⟨(QT k r cs h1 h2).1,(QT k r cs h1 h2).2.1⟩⟩
 ·rw[aY,Se kV]
 ·intro i;rw[Cn];show bJ nm w _ _ (.s i) ((gk 0 eR++dm 0 dL:St).E (.s i)) (args.getD i undef);have hE:(gk 0 eR++dm 0 dL:St).E (.s i)=if i < eR.length then eR.getD i V.dead else V.dead:=by
   unfold St.E;rw[pk];simp only[EK,nD,cQ,xp];split
   ·rfl
   ·rw[pv];rfl
  rw[hE];split
  ·rename_i hi;obtain⟨x,h1,h2⟩:=aav i kV (show eR[i]? = some (eR.getD i V.dead) by simp[nY,hi]);have wa:i < args.size:=by rw[aY,<-Se kV];exact hi
   have:=(lA i x args[i] h1 (by simp[wa])).enter (E:=(S0.ai ws).E) h2 (λy hy=>hγ (nL y (ae' h1 hy)));simpa[Array.getD,wa] using this
  ·exact .one .dead
 ·intro r c x hx gp;have fF:(dm 0 dL:St).E (.b r c) = .one x:=by
   have:=hx;unfold St.E at this ⊢;rw[pk] at this;exact this
  rw[Cn];rw[px] at fF;cases r with
  | g i=>simp only[V.dead,V.one.injEq] at fF;exact absurd fF.symm gp
  | l i=>simp only[V.dead,V.one.injEq] at fF;exact absurd fF.symm gp
  | e j=>
   simp only at fF;split at fF
   ·rename_i Ga;obtain⟨r0,cs,h1,h2,h3,h4,h5,h6,h7,h8⟩:=box j Ga.1;simp only[V.one.injEq] at fF;obtain⟨y,k1,k2⟩:=wy c h3 (show (dL.getD j [])[c]? = some x by rw[<-fF];exact getD_some Ga.2);have GC:=h7 c y k1;have jK:y≠.dead:=by
     rintro rfl;simp only[C.dX,au] at k2;exact gp k2.symm
    have ow:=M.rel.cell r0 c y GC jK;have ex:∃B o cur e fz v,L B=some (.box r0 o)/\w.heap[B]? = some (.cells cur e fz)/\jA cur.size fz/\cur[o+c]? = some v/\aC nm w L (S0.ai ws).γ (.b r0 c) 0 y v/\lK y B o c e cur.size v:=by
     cases r0 with
     | g i=>simp[aJ.iT] at h5
     | e i=>exact ow
     | l i=>exact ow
    obtain⟨B,o,cur,e,fz,v,m1,m2,m3,m4,m5,m6⟩:=ex;exact⟨B,o,cur,e,fz,v,zS m1 h6,m2,m3,m4,m5.YH k2 (λz hz=>hγ (h8 z (wV k1 hz))) GC h6,aau k2 m6⟩
   ·simp only[V.dead,V.one.injEq] at fF;exact absurd fF.symm gp
 ·intro r c;have:(gk 0 eR++dm 0 dL:St).E (.b r c)=(dm 0 dL:St).E (.b r c):=by unfold St.E;rw[pk]
  rw[this,px];cases r with
  | e j=>
   simp only;split
   ·exact⟨(dL.getD j []).getD c .dead,rfl⟩
   ·exact⟨.dead,rfl⟩
  | g i=>exact⟨.dead,rfl⟩
  | l i=>exact⟨.dead,rfl⟩
 ·intro r c hc;have h1:(gk 0 eR++dm 0 dL:St).E (.b r c)=(dm 0 dL:St).E (.b r c):=by unfold St.E;rw[pk]
  have h2:(gk 0 eR++dm 0 dL:St).E (.r r)=(dm 0 dL:St).E (.r r):=by unfold St.E;rw[pk]
  rw[h2] at hc;rw[h1];rw[px] at hc ⊢;cases r with
  | e j=>
   simp only at hc ⊢;by_cases hj:j < dL.length
   ·rw[aP hj,qU] at hc;rw[aI (λh=>by omega)];rfl
   ·rw[aI (λh=>hj h.1)];rfl
  | g i=>rfl
  | l i=>rfl
 ·intro r hg hr;have h2:(gk 0 eR++dm 0 dL:St).E (.r r)=(dm 0 dL:St).E (.r r):=by unfold St.E;rw[pk]
  rw[h2] at hr ⊢;rw[px] at hr ⊢;cases r with
  | e j=>
   simp only at hr ⊢;by_cases hj:j < dL.length
   ·rw[aP hj,qU] at hr ⊢;obtain⟨r0,cs,h1,h2,h3,h4,h5,h6,h7,h8⟩:=box j hj;rw[h4] at hr ⊢;obtain⟨B,o,cur,e,fz,m1,m2,m3,m4⟩:=M.rel.room r0 h5 hr;exact⟨B,o,cur,e,fz,zS m1 h6,m2,m3,m4⟩
   ·rw[aI hj] at hr;simp[V.dead,cr] at hr
  | g i=>simp[aJ.iT] at hg
  | l i=>simp[V.dead,cr] at hr
 ·intro B l hB;rcases nF hB with⟨_,h⟩ | ⟨_,_,_,_,h,_⟩ | ⟨_,_,_,_,_,_,_,_,h,_⟩ | ⟨_,_,_,_,_,h⟩<;>exact M.rel.fx B _ h
 ·intro B B' pl o o' h1 h2;rcases nF h1 with⟨h,_⟩ | ⟨_,_,_,h,_⟩ | ⟨r,c,j,p,o1,i,x,h,k1,k2,_⟩ | ⟨i,j,p,o1,h,k1⟩
  ·cases h
  ·cases h
  rotate_left
  ·simp only[db.row.injEq] at h;obtain⟨rfl,rfl⟩:=h;rcases nF h2 with⟨h',_⟩ | ⟨_,_,_,h',_⟩ | ⟨r',c',j',p',kf,i',x',h',oI,wD,_⟩ | ⟨i',j',p',kf,h',oI⟩
   ·cases h'
   ·cases h'
   ·simp only[db.row.injEq,Place.mk.injEq] at h';exact absurd h'.1.1 (by intro h;cases h)
   ·simp only[db.row.injEq,Place.mk.injEq,Key.s.injEq] at h';obtain⟨⟨rfl,rfl,rfl⟩,rfl⟩:=h';exact M.rel.ey B B' _ _ _ k1 oI
  rcases nF h2 with⟨h',_⟩ | ⟨_,_,_,h',_⟩ | ⟨r',c',j',p',kf,i',x',h',oI,wD,_⟩ | ⟨i',j',p',kf,h',oI⟩
  ·cases h'
  ·cases h'
  rotate_left
  ·simp only[db.row.injEq] at h h';obtain⟨rfl,rfl⟩:=h;simp only[Place.mk.injEq] at h';exact absurd h'.1.1 (by intro h;cases h)
  simp only[db.row.injEq] at h h';obtain⟨rfl,rfl⟩:=h;obtain⟨h',rfl⟩:=h';simp only[Place.mk.injEq,Key.b.injEq,aJ.e.injEq] at h';obtain⟨⟨rfl,rfl⟩,rfl,rfl⟩:=h';have e1:=(qG rs k2).2;have e2:=(qG rs wD).2;rw[e1] at e2;simp only[au] at e2;subst e2;exact M.rel.ey B B' _ _ _ k1 oI
 ·intro B B' r o o' h1 h2;rcases nF h1 with⟨h,_⟩ | ⟨r1,o1,i,h,k1,k2⟩ | ⟨_,_,_,_,_,_,_,h,_⟩ | ⟨_,_,_,_,h,_⟩
  ·cases h
  ·rcases nF h2 with⟨h',_⟩ | ⟨HP,kf,i',h',oI,wD⟩ | ⟨_,_,_,_,_,_,_,h',_⟩ | ⟨_,_,_,_,h',_⟩
   ·cases h'
   ·simp only[db.box.injEq] at h h';obtain⟨rfl,rfl⟩:=h;obtain⟨h',rfl⟩:=h';simp only[aJ.e.injEq] at h';subst h';have e1:=(qG rs k2).2;have e2:=(qG rs wD).2;rw[e1] at e2;simp only[au] at e2;subst e2;exact M.rel.fy B B' _ _ _ k1 oI
   ·cases h'
   ·cases h'
  ·cases h
  ·cases h
 ·intro B q o hB;rcases nF hB with⟨h,_⟩ | ⟨_,_,_,h,_⟩ | ⟨_,_,_,_,_,_,_,h,_⟩ | ⟨_,_,_,_,h,_⟩
  ·cases h
  ·cases h
  all_goals
   simp only[db.row.injEq] at h
   rw[h.1];rfl
end
end
end Go.ax
