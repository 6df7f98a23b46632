/- A part of the proof. -/
import Derived.Test.YtfmpdgeiodnnfaaGreatDoorN0
import GoSem.Core.Program
import GoSem.Core.Region
import GoSem.Core.Check
import GoSem.Core.Layout
import GoSem.Op.Equal
import Derived.Laws.Strings
import Derived.Laws.StructEq
import Derived.Laws.BytesString
import Derived.Laws.BytesArg
import Derived.Laws.MakeOwn
set_option linter.all false
namespace Go.ax
section
section
variable {nm:FuncId->Option Nat} {N:Nat} {S0:St} {w0:World} {L0:aw} {ws:List Wr} {a:Act} {w:World} {L:aw}
def V.arq {x:V} {j:Nat} {c:C} (h:x.cells[j]? = some c):x.setCell j c=x:=by
 cases x with
 | one c0=>
  cases j with
  | zero=>simp only[V.cells,qQ,au] at h;simp[V.setCell,h]
  | succ j=>simp[V.cells] at h
 | agg cs=>
  simp only[V.cells] at h;simp only[V.setCell];congr 1;obtain⟨hj,rfl⟩:=cd.1 h;exact af2 hj
 | ao vs=>simp[V.cells] at h
def V.agY {x:V} {j:Nat} {c c':C} (h:x.cells[j]? = some c):(x.setCell j c').cells[j]? = some c':=by
 cases x with
 | one c0=>
  cases j with
  | zero=>simp[V.setCell,V.cells]
  | succ j=>simp[V.cells] at h
 | agg cs=>
  simp only[V.cells] at h;obtain⟨hj,rfl⟩:=cd.1 h;simp[V.setCell,V.cells,hj]
 | ao vs=>simp[V.cells] at h
open Classical in
noncomputable def mV (t:Place) (m j:Nat) (L:aw):aw:=λB=>
 match L B with
 | some (.row q o)=>if q.k = .h m/\q.j=j then some (.row (t.app q.p) o) else if bM t q then none else some (.row q o)
 | x=>x
def Yz {t:Place} {m j B:Nat}:mV t m j L B=some .bg↔L B=some .bg:=by
 unfold mV;split
 ·rename_i q o hL;rw[hL];split
  ·simp
  ·split<;>simp
 ·rfl
def aji {t:Place} {m j B o:Nat} {r:aJ}:mV t m j L B=some (.box r o)↔L B=some (.box r o):=by
 unfold mV;split
 ·rename_i q o' hL;rw[hL];split
  ·simp
  ·split<;>simp
 ·rfl
def ajn {t:Place} {m j B:Nat} (h:L B=none):mV t m j L B=none:=by simp[mV,h]
def ajj {t:Place} {m j B:Nat} {l:db} (h:mV t m j L B=some l):∃l0,L B=some l0:=by
 unfold mV at h;split at h
 ·rename_i q o hL;exact⟨_,hL⟩
 ·exact⟨_,h⟩
def ajl {t:Place} {m j B o:Nat} {q:Place} (h:L B=some (.row q o)) (h1:¬ (q.k = .h m/\q.j=j)) (h2:¬ bM t q):mV t m j L B=some (.row q o):=by
 simp only[mV,h];rw[aI h1,aI h2]
def ajm {t:Place} {m j B o:Nat} {q:Place} (h:L B=some (.row q o)) (h1:q.k = .h m/\q.j=j):mV t m j L B=some (.row (t.app q.p) o):=by
 simp only[mV,h];rw[aP h1]
def P6 {t:Place} {m j B o:Nat} {q:Place} (h:mV t m j L B=some (.row q o)) :
  (∃q0,L B=some (.row q0 o)/\(q0.k = .h m/\q0.j=j)/\q=t.app q0.p)\/(L B=some (.row q o)/\¬ (q.k = .h m/\q.j=j)/\¬ bM t q):=by
 unfold mV at h;split at h
 ·rename_i q0 o0 hL;split at h
  ·rename_i h1;simp only[au,db.row.injEq] at h;exact .inl ⟨q0,by rw[hL,h.2],h1,h.1.symm⟩
  ·rename_i h1;split at h
   ·cases h
   ·rename_i h2;simp only[au,db.row.injEq] at h;obtain⟨rfl,rfl⟩:=h;exact .inr ⟨hL,h1,h2⟩
 ·rename_i hn;exact absurd h (hn q o)
def ajk {t:Place} {m j:Nat} (h:mR L):mR (mV t m j L):=by
 intro B B' pl o o' h1 h2;rcases P6 h1 with⟨q,a1,a2,a3⟩ | ⟨a1,a2,a3⟩<;>rcases P6 h2 with⟨q',b1,b2,b3⟩ | ⟨b1,b2,b3⟩
 ·have:=Place.agc (a3.symm.trans b3);have:q=q':=by cases q;cases q';simp_all
  subst this;exact h B B' q o o' a1 b1
 ·exact absurd ⟨q.p,a3⟩ b3
 ·exact absurd ⟨q'.p,b3⟩ a3
 ·exact h B B' pl o o' a1 b1
def aC.Zf {γ:Key->Nat} {k:Key} {j:Nat} {z:D} {v:Value} (h:aC nm w L γ k j (.d z) v) (hf:z.flat=true):fK w L z v:=by
 cases h with
 | d h=>
  cases h with
  | plain h=>exact h
  | jg=>simp[D.flat] at hf
  | own=>simp[D.flat] at hf
def af5 (S:St) (k:Key) (v:V) (kp:Bool) (k':Key) :
  (S.ai [{ k,v,keep:=kp },{ k:=.a k,v:=V.dead }]).γ k'=if k' = .a k then S.γ k'+1 else if k'=k/\kp=false then S.γ k'+1 else S.γ k':=by
 have J':∀k:Key,k≠.a k:=by
  intro k;induction k with
  | a k ih=>intro e;simp only[Key.a.injEq] at e;exact ih e
  | _=>intro e;cases e
 simp only[St.ai,St.jX];by_cases h1:k' = .a k
 ·subst h1;simp[J' k]
 ·rw[aI h1];by_cases h2:k=k'
  ·subst h2;cases kp<;>simp[Ne.symm h1]
  ·simp[h2,Ne.symm h1,Ne.symm h2]
def Rel.ajo {S:St} (h:Rel nm N S a w L) {m j:Nat} {pl:Place} {B o i c sz:Nat} {x dJ z:D} {rows:List (List D)} {u:Value} (hk:pl.k.aT=true)
  (hE:(S.E pl.k).cells[pl.j]? = some (.d x)) (hn:ek x pl.p=some (.sl .own sz rows)) (hc:cellOf rows i c=some dJ) (hB:L B=some (.row pl o))
  (hz:aC nm w L S.γ (.h m) j (.d z) u) (RQ:Bq z dJ=true) :
  ∃L',Rel nm N (S.ai [{ k:=pl.k,v:=(S.E pl.k).setCell pl.j (.d (eo x (pl.p++[(i,c)]) z)),keep:=dJ.flat&&z.flat },{ k:=.a pl.k,v:=V.dead }]) a (w.setCell ⟨B,o+i * sz+c,none⟩ u) L'/\
   pg w (w.setCell ⟨B,o+i * sz+c,none⟩ u) L L' S.γ (S.ai [{ k:=pl.k,v:=(S.E pl.k).setCell pl.j (.d (eo x (pl.p++[(i,c)]) z)),keep:=dJ.flat&&z.flat },{ k:=.a pl.k,v:=V.dead }]).γ (λq=>¬ (q.k = .h m/\q.j=j))/\
   dc w (w.setCell ⟨B,o+i * sz+c,none⟩ u) L L'/\L' B=some (.row pl o)/\(∀B q o,q.k.aT=false->L' B=some (.row q o)->L B=some (.row q o)):=by
 have aD:∀{B2 l},L B2=some l->l≠.row pl o->(w.setCell ⟨B,o+i * sz+c,none⟩ u).heap[B2]? = w.heap[B2]?:=by
  intro B2 l hl s6;refine pH _ _ _ _ ?_;rintro rfl;rw[hB] at hl;simp only[au] at hl;exact s6 hl.symm
 have J8:∀{q:Place},q.k.aT=true->¬ (q.k = .h m/\q.j=j):=λhq h=>by rw[h.1] at hq;simp[Key.aT] at hq
 have As:¬ bM (pl.sub i c) pl:=bM.Tk;have h1:Rel nm N (S.wr { k:=.a pl.k,v:=V.dead }) a w L:=h.kill (.a pl.k) (λr e=>by cases e);have J':∀k:Key,k≠.a k:=by
  intro k;induction k with
  | a k ih=>intro e;simp only[Key.a.injEq] at e;exact ih e
  | _=>intro e;cases e
 have ZA:(S.wr { k:=.a pl.k,v:=V.dead }).E pl.k=S.E pl.k:=by
  rw[St.il];simp[Ne.symm (J' pl.k)]
 have main:∀L',(∀B,L' B=some .bg↔L B=some .bg)->(∀B r o,L' B=some (.box r o)↔L B=some (.box r o))->(∀B,L B=none->L' B=none)->(∀B l,L' B=some l->∃l0,L B=some l0)->mR L'->
   (∀B q o,¬ (q.k = .h m/\q.j=j)->¬ bM (pl.sub i c) q->L B=some (.row q o)->L' B=some (.row q o))->
   (∀B q o,q.k.aT=false->L' B=some (.row q o)->L B=some (.row q o))->
   (((dJ.flat&&z.flat)=true)->L'=L)->
   bt (w.setCell ⟨B,o+i * sz+c,none⟩ u) L' (pl.sub i c) z u->
   Rel nm N (S.ai [{ k:=pl.k,v:=(S.E pl.k).setCell pl.j (.d (eo x (pl.p++[(i,c)]) z)),keep:=dJ.flat&&z.flat },{ k:=.a pl.k,v:=V.dead }]) a (w.setCell ⟨B,o+i * sz+c,none⟩ u) L'/\
   pg w (w.setCell ⟨B,o+i * sz+c,none⟩ u) L L' S.γ (S.ai [{ k:=pl.k,v:=(S.E pl.k).setCell pl.j (.d (eo x (pl.p++[(i,c)]) z)),keep:=dJ.flat&&z.flat },{ k:=.a pl.k,v:=V.dead }]).γ (λq=>¬ (q.k = .h m/\q.j=j))/\
   dc w (w.setCell ⟨B,o+i * sz+c,none⟩ u) L L'/\L' B=some (.row pl o)/\(∀B q o,q.k.aT=false->L' B=some (.row q o)->L B=some (.row q o)):=by
  intro L' fU ia wc hdm oC CV vU ak6 hzd;have Rm:sx w (w.setCell ⟨B,o+i * sz+c,none⟩ u) L L':=λB2 hb=>⟨(fU B2).2 hb,aD hb (by simp)⟩
  have di:∀{B2 q o2},q.k.aT=true->((S.ai [{ k:=pl.k,v:=(S.E pl.k).setCell pl.j (.d (eo x (pl.p++[(i,c)]) z)),keep:=dJ.flat&&z.flat },{ k:=.a pl.k,v:=V.dead }]).γ q.k=S.γ q.k)->
    L B2=some (.row q o2)->L' B2=some (.row q o2):=by
   intro B2 q o2 hq hγ hL;cases hf:(dJ.flat&&z.flat) with
   | true=>rw[ak6 hf];exact hL
   | false=>
    rw[af5,hf] at hγ;refine CV B2 q o2 (J8 hq) (λhu=>?_) hL;have hqk:q.k=pl.k:=hu.key.1;rw[hqk] at hγ;simp[J' pl.k] at hγ
  have bF:Step w (w.setCell ⟨B,o+i * sz+c,none⟩ u) L L' S.γ (S.ai [{ k:=pl.k,v:=(S.E pl.k).setCell pl.j (.d (eo x (pl.p++[(i,c)]) z)),keep:=dJ.flat&&z.flat },{ k:=.a pl.k,v:=V.dead }]).γ:=by
   refine⟨Rm,λk=>St.xq S _ k,?_,?_,λB2 r o2 _ hb=>(ia B2 r o2).2 hb⟩
   ·intro B2 q o2 hq hγ hL;refine⟨di hq hγ hL,λiF e2 lu gG=>?_⟩;by_cases he:B2=B
    ·subst he;exact⟨_,xZ w B2 _ u gG,by simp⟩
    ·exact⟨iF,(pH _ _ _ _ he).trans gG,rfl⟩
   ·intro B2 q o2 hq _ Df hL;refine aD hL ?_;intro e;simp only[db.row.injEq] at e;rw[af5,e.1,aP rfl] at Df;omega
  have alw:∀B' q o',L B'=some (.row q o')->q=(⟨pl.k,pl.j,[]⟩:Place).app pl.p->B'=B:=by
   intro B' q o' hL he;rw[Place.E7] at he;subst he;exact h.ey B' B q o' o hL hB
  have q9:∀v,aC nm w L S.γ pl.k pl.j (.d x) v->aC nm (w.setCell ⟨B,o+i * sz+c,none⟩ u) L' (S.ai [{ k:=pl.k,v:=(S.E pl.k).setCell pl.j (.d (eo x (pl.p++[(i,c)]) z)),keep:=dJ.flat&&z.flat },{ k:=.a pl.k,v:=V.dead }]).γ pl.k pl.j (.d (eo x (pl.p++[(i,c)]) z)) v:=by
   intro v hv;cases hv with
   | d hv=>
    refine .d (bt.set hc pl.p hv hn (by rw[Place.E7];exact hB) alw Rm ?_ (by rw[Place.E7];exact hzd) RQ);intro B' q o' hu As hL;rw[Place.E7] at As;refine CV B' q o' (J8 ?_) As hL;rw[hu.key.1];exact hk
  have FX:sv (w.setCell ⟨B,o+i * sz+c,none⟩ u) L':=by
   intro B2 l hl;obtain⟨l0,h0⟩:=hdm B2 l hl;have:=h.fx B2 l0 h0;simpa using this
  have ql:EV L':=λB1 B2 r o1 o2 g1 g2=>h.fy B1 B2 r o1 o2 ((ia _ _ _).1 g1) ((ia _ _ _).1 g2)
  have ly:∀B2 q o2,q.k≠pl.k\/q.j≠pl.j->q.k.aT=true->L B2=some (.row q o2)->L' B2=some (.row q o2)/\(w.setCell ⟨B,o+i * sz+c,none⟩ u).heap[B2]? = w.heap[B2]?:=by
   intro B2 q o2 hq Gt hL;refine⟨CV B2 q o2 (J8 Gt) (λhu=>?_) hL,aD hL (λe=>?_)⟩
   ·have:=hu.key;simp only[Place.sub] at this;rcases hq with hq | hq
    ·exact hq this.1
    ·exact hq this.2
   ·simp only[db.row.injEq] at e;rcases hq with hq | hq<;>exact hq (by rw[e.1])
  refine⟨?_,⟨bF,?_⟩,?_,CV B pl o (J8 hk) As hB,vU⟩
  ·
   generalize vS:St.ai S [{ k:=pl.k,v:=(S.E pl.k).setCell pl.j (.d (eo x (pl.p++[(i,c)]) z)),keep:=dJ.flat&&z.flat },{ k:=.a pl.k,v:=V.dead }]=S' at bF q9 ⊢;have sT:∀k,k≠.a pl.k->S'.E k=if pl.k=k then(S.E pl.k).setCell pl.j (.d (eo x (pl.p++[(i,c)]) z)) else S.E k:=by
    intro k kP;rw[<-vS];simp only[St.ai,St.il,Ne.symm kP,eX]
   have Ac:∀r,S'.E (.r r)=S.E (.r r):=λr=>by rw[sT _ (by simp),aI (λe=>by rw[e] at hk;simp[Key.aT] at hk)]
   have uD:∀B2 r o2,L B2=some (.box r o2)->L' B2=some (.box r o2)/\(w.setCell ⟨B,o+i * sz+c,none⟩ u).heap[B2]? = w.heap[B2]?:=λB2 r o2 hL=>⟨(ia _ _ _).2 hL,aD hL (by simp)⟩
   clear di vS;generalize w.setCell ⟨B,o+i * sz+c,none⟩ u=w' at *;refine⟨h.size,h.defers,?_,?_,?_,?_,?_,FX,oC,ql⟩
   ·intro i2;rw[sT _ (by simp)];by_cases he:pl.k = .s i2
    ·rw[aP he,he];rw[he] at hE q9;exact(h.slot i2).setCell hE bF (λB2 q o2 hq Gs hL=>ly B2 q o2 (.inr Gs) (by rw[hq];rfl) hL) q9
    ·rw[aI he];refine(h.slot i2).step bF ?_;intro B2 q o2 hq hL;rw[<-hq,Place.mf];exact ly B2 q o2 (.inl (by rw[hq];exactλe=>he e.symm)) (by rw[hq];rfl) hL
   ·intro r cc y hy jK;rw[sT _ (by simp)] at hy;by_cases he:pl.k = .b r cc
    ·rw[aP he,he] at hy;rw[he] at hE q9;obtain⟨c0,xT⟩:=h.kx r cc;rw[xT] at hE hy;simp only[V.cells] at hE;have J9:pl.j=0:=by
      cases hj:pl.j with
      | zero=>rfl
      | succ n=>rw[hj] at hE;simp at hE
     rw[J9] at hE hy q9;simp only[qQ,au] at hE;subst hE;simp only[V.setCell,dj,V.one.injEq] at hy;subst hy;have hold:=h.cell r cc _ xT (by simp);have tr:(∃B o cur e fz v,L B=some (.box r o)/\w.heap[B]? = some (.cells cur e fz)/\jA cur.size fz/\cur[o+cc]? = some v/\aC nm w L S.γ (.b r cc) 0 (.d x) v/\lK (.d x) B o cc e cur.size v)->
       (∃ B2 o2 iF e2 lu v, L' B2 = some (.box r o2) /\ w'.heap[B2]? = some (.cells iF e2 lu) /\ jA iF.size lu /\ iF[o2 + cc]? = some v /\
         aC nm w' L' S'.γ (.b r cc) 0 (.d (eo x (pl.p ++ [(i, c)]) z)) v /\ lK (.d (eo x (pl.p ++ [(i, c)]) z)) B2 o2 cc e2 iF.size v) := λ⟨B2, o2, iF, e2, lu, v, h1, h2, h3, h4, h5, _⟩ =>
      ⟨B2,o2,iF,e2,lu,v,(uD B2 r o2 h1).1,(uD B2 r o2 h1).2.trans h2,h3,h4,q9 v h5,trivial⟩
     cases r with
     | g i'=>obtain⟨v,hv⟩:=hold;exact⟨v,q9 v hv⟩
     | e i'=>exact tr hold
     | l i'=>exact tr hold
    ·rw[aI he] at hy;refine(h.cell r cc y hy jK).step bF ?_ ?_
     ·intro B2 q o2 hq hL;exact ly B2 q o2 (.inl (by rw[hq];exactλe=>he e.symm)) (by rw[hq];rfl) hL
     ·intro B2 o2 hL;exact⟨(uD B2 r o2 hL).1,λiF e2 lu gG=>⟨iF,(uD B2 r o2 hL).2.trans gG,rfl,rfl⟩⟩
   ·intro r cc;rw[sT _ (by simp)];by_cases he:pl.k = .b r cc
    ·rw[aP he,he];obtain⟨c0,xT⟩:=h.kx r cc;rw[xT];by_cases hj:pl.j=0
     ·exact⟨.d (eo x (pl.p++[(i,c)]) z),by rw[hj];simp[V.setCell]⟩
     ·exact⟨c0,by simp[V.setCell,hj]⟩
    ·rw[aI he];exact h.kx r cc
   ·intro r cc cZ;rw[Ac] at cZ;have hb:=h.bound r cc cZ;rw[sT _ (by simp)];by_cases he:pl.k = .b r cc
    ·rw[he,hb] at hE;exfalso;cases hj:pl.j with
     | zero=>rw[hj] at hE;simp[V.cells] at hE
     | succ n=>rw[hj] at hE;simp[V.cells] at hE
    ·rw[aI he];exact hb
   ·intro r hg hr;rw[Ac] at hr ⊢;obtain⟨B2,o2,iF,e2,lu,h1,h2,h3,h4⟩:=h.room r hg hr;exact⟨B2,o2,iF,e2,lu,(uD _ _ _ h1).1,(uD _ _ _ h1).2.trans h2,h3,h4⟩
  ·intro B2 q o2 hq hK hL;refine⟨CV B2 q o2 hK (λhu=>?_) hL,aD hL (λe=>?_)⟩
   ·rw[hu.key.1] at hq;simp only[Place.sub] at hq;rw[hk] at hq;cases hq
   ·simp only[db.row.injEq] at e;rw[e.1,hk] at hq;cases hq
  ·refine⟨rfl,rfl,rfl,by simp,Rm,?_,λB i o hB=>(ia _ _ _).2 hB⟩;intro B2 _ pI;refine⟨wc B2 pI,pH _ _ _ _ ?_⟩;rintro rfl;rw[hB] at pI;cases pI
 cases hf:(dJ.flat&&z.flat) with
 | true=>
  have hzf:z.flat=true:=by simp only[cI] at hf;exact hf.2
  have:=main L (λ_=>Iff.rfl) (λ_ _ _=>Iff.rfl) (λ_ h=>h) (λB l h=>⟨l,h⟩) h.ey (λ_ _ _ _ _ h=>h) (λ_ _ _ _ h=>h) (λ_=>rfl)
   (.plain ((hz.Zf hzf).mono (λB2 hb=>⟨hb,aD hb (by simp)⟩)))
  rw[hf] at this;exact⟨L,this⟩
 | false=>
  have:=main (mV (pl.sub i c) m j L) (λ_=>Yz) (λ_ _ _=>aji) (λ_ h=>ajn h) (λB l h=>ajj h) (ajk h.ey) (λ_ _ _ h1 h2 h=>ajl h h1 h2)
   (λB q o hq hL => by
     rcases P6 hL with⟨q0, _, _, rfl⟩ | ⟨h1, _⟩
     · simp only[Place.app, Place.sub] at hq; rw[hk] at hq; cases hq
     · exact h1)
   (λh1 => by rw[hf] at h1; cases h1) (by
     cases hz with
     | d hz =>
       have := bt.move (w' := w.setCell ⟨B, o + i * sz + c, none⟩ u) (L' := mV (pl.sub i c) m j L) (λq => (pl.sub i c).app q.p) (λq => q.k = .h m /\ q.j = j) (λ_ _ _ h => h)
         (λq a b _ => Place.E8 _ _ _ _) (λB2 hb => ⟨Yz.2 hb, aD hb (by simp)⟩) (λB2 q o2 hq hL => ⟨ajm hL hq, aD hL (λe => by
           simp only[db.row.injEq] at e; rw[e.1] at hq; rw[hq.1] at hk; simp[Key.aT] at hk)⟩) hz ⟨rfl, rfl⟩
       simpa[Place.app] using this)
  rw[hf] at this;exact⟨_,this⟩
end
end
section
section
variable {nm:FuncId->Option Nat} {N:Nat} {S0:St} {w0:World} {L0:aw} {ws:List Wr} {a:Act} {w:World} {L:aw}
def Tb:∀(p:List (Nat×Nat)) (x:D) (q:List (Nat×Nat)),ek x (p++q)=(ek x p).bind (ek · q)
 | [],x,q=>by simp[ek]
 | (i,c)::p,x,q=>by
  simp;cases x with
  | sl t sz rows=>
   cases t with
   | own=>
    rw[DT,DT];cases h:cellOf rows i c with
    | none=>simp
    | some y=>simp[Tb p y q]
   | im b=>simp[ek]
  | _=>simp[ek]
def apE {x dJ:D} {p:List (Nat×Nat)} {i c:Nat} (h:ek x (p++[(i,c)])=some dJ):∃sz rows,ek x p=some (.sl .own sz rows)/\cellOf rows i c=some dJ:=by
 rw[Tb] at h;cases hx:ek x p with
 | none=>simp[hx] at h
 | some y=>
  rw[hx] at h;obtain⟨sz,rows,z,rfl,h1,h2⟩:=AW h;simp only[ek,au] at h2;subst h2;exact⟨sz,rows,rfl,h1⟩
def Tc {z dJ:D} {i c:Nat}:∀(p:List (Nat×Nat)) {x:D} {sz:Nat} {rows:List (List D)},ek x p=some (.sl .own sz rows)->cellOf rows i c=some dJ->
  ek (eo x (p++[(i,c)]) z) p=some (.sl .own sz (rows.set i ((rows.getD i []).set c z)))
 | [],x,sz,rows,h,hc=>by
  simp only[ek,au] at h;subst h;simp;rfl
 | (i',c')::p,x,sz,rows,h,hc=>by
  obtain⟨pX,qJ,y,rfl,h1,h2⟩:=AW h;simp;rw[Nw h1,DT,Fg h1,aP ⟨rfl,rfl⟩];exact Tc p h2 hc
def Rel.YA {m:Nat} {pl:Place} {B o i sz:Nat} (hk:pl.k.aT=true):∀(zs:List D) (us:List Value) (j0 c:Nat) (x:D) {ws e8:List Wr} {w:World} {L:aw} (h:Rel nm N (S0.ai ws) a w L)
  (hE:((S0.ai ws).E pl.k).cells[pl.j]? = some (.d x)) (hn:∃rows,ek x pl.p=some (.sl .own sz rows)) (hB:L B=some (.row pl o)) (hl:zs.length=us.length)
  (hw:xL ((S0.ai ws).E pl.k) pl i c zs x ws=some e8)
  (hz:∀j z u,zs[j]? = some z->us[j]? = some u->aC nm w L (S0.ai ws).γ (.h m) (j0+j) (.d z) u),
  ∃L',Rel nm N (S0.ai e8) a (w.setCells B (o+i * sz+c) us) L'/\dc w (w.setCells B (o+i * sz+c) us) L L'/\(∀B q o,q.k.aT=false->L' B=some (.row q o)->L B=some (.row q o))
 | [],us,j0,c,x,ws,e8,w,L,h,hE,hn,hB,hl,hw,hz=>by
  have:=by simpa using hl.symm
  subst this;simp only[xL,au] at hw;subst hw;exact⟨L,h,dc.refl _ _,λ_ _ _ _ h=>h⟩
 | z::zs,[],j0,c,x,ws,e8,w,L,h,hE,hn,hB,hl,hw,hz=>by simp at hl
 | z::zs,u::us,j0,c,x,ws,e8,w,L,h,hE,hn,hB,hl,hw,hz=>by
  simp only[xL] at hw;cases ho:ek x (pl.p++[(i,c)]) with
  | none=>simp[ho] at hw
  | some dJ=>
   rw[ho] at hw;simp only at hw;split at hw;rotate_left
   ·cases hw
   rename_i RQ;obtain⟨NI,rows,h1,h2⟩:=apE ho;obtain⟨va,Ar⟩:=hn;obtain⟨rfl,rfl⟩:NI=sz/\rows=va:=by rw[h1] at Ar;simpa using Ar
   obtain⟨L1,g1,g2,g3,g4,g5⟩:=h.ajo hk hE h1 h2 hB (hz 0 z u rfl rfl) RQ;have Ab:(S0.ai ({ k:=pl.k,v:=((S0.ai ws).E pl.k).setCell pl.j (.d (eo x (pl.p++[(i,c)]) z)),keep:=dJ.flat&&z.flat } :: { k:=.a pl.k,v:=V.dead } :: ws)).E pl.k =
     ((S0.ai ws).E pl.k).setCell pl.j (.d (eo x (pl.p++[(i,c)]) z)):=by
    simp only[St.ai,St.il,dj]
   obtain⟨L2,k1,k2,k3⟩:=Rel.YA hk zs us (j0+1) (c+1) (eo x (pl.p++[(i,c)]) z) (ws:={ k:=pl.k,v:=((S0.ai ws).E pl.k).setCell pl.j (.d (eo x (pl.p++[(i,c)]) z)),keep:=dJ.flat&&z.flat } :: { k:=.a pl.k,v:=V.dead } :: ws) g1
    (by rw[Ab]; exact V.agY hE) ⟨_, Tc pl.p h1 h2⟩ g4 (by simpa using hl) (by rw[Ab]; exact hw) (by
      intro j z' u' R8 kb
      have := (hz (j + 1) z' u' (by simpa using R8) (by simpa using kb)).keep g2 (λp => by simp)
      rwa[show j0 + 1 + j = j0 + (j + 1) by omega])
   exact⟨L2,k1,g3.trans k2,λB q o hq hL=>g5 B q o hq (k3 B q o hq hL)⟩
def Rel.JT {S:St} (h:Rel nm N S a w L) {w':World} {L':aw}
  (ej:∀B l,L B=some l->(∀q o,l = .row q o->q.k.aT=true)->w'.heap[B]? = w.heap[B]?/\L' B=some l)
  (hd:sv w' L') (oC:mR L') (ql:EV L'):Rel nm N S a w' L':=by
 have bF:Step w w' L L' S.γ S.γ:=by
  refine⟨λB hB=>⟨(ej B _ hB (by simp)).2,(ej B _ hB (by simp)).1⟩,λ_=>cp _,?_,?_,λB r o _ hB=>(ej B _ hB (by simp)).2⟩
  ·intro B q o hq _ hB;have:=ej B _ hB (λq' o' e=>by simp at e;rw[<-e.1];exact hq);exact⟨this.2,λcur e fz hc=>⟨cur,this.1.trans hc,rfl⟩⟩
  ·intro B q o hq _ _ hB;exact(ej B _ hB (λq' o' e=>by simp at e;rw[<-e.1];exact hq)).1
 refine⟨h.size,h.defers,?_,?_,h.kx,h.bound,λr hg hr=>let ⟨B,o,cur,e,fz,h1,h2,h3,h4⟩:=h.room r hg hr;⟨B,o,cur,e,fz,(ej B _ h1 (by simp)).2,(ej B _ h1 (by simp)).1.trans h2,h3,h4⟩,hd,oC,ql⟩
 ·intro i;refine(h.slot i).step bF ?_;intro B q o hq hB;have:=ej B _ hB (λq' o' e=>by simp at e;rw[<-e.1,hq];rfl);exact⟨by rw[<-hq,Place.mf];exact this.2,this.1⟩
 ·intro r c x hx gp;refine(h.cell r c x hx gp).step bF (λB q o hq hB=>?_) (λB o hB=>⟨(ej B _ hB (by simp)).2,λcur e fz hc=>⟨cur,(ej B _ hB (by simp)).1.trans hc,rfl,rfl⟩⟩);have:=ej B _ hB (λq' o' e=>by simp at e;rw[<-e.1,hq];rfl);exact⟨this.2,this.1⟩
def bt.beyond {w':World} {pl:Place} {B o n:Nat} {cur ei:Array Value} {e:TypeId} {fz:Nat×Nat} (hL:L B=some (.row pl o)) (hB:w.heap[B]? = some (.cells cur e fz))
  (aD:∀B' l,L B'=some l->B'≠B->w'.heap[B']? = w.heap[B']?) (dH:w'.heap[B]? = some (.cells ei e fz)) (aY:ei.size=cur.size) (C9:∀i,i < o+n->ei[i]? = cur[i]?)
  {t:Place} {x:D} {v:Value} (h:bt w L t x v):(∀p sz rows,t.app p=pl->ek x p=some (.sl .own sz rows)->rows.length * sz<=n)->bt w' L t x v:=by
 have fU:sx w w' L L:=λB2 hb=>⟨hb,aD B2 _ hb (λe=>by rw[e,hL] at hb;cases hb)⟩
 induction h with
 | plain h=>exactλ_=>.plain (h.mono fU)
 | jg=>exactλ_=>.jg
 | @own t sz rows B1 o1 cap aty e1 fz1 val aar pF QD c6 hlen eC dU hv hr dW ih=>
  intro Kg;have rq:∀i c x,cellOf rows i c=some x->bt w' L (t.sub i c) x (val i c):=by
   intro i c x hx;refine ih i c x hx (λp da va ht hn=>Kg ((i,c)::p) da va ?_ ?_)
   ·rw[Place.qS];exact ht
   ·rw[DT,hx];exact hn
  by_cases he:B1=B
  ·subst he;rw[hL] at pF;obtain⟨rfl,rfl⟩:=pF;have hn:=Kg [] sz rows (Place.BQ _) rfl;rw[hB] at QD;obtain⟨rfl,rfl,rfl⟩:=QD;refine .own val aar hL dH (by rw[aY];omega) hlen eC (by omega) ?_ rq dW;intro i c x hx;obtain⟨hi,hc⟩:=og hlen hx;rw[C9]
   ·exact hv i c x hx
   ·have:(i+1) * sz<=rows.length * sz:=p8 _ (by omega);rw[lJ] at this;omega
  ·exact .own val aar pF ((aD _ _ pF he).trans QD) c6 hlen eC dU hv rq dW
def Rel.aqr {S:St} (h:Rel nm N S a w L) {w':World} {pl:Place} {B o n sz:Nat} {cur ei:Array Value} {e:TypeId} {fz:Nat×Nat} {x:D} {rows:List (List D)} (hk:pl.k.aT=true)
  (hE:(S.E pl.k).cells[pl.j]? = some (.d x)) (hn:ek x pl.p=some (.sl .own sz rows)) (hlen:rows.length * sz<=n)
  (hL:L B=some (.row pl o)) (hB:w.heap[B]? = some (.cells cur e fz))
  (aD:∀B' l,L B'=some l->B'≠B->w'.heap[B']? = w.heap[B']?) (dH:w'.heap[B]? = some (.cells ei e fz)) (aY:ei.size=cur.size) (C9:∀i,i < o+n->ei[i]? = cur[i]?) :
  Rel nm N (S.wr { k:=.a pl.k,v:=V.dead }) a w' L:=by
 have bF:Step w w' L L S.γ (S.wr { k:=.a pl.k,v:=V.dead }).γ:=by
  refine⟨λB2 hb=>⟨hb,aD B2 _ hb (λe=>by rw[e,hL] at hb;cases hb)⟩,S.qa _,?_,?_,λ_ _ _ _ hb=>hb⟩
  ·intro B2 q o2 _ _ hb;refine⟨hb,λiF e2 lu gG=>?_⟩;by_cases he:B2=B
   ·subst he;rw[hB] at gG;obtain⟨rfl,rfl,rfl⟩:=gG;exact⟨ei,dH,aY⟩
   ·exact⟨iF,(aD B2 _ hb he).trans gG,rfl⟩
  ·intro B2 q o2 _ _ Df hb;refine aD B2 _ hb (λhe=>?_);subst he;rw[hL] at hb;simp at hb;rw[<-hb.1,St.jX] at Df;simp at Df
 have sT:∀k,k≠.a pl.k->(S.wr { k:=.a pl.k,v:=V.dead }).E k=S.E k:=λk kP=>by rw[St.il];simp[Ne.symm kP]
 have ly:∀B2 q o2,q.k≠pl.k\/q.j≠pl.j->L B2=some (.row q o2)->L B2=some (.row q o2)/\w'.heap[B2]? = w.heap[B2]?:=by
  intro B2 q o2 hq hb;refine⟨hb,aD B2 _ hb (λhe=>?_)⟩;subst he;rw[hL] at hb;simp at hb;rcases hq with hq | hq<;>exact hq (by rw[hb.1])
 have q9:∀v,aC nm w L S.γ pl.k pl.j (.d x) v->aC nm w' L (S.wr { k:=.a pl.k,v:=V.dead }).γ pl.k pl.j (.d x) v:=by
  intro v hv;cases hv with
  | d hv=>
   refine .d (bt.beyond hL hB aD dH aY C9 hv ?_);intro p da va hp Ar;have:=by
    have:=fW Place.p hp;simpa[Place.app] using this
   subst this;rw[hn] at Ar;simp at Ar;rw[<-Ar.1,<-Ar.2];omega
 have FX:sv w' L:=by
  intro B2 l hb;by_cases he:B2=B
  ·subst he;exact(lH.1 dH).1
  ·exact xY (h.fx B2 l hb) (aD B2 _ hb he)
 have uD:∀B2 r o2,L B2=some (.box r o2)->w'.heap[B2]? = w.heap[B2]?:=λB2 r o2 hb=>aD B2 _ hb (λhe=>by rw[he,hL] at hb;cases hb)
 generalize vS:S.wr { k:=.a pl.k,v:=V.dead } = S' at *;refine⟨h.size,h.defers,?_,?_,?_,?_,?_,FX,h.ey,h.fy⟩
 ·intro i2;rw[sT _ (by simp)];by_cases he:pl.k = .s i2
  ·have:=(h.slot i2).setCell (j:=pl.j) (c:=.d x) (c':=.d x) (by rw[<-he];exact hE) bF
    (λB2 q o2 hq Gs hb=>ly B2 q o2 (.inr Gs) hb) (by rw[<-he];omega)
   rwa[V.arq (by rw[<-he];exact hE)] at this
  ·refine(h.slot i2).step bF ?_;intro B2 q o2 hq hb;rw[<-hq,Place.mf];exact ly B2 q o2 (.inl (by rw[hq];exactλe=>he e.symm)) hb
 ·intro r cc y hy jK;rw[sT _ (by simp)] at hy;by_cases he:pl.k = .b r cc
  ·rw[he] at hE q9;rw[hy] at hE;simp only[V.cells] at hE;have J9:pl.j=0:=by
    cases hj:pl.j with
    | zero=>rfl
    | succ n=>rw[hj] at hE;simp at hE
   rw[J9] at hE q9;simp at hE;subst hE;have hold:=h.cell r cc _ hy jK;have tr:(∃B o cur e fz v,L B=some (.box r o)/\w.heap[B]? = some (.cells cur e fz)/\jA cur.size fz/\cur[o+cc]? = some v/\aC nm w L S.γ (.b r cc) 0 (.d x) v/\lK (.d x) B o cc e cur.size v)->
     (∃B o cur e fz v,L B=some (.box r o)/\w'.heap[B]? = some (.cells cur e fz)/\jA cur.size fz/\cur[o+cc]? = some v/\aC nm w' L S'.γ (.b r cc) 0 (.d x) v/\lK (.d x) B o cc e cur.size v):=
    λ⟨B2,o2,iF,e2,lu,v,h1,h2,h3,h4,h5,_⟩=>⟨B2,o2,iF,e2,lu,v,h1,(uD B2 r o2 h1).trans h2,h3,h4,q9 v h5,trivial⟩
   cases r with
   | g i'=>obtain⟨v,hv⟩:=hold;exact⟨v,q9 v hv⟩
   | e i'=>exact tr hold
   | l i'=>exact tr hold
  ·refine(h.cell r cc y hy jK).step bF ?_ ?_
   ·intro B2 q o2 hq hb;exact ly B2 q o2 (.inl (by rw[hq];exactλe=>he e.symm)) hb
   ·intro B2 o2 hb;exact⟨hb,λiF e2 lu gG=>⟨iF,(uD B2 r o2 hb).trans gG,rfl,rfl⟩⟩
 ·intro r cc;rw[sT _ (by simp)];exact h.kx r cc
 ·intro r cc cZ;rw[sT _ (by simp)] at cZ ⊢;exact h.bound r cc cZ
 ·intro r hg hr;rw[sT _ (by simp)] at hr ⊢;obtain⟨B2,o2,iF,e2,lu,h1,h2,h3,h4⟩:=h.room r hg hr;exact⟨B2,o2,iF,e2,lu,h1,(uD B2 r o2 h1).trans h2,h3,h4⟩
def Rel.WN {S:St} (h:Rel nm N S a w L) {m j:Nat} (hm:∀B o,L B≠some (.row ⟨.h m,j,[]⟩ o)) (cur:Array Value) (e:TypeId) :
  Rel nm N S a (w.alloc (.cells cur e)) (L.put w.heap.size (.row ⟨.h m,j,[]⟩ 0)):=by
 have C3:=h.fx.new;have aD:∀B l,L B=some l->B≠w.heap.size:=λB l hB e=>by rw[e,C3] at hB;cases hB
 refine h.grow (λB l hB=>mY w _ (aD B l hB)) (λB l hB=>by rw[aw.gw (aD B l hB)];exact hB) ?_ ?_ ?_
 ·intro B l hB;by_cases he:B=w.heap.size
  ·subst he;exact(lH.1 (ox w _)).1
  ·rw[aw.gw he] at hB;exact xY (h.fx B l hB) (mY w _ he)
 ·intro B B' pl o o' h1 h2;by_cases he:B=w.heap.size
  ·by_cases dh:B'=w.heap.size
   ·omega
   ·subst he;rw[aw.kZ] at h1;rw[aw.gw dh] at h2;simp at h1;rw[<-h1.1] at h2;exact absurd h2 (hm B' o')
  ·rw[aw.gw he] at h1;by_cases dh:B'=w.heap.size
   ·subst dh;rw[aw.kZ] at h2;simp at h2;rw[<-h2.1] at h1;exact absurd h1 (hm B o)
   ·rw[aw.gw dh] at h2;exact h.ey B B' pl o o' h1 h2
 ·intro B B' r o o' h1 h2;by_cases he:B=w.heap.size
  ·subst he;rw[aw.kZ] at h1;simp at h1
  ·by_cases dh:B'=w.heap.size
   ·subst dh;rw[aw.kZ] at h2;simp at h2
   ·rw[aw.gw he] at h1;rw[aw.gw dh] at h2;exact h.fy B B' r o o' h1 h2
def pe (w:World) (L:aw) (H:Place) (rows:List (List D)) (val:Nat->Nat->Value):Prop:=∀i c x,cellOf rows i c=some x->bt w L (H.sub i c) x (val i c)
def ph (rows:List (List D)) (sz o:Nat) (cur:Array Value) (val:Nat->Nat->Value):Prop:=∀i c x,cellOf rows i c=some x->cur[o+i * sz+c]? = some (val i c)
def aqA {cur:Array Value} {e:TypeId} {H:Place} {rows:List (List D)} {val:Nat->Nat->Value} (hd:sv w L) (hc:pe w L H rows val) :
  pe (w.alloc (.cells cur e)) (L.put w.heap.size (.row H 0)) H rows val:=by
 intro i c x hx;have aD:∀B l,L B=some l->B≠w.heap.size:=λB l hB e=>by rw[e,hd.new] at hB;cases hB
 exact bt.move id (λ_=>True) (λ_ _ _ _=>trivial) (λ_ _ _ _=>rfl) (λB hB=>⟨by rw[aw.gw (aD B _ hB)];exact hB,mY w _ (aD B _ hB)⟩)
  (λB q o _ hB=>⟨by rw[aw.gw (aD B _ hB)];exact hB,mY w _ (aD B _ hB)⟩) (hc i c x hx) trivial
def Rel.newRow {S:St} (h:Rel nm N S a w L) {m j:Nat} (hm:∀B o,L B≠some (.row ⟨.h m,j,[]⟩ o)) {cur:Array Value} {e:TypeId} {rows:List (List D)} {val:Nat->Nat->Value} {sz cap:Nat} (aY:0 < sz)
  (hlen:∀r∈rows,r.length=sz) (eC:rows.length<=cap) (dU:cap * sz<=cur.size) (hv:ph rows sz 0 cur val) (hc:pe w L ⟨.h m,j,[]⟩ rows val) (dW:uj rows e) :
  Rel nm N S a (w.alloc (.cells cur e)) (L.put w.heap.size (.row ⟨.h m,j,[]⟩ 0))/\
   aC nm (w.alloc (.cells cur e)) (L.put w.heap.size (.row ⟨.h m,j,[]⟩ 0)) S.γ (.h m) j (.d (.sl .own sz rows)) (.slice (some ⟨w.heap.size,0,none⟩) rows.length cap):=
 ⟨h.WN hm cur e,.d (.own val aY (aw.kZ _ _ _) (ox w _) (λj _=>by simp) hlen eC (by omega) (by simpa[ph] using hv) (aqA h.fx hc) dW)⟩
end
end
section
def Us {α R:Type} (S:St) (q:Q α):∀(rs:List Key) (K:α->List Key->Option R),runK S q rs K=match q.run S with | some a=>K a ((q.reads S).reverse++rs) | none=>none:=by
 induction q with
 | ret a=>intro rs K;rfl
 | get k f ih=>
  intro rs K;simp only[runK,Q.run,Q.reads,ih,List.reverse_cons,fI,sr,zr]
 | oh h nat f ih=>
  intro rs K;simp only[runK,Q.run,Q.reads];rw[nat,nat α,nat (List Key)];cases h _ some with
  | none=>rfl
  | some b=>simp_all
 | no=>intro rs K;rfl
def Q.wY {α β:Type} (S:St) (x:Q α) (f:α->Q β):(x >>= f).reads S=x.reads S++(match x.run S with | some a=>(f a).reads S | none=>[]):=by
 show (x.bind f).reads S=_;induction x with
 | ret a=>rfl
 | get k g ih=>simp only[Q.bind,Q.reads,Q.run];simp_all
 | oh h nat g ih=>
  simp only[Q.bind,Q.reads,Q.run];rw[nat,nat _ (λb=>some ((g b).reads S)),nat α];cases h _ some with
  | none=>rfl
  | some b=>simp_all
 | no=>rfl
def Q.le {α:Type} (p q:Q α):Prop:=∀S x,p.run S=some x->q.run S=some x/\p.reads S=q.reads S
def Q.le.refl {α:Type} (p:Q α):p.le p:=λ_ _ h=>⟨h,rfl⟩
def Q.le.bind {α β:Type} {p q:Q α} {f g:α->Q β} (h:p.le q) (hf:∀a,(f a).le (g a)):(p >>= f).le (q >>= g):=by
 intro S x hx;rw[Q.run_bind] at hx;cases hp:p.run S with
 | none=>simp_all
 | some a=>
  simp only[hp,Option.bind] at hx;obtain⟨h1,h2⟩:=h S a hp;obtain⟨h3,h4⟩:=hf a S x hx;refine⟨by simp_all,?_⟩;rw[Q.wY,Q.wY,hp,h1,h2];simp_all
def Q.le.eU {α β:Type} {p:Q α} {f g:α->Q β} (hf:∀a,(f a).le (g a)):(p >>= f).le (p >>= g):=(Q.le.refl p).bind hf
def Q.le.trans {α:Type} {p q r:Q α} (h:p.le q) (h':q.le r):p.le r:=λS x hx=>
 ⟨(h' S x (h S x hx).1).1,(h S x hx).2.trans (h' S x (h S x hx).1).2⟩
def Q.le.no {α:Type} (q:Q α):(Q.no:Q α).le q:=by intro S x h;cases h
def Q.le.HB {α:Type} {p q:Q α} (h:∀S x,p.run S=some x->q.run S=some x) (hp:∀S,p.reads S=[]) (hq:∀S,q.reads S=[]):p.le q:=
 λS x hx=>⟨h S x hx,by rw[hp,hq]⟩
def ahb:∀(s:DS) (x:D) (v:s.T),mU s x=some v->Cj s v some=some x:=by
 intro s x v h;cases s<;>cases x<;>simp only[mU] at h<;>try cases h
 ·split at h<;>cases h;rename_i hk;subst hk;rfl
 ·rfl
 ·rfl
 ·rename_i t da rows;cases t<;>simp only at h
  ·split at h<;>cases h;rename_i hk;subst hk;rfl
  ·cases h
 ·rename_i t da rows;cases t<;>simp only at h
  ·cases h
  ·split at h<;>cases h;rename_i hk;subst hk;rfl
 ·rename_i t da rows;split at h<;>cases h;rename_i hk;subst hk;cases t<;>rfl
 ·split at h<;>cases h;rename_i hk;subst hk;rfl
 all_goals rfl
def PQ:∀(ds:List DS) (l:List D) (v:aq ds),dI ds l=some v->pB ds v some=some l
 | [],[],v,_=>rfl
 | [],x::l,v,h=>by cases h
 | s::t,[],v,h=>by cases h
 | s::t,x::l,v,h=>by
  simp only[dI] at h;cases h1:mU s x with
  | none=>simp_all
  | some a=>
   cases h2:dI t l with
   | none=>simp_all
   | some b=>
    simp only[h1,h2,au] at h;subst h;simp only[pB];rw[PN,ahb s x a h1];simp;rw[xN,PQ t l b h2];rfl
def Yc:∀{cs:List C} {l:List D},mT cs=some l->cs=l.map .d
 | [],l,h=>by cases h;rfl
 | c::t,l,h=>by
  cases c<;>simp only[mT] at h<;>try cases h
  cases h1:mT t with
  | none=>simp_all
  | some l1=>simp[h1] at h;subst h;simp[Yc h1]
def aha:∀(s:DS) (x:D) (v:s.T),mU s x=some v->C.d x=cC s v:=by
 intro s x v h;cases s with
 | int k=>
  cases x with
  | int k' n=>
   simp only[mU] at h;split at h
   ·rename_i he;simp at h;subst h;subst he;rfl
   ·cases h
  | _=>cases h
 | bool=>
  cases x with
  | bool b=>simp only[mU,au] at h;subst h;rfl
  | _=>cases h
 | str=>
  cases x with
  | str b=>simp only[mU,au] at h;subst h;rfl
  | _=>cases h
 | im sz=>
  cases x with
  | sl t da rows=>
   cases t with
   | im b=>
    simp only[mU] at h;split at h
    ·rename_i he;simp at h;subst h;subst he;rfl
    ·cases h
   | own=>cases h
  | _=>cases h
 | own sz=>
  cases x with
  | sl t da rows=>
   cases t with
   | im b=>cases h
   | own=>
    simp only[mU] at h;split at h
    ·rename_i he;simp at h;subst h;subst he;rfl
    ·cases h
  | _=>cases h
 | sl sz=>
  cases x with
  | sl t da rows=>
   simp only[mU] at h;split at h
   ·rename_i he;simp at h;subst h;subst he;rfl
   ·cases h
  | _=>cases h
 | tg sz=>
  cases x with
  | sl t da rows=>
   simp only[mU] at h;split at h
   ·rename_i he;simp at h;subst h;subst he;rfl
   ·cases h
  | _=>cases h
 | bz t=>cases x<;>cases h
 | lr f l=>cases x<;>cases h
 | ptr i c=>cases x<;>cases h
 | c7=>cases x<;>cases h
 | eY=>cases x<;>cases h
 | dead=>
  cases x with
  | dead=>rfl
  | _=>cases h
 | any=>simp only[mU,au] at h;subst h;rfl
def Ps:∀{l:List (Nat×Nat)} {cap:List C},xF l cap=true->cap=xG l
 | [],[],_=>rfl
 | [],_::_,h=>by cases h
 | _::_,[],h=>by cases h
 | x::l,c::t,h=>by
  unfold xF at h;split at h
  ·simp_all
  ·rename_i i g c' t' h1 h2;obtain⟨rfl,rfl⟩:=h1;obtain⟨rfl,rfl⟩:=h2;simp only[cI,zp] at h;obtain⟨h1,h2,h3,h4,h5⟩:=h;rw[Ps h5];simp only[xG,Jg];simp_all
  ·rename_i n t' h1 h2;obtain⟨rfl,rfl⟩:=h1;obtain⟨rfl,rfl⟩:=h2;simp only[cI] at h;obtain⟨h1,h2,h3⟩:=h;rw[Ps h3];simp only[xG,Jg];simp_all
  ·cases h
def Pt:∀(l:List (Nat×Nat)),xF l (xG l)=true
 | []=>rfl
 | x::l=>by
  unfold xG Jg;cases h:Nat.beq x.1 FB with
  | true=>simp[xF,h,Pt l]
  | false=>simp[xF,h,Pt l]
def Ye (s:DS) (x:C) (v:s.T) (h:vM s x=some v):x=cC s v:=by
 unfold vM at h;split at h
 ·exact aha s _ v h
 ·split at h
  ·split at h
   ·rename_i h1 h2;rw[<-sk h1,Ps h2];rfl
   ·cases h
  ·cases h
 ·split at h
  ·split at h
   ·rename_i h1 h2 h3;rw[<-sk h1,sk h2,<-sk h3];rfl
   ·cases h
  ·cases h
 ·split at h
  ·rfl
  ·cases h
 ·split at h
  ·rfl
  ·cases h
 ·split at h
  ·split at h
   ·rename_i he;subst he;rfl
   ·cases h
  ·cases h
 ·cases h
def agJ (s:DS) (v:s.T):vM s (cC s v)=some v:=by
 cases s<;>simp[cC,vM,mU,Pt]
def YE (s:DS) (v:s.T):xM s v some=some (cC s v):=by
 cases s<;>try rfl
 case sl sz=>obtain⟨t,rows⟩:=v;cases t<;>rfl
def Yf:∀(ds:List DS) (l:List C) (v:aq ds),zN ds l=some v->l=bx ds v
 | [],[],_,_=>rfl
 | [],_::_,_,h=>by cases h
 | _::_,[],_,h=>by cases h
 | s::t,x::l,v,h=>by
  simp only[zN] at h;split at h
  ·rename_i a b h1 h2;simp at h;subst h;simp only[bx];rw[<-Ye s x a h1,<-Yf t l b h2]
  ·cases h
def YF:∀(ds:List DS) (v:aq ds),ux ds v some=some (bx ds v)
 | [],_=>rfl
 | s::t,v=>by
  simp only[ux];rw[Ch,YE];simp;rw[Ci,YF t v.2];rfl
def Yg (s:VS) (x:V) (v:s.T) (h:qh s x=some v):sK s v some=some x:=by
 cases s with
 | one s=>
  cases x with
  | one c=>
   simp only[sK];rw[Ch,YE,Ye s c v h];rfl
  | agg cs=>cases h
  | ao vs=>cases h
 | fk=>
  cases x with
  | one c=>cases c<;>simp only[qh] at h<;>cases h<;>rfl
  | agg cs=>cases h
  | ao vs=>cases h
 | agg ds=>
  cases x with
  | agg cs=>
   simp only[qh] at h;cases h1:mT cs with
   | none=>simp_all
   | some l=>
    simp only[h1] at h;simp only[sK];rw[xN,PQ ds l v h,Yc h1];rfl
  | one c=>cases h
  | ao vs=>cases h
def Yh:∀(ss:List VS) (l:List V) (v:xu ss),xK ss l=some v->uy ss v some=some l
 | [],[],v,_=>rfl
 | [],x::l,v,h=>by cases h
 | s::t,[],v,h=>by cases h
 | s::t,x::l,v,h=>by
  simp only[xK] at h;cases h1:qh s x with
  | none=>simp_all
  | some a=>
   cases h2:xK t l with
   | none=>simp_all
   | some b=>
    simp only[h1,h2,au] at h;subst h;simp only[uy];rw[Ck,Yg s x a h1];simp;rw[Cm,Yh t l b h2];rfl
def PJ:∀(ss:List (List DS)) (l:List (List C)) (v:zv ss),qY ss l=some v->pA ss v some=some l
 | [],[],v,_=>rfl
 | [],x::l,v,h=>by cases h
 | s::t,[],v,h=>by cases h
 | s::t,x::l,v,h=>by
  simp only[qY] at h;cases h1:zN s x with
  | none=>simp_all
  | some a=>
   cases h2:qY t l with
   | none=>simp_all
   | some b=>
    simp only[h1,h2,au] at h;subst h;simp only[pA];rw[Ci,YF];simp;rw[vP,PJ t l b h2,<-Yf s x a h1];rfl
def ahc (s:RS) (x:V×List (List C)) (v:s.T) (h:jH s x=some v):sJ s v some=some x:=by
 obtain⟨x,out⟩:=x;cases s with
 | val s bs=>
  simp only[jH] at h;cases h1:qh s x with
  | none=>simp_all
  | some a=>
   cases h2:qY bs out with
   | none=>simp_all
   | some b=>
    simp only[h1,h2,au] at h;subst h;simp only[sJ];rw[Ck,Yg s x a h1];simp;rw[vP,PJ bs out b h2];rfl
 | ao ss bs=>
  cases x with
  | ao xs=>
   simp only[jH] at h;cases h1:xK ss xs with
   | none=>simp_all
   | some a=>
    cases h2:qY bs out with
    | none=>simp_all
    | some b=>
     simp only[h1,h2,au] at h;subst h;simp only[sJ];rw[Cm,Yh ss xs a h1];simp;rw[vP,PJ bs out b h2];rfl
  | one c=>cases h
  | agg cs=>cases h
def Np (an:iQ) (dst:Nat) (l:List D):(Ek an dst l).le (pure l):=by
 unfold Ek;cases an.row dst with
 | none=>exact Q.le.refl _
 | some ds=>
  have Gc:∀(R:Type) (k:List D->Option R) x,(bR ds l λv=>pB ds v k)=some x->k l=some x:=by
   intro R k x h;unfold bR at h;cases h1:dI ds l with
   | none=>simp_all
   | some v=>
    simp only[h1] at h;rw[xN,PQ ds l v h1] at h;exact h
  intro S x h;have hr:=h;have h1:=Gc _ _ _ hr;refine⟨h1,?_⟩;show ((bR ds l λv=>pB ds v λb=>some ((Q.ret b:Q (List D)).reads S)).getD [])=[]
  cases hh:(bR ds l λv=>pB ds v λb=>some ((Q.ret b:Q (List D)).reads S)) with
  | none=>rfl
  | some y=>have:=Gc _ _ _ hh;rw[<-this];rfl
def ady (s:RS) (o:Option (V×List (List C))):(Q.res s o).le (Q.du o):=by
 have Gc:∀(R:Type) (k:V×List (List C)->Option R) x,(aA s o λv=>sJ s v k)=some x->∃y,o=some y/\k y=some x:=by
  intro R k x h;unfold aA at h;cases o with
  | none=>simp at h
  | some y=>
   cases h1:jH s y with
   | none=>simp_all
   | some v=>
    simp only[h1] at h;rw[YG,ahc s y v h1] at h;simp_all
 intro S x h;have hr:=h;obtain⟨y,ho,h1⟩:=Gc _ _ _ hr;subst ho;simp at h1;subst h1;refine⟨by simp,?_⟩;show ((aA s (some y) λv=>sJ s v λb=>some ((Q.ret b:Q (V×List (List C))).reads S)).getD [])=[]
 cases hh:(aA s (some y) λv=>sJ s v λb=>some ((Q.ret b:Q (V×List (List C))).reads S)) with
 | none=>rfl
 | some z=>obtain⟨_,_,h4⟩:=Gc _ _ _ hh;rw[<-h4];rfl
def aqT (an:iQ) (f:Nat) (bs:List (List C)) (o:Option (V×List (List C))):(Ug an f bs o).le (Q.du o):=by
 unfold Ug;split
 ·exact Q.le.no _
 ·split
  ·split
   ·exact ady _ _
   ·split
    ·exact ady _ _
    ·exact Q.le.refl _
  ·exact Q.le.refl _
def agK (an:iQ) (Cl:bX) (dst f:Nat) (vs:List V) (ws:List Wr) (mv:Bool):(XO an Cl dst f vs ws mv).le (B7 Cl dst f vs ws mv):=by
 refine .eU λ_=>.eU λx=>?_
 refine .eU λeR=>.eU λdL=>(aqT _ f _ _).bind λx=>?_
 exact .refl _
@[simp] def Q.adu {α:Type} (S:St) (a:α):(pure a:Q α).reads S=[]:=rfl
@[simp] def Q.Ue (S:St) (b:Bool):(Q.guard b).reads S=[]:=by cases b<;>rfl
@[simp] def Q.aqQ (S:St) (b:Bool):(Q.ask b).reads S=[]:=by cases b<;>rfl
@[simp] def Q.aqR {α:Type} (S:St) (o:Option α):(Q.du o).reads S=[]:=by cases o<;>rfl
def Q.HT {α:Type} (S:St) (b:Bool) (x:α):(Q.guard b >>= λ_=>(pure x:Q α)).reads S=[]:=by
 cases b<;>rfl
def agp (tc:TC) (op:BinOp) (x y:V):(OW tc op x y).le (Q.du (sG tc op x y)):=by
 unfold OW;split
 ·rename_i k a k' b;split
  ·refine .HB (λS x h=>?_) (λS=>Q.HT ..) (λS=>by simp);by_cases hg:(decide (k=k') && !decide (b=0))=true
   ·simp at hg;obtain⟨rfl,hb⟩:=hg;simpa[hb,sG,Dg] using h
   simp_all
  ·refine .HB (λS x h=>?_) (λS=>Q.HT ..) (λS=>by simp);by_cases hg:(decide (k=k') && !decide (b=0))=true
   ·simp at hg;obtain⟨rfl,hb⟩:=hg;simpa[hb,sG,Dg] using h
   simp_all
  ·refine .HB (λS x h=>?_) (λS=>Q.HT ..) (λS=>by simp);by_cases hb:b < 0
   ·simp_all
   ·simpa[hb,sG,Er] using h
  ·refine .HB (λS x h=>?_) (λS=>Q.HT ..) (λS=>by simp);by_cases hb:b < 0
   ·simp_all
   ·simpa[hb,sG,Er] using h
  ·exact .refl _
 ·rename_i a b;split
  ·refine .HB (λS x h=>?_) (λS=>Q.HT ..) (λS=>by simp);by_cases hb:a.length+b.length<=9223372036854775807
   ·simpa[hb,sG,Ii] using h
   simp_all
  ·exact .refl _
 ·exact .refl _
def X7:∀(p q:List (Nat×Nat)),Cd p q=true->GD p q=true->p=q
 | [],[],_,_=>rfl
 | [],_::_,h,_=>by simp[Cd] at h
 | _::_,[],h,_=>by simp[Cd] at h
 | (i,c)::p,(i',c')::q,h,h'=>by
  simp only[Cd,cI] at h;simp only[GD,cI] at h';rw[sk h.1,sk h'.2,X7 p q h.2 h'.1]
def aec (x:D) (p:List (Nat×Nat)) (y:D):Ia x p y=eo x p y:=by
 cases p with
 | nil=>rfl
 | cons q p=>
  cases x with
  | sl t sz rows=>cases t<;>rfl
  | _=>rfl
def arU (ws:List Wr) (pl:Place) (g sz off len:Nat):US ws pl g sz off len=st ws (.view pl g sz off len):=by
 simp only[US,st,aec]
def arR (ws:List Wr) (P:Place) (c:C):(UO ws P c).le (oV ws P c):=by
 unfold UO;split
 ·rw[arU];exact .refl _
 ·rename_i pl g a sz rows;split
  ·rename_i hb;simp only[cI,kv] at hb;intro S x hx;rw[Q.run_bind,Q.pW] at hx;by_cases hi:GD pl.p P.p=true
   ·rw[aP hi] at hx;have hp:pl=P:=by
     obtain⟨k,j,p⟩:=pl;obtain⟨k',j',p'⟩:=P;obtain⟨h1,h2,h3⟩:=hb;simp only at h1 h2 h3 hi;rw[h1,sk h2,X7 p p' h3 hi]
    refine⟨by simp only[oV,hp,dj];simp_all,?_⟩;rw[Q.wY,Q.Ue,Q.pW,aP hi];simp only[oV,hp,dj,zr]
   simp_all
  ·exact .refl _
 ·exact .refl _
def Zc (P:Place) (i:Nat):∀(l:List C) (ws:List Wr) (c:Nat),(Qp P i ws c l).le (Fy P i ws c l)
 | [],_,_=>.refl _
 | y::t,ws,c=>by
  refine(arR ws (P.sub i c) y).bind λr=>?_
  obtain⟨y',e8⟩:=r;dsimp only;split
  ·exact(Zc P i t e8 (c+1)).bind λ_=>.refl _
  ·exact .no _
def I0 (sz bytes:Nat) (v:V) (ws:List Wr) (src:List (List D)):(BO sz bytes v ws src).le (xv sz bytes v ws src):=by
 unfold BO;split
 ·refine Q.le.eU λ_=>?_
  intro S x h;simp only[Q.run_bind,Q.Ut,Option.bind] at h;exact⟨h,by cases src<;>rfl⟩
 ·exact .refl _
def Q.DM {α:Type} (S:St) (p q:Q α):Prop:=∀x,p.run S=some x->q.run S=some x/\p.reads S=q.reads S
def Q.DM.eU {α β:Type} {S:St} {p:Q α} {f g:α->Q β} (hf:∀a,p.run S=some a->Q.DM S (f a) (g a)):Q.DM S (p >>= f) (p >>= g):=by
 intro x hx;rw[Q.run_bind] at hx;cases hp:p.run S with
 | none=>simp_all
 | some a=>
  simp only[hp,Option.bind] at hx;obtain⟨h3,h4⟩:=hf a hp x hx;refine⟨by simp_all,?_⟩;rw[Q.wY,Q.wY,hp];simp_all
def YB {pl:Place} {i:Nat}:∀(zs oQ:List D) (c:Nat) (v:V) (x:D) (ws:List Wr) (sz:Nat) (rows:List (List D)) (row:List D),ek x pl.p=some (.sl .own sz rows)->rows[i]? = some row->
  (∀(j:Nat) o,oQ[j]? = some o->row[c+j]? = some o)->oQ.length=zs.length->Im zs oQ=true->xL v pl i c zs x ws=some (Fo pl i v c zs oQ x ws)
 | [],oQ,c,v,x,ws,sz,rows,row,_,_,_,_,_=>by simp[xL,Fo]
 | z::t,[],c,v,x,ws,sz,rows,row,_,_,_,h,_=>by cases h
 | z::t,o::os,c,v,x,ws,sz,rows,row,hn,hr,ho,hl,h8=>by
  simp only[Im,cI] at h8;have hc:=by simpa using ho 0 o rfl
  have gn:=kM.2 ⟨row,hr,hc⟩;have Kg:ek x (pl.p++[(i,c)])=some o:=by
   rw[Tb,hn];simp;rw[DT,gn];cases o<;>rfl
  simp only[xL,Kg,Fo,aec,h8.1,dj];rw[Bool.and_comm o.flat z.flat];have hi:=(cd.1 hr).1;have hg:rows.getD i []=row:=by
   simp_all
  refine YB t os (c+1) _ _ _ sz (rows.set i (row.set c z)) (row.set c z) ?_ ?_ ?_ (by simp_all) h8.2
  ·rw[Tc pl.p hn gn,hg]
  ·simp[hi]
  ·intro j o' hj;have:=ho (j+1) o' hj;rw[qR (by omega)];rw[show c+1+j=c+(j+1) by omega];omega
def arS (ws:List Wr) (P:Place) (c:C):(UR ws P c).le (oW ws P c):=by
 unfold UR;split
 ·rename_i pl g sz off len;split
  ·rename_i hb;simp only[cI] at hb;obtain⟨FO,pG⟩:=hb;refine .eU λy=>?_
   obtain⟨e,x,rows⟩:=y;intro S r h;simp only[Q.run_bind,Q.pW] at h;by_cases hg:(off==0&&len==rows.length && !rows.isEmpty)=true
   ·simp only[hg,dj,Option.bind,Q.run_pure,au] at h;subst h;have ht:(!(pl.k==P.k)&&pl.k.Mt&&(off==0&&len==rows.length && !rows.isEmpty))=true:=by
     simp_all
    constructor
    ·simp_all
    ·simp only[Q.wY,Q.Ue,Q.aqQ,Q.pW,Q.Ut,hg,FO,pG,Bool.and_self,dj,Q.adu]
   simp_all
  ·exact .refl _
 ·exact .refl _
def ac9 (mv:Bool) (r:aJ):∀(l:List C) (ws:List Wr) (c:Nat),(TY mv r ws c l).le (putCells mv r ws c l)
 | [],ws,c=>.refl _
 | y::t,ws,c=>by
  refine Q.le.bind ?_ λx=>?_
  ·unfold ac8 M0;split
   ·exact arS _ _ _
   ·exact .refl _
  ·obtain⟨y',e8⟩:=x;refine(ac9 mv r t e8 (c+1)).bind λx=>?_
   exact .refl _
def ajx (an:iQ) (Cl:bX) (dst:Nat) (op:oc):(P' an Cl dst op).le (ch Cl dst op):=by
 cases op with
 | pick c a b=>
  refine .eU λv=>?_
  split
  ·rename_i t;cases t with
   | true=>
    intro S x h;exact⟨h,rfl⟩
   | false=>
    intro S x h;exact⟨h,rfl⟩
  ·exact .no _
 | load n agg x=>
  refine .eU λv=>?_
  split
  ·exact .refl _
  ·rename_i cells;refine .eU λ_=>?_
   have:(do let r' <-lU agg ((cells.take n).map .d);pure (r',[]):Q (V×List Wr))=(do let l <-(pure (cells.take n):Q (List D));let r' <-lU agg (l.map .d);pure (r',[])):=rfl;exact(Np an dst _).bind λ_=>.refl _
  ·rename_i pl g sz i c;refine .eU λy=>?_
   refine .eU λrow=>.eU λ_=>?_
   have:(do let r' <-lU agg (rE pl g i c ((row.drop c).take n));pure (r',[]):Q (V×List Wr))=(do let l <-(pure ((row.drop c).take n):Q (List D));let r' <-lU agg (rE pl g i c l);pure (r',[])):=rfl;exact(Np an dst _).bind λ_=>.refl _
  ·exact .refl _
  ·exact .no _
 | store mv n x v=>
  refine .eU λp=>.eU λvv=>.eU λ_=>?_
  split
  ·refine(ac9 mv _ _ _ _).bind λx=>?_
   exact .refl _
  ·rename_i pl g sz i c;refine Q.le.trans ((Zc pl i vv.1.cells vv.2 c).bind λ_=>.refl _) ?_;intro S;refine Q.DM.eU λzz hz=>Q.DM.eU λer he=>Q.DM.eU λrow dr=>?_
   obtain⟨zs,eS⟩:=zz;obtain⟨e,x0,rows⟩:=er;obtain⟨_,_,_,hn⟩:=u4 he;simp at dr;intro y hy;rw[Q.run_bind,Q.pW] at hy;by_cases hg:(decide (c+n<=row.length)&&zs.length==n)=true
   ·rw[aP hg] at hy;simp at hg;simp only[Option.bind,Q.run_bind] at hy;cases ho:(Ek an (Nz x) ((row.drop c).take n)).run S with
    | none=>simp_all
    | some dJ=>
     have hold:=(Np an (Nz x) _ S dJ ho).1;simp at hold;simp only[ho,Q.pW] at hy;by_cases lP:(dJ.length==n&&Im zs dJ)=true
     ·simp only[lP,dj,Q.run_pure,au] at hy;have F6:=lP;simp at F6;have hlen:dJ.length=zs.length:=by omega
      have vX := YB (pl := pl) (i := i) zs dJ c e.v x0 eS sz rows row hn dr (by
        intro j o hj
        rw[<- hold] at hj
        rw[Ob] at hj
        simp_all) hlen F6.2
      constructor
      ·simp_all
      ·simp only[Q.wY,Q.Ue,Q.pW,hg.1,hg.2,decide_true,BE,Bool.and_self,dj,(Np an (Nz x) _ S dJ ho).2,ho,lP,Q.adu,Q.aqR,Q.Eo,vX,oa]
     simp_all
   simp_all
  ·exact .no _
 | bin tc op x y=>
  exact .eU λa=>.eU λb=>(agp tc op a b).bind λ_=>.refl _
 | app sz bytes x y=>
  refine .eU λa=>?_
  refine .eU λa=>?_
  obtain⟨a,ws⟩:=a;refine .eU λb=>?_
  exact I0 _ _ b.1 b.2 a
 | BP sz bytes x y=>
  refine .eU λa=>?_
  split
  ·refine .eU λa=>.eU λ_=>.eU λb=>?_
   exact I0 _ _ b.1 b.2 _
  ·rename_i s7;try split
   all_goals first
    | exact absurd rfl (s7 _ _ _ _ _)
    | (refine .eU λa => ?_
       refine .eU λa => ?_
       obtain⟨a, ws⟩ := a
       refine .eU λb => ?_
       exact I0 _ _ b.1 b.2 a)
 | BN x y=>
  refine .eU λa=>?_
  split
  ·refine .eU λa=>?_
   exact I0 _ _ a.1 a.2 _
  ·exact .no _
 | call f args=>
  refine .eU λv=>?_
  split
  ·refine .eU λ_=>.eU λa=>?_
   exact agK _ _ _ _ _ a.2 _
  ·exact .no _
 | _=>exact .refl _
def St.kZ:∀(S:St) (k:Key) (e:mO),S.get k=e->e≠⟨.one .dead,0⟩->S.put k e=S
 | [],k,e,h,hn=>absurd h.symm hn
 | (k',e')::t,k,e,h,hn=>by
  simp only[St.get] at h;simp only[St.put];by_cases hk:k'=k
  ·simp_all
  ·simp only[hk,eX] at h ⊢;rw[St.kZ t k e h hn]
def atl {R:Type} {S:St} {g:Option (Nat×Bool)} {K:Bool->St->List Key->Option R} {r:R} (h:Vt S g K=some r) :
  ∃want,(CG g).run S=some want/\K want S ((CG g).reads S).reverse=some r:=by
 unfold Vt at h;cases g with
 | none=>exact⟨true,rfl,h⟩
 | some x=>
  obtain⟨t,b⟩:=x;simp only at h;cases he:S.get (.s t) with
  | mk v c=>
   rw[he] at h;have jr:(CG (some (t,b))).run S=(match v with | .one (.d (.bool x))=>(pure (x==b):Q Bool) | .ao []=>pure false | _=>Q.no).run S:=by
    show (Q.run S (match (S.get (.s t)).v with | .one (.d (.bool x))=>(pure (x==b):Q Bool) | .ao []=>pure false | _=>Q.no))=_;rw[he]
   have hrd:∀y,(match v with | .one (.d (.bool x))=>(pure (x==b):Q Bool) | .ao []=>pure false | _=>Q.no)=pure y->(CG (some (t,b))).reads S=[.s t]:=by
    intro y hy;show (.s t::Q.reads S (match (S.get (.s t)).v with | .one (.d (.bool x))=>(pure (x==b):Q Bool) | .ao []=>pure false | _=>Q.no))=_;simp_all
   split at h
   ·rename_i x c' heq;cases heq;have h2:K (x==b) (S.put (.s t) ⟨.one (.d (.bool x)),c⟩) [.s t]=some r:=by
     cases x<;>exact h
    rw[St.kZ S _ _ he (by simp)] at h2;refine⟨x==b,by simp_all,?_⟩;rw[hrd _ rfl];exact h2
   ·simp_all
   ·cases h
def Qd {R:Type} {r:aJ} {x:R}:∀{n c:Nat} {S:St} {K:St->Option R},Co r n c S K=some x->K S=some x
 | 0,c,S,K,h=>h
 | n+1,c,S,K,h=>by
  simp only[Co] at h;split at h
  ·rename_i t sz rows g he;have h1:Co r n (c+1) (S.put (.b r c) ⟨.one (.d (.sl t sz rows)),g⟩) K=some x:=by
    cases t<;>exact h
   have h2:=Qd h1;rw[St.kZ S _ _ he (by simp)] at h2;exact h2
  ·exact Qd h
def Qg {R:Type} {n:Nat} {v:V} {S:St} {K:St->Option R} {x:R} (h:Fu n v S K=some x):K S=some x:=by
 unfold Fu at h;split at h
 ·exact Qd h
 omega
def ake {R:Type} {op:oc} {S:St} {K:St->Option R} {x:R} (h:Qe op S K=some x):K S=some x:=by
 unfold Qe at h;split at h
 ·exact Qg h
 ·exact Qg h
 omega
def Qf {R:Type} {x:R}:∀{l:List RV} {S:St} {K:St->Option R},Ft l S K=some x->K S=some x
 | [],S,K,h=>h
 | .cell t n a::l,S,K,h=>Qf (Qg (K:=λS=>Ft l S K) h)
 | .slot t::l,S,K,h=>Qf (l:=l) h
def YP {R:Type} {an:iQ} {Cl:bX} {o:gA} {S:St} {K:St->List Key->List Wr->Option R} {r:R} (h:Qa an Cl o S K=some r) :
  ∃ws,(gF Cl o).run S=some ws/\K S ((gF Cl o).reads S).reverse ws=some r:=by
 obtain⟨want,h1,h2⟩:=atl h;unfold gF;rw[Q.run_bind,Q.wY,h1];simp only[Option.bind];cases want with
 | true=>
  have h2:=ake h2;rw[Us] at h2;cases hop:(P' an Cl (o.dst.getD 0) o.op).run S with
  | none=>simp_all
  | some x=>
   simp only[hop] at h2;obtain⟨h3,h4⟩:=ajx an Cl (o.dst.getD 0) o.op S x hop;rw[h4] at h2;simp only[dj];rw[Q.run_bind,Q.wY,h3];obtain⟨v,ws⟩:=x;cases hd:o.dst with
   | none=>
    simp_all
   | some d=>
    simp_all
 | false=>
  cases hd:o.dst with
  | none=>
   simp_all
  | some d=>
   simp_all
section
variable {R:Type} {r:R}
def Y8:∀{f i g:Nat} {K:Nat->Option R},JH f i g K=some r->K g=some r
 | 0,_,_,_,h=>by cases h
 | f+1,i,g,K,h=>by
  simp only[JH] at h;split at h
  ·simp_all
  ·exact Y8 h
def sM {g:Nat} {K:Nat->Option R} (h:fN g K=some r):K g=some r:=Y8 h
def Qj {x:aJ} {K:aJ->Option R} (h:JI x K=some r):K x=some r:=by cases x<;>exact h
def Qi:∀{x:Key} {K:Key->Option R},JG x K=some r->K x=some r
 | .s _,_,h=>h
 | .b _ _,_,h=>sM (Qj h)
 | .r _,_,h=>Qj h
 | .h _,_,h=>h
 | .a k,K,h=>Qi (x:=k) (K:=λk=>K (.a k)) h
def Y6 {x:D} {K:D->Option R} (h:fD x K=some r):K x=some r:=by
 cases x<;>exact h
def Qh {x:C} {K:C->Option R} (h:fC x K=some r):K x=some r:=by
 cases x with
 | d x=>exact Y6 (K:=λx=>K (.d x)) h
 | ptr a g c=>exact sM (K:=λc=>K (.ptr a g c)) (sM (K:=λg=>fN c λc=>K (.ptr a g c)) (Qj (K:=λa=>fN g λg=>fN c λc=>K (.ptr a g c)) h))
 | eB pl g sz i c=>exact sM (K:=λc=>K (.eB pl g sz i c)) (sM (K:=λg=>fN c λc=>K (.eB pl g sz i c)) h)
 | view pl g sz off len=>exact sM (K:=λg=>K (.view pl g sz off len)) h
 | cY pl g a sz rows=>exact sM (K:=λa=>K (.cY pl g a sz rows)) (sM (K:=λg=>fN a λa=>K (.cY pl g a sz rows)) h)
 | mp x=>exact Y6 (K:=λx=>K (.mp x)) h
 | gq i g=>exact sM (K:=λg=>K (.gq i g)) h
 | _=>exact h
def JF:∀{l:List C} {K:List C->Option R},Cq l K=some r->K l=some r
 | [],_,h=>h
 | c::t,K,h=>JF (K:=λt=>K (c::t)) (Qh (K:=λc=>Cq t λt=>K (c::t)) h)
def JK:∀{l:List V} {K:List V->Option R},zV l K=some r->K l=some r
 | [],_,h=>h
 | .one c::t,K,h=>JK (K:=λt=>K (.one c::t)) (Qh (K:=λc=>zV t λt=>K (.one c::t)) h)
 | .agg cs::t,K,h=>JK (K:=λt=>K (.agg cs::t)) (JF (K:=λcs=>zV t λt=>K (.agg cs::t)) h)
 | .ao vs::t,K,h=>JK (K:=λt=>K (.ao vs::t)) h
def Ql {x:V} {K:V->Option R} (h:fV x K=some r):K x=some r:=by
 cases x with
 | one c=>exact Qh (K:=λc=>K (.one c)) h
 | agg cs=>exact JF (K:=λcs=>K (.agg cs)) h
 | ao vs=>exact JK (K:=λvs=>K (.ao vs)) h
def akf {x:Bool} {K:Bool->Option R} (h:Y7 x K=some r):K x=some r:=by cases x<;>exact h
def Qm:∀{l:List Wr} {K:List Wr->Option R},JL l K=some r->K l=some r
 | [],_,h=>h
 | ⟨k,v,b⟩::t,K,h=>by
  have h:=akf (Ql (Qi h));exact Qm (K:=λt=>K (⟨k,v,b⟩::t)) h
def Y5:∀{l:List (List C)} {K:List (List C)->Option R},JE l K=some r->K l=some r
 | [],_,h=>h
 | c::t,K,h=>Y5 (K:=λt=>K (c::t)) (JF (K:=λc=>JE t λt=>K (c::t)) h)
def Fw:∀{l:St} {K:St->Option R},Cr l K=some r->K l=some r
 | [],_,h=>h
 | (k,⟨v,g⟩)::t,K,h=>by
  have h:=sM (Ql (Qi h));exact Fw (K:=λt=>K ((k,⟨v,g⟩)::t)) h
def Qk:∀{l:St} {K:St->Option R},JJ l K=some r->K l=some r
 | [],_,h=>h
 | (k,⟨v,g⟩)::t,K,h=>by
  have h:=sM h;exact Qk (K:=λt=>K ((k,⟨v,g⟩)::t)) h
end
def Qb {R:Type} {an:iQ} {Cl:bX}:∀{ops:List gA} {S:St} {K:St->Option R} {r:R},JA an Cl ops S K=some r->
  ∃S',oj Cl ops S=some S'/\K S'=some r
 | [],S,K,r,h=>⟨S,rfl,h⟩
 | o::t,S,K,r,h=>by
  obtain⟨ws,h1,h2⟩:=YP h;obtain⟨S',h3,h4⟩:=Qb (Qk (Qm h2));exact⟨S',by simp only[oj,h1,Option.bind];exact h3,h4⟩
def YR {R:Type} {an:iQ} {Cl:bX}:∀{ops:List gA} {S:St} {fs:List l9} {K:St->List l9->Option R} {r:R},JB an Cl ops S fs K=some r->
  ∃S' JS,jd Cl ops S=some (S',JS)/\K S' (fs.reverse++JS)=some r
 | [],S,fs,K,r,h=>⟨S,[],rfl,by simpa[JB] using h⟩
 | o::t,S,fs,K,r,h=>by
  obtain⟨ws,h1,h2⟩:=YP h;obtain⟨S',JS,h3,h4⟩:=YR (Qk (Qm h2));refine⟨S',_,by simp only[jd,h1,Option.bind,h3,Option.map];rfl,?_⟩;simp_all
def ahe {R:Type} {an:iQ} {Cl:bX} {ops:List gA} {draw:Option (List (Nat×Nat))} {S:St} {K:St->Option R} {r:R} (h:PY an Cl ops draw S K=some r) :
  ∃S',qi Cl none false ops draw S=some S'/\K S'=some r:=by
 unfold PY at h;unfold qi;split at h
 ·obtain⟨S',h1,h2⟩:=Qb h;simp_all
 ·obtain⟨S',h1,h2⟩:=Qb h;simp_all
 ·rename_i ps aD;obtain⟨S',JS,h1,h2⟩:=YR h;simp at h2;split at h2
  ·simp_all
  ·cases h2
def YV {Cl:bX} {keep:Option (List Nat)} {gc:Bool} {ops:List gA} {draw:Option (List (Nat×Nat))} {S:St} :
  qi Cl keep gc ops draw S=(S.mF keep gc).bind (qi Cl none false ops draw):=by
 unfold qi St.mF;simp only[Option.bind_assoc];cases keep with
 | none=>simp_all
 | some l=>
  simp_all
def E4 {Cl:bX} {n:Nat} {keep:Option (List Nat)} {gc:Bool}:∀{c:jE},c.CS=true->∀(S:St),
  dq Cl n (lp keep gc (eP c)) S=(S.mF keep gc).bind (dq Cl n (eP c))
 | .iY k g ops draw,h,S=>by
  cases k with
  | none=>
   cases g with
   | false=>
    show (qi Cl keep gc ops draw S).map _=_;rw[YV];cases S.mF keep gc<;>rfl
   | true=>cases h
  | some=>cases h
 | .seq a b,h,S=>by
  simp only[eP,lp,dq];rw[E4 (c:=a) h S];cases S.mF keep gc<;>rfl
 | .block id b,h,S=>by
  simp only[eP,lp,dq];rw[E4 (c:=b) h S];cases S.mF keep gc<;>rfl
 | .join id k g a b,h,S=>by
  simp only[eP,lp,dq];rw[E4 (c:=a) h S];cases S.mF keep gc<;>rfl
 | .skip,h,_=>by cases h
 | .cond ..,h,_=>by cases h
 | .loop ..,h,_=>by cases h
 | .exit _,h,_=>by cases h
 | .ret,h,_=>by cases h
def ag5 {R:Type} {S:St} {c:X} {K:Bool->St->Option R} {r:R} (h:PE S c K=some r):∃b,zK S c=some b/\K b S=some r:=by
 unfold PE at h;split at h
 ·rename_i i;split at h
  ·rename_i b g he;have h1:K b (S.put (.s i) ⟨.one (.d (.bool b)),g⟩)=some r:=by cases b<;>exact h
   rw[St.kZ S _ _ he (by simp)] at h1;refine⟨b,?_,h1⟩;unfold zK;simp only[rd,Q.run_bind,Q.w9,Option.bind,he,Q.run_pure];rfl
  ·cases h
 ·rw[Us] at h;unfold zK;cases hr:(rd c).run S with
  | none=>simp_all
  | some v=>
   simp only[hr] at h;split at h
   ·rename_i b;refine⟨b,rfl,?_⟩;cases b<;>exact h
   ·cases h
def aaC {R:Type} {id:Nat} {f:St->kK R->Option R} {g:St->Option (uh×St)} {keep:Option (List Nat)} {gc:Bool} {K:kK R} {r:R}
  (hf:∀S K',f S K'=some r->∃e S',g S=some (e,S')/\K' e S'=some r) :
  ∀(m:Nat) (S S1:St),S.mF keep gc=some S1->GJ id f keep gc m S1 K=some r->∃e S',iter (λS=>(S.mF keep gc).bind g) m S=some (e,S')/\K e S'=some r
 | 0,_,_,_,h=>by cases h
 | m+1,S,S1,hp,h=>by
  obtain⟨e,S',h1,h2⟩:=hf _ _ h;simp only[iter,hp,Option.bind,h1];cases e with
  | norm=>
   simp only[Tg] at h2;cases Kl:S'.mF keep gc with
   | none=>simp_all
   | some S2=>
    simp only[Kl] at h2;exact aaC hf m S' S2 Kl (Fw h2)
  | exit i=>exact⟨_,_,rfl,h2⟩
  | ret=>exact⟨_,_,rfl,h2⟩
def ae6:∀(ds:List DS) (v:aq ds),U9 ds (bx ds v)=some v
 | [],_=>rfl
 | s::t,v=>by
  have h:=ae6 t v.2;unfold U9 at h ⊢;simp only[bx,zN,agJ,h]
def alU {R:Type} {id:Nat} {f:St->kK R->Option R} {m:Nat} {S:St} {K:kK R} {r:R} (h:Sn id f m S K=some r):f S K=some r:=by
 cases m with
 | zero=>cases h
 | succ m=>exact h
def vR {R:Type} {an:iQ} {Cl:bX} {n:Nat}:∀{c:jE} {S:St} {K:kK R} {r:R},lq an Cl n c S K=some r->
  ∃e S',dq Cl n (eP c) S=some (e,S')/\K e S'=some r
 | .skip,S,K,r,h=>⟨_,_,rfl,h⟩
 | .exit id,S,K,r,h=>⟨_,_,rfl,h⟩
 | .ret,S,K,r,h=>⟨_,_,rfl,h⟩
 | .iY keep gc ops draw,S,K,r,h=>by
  simp only[lq] at h;cases hp:S.mF keep gc with
  | none=>simp_all
  | some S1=>
   simp only[hp] at h;obtain⟨S',h1,h2⟩:=ahe (Fw h);refine⟨_,S',?_,h2⟩;simp only[eP,dq,YV (keep:=keep) (gc:=gc),hp,Option.bind,h1];rfl
 | .seq a b,S,K,r,h=>by
  simp only[lq] at h;obtain⟨e,S1,h1,h2⟩:=vR h;cases e with
  | norm=>
   obtain⟨e2,S2,h3,h4⟩:=vR h2;exact⟨e2,S2,by simp only[eP,dq,h1,Option.bind];exact h3,h4⟩
  | exit i=>exact⟨_,S1,by simp only[eP,dq,h1,Option.bind],h2⟩
  | ret=>exact⟨_,S1,by simp only[eP,dq,h1,Option.bind],h2⟩
 | .cond c a b,S,K,r,h=>by
  obtain⟨t,h1,h2⟩:=ag5 h;cases t with
  | true=>
   obtain⟨e,S1,h3,h4⟩:=vR h2;exact⟨e,S1,by simp only[eP,dq,h1,Option.bind,dj];exact h3,h4⟩
  | false=>
   obtain⟨e,S1,h3,h4⟩:=vR h2;exact⟨e,S1,by simp only[eP,dq,h1,Option.bind];exact h3,h4⟩
 | .block id b,S,K,r,h=>by
  simp only[lq] at h;obtain⟨e,S1,h1,h2⟩:=vR h;cases e with
  | norm=>exact⟨_,S1,by simp only[eP,dq,h1,Option.map],h2⟩
  | exit i=>
   simp only[OY] at h2;split at h2
   ·rename_i hb;have hi:=sk hb;exact⟨.norm,S1,by simp only[eP,dq,h1,Option.map,hi,dj],h2⟩
   ·rename_i hb;have hi:i≠id:=by intro hi;simp_all
    exact⟨.exit i,S1,by simp only[eP,dq,h1,Option.map,hi,eX],h2⟩
  | ret=>exact⟨_,S1,by simp only[eP,dq,h1,Option.map],h2⟩
 | .loop id keep gc b,S,K,r,h=>by
  simp only[lq] at h;split at h
  ·rename_i hh;cases hp:S.mF keep gc with
   | none=>simp_all
   | some S1=>
    simp only[hp] at h;obtain⟨e,S',h1,h2⟩:=aaC (g:=dq Cl n (eP b)) (λS K' h=>vR h) n S S1 hp (Fw h);refine⟨e,S',?_,h2⟩;simp only[eP,dq];have:(dq Cl n (lp keep gc (eP b)))=(λS=>(S.mF keep gc).bind (dq Cl n (eP b))):=by
     funext S;exact E4 hh S
    simp_all
  ·cases h
 | .join id keep gc a b,S,K,r,h=>by
  simp only[lq] at h;split at h
  ·rename_i hh;obtain⟨e,S1,h1,h2⟩:=vR h;cases e with
   | norm=>
    simp only[H9,Sm] at h2;cases hp:S1.mF keep gc with
    | none=>simp_all
    | some S2=>
     simp only[hp] at h2;obtain⟨e2,S3,h3,h4⟩:=vR (alU (Fw h2));refine⟨e2,S3,?_,h4⟩;simp only[eP,dq,h1,Option.bind];rw[E4 hh S1,hp];exact h3
   | exit i=>exact⟨_,S1,by simp only[eP,dq,h1,Option.bind],h2⟩
   | ret=>exact⟨_,S1,by simp only[eP,dq,h1,Option.bind],h2⟩
  ·cases h
def Y2 {R:Type}:∀(l:List C) (K:List C->Option R),zT l K=K l
 | [],K=>rfl
 | c::l,K=>by
  have ih:=λK=>Y2 (R:=R) l K
  cases c with
  | d x=>cases x with
   | sl t sz rows=>cases t<;>simp only[zT,HO,ih]
   | _=>simp only[zT,ih]
  | _=>simp only[zT,ih]
def Y3 {R:Type}:∀(l:List V) (K:List V->Option R),Fv l K=K l
 | [],K=>rfl
 | v::l,K=>by
  have ih:=λK=>Y3 (R:=R) l K
  cases v<;>simp only[Fv,Y2,ih]
def YN {an:iQ} {Cl:bX} {n:Nat} {fn:vC} {args:List V} {bx:List (List C)} {r:V×List (List C)} (h:Fq an Cl n fn args bx=some r) :
  vQ Cl n fn.fn args bx=some r:=by
 unfold Fq at h;split at h
 ·rename_i hl;rw[Y3] at h;obtain⟨e,S',h1,h2⟩:=vR h;unfold vQ;have lQ:args.length<=fn.fn.DU:=VI hl;rw[aP lQ];have hb:fn.fn.body=eP fn.body:=rfl;rw[hb,h1];unfold Uk at h2;split at h2
  ·cases h2
  ·rename_i aD;have h2:=Qf h2;rw[Us] at h2;have CT:xP ⟨0,fn.results,.skip,fn.forget⟩ bx=xP fn.fn bx:=rfl;rw[CT] at h2;have key:(xP fn.fn bx).run S'=some r:=by
    cases hr:(xP fn.fn bx).run S' with
    | none=>simp_all
    | some x=>
     simp only[hr] at h2;have h3:=Y5 (Ql h2);omega
   simp_all
 ·cases h
end
section
def ui (A B:bX):Prop:=∀f vs bx r,A f vs bx=some r->B f vs bx=some r
section
variable {A B:bX}
def apU {α:Type} {o o':Option α} (h:∀x,o=some x->o'=some x):(Q.du o).le (Q.du o'):=by
 intro S x hx;rw[Q.Eo] at hx;exact⟨by rw[Q.Eo];exact h x hx,by simp⟩
def agL (h:ui A B) (dst f:Nat) (vs:List V) (ws:List Wr) (mv:Bool):(B7 A dst f vs ws mv).le (B7 B dst f vs ws mv):=by
 unfold B7;refine .eU λ_=>.eU λx=>?_
 obtain⟨rs,bs⟩:=x;refine .eU λeR=>.eU λdL=>(apU (h f eR dL)).bind λx=>?_
 exact .refl _
def ajy (h:ui A B) (dst:Nat) (op:oc):(ch A dst op).le (ch B dst op):=by
 cases op with
 | call f args=>
  unfold ch;refine .eU λvf=>?_
  split
  ·refine .eU λ_=>.eU λx=>?_
   obtain⟨vs,ws⟩:=x;exact agL h _ _ _ _ _
  ·exact .refl _
 | len b x=>cases b<;>exact .refl _
 | _=>exact .refl _
def YQ (h:ui A B) (o:gA):(gF A o).le (gF B o):=by
 unfold gF;refine .eU λwant=>?_
 split
 ·refine(ajy h _ _).bind λx=>?_
  exact .refl _
 ·exact .refl _
def Qc (h:ui A B):∀(ops:List gA) (S S':St),oj A ops S=some S'->oj B ops S=some S'
 | [],S,S',he=>he
 | o::t,S,S',he=>by
  simp only[oj] at he ⊢;cases hr:(gF A o).run S with
  | none=>simp[hr] at he
  | some ws=>
   rw[hr] at he;rw[(YQ h o S ws hr).1];exact Qc h t _ S' he
def YS (h:ui A B):∀(ops:List gA) (S:St) x,jd A ops S=some x->jd B ops S=some x
 | [],S,x,he=>he
 | o::t,S,x,he=>by
  simp only[jd] at he ⊢;cases hr:(gF A o).run S with
  | none=>simp[hr] at he
  | some ws=>
   rw[hr] at he;obtain⟨h1,h2⟩:=YQ h o S ws hr;rw[h1];simp only[Option.bind] at he ⊢;cases h3:jd A t (S.ai ws) with
   | none=>simp[h3] at he
   | some y=>
    rw[h3] at he;rw[YS h t _ y h3,<-h2];exact he
def ajz (h:ui A B) (keep:Option (List Nat)) (gc:Bool) (ops:List gA) (draw:Option (List (Nat×Nat))) (S S':St) (he:qi A keep gc ops draw S=some S'):qi B keep gc ops draw S=some S':=by
 unfold qi at he ⊢;obtain⟨S1,h1,he⟩:=fw.1 he;obtain⟨S2,h2,he⟩:=fw.1 he;refine fw.2 ⟨S1,h1,fw.2 ⟨S2,h2,?_⟩⟩;split at he
 ·exact Qc h _ _ _ he
 ·exact Qc h _ _ _ he
 ·obtain⟨y,h3,he⟩:=fw.1 he;exact fw.2 ⟨y,YS h _ _ y h3,he⟩
def aaE {f g:St->Option (uh×St)} (h:∀S x,f S=some x->g S=some x):∀(n:Nat) (S:St) x,iter f n S=some x->iter g n S=some x
 | 0,S,x,he=>by cases he
 | n+1,S,x,he=>by
  simp only[iter] at he ⊢;cases hf:f S with
  | none=>simp[hf] at he
  | some y=>
   rw[hf] at he;rw[h S y hf];simp only[Option.bind] at he ⊢;obtain⟨e,S1⟩:=y;cases e with
   | norm=>exact aaE h n S1 x he
   | exit i=>exact he
   | ret=>exact he
def ajv (h:ui A B) (n:Nat):∀(c:ma) (S:St) x,dq A n c S=some x->dq B n c S=some x:=by
 intro c;induction c with
 | skip=>intro S x he;exact he
 | iY keep gc ops draw=>
  intro S x he;simp only[dq] at he ⊢;cases h1:qi A keep gc ops draw S with
  | none=>simp[h1] at he
  | some S'=>rw[h1] at he;rw[ajz h _ _ _ _ _ _ h1];exact he
 | seq a b AE AF=>
  intro S x he;simp only[dq] at he ⊢;cases h1:dq A n a S with
  | none=>simp[h1] at he
  | some y=>
   rw[h1] at he;rw[AE S y h1];obtain⟨e,S1⟩:=y;simp only[Option.bind] at he ⊢;cases e with
   | norm=>exact AF S1 x he
   | exit i=>exact he
   | ret=>exact he
 | cond c a b AE AF=>
  intro S x he;simp only[dq] at he ⊢;cases h1:zK S c with
  | none=>simp[h1] at he
  | some t=>
   rw[h1] at he;simp only[Option.bind] at he ⊢;cases t with
   | true=>exact AE S x he
   | false=>exact AF S x he
 | block id b ih=>
  intro S x he;simp only[dq] at he ⊢;cases h1:dq A n b S with
  | none=>simp[h1] at he
  | some y=>rw[h1] at he;rw[ih S y h1];exact he
 | loop b ih=>intro S x he;simp only[dq] at he ⊢;exact aaE ih n S x he
 | exit id=>intro S x he;exact he
 | ret=>intro S x he;exact he
end
end
section
section
variable {nm:FuncId->Option Nat} {N:Nat} {S0:St} {w0:World} {L0:aw} {ws:List Wr} {a:Act} {w:World} {L:aw} {P:Program}
def wv {i c n sz:Nat} (hi:i < n) (hc:c < sz):i * sz+c < n * sz:=by
 have:(i+1) * sz<=n * sz:=p8 _ hi;rw[lJ] at this;omega
def agT {rows:List (List D)} {sz k:Nat} (hlen:∀r∈rows,r.length=sz) (hk:k < rows.length * sz):∃i c x,cellOf rows i c=some x/\k=i * sz+c/\i < rows.length/\c < sz:=by
 have aY:0 < sz:=by
  rcases Oa sz with h | h
  ·rw[h] at hk;omega
  ·exact h
 have hi:k / sz < rows.length:=by rw[Nat.div_lt_iff_lt_mul aY];exact hk
 have hc:k % sz < sz:=EM _ aY;refine⟨k / sz,k % sz,(rows[k / sz]'hi)[k % sz]'(by rw[hlen _ (bU hi)];exact hc),?_,?_,hi,hc⟩
 ·unfold cellOf;simp[hi,hlen _ (bU hi),hc]
 ·have:=Nat.div_add_mod k sz;rw[II] at this;exact this.symm
def Py (a b:List (List D)) (i c:Nat):cellOf (a++b) i c=if i < a.length then cellOf a i c else cellOf b (i - a.length) c:=by
 unfold cellOf;rw[List.getElem?_append];split<;>rfl
def World.ad9 (b:Nat):∀(vs:List Value) (o:Nat) (w:World) {cur:Array Value} {e:TypeId} {fz:Nat×Nat},w.heap[b]? = some (.cells cur e fz)->
  ∃ei,(w.setCells b o vs).heap[b]? = some (.cells ei e fz)/\ei.size=cur.size/\(∀i,i < o->ei[i]? = cur[i]?)/\(∀j v,vs[j]? = some v->o+j < cur.size->ei[o+j]? = some v)/\
   ∀i,o+vs.length<=i->ei[i]? = cur[i]?
 | [],o,w,cur,e,fz,h=>⟨cur,h,rfl,λ_ _=>rfl,λj v hv=>by simp at hv,λ_ _=>rfl⟩
 | v::vs,o,w,cur,e,fz,h=>by
  have h1:=xZ w b o v h;obtain⟨ei,g1,g2,g3,g4,g5⟩:=World.ad9 b vs (o+1) (w.setCell ⟨b,o,none⟩ v) h1;refine⟨ei,g1,by simpa using g2,?_,?_,?_⟩
  ·intro i hi;rw[g3 i (by omega),By (by omega)]
  ·intro j u hu af;cases j with
   | zero=>
    simp only[qQ,au] at hu;subst hu;rw[mN,g3 o (by omega),zj];simp only[dj];rw[aP (by omega)]
   | succ j=>
    have:=g4 j u (by simpa using hu) (by simp;omega);rwa[show o+1+j=o+(j+1) by omega] at this
  ·intro i hi;simp only[jl] at hi;rw[g5 i (by omega),By (by omega)]
def World.aea (b:Nat):∀(vs:List Value) (o:Nat) (w:World) {B:Nat},B≠b->(w.setCells b o vs).heap[B]? = w.heap[B]?
 | [],_,_,_,_=>rfl
 | v::vs,o,w,B,h=>by rw[World.setCells,World.aea b vs (o+1) _ h,pH _ _ _ _ h]
def World.aeb (b:Nat):∀(vs:List Value) (o:Nat) (w:World),(w.setCells b o vs).os=w.os/\(w.setCells b o vs).tape=w.tape/\(w.setCells b o vs).output=w.output/\(w.setCells b o vs).heap.size=w.heap.size/\(w.setCells b o vs).drawn=w.drawn
 | [],_,_=>⟨rfl,rfl,rfl,rfl,rfl⟩
 | v::vs,o,w=>by
  obtain⟨h1,h2,h3,h4,h5⟩:=World.aeb b vs (o+1) (w.setCell ⟨b,o,none⟩ v);exact⟨h1,h2,h3,by rw[World.setCells,h4];simp,h5⟩
structure Src (P:Program) (sz:Nat) (w:World) (x:Value) (n:Nat) (news:Array Value):Prop where
 len:∀w':World,(Builtin.lenOf x).run P w' = .ok n w'
 read:∀w':World,w'.heap=w.heap->(Builtin.firstCells sz n x).run P w' = .ok news w'
 size:news.size=n * sz
 one:∀u∈news,u.oneCell'=true
def ari {t u ty e:TypeId} {i:TypeInfo} {d:TypeDesc} (ht:P.underlying t=some (.slice e)) (hu:P.underlying u=some d) (hd:∀k,d≠.int k) (hi:P.info? e=some i)
  {x:Value} {n:Nat} {news:Array Value} (hx:Src P i.size w x n news) {B o sLen sCap:Nat} (dU:sLen+n<=sCap)
  (hc:∀j,j < news.size->(w.cell? ⟨B,o+sLen * i.size+j,none⟩).isSome=true) (hf:∀j,j < news.size->w.frozen? ⟨B,o+sLen * i.size+j,none⟩=false) :
  (Builtin.append_ #[t,u] ty #[.slice (some ⟨B,o,none⟩) sLen sCap,x]).run P w =
   .ok (.slice (some ⟨B,o,none⟩) (sLen+n) sCap) (w.setCells B (o+sLen * i.size) news.toList):=by
 have hz:(match d with | .int _=>true | _=>false)=false:=by cases d<;>first | rfl | exact absurd rfl (hd _)
 have bF:=run_storeCells_cells (P:=P) B (o+sLen * i.size) news.toList 0 w (by simpa using hc) (by simpa using hf) (by simpa using hx.one);have akP:(⟨B,o,none⟩:Addr).add (sLen * i.size)=⟨B,o+sLen * i.size,none⟩:=by unfold Addr.add;split<;>simp_all
 simp only[mN] at bF;simp[Builtin.append_,run_underlying ht,run_underlying hu,sizeOf,typeInfo,hi,hz,hx.len,hx.read,dU,bF,akP]
def adX {t u ty e:TypeId} {i:TypeInfo} {d:TypeDesc} (ht:P.underlying t=some (.slice e)) (hu:P.underlying u=some d) (hd:∀k,d≠.int k) (hi:P.info? e=some i)
  {x:Value} {news:Array Value} (hx:Src P i.size w x 0 news) {b:Option Addr} {sLen sCap:Nat} (dU:sLen<=sCap) :
  (Builtin.append_ #[t,u] ty #[.slice b sLen sCap,x]).run P w = .ok (.slice b sLen sCap) w:=by
 have hz:(match d with | .int _=>true | _=>false)=false:=by cases d<;>first | rfl | exact absurd rfl (hd _)
 have hn:news = #[]:=by have:=hx.size;simpa using this
 subst hn;cases b with
 | none=>simp[Builtin.append_,run_underlying ht,run_underlying hu,sizeOf,typeInfo,hi,hz,hx.len,hx.read,dU]
 | some b=>simp[Builtin.append_,run_underlying ht,run_underlying hu,sizeOf,typeInfo,hi,hz,hx.len,hx.read,dU,storeCells]
def arj {t u ty e:TypeId} {i:TypeInfo} {d:TypeDesc} {z:Value} (ht:P.underlying t=some (.slice e)) (hu:P.underlying u=some d) (hd:∀k,d≠.int k) (hi:P.info? e=some i) (hz:i.zero=some z)
  {x:Value} {n:Nat} {news:Array Value} (hx:Src P i.size w x n news) {b:Option Addr} {sLen sCap:Nat} {oQ:Array Value} (dU:sCap < sLen+n)
  (ho:∀w':World,w'.heap=w.heap->(Builtin.firstCells i.size sLen (.slice b sLen sCap)).run P w' = .ok oQ w')
  (CP:i.bytes≠0) (hb:(sLen+n) * i.bytes<=140737488355328) :
  (Builtin.append_ #[t,u] ty #[.slice b sLen sCap,x]).run P w =
   .ok (.slice (some ⟨w.heap.size,0,none⟩) (sLen+n) (grownCap w (sLen+n) sCap e))
    (w.drew.alloc (.cells (oQ++news++Builtin.zeroCells z.cells (grownCap w (sLen+n) sCap e - (sLen+n))) e)):=by
 have hzz:(match d with | .int _=>true | _=>false)=false:=by cases d<;>first | rfl | exact absurd rfl (hd _)
 have hn:¬ (sLen+n<=sCap):=by omega
 have akJ:¬ (281474976710656 < Builtin.nextslicecap (sLen+n) sCap * i.bytes):=by
  have:=growslice_fits dU hb;omega
 have h1:=ho w.drew rfl;have h2:=hx.read w.drew rfl;simp[Builtin.append_,run_underlying ht,run_underlying hu,sizeOf,typeInfo,zeroValue,hi,hz,hzz,CP,hx.len,hn,akJ,Question.forced,h1,h2,newRow,grownCap]
def lZ (m m2 n:Nat):Place->Option Place:=λq=>
 if q.k = .h m2/\q.j=0 then(match q.p with | (i,c)::r=>some ⟨.h m,0,(n+i,c)::r⟩ | []=>none)
 else if q.k = .h m/\q.j=0 then(match q.p with | (i,_)::_=>if i < n then some q else none | []=>some q)
 else some q
def Ie {m m2 n:Nat} {q:Place} (h:q.k.aT=true):lZ m m2 n q=some q:=by
 unfold lZ;rw[aI (λe=>by rw[e.1] at h;simp[Key.aT] at h),aI (λe=>by rw[e.1] at h;simp[Key.aT] at h)]
def aeA {m m2 n:Nat} (aD:m≠m2) {q t:Place} (h:lZ m m2 n q=some t) :
  ((q.k = .h m2/\q.j=0)/\∃i c r,q.p=(i,c)::r/\t=⟨.h m,0,(n+i,c)::r⟩)\/
  ((q.k = .h m/\q.j=0)/\t=q/\∀i c r,q.p=(i,c)::r->i < n)\/
  (¬ (q.k = .h m2/\q.j=0)/\¬ (q.k = .h m/\q.j=0)/\t=q):=by
 unfold lZ at h;split at h
 ·rename_i h1;split at h
  ·rename_i i c r hp;simp only[au] at h;exact .inl ⟨h1,i,c,r,hp,h.symm⟩
  ·cases h
 ·rename_i h1;split at h
  ·rename_i h2;split at h
   ·rename_i i c r hp;split at h
    ·rename_i hi;simp only[au] at h;exact .inr (.inl ⟨h2,h.symm,λi' c' r' e=>by rw[hp] at e;simp only[Ol,iB] at e;omega⟩)
    ·cases h
   ·rename_i hp;simp only[au] at h;exact .inr (.inl ⟨h2,h.symm,λi' c' r' e=>by rw[hp] at e;cases e⟩)
  ·rename_i h2;simp only[au] at h;exact .inr (.inr ⟨h1,h2,h.symm⟩)
def UN {m m2 n:Nat} (aD:m≠m2) {q q' t:Place} (h1:lZ m m2 n q=some t) (h2:lZ m m2 n q'=some t):q=q':=by
 have ext:∀{q q':Place},q.k=q'.k->q.j=q'.j->q.p=q'.p->q=q':=λ{q q'} a b c=>by cases q;cases q';simp_all
 rcases aeA aD h1 with⟨a1,i,c,r,a2,a3⟩ | ⟨a1,a2,a3⟩ | ⟨a1,a2,a3⟩<;>rcases aeA aD h2 with⟨b1,i',c',r',b2,b3⟩ | ⟨b1,b2,b3⟩ | ⟨b1,b2,b3⟩
 ·rw[a3] at b3;simp only[Place.mk.injEq,Ol,iB,nD] at b3;refine ext (a1.1.trans b1.1.symm) (a1.2.trans b1.2.symm) ?_;rw[a2,b2,b3.2,b3.1.2,show i=i' by omega]
 ·have:=b3 (n+i) c r (by rw[<-b2,a3]);omega
 ·exact absurd (by rw[<-b3,a3];exact⟨rfl,rfl⟩) b2
 ·have:=a3 (n+i') c' r' (by rw[<-a2,b3]);omega
 ·rw[<-a2,<-b2]
 ·exact absurd (by rw[<-b3,a2];exact a1) b2
 ·exact absurd (by rw[<-a3,b3];exact⟨rfl,rfl⟩) a2
 ·exact absurd (by rw[<-a3,b2];exact b1) a2
 ·rw[<-a3,<-b3]
def Rel.wZ {S:St} (h:Rel nm N S a w L) {f:Place->Option Place} (J3:∀q:Place,q.k.aT=true->f q=some q) (ri:∀q q' t,f q=some t->f q'=some t->q=q') :
  Rel nm N S a w (cT f L):=by
 refine h.JT ?_ ?_ (HV h.ey (λq q' t _ _ _ _ h1 h2 _ _=>ri q q' t h1 h2)) (λB B' r o o' h1 h2=>h.fy B B' r o o' (jw.1 h1) (jw.1 h2))
 ·intro B l hB hl;refine⟨rfl,?_⟩;cases l with
  | bg=>exact jP.2 hB
  | box r o=>exact jw.2 hB
  | row q o=>exact gO hB (J3 q (hl q o rfl))
 ·intro B l hB;obtain⟨l0,h0⟩:=HU hB;exact h.fx B l0 h0
def HW (f:Place->Option Place):dc w w L (cT f L):=
 ⟨rfl,rfl,rfl,cp _,λB hB=>⟨jP.2 hB,rfl⟩,λB _ hB=>⟨Ng hB,rfl⟩,λB i o hB=>jw.2 hB⟩
def WT {m:Nat} {pl:Place} (di:pl.k.aT=true\/pl=⟨.h m,0,[]⟩) {m2 n0:Nat} (aD:m≠m2) {rows src:List (List D)} {val iO:Nat->Nat->Value}
  (h1:∀i c x,cellOf rows i c=some x->bt w L ((if i < n0 then pl else⟨.h m,0,[]⟩).sub i c) x (val i c)) (h2:pe w L ⟨.h m2,0,[]⟩ src iO) (af:∀i c x,cellOf rows i c=some x->i < rows.length) :
  ∀i c x,cellOf (rows++src) i c=some x->bt w (cT (lZ m m2 rows.length) L) ((if i < min n0 rows.length then pl else⟨.h m,0,[]⟩).sub i c) x (if i < rows.length then val i c else iO (i - rows.length) c):=by
 intro i c x hx;rw[Py] at hx;have hH:∀{t:Place} {y:D} {u:Value},bt w L t y u->(∃i c r,t=⟨.h m,0,(i,c)::r⟩/\i < rows.length)->bt w (cT (lZ m m2 rows.length) L) t y u:=by
  intro t y u hy ht;refine bt.move id (λt=>∃i c r,t=⟨.h m,0,(i,c)::r⟩/\i < rows.length) ?_ (λ_ _ _ _=>rfl) (λB hB=>⟨jP.2 hB,rfl⟩) ?_ hy ht
  ·rintro q i' c' ⟨i,c,r,rfl,hi⟩;exact⟨i,c,r++[(i',c')],rfl,hi⟩
  ·rintro B q o ⟨i,c,r,rfl,hi⟩ hL;refine⟨gO hL ?_,rfl⟩;unfold lZ;rw[aI (λe=>by simp only[Key.h.injEq] at e;exact aD e.1),aP ⟨rfl,rfl⟩];simp only[id,hi,dj]
 by_cases hi:i < rows.length
 ·rw[aP hi] at hx ⊢;have h0:=h1 i c x hx;by_cases hn:i < n0
  ·rw[aP hn] at h0;rw[aP (by omega)];rcases di with di | rfl
   ·refine bt.move id (λq=>q.k=pl.k) (λ_ _ _ h=>h) (λ_ _ _ _=>rfl) (λB hB=>⟨jP.2 hB,rfl⟩) ?_ h0 rfl;intro B q o hq hL;exact⟨gO hL (Ie (by rw[hq];exact di)),rfl⟩
   ·exact hH h0 ⟨i,c,[],rfl,hi⟩
  ·rw[aI hn] at h0;rw[aI (by omega)];exact hH h0 ⟨i,c,[],rfl,hi⟩
 ·rw[aI hi] at hx ⊢;rw[aI (by omega)];have h0:=h2 (i - rows.length) c x hx;have:=bt.move (w':=w) (L':=cT (lZ m m2 rows.length) L) (λq=>match q.p with | (i,c)::r=>⟨.h m,0,(rows.length+i,c)::r⟩ | []=>q) (λq=>∃i c r,q=⟨.h m2,0,(i,c)::r⟩)
   (by rintro q i' c' ⟨i,c,r,rfl⟩;exact⟨i,c,r++[(i',c')],rfl⟩) (by rintro q i' c' ⟨i,c,r,rfl⟩;rfl) (λB hB=>⟨jP.2 hB,rfl⟩)
   (by
     rintro B q o ⟨i, c, r, rfl⟩ hL
     refine⟨gO hL ?_, rfl⟩
     unfold lZ
     rw[aP ⟨rfl, rfl⟩]) h0 ⟨_, _, [], rfl⟩
  simp only[Place.sub,zr] at this ⊢;rwa[show rows.length+(i - rows.length)=i by omega] at this
end
end
section
section
variable {nm:FuncId->Option Nat} {N:Nat} {S0:St} {w0:World} {L0:aw} {ws:List Wr} {a:Act} {w:World} {L:aw} {P:Program}
structure BH (P:Program) (sz bytes:Nat) (t u e:TypeId) (i:TypeInfo) (d:TypeDesc) (z:Value):Prop where
 ht:P.underlying t=some (.slice e)
 hu:P.underlying u=some d
 hd:∀k,d≠.int k
 hi:P.info? e=some i
 hz:i.zero=some z
 size:i.size=sz
 auj:z.cells.size=sz
 pos:0 < sz
 J0:i.bytes<=bytes
 atx:i.bytes≠0
 u8:bytes=1->e=5
def qW {B o:Nat} {cur:Array Value} {e:TypeId} {fz:Nat×Nat} (h:w.heap[B]? = some (.cells cur e fz)):w.cell? ⟨B,o,none⟩=cur[o]?:=by
 simp[World.cell?,h]
def Qs {B o:Nat} {cur:Array Value} {e:TypeId} {fz:Nat×Nat} (h:w.heap[B]? = some (.cells cur e fz)) (hf:jA cur.size fz) (ho:o < cur.size):w.frozen? ⟨B,o,none⟩=false:=by
 have:=hf o ho;obtain⟨lo,hi⟩:=fz;simp only at this;simp only[World.frozen?,h];cases hx:decide (lo<=o) with
 | false=>rfl
 | true=>
  cases hy:decide (o < hi) with
  | false=>rfl
  | true=>exact absurd ⟨by simpa using hx,by simpa using hy⟩ this
def pj (B o n:Nat):(⟨B,o,none⟩:Addr).add n=⟨B,o+n,none⟩:=by unfold Addr.add;split<;>simp_all
def adt {B o n:Nat} {cur:Array Value} {e:TypeId} {fz:Nat×Nat} (h:w.heap[B]? = some (.cells cur e fz)) (hn:o+n<=cur.size) :
  (loadCells ⟨B,o,none⟩ n).run P w = .ok (cur.extract o (o+n)) w:=by
 rw[run_loadCells w ⟨B,o,none⟩ n (λj=>cur.getD (o+j) undef)]
 ·congr 1;apply Array.ext
  ·simp;omega
  ·intro i h1 h2;simp only[List.size_toArray,cX,List.length_range] at h1;have:o+i < cur.size:=by omega
   simp[Array.getD,this]
 ·intro j hj;have:o+j < cur.size:=by omega
  rw[pj,qW h];simp[Array.getD,this]
def ahg {H:Place} {f:Place->Option Place} {rows:List (List D)} {pl:Place} {n0:Nat} {val:Nat->Nat->Value} (hf:∀q:Place,q≠H->f q=some q) (hH:H.p=[])
  (h:∀i c x,cellOf rows i c=some x->bt w L ((if i < n0 then pl else H).sub i c) x (val i c)) (di:pl.k≠H.k\/pl=H) :
  ∀i c x,cellOf rows i c=some x->bt w (cT f L) ((if i < n0 then pl else H).sub i c) x (val i c):=by
 intro i c x hx;refine bt.move id (λq=>q≠H/\(q.p≠[]\/q.k≠H.k)) (λq i c h=>⟨λe=>?_,.inl (by simp[Place.sub])⟩) (λ_ _ _ _=>rfl) (λB hB=>⟨jP.2 hB,rfl⟩)
  (λB q o hq hL=>⟨gO hL (hf q hq.1),rfl⟩) (h i c x hx) ?_
 ·have:=fW Place.p e;rw[hH] at this;simp[Place.sub] at this
 ·refine⟨λe=>?_,.inl (by simp[Place.sub])⟩;have:=fW Place.p e;rw[hH] at this;simp[Place.sub] at this
def atv (z:Array Value) (n:Nat):(Builtin.zeroCells z n).size=n * z.size:=by simp[Builtin.zeroCells]
def I1 {S:St} (R:Rel nm N S a w L) {m m2:Nat} (aD:m≠m2) {pl:Place} {sz bytes:Nat} {rows src:List (List D)} {v x:Value} {t u ty e:TypeId} {i:TypeInfo} {d:TypeDesc} {z:Value}
  (T:BH P sz bytes t u e i d z) (A:qb w L pl sz rows ⟨.h m,0,[]⟩ v\/(rows=[]/\src≠[]/\v = .slice none 0 0))
  (di:pl=⟨.h m,0,[]⟩\/(pl.k.aT=true/\∃x qJ,(S.E pl.k).cells[pl.j]? = some (.d x)/\ek x pl.p=some (.sl .own sz qJ)/\qJ.length<=rows.length))
  {news:Array Value} {iO:Nat->Nat->Value} (hx:Src P sz w x src.length news) (na:∀r∈src,r.length=sz) (gG:pe w L ⟨.h m2,0,[]⟩ src iO) (ew:ph src sz 0 news iO)
  (CP:(rows.length+src.length) * bytes<=140737488355328) (h8:fS bytes src rows.isEmpty=true\/(fS bytes src false=true/\v = .slice none 0 0)) :
  ∃v' w' L',(Builtin.append_ #[t,u] ty #[v,x]).run P w = .ok v' w'/\dc w w' L L'/\qb w' L' pl sz (rows++src) ⟨.h m,0,[]⟩ v'/\v'.oneCell'=true/\
   (pl=⟨.h m,0,[]⟩->Rel nm N S a w' L')/\(pl.k.aT=true->Rel nm N (S.wr { k:=.a pl.k,v:=V.dead }) a w' L'):=by
 obtain⟨ht,hu,hd,hi,hz,rfl,hzs,aY,J0,FO,dW⟩:=T;have hb:(rows.length+src.length) * i.bytes<=140737488355328:=iD (IN _ J0) CP;have apG:src≠[]->uj (rows++src) e:=by
  intro hs hn;have hn:ni (rows++src)=false:=hn.resolve_right λe=>hs (VG.1 e).2
  obtain⟨k1,k2⟩:=wK.1 hn;have Gn:ni src=false:=wK.2 ⟨hs,λr hr=>k2 r (af3 _ hr)⟩;apply dW;rcases h8 with h8 | ⟨h8,_⟩<;>simp only[fS,Gn,xo,kv] at h8<;>exact h8
 have C5:pl.k.aT=true\/pl=⟨.h m,0,[]⟩:=di.elim .inr (λh=>.inl h.1);have Kn:(rows++src).length=rows.length+src.length:=fH;have fresh:∀(b:Option Addr) (cap:Nat) (oQ:Array Value) (n0:Nat) (val:Nat->Nat->Value),v = .slice b rows.length cap->cap < rows.length+src.length->oQ.size=rows.length * i.size->
   (∀w':World,w'.heap=w.heap->(Builtin.firstCells i.size rows.length (.slice b rows.length cap)).run P w' = .ok oQ w')->(∀r∈rows,r.length=i.size)->
   ph rows i.size 0 oQ val->(∀i c x,cellOf rows i c=some x->bt w L ((if i < n0 then pl else⟨.h m,0,[]⟩).sub i c) x (val i c))->src≠[]->
   ∃v' w' L',(Builtin.append_ #[t,u] ty #[v,x]).run P w = .ok v' w'/\dc w w' L L'/\qb w' L' pl i.size (rows++src) ⟨.h m,0,[]⟩ v'/\v'.oneCell'=true/\
   (pl=⟨.h m,0,[]⟩->Rel nm N S a w' L')/\(pl.k.aT=true->Rel nm N (S.wr { k:=.a pl.k,v:=V.dead }) a w' L'):=by
  intro b cap oQ n0 val hv eC oB Aw iu CW hcr hs8;subst hv;have jr:=arj (ty:=ty) (w:=w) ht hu hd hi hz hx eC Aw FO hb;have Ai:=WT (w:=w) (L:=L) C5 aD hcr gG (λi c x h=>(og iu h).1);let f:Place->Option Place:=λq=>if q=⟨.h m,0,[]⟩ then none else some q
  have ZU:∀q:Place,q≠⟨.h m,0,[]⟩->f q=some q:=λq hq=>by simp only[f];rw[aI hq]
  have ak5:∀q q' t,f q=some t->f q'=some t->q=q':=by
   intro q q' t h1 h2;simp only[f] at h1 h2;split at h1
   ·cases h1
   ·split at h2
    ·cases h2
    ·simp only[au] at h1 h2;rw[h1,h2]
  have akY:=ahg (H:=⟨.h m,0,[]⟩) ZU rfl Ai (C5.elim (λh=>.inl (λe=>by rw[e] at h;simp[Key.aT] at h)) .inr);have rn:∀{S':St},Rel nm N S' a w L->Rel nm N S' a w (cT f (cT (lZ m m2 rows.length) L)):=λR'=>
   (R'.wZ (λq hq=>Ie hq) (λq q' t h1 h2=>UN aD h1 h2)).wZ (λq hq=>ZU q (λe=>by rw[e] at hq;simp[Key.aT] at hq)) ak5
  have fB:=grownCap_ge w (rows.length+src.length) cap e;have aam:∀{S':St},Rel nm N S' a w L->Rel nm N S' a (w.drew.alloc (.cells (oQ++news++Builtin.zeroCells z.cells (grownCap w (rows.length+src.length) cap e - (rows.length+src.length))) e))
    ((cT f (cT (lZ m m2 rows.length) L)).put w.heap.size (.row ⟨.h m,0,[]⟩ 0)):=λR'=>
   (rn R').drew.WN (λB o hB => by
     obtain⟨q0, _, h2⟩ := oR hB
     simp only[f] at h2
     split at h2
     · cases h2
     · rename_i h3; simp only[au] at h2; exact h3 h2) _ _
  have hD:=(rn R).drew.fx;refine⟨_,_,(cT f (cT (lZ m m2 rows.length) L)).put w.heap.size (.row ⟨.h m,0,[]⟩ 0),jr,?_,?_,rfl,λ_=>aam R,λ_=>aam (R.kill (.a pl.k) (λr e=>by cases e))⟩
  ·exact((HW _).trans (HW _)).trans ((dc.drew _ _).trans (dc.alloc _ _ hD _ _))
  ·refine .inr ⟨w.heap.size, 0, grownCap w (rows.length + src.length) cap e, _, e, (0, 0), min n0 rows.length, λi c => if i < rows.length then val i c else iO (i - rows.length) c, by rw[Kn], aY,
     .inr (aw.kZ _ _ _), ox w.drew _, λj _ => by simp, ?_, by rw[Kn]; exact fB, ?_, ?_, ?_, apG hs8⟩
   ·intro r hr;rcases dk.1 hr with hr | hr
    ·exact iu r hr
    ·exact na r hr
   ·simp only[Array.size_append,oB,hx.size,atv,hzs,cQ,<-lJ];rw[show rows.length+src.length+(grownCap w (rows.length+src.length) cap e - (rows.length+src.length))=grownCap w (rows.length+src.length) cap e by omega];exact cp _
   ·intro j c y hy;rw[Py] at hy;simp only[cQ];by_cases hj:j < rows.length
    ·rw[aP hj] at hy ⊢;obtain⟨_,hc⟩:=og iu hy;have af:=wv hj hc;rw[Bz (by simp;omega),Bz (by omega)];have:=CW j c y hy;rwa[cQ] at this
    ·rw[aI hj] at hy ⊢;obtain⟨lx,hc⟩:=og na hy;have af:=wv lx hc;have he:j * i.size=rows.length * i.size+(j - rows.length) * i.size:=by rw[<-lJ];congr 1;omega
     rw[Bz (by rw[Array.size_append,oB,hx.size];omega),VC (by omega)];have:=ew (j - rows.length) c y hy;rwa[cQ,show (j - rows.length) * i.size+c=j * i.size+c - oQ.size by omega] at this
   ·intro j c y hy;have h0:=akY j c y hy;have Ki:∀B l,(cT f (cT (lZ m m2 rows.length) L)) B=some l->B≠w.heap.size:=λB l hB e=>by
     have:=hD.new;simp only[World.size_drew] at this;rw[e,this] at hB;cases hB
    exact bt.move (w:=w) id (λ_=>True) (λ_ _ _ _=>trivial) (λ_ _ _ _=>rfl) (λB hB=>⟨by rw[aw.gw (Ki B _ hB)];exact hB,mY w.drew _ (Ki B _ hB)⟩)
     (λB q o _ hB=>⟨by rw[aw.gw (Ki B _ hB)];exact hB,mY w.drew _ (Ki B _ hB)⟩) h0 trivial
 rcases A with(⟨rfl,a0,rfl⟩ | ⟨B,o,cap,cur,e',fz,n0,val,rfl,_,hL,hB,c6,fO,eC,dU,cH,dD,QC⟩) | ⟨rfl,aao,rfl⟩
 ·by_cases hn:src.length=0
  ·have RO:src=[]:=p7.1 hn;subst RO;have jr:=adX (ty:=ty) (w:=w) (b:=some a0) (sLen:=0) (sCap:=0) ht hu hd hi hx (cp _);exact⟨_,w,L,jr,dc.refl _ _,.inl ⟨rfl,a0,rfl⟩,rfl,λ_=>R,λ_=>R.kill (.a pl.k) (λr e=>by cases e)⟩
  ·refine fresh (some a0) 0 #[] 0 (λ_ _=>undef) rfl (by simp;omega) (by simp) ?_ (by simp) (λi c x h=>by simp[cellOf] at h) (λi c x h=>by simp[cellOf] at h) (λe=>hn (by rw[e];rfl));intro w' pK;simp[Builtin.firstCells,loadCells,loadCellsFrom]
 ·have eJ:rows.length * i.size<=cap * i.size:=p8 _ eC;by_cases F3:rows.length+src.length<=cap
  ·
   have ak0:(rows.length+src.length) * i.size<=cap * i.size:=p8 _ F3;rw[lJ] at ak0;have jr:=ari (ty:=ty) (w:=w) (B:=B) (o:=o) (sLen:=rows.length) (sCap:=cap) ht hu hd hi hx F3
    (λj hj=>by rw[qW hB];rw[hx.size] at hj;simp;omega) (λj hj=>Qs hB c6 (by rw[hx.size] at hj;omega))
   obtain⟨ei,g1,g2,g3,g4,g5⟩:=World.ad9 B news.toList (o+rows.length * i.size) w hB;have ly:∀B',B'≠B->(w.setCells B (o+rows.length * i.size) news.toList).heap[B']? = w.heap[B']?:=λB' h=>World.aea B _ _ _ h
   have Ai:=WT (w:=w) (L:=L) C5 aD dD gG (λi c x h=>(og fO h).1);have Kd:∃q,L B=some (.row q o):=hL.elim (λh=>⟨_,h⟩) (λh=>⟨_,h⟩);obtain⟨qB,uC⟩:=Kd;have Gr:qB=pl\/qB=⟨.h m,0,[]⟩:=by
    rcases hL with h | h<;>rw[uC] at h<;>simp only[au,db.row.injEq,and_true] at h
    ·exact .inl h
    ·exact .inr h
   have ZW:∀{S':St},qB.k.aT=false->Rel nm N S' a w L->Rel nm N S' a (w.setCells B (o+rows.length * i.size) news.toList) L:=by
    intro S' hq R';refine R'.JT ?_ ?_ R'.ey R'.fy
    ·intro B' l dH hl;refine⟨ly B' (λe=>?_),dH⟩;rw[e,uC] at dH;simp only[au] at dH;have:=hl qB o dH.symm;rw[hq] at this;cases this
    ·intro B' l dH;by_cases he:B'=B
     ·subst he;exact(lH.1 g1).1
     ·exact xY (R'.fx B' l dH) (ly B' he)
   have hR1:pl=⟨.h m,0,[]⟩->Rel nm N S a (w.setCells B (o+rows.length * i.size) news.toList) L:=by
    intro hp;refine ZW ?_ R;rcases Gr with rfl | rfl
    ·rw[hp];rfl
    ·rfl
   have QJ:pl.k.aT=true->Rel nm N (S.wr { k:=.a pl.k,v:=V.dead }) a (w.setCells B (o+rows.length * i.size) news.toList) L:=by
    intro hp;rcases Gr with rfl | rfl
    ·rcases di with rfl | ⟨_,x0,qJ,hE,hn,hle⟩
     ·simp[Key.aT] at hp
     ·refine R.aqr (n:=rows.length * i.size) hp hE hn (p8 _ hle) uC hB (λB' l _ h=>ly B' h) g1 g2 g3
    ·exact ZW rfl (R.kill (.a pl.k) (λr e=>by cases e))
   have ZZ:∀B',L B'=some .bg->B'≠B:=λB' h e=>by rw[e,uC] at h;cases h
   have atQ:∀{q:Place} {B' o':Nat},L B'=some (.row q o')->q≠qB->B'≠B:=λh hq e=>by
    rw[e,uC] at h;simp only[au,db.row.injEq] at h;exact hq h.1.symm
   refine⟨_, _, cT (lZ m m2 rows.length) L, jr, ?_, ?_, rfl, λh => (hR1 h).wZ (λq hq => Ie hq) (λq q' t h1 h2 => UN aD h1 h2),
     λh => (QJ h).wZ (λq hq => Ie hq) (λq q' t h1 h2 => UN aD h1 h2)⟩
   ·refine dc.trans (L2:=L) (w2:=w.setCells B (o+rows.length * i.size) news.toList) ?_ (HW _);obtain⟨e1,e2,e3,e4,_⟩:=World.aeb B news.toList (o+rows.length * i.size) w;refine⟨e1,e2,e3,by rw[e4];exact cp _,λB' h=>⟨h,ly B' (ZZ B' h)⟩,λB' _ h=>⟨h,ly B' (λe=>by rw[e,uC] at h;cases h)⟩,λ_ _ _ h=>h⟩
   ·have Rr:cT (lZ m m2 rows.length) L B=some (.row qB o):=by
     refine gO uC ?_;rcases Gr with rfl | rfl
     ·rcases C5 with hp | rfl
      ·exact Ie hp
      ·unfold lZ;rw[aI (λe=>by simp only[Key.h.injEq] at e;exact aD e.1),aP ⟨rfl,rfl⟩]
     ·unfold lZ;rw[aI (λe=>by simp only[Key.h.injEq] at e;exact aD e.1),aP ⟨rfl,rfl⟩]
    refine .inr ⟨B,o,cap,ei,e',fz,min n0 rows.length,λi c=>if i < rows.length then val i c else iO (i - rows.length) c,by rw[Kn],aY,?_,g1,by rw[g2];exact c6,?_,by rw[Kn];exact F3,by rw[g2];exact dU,?_,?_,?_⟩
    ·rcases Gr with rfl | rfl
     ·exact .inl Rr
     ·exact .inr Rr
    ·intro r hr;rcases dk.1 hr with hr | hr
     ·exact fO r hr
     ·exact na r hr
    ·intro j c y hy;rw[Py] at hy;simp only;by_cases hj:j < rows.length
     ·rw[aP hj] at hy ⊢;obtain⟨_,hc⟩:=og fO hy;have af:=wv hj hc;rw[p9,g3 _ (by omega),<-p9];exact cH j c y hy
     ·rw[aI hj] at hy ⊢;obtain⟨lx,hc⟩:=og na hy;have af:=wv lx hc;have he:j * i.size=rows.length * i.size+(j - rows.length) * i.size:=by rw[<-lJ];congr 1;omega
      have h2:=ew (j - rows.length) c y hy;rw[cQ] at h2;have:=g4 ((j - rows.length) * i.size+c) _ (by simpa using h2) (by omega);rwa[show o+rows.length * i.size+((j - rows.length) * i.size+c)=o+j * i.size+c by omega] at this
    ·intro j c y hy;have h0:=Ai j c y hy;refine bt.move id (λq=>∃r s,(q=pl.app (r::s)\/q=⟨.h m,0,r::s⟩)) ?_ (λ_ _ _ _=>rfl) (λB' dH=>⟨dH,ly B' (ZZ B' (jP.1 dH))⟩) ?_ h0 ?_
     ·rintro q i' c' ⟨r,s,h | h⟩
      ·exact⟨r,s++[(i',c')],.inl (by rw[h,<-Place.E8];rfl)⟩
      ·exact⟨r,s++[(i',c')],.inr (by rw[h];rfl)⟩
     ·rintro B' q o' ⟨r,s,hq⟩ dH;refine⟨dH,ly B' (λe=>?_)⟩;rw[e,Rr] at dH;simp only[au,db.row.injEq] at dH;have C8:q=qB:=dH.1.symm;have aai:∀r s,pl.app (r::s)≠pl:=λr s e=>by have:=fW Place.p e;simp[Place.app] at this
      have ZD:∀r s,(⟨.h m,0,r::s⟩:Place)≠⟨.h m,0,[]⟩:=λr s e=>by simp at e
      rcases Gr with h1 | h1<;>rcases hq with h2 | h2
      ·exact aai r s (by rw[<-h2,C8,h1])
      ·rcases C5 with h3 | h3
       ·have:pl=⟨.h m,0,r::s⟩:=by rw[<-h1,<-C8,h2]
        rw[this] at h3;simp[Key.aT] at h3
       ·exact ZD r s (by rw[<-h2,C8,h1,h3])
      ·rcases C5 with h3 | h3
       ·have:(pl.app (r::s)).k = .h m:=by rw[<-h2,C8,h1]
        simp only[Place.app] at this;rw[this] at h3;simp[Key.aT] at h3
       ·exact aai r s (by rw[<-h2,C8,h1,h3])
      ·exact ZD r s (by rw[<-h2,C8,h1])
     ·refine⟨(j,c),[],?_⟩;by_cases hj:j < min n0 rows.length
      ·rw[aP hj];exact .inl rfl
      ·rw[aI hj];exact .inr rfl
    ·intro hn;by_cases mu:src=[]
     ·rw[mu,oa] at hn;exact QC hn
     ·have hn:ni (rows++src)=false:=hn.resolve_right λe=>mu (VG.1 e).2
      obtain⟨k1,k2⟩:=wK.1 hn;by_cases yl:rows=[]
      ·exact QC (.inr yl)
      ·exact QC (.inl (wK.2 ⟨yl,λr hr=>k2 r (EO _ hr)⟩))
  ·refine fresh (some ⟨B,o,none⟩) cap (cur.extract o (o+rows.length * i.size)) n0 val rfl (by omega) (by simp;omega) ?_ fO ?_ dD (λe=>by rw[e] at F3;simp at F3;omega)
   ·intro w' pK;simp only[Builtin.firstCells];exact adt (w:=w') (e:=e') (fz:=fz) (by rw[pK];exact hB) (by omega)
   ·intro j c y hy;obtain⟨hj,hc⟩:=og fO hy;have af:=wv hj hc;have:=cH j c y hy;rw[cQ,VH];rw[aP (by omega),<-p9];exact this
 ·
  have hn:0 < src.length:=EP.2 aao;refine fresh none 0 #[] 0 (λ_ _=>undef) rfl (by simp;omega) (by simp) ?_ (by simp) (λi c x h=>by simp[cellOf] at h) (λi c x h=>by simp[cellOf] at h) aao;intro w' pK;simp[Builtin.firstCells]
end
end
section
structure Hint where
 nt:Nat
 NP:Nat
 res:List Nat
 abu:List (Nat×List Nat)
 adv:List (Nat×(Option (List Nat)×Bool))
 deriving Inhabited
def GG:Option TypeDesc->Bool
 | some .string=>true
 | _=>false
def N3 (P:Program) (e:TypeId):Bool:=
 match P.info? e with
 | some i=>match i.zero with
  | some (.bool false)=>true
  | _=>false
 | none=>false
def Si:Option TypeDesc->Bool
 | some .bool=>true
 | _=>false
def GH:Option TypeDesc->Bool
 | some (.int .u8)=>true
 | _=>false
def Bp:TypeId:=5
def akm:Option TypeDesc->Bool
 | some (.int _)=>true
 | some .bool=>true
 | some .string=>true
 | _=>false
def xB (e:TypeId) (b:Nat):Nat:=if e=Bp then b else if b=1 then 2 else b
section
variable (P:Program)
def jT (t:TypeId):Option Nat:=(P.info? t).map (·.size)
def P7 (t:TypeId):Option Nat:=
 match P.underlying t with
 | some (.slice e)=>jT P e
 | _=>none
def Ce (sz:Nat):Value->Option C
 | .int k n=>some (.d (.int k n))
 | .bool b=>some (.d (.bool b))
 | .string s=>some (.d (.str s.data.toList))
 | .slice none 0 0=>some (.d (.sl (.im true) sz []))
 | .pointer none=>some .c7
 | .nilFunc=>some .eY
 | .nilIface=>some .fQ
 | _=>none
def PF (sz:Nat) (v:Value):Option V:=(Ce sz v).map .one
def Pz:Nat->TypeId->Option (List Nat)
 | 0,_=>none
 | n+1,t=>
  match P.underlying t with
  | some (.struct fs)=>fs.toList.foldr (λf acc=>match Pz n f.type,acc with | some a,some b=>some (a++b) | _,_=>none) (some [])
  | some (.array k e)=>(Pz n e).map λl=>(List.replicate k l).flatten
  | some (.slice e)=>(jT P e).map λs=>[s]
  | _=>some [0]
def p5 (t:TypeId):Option (List C):=
 match P.info? t,Pz P 12 t with
 | some i,some l=>match i.zero with
  | some z=>if z.cells.size=l.length/\z.cells.size=i.size then(l.zip z.cells.toList).mapM λx=>Ce x.1 x.2 else none
  | none=>none
 | _,_=>none
def E6:TypeDesc->Bool
 | .struct _=>true
 | .array _ _=>true
 | _=>false
def sB (t:TypeId):Option (Nat×Bool):=
 match P.info? t,P.underlying t with
 | some i,some d=>some (i.size,E6 d)
 | _,_=>none
def QO:Nat->TypeId->Bool
 | 0,_=>true
 | n+1,t=>
  match P.underlying t with
  | some (.struct fs)=>fs.any λf=>QO n f.type
  | some (.array _ e)=>QO n e
  | some (.slice _)=>true
  | _=>false
variable (nm:FuncId->Option Nat) (h:Hint)
def qe (t:TypeId) (x:Operand):Option X:=
 match x with
 | .tmp i=>some (if h.NP<=i/\QO P 12 t=true then .t i else .s i)
 | .const v=>(PF ((P7 P t).getD 0) v).map .c
 | .func f=>(nm f).bind λn=>if n < kN then some (.f n) else none
 | .global _=>none
def dY (t:TypeId) (x:Operand):Option X:=
 match x with
 | .tmp i=>some (.s i)
 | .const v=>(PF ((P7 P t).getD 0) v).map .c
 | .func f=>(nm f).bind λn=>if n < kN then some (.f n) else none
 | .global _=>none
def Fz (f:Field):Option Fl:=
 if f.name = "_" then none else
 match P.underlying f.type with
 | some (.int _)=>some .int
 | some .bool=>some .bool
 | some .string=>some .str
 | _=>none
def FA:Nat->List Field->Option (List Fl)
 | _,[]=>some []
 | i,f::t=>if f.offset=i then
   match Fz P f,FA (i+1) t with
   | some x,some l=>some (x::l)
   | _,_=>none
  else none
def Zg (f:Field):Option (List Fl):=
 if f.name = "_" then none else
 match P.underlying f.type with
 | some (.struct gs)=>
  match FA P 0 gs.toList with
  | some l=>if P.stoodInHeld f.type=false/\jT P f.type=some l.length/\l.length≠0 then some l else none
  | none=>none
 | _=>none
def zX:Nat->List Field->Option (List Fl)
 | _,[]=>some []
 | i,f::t=>if f.offset=i then
   match Fz P f with
   | some x=>(zX (i+1) t).map (x :: ·)
   | none=>match Zg P f with
    | some l=>(zX (i+l.length) t).map (l ++ ·)
    | none=>none
  else none
def Cs (t:TypeId):Option (List Fl):=
 match P.underlying t with
 | some (.struct fs)=>if P.stoodInHeld t=false/\P.eqGuardType P.depth t=false then zX P 0 fs.toList else none
 | _=>none
def yu:Operand->Bool
 | .const _=>true
 | _=>false
def Jl (op:BinOp) (t:TypeId) (y:Operand):Option TC:=
 match op with
 | .eql | .neq=>
  match P.underlying t with
  | some (.int _)=>some .other
  | some .string=>some .other
  | some .bool=>some .bool
  | some (.struct _)=>(Cs P t).map .struct
  | some (.pointer _)=>some .ptr
  | some (.slice _)=>some .slice
  | some (.func _ _ _)=>some .func
  | some (.interface _)=>if yu y then some .iface else none
  | _=>none
 | _=>some .other
def aax (t:TypeId):Bool:=
 match P.underlying t with
 | some (.struct fs)=>
  match fs.toList with
  | [f,g]=>
   match P.underlying f.type,P.underlying g.type with
   | some (.pointer e),some (.slice b)=>decide (e=t)&&decide (b=Bp)
   | _,_=>false
  | _=>false
 | _=>false
def X8 (c:Call):Option oc:=
 match c.callee with
 | .value f=>do
  let f <-dY P nm 0 f
  if c.args.size=c.argTypes.size then
   let args <-(c.args.toList.zip c.argTypes.toList).mapM λx=>qe P nm h x.2 x.1
   let ls:=match f with | .f n=>(h.abu.lookup n).getD [] | _=>[]
   pure (.call f (args.zipIdx.map λx=>(ls.contains x.2,x.1)))
  else none
 | .builtin .len=>
  match c.args.toList,c.argTypes.toList with
  | [x],[t]=>match P.underlying t with
   | some .string=>(dY P nm t x).map (.len true)
   | some (.slice _)=>(dY P nm t x).map (.len false)
   | _=>none
  | _,_=>none
 | .builtin .append=>
  match c.args.toList,c.argTypes.toList with
  | [x,y],[t,u]=>match P.underlying t with
   | some (.slice e)=>do
    let i <-P.info? e
    let _ <-p5 P e
    let x <-qe P nm h t x
    match P.underlying u with
    | some (.slice _)=>do let y <-qe P nm h u y;if i.size=0\/i.bytes=0 then none else pure (if akm (P.underlying e) then .BP i.size (xB e i.bytes) x y else .app i.size (xB e i.bytes) x y)
    | some .string=>do let y <-dY P nm u y;if i.size=1/\i.bytes=1/\GH (P.underlying e)=true/\e=Bp then pure (.BN x y) else none
    | _=>none
   | _=>none
  | _,_=>none
 | .builtin .unsafeSliceData=>
  match c.args.toList,c.argTypes.toList with
  | [x],[t]=>(dY P nm t x).map .Ux
  | _,_=>none
 | .builtin .unsafeString=>
  match c.args.toList,c.argTypes.toList with
  | [x,y],[t,u]=>
   match P.underlying t with
   | some (.pointer e)=>if e=Bp/\P.cellsOf e=1 then do let x <-dY P nm t x;let y <-dY P nm u y;pure (.U' x y) else none
   | _=>none
  | _,_=>none
 | .builtin .min=>
  match c.args.toList,c.argTypes.toList with
  | [x,y],[t,u]=>do let x <-dY P nm t x;let y <-dY P nm u y;pure (.min x y)
  | _,_=>none
 | .builtin .max=>
  match c.args.toList,c.argTypes.toList with
  | [x,y],[t,u]=>do let x <-dY P nm t x;let y <-dY P nm u y;pure (.max x y)
  | _,_=>none
 | _=>none
def PD (fs:Array Field) (p:Nat×Operand):Option (Nat×Nat×X):=
 match fs[p.1]? with
 | some f=>
  match jT P f.type,qe P nm h f.type p.2 with
  | some n,some x=>if n=0 then none else some (f.offset,n,x)
  | _,_=>none
 | none=>none
def Jp (e:TypeId) (p:Nat×Operand):Option (Nat×X):=(qe P nm h e p.2).map λx=>(p.1,x)
def zJ (o:Oper):Option oc:=
 match o.op with
 | .move x=>(qe P nm h o.type x).map .Mu
 | .assign x=>(qe P nm h o.type x).map .Mu
 | .pick c a b=>do let c <-dY P nm 0 c;let a <-dY P nm o.type a;let b <-dY P nm o.type b;pure (.pick c a b)
 | .alloc e=>do
  let z <-p5 P e
  if aax P e=true then
   match z with
   | [.c7,_]=>some (.OH e z)
   | _=>none
  else some (.alloc z)
 | .box e v=>do let n <-jT P e;let x <-qe P nm h e v;if n=0 then none else if aax P e=true then pure (.OZ e n x) else pure (.box n x)
 | .build t parts=>do
  let z <-p5 P t
  match P.underlying t with
  | some (.struct fs)=>if(fs.toList.all λf=>(jT P f.type).isSome)=true then(parts.toList.mapM (PD P nm h fs)).map (.build z) else none
  | _=>none
 | .buildSlice t len parts=>do
  match P.underlying t with
  | some (.slice e)=>do
   let z <-p5 P e
   match mT z with
   | some row=>if len * z.length > 2 ^ 24\/z.length=0\/(tV row=true/\e≠Bp) then none else(parts.toList.mapM (Jp P nm h e)).map (.O4 (h.abu.lookup 1000000).isSome z.length (List.replicate len row))
   | none=>do
    let ps <-parts.toList.mapM (Jp P nm h e)
    if z.length=1/\len<=2 ^ 24/\ps.map (·.1)=List.range len then pure (.Qt (ps.map (·.2))) else none
  | _=>none
 | .load t a=>do let n <-sB P t;let x <-dY P nm 0 a;if n.1=0 then none else pure (.load n.1 n.2 x)
 | .store t a v=>do let n <-jT P t;let x <-dY P nm 0 a;let v <-qe P nm h t v;if n=0 then none else pure (.store (match a with | .tmp i=>h.res.contains i | _=>false) n x v)
 | .nilCheck x=>(dY P nm 0 x).map .Ti
 | .binOp op t x y _=>do
  let tc <-Jl P op t y
  let x' <-dY P nm t x
  let y' <-dY P nm t y
  pure (.bin tc op x' y')
 | .unOp op t x=>(dY P nm t x).map (.un op)
 | .convert s d x=>do
  let x' <-dY P nm s x
  match P.underlying s,P.underlying d with
  | some (.int _),some (.int k)=>pure (.conv (.int k) x')
  | some .string,some .string=>pure (.conv .same x')
  | some .string,some (.slice e)=>if GH (P.underlying e)=true/\e=Bp then pure (.conv .UX x') else none
  | some (.slice e),some .string=>if GH (P.underlying e)=true then pure (.conv .I8 x') else none
  | _,_=>none
 | .makeFunc (.func f) a b=>do
  let f <-(nm f).bind λn=>if n < kN then some n else none
  let a <-a.toList.mapM (dY P nm 0)
  let b <-b.toList.mapM (dY P nm 0)
  pure (.S6 f a b)
 | .makeSlice t l c=>
  match P.underlying t with
  | some (.slice e)=>do
   let i <-P.info? e
   let z <-p5 P e
   let row <-mT z
   let l <-dY P nm 0 l
   let c <-dY P nm 0 c
   if i.size=0 then none else pure (.S9 i.size (xB e i.bytes) row l c)
  | _=>none
 | .slice t x lo hi mx=>do
  let x <-dY P nm t x
  let lo <-(match lo with | none=>some none | some v=>(dY P nm 0 v).map some)
  let hi <-(match hi with | none=>some none | some v=>(dY P nm 0 v).map some)
  let mx <-(match mx with | none=>some none | some v=>(dY P nm 0 v).map some)
  match P.underlying t with
  | some .string=>if mx.isSome then none else pure (.UF x lo hi)
  | some (.slice e)=>do let n <-jT P e;if n=0\/(mx.isSome/\hi.isNone) then none else pure (.slice n x lo hi mx)
  | _=>none
 | .fieldAddr s x f=>
  match P.underlying s with
  | some (.struct fs)=>do
   let f <-fs[f]?
   let n <-jT P f.type
   let x <-dY P nm 0 x
   if n=0 then none else pure (.Qn f.offset x)
  | _=>none
 | .field t x f=>
  match P.underlying t with
  | some (.struct fs)=>do
   let f <-fs[f]?
   let n <-sB P f.type
   let x <-dY P nm t x
   pure (.field f.offset n.1 n.2 x)
  | _=>none
 | .indexAddr t x i=>
  match P.underlying t with
  | some (.slice e)=>do let n <-jT P e;let x <-dY P nm t x;let i <-dY P nm 0 i;if n=0 then none else pure (.Sg n x i)
  | some (.array k e)=>do let n <-jT P e;let x <-dY P nm 0 x;let i <-dY P nm 0 i;if n=0 then none else pure (.Sh k n x i)
  | _=>none
 | .index t x i=>
  match P.underlying t with
  | some .string=>do let x <-dY P nm t x;let i <-dY P nm 0 i;pure (.index x i)
  | _=>none
 | .extract x j=>(dY P nm 0 x).map (.extract j)
 | .makeInterface t x=>
  match P.underlying t with
  | some (.interface _)=>none
  | some _=>(dY P nm t x).map .S7
  | none=>none
 | .makeMap t r=>
  match P.underlying t with
  | some (.map k e)=>if GG (P.underlying k)=true/\Si (P.underlying e)=true/\r.isNone=true/\o.dst.isSome=true then some .S8 else none
  | _=>none
 | .lookup t m k ok=>
  match P.underlying t with
  | some (.map kt e)=>do let m <-dY P nm t m;let k <-dY P nm kt k;if GG (P.underlying kt)=true/\Si (P.underlying e)=true/\N3 P e=true/\ok=false then pure (.S5 m k) else none
  | _=>none
 | .mapUpdate t m k v=>
  match P.underlying t with
  | some (.map kt e)=>do let m <-dY P nm t m;let k <-dY P nm kt k;let v <-dY P nm e v;if GG (P.underlying kt)=true/\Si (P.underlying e)=true then pure (.Ta m k v) else none
  | _=>none
 | .call c=>X8 P nm h c
 | _=>none
def unordered (ops:Array Oper):List (Nat×Nat):=
 let b:=Region.before ops
 (List.range ops.size).flatMap λj=>(List.range j).filterMap λi=>
  if(b.getD j 0).testBit i then none else some (i,j)
def Jy (ops:Array Oper):Bool:=
 (List.range ops.size).all λi=>((ops[i]?).map λo=>o.after.all λe=>!Region.binds .any e||decide (e.on < i)).getD false
def Jq (ops:Array Oper) (o:Oper):Option gA:=
 if(o.dst.all λd=>decide (d < h.nt))=true then
  match o.guard with
  | none=>some ⟨o.dst,(zJ P nm h o).getD .bad,none⟩
  | some (j,b)=>
   match (ops[j]?).bind (·.dst) with
   | some d=>some ⟨o.dst,(zJ P nm h o).getD .bad,some (d,b)⟩
   | none=>none
 else none
def Fj (ops:Array Oper):Option (List gA):=ops.toList.mapM (Jq P nm h ops)
def Ro (l:List (Nat×(Option (List Nat)×Bool))) (id:Nat):Option (List Nat)×Bool:=
 match l with
 | []=>(none,false)
 | x::t=>if x.1=id then x.2 else Ro t id
def mS:Code->Option ma
 | .skip=>some .skip
 | .region id ops draw=>do
  let l <-Fj P nm h ops
  if draw=true/\Jy ops=false then none else
  pure (.iY (Ro h.adv id).1 (Ro h.adv id).2 l (if draw then some (unordered ops) else none))
 | .seq a b=>do let x <-mS a;let y <-mS b;pure (.seq x y)
 | .cond c a b=>do let c <-dY P nm 0 c;let x <-mS a;let y <-mS b;pure (.cond c x y)
 | .block id b=>(mS b).map (.block id)
 | .loop b=>(mS b).map .loop
 | .exit id=>some (.exit id)
 | .ret=>some .ret
 | _=>some (.iY none false [⟨none,.bad,none⟩] none)
def xJ:ResultVar->Option RV
 | .tmp t=>some (.slot t)
 | .cell a t=>do let n <-sB P t;pure (.cell a n.1 n.2)
def Fi (f:Func) (forget:Bool):Option lk:=do
 let c <-f.body
 if h.nt≠f.ntmps then none else
 let b <-mS P nm h c
 let rs <-f.results.toList.mapM (xJ P)
 pure ⟨f.ntmps,rs,b,forget⟩
end
end
section
def Bv (dst:Option Nat) (x:V) (ws:List Wr):List Wr:=
 match dst with
 | some d=>{ k:=.s d,v:=x } :: ws
 | none=>ws
def dN (nm:FuncId->Option Nat) (N:Nat) (S:St) (w0:World) (L0:aw) (a:Act) (dst:Option Nat) (x:V) (ws:List Wr) (v:Value) (w':World):Prop:=
 ∃L',ob nm N (S.ai (Bv dst x ws)) w0 L0 (a.put dst v) w' L'
def dx (P:Program) (a:Act) (w:World) (o:Oper) (R:Value->World->Prop):Prop:=
 match (execOp a.eval o).run P w with
 | .ok (.value v) w'=>R v w'
 | .ok .skip w'=>R undef w'
 | .ok (.enter f args) w'=>Calls P f args w' λe tY=>∃v,e = .returned v/\R v tY
 | .ok (.row row args) w'=>Rows P row args w' R
 | _=>False
def dx.wp {P:Program} {a:Act} {w:World} {o:Oper} {R:Value->World->Prop} (h:dx P a w o R) {next:Act->World->Prop} {Q:Exit->Act->World->Prop}
  (hr:∀v w',R v w'->next (a.put o.dst v) w'):o.wp P a w next Q:=by
 unfold dx at h;unfold Oper.wp;generalize (execOp a.eval o).run P w=r at h ⊢;cases r with
 | ok n w'=>
  cases n<;>simp only[Oper.upon] at h ⊢<;>first
   | exact h.elim
   | exact hr _ _ h
   | exact Rows.mono h (λv tY=>hr v tY)
   | exact Calls.mono h (λe tY=>by rintro⟨v,rfl,hR⟩;exact hr v tY hR)
 | halt x w'=>simp only at h
section
variable {nm:FuncId->Option Nat} {N:Nat} {S:St} {a:Act} {w:World} {L:aw} {P:Program} {o:Oper}
def dx.val {R:Value->World->Prop} {v:Value} {w':World} (h:(execOp a.eval o).run P w = .ok (.value v) w') (hr:R v w'):dx P a w o R:=by
 unfold dx;rw[h];exact hr
def dx.skip {R:Value->World->Prop} {w':World} (h:(execOp a.eval o).run P w = .ok .skip w') (hr:R undef w'):dx P a w o R:=by
 unfold dx;rw[h];exact hr
def Cf:Place->Option Place:=λq=>if q.k.aT=true then some q else none
def ahf {q q' t:Place} (h1:Cf q=some t) (h2:Cf q'=some t):q=q':=by
 unfold Cf at h1 h2;split at h1
 ·split at h2
  ·simp only[au] at h1 h2;rw[h1,h2]
  ·cases h2
 ·cases h1
def Rel.gj {S0:St} {ws:List Wr} {w':World} {L':aw} {w0:World} {L0:aw} (R:Rel nm N (S0.ai ws) a w' L') (hm:dc w0 w' L0 L') {dst:Option Nat} (hd:∀d,dst=some d->d < N) {m:Nat} {x:V} {v:Value}
  (hv:bJ nm w' L' (S0.ai ws).γ (.h m) x v):dN nm N S0 w0 L0 a dst x ws v w':=by
 cases dst with
 | some d=>
  obtain⟨L2,h1,h2,h3,_⟩:=R.aer (hd d rfl) hv;exact⟨L2,h1,hm.trans h3,h2⟩
 | none=>
  refine⟨cT Cf L',R.wZ (λq hq=>by simp[Cf,hq]) (λq q' t h1 h2=>ahf h1 h2),hm.trans (HW _),?_⟩;intro B q o hB;obtain⟨q0,_,h2⟩:=oR hB;unfold Cf at h2;split at h2
  ·rename_i h3;simp only[au] at h2;rw[<-h2];exact h3
  ·cases h2
def execOp_builtin {b:Builtin} {args:Array Operand} {ts:Array TypeId} (ho:o.op = .call ⟨.builtin b,args,ts⟩) (ρ:Operand->Value) :
  execOp ρ o=builtin b ts o.type (args.map λ| .const _=>true | _=>false) (args.map ρ):=by
 unfold execOp;simp only[ho];unfold resolve;simp only;rfl
def xa {s:Sem Value} {v:Value} {w':World} (h:s.run P w = .ok v w'):(do pure (Next.value (<-s)):Sem Next).run P w = .ok (.value v) w':=by
 simp[h]
def fp (R:Rel nm N S a w L) (hd:∀d,o.dst=some d->d < N) {x:V} {v:Value} (h:(execOp a.eval o).run P w = .ok (.value v) w) (hv:bJ nm w L S.γ (.h 0) x v) :
  dx P a w o (dN nm N S w L a o.dst x []):=
 .val h (Rel.gj (ws:=[]) R (dc.refl w L) hd hv)
def Js {sz:Nat} {v:Value} {c:C} (h:Ce sz v=some c):(∀(w:World) (L:aw) (γ:Key->Nat) (k:Key) (j:Nat),aC nm w L γ k j c v)/\c.own=false:=by
 unfold Ce at h;split at h
 ·cases h;exact⟨λ_ _ _ _ _=>.d (.plain .int),rfl⟩
 ·cases h;exact⟨λ_ _ _ _ _=>.d (.plain .bool),rfl⟩
 ·cases h;exact⟨λ_ _ _ _ _=>.d (.plain .str),rfl⟩
 ·cases h;exact⟨λ_ _ _ _ _=>.d (.plain .nil),rfl⟩
 ·cases h;exact⟨λ_ _ _ _ _=>.c7,rfl⟩
 ·cases h;exact⟨λ_ _ _ _ _=>.eY,rfl⟩
 ·cases h;exact⟨λ_ _ _ _ _=>.fQ,rfl⟩
 ·cases h
def eO {t:TypeId} {x:Operand} {X:X} (h:dY P nm t x=some X):bV nm X x/\X.iJ=true:=by
 cases x with
 | tmp i=>simp only[dY,au] at h;subst h;exact⟨.s,rfl⟩
 | const v=>
  simp only[dY,PF] at h;cases hc:Ce ((P7 P t).getD 0) v with
  | none=>simp[hc] at h
  | some c=>
   simp only[hc,fJ,au] at h;subst h;exact⟨.c λw L γ k=>.one ((Js hc).1 w L γ k 0),by simp[X.iJ,V.own,V.cells,(Js (nm:=nm) hc).2]⟩
 | func f=>
  simp only[dY] at h;cases hf:nm f with
  | none=>simp[hf] at h
  | some n=>
   simp only[hf,Option.bind_some] at h;split at h
   ·rename_i ht;simp only[au] at h;subst h;exact⟨.f hf ht,rfl⟩
   ·cases h
 | global g=>simp[dY] at h
def vL {hh:Hint} {t:TypeId} {x:Operand} {X:X} (h:qe P nm hh t x=some X):bV nm X x/\X.iJ=true:=by
 cases x with
 | tmp i=>
  simp only[qe,au] at h;subst h;split
  ·exact⟨.t,rfl⟩
  ·exact⟨.s,rfl⟩
 | const v=>exact eO (P:=P) (t:=t) h
 | func f=>exact eO (P:=P) (t:=t) h
 | global g=>simp[qe] at h
def rd_val (R:Rel nm N S a w L) {x:Operand} {X:X} (h:bV nm X x) {v:V} (hr:(rd X).run S=some v):bJ nm w L S.γ (.h 0) v (a.eval x):=ads R h hr (.h 0)
def bJ.cB {γ:Key->Nat} {k:Key} {c:C} {v:Value} (h:bJ nm w L γ k (.one c) v):aC nm w L γ k 0 c v:=by cases h with | one h=>exact h
def aC.rB {γ:Key->Nat} {k:Key} {j:Nat} {kk:IntKind} {n:Int} {v:Value} (h:aC nm w L γ k j (.d (.int kk n)) v):v = .int kk n:=by
 cases h with | d h=>cases h with | plain h=>cases h;rfl
def aC.sH {γ:Key->Nat} {k:Key} {j:Nat} {b:Bool} {v:Value} (h:aC nm w L γ k j (.d (.bool b)) v):v = .bool b:=by
 cases h with | d h=>cases h with | plain h=>cases h;rfl
def aC.r8 {γ:Key->Nat} {k:Key} {j:Nat} {b:List UInt8} {v:Value} (h:aC nm w L γ k j (.d (.str b)) v):v = .string ⟨b.toArray⟩:=by
 cases h with | d h=>cases h with | plain h=>cases h;rfl
def xw {γ:Key->Nat} {k:Key} {x:V} {n:Nat} {v:Value} (h:bJ nm w L γ k x v) (hn:asNat x=some n):∃kk,v = .int kk n:=by
 unfold asNat at hn;split at hn
 ·rename_i kk m;split at hn
  ·rename_i h0;simp only[au] at hn;refine⟨kk,?_⟩;rw[h.cB.rB,<-hn,Int.toNat_of_nonneg h0]
  ·cases hn
 ·cases hn
def Q.aL {α β:Type} {x:Q α} {f:α->Q β} {r:β} (h:(x >>= f).run S=some r):∃a,x.run S=some a/\(f a).run S=some r:=by
 rw[Q.run_bind] at h;cases hx:x.run S with
 | none=>simp[hx] at h
 | some a=>exact⟨a,rfl,by simpa[hx] using h⟩
def Q.ec {α:Type} {b:Bool} {f:Unit->Q α} {r:α} (h:(Q.guard b >>= f).run S=some r):b=true/\(f ()).run S=some r:=by
 obtain⟨u,h1,h2⟩:=Q.aL h;rw[Q.pW] at h1;split at h1
 ·exact⟨‹_›,h2⟩
 ·cases h1
def Q.gy {α β:Type} {x:Option α} {f:α->Q β} {r:β} (h:(Q.du x >>= f).run S=some r):∃y,x=some y/\(f y).run S=some r:=by
 obtain⟨u,h1,h2⟩:=Q.aL h;rw[Q.Eo] at h1;exact⟨u,h1,h2⟩
def Q.np {β:Type} {k:Key} {f:mO->Q β} {r:β} (h:(Q.at_ k >>= f).run S=some r):(f (S.get k)).run S=some r:=by
 obtain⟨u,h1,h2⟩:=Q.aL h;simp only[Q.w9,au] at h1;rw[h1];exact h2
def Q.aW {α:Type} {x r:α} (h:(pure x:Q α).run S=some r):r=x:=by simpa using h.symm
end
end
section
section
variable {nm:FuncId->Option Nat} {N:Nat} {S:St} {a:Act} {w:World} {L:aw} {P:Program} {o:Oper} {Cl:bX} {d:Nat} {r:V×List Wr}
def BU (s:List UInt8):(⟨s.toArray⟩:ByteArray).size=s.length:=by
 show s.toArray.size=s.length;simp
def aj3 (R:Rel nm N S a w L) (hd:∀d,o.dst=some d->d < N) {x:Operand} {X:ax.X} (hx:bV nm X x) (ho:o.op = .nilCheck x) (hr:(ch Cl d (.Ti X)).run S=some r) :
  dx P a w o (dN nm N S w L a o.dst r.1 r.2):=by
 simp only[ch] at hr;obtain⟨v,h1,h2⟩:=Q.aL hr;have hv:=rd_val R hx h1;have run:∀(u:Value),a.eval x=u->(∃ad,u = .pointer (some ad))\/(∃f b c,u = .func (.func f) b c)->(execOp a.eval o).run P w = .ok (.value (a.eval x)) w:=by
  intro u hu h;rcases h with⟨ad,rfl⟩ | ⟨f,b,c,rfl⟩<;>simp[execOp,ho,hu]
 split at h2
 ·obtain rfl:=Q.aW h2;refine fp R hd (run _ rfl (.inl ?_)) hv;cases hv.cB with | ptr hv=>exact hv
 ·obtain rfl:=Q.aW h2;refine fp R hd (run _ rfl (.inl ?_)) hv;cases hv.cB with | eB hv=>exact hv
 ·obtain rfl:=Q.aW h2;refine fp R hd (run _ rfl (.inl ?_)) hv;generalize a.eval x=u at hv;cases hv.cB with | pp=>exact⟨_,rfl⟩
 ·obtain⟨j8,h2⟩:=Q.ec h2;have j8:=Kz j8;obtain rfl:=Q.aW h2;refine fp R hd (run _ rfl (.inr ?_)) hv;generalize a.eval x=u at hv;cases hv.cB with
  | fn=>exact⟨_,_,_,rfl⟩
  | fns val hf=>exfalso;rcases hf with⟨h,_⟩ | ⟨h,_⟩<;>omega
 ·cases h2
def aj4 (R:Rel nm N S a w L) (hd:∀d,o.dst=some d->d < N) {c x y:Operand} {C' X Y:ax.X} (hc:bV nm C' c) (hx:bV nm X x) (hy:bV nm Y y) (ho:o.op = .pick c x y) (hr:(ch Cl d (.pick C' X Y)).run S=some r) :
  dx P a w o (dN nm N S w L a o.dst r.1 r.2):=by
 simp only[ch] at hr;obtain⟨v,h1,h2⟩:=Q.aL hr;have hv:=rd_val R hc h1;split at h2
 ·obtain⟨v2,h3,h4⟩:=Q.aL h2;obtain rfl:=Q.aW h4;exact fp R hd (by simp[execOp,ho,hv.cB.sH,asBool]) (rd_val R hx h3)
 ·obtain⟨v2,h3,h4⟩:=Q.aL h2;obtain rfl:=Q.aW h4;exact fp R hd (by simp[execOp,ho,hv.cB.sH,asBool]) (rd_val R hy h3)
 ·cases h2
def YY (R:Rel nm N S a w L) (hd:∀d,o.dst=some d->d < N) {x:Operand} {X:ax.X} {t:TypeId} {str:Bool} (hx:bV nm X x) (ho:o.op = .call ⟨.builtin .len,#[x],#[t]⟩)
  (ht:if str=true then P.underlying t=some .string else ∃e,P.underlying t=some (.slice e)) (hr:(ch Cl d (.len str X)).run S=some r) :
  dx P a w o (dN nm N S w L a o.dst r.1 r.2):=by
 cases str with
 | true=>
  simp only[dj] at ht;simp only[ch] at hr;obtain⟨v,h1,h2⟩:=Q.aL hr;have hv:=rd_val R hx h1;split at h2
  ·rename_i s;obtain rfl:=Q.aW h2;refine fp R hd (v:=.int .i64 s.length) ?_ (.one (.d (.plain .int)));rw[execOp_builtin ho,show (#[x]:Array Operand).map a.eval = #[a.eval x] from by simp];refine xa ?_;show (Builtin.len_ #[t] _ #[a.eval x]).run P w=_;rw[hv.cB.r8];simp[Builtin.len_,run_underlying ht,goInt,BU]
  ·cases h2
 | false=>
  simp only[xn,eX] at ht;obtain⟨e,ht⟩:=ht;simp only[ch] at hr;obtain⟨v,h1,h2⟩:=Q.aL hr;have hv:=rd_val R hx h1;have run:∀(n:Nat),(∃b c,a.eval x = .slice b n c)->(execOp a.eval o).run P w = .ok (.value (.int .i64 n)) w:=by
   rintro n ⟨b,c,hb⟩;rw[execOp_builtin ho,show (#[x]:Array Operand).map a.eval = #[a.eval x] from by simp];refine xa ?_;show (Builtin.len_ #[t] _ #[a.eval x]).run P w=_;rw[hb];simp[Builtin.len_,run_underlying ht,goInt]
  split at h2
  ·rename_i t' sz rows;obtain rfl:=Q.aW h2;refine fp R hd (run rows.length ?_) (.one (.d (.plain .int)));generalize a.eval x=u at hv;cases hv.cB with
   | d h=>
    cases h with
    | plain h=>
     cases h with
     | nil=>exact⟨_,_,rfl⟩
     | mE=>exact⟨_,_,rfl⟩
     | pl=>exact⟨_,_,rfl⟩
    | jg=>exact⟨_,_,rfl⟩
    | own=>exact⟨_,_,rfl⟩
  ·rename_i pl g sz off len;obtain rfl:=Q.aW h2;refine fp R hd (run len ?_) (.one (.d (.plain .int)));generalize a.eval x=u at hv;cases hv.cB with
   | view hv=>obtain⟨b,c,rfl,_⟩:=hv;exact⟨_,_,rfl⟩
  ·rename_i t0 f0 l0;obtain⟨l',hl,h2⟩:=Q.gy h2;obtain⟨rfl,rfl,rfl⟩:=C.fn.inj (Qq hl);obtain rfl:=Q.aW h2;refine fp R hd (run l0.length ?_) (.one (.d (.plain .int)));obtain⟨B,o',cap,cur,e',fz,val,hf,_⟩:=hv.cB.Qr (cp _);rcases hf with⟨_,h,_⟩ | ⟨h,_⟩
   ·exact⟨_,_,h⟩
   ·exact absurd h (by decide)
  ·cases h2
end
end
section
section
variable {nm:FuncId->Option Nat} {N:Nat} {S:St} {a:Act} {w:World} {L:aw} {P:Program} {o:Oper} {Cl:bX} {d:Nat} {r:V×List Wr}
def WG {t:TypeId} {n:Nat} {agg:Bool} (h:sB P t=some (n,agg)):∃i dd,P.info? t=some i/\P.underlying t=some dd/\i.size=n/\E6 dd=agg:=by
 unfold sB at h;split at h
 ·rename_i i dd h1 h2;simp only[au,iB] at h;exact⟨i,dd,h1,h2,h.1,h.2⟩
 ·cases h
def adY {t:TypeId} {n:Nat} {agg:Bool} (h:sB P t=some (n,agg)) (w:World):(isAgg t).run P w = .ok agg w:=by
 obtain⟨i,dd,h1,h2,h3,h4⟩:=WG h;subst h4;unfold isAgg;rw[Sem.run_bind,run_underlying h2,Result.andThen_ok];cases dd<;>rfl
def run_sizeOf {t:TypeId} {n:Nat} {agg:Bool} (h:sB P t=some (n,agg)) (w:World):(sizeOf t).run P w = .ok n w:=by
 obtain⟨i,dd,h1,h2,h3,h4⟩:=WG h;simp[sizeOf,typeInfo,h1,h3]
def y7 {t:TypeId} {n:Nat} (h:jT P t=some n) (w:World):(sizeOf t).run P w = .ok n w:=by
 unfold jT at h;cases hi:P.info? t with
 | none=>simp[hi] at h
 | some i=>
  simp only[hi,fJ,au] at h;simp[sizeOf,typeInfo,hi,h]
def xj (agg:Bool) (vs:List Value):Value:=if agg then .agg vs.toArray else vs.headD undef
def Uv {t:TypeId} {n:Nat} {agg:Bool} (h:sB P t=some (n,agg)) {B o:Nat} {vs:List Value} (hn:vs.length=n) (h1:agg=false->n=1) (hc:∀j v,vs[j]? = some v->w.cell? ⟨B,o+j,none⟩=some v) :
  (loadVar t ⟨B,o,none⟩).run P w = .ok (xj agg vs) w:=by
 unfold loadVar;rw[Sem.run_bind,adY h,Result.andThen_ok];cases agg with
 | true=>
  have:=run_loadCells_list (P:=P) w ⟨B,o,none⟩ vs (λj v hv=>by rw[pj];exact hc j v hv);simp[run_sizeOf h,<-hn,this,xj]
 | false=>
  have ou:=h1 rfl;cases vs with
  | nil=>simp at hn;omega
  | cons v t=>
   have:=hc 0 v rfl;simp only[mN] at this;simp[this,xj]
def yF {k:Key} {γ:Key->Nat} {agg:Bool} {cs:List C} {x:V} {vs:List Value} (h:(lU agg cs).run S=some x) (hl:cs.length=vs.length)
  (hc:∀j c v,cs[j]? = some c->vs[j]? = some v->aC nm w L γ k j c v):bJ nm w L γ k x (xj agg vs)/\(agg=false->cs.length=1):=by
 unfold lU at h;cases agg with
 | true=>
  simp only[dj,Q.run_pure,au] at h;subst h;exact⟨.agg (by simpa using hl) (λj c u h1 h2=>hc j c u h1 (by simpa using h2)),by simp⟩
 | false=>
  simp only[xn,eX] at h;split at h
  ·rename_i c;simp only[Q.run_pure,au] at h;subst h;cases vs with
   | nil=>simp at hl
   | cons v t=>exact⟨.one (hc 0 c v rfl rfl),λ_=>rfl⟩
  ·simp at h
def Nd {r:aJ}:∀(n c:Nat) {cs:List C},(wX r c n).run S=some cs->cs.length=n/\∀j,j < n->∃x,S.E (.b r (c+j)) = .one x/\cs[j]? = some (x.look (.b r (c+j)) (S.γ (.b r (c+j))) 0)
 | 0,c,cs,h=>by
  simp only[wX,Q.run_pure,au] at h;subst h;exact⟨rfl,λj hj=>by omega⟩
 | n+1,c,cs,h=>by
  simp only[wX] at h;have h:=Q.np h;split at h
  ·rename_i x hx;obtain⟨t,h1,h2⟩:=Q.aL h;obtain rfl:=Q.aW h2;obtain⟨g1,g2⟩:=Nd n (c+1) h1;refine⟨by simp[g1],λj hj=>?_⟩;cases j with
   | zero=>exact⟨x,hx,rfl⟩
   | succ j=>
    obtain⟨y,g3,g4⟩:=g2 j (by omega);refine⟨y,by rw[show c+(j+1)=c+1+j by omega];exact g3,?_⟩;rw[show c+(j+1)=c+1+j by omega];simpa using g4
  ·cases h
def abE (pl:Place) (g i:Nat):∀(row:List D) (c j:Nat),(rE pl g i c row)[j]? = (row[j]?).map λx=>SV (pl.sub i (c+j)) g x
 | [],c,j=>by simp[rE]
 | x::t,c,0=>by simp[rE]
 | x::t,c,j+1=>by
  simp only[rE,BA];rw[abE pl g i t (c+1) j,show c+1+j=c+(j+1) by omega]
def abF (pl:Place) (g i:Nat):∀(row:List D) (c:Nat),(rE pl g i c row).length=row.length
 | [],_=>rfl
 | x::t,c=>by simp[rE,abF pl g i t]
def TJ (R:Rel nm N S a w L) {pl:Place} (hk:pl.k.aT=true) {g sz:Nat} {res:mO×D×List (List D)} (h:(jO [] pl g sz).run S=some res) :
  g=S.γ pl.k/\∃u,bt w L pl (.sl .own sz res.2.2) u:=by
 obtain⟨h1,h2,h3,h4⟩:=u4 h;have M:=cf.init R;exact⟨h2,M.BS hk h3 h4⟩
def aqf {pl:Place} {γ:Key->Nat} {x:D} {v:Value} {k:Key} {j:Nat} (hk:pl.k.aT=true) (h:bt w L pl x v) :
  aC nm w L γ k j (SV pl (γ pl.k) x) v:=by
 have own:∀{sz:Nat} {rows:List (List D)} {v:Value},bt w L pl (.sl .own sz rows) v->aC nm w L γ k j (.view pl (γ pl.k) sz 0 rows.length) v:=by
  intro sz rows v h;refine .view h.aeq hk (cp _) (λ_=>?_);rcases h.nR with⟨rfl,a,rfl⟩ | ⟨B,o,cap,cur,e,fz,val,rfl,aY,hL,hB,c6,fO,eC,dU,cH,hr,dW⟩
  ·exact .inl ⟨rfl,a,rfl⟩
  ·exact .inr ⟨B,o,cap,cur,e,fz,by simp,aY,hL,hB,c6,eC,by omega,λ_ h0=>dW (.inr (p7.1 h0))⟩
 cases x with
 | sl t sz rows=>
  cases t with
  | own=>exact own h
  | im b=>cases h with | plain h=>exact .d (.plain h)
 | _=>cases h with | plain h=>exact .d (.plain h)
def ajU (R:Rel nm N S a w L) (hd:∀d,o.dst=some d->d < N) {x:Operand} {X:ax.X} {t:TypeId} {n:Nat} {agg:Bool} (hx:bV nm X x) (ho:o.op = .load t x) (ht:sB P t=some (n,agg))
  (hr:(ch Cl d (.load n agg X)).run S=some r):dx P a w o (dN nm N S w L a o.dst r.1 r.2):=by
 simp only[ch] at hr;obtain⟨v,h1,h2⟩:=Q.aL hr;have hv:=rd_val R hx h1;have run:∀(B o':Nat) (vs:List Value),a.eval x = .pointer (some ⟨B,o',none⟩)->vs.length=n->(agg=false->n=1)->(∀j v,vs[j]? = some v->w.cell? ⟨B,o'+j,none⟩=some v)->
   (execOp a.eval o).run P w = .ok (.value (xj agg vs)) w:=by
  intro B o' vs hb hn h1 hc;have:=Uv ht hn h1 hc;simp[execOp,ho,hb,Instr.loadAt,Instr.sureAddr,this]
 split at h2
 ·
  rename_i r0 g c;have h2:=Q.np h2;obtain⟨hg,h2⟩:=Q.ec h2;simp only[cI,zp,kv,gX] at hg;obtain⟨⟨hG,hg⟩,uE⟩:=hg;obtain⟨cs,h3,h2⟩:=Q.aL h2;obtain⟨x',h4,h2⟩:=Q.aL h2;obtain rfl:=Q.aW h2;obtain⟨hlen,FT⟩:=Nd n c h3;cases hv.cB with
  | ptr iI gR hp=>
   obtain⟨B,o',hB,cH⟩:=hp hg.symm;by_cases oz:n=0
   ·
    subst oz;have eJ:cs=[]:=p7.1 hlen;subst eJ;obtain⟨hm,CZ⟩:=yF (nm:=nm) (w:=w) (L:=L) (γ:=S.γ) (k:=.h 0) (vs:=[]) h4 rfl (λj c v h=>by simp at h);exact fp R hd (run B (o'+c) [] cH rfl (λh=>by have:=CZ h;simp at this) (λj v h=>by simp at h)) hm
   obtain⟨B',fm,cur,e,fz,k1,k2,k3,k4⟩:=R.room r0 hG (by have:c+n<=cr (S.E (.r r0)):=uE;omega);obtain rfl:=R.fy B' B r0 fm o' k1 hB;obtain rfl:fm=o':=by rw[k1] at hB;simpa using hB
   have akX:c+n<=cr (S.E (.r r0)):=uE;let vs:=(List.range n).map λj=>cur.getD (fm+c+j) undef
   have kV:∀j v,vs[j]? = some v->j < n/\cur[fm+c+j]? = some v:=by
    intro j v jo;simp only[vs,bQ] at jo;have hj:j < n:=by
     rcases zh j n with h | h
     ·exact h
     ·simp[zo,h] at jo
    have af:fm+c+j < cur.size:=by omega
    simp[hj,Array.getD,af] at jo;exact⟨hj,by simp[af,jo]⟩
   have qx:vs.length=n:=by simp[vs]
   have hm := yF (nm := nm) (w := w) (L := L) (γ := S.γ) (k := .h 0) (vs := vs) h4 (by rw[hlen, qx]) (by
     intro j c1 v1 dM nN
     obtain⟨hj, Aj⟩ := kV j v1 nN
     obtain⟨y, AA, yp⟩ := FT j hj
     rw[dM] at yp
     simp only[au] at yp
     subst yp
     by_cases jK : y = .dead
     · subst jK; exact .dead
     · have ow := R.cell r0 (c + j) y AA jK
       have : ∃ B o cur e fz v, L B = some (.box r0 o) /\ w.heap[B]? = some (.cells cur e fz) /\ jA cur.size fz /\ cur[o + (c + j)]? = some v /\ aC nm w L S.γ (.b r0 (c + j)) 0 y v := by
         cases r0 with
         | g i => simp[aJ.iT] at hG
         | e i => obtain⟨B, o, cur, e, fz, v, q1, q2, q3, q4, q5, _⟩ := ow; exact⟨B, o, cur, e, fz, v, q1, q2, q3, q4, q5⟩
         | l i => obtain⟨B, o, cur, e, fz, v, q1, q2, q3, q4, q5, _⟩ := ow; exact⟨B, o, cur, e, fz, v, q1, q2, q3, q4, q5⟩
       obtain⟨B2, o2, iF, e2, lu, v2, a1, a2, a3, a4, a5⟩ := this
       obtain rfl := R.fy B2 B' r0 o2 fm a1 k1
       obtain rfl : o2 = fm := by rw[a1] at k1; simpa using k1
       obtain⟨rfl, rfl, rfl⟩ : iF = cur /\ e2 = e /\ lu = fz := by rw[a2] at k2; simpa using k2
       rw[<- p9, Aj] at a4
       simp only[au] at a4
       subst a4
       exact a5.look rfl _ _)
   refine fp R hd (run B' (fm+c) vs cH qx (λh=>by rw[<-hlen];exact hm.2 h) (λj v h=>?_)) hm.1;rw[qW k2];exact(kV j v h).2
 ·
  rename_i cells;obtain⟨hg,h2⟩:=Q.ec h2;simp only[gX] at hg;obtain⟨x',h4,h2⟩:=Q.aL h2;obtain rfl:=Q.aW h2;have gM:=hv.cB;generalize q8:a.eval x=u at gM;cases gM with
  | @pp _ B o' cur e fz hL hB hp=>
   have hj:∀j,j < n->∃y u,cells[j]? = some y/\cur[o'+j]? = some u/\fK w L y u:=by
    intro j hj;obtain⟨u,g1,g2⟩:=hp j (cells[j]'(by omega)) (by simp);exact⟨_,u,by simp,g1,g2⟩
   let vs:=(List.range n).map λj=>cur.getD (o'+j) undef
   have qx:vs.length=n:=by simp[vs]
   have kV:∀j v,vs[j]? = some v->j < n/\cur[o'+j]? = some v:=by
    intro j v jo;simp only[vs,bQ] at jo;have nI:j < n:=by
     rcases zh j n with h | h
     ·exact h
     ·simp[zo,h] at jo
    obtain⟨y,u,_,g1,_⟩:=hj j nI;simp[nI,jW,g1] at jo;exact⟨nI,by rw[g1,jo]⟩
   have hm := yF (nm := nm) (w := w) (L := L) (γ := S.γ) (k := .h 0) (vs := vs) h4 (by simp[qx]; omega) (by
     intro j c1 v1 dM nN
     obtain⟨nI, Aj⟩ := kV j v1 nN
     obtain⟨y, u, g0, g1, g2⟩ := hj j nI
     rw[Aj] at g1
     simp only[au] at g1
     subst g1
     simp only[bQ, zm nI, g0, fJ, au] at dM
     subst dM
     exact .d (.plain g2))
   refine fp R hd (run B o' vs q8 qx (λh=>?_) (λj v h=>?_)) hm.1
   ·have:=hm.2 h;simp at this;omega
   ·rw[qW hB];exact(kV j v h).2
 ·
  rename_i pl g sz i c;obtain⟨res,h3,h2⟩:=Q.aL h2;obtain⟨row,dr,h2⟩:=Q.gy h2;obtain⟨hg,h2⟩:=Q.ec h2;simp only[gX] at hg;obtain⟨x',h4,h2⟩:=Q.aL h2;obtain rfl:=Q.aW h2;cases hv.cB with
  | eB iI hh gR hp=>
   obtain⟨kC,u,hu⟩:=TJ R hh h3;obtain⟨B,o',hB,cH⟩:=hp kC;rcases hu.nR with⟨pJ,_⟩ | ⟨B',fm,cap,cur,e,fz,val,_,aY,fY,dH,c6,fO,eC,dU,Dc,dV,dW⟩
   ·rw[pJ] at dr;simp at dr
   obtain rfl:=R.ey B' B pl fm o' fY hB;obtain rfl:fm=o':=by rw[fY] at hB;simpa using hB
   have iu:row.length=sz:=fO row (ff dr);have hj:∀j,j < n->∃y,row[c+j]? = some y/\cellOf res.2.2 i (c+j)=some y:=by
    intro j hj;refine⟨row[c+j]'(by omega),by simp,kM.2 ⟨row,dr,by simp⟩⟩
   let vs:=(List.range n).map λj=>val i (c+j)
   have qx:vs.length=n:=by simp[vs]
   have kV:∀j v,vs[j]? = some v->j < n/\v=val i (c+j):=by
    intro j v jo;simp only[vs,bQ] at jo;have nI:j < n:=by
     rcases zh j n with h | h
     ·exact h
     ·simp[zo,h] at jo
    simp[nI] at jo;exact⟨nI,jo.symm⟩
   have nK:(rE pl g i c ((row.drop c).take n)).length=n:=by rw[abF];simp;omega
   have hm := yF (nm := nm) (w := w) (L := L) (γ := S.γ) (k := .h 0) (vs := vs) h4 (by rw[nK, qx]) (by
     intro j c1 v1 dM nN
     obtain⟨nI, rfl⟩ := kV j v1 nN
     obtain⟨y, g0, g1⟩ := hj j nI
     rw[abE, zm nI, vr, g0] at dM
     simp only[fJ, au] at dM
     have := aqf (nm := nm) (γ := S.γ) (k := .h 0) (j := j) (pl := pl.sub i (c + j)) hh (dV i (c + j) y g1)
     have kP : S.γ (pl.sub i (c + j)).k = g := kC.symm
     rw[kP] at this
     rw[<- dM]
     exact this)
   refine fp R hd (run B' (fm+i * sz+c) vs cH qx (λh=>?_) (λj v h=>?_)) hm.1
   ·have:=hm.2 h;rw[nK] at this;exact this
   ·obtain⟨nI,rfl⟩:=kV j v h;obtain⟨y,g0,g1⟩:=hj j nI;rw[qW dH];have:=Dc i (c+j) y g1;rwa[<-p9] at this
 ·
  rename_i t0 f0 l0;obtain⟨l',hl,h2⟩:=Q.gy h2;obtain⟨rfl,rfl,rfl⟩:=C.fn.inj (Qq hl);obtain⟨hg,h2⟩:=Q.ec h2;have Z9:l0.length=n:=by simpa using hg
  obtain⟨x',h4,h2⟩:=Q.aL h2;obtain rfl:=Q.aW h2;obtain⟨B,o',cap,cur,e',fz,val,hf,hL,hB,aU,oF,dV⟩:=hv.cB.Qr (by omega);rcases hf with⟨h,_⟩ | ⟨_,cH⟩
  ·exact absurd h (by decide)
  ·let vs:=(List.range n).map val;have qx:vs.length=n:=by simp[vs]
   have kV:∀j v,vs[j]? = some v->j < n/\v=val j:=by
    intro j v jo;simp only[vs,bQ] at jo;rcases zh j n with hj | hj
    ·rw[VO hj] at jo;simp only[fJ,au] at jo;exact⟨hj,jo.symm⟩
    ·simp[zo,hj] at jo
   have hm := yF (nm := nm) (w := w) (L := L) (γ := S.γ) (k := .h 0) (vs := vs) h4 (by rw[qx, Z9]) (by
     intro j c1 v1 dM nN
     obtain⟨nI, rfl⟩ := kV j v1 nN
     exact(dV j c1 dM).any (jG aU dM) _ _)
   refine fp R hd (run B o' vs cH qx (λh=>?_) (λj v h=>?_)) hm.1
   ·have:=hm.2 h;omega
   ·obtain⟨nI,rfl⟩:=kV j v h;rw[qW hB];exact oF j (by omega)
 ·cases h2
end
end
section
section
variable {nm:FuncId->Option Nat} {N:Nat} {S:St} {a:Act} {w:World} {L:aw} {P:Program} {o:Oper} {Cl:bX} {d:Nat} {r:V×List Wr}
def ajP (R:Rel nm N S a w L) (hd:∀d,o.dst=some d->d < N) {x:Operand} {X:ax.X} {s:TypeId} {i:Nat} {fs:Array Field} {f:Field} {n:Nat} (hx:bV nm X x) (ho:o.op = .fieldAddr s x i)
  (hs:P.underlying s=some (.struct fs)) (hf:fs[i]? = some f) (hn:jT P f.type=some n) (oz:n≠0) (hr:(ch Cl d (.Qn f.offset X)).run S=some r) :
  dx P a w o (dN nm N S w L a o.dst r.1 r.2):=by
 simp only[ch] at hr;obtain⟨v,h1,h2⟩:=Q.aL hr;clear hr;have hv:=rd_val R hx h1;have run:∀ad:Addr,a.eval x = .pointer (some ad)->(execOp a.eval o).run P w = .ok (.value (.pointer (some (ad.add f.offset)))) w:=by
  intro ad hb;have:(Instr.fieldAt s (a.eval x) i).run P w = .ok (.pointer (some (ad.add f.offset))) w:=by
   rw[hb];simp[Instr.fieldAt,run_underlying hs,hf,Instr.sureAddr,fieldPlace,y7 hn,oz]
  simp[execOp,ho,this]
 split at h2
 ·rename_i r0 g c;obtain rfl:=Q.aW h2;cases hv.cB with
  | ptr iI hg h=>
   obtain⟨ad,xV⟩:=iI;refine fp R hd (run ad xV) (.one (.ptr ⟨_,rfl⟩ hg (λhe=>?_)));obtain⟨B,o',hB,hb⟩:=h he;rw[xV] at hb;simp only[Value.pointer.injEq,au] at hb;subst hb;exact⟨B,o',hB,by rw[pj,p9]⟩
 ·rename_i cells;obtain rfl:=Q.aW h2;have gM:=hv.cB;generalize q8:a.eval x=u at gM;cases gM with
  | @pp _ B o' cur e fz hL hB hp=>
   refine fp R hd (run _ q8) ?_;rw[pj];refine .one (.pp hL hB ?_);intro q y hq;rw[vr] at hq;have:=hp (f.offset+q) y hq;rwa[<-p9] at this
 ·rename_i pl g sz j c;obtain rfl:=Q.aW h2;cases hv.cB with
  | eB iI hh hg h=>
   obtain⟨ad,xV⟩:=iI;refine fp R hd (run ad xV) (.one (.eB ⟨_,rfl⟩ hh hg (λhe=>?_)));obtain⟨B,o',hB,hb⟩:=h he;rw[xV] at hb;simp only[Value.pointer.injEq,au] at hb;subst hb;exact⟨B,o',hB,by rw[pj,p9]⟩
 ·cases h2
def bJ.OG {γ:Key->Nat} {k:Key} {cs:List C} {v:Value} (h:bJ nm w L γ k (.agg cs) v):∃vs:Array Value,v = .agg vs/\cs.length=vs.size/\∀(j:Nat) c u,cs[j]? = some c->vs[j]? = some u->aC nm w L γ k j c u:=by
 cases h with | agg hl h=>exact⟨_,rfl,hl,h⟩
def aC.at_ {γ:Key->Nat} {k k':Key} {j j':Nat} {c:C} {v:Value} (h:aC nm w L γ k j c v) (hc:c.own=false):aC nm w L γ k' j' c v:=h.any (h.uv hc) k' j'
def ajO (R:Rel nm N S a w L) (hd:∀d,o.dst=some d->d < N) {x:Operand} {X:ax.X} {s:TypeId} {i:Nat} {fs:Array Field} {f:Field} {n:Nat} {agg:Bool} (hx:bV nm X x) (bh:X.iJ=true) (ho:o.op = .field s x i)
  (hs:P.underlying s=some (.struct fs)) (hf:fs[i]? = some f) (hn:sB P f.type=some (n,agg)) (hr:(ch Cl d (.field f.offset n agg X)).run S=some r) :
  dx P a w o (dN nm N S w L a o.dst r.1 r.2):=by
 simp only[ch] at hr;obtain⟨v,h1,h2⟩:=Q.aL hr;clear hr;have hv:=rd_val R hx h1;have aU:=Nc bh h1;split at h2
 ·rename_i cs;obtain⟨hg,nH⟩:=Q.ec h2;clear h2;have h2:=nH;clear nH
  simp only[gX] at hg;obtain⟨x',h4,h2⟩:=Q.aL h2;obtain rfl:=Q.aW h2;obtain⟨vs,kV,hl,hc⟩:=hv.OG;let us:=(vs.toList.drop f.offset).take n;have hul:us.length=n:=by simp[us];omega
  have hm := yF (nm := nm) (w := w) (L := L) (γ := S.γ) (k := .h 0) (vs := us) h4 (by rw[hul]; simp; omega) (by
    intro j c1 v1 dM nN
    have hj : j < n := by rw[<- hul]; exact(cd.1 nN).1
    simp only[us] at nN
    rw[zm hj, vr] at dM nN
    exact(hc (f.offset + j) c1 v1 dM (by simpa using nN)).at_ (MQ aU dM))
  refine fp R hd (v:=xj agg us) ?_ hm.1;have:(Instr.field s (a.eval x) i).run P w = .ok (xj agg us) w:=by
   rw[kV];simp only[Instr.field,Sem.run_bind,run_underlying hs,Result.andThen_ok,hf,asAgg,Sem.run_pure,part,adY hn];cases agg with
   | true=>
    simp only[dj,Sem.run_bind,run_sizeOf hn,Result.andThen_ok,Sem.run_pure,xj];congr 2;apply zi;simp[us,List.drop_take]
   | false=>
    have nM:n=1:=by have:=hm.2 rfl;simp at this;omega
    subst nM;have af:f.offset < vs.size:=by omega
    have:vs[f.offset]? = some vs[f.offset]:=by simp[af]
    simp only[xn,eX,this,Sem.run_pure,xj];congr 1;have cA:vs.toList.drop f.offset=vs[f.offset]::vs.toList.drop (f.offset+1):=by
     rw[ku (by simpa using af)];simp
    simp[us,cA]
  simp[execOp,ho,this]
 ·cases h2
def ajN (R:Rel nm N S a w L) (hd:∀d,o.dst=some d->d < N) {x:Operand} {X:ax.X} {j:Nat} (hx:bV nm X x) (ho:o.op = .extract x j) (hr:(ch Cl d (.extract j X)).run S=some r) :
  dx P a w o (dN nm N S w L a o.dst r.1 r.2):=by
 simp only[ch] at hr;obtain⟨v,h1,h2⟩:=Q.aL hr;clear hr;have hv:=rd_val R hx h1;split at h2
 ·rename_i vs;obtain⟨y,hy,h2⟩:=Q.gy h2;obtain rfl:=Q.aW h2;generalize q8:a.eval x=u at hv;cases hv with
  | @ao _ us hl aU h=>
   have hj:j < us.size:=by rw[<-hl];exact(cd.1 hy).1
   refine fp R hd (v:=us[j]) ?_ (h j y us[j] hy (by simp[hj]));have:us[j]? = some us[j]:=by simp[hj]
   simp[execOp,ho,q8,Instr.extract,this]
 ·cases h2
def ajR (R:Rel nm N S a w L) (hd:∀d,o.dst=some d->d < N) {x i:Operand} {X I:ax.X} {t:TypeId} (hx:bV nm X x) (hi:bV nm I i) (ho:o.op = .index t x i) (ht:P.underlying t=some .string)
  (hr:(ch Cl d (.index X I)).run S=some r):dx P a w o (dN nm N S w L a o.dst r.1 r.2):=by
 simp only[ch] at hr;obtain⟨v,h1,eN⟩:=Q.aL hr;clear hr;have hr:=eN;clear eN
 have hv:=rd_val R hx h1;obtain⟨vi,h3,eN⟩:=Q.aL hr;clear hr;have hr:=eN;clear eN
 obtain⟨n,hn,h2⟩:=Q.gy hr;clear hr;obtain⟨kk,Gy⟩:=xw (rd_val R hi h3) hn;split at h2
 ·rename_i s;obtain⟨b,hb,h2⟩:=Q.gy h2;obtain rfl:=Q.aW h2;refine fp R hd (v:=.int .u8 b.toNat) ?_ (.one (.d (.plain .int)));have hs:=hv.cB.r8;have af:=(cd.1 hb).1;have vT:(⟨s.toArray⟩:ByteArray)[n]? = some b:=by
   have h2:n < (⟨s.toArray⟩:ByteArray).size:=by rw[BU];exact af
   obtain⟨_,he⟩:=cd.1 hb;rw[show (⟨s.toArray⟩:ByteArray)[n]? = some ((⟨s.toArray⟩:ByteArray)[n]'h2) from by simp[h2]];rw[<-he];rfl
  have:(Instr.index t (a.eval x) (a.eval i)).run P w = .ok (.int .u8 b.toNat) w:=by
   rw[hs,Gy];simp[Instr.index,asIntOf,run_underlying ht,vT]
  simp[execOp,ho,this]
 ·cases h2
def ajZ (R:Rel nm N S a w L) (hd:∀d,o.dst=some d->d < N) {x:Operand} {X:ax.X} {t:TypeId} {dd:TypeDesc} (ho:o.op = .makeInterface t x) (ht:P.underlying t=some dd) (vW:∀m,dd≠.interface m)
  (hr:(ch Cl d (.S7 X)).run S=some r):dx P a w o (dN nm N S w L a o.dst r.1 r.2):=by
 simp only[ch] at hr;obtain rfl:=Q.aW hr;refine fp R hd (v:=.iface t (a.eval x)) ?_ (.one .fk);have:(Instr.makeInterface t (a.eval x)).run P w = .ok (.iface t (a.eval x)) w:=by
  unfold Instr.makeInterface;rw[Sem.run_bind,run_underlying ht,Result.andThen_ok];cases dd<;>first | rfl | exact absurd rfl (vW _)
 simp[execOp,ho,this]
def ajX (R:Rel nm N S a w L) (hd:∀d,o.dst=some d->d < N) {x y:Operand} {X Y:ax.X} {ts:Array TypeId} (hx:bV nm X x) (hy:bV nm Y y) (ho:o.op = .call ⟨.builtin .min,#[x,y],ts⟩)
  (hr:(ch Cl d (.min X Y)).run S=some r):dx P a w o (dN nm N S w L a o.dst r.1 r.2):=by
 simp only[ch] at hr;obtain⟨v,h1,eN⟩:=Q.aL hr;clear hr;have hr:=eN;clear eN
 obtain⟨v2,h3,h2⟩:=Q.aL hr;clear hr;split at h2
 ·rename_i k m k' n;obtain rfl:=Q.aW h2;refine fp R hd (v:=.int k (if n < m then n else m)) ?_ (.one (.d (.plain .int)));rw[execOp_builtin ho,show (#[x,y]:Array Operand).map a.eval = #[a.eval x,a.eval y] from by simp];refine xa ?_;show (Builtin.min_ ts _ #[a.eval x,a.eval y]).run P w=_;rw[(rd_val R hx h1).cB.rB,(rd_val R hy h3).cB.rB];simp[Builtin.min_,Builtin.min2]
 ·cases h2
def ajV (R:Rel nm N S a w L) (hd:∀d,o.dst=some d->d < N) {x y:Operand} {X Y:ax.X} {ts:Array TypeId} (hx:bV nm X x) (hy:bV nm Y y) (ho:o.op = .call ⟨.builtin .max,#[x,y],ts⟩)
  (hr:(ch Cl d (.max X Y)).run S=some r):dx P a w o (dN nm N S w L a o.dst r.1 r.2):=by
 simp only[ch] at hr;obtain⟨v,h1,eN⟩:=Q.aL hr;clear hr;have hr:=eN;clear eN
 obtain⟨v2,h3,h2⟩:=Q.aL hr;clear hr;split at h2
 ·rename_i k m k' n;obtain rfl:=Q.aW h2;refine fp R hd (v:=.int k (if n > m then n else m)) ?_ (.one (.d (.plain .int)));rw[execOp_builtin ho,show (#[x,y]:Array Operand).map a.eval = #[a.eval x,a.eval y] from by simp];refine xa ?_;show (Builtin.max_ ts _ #[a.eval x,a.eval y]).run P w=_;rw[(rd_val R hx h1).cB.rB,(rd_val R hy h3).cB.rB];simp[Builtin.max_,Builtin.max2]
 ·cases h2
def ajT (R:Rel nm N S a w L) (hd:∀d,o.dst=some d->d < N) {x i:Operand} {X I:ax.X} {t e:TypeId} {k sz:Nat} (hx:bV nm X x) (hi:bV nm I i) (ho:o.op = .indexAddr t x i)
  (ht:P.underlying t=some (.array k e)) (hs:jT P e=some sz) (hr:(ch Cl d (.Sh k sz X I)).run S=some r):dx P a w o (dN nm N S w L a o.dst r.1 r.2):=by
 simp only[ch] at hr;obtain⟨v,h1,eN⟩:=Q.aL hr;clear hr;have hr:=eN;clear eN
 have hv:=rd_val R hx h1;obtain⟨vi,h3,eN⟩:=Q.aL hr;clear hr;have hr:=eN;clear eN
 obtain⟨n,hn,h2⟩:=Q.gy hr;clear hr;obtain⟨kk,Gy⟩:=xw (rd_val R hi h3) hn;obtain⟨af,nH⟩:=Q.ec h2;clear h2;have h2:=nH;clear nH
 simp only[gX] at af;split at h2
 ·rename_i r0 g c;obtain rfl:=Q.aW h2;cases hv.cB with
  | ptr iI hg h=>
   obtain⟨ad,xV⟩:=iI;have:(Instr.indexAt t (a.eval x) (a.eval i)).run P w = .ok (.pointer (some (ad.add (n * sz)))) w:=by
    rw[xV,Gy];have Ap:¬ k<=n:=by omega
    simp[Instr.indexAt,asIntOf,run_underlying ht,Instr.sureAddr,y7 hs,af]
   refine fp R hd (by simp[execOp,ho,this];rfl) (.one (.ptr ⟨_,rfl⟩ hg (λhe=>?_)));obtain⟨B,o',hB,hb⟩:=h he;rw[xV] at hb;simp only[Value.pointer.injEq,au] at hb;subst hb;exact⟨B,o',hB,by rw[pj,p9]⟩
 ·cases h2
def ajS (R:Rel nm N S a w L) (hd:∀d,o.dst=some d->d < N) {x i:Operand} {X I:ax.X} {t e:TypeId} {sz:Nat} (hx:bV nm X x) (hi:bV nm I i) (ho:o.op = .indexAddr t x i)
  (ht:P.underlying t=some (.slice e)) (hs:jT P e=some sz) (hr:(ch Cl d (.Sg sz X I)).run S=some r):dx P a w o (dN nm N S w L a o.dst r.1 r.2):=by
 simp only[ch] at hr;obtain⟨v,h1,eN⟩:=Q.aL hr;clear hr;have hr:=eN;clear eN
 have hv:=rd_val R hx h1;obtain⟨vi,h3,eN⟩:=Q.aL hr;clear hr;have hr:=eN;clear eN
 obtain⟨n,hn,h2⟩:=Q.gy hr;clear hr;obtain⟨kk,Gy⟩:=xw (rd_val R hi h3) hn;have run:∀(ad:Addr) (len cap:Nat),a.eval x = .slice (some ad) len cap->n < len->(execOp a.eval o).run P w = .ok (.value (.pointer (some (ad.add (n * sz))))) w:=by
  intro ad len cap hb af;have:(Instr.indexAt t (a.eval x) (a.eval i)).run P w = .ok (.pointer (some (ad.add (n * sz)))) w:=by
   rw[hb,Gy];simp[Instr.indexAt,asIntOf,run_underlying ht,y7 hs,af]
  simp[execOp,ho,this]
 split at h2
 ·cases h2
 ·rename_i t' da rows s7;obtain⟨hg,nH⟩:=Q.ec h2;clear h2;have h2:=nH;clear nH
  simp only[kv] at hg;subst hg;obtain⟨row,dr,h2⟩:=Q.gy h2;obtain rfl:=Q.aW h2;have gM:=hv.cB;generalize q8:a.eval x=u at gM;cases gM with
  | d h=>
   cases h with
   | plain h=>
    cases h with
    | nil=>simp at dr
    | mE=>simp at dr
    | @pl da rows B o' cap cur e' fz val aD aY QY hL hB hlen oF dV=>
     have af:=(cd.1 dr).1;refine fp R hd (run ⟨B,o',none⟩ rows.length cap q8 af) ?_;rw[pj];refine .one (.pp hL hB ?_);intro q y hq;have hc:cellOf rows n q=some y:=kM.2 ⟨row,dr,hq⟩;exact⟨val n q,oF n q y hc,dV n q y hc⟩
   | jg=>simp at dr
   | own=>simp at s7
 ·rename_i pl g da off len;obtain⟨hg,nH⟩:=Q.ec h2;clear h2;have h2:=nH;clear nH
  simp only[cI,kv,gX] at hg;obtain⟨rfl,af⟩:=hg;obtain rfl:=Q.aW h2;cases hv.cB with
  | view iI hh gR h=>
   obtain⟨b,c,hb,uI,qm⟩:=iI;have akU:b.isSome=true:=qm;obtain⟨ad,rfl⟩:=zk.1 akU;refine fp R hd (run ad len c hb af) (.one (.eB ⟨_,rfl⟩ hh gR (λhe=>?_)));rcases h he with⟨h0,_⟩ | ⟨B,o',cap,cur,e',fz,cH,aY,hL,hB,_⟩
   ·omega
   ·rw[hb] at cH;simp only[Value.slice.injEq,au,nD] at cH;obtain⟨rfl,_⟩:=cH;exact⟨B,o',hL,by rw[pj,lJ,mN,p9]⟩
 ·rename_i t0 f0 l0;obtain⟨l',hl,nH⟩:=Q.gy h2;clear h2;obtain⟨rfl,rfl,rfl⟩:=C.fn.inj (Qq hl);obtain⟨hg,h2⟩:=Q.ec nH;clear nH;obtain⟨c,hc,h2⟩:=Q.gy h2;obtain rfl:=Q.aW h2;have aY:sz=1:=by simpa using hg
  subst aY;obtain⟨B,o',cap,cur,e',fz,val,hf,hL,hB,aU,oF,dV⟩:=hv.cB.Qr (cp _);have af:=(cd.1 hc).1;rcases hf with⟨_,h,_⟩ | ⟨h,_⟩
  ·refine fp R hd (run _ _ _ h af) ?_;rw[pj];refine .one (.fns (B:=B) (o:=o'+n * 1) (cap:=0) (λi=>val (n+i)) (.inr ⟨rfl,rfl⟩) hL hB (by simp[jZ,jG aU hc]) ?_ ?_)
   ·intro i hi;have hi0:i=0:=by simpa using hi
    subst hi0;have:=oF n af;simpa using this
   ·intro i x hx;cases i with
    | zero=>
     simp only[qQ,au] at hx;subst hx;exact dV n c hc
    | succ i=>simp at hx
  ·exact absurd h (by decide)
 ·cases h2
end
end
section
section
variable {nm:FuncId->Option Nat} {N:Nat} {S:St} {a:Act} {w:World} {L:aw} {P:Program} {o:Oper} {Cl:bX} {d:Nat} {r:V×List Wr}
def akb {op:BinOp} {t yt:TypeId} {x y:Operand} (ho:o.op = .binOp op t x y yt) (hg:(eqGuard op t x y (a.eval x) (a.eval y)).run P w = .ok () w) {v:Value} (hb:(binOp op t (a.eval x) (a.eval y)).run P w = .ok v w) :
  (execOp a.eval o).run P w = .ok (.value v) w:=by
 simp[execOp,ho,hg,hb]
def Fp {op:BinOp} {t:TypeId} {x y:Operand} {u v:Value} (h1:∀p q,u = .agg p->v = .agg q->False) (h2:u = .nilIface->v = .nilIface->(yu x=true\/yu y=true)) :
  (eqGuard op t x y u v).run P w = .ok () w:=by
 unfold eqGuard;by_cases ho:op = .eql\/op = .neq
 ·have hm:(match op with | .eql=>true | .neq=>true | _=>false)=true:=by rcases ho with rfl | rfl<;>rfl
  rcases ho with rfl | rfl;all_goals
   simp only[Wb,xn,eX]
   cases u<;>cases v<;>first
    | rfl
    | exact(h1 _ _ rfl rfl).elim
    | (rcases h2 rfl rfl with hc | hc
       · cases x <;> simp_all[yu]
       · cases y <;> simp_all[yu])
 ·have ou:op≠.eql:=λe=>ho (.inl e)
  have nH:op≠.neq:=λe=>ho (.inr e)
  cases op<;>first | rfl | exact absurd rfl ou | exact absurd rfl nH
def alK {op:BinOp} {k:IntKind} {x y:Int} {t:TypeId} {z:D} (h:Dg op k x y=some z) (ka:op≠.shl) (mq:op≠.shr):∃v,(binOp op t (.int k x) (.int k y)).run P w = .ok v w/\fK w L z v:=by
 cases op;case add=>cases h;exact⟨_,by simp[binOp,Op.intArith],.int⟩
 case sub=>cases h;exact⟨_,by simp[binOp,Op.intArith],.int⟩
 case mul=>cases h;exact⟨_,by simp[binOp,Op.intArith],.int⟩
 case and=>cases h;exact⟨_,by simp[binOp,Op.intBits],.int⟩
 case or=>cases h;exact⟨_,by simp[binOp,Op.intBits],.int⟩
 case xor=>cases h;exact⟨_,by simp[binOp,Op.intBits],.int⟩
 case andNot=>cases h;exact⟨_,by simp[binOp,Op.intBits],.int⟩
 case eql=>cases h;exact⟨_,by simp[binOp,Op.intCmp],.bool⟩
 case neq=>cases h;exact⟨_,by simp[binOp,Op.intCmp],.bool⟩
 case lss=>cases h;exact⟨.bool (decide (x < y)),by simp[binOp,Op.intCmp],.bool⟩
 case leq=>cases h;exact⟨.bool (decide (x<=y)),by simp[binOp,Op.intCmp],.bool⟩
 case gtr=>cases h;exact⟨.bool (decide (x > y)),by simp[binOp,Op.intCmp],.bool⟩
 case geq=>cases h;exact⟨.bool (decide (x>=y)),by simp[binOp,Op.intCmp],.bool⟩
 case quo=>
  simp only[Dg] at h;split at h
  ·cases h
  ·rename_i hy;cases h;exact⟨_,by simp[binOp,Op.intDiv,hy],.int⟩
 case rem=>
  simp only[Dg] at h;split at h
  ·cases h
  ·rename_i hy;cases h;exact⟨_,by simp[binOp,Op.intDiv,hy],.int⟩
 case shl=>exact absurd rfl ka
 case shr=>exact absurd rfl mq
def aen {op:BinOp} (ho:op = .shl\/op = .shr) {k k':IntKind} {x y:Int} {t:TypeId} {z:D} (h:Er op k x y=some z):∃v,(binOp op t (.int k x) (.int k' y)).run P w = .ok v w/\fK w L z v:=by
 unfold Er at h;split at h
 ·cases h
 ·rename_i hy;rcases ho with rfl | rfl
  ·simp only[au] at h;subst h;exact⟨_,by simp only[binOp,Op.shift,hy,eX];rfl,.int⟩
  ·simp only[au] at h;subst h;exact⟨_,by simp only[binOp,Op.shift,hy,eX];rfl,.int⟩
def agz (x y:List UInt8):(⟨x.toArray⟩:ByteArray)++⟨y.toArray⟩=⟨(x++y).toArray⟩:=by
 apply ByteArray.ext;simp[ByteArray.data_append]
def Fc:∀x y:List UInt8,Op.bytesLess x y=bytesLess x y
 | [],[]=>rfl
 | _::_,[]=>rfl
 | [],_::_=>rfl
 | a::x,b::y=>by simp[Op.bytesLess,bytesLess,Fc x y]
def ar3 {op:BinOp} {x y:List UInt8} {t:TypeId} {z:D} (h:Ii op x y=some z):∃v,(binOp op t (.string ⟨x.toArray⟩) (.string ⟨y.toArray⟩)).run P w = .ok v w/\fK w L z v:=by
 cases op;case add=>
  simp only[Ii] at h;split at h
  ·rename_i hl;cases h;refine⟨.string ⟨(x++y).toArray⟩,?_,.str⟩;have h1:¬ (9223372036854775807 < (x.length:Int)+(y.length:Int)):=by omega
   have h2:IntKind.i64.max=9223372036854775807:=by decide
   simp[binOp,Op.stringOp,BU,agz,h2,h1]
  ·cases h
 case eql=>cases h;exact⟨.bool (x==y),by simp[binOp,Op.stringOp],.bool⟩
 case neq=>cases h;exact⟨.bool (!(x==y)),by simp[binOp,Op.stringOp],.bool⟩
 case lss=>cases h;exact⟨.bool (bytesLess x y),by simp[binOp,Op.stringOp,Fc],.bool⟩
 case leq=>cases h;exact⟨.bool (bytesLess x y||x==y),by simp[binOp,Op.stringOp,Fc],.bool⟩
 case gtr=>cases h;exact⟨.bool (!(bytesLess x y||x==y)),by simp[binOp,Op.stringOp,Fc],.bool⟩
 case geq=>cases h;exact⟨.bool (!bytesLess x y),by simp[binOp,Op.stringOp,Fc],.bool⟩
 all_goals simp[Ii] at h
def Hp {α β:Type} {x:Option α} {f:α->β} {r:β} (h:x.map f=some r):∃y,x=some y/\r=f y:=by
 cases x with
 | none=>cases h
 | some y=>exact⟨y,rfl,by simpa using h.symm⟩
def YK {γ:Key->Nat} {k:Key} {i:Nat} {f:Field} {x:Fl} {l:List Fl} {c c':C} {t t':List C} {u u':Value} {b:Bool} (hx:Fz P f=some x) (he:dC (x::l) (c::t) (c'::t')=some b)
  (r1:aC nm w L γ k i c u) (r2:aC nm w L γ k i c' u'):∃b1 b2,(∀n,(Op.equalIn (n+1) f.type u u').run P w = .ok b1 w)/\dC l t t'=some b2/\b=(b1&&b2)/\f.name≠"_"/\∃dd,P.underlying f.type=some dd/\E6 dd=false:=by
 have mo:f.name≠"_" := by
  intro e;simp[Fz,e] at hx
 simp only[Fz,mo,eX] at hx;split at hx
 ·rename_i kk ym;cases hx;cases c<;>(try (simp[dC] at he;done))
  rename_i z;cases z<;>(try (simp[dC] at he;done))
  cases c'<;>(try (simp[dC] at he;done))
  rename_i z;cases z<;>(try (simp[dC] at he;done))
  rename_i k1 n1 k2 n2;simp only[dC] at he;split at he
  ·rename_i hk;subst hk;cases hb:dC l t t' with
   | none=>simp[hb] at he
   | some b2=>
    simp only[hb,fJ,au] at he;refine⟨_,b2,λn=>?_,rfl,he.symm,mo,_,ym,rfl⟩;rw[r1.rB,r2.rB];exact run_equalIn_int w n f.type k1 kk n1 n2 ym
  ·cases he
 ·rename_i ym;cases hx;cases c<;>(try (simp[dC] at he;done))
  rename_i z;cases z<;>(try (simp[dC] at he;done))
  cases c'<;>(try (simp[dC] at he;done))
  rename_i z;cases z<;>(try (simp[dC] at he;done))
  rename_i n1 n2;simp only[dC] at he;cases hb:dC l t t' with
  | none=>simp[hb] at he
  | some b2=>
   simp only[hb,fJ,au] at he;refine⟨_,b2,λn=>?_,rfl,he.symm,mo,_,ym,rfl⟩;rw[r1.sH,r2.sH];exact run_equalIn_bool' w n f.type n1 n2 ym
 ·rename_i ym;cases hx;cases c<;>(try (simp[dC] at he;done))
  rename_i z;cases z<;>(try (simp[dC] at he;done))
  cases c'<;>(try (simp[dC] at he;done))
  rename_i z;cases z<;>(try (simp[dC] at he;done))
  rename_i n1 n2;simp only[dC] at he;cases hb:dC l t t' with
  | none=>simp[hb] at he
  | some b2=>
   simp only[hb,fJ,au] at he;refine⟨n1==n2,b2,λn=>?_,rfl,he.symm,mo,_,ym,rfl⟩;rw[r1.r8,r2.r8,run_equalIn_string w n f.type _ _ ym];simp
 ·cases hx
def P9 {x:Fl} {l:List Fl} {s t:List C} {b:Bool} (h:dC (x::l) s t=some b):∃c s' c' t',s=c::s'/\t=c'::t':=by
 cases s with
 | nil=>cases x<;>simp[dC] at h
 | cons c s=>
  cases t with
  | nil=>cases x<;>cases c<;>(try (rename_i z;cases z))<;>simp[dC] at h
  | cons c' t=>exact⟨c,s,c',t,rfl,rfl⟩
def drop_cons {α:Type} {cs t:List α} {c:α} {i:Nat} (h:cs.drop i=c::t):cs[i]? = some c/\cs.drop (i+1)=t/\i < cs.length:=by
 have h1:cs[i]? = some c:=by have:=fW (·[0]?) h;simpa[vr] using this
 exact⟨h1,by rw[<-V7,h];rfl,(cd.1 h1).1⟩
def MS {f:Field} {dd:TypeDesc} {xs:Array Value} {u:Value} (vW:P.underlying f.type=some dd) (Ag:E6 dd=false) (hu:xs[f.offset]? = some u):(part f.type xs f.offset).run P w = .ok u w:=by
 have wa:(isAgg f.type).run P w = .ok false w:=by
  unfold isAgg;rw[Sem.run_bind,run_underlying vW,Result.andThen_ok];cases dd<;>first | rfl | simp[E6] at Ag
 simp[part,wa,hu]
def YL {n:Nat} {γ:Key->Nat} {k:Key} {xs ys:Array Value} {cs ds:List C} {o:Nat} (eJ:∀(j:Nat) c u,cs[j]? = some c->xs[j]? = some u->aC nm w L γ k (o+j) c u) (Al:∀(j:Nat) c u,ds[j]? = some c->ys[j]? = some u->aC nm w L γ k (o+j) c u)
  (uI:cs.length=xs.size) (Gd:ds.length=ys.size):∀(fs:List Field) (i:Nat) {fl:List Fl} {b:Bool},FA P i fs=some fl->dC fl (cs.drop i) (ds.drop i)=some b->(Op.eqFields (n+1) xs ys fs).run P w = .ok b w
 | [],i,fl,b,hf,he=>by
  simp only[FA,au] at hf;subst hf;cases hc:cs.drop i with
  | cons c t=>rw[hc] at he;simp[dC] at he
  | nil=>
   cases hd:ds.drop i with
   | cons c t=>rw[hc,hd] at he;simp[dC] at he
   | nil=>
    rw[hc,hd] at he;simp only[dC,au] at he;subst he;rfl
 | f::fs,i,fl,b,hf,he=>by
  simp only[FA] at hf;split at hf
  ·rename_i Gp;split at hf
   ·rename_i x l hx hl;simp only[au] at hf;subst hf;obtain⟨c,t,c',t',hc,hd⟩:=P9 he;obtain⟨Q5,Q8,hic⟩:=drop_cons hc;obtain⟨Q9,sY,hid⟩:=drop_cons hd;obtain⟨u,hu⟩:∃u,xs[i]? = some u:=⟨xs[i]'(by omega),by simp⟩
    obtain⟨u',kb⟩:∃u,ys[i]? = some u:=⟨ys[i]'(by omega),by simp⟩
    rw[hc,hd] at he;obtain⟨b1,b2,g1,g2,g3,mo,dd,vW,Ag⟩:=YK hx he (eJ i c u Q5 hu) (Al i c' u' Q9 kb);have ih:=YL (n:=n) eJ Al uI Gd fs (i+1) hl (by rw[Q8,sY];exact g2);subst Gp;simp only[Op.eqFields,mo,ne_eq,Oe,dj,Sem.run_bind,MS vW Ag hu,MS vW Ag kb,g1 n,Result.andThen_ok];cases b1
    ·simp[g3]
    ·simp[ih,g3]
   ·cases hf
  ·cases hf
def YJ:∀(l1:List Fl) {l2:List Fl} {s t:List C} {b:Bool},dC (l1++l2) s t=some b->
  ∃b1 b2,dC l1 (s.take l1.length) (t.take l1.length)=some b1/\dC l2 (s.drop l1.length) (t.drop l1.length)=some b2/\b=(b1&&b2)/\l1.length<=s.length/\l1.length<=t.length
 | [],l2,s,t,b,h=>⟨true,b,by simp[dC],by simpa using h,by simp,by simp,by simp⟩
 | x::l1,l2,s,t,b,h=>by
  obtain⟨c,s',c',t',rfl,rfl⟩:=P9 (l:=l1++l2) h;have key:∀{b0 OS:Bool},dC (l1++l2) s' t'=some OS->b=(b0&&OS)->(∀{r:List Fl} {u v:List C} {q:Bool},dC r u v=some q->dC (x::r) (c::u) (c'::v)=some (b0&&q))->
    ∃b1 b2,dC (x::l1) ((c::s').take (l1.length+1)) ((c'::t').take (l1.length+1))=some b1/\dC l2 ((c::s').drop (l1.length+1)) ((c'::t').drop (l1.length+1))=some b2/\b=(b1&&b2)/\l1.length+1<=(c::s').length/\l1.length+1<=(c'::t').length:=by
   intro b0 OS h1 h2 h3;obtain⟨a1,a2,k1,k2,k3,k4,k5⟩:=YJ l1 h1;exact⟨b0&&a1,a2,h3 k1,k2,by rw[h2,k3,Bool.and_assoc],by simp;omega,by simp;omega⟩
  cases x<;>cases c<;>(try (simp[dC] at h;done))<;>(rename_i z;cases z)<;>(try (simp[dC] at h;done))<;>cases c'<;>(try (simp[dC] at h;done))<;>(rename_i z;cases z)<;>(try (simp[dC] at h;done))
  ·simp only[sr,dC] at h;split at h
   ·rename_i hk;obtain⟨q,h1,h2⟩:=Hp h;exact key h1 h2 (λhq=>by simp[dC,hk,hq])
   ·cases h
  ·simp only[sr,dC] at h;obtain⟨q,h1,h2⟩:=Hp h;exact key h1 h2 (λhq=>by simp[dC,hq])
  ·simp only[sr,dC] at h;obtain⟨q,h1,h2⟩:=Hp h;exact key h1 h2 (λhq=>by simp[dC,hq])
def Jz {n:Nat} {γ:Key->Nat} {k:Key} {xs ys:Array Value} {cs ds:List C} (eJ:∀(j:Nat) c u,cs[j]? = some c->xs[j]? = some u->aC nm w L γ k j c u) (Al:∀(j:Nat) c u,ds[j]? = some c->ys[j]? = some u->aC nm w L γ k j c u)
  (uI:cs.length=xs.size) (Gd:ds.length=ys.size):∀(fs:List Field) (i:Nat) {fl:List Fl} {b:Bool},zX P i fs=some fl->dC fl (cs.drop i) (ds.drop i)=some b->(Op.eqFields (n+2) xs ys fs).run P w = .ok b w
 | [],i,fl,b,hf,he=>by
  simp only[zX,au] at hf;subst hf;cases hc:cs.drop i with
  | cons c t=>rw[hc] at he;simp[dC] at he
  | nil=>
   cases hd:ds.drop i with
   | cons c t=>rw[hc,hd] at he;simp[dC] at he
   | nil=>
    rw[hc,hd] at he;simp only[dC,au] at he;subst he;rfl
 | f::fs,i,fl,b,hf,he=>by
  simp only[zX] at hf;split at hf
  ·rename_i Gp;split at hf
   ·rename_i x hx;obtain⟨l,hl,rfl⟩:=Hp hf;obtain⟨c,t,c',t',hc,hd⟩:=P9 he;obtain⟨Q5,Q8,hic⟩:=drop_cons hc;obtain⟨Q9,sY,hid⟩:=drop_cons hd;obtain⟨u,hu⟩:∃u,xs[i]? = some u:=⟨xs[i]'(by omega),by simp⟩
    obtain⟨u',kb⟩:∃u,ys[i]? = some u:=⟨ys[i]'(by omega),by simp⟩
    rw[hc,hd] at he;obtain⟨b1,b2,g1,g2,g3,mo,dd,vW,Ag⟩:=YK hx he (eJ i c u Q5 hu) (Al i c' u' Q9 kb);have ih:=Jz (n:=n) eJ Al uI Gd fs (i+1) hl (by rw[Q8,sY];exact g2);subst Gp;simp only[Op.eqFields,mo,ne_eq,Oe,dj,Sem.run_bind,MS vW Ag hu,MS vW Ag kb,g1 (n+1),Result.andThen_ok];cases b1
    ·simp[g3]
    ·simp[ih,g3]
   ·split at hf
    ·rename_i l1 nM;obtain⟨l,hl,rfl⟩:=Hp hf;unfold Zg at nM;split at nM
     ·cases nM
     ·rename_i mo;split at nM
      ·rename_i gs qp;split at nM
       ·rename_i l0 rj;split at nM
        ·rename_i iG;cases nM;obtain⟨b1,b2,g1,g2,g3,g4,g5⟩:=YJ l1 he;simp only[zq] at g4 g5;have ih:=Jz (n:=n) eJ Al uI Gd fs (i+l1.length) hl (by simpa[V7] using g2);have aY:=iG.2.1;have aD:=iG.2.2;have pt:∀{zs:Array Value},(part f.type zs f.offset).run P w = .ok (.agg (zs.extract i (i+l1.length))) w:=by
          intro zs;have wa:(isAgg f.type).run P w = .ok true w:=by
           unfold isAgg;rw[Sem.run_bind,run_underlying qp,Result.andThen_ok];rfl
          subst Gp;simp[part,wa,y7 aY]
         have yd:P.fieldsOf f.type=gs:=by simp[Program.fieldsOf,qp]
         have sub:∀{zs:Array Value} {es:List C},es.length=zs.size->i+l1.length<=es.length->(∀(j:Nat) c u,es[j]? = some c->zs[j]? = some u->aC nm w L γ k j c u)->((es.drop i).take l1.length).length=(zs.extract i (i+l1.length)).size/\
           ∀(j:Nat) c u,((es.drop i).take l1.length)[j]? = some c->(zs.extract i (i+l1.length))[j]? = some u->aC nm w L γ k (i+j) c u:=by
          intro zs es h1 h2 h3;refine⟨by simp;omega,λj c u hc hu=>?_⟩;rw[Ob] at hc;split at hc
          ·rename_i hj;rw[vr] at hc;rw[VH] at hu;split at hu
           ·exact h3 _ c u hc hu
           ·cases hu
          ·cases hc
         obtain⟨s1,s2⟩:=sub uI (by omega) eJ;obtain⟨s3,s4⟩:=sub Gd (by omega) Al;have inner:=YL (P:=P) (w:=w) (n:=n) (o:=i) s2 s4 s1 s3 gs.toList 0 rj (by simpa using g1);have heq:(Op.equalIn (n+2) f.type (.agg (xs.extract i (i+l1.length))) (.agg (ys.extract i (i+l1.length)))).run P w = .ok b1 w:=by
          rw[run_equalIn_struct w (n+1) f.type _ _ (by rw[yd];exact qp) iG.1,yd];exact inner
         simp only[Op.eqFields,mo,ne_eq,Oe,dj,Sem.run_bind,pt,heq,Result.andThen_ok];cases b1
         ·simp[g3]
         ·simp[ih,g3]
        ·cases nM
       ·cases nM
      ·cases nM
    ·cases hf
  ·cases hf
def Zh {t:TypeId} {fl:List Fl} (h:Cs P t=some fl):∃fs,P.underlying t=some (.struct fs)/\P.stoodInHeld t=false/\P.eqGuardType P.depth t=false/\zX P 0 fs.toList=some fl:=by
 unfold Cs at h;split at h
 ·rename_i fs hu;split at h
  ·rename_i hc;exact⟨fs,hu,hc.1,hc.2,h⟩
  ·cases h
 ·cases h
def sL {t:TypeId} {u v:Value} {b:Bool} (h:∀n,(Op.equalIn (n+1) t u v).run P w = .ok b w):(Op.equal t u v).run P w = .ok b w:=h 9999
def YM {t:TypeId} (h:P.underlying t=some .bool) (x y:Bool):(Op.equal t (.bool x) (.bool y)).run P w = .ok (x==y) w:=
 sL λn=>run_equalIn_bool' w n t x y h
def OC (P:Program) (t:TypeId):TC->Prop
 | .other=>True
 | .bool=>P.underlying t=some .bool
 | .struct fl=>Cs P t=some fl
 | .ptr=>∃e,P.underlying t=some (.pointer e)
 | .slice=>∃e,P.underlying t=some (.slice e)
 | .func=>∃x y z,P.underlying t=some (.func x y z)
 | .iface=>∃m,P.underlying t=some (.interface m)
def ag2 {op:BinOp} {t:TypeId} {y:Operand} {tc:TC} (h:Jl P op t y=some tc):OC P t tc/\(tc = .iface->yu y=true):=by
 have go : (match P.underlying t with
   | some (.int _) => some TC.other
   | some .string => some .other
   | some .bool => some .bool
   | some (.struct _) => (Cs P t).map .struct
   | some (.pointer _) => some .ptr
   | some (.slice _) => some .slice
   | some (.func _ _ _) => some .func
   | some (.interface _) => if yu y then some .iface else none
   | _ => none) = some tc -> OC P t tc /\ (tc = .iface -> yu y = true) := by
  intro h;split at h
  ·cases h;exact⟨trivial,by simp⟩
  ·cases h;exact⟨trivial,by simp⟩
  ·rename_i hu;cases h;exact⟨hu,by simp⟩
  ·cases hf:Cs P t with
   | none=>simp[hf] at h
   | some fl=>simp only[hf,fJ,au] at h;subst h;exact⟨hf,by simp⟩
  ·rename_i e hu;cases h;exact⟨⟨e,hu⟩,by simp⟩
  ·rename_i e hu;cases h;exact⟨⟨e,hu⟩,by simp⟩
  ·rename_i x y z hu;cases h;exact⟨⟨_,_,_,hu⟩,by simp⟩
  ·rename_i m hu;split at h
   ·rename_i hc;cases h;exact⟨⟨m,hu⟩,λ_=>hc⟩
   ·cases h
  ·cases h
 unfold Jl at h;cases op<;>first
  | exact go h
  | (cases h;exact⟨trivial,by simp⟩)
def aaz {γ:Key->Nat} {k k2:Key} {j j2:Nat} {t:TypeId} {tc:TC} {c0 c:C} {u v:Value} {b:Bool} (ht:OC P t tc) (h0:jL tc c0=some true) (h:jL tc c=some b) (hc:aC nm w L γ k j c u) (xX:aC nm w L γ k2 j2 c0 v) :
  ((binOp .eql t u v).run P w = .ok (.bool b) w/\(binOp .neq t u v).run P w = .ok (.bool !b) w)/\(∀p q,u = .agg p->v = .agg q->False)/\(tc≠.iface->v≠.nilIface):=by
 have two:(Op.equal t u v).run P w = .ok b w->(binOp .eql t u v=do pure (.bool (<-Op.equal t u v)))->(binOp .neq t u v=do pure (.bool (!(<-Op.equal t u v))))->
  ((binOp .eql t u v).run P w = .ok (.bool b) w/\(binOp .neq t u v).run P w = .ok (.bool !b) w):=λh1 h2 h3=>⟨by rw[h2];simp[h1],by rw[h3];simp[h1]⟩
 cases tc with
 | other=>simp[jL] at h0
 | bool=>simp[jL] at h0
 | struct fl=>simp[jL] at h0
 | ptr=>
  obtain⟨e,ht⟩:=ht;cases c0<;>simp[jL] at h0;cases xX;cases c<;>simp[jL] at h
  ·subst h;cases hc with
   | ptr hv=>
    obtain⟨ad,rfl⟩:=hv;exact⟨two (sL λn=>by simp[Op.equalIn,run_underlying ht]) rfl rfl,(λp q e _=>by cases e),(λ_ e=>by cases e)⟩
  ·subst h;cases hc;exact⟨two (sL λn=>by simp[Op.equalIn,run_underlying ht]) rfl rfl,(λp q e _=>by cases e),(λ_ e=>by cases e)⟩
 | func=>
  obtain⟨e1,e2,e3,ht⟩:=ht;have i1:∀(c:C) (b:Bool),jL .func c=some b->(c = .eY/\b=true)\/(∃f x y,c = .fn f x y/\f < kN/\b=false):=by
   intro c b h;cases c with
   | eY=>simp only[jL,au] at h;exact .inl ⟨rfl,h.symm⟩
   | fn f x y=>
    simp only[jL] at h;cases hf:AG f with
    | true=>simp only[hf,au] at h;exact .inr ⟨_,_,_,rfl,Kz hf,h.symm⟩
    | false=>simp[hf] at h
   | _=>simp[jL] at h
  rcases i1 _ _ h0 with⟨rfl,_⟩ | ⟨_,_,_,_,_,h⟩
  ·cases xX;rcases i1 _ _ h with⟨rfl,rfl⟩ | ⟨f,x,y,rfl,j8,rfl⟩
   ·cases hc;exact⟨two (sL λn=>by simp[Op.equalIn,run_underlying ht]) rfl rfl,(λp q e _=>by cases e),(λ_ e=>by cases e)⟩
   ·cases hc with
    | fn=>exact⟨two (sL λn=>by simp[Op.equalIn,run_underlying ht]) rfl rfl,(λp q e _=>by cases e),(λ_ e=>by cases e)⟩
    | fns val hf=>exfalso;rcases hf with⟨h,_⟩ | ⟨h,_⟩<;>omega
  ·cases h
 | iface=>
  obtain⟨e1,ht⟩:=ht;cases c0<;>simp[jL] at h0;cases xX;cases c<;>simp[jL] at h
  ·subst h;cases hc;exact⟨two (sL λn=>by simp[Op.equalIn,run_underlying ht]) rfl rfl,(λp q e _=>by cases e),(λh=>absurd rfl h)⟩
  ·subst h;cases hc;exact⟨two (sL λn=>by simp[Op.equalIn,run_underlying ht]) rfl rfl,(λp q e _=>by cases e),(λh=>absurd rfl h)⟩
 | slice=>
  obtain⟨e1,ht⟩:=ht;have inv:∀{c:C} {b:Bool},jL .slice c=some b->(∃sz rows,c = .d (.sl (.im true) sz rows)/\b=true)\/(∃sz rows,c = .d (.sl (.im false) sz rows)/\b=false)\/(∃pl g sz off len,c = .view pl g sz off len/\b=false):=by
   intro c b h;cases c with
   | d x=>
    cases x with
    | sl t sz rows=>
     cases t with
     | im b'=>
      simp only[jL,au] at h;subst h;cases b' with
      | true=>exact .inl ⟨sz,rows,rfl,rfl⟩
      | false=>exact .inr (.inl ⟨sz,rows,rfl,rfl⟩)
     | own=>simp[jL] at h
    | _=>simp[jL] at h
   | view=>simp only[jL,au] at h;exact .inr (.inr ⟨_,_,_,_,_,rfl,h.symm⟩)
   | _=>simp[jL] at h
  rcases inv h0 with⟨pX,qJ,rfl,_⟩ | ⟨_,_,_,h1⟩ | ⟨_,_,_,_,_,_,h1⟩
  ·cases xX with
   | d FV=>
    cases FV with
    | plain FV=>
     cases FV;rcases inv h with⟨NI,adJ,rfl,rfl⟩ | ⟨NI,adJ,rfl,rfl⟩ | ⟨pl,g,NI,off,len,rfl,rfl⟩
     ·cases hc with
      | d hd=>
       cases hd with
       | plain hd=>
        cases hd;exact⟨two (sL λn=>by simp[Op.equalIn,run_underlying ht]) rfl rfl,(λp q e _=>by cases e),(λ_ e=>by cases e)⟩
     ·cases hc with
      | d hd=>
       cases hd with
       | plain hd=>
        cases hd with
        | mE=>exact⟨two (sL λn=>by simp[Op.equalIn,run_underlying ht]) rfl rfl,(λp q e _=>by cases e),(λ_ e=>by cases e)⟩
        | pl=>exact⟨two (sL λn=>by simp[Op.equalIn,run_underlying ht]) rfl rfl,(λp q e _=>by cases e),(λ_ e=>by cases e)⟩
     ·cases hc with
      | view hv=>
       obtain⟨b,c,rfl,_,hb⟩:=hv;obtain⟨ad,rfl⟩:=zk.1 hb;exact⟨two (sL λn=>by simp[Op.equalIn,run_underlying ht]) rfl rfl,(λp q e _=>by cases e),(λ_ e=>by cases e)⟩
  ·cases h1
  ·cases h1
def ajF (R:Rel nm N S a w L) (hd:∀d,o.dst=some d->d < N) {x y:Operand} {X Y:ax.X} {op:BinOp} {t yt:TypeId} {tc:TC} (hx:bV nm X x) (hy:bV nm Y y) (ho:o.op = .binOp op t x y yt) (wm:Jl P op t y=some tc)
  (hr:(ch Cl d (.bin tc op X Y)).run S=some r):dx P a w o (dN nm N S w L a o.dst r.1 r.2):=by
 simp only[ch] at hr;obtain⟨v1,h1,eN⟩:=Q.aL hr;clear hr;obtain⟨v2,h3,hr⟩:=Q.aL eN;clear eN;obtain⟨z,hz,h2⟩:=Q.gy hr;clear hr;obtain rfl:=Q.aW h2;clear h2;have r1:=rd_val R hx h1;have r2:=rd_val R hy h3;obtain⟨htk,ZY⟩:=ag2 wm;clear wm;have wm:=htk;clear htk;have done:∀{v:Value},(eqGuard op t x y (a.eval x) (a.eval y)).run P w = .ok () w->(binOp op t (a.eval x) (a.eval y)).run P w = .ok v w->fK w L z v->dx P a w o (dN nm N S w L a o.dst (.one (.d z)) []):=
  λhg hb hp=>fp R hd (akb ho hg hb) (.one (.d (.plain hp)))
 unfold sG at hz;split at hz
 ·
  rename_i k n k' n';have e1:=r1.cB.rB;have e2:=r2.cB.rB;have hg:(eqGuard op t x y (a.eval x) (a.eval y)).run P w = .ok () w:=Fp (by rw[e1];simp) (by rw[e1];simp);split at hz
  ·obtain⟨v,g1,g2⟩:=aen (P:=P) (w:=w) (L:=L) (.inl rfl) (k':=k') (t:=t) hz;exact done hg (by rw[e1,e2];exact g1) g2
  ·obtain⟨v,g1,g2⟩:=aen (P:=P) (w:=w) (L:=L) (.inr rfl) (k':=k') (t:=t) hz;exact done hg (by rw[e1,e2];exact g1) g2
  ·rename_i nM pI;split at hz
   ·rename_i hk;subst hk;obtain⟨v,g1,g2⟩:=alK (P:=P) (w:=w) (L:=L) (t:=t) hz (λe=>nM e) (λe=>pI e);exact done hg (by rw[e1,e2];exact g1) g2
   ·cases hz
 ·
  have e1:=r1.cB.r8;have e2:=r2.cB.r8;obtain⟨v,g1,g2⟩:=ar3 (P:=P) (w:=w) (L:=L) (t:=t) hz;exact done (Fp (by rw[e1];simp) (by rw[e1];simp)) (by rw[e1,e2];exact g1) g2
 ·
  have e1:=r1.cB.sH;have e2:=r2.cB.sH;have hg:(eqGuard op t x y (a.eval x) (a.eval y)).run P w = .ok () w:=Fp (by rw[e1];simp) (by rw[e1];simp);split at hz
  ·cases hz;exact done hg (v:=.bool _) (by rw[e1,e2];simp[binOp,YM wm]) .bool
  ·cases hz;exact done hg (v:=.bool _) (by rw[e1,e2];simp[binOp,YM wm]) .bool
  ·cases hz
 ·
  rename_i cs ds;obtain⟨xs,e1,jI,dM⟩:=r1.OG;obtain⟨ys,e2,ew,gG⟩:=r2.OG;split at hz
  ·rename_i fl;obtain⟨fs,hu,hs,sZ,hf⟩:=Zh wm;cases hb:dC fl cs ds with
   | none=>simp[hb] at hz
   | some b=>
    simp only[hb,fJ,au] at hz;subst hz;have yd:P.fieldsOf t=fs:=by simp[Program.fieldsOf,hu]
    have h0:=Jz (P:=P) (w:=w) (n:=9997) dM gG jI ew fs.toList 0 hf (by simpa using hb);have he:(Op.equalIn 10000 t (.agg xs) (.agg ys)).run P w = .ok b w:=by
     rw[run_equalIn_struct w 9999 t xs ys (by rw[yd];exact hu) hs,yd];exact h0
    refine done (v:=.bool b) (by rw[e1,e2];exact run_eqGuard_agg w _ t x y xs ys sZ) ?_ .bool;rw[e1,e2,run_eql_struct,he];rfl
  ·rename_i fl;obtain⟨fs,hu,hs,sZ,hf⟩:=Zh wm;cases hb:dC fl cs ds with
   | none=>simp[hb] at hz
   | some b=>
    simp only[hb,fJ,au] at hz;subst hz;have yd:P.fieldsOf t=fs:=by simp[Program.fieldsOf,hu]
    have h0:=Jz (P:=P) (w:=w) (n:=9997) dM gG jI ew fs.toList 0 hf (by simpa using hb);have he:(Op.equalIn 10000 t (.agg xs) (.agg ys)).run P w = .ok b w:=by
     rw[run_equalIn_struct w 9999 t xs ys (by rw[yd];exact hu) hs,yd];exact h0
    refine done (v:=.bool !b) (by rw[e1,e2];exact run_eqGuard_agg w _ t x y xs ys sZ) ?_ .bool;rw[e1,e2,run_neq_struct,he];rfl
  ·cases hz
 ·
  rename_i c c0 _ _ _;split at hz
  ·rename_i pJ;split at hz
   ·cases hb:jL tc c with
    | none=>simp[hb] at hz
    | some b=>
     simp only[hb,fJ,au] at hz;subst hz;obtain⟨g1,g2,g3⟩:=aaz (P:=P) wm pJ hb r1.cB r2.cB;exact done (v:=.bool b) (Fp g2 (λ_ hv=>.inr (ZY (VE λaD=>g3 aD hv)))) g1.1 .bool
   ·cases hb:jL tc c with
    | none=>simp[hb] at hz
    | some b=>
     simp only[hb,fJ,au] at hz;subst hz;obtain⟨g1,g2,g3⟩:=aaz (P:=P) wm pJ hb r1.cB r2.cB;exact done (v:=.bool !b) (Fp g2 (λ_ hv=>.inr (ZY (VE λaD=>g3 aD hv)))) g1.2 .bool
   ·cases hz
  ·cases hz
 ·cases hz
end
end
section
section
variable {nm:FuncId->Option Nat} {N:Nat} {S:St} {a:Act} {w:World} {L:aw} {P:Program} {o:Oper} {Cl:bX} {d:Nat} {r:V×List Wr}
def aj' (R:Rel nm N S a w L) (hd:∀d,o.dst=some d->d < N) {x:Operand} {X:ax.X} {op:UnOp} {t:TypeId} (hx:bV nm X x) (ho:o.op = .unOp op t x)
  (hr:(ch Cl d (.un op X)).run S=some r):dx P a w o (dN nm N S w L a o.dst r.1 r.2):=by
 obtain⟨v1,h1,eN⟩:=Q.aL hr;obtain⟨z,hz,h2⟩:=Q.gy eN;obtain rfl:=Q.aW h2;have r1:=rd_val R hx h1;have ex:∀{v:Value},(Op.unary op (a.eval x)).run P w = .ok v w->fK w L z v->dx P a w o (dN nm N S w L a o.dst (.one (.d z)) []):=
  λhb hp=>fp R hd (by simp[execOp,ho,hb]) (.one (.d (.plain hp)))
 unfold unV at hz;split at hz
 ·cases hz;refine ex ?_ .bool;rw[r1.cB.sH];rfl
 ·cases hz;refine ex ?_ .int;rw[r1.cB.rB];rfl
 ·cases hz;refine ex ?_ .int;rw[r1.cB.rB];rfl
 ·cases hz
def ajL (R:Rel nm N S a w L) (hd:∀d,o.dst=some d->d < N) {x:Operand} {X:ax.X} {k:IntKind} {t u:TypeId} {ds:TypeDesc} (hx:bV nm X x) (ho:o.op = .convert t u x) (ht:P.underlying t=some ds) (hu:P.underlying u=some (.int k))
  (hr:(ch Cl d (.conv (.int k) X)).run S=some r):dx P a w o (dN nm N S w L a o.dst r.1 r.2):=by
 obtain⟨v1,h1,h2⟩:=Q.aL hr;have r1:=rd_val R hx h1;cases v1 with
 | one c=>
  cases c with
  | d z=>
   cases z with
   | int k' n=>
    obtain rfl:=Q.aW h2;refine fp R hd (v:=.int k (k.wrap n)) ?_ (.one (.d (.plain .int)));have:(convert t u (a.eval x)).run P w = .ok (.int k (k.wrap n)) w:=by
     rw[r1.cB.rB];simp[convert,run_underlying ht,run_underlying hu,Conv.intToInt]
    simp[execOp,ho,this]
   | _=>cases h2
  | _=>cases h2
 | _=>cases h2
def ajM (R:Rel nm N S a w L) (hd:∀d,o.dst=some d->d < N) {x:Operand} {X:ax.X} {t u:TypeId} {ds:TypeDesc} (hx:bV nm X x) (ho:o.op = .convert t u x) (ht:P.underlying t=some ds) (hu:P.underlying u=some .string)
  (hr:(ch Cl d (.conv .same X)).run S=some r):dx P a w o (dN nm N S w L a o.dst r.1 r.2):=by
 obtain⟨v1,h1,h2⟩:=Q.aL hr;have r1:=rd_val R hx h1;cases v1 with
 | one c=>
  cases c with
  | d z=>
   cases z with
   | str s=>
    obtain rfl:=Q.aW h2;refine fp R hd (v:=.string ⟨s.toArray⟩) ?_ (.one (.d (.plain .str)));have:(convert t u (a.eval x)).run P w = .ok (.string ⟨s.toArray⟩) w:=by
     rw[r1.cB.r8];cases ds<;>simp[convert,run_underlying ht,run_underlying hu]
    simp[execOp,ho,this]
   | _=>cases h2
  | _=>cases h2
 | _=>cases h2
def arJ (R:Rel nm N S a w L) {v:V} {u:Value} (hv:bJ nm w L S.γ (.h 0) v u) (aU:v.own=false) {rows:List (List D)} (h:(shown v).run S=some rows) :
  ∃ (b : Option Addr) (cap : Nat), u = .slice b rows.length cap /\ (rows = [] \/ ∃ B o cur e fz sz, b = some ⟨B, o, none⟩ /\ 0 < sz /\ w.heap[B]? = some (.cells cur e fz) /\ (∀ r ∈ rows, r.length = sz) /\
    (∀ i c k n, cellOf rows i c = some (.int k n) -> cur[o + i * sz + c]? = some (.int k n))) := by
 unfold shown at h;split at h
 ·cases h
 ·rename_i t sz va s7;simp at h;subst h;cases hv.cB with
  | d hd=>
   cases hd with
   | plain hp=>
    cases hp with
    | nil=>simp_all
    | mE=>simp_all
    | @pl sz rows B o cap cur e fz val aD aY QY hL hB hlen oF dV=>
     refine⟨_,_,rfl,.inr ⟨B,o,cur,e,fz,sz,rfl,aY,hB,hlen,λi c k n hx=>?_⟩⟩;have h1:=oF i c _ hx;have h2:=dV i c _ hx;generalize val i c=u at h1 h2;cases h2;exact h1
   | jg=>simp at s7
   | own=>simp at s7
 ·rename_i pl g sz off len;obtain⟨res,h3,h4⟩:=Q.aL h;obtain⟨hg,h5⟩:=Q.ec h4;simp at hg;have vY:off+len<=res.2.2.length:=hg;obtain rfl:=Q.aW h5;have hlen:(aK ((res.2.2.drop off).take len)).length=len:=by rw[A3,ud,zq];omega
  cases hv.cB with
  | view iI hh gR hV=>
   obtain⟨kC,u0,s9⟩:=TJ R hh h3;rcases hV kC with⟨h0,a0,rfl⟩ | ⟨B,o,cap,cur,e,fz,rfl,aY,hL,hB,c6,uI,dU,_⟩
   ·simp_all
   ·refine⟨_,_,by rw[hlen],?_⟩;rcases s9.nR with⟨pJ,_⟩ | ⟨B',o',zH,ei,e',xS,val,_,_,fY,dH,_,fO,QX,RM,cH,hr,dW⟩
    ·simp_all
    ·right;obtain rfl:=R.ey B' B pl o' o fY hL;obtain rfl:o'=o:=by simp_all
     refine⟨B',_,_,_,_,sz,rfl,aY,dH,?_,?_⟩
     ·intro r1 gS;rw[D9] at gS;obtain⟨r2,h1,rfl⟩:=kJ.1 gS;simpa using fO r2 (N7 (EN h1))
     ·intro i c k n hx;rw[B9] at hx;cases hy:cellOf ((res.2.2.drop off).take len) i c with
      | none=>simp_all
      | some y=>
       simp only[hy,fJ,au] at hx;obtain⟨rr,k1,k2⟩:=kM.1 hy;have jn:i < len:=by
        have:=(cd.1 k1).1;rw[ud] at this;omega
       rw[zm jn,vr] at k1;have hc:=kM.2 ⟨rr,k1,k2⟩;have h1:=cH _ _ _ hc;have h2:=hr _ _ _ hc;have gN:y = .int k n:=by
        cases y with
        | sl t _ _=>cases t<;>simp[lW] at hx
        | _=>simp[lW] at hx ⊢<;>exact hx
       subst gN;generalize val (off+i) c=u at h1 h2;cases h2 with
       | plain h2=>
        cases h2;rw[lJ] at h1;rw[show o'+off * sz+i * sz+c=o'+(off * sz+i * sz)+c by omega];exact h1
 ·cases h
def U2:∀(rows:List (List D)) {s:List UInt8},kG rows=some s->rows.length=s.length/\∀i,i < rows.length->∃n,cellOf rows i 0=some (.int .u8 n)/\rows[i]? = some [.int .u8 n]/\s[i]? = some (UInt8.ofNat n.toNat)
 | [],s,h=>by simp only[kG,au] at h;simp_all
 | r::rows,s,h=>by
  unfold kG at h;split at h
  ·simp_all
  ·rename_i n t heq;obtain⟨rfl,rfl⟩:=heq;cases ht:kG rows with
   | none=>simp_all
   | some t'=>
    simp only[ht,fJ,au] at h;subst h;obtain⟨h1,h2⟩:=U2 rows ht;refine⟨by simp[h1],λi hi=>?_⟩;cases i with
    | zero=>exact⟨n,rfl,rfl,rfl⟩
    | succ i=>
     obtain⟨m,g1,g2,g3⟩:=h2 i (by simp_all);exact⟨m,by simpa[cellOf] using g1,by simp_all,by simp_all⟩
  ·cases h
def agA {w:World} {rows:List (List D)} {s:List UInt8} (hs:kG rows=some s) {b:Option Addr} {cap:Nat}
  (QZ : rows = [] \/ ∃ B o cur e fz sz, b = some ⟨B, o, none⟩ /\ 0 < sz /\ w.heap[B]? = some (.cells cur e fz) /\ (∀ r ∈ rows, r.length = sz) /\
    (∀ i c k n, cellOf rows i c = some (.int k n) -> cur[o + i * sz + c]? = some (.int k n))) :
  (Conv.bytesToString (.slice b rows.length cap)).run P w = .ok (.string ⟨s.toArray⟩) w:=by
 obtain⟨hl,hb⟩:=U2 rows hs;rcases QZ with rfl | ⟨B,o',cur,e',fz,sz,rfl,aY,hB,fO,FT⟩
 ·have:s=[]:=p7.1 (by simp_all);subst this;cases b with
  | none=>rfl
  | some ad=>rfl
 ·let ns:=rows.map λr=>match r with | [.int _ n]=>n | _=>0
  have aae:ns.length=rows.length:=by simp[ns]
  have gn:∀i n,ns[i]? = some n->s[i]? = some (UInt8.ofNat n.toNat)/\w.cell? ⟨B,o'+i,none⟩=some (.int .u8 n):=by
   intro i n j9;have hi:i < rows.length:=by rw[<-aae];exact(cd.1 j9).1
   obtain⟨n',g1,g2,g3⟩:=hb i hi;have hnn:=by
    simp only[ns,bQ,g2,fJ,au] at j9;omega
   subst hnn;have ka:sz=1:=by have:=fO _ (ff g2);simp_all
   subst ka;refine⟨g3,?_⟩;rw[qW hB];have:=FT i 0 _ _ g1;simp_all
  have Gg:=by
   have := run_loadCells_list (P := P) w ⟨B, o', none⟩ (ns.map (Value.int .u8)) (λj v hj => by
     simp only[bQ] at hj
     cases hn : ns[j]? with
     | none => simp_all
     | some n =>
       simp only[hn, fJ, au] at hj
       subst hj
       rw[pj]; simp_all)
   rwa[cX,aae] at this
  rw[run_bytesToString w _ _ _ ns Gg,foldl_push_bytes];congr 2;have oD:ns.map (λn=>UInt8.ofNat n.toNat)=s:=by
   apply VY;intro i;rw[bQ];cases hn:ns[i]? with
   | none=>
    simp_all
   | some n=>simp_all
  simp_all
def arI (R:Rel nm N S a w L) {x:Operand} {X:ax.X} (hx:bV nm X x) {rows:List (List D)} (h:(aeo X).run S=some rows) :
  ∃ (b : Option Addr) (cap : Nat), a.eval x = .slice b rows.length cap /\ (rows = [] \/ ∃ B o cur e fz sz, b = some ⟨B, o, none⟩ /\ 0 < sz /\ w.heap[B]? = some (.cells cur e fz) /\ (∀ r ∈ rows, r.length = sz) /\
    (∀ i c k n, cellOf rows i c = some (.int k n) -> cur[o + i * sz + c]? = some (.int k n))) := by
 cases hx with
 | @s i=>
  have h1:=Q.np h;have hv:=R.slot i;cases hE:S.E (.s i) with
  | one c=>
   cases c with
   | cY pl g aa sz va=>
    have Ab:(S.get (.s i)).v = .one (.cY pl g aa sz va):=hE;rw[Ab] at h1;have h2:=Q.np h1;have h3:=Q.np h2;obtain⟨hg,h4⟩:=Q.ec h3;obtain rfl:=Q.aW h4;simp at hg;rw[hE] at hv;cases hv.cB with
    | cY iI hh gR Ah hV=>
     rcases hV hg.1.symm hg.2.symm with⟨h0,ad,h5⟩ | ⟨B,o,cap,cur,e,fz,n0,val,h5,aY,hL,hB,c6,hlen,eC,dU,oF,dV,dW⟩
     ·refine⟨some ad,0,?_,.inl h0⟩;rw[h0];exact h5
     ·refine⟨_,cap,h5,.inr ⟨B,o,cur,e,fz,sz,rfl,aY,hB,hlen,λi c k n hx=>?_⟩⟩;have g1:=oF i c _ hx;have g2:=dV i c _ hx;generalize val i c=u at g1 g2;cases g2 with
      | plain g2=>cases g2;exact g1
   | _=>
    have Ab:(S.get (.s i)).v = .one _:=hE;simp_all
  | _=>
   have Ab:(S.get (.s i)).v=_:=hE;simp_all
 | _=>cases h
def ajK (R:Rel nm N S a w L) (hd:∀d,o.dst=some d->d < N) {x:Operand} {X:ax.X} {t u e:TypeId} (hx:bV nm X x) (bh:X.iJ=true) (ho:o.op = .convert t u x) (ht:P.underlying t=some (.slice e)) (hu:P.underlying u=some .string) (he:P.underlying e=some (.int .u8))
  (hr:(ch Cl d (.conv .I8 X)).run S=some r):dx P a w o (dN nm N S w L a o.dst r.1 r.2):=by
 have core : ∀ (rows : List (List D)) (s : List UInt8), kG rows = some s -> (∃ (b : Option Addr) (cap : Nat), a.eval x = .slice b rows.length cap /\ (rows = [] \/ ∃ B o cur e fz sz, b = some ⟨B, o, none⟩ /\ 0 < sz /\ w.heap[B]? = some (.cells cur e fz) /\ (∀ r ∈ rows, r.length = sz) /\
     (∀ i c k n, cellOf rows i c = some (.int k n) -> cur[o + i * sz + c]? = some (.int k n)))) -> r = (.one (.d (.str s)), []) -> dx P a w o (dN nm N S w L a o.dst r.1 r.2) := by
  rintro rows s hs ⟨b,cap,q8,QZ⟩ rfl;refine fp R hd (v:=.string ⟨s.toArray⟩) ?_ (.one (.d (.plain .str)));have:(convert t u (a.eval x)).run P w = .ok (.string ⟨s.toArray⟩) w:=by
   rw[q8];have akZ:(convert t u (.slice b rows.length cap)).run P w=(Conv.bytesToString (.slice b rows.length cap)).run P w:=by
    cases b<;>simp[convert,run_underlying ht,run_underlying hu,run_underlying he]
   rw[akZ];exact agA hs QZ
  simp[execOp,ho,this]
 obtain⟨v1,h1,h2⟩:=Q.aL hr;have r1:=rd_val R hx h1;have aU:=Nc bh h1;by_cases hde:v1 = .one .dead
 ·subst hde;obtain⟨rows,h3,h4⟩:=Q.aL h2;obtain⟨s,hs,h5⟩:=Q.gy h4;exact core rows s hs (arI R hx h3) (Q.aW h5)
 ·obtain⟨rows, h3, h4⟩ := Q.aL (x := shown v1) (f := λrows => (Q.du (kG rows) >>= λs => pure (.one (.d (.str s)), []))) (r := r) (by
    cases v1 with
    | one c => cases c <;> (try exact h2) <;> (simp_all) <;> (omega)
    | _ => exact h2)
  obtain⟨s,hs,h5⟩:=Q.gy h4;exact core rows s hs (arJ R r1 aU h3) (Q.aW h5)
def D5 (R:Rel nm N S a w L) {lo:Option Operand} {X:Option ax.X} (h:∀x,lo=some x->∃y,X=some y/\bV nm y x) (h0:lo=none->X=none) {Yi n:Nat} (hr:(rJ X Yi).run S=some n) :
  (lo=none/\n=Yi)\/∃x k,lo=some x/\a.eval x = .int k n:=by
 cases lo with
 | none=>
  rw[h0 rfl] at hr;simp only[rJ,Q.run_pure,au] at hr;simp_all
 | some x=>
  obtain⟨y,rfl,hy⟩:=h x rfl;obtain⟨v,h1,h2⟩:=Q.aL hr;rw[Q.Eo] at h2;obtain⟨k,hk⟩:=xw (rd_val R hy h1) h2;simp_all
def aep {b:Bool} {len cap l h:Nat} {lo hi:Option Value} (hl:(lo=none/\l=0)\/∃k,lo=some (.int k l)) (hh:(hi=none/\h=len)\/∃k,hi=some (.int k h)) (h1:l<=h) (h2:h<=len) (h3:len<=cap) :
  (Instr.sliceBounds b len cap lo hi none).run P w = .ok (l,h,cap) w:=by
 have e1:=by omega
 have e2:=by omega
 rcases hl with⟨rfl,rfl⟩ | ⟨k,rfl⟩<;>rcases hh with⟨rfl,rfl⟩ | ⟨k',rfl⟩<;>
  simp[Instr.sliceBounds,Instr.sliceBound,asIntOf,e1,e2,iD h2 h3,h1]
def aj7 (R:Rel nm N S a w L) (hd:∀d,o.dst=some d->d < N) {x:Operand} {X:ax.X} {t:TypeId} {lo hi:Option Operand} {LO HI:Option ax.X} (hx:bV nm X x) (ho:o.op = .slice t x lo hi none) (ht:P.underlying t=some .string)
  (CW:∀x,lo=some x->∃y,LO=some y/\bV nm y x) (Ke:lo=none->LO=none) (J6:∀x,hi=some x->∃y,HI=some y/\bV nm y x) (J7:hi=none->HI=none)
  (hr:(ch Cl d (.UF X LO HI)).run S=some r):dx P a w o (dN nm N S w L a o.dst r.1 r.2):=by
 obtain⟨v1,h1,h2⟩:=Q.aL hr;have r1:=rd_val R hx h1;split at h2
 ·rename_i s;obtain⟨l,h3,h4⟩:=Q.aL h2;obtain⟨h,h5,h6⟩:=Q.aL h4;obtain⟨hg,h7⟩:=Q.ec h6;simp at hg;obtain rfl:=Q.aW h7;have e1:=r1.cB.r8;refine fp R hd (v:=.string ⟨((s.drop l).take (h - l)).toArray⟩) ?_ (.one (.d (.plain .str)));have hb:=aep (P:=P) (w:=w) (b:=false) (len:=s.length) (cap:=s.length) (l:=l) (h:=h) (lo:=lo.map a.eval) (hi:=hi.map a.eval)
   ((D5 R CW Ke h3).imp (λh=>⟨by simp_all,h.2⟩) (λ⟨x,k,h1,h2⟩=>⟨k,by simp_all⟩))
   ((D5 R J6 J7 h5).imp (λh=>⟨by simp_all,h.2⟩) (λ⟨x,k,h1,h2⟩=>⟨k,by simp_all⟩)) hg.1 hg.2 (cp _)
  have hex:(⟨s.toArray⟩:ByteArray).extract l h=⟨((s.drop l).take (h - l)).toArray⟩:=by
   apply ByteArray.ext;simp_all
  have:(Instr.sliceAt t (a.eval x) (lo.map a.eval) (hi.map a.eval) none).run P w = .ok (.string ⟨((s.drop l).take (h - l)).toArray⟩) w:=by
   rw[e1];simp[Instr.sliceAt,Instr.slice,run_underlying ht,BU,hb,hex]
  simp[execOp,ho,this]
 ·cases h2
def aj6 (R:Rel nm N S a w L) (hd:∀d,o.dst=some d->d < N) {x:Operand} {X:ax.X} {t e:TypeId} {pX:Nat} {lo hi mx:Option Operand} {LO HI MX:Option ax.X} (hx:bV nm X x) (ho:o.op = .slice t x lo hi mx) (ht:P.underlying t=some (.slice e)) (hs:jT P e=some pX) (oE:pX≠0)
  (CW:∀x,lo=some x->∃y,LO=some y/\bV nm y x) (Ke:lo=none->LO=none) (J6:∀x,hi=some x->∃y,HI=some y/\bV nm y x) (J7:hi=none->HI=none)
  (Aq:∀x,mx=some x->∃y,MX=some y/\bV nm y x) (atN:mx=none->MX=none) (atO:mx≠none->hi≠none)
  (hr:(ch Cl d (.slice pX X LO HI MX)).run S=some r):dx P a w o (dN nm N S w L a o.dst r.1 r.2):=by
 obtain⟨v1,h1,h2⟩:=Q.aL hr;have r1:=rd_val R hx h1;have bnd:∀{l h len cap:Nat},(rJ LO 0).run S=some l->(rJ HI len).run S=some h->l<=h->h<=len->len<=cap->(Instr.sliceBounds true len cap (lo.map a.eval) (hi.map a.eval) none).run P w = .ok (l,h,cap) w:=
  λh3 h5 g1 g2 g3=>aep ((D5 R CW Ke h3).imp (λh=>⟨by simp_all,h.2⟩) (λ⟨x,k,h1,h2⟩=>⟨k,by simp_all⟩))
   ((D5 R J6 J7 h5).imp (λh=>⟨by simp_all,h.2⟩) (λ⟨x,k,h1,h2⟩=>⟨k,by simp_all⟩)) g1 g2 g3
 have ex:∀{b:Option Addr} {len cap l h:Nat},a.eval x = .slice b len cap->mx=none->(rJ LO 0).run S=some l->(rJ HI len).run S=some h->l<=h->h<=len->len<=cap->
   (execOp a.eval o).run P w = .ok (.value (.slice (if cap=l then b else b.map (·.add (l * pX))) (h - l) (cap - l))) w:=by
  intro b len cap l h hb hm h3 h5 g1 g2 g3;have hbd:=bnd h3 h5 g1 g2 g3;have:(Instr.sliceAt t (a.eval x) (lo.map a.eval) (hi.map a.eval) (mx.map a.eval)).run P w = .ok (.slice (if cap=l then b else b.map (·.add (l * pX))) (h - l) (cap - l)) w:=by
   rw[hb,hm];simp[Instr.sliceAt,Instr.slice,run_underlying ht,hbd,y7 hs]
  simp[execOp,ho,this]
 split at h2
 ·cases h2
 ·rename_i t' sz rows s7;obtain⟨l,h3,h4⟩:=Q.aL h2;obtain⟨h,h5,h6⟩:=Q.aL h4;obtain⟨hg,h7⟩:=Q.ec h6;simp at hg;obtain⟨⟨alD,F5⟩,lP⟩:=hg;have hvd:=r1.cB;have als:∃u,a.eval x=u/\fK w L (.sl t' sz rows) u:=by
   refine⟨_,rfl,?_⟩;generalize a.eval x=u at hvd;cases hvd with
   | d hd=>
    cases hd with
    | plain hp=>exact hp
    | jg=>simp at s7
    | own=>simp at s7
  obtain⟨u,hu,hp⟩:=als;split at h7
  ·
   have hm:mx=none:=by
    cases mx with
    | none=>rfl
    | some m=>simp_all
   obtain rfl:=Q.aW h7;cases hp with
   | nil=>
    have rj:l=0:=by simp_all
    have Rl:h=0:=by simp_all
    subst rj;subst Rl;refine fp R hd (v:=.slice none 0 0) ?_ (.one (.d (.plain (by simpa using fK.nil))));simp_all
   | @mE _ ad cap=>
    have rj:l=0:=by simp_all
    have Rl:=by simpa using lP
    subst rj;subst Rl;refine fp R hd (v:=.slice (if cap=0 then some ad else(some ad).map (·.add (0 * pX))) 0 (cap - 0)) ?_ (.one (.d (.plain (by split<;>simpa using fK.mE))));simp_all
   | @pl sz rows B o' cap cur e' fz val aD aY QY hL hB hlen oF dV=>
    obtain rfl:sz=pX:=alD.resolve_right aD;refine fp R hd (ex hu hm h3 h5 F5 lP QY) (.one (.d (.plain ?_)));by_cases hlh:h=l
    ·rw[hlh,Wc,IH];split<;>exact .mE
    ·have aU:cap≠l:=by omega
     have nK:((rows.drop l).take (h - l)).length=h - l:=by rw[ud,zq];omega
     rw[aI aU];show fK w L _ (.slice (some ((⟨B,o',none⟩:Addr).add (l * sz))) (h - l) (cap - l));rw[pj];have gn:∀i c y,cellOf ((rows.drop l).take (h - l)) i c=some y->cellOf rows (l+i) c=some y:=by
      intro i c y hy;obtain⟨rr,k1,k2⟩:=kM.1 hy;have jn:i < h - l:=by
       have:=(cd.1 k1).1;omega
      rw[zm jn,vr] at k1;exact kM.2 ⟨rr,k1,k2⟩
     suffices atT:fK w L (.sl (.im false) sz ((rows.drop l).take (h - l))) (.slice (some ⟨B,o'+l * sz,none⟩) ((rows.drop l).take (h - l)).length (cap - l)) by simp_all
     refine .pl (λi c=>val (l+i) c) ?_ aY (by omega) hL hB ?_ ?_ ?_
     ·intro e0;rw[e0] at nK;simp at nK;omega
     ·intro r1 gS;exact hlen r1 (N7 (EN gS))
     ·intro i c y hy;have:=oF _ _ _ (gn i c y hy);rw[lJ] at this;rw[show o'+l * sz+i * sz+c=o'+(l * sz+i * sz)+c by omega];omega
     simp_all
  ·
   obtain⟨vm,h8,h9⟩:=Q.aL h7;obtain⟨mm,cz,fT⟩:=Q.gy h9;obtain⟨F6,gl⟩:=Q.ec fT;simp at F6;obtain⟨⟨rfl,rfl⟩,rfl⟩:=F6;obtain rfl:=Q.aW gl;cases aac:mx with
   | none=>simp_all
   | some m=>
    obtain⟨y,hy,hym⟩:=Aq m aac;cases hy;obtain⟨km,hkm⟩:=xw (rd_val R hym h8) cz;obtain⟨ad,len,cap,Gw,RI⟩:∃ad len cap,u = .slice ad len cap/\bt w L ⟨.h 0,0,[]⟩ (.sl t'.YD sz []) (.slice ad 0 0):=by
     cases hp with
     | nil=>exact⟨_,_,_,rfl,.plain .nil⟩
     | mE=>exact⟨_,_,_,rfl,.jg⟩
     | pl=>exact⟨_,_,_,rfl,.jg⟩
    have hiv:∃k,hi.map a.eval=some (.int k 0):=by
     rcases D5 R J6 J7 h5 with⟨h,_⟩ | ⟨x,k,h1,h2⟩
     ·simp_all
     simp_all
    obtain⟨kh,hkh⟩:=hiv;have nL:(lo.map a.eval=none)\/∃k,lo.map a.eval=some (.int k 0):=by
     rcases D5 R CW Ke h3 with⟨h,_⟩ | ⟨x,k,h1,h2⟩
     ·simp_all
     simp_all
    refine fp R hd (v:=.slice ad 0 0) ?_ (.one (.d RI));have:(Instr.sliceAt t (a.eval x) (lo.map a.eval) (hi.map a.eval) (mx.map a.eval)).run P w = .ok (.slice ad 0 0) w:=by
     rw[hu,Gw,hkh,aac];rcases nL with nL | ⟨kl,nL⟩<;>rw[nL]<;>
      simp[Instr.sliceAt,Instr.slice,run_underlying ht,Instr.sliceBounds,Instr.sliceBound,asIntOf,hkm,y7 hs]
    simp[execOp,ho,this]
 ·rename_i pl g sz off len;obtain⟨l,h3,h4⟩:=Q.aL h2;obtain⟨h,h5,h6⟩:=Q.aL h4;obtain⟨hg,h7⟩:=Q.ec h6;simp only[cI,gX,kv,afU] at hg;obtain⟨⟨⟨⟨rfl,F5⟩,lP⟩,hmn⟩,ye⟩:=hg;have hm:mx=none:=by
   cases mx with
   | none=>rfl
   | some m=>simp_all
  obtain rfl:=Q.aW h7;cases r1.cB with
  | view iI hh gR hV=>
   obtain⟨b,cap,hb,uI,qm⟩:=iI;refine fp R hd (ex hb hm h3 h5 F5 lP uI) (.one (.view ?_ hh gR (λhe=>?_)))
   ·refine⟨_,_,rfl,by omega,?_⟩;obtain⟨ad,rfl⟩:=zk.1 qm;split<;>rfl
   ·rcases hV he with⟨h0,a0,cH⟩ | ⟨B,o',zH,cur,e',fz,cH,aY,hL,hB,c6,atG,dU,QB⟩
    ·rw[hb] at cH;simp_all
    ·rw[hb] at cH;obtain⟨rfl,rfl⟩:=cH;by_cases aU:cap=l
     ·subst aU;exact .inl ⟨by omega,_,by rw[aP rfl,show h - cap=0 from by omega,Wc]⟩
     ·right;refine⟨B,o',cap - l,cur,e',fz,?_,aY,hL,hB,c6,by omega,?_,λq1 q2=>QB (by omega) (by simp_all)⟩
      ·rw[aI aU];show Value.slice (some ((⟨B,o'+off * sz,none⟩:Addr).add (l * sz))) _ _=_;rw[pj,lJ,p9]
      ·rw[lJ];have:(cap - l) * sz+l * sz=cap * sz:=by rw[<-lJ,Nat.sub_add_cancel (by omega)]
       omega
 ·cases h2
end
end
section
section
variable {nm:FuncId->Option Nat} {N:Nat} {S S0:St} {a:Act} {w w0:World} {L L0:aw} {P:Program} {o:Oper} {Cl:bX} {d:Nat} {r:V×List Wr} {ws:List Wr}
def DQ {α β:Type} {f:α->Option β}:∀(l:List α) {r:List β},l.mapM f=some r->r.length=l.length/\∀(j:Nat) y,r[j]? = some y->∃x,l[j]? = some x/\f x=some y
 | [],r,h=>by
  have:r=[]:=by simpa using h.symm
  subst this;exact⟨rfl,λj y hy=>by simp at hy⟩
 | x::l,r,h=>by
  rw[mM] at h;cases hx:f x with
  | none=>simp[hx] at h
  | some y=>
   cases hl:l.mapM f with
   | none=>simp[hx,hl] at h
   | some r'=>
    simp[hx,hl] at h;subst h;obtain⟨h1,h2⟩:=DQ l hl;refine⟨by simp[h1],λj z hz=>?_⟩;cases j with
    | zero=>simp at hz;subst hz;exact⟨x,rfl,hx⟩
    | succ j=>obtain⟨x',g1,g2⟩:=h2 j z (by simpa using hz);exact⟨x',by simpa using g1,g2⟩
def vA (c:C) (u:Value):Prop:=(∃sz,Ce sz u=some c)
def vA.rep {c:C} {u:Value} (h:vA c u) (w:World) (L:aw) (γ:Key->Nat) (k:Key) (j:Nat):aC nm w L γ k j c u:=by
 obtain⟨sz,h⟩:=h;exact(Js h).1 w L γ k j
def vA.own {c:C} {u:Value} (h:vA c u):c.own=false:=by
 obtain⟨sz,h⟩:=h;exact(Js (nm:=λ_=>none) h).2
def Bx {t:TypeId} {zs:List C} (h:p5 P t=some zs):∃i z,P.info? t=some i/\i.zero=some z/\z.cells.size=zs.length/\z.cells.size=i.size/\∀(j:Nat) c u,zs[j]? = some c->z.cells[j]? = some u->vA c u:=by
 unfold p5 at h;split at h
 ·rename_i i l h1 h2;split at h
  ·rename_i z hz;split at h
   ·rename_i hc;obtain⟨g1,g2⟩:=DQ _ h;refine⟨i,z,h1,hz,by rw[g1];simp[<-hc.1],hc.2,?_⟩;intro j c u hj hu;obtain⟨x,k1,k2⟩:=g2 j c hj;rw[afV] at k1;have:x.2=u:=by
     have:=k1.2;rw[af4,hu] at this;simpa using this.symm
    rw[this] at k2;exact⟨_,k2⟩
   ·cases h
  ·cases h
 ·cases h
def Xi (M:cf nm N S0 w0 L0 ws a w L) {m:Nat} {cs:List C} {vs:Array Value} {e:TypeId} (hl:cs.length=vs.size)
  (hx:∀(j:Nat) x v,cs[j]? = some x->vs[j]? = some v->aC nm w L (S0.ai ws).γ (.h m) j x v) (hr:(boxed d cs ws).run S0=some r) {dst:Option Nat} (hd:∀d,dst=some d->d < N) :
  dN nm N S0 w0 L0 a dst r.1 r.2 (.pointer (some ⟨w.heap.size,0,none⟩)) (w.alloc (.cells vs e)):=by
 unfold boxed at hr;rw[Q.run_bind,vI,Option.bind_some] at hr;obtain⟨hg,h2⟩:=Q.ec hr;clear hr;obtain rfl:=Q.aW h2;have hn:cr ((S0.ai ws).E (.r (.l d)))=0\/cr ((S0.ai ws).E (.r (.l d)))=cs.length:=by
  simpa using hg
 obtain⟨R,hm,_⟩:=M.rel.tq (r:=.l d) (cs:=cs) (vs:=vs) (e:=e) rfl (by simp) hl hn hx;have hγ:S0.γ (.r (.l d))+1<=(S0.ai (gC (.l d) 0 cs ({ k:=.r (.l d),v:=fR cs.length } :: ws))).γ (.r (.l d)):=by
  refine iD ?_ (Ca S0 (.l d) cs 0 ({ k:=.r (.l d),v:=fR cs.length } :: ws) (.r (.l d))).2.2.2;simp only[St.ai,St.jX,dj];have:=St.xq S0 ws (.r (.l d));simp;exact this
 exact R.gj (M.mono.trans hm) hd (.one (.ptr (k:=.h 0) ⟨_,rfl⟩ hγ (λ_=>⟨_,0,zE,rfl⟩)))
def ajB (R:Rel nm N S a w L) (hd:∀d,o.dst=some d->d < N) {t:TypeId} {zs:List C} (ho:o.op = .alloc t) (hz:p5 P t=some zs)
  (hr:(ch Cl d (.alloc zs)).run S=some r):dx P a w o (dN nm N S w L a o.dst r.1 r.2):=by
 simp only[ch] at hr;obtain⟨i,z,h1,h2,h3,h4,h5⟩:=Bx hz;refine .val (v:=.pointer (some ⟨w.heap.size,0,none⟩)) (w':=w.alloc (.cells z.cells t)) ?_ (Xi (cf.init R) (m:=0) h3.symm (λj x v hx hv=>(h5 j x v hx hv).rep _ _ _ _ _) hr hd);have:(Instr.alloc t true (.tuple #[])).run P w = .ok (.pointer (some ⟨w.heap.size,0,none⟩)) (w.alloc (.cells z.cells t)):=by
  simp[Instr.alloc,zeroValue,typeInfo,h1,h2,newVar,newRow]
 simp[execOp,ho,this]
def arX {c:C} {r:C×List Wr} (h:(st ws c).run S=some r):c≠.dead:=by
 rintro rfl;simp[st] at h
def aeC:∀(cs:List C) {ws:List Wr} {r:List C×List Wr},(l7 ws cs).run S=some r->∀c∈cs,c≠.dead
 | [],_,_,_,c,hc=>by simp at hc
 | x::cs,ws,r,h,c,hc=>by
  simp only[l7] at h;obtain⟨r1,h1,h2⟩:=Q.aL h;obtain⟨r2,h3,_⟩:=Q.aL h2;rcases ik.1 hc with rfl | hc
  ·exact arX h1
  ·exact aeC cs h3 c hc
def arT {P:Place} {c:C} {r:C×List Wr} (h:(oW ws P c).run S=some r):c≠.dead:=by
 rintro rfl;simp[oW,st] at h
def aeD:∀(cs:List C) {ws:List Wr} {r:List C×List Wr},(tO ws cs).run S=some r->(∀c∈cs,c≠.dead)/\r.1.length=cs.length
 | [],ws,r,h=>by
  simp only[tO] at h;obtain rfl:=Q.aW h;exact⟨λc hc=>by simp at hc,rfl⟩
 | x::cs,ws,r,h=>by
  simp only[tO] at h;obtain⟨r1,h1,h2⟩:=Q.aL h;obtain⟨r2,h3,h4⟩:=Q.aL h2;obtain rfl:=Q.aW h4;obtain⟨g1,g2⟩:=aeD cs h3;refine⟨λc hc=>?_,by simp[g2]⟩;rcases ik.1 hc with rfl | hc
  ·exact arT h1
  ·exact g1 c hc
def aeB:∀(l:List C) {ws:List Wr} {r:List C×List Wr},(l7 ws l).run S=some r->r.1.length=l.length
 | [],ws,r,h=>by simp only[l7] at h;obtain rfl:=Q.aW h;rfl
 | y::l,ws,r,h=>by
  simp only[l7] at h;obtain⟨r1,g1,g2⟩:=Q.aL h;obtain⟨r2,g3,g4⟩:=Q.aL g2;obtain rfl:=Q.aW g4;simp[aeB l g3]
def ada {mv:Bool} {cs:List C} {r:List C×List Wr} (h:(Ea mv ws cs).run S=some r):(∀c∈cs,c≠.dead)/\r.1.length=cs.length:=by
 unfold Ea at h;split at h
 ·exact aeD cs h
 ·exact⟨aeC cs h,aeB cs h⟩
def mP.cells {γ0 γ:Key->Nat} (hs:Step w0 w L0 L γ0 γ) {m:Nat} {x:V} {v:Value} (h:mP nm w0 L0 γ0 w L γ m x v) (hx:∀vs,x≠.ao vs) (hl:∀c∈x.cells,c≠.dead) :
  x.cells.length=v.cells.size/\∀(j:Nat) c u,x.cells[j]? = some c->v.cells[j]? = some u->iS nm w0 L0 γ0 w L γ m j c u:=by
 cases x with
 | one c=>
  have hc:iS nm w0 L0 γ0 w L γ m 0 c v:=h;have h1:=(hc.rep hs).wT (hl c (by simp[V.cells]));have hv:v.cells = #[v]:=by cases v<;>first | rfl | simp[Value.oneCell'] at h1
  rw[hv];refine⟨rfl,λj c' u h2 h3=>?_⟩;cases j with
  | zero=>simp[V.cells] at h2 h3;subst h2;subst h3;exact hc
  | succ j=>simp[V.cells] at h2
 | agg cs=>
  obtain⟨vs,rfl,h1,h2⟩:=h;exact⟨h1,h2⟩
 | ao vs=>exact absurd rfl (hx vs)
def atj {v:V} {n:Nat} (hn:n≠0) {cs:List C} (h:cs.length=n) (hv:cs.length=v.cells.length):∀vs,v≠.ao vs:=by
 rintro vs rfl;have:cs.length=0:=hv;omega
def MT {mv:Bool} (M:cf nm N S0 w0 L0 ws a w L) (R0:Rel nm N S0 a w0 L0) {m:Nat} (hm:sw L m) {x:Operand} {X:ax.X} (hx:bV nm X x) (bh:X.iJ=true) {v:V} {eS:List Wr} (h1:(tk ws X).run S0=some (v,eS)) {cs:List C} {fu:List Wr}
  (h2:(Ea mv eS v.cells).run S0=some (cs,fu)) (hn:cs.length≠0) :
  ∃L',Out nm N S0 w0 L0 ws fu a w L L' (λq=>q.k≠.h m) m/\cs.length=(a.eval x).cells.size/\
   ∀(j:Nat) c u,cs[j]? = some c->(a.eval x).cells[j]? = some u->aC nm w L' (S0.ai fu).γ (.h m) j c u:=by
 obtain⟨L1,O1,V1⟩:=r9 M R0 hm bh hx h1;have hlen:cs.length=v.cells.length:=(ada h2).2;have qv:∀vs,v≠.ao vs:=atj hn rfl hlen;obtain⟨c1,c2⟩:=V1.cells O1.mid.cU qv (ada h2).1
 obtain⟨L2, O2, l2, R2⟩ := aqz (mv := mv) (m := m) v.cells O1.mid 0 (λj => (a.eval x).cells.getD j undef) (λj c hc => by
   have hj : j < (a.eval x).cells.size := by rw[<- c1]; exact(cd.1 hc).1
   have := c2 j c _ hc (oZ hj)
   simpa[Array.getD, hj] using this) h2
 refine⟨L2,(O1.weaken (λ_ _=>trivial)).trans (O2.weaken (λq hq h=>hq h.1)),by rw[<-c1];exact l2,?_⟩;intro j c u hc hu;have:=R2 j c hc;simpa[jW,hu] using this
def ajG (R:Rel nm N S a w L) (hH:eA L) (hd:∀d,o.dst=some d->d < N) {t:TypeId} {n:Nat} {x:Operand} {X:ax.X} (hx:bV nm X x) (bh:X.iJ=true) (ho:o.op = .box t x) (hn:n≠0)
  (hr:(ch Cl d (.box n X)).run S=some r):dx P a w o (dN nm N S w L a o.dst r.1 r.2):=by
 simp only[ch] at hr;obtain⟨⟨v,eS⟩,h1,h2⟩:=Q.aL hr;clear hr;obtain⟨⟨cs,fu⟩,h3,h4⟩:=Q.aL h2;clear h2;obtain⟨hg,h5⟩:=Q.ec h4;clear h4;simp only[kv] at hg;obtain⟨L',O,hl,hc⟩:=MT (mv:=false) (cf.init R) R (m:=0) (λB q o hB e=>by have:=hH B q o hB;rw[e] at this;simp[Key.aT] at this) hx bh h1 h3 (by omega);refine .val (v:=.pointer (some ⟨w.heap.size,0,none⟩)) (w':=w.alloc (.cells (a.eval x).cells t)) ?_ (Xi O.mid hl hc h5 hd);have:(Instr.box t (a.eval x)).run P w = .ok (.pointer (some ⟨w.heap.size,0,none⟩)) (w.alloc (.cells (a.eval x).cells t)):=by
  simp[Instr.box,newVar,newRow]
 simp[execOp,ho,this]
end
end
section
section
variable {nm:FuncId->Option Nat} {N:Nat} {S S0:St} {a:Act} {w w0:World} {L L0:aw} {P:Program} {o:Oper} {Cl:bX} {d:Nat} {r:V×List Wr} {ws:List Wr}
def cf.wZ (M:cf nm N S0 w0 L0 ws a w L) {f:Place->Option Place} (J3:∀q:Place,q.k.aT=true->f q=some q) (vU:∀q t,f q=some t->t.k.aT=true->q=t) (ri:∀q q' t,f q=some t->f q'=some t->q=q') :
  cf nm N S0 w0 L0 ws a w (cT f L)/\Step w w L (cT f L) (S0.ai ws).γ (S0.ai ws).γ:=by
 have bF:Step w w L (cT f L) (S0.ai ws).γ (S0.ai ws).γ:=
  ⟨λB hB=>⟨jP.2 hB,rfl⟩,λ_=>cp _,λB q o hq _ hB=>⟨gO hB (J3 q hq),λcur e fz h=>⟨cur,h,rfl⟩⟩,λ_ _ _ _ _ _ _=>rfl,λB r o _ hB=>jw.2 hB⟩
 refine⟨⟨M.rel.wZ J3 ri,M.cU.trans bF,M.mono.trans (HW f),?_,M.heap,M.wC,λB r o hB=>jw.2 (M.boxes B r o hB)⟩,bF⟩;intro B q o hq hB;obtain⟨q0,h1,h2⟩:=oR hB;rw[vU q0 q h2 hq] at h1;exact M.rows B q o hq h1
def aC.adw {f:Place->Option Place} {k k':Key} {j j':Nat} {γ:Key->Nat} {c:C} {v:Value} (bF:Step w w L (cT f L) γ γ) (h:aC nm w L γ k j c v) (hf:∀p,f ⟨k,j,p⟩=some ⟨k',j',p⟩) (hkk:(∃r c,k = .b r c)->∃r c,k' = .b r c:=by first | exactλh=>h | exactλ_=>⟨_,_,rfl⟩ | (rintro⟨r,c,h⟩;cases h;done)):aC nm w (cT f L) γ k' j' c v:=by
 refine h.step bF ?_ (hkk:=hkk);intro B q o h1 h2 hL;refine⟨gO hL ?_,rfl⟩;have:=hf q.p;rw[<-h1,<-h2] at this;exact this
def tD (off n:Nat):Place->Option Place:=λq=>
 if q.k = .h 1 then(if q.j < n then some ⟨.h 0,off+q.j,q.p⟩ else none)
 else if q.k = .h 0 then(if off<=q.j/\q.j < off+n then none else some q)
 else some q
def MR {off n:Nat} {q t:Place} (h:tD off n q=some t):(q.k = .h 1/\q.j < n/\t=⟨.h 0,off+q.j,q.p⟩)\/(q.k = .h 0/\¬ (off<=q.j/\q.j < off+n)/\t=q)\/(q.k≠.h 1/\q.k≠.h 0/\t=q):=by
 unfold tD at h;split at h
 ·split at h
  ·simp only[au] at h;exact .inl ⟨‹_›,‹_›,h.symm⟩
  ·cases h
 ·split at h
  ·split at h
   ·cases h
   ·simp only[au] at h;exact .inr (.inl ⟨‹_›,‹_›,h.symm⟩)
  ·simp only[au] at h;exact .inr (.inr ⟨‹_›,‹_›,h.symm⟩)
def aqj {off n:Nat} {q q' t:Place} (h1:tD off n q=some t) (h2:tD off n q'=some t):q=q':=by
 rcases MR h1 with⟨a1,a2,a3⟩ | ⟨a1,a2,a3⟩ | ⟨a1,a2,a3⟩<;>rcases MR h2 with⟨b1,b2,b3⟩ | ⟨b1,b2,b3⟩ | ⟨b1,b2,b3⟩
 ·rw[a3] at b3;simp only[Place.mk.injEq,nD] at b3;obtain⟨k,j,p⟩:=q;obtain⟨k',j',p'⟩:=q';simp only at *;rw[a1,b1,b3.2,show j=j' by omega]
 ·exact absurd (by rw[<-b3,a3];simp;omega) b2
 ·exact absurd (by rw[<-b3,a3]) b2
 ·exact absurd (by rw[<-a3,b3];simp;omega) a2
 ·rw[<-a3,<-b3]
 ·exact absurd (by rw[<-b3,a3];exact a1) b2
 ·exact absurd (by rw[<-a3,b3]) a2
 ·exact absurd (by rw[<-a3,b3];exact b1) a2
 ·rw[<-a3,<-b3]
def aqi {off n:Nat} {q:Place} (h:q.k.aT=true):tD off n q=some q:=by
 unfold tD;rw[aI (λe=>by rw[e] at h;simp[Key.aT] at h),aI (λe=>by rw[e] at h;simp[Key.aT] at h)]
def aqh {off n:Nat} {q t:Place} (h:tD off n q=some t) (ht:t.k.aT=true):q=t:=by
 rcases MR h with⟨_,_,rfl⟩ | ⟨_,_,h⟩ | ⟨_,_,h⟩
 ·simp[Key.aT] at ht
 ·exact h.symm
 ·exact h.symm
def Io (cells:Array Value) (off:Nat) (vs:Array Value):Array Value:=vs.zipIdx.foldl (λcs (c,j)=>cs.setIfInBounds (off+j) c) cells
def ae7 (off:Nat):∀(l:List Value) (j0:Nat) (cells:Array Value),((l.zipIdx j0).foldl (λcs (c,j)=>cs.setIfInBounds (off+j) c) cells).size=cells.size/\
  ∀k,k < cells.size->((l.zipIdx j0).foldl (λcs (c,j)=>cs.setIfInBounds (off+j) c) cells)[k]? = if off+j0<=k/\k < off+j0+l.length then l[k - (off+j0)]? else cells[k]?
 | [],j0,cells=>⟨rfl,λk hk=>by simp;intro h1 h2;omega⟩
 | v::l,j0,cells=>by
  obtain⟨h1,h2⟩:=ae7 off l (j0+1) (cells.setIfInBounds (off+j0) v);simp only[List.zipIdx_cons,V4];refine⟨by rw[h1];simp,λk hk=>?_⟩;rw[h2 k (by simpa using hk)];by_cases uH:off+(j0+1)<=k/\k < off+(j0+1)+l.length
  ·rw[aP uH,aP ⟨by omega,by simp;omega⟩,show k - (off+j0)=(k - (off+(j0+1)))+1 by omega,BA]
  ·rw[aI uH];by_cases kP:k=off+j0
   ·subst kP;rw[aP ⟨cp _,by simp⟩,Wc];simp[zj,hk]
   ·rw[By (λe=>kP e.symm),aI (by simp;omega)]
def ae8 (cells:Array Value) (off:Nat) (vs:Array Value):(Io cells off vs).size=cells.size/\∀k,k < cells.size->(Io cells off vs)[k]? = if off<=k/\k < off+vs.size then vs[k - off]? else cells[k]?:=by
 have:=ae7 off vs.toList 0 cells;unfold Io;rw[<-VU,Array.toList_zipIdx];simpa using this
def arP {α:Type} {l:List α} {off:Nat} {cs:List α} (h:off+cs.length<=l.length) (k:Nat):(Es l off cs)[k]? = if off<=k/\k < off+cs.length then cs[k - off]? else l[k]?:=by
 unfold Es;have h1:(l.take off).length=off:=by rw[ud];omega
 by_cases hk:k < off
 ·rw[fI,nZ (by omega),zm hk,aI (by omega)]
 ·by_cases kP:k < off+cs.length
  ·rw[fI,qP (by omega),h1,nZ (by omega),aP ⟨by omega,kP⟩]
  ·rw[qP (by rw[fH,h1];omega),fH,h1,vr,aI (by omega)];congr 1;omega
def arQ {α:Type} {l:List α} {off:Nat} {cs:List α} (h:off+cs.length<=l.length):(Es l off cs).length=l.length:=by
 simp[Es];omega
def IT (nm:FuncId->Option Nat) (place:Nat->Option (Nat×Nat)):List (Nat×Nat×ax.X)->List (Nat×Operand)->Prop
 | [],[]=>True
 | (off,n,X)::t,(i,x)::t'=>place i=some (off,n)/\n≠0/\bV nm X x/\X.iJ=true/\IT nm place t t'
 | _,_=>False
def YU (R0:Rel nm N S0 a w0 L0) {place:Nat->Option (Nat×Nat)}:∀(parts:List (Nat×Nat×ax.X)) (ps:List (Nat×Operand)) {ws:List Wr} {L:aw} {cells:List C} {vs:Array Value} (M:cf nm N S0 w0 L0 ws a w L) (hf:sw L 1)
  (hl:cells.length=vs.size) (hc:∀(j:Nat) c u,cells[j]? = some c->vs[j]? = some u->aC nm w L (S0.ai ws).γ (.h 0) j c u) (hp:IT nm place parts ps) {r:List C×List Wr} (hr:(Fs ws cells parts).run S0=some r),
  ∃L' eR,Instr.fill place vs (ps.map λp=>(p.1,a.eval p.2))=some eR/\cf nm N S0 w0 L0 r.2 a w L'/\r.1.length=eR.size/\∀(j:Nat) c u,r.1[j]? = some c->eR[j]? = some u->aC nm w L' (S0.ai r.2).γ (.h 0) j c u
 | [],[],ws,L,cells,vs,M,hf,hl,hc,hp,r,hr=>by
  simp only[Fs] at hr;obtain rfl:=Q.aW hr;exact⟨L,vs,rfl,M,hl,hc⟩
 | (off,n,X)::parts,(i,x)::ps,ws,L,cells,vs,M,hf,hl,hc,hp,r,hr=>by
  obtain⟨di,hn,hx,bh,hp⟩:=hp;simp only[Fs] at hr;obtain⟨⟨v,eS⟩,h1,h2⟩:=Q.aL hr;clear hr;obtain⟨⟨cs,fu⟩,h3,h4⟩:=Q.aL h2;clear h2;obtain⟨hg,h5⟩:=Q.ec h4;clear h4;simp only[cI,kv,gX] at hg;obtain⟨aU,Gp⟩:=hg;obtain⟨L1,O1,jI,dM⟩:=MT (mv:=false) M R0 hf hx bh h1 h3 (by omega);obtain⟨M2,bF⟩:=O1.mid.wZ (f:=tD off n) (λq hq=>aqi hq) (λq t h ht=>aqh h ht) (λq q' t a b=>aqj a b);have F0:sw (cT (tD off n) L1) 1:=by
   intro B q o hB e;obtain⟨q0,_,h2⟩:=oR hB;rcases MR h2 with⟨_,_,h⟩ | ⟨h6,_,h⟩ | ⟨h6,_,h⟩
   ·rw[h] at e;simp at e
   ·rw[h,h6] at e;simp at e
   ·rw[h] at e;exact h6 e
  obtain⟨u1,u2⟩:=ae8 vs off (a.eval x).cells;have hle:off+cs.length<=cells.length:=by omega
  obtain⟨L', eR, g1, g2, g3, g4⟩ := YU R0 parts ps (cells := Es cells off cs) (vs := Io vs off (a.eval x).cells) M2 F0 (by rw[arQ hle, u1]; exact hl) (by
    intro j c u hj hu
    rw[arP hle] at hj
    have Z5 : j < vs.size := by rw[<- u1]; exact(lH.1 hu).1
    rw[u2 j Z5, <- jI] at hu
    by_cases j9 : off <= j /\ j < off + cs.length
    · rw[aP j9] at hj hu
      have := aC.adw (k' := .h 0) (j' := j) bF (dM (j - off) c u hj hu) (λp => by
        simp only[tD, dj]; rw[aP (by omega), show off + (j - off) = j by omega])
      exact this
    · rw[aI j9] at hj hu
      have h0 := (hc j c u hj hu).keep O1.keep (λp => by simp)
      exact aC.adw bF h0 (λp => by
        simp only[tD]; rw[aI (by simp), aP trivial, aI (by omega)])) hp h5
  refine⟨L',eR,?_,g2,g3,g4⟩;simp only[e9,Instr.fill,di];rw[aI (by simp;omega)];exact g1
 | [],_::_,_,_,_,_,_,_,_,_,hp,_,_=>hp.elim
 | (_,_,_)::_,[],_,_,_,_,_,_,_,_,hp,_,_=>hp.elim
def adZ {α β:Type} {f:α->Sem β} {g:α->β}:∀(l:List α),(∀x∈l,(f x).run P w = .ok (g x) w)->(l.mapM f).run P w = .ok (l.map g) w
 | [],_=>by simp
 | x::l,h=>by
  rw[mM];simp[h x (by simp),adZ l (λy hy=>h y (by simp[hy]))]
def ajJ (R:Rel nm N S a w L) (hH:eA L) (hd:∀d,o.dst=some d->d < N) {t:TypeId} {fs:Array Field} {parts:Array (Nat×Operand)} {zs:List C} {ps:List (Nat×Nat×ax.X)} (ho:o.op = .build t parts) (hz:p5 P t=some zs) (ht:P.underlying t=some (.struct fs))
  (CO:∀f∈fs.toList,(jT P f.type).isSome=true) (hp:IT nm (λi=>(fs.map λf=>(f.offset,(jT P f.type).getD 0))[i]?) ps parts.toList)
  (hr:(ch Cl d (.build zs ps)).run S=some r):dx P a w o (dN nm N S w L a o.dst r.1 r.2):=by
 simp only[ch] at hr;obtain⟨⟨cs,eS⟩,h1,h2⟩:=Q.aL hr;clear hr;obtain rfl:=Q.aW h2;obtain⟨i,z,k1,k2,k3,k4,k5⟩:=Bx hz;obtain⟨L',eR,g1,g2,g3,g4⟩:=YU R ps parts.toList (cf.init R) (λB q o hB e=>by have:=hH B q o hB;rw[e] at this;simp[Key.aT] at this) (cells:=zs) (vs:=z.cells) k3.symm
  (λj c u hj hu=>(k5 j c u hj hu).rep _ _ _ _ _) hp h1
 refine .val (v:=.agg eR) (w':=w) ?_ (g2.rel.gj g2.mono hd (.agg g3 g4));have hm:(fs.mapM λf=>do pure (f.offset,<-sizeOf f.type):Sem _).run P w = .ok (fs.map λf=>(f.offset,(jT P f.type).getD 0)) w:=by
  rw[afX]
  rw[Sem.run_map, adZ (g := λf => (f.offset, (jT P f.type).getD 0)) fs.toList (λf hf => by
    obtain⟨n, hn⟩ := zk.1 (CO f hf)
    simp[y7 hn, hn])]
  simp only[Result.andThen_ok];congr 1;apply zi;simp
 have:(Instr.build t (parts.map λ(i,x)=>(i,a.eval x))).run P w = .ok (.agg eR) w:=by
  simp only[Instr.build,Sem.run_bind,zeroValue,typeInfo,run_program,k1,k2,Result.andThen_ok,Sem.run_pure,run_underlying ht,hm];have At:(parts.map λ(i,x)=>(i,a.eval x)).toList=parts.toList.map λp=>(p.1,a.eval p.2):=by simp
  rw[At,g1];rfl
 simp[execOp,ho,this]
end
end
end Go.ax
