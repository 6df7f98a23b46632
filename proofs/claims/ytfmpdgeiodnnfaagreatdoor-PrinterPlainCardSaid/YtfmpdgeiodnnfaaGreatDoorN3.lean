/- A part of the proof. -/
import Derived.Test.YtfmpdgeiodnnfaaGreatDoorN2
import Derived.Test.YtfmpdgeiodnnfaaGreatDoorN0
import Derived.Test.YtfmpdgeiodnnfaaGreatDoorN1
import Derived.Test.YtfmpdgeiodnnfaaGreatDoorChecked
import Derived.KernelRfl
import Derived.Shelf.Strings.Builder1
import Derived.Shelf.LaysM
import Derived.Shelf.LaysC
import Derived.Shelf.Strconv.Itoa4
import Derived.Shelf.Strings.Search1
import Derived.Shelf.Strconv.AtoiAll
import Derived.Shelf.Strconv.ErrVarAll
import Derived.Shelf.Strconv.ErrVarParseInt
import Derived.Test.YtfmpdgeiodnnfaaGreatDoorProg
import Derived.Below
import Derived.Test.YtfmpdgeiodnnfaaGreatDoorRows
import Derived.Lib.Walk
import Derived.Lib.Builder
import Derived.Lib.UnsafeStr
import Derived.WalkKit
import Derived.Laws.Externs
import Derived.Lib.MakeNoZero
import Derived.Laws.IdiomCopy
set_option linter.all false
set_option maxRecDepth 100000
namespace Go.ax
section
def jm (rs:List aJ) (ok:Nat->Nat->Bool) (size:Nat) (L Lc eT:aw):aw:=λB=>
 if(Lc B).isNone=true/\B < size then
  match L B with
  | some (.row ⟨.b r c,j,p⟩ o)=>(match jh rs r 0 with | some i=>if ok i c=true then none else some (.row ⟨.b r c,j,p⟩ o) | none=>some (.row ⟨.b r c,j,p⟩ o))
  | some (.box r o)=>if rs.contains r=true then none else some (.box r o)
  | x=>x
 else
  match eT B with
  | some .bg=>some .bg
  | some (.box (.e i) o)=>(rs[i]?).map λr=>.box r o
  | some (.row ⟨.b (.e i) c,j,p⟩ o)=>(match rs[i]? with | some r=>if ok i c=true then some (.row ⟨.b r c,j,p⟩ o) else none | none=>none)
  | some (.row ⟨.h 0,j,p⟩ o)=>some (.row ⟨.h 0,j,p⟩ o)
  | _=>none
mutual
def MO {gs:List (aJ×Nat)}:∀{c c':C},c.clean=true->c.dR gs=some c'->c'.clean=true
 | .d x,c',h,hi=>by simp only[C.dR,au] at hi;subst hi;exact h
 | .ptr (.e i) g k,c',h,hi=>by simp only[C.dR] at hi;obtain⟨i,_,rfl⟩:=bK hi;rfl
 | .ptr (.l i) g k,c',h,hi=>by simp[C.dR] at hi
 | .ptr (.g i) g k,c',h,hi=>by simp[C.dR] at hi
 | .pp cells,c',h,hi=>by simp only[C.dR,au] at hi;subst hi;rfl
 | .fn f x y,c',h,hi=>by
  simp only[C.dR] at hi;obtain⟨x',h1,h2⟩:=fw.1 hi;obtain⟨y',h3,rfl⟩:=bK h2;simp only[C.clean,cI] at h ⊢;exact⟨MP h.1 h1,MP h.2 h3⟩
 | .c7,c',h,hi=>by simp only[C.dR,au] at hi;subst hi;rfl
 | .eY,c',h,hi=>by simp only[C.dR,au] at hi;subst hi;rfl
 | .fQ,c',h,hi=>by simp only[C.dR,au] at hi;subst hi;rfl
 | .fk,c',h,hi=>by simp only[C.dR,au] at hi;subst hi;rfl
 | .dead,c',h,hi=>by simp only[C.dR,au] at hi;subst hi;rfl
 | .eB ..,c',h,hi=>by simp[C.dR] at hi
 | .view ..,c',h,hi=>by simp[C.dR] at hi
 | .cY ..,c',h,hi=>by simp[C.dR] at hi
 | .mp _,c',h,hi=>by simp[C.dR] at hi
 | .gq ..,c',h,hi=>by simp[C.dR] at hi
def MP {gs:List (aJ×Nat)}:∀{l l':List C},jZ l=true->nn gs l=some l'->jZ l'=true
 | [],l',h,hi=>by simp only[nn,au] at hi;subst hi;rfl
 | c::t,l',h,hi=>by
  simp only[nn] at hi;obtain⟨c1,h1,h2⟩:=fw.1 hi;obtain⟨t1,h3,rfl⟩:=bK h2;simp only[jZ,cI] at h ⊢;exact⟨MO h.1 h1,MP h.2 h3⟩
end
def D7 {gs:List (aJ×Nat)}:∀{l l':List C} (j:Nat) {c':C},nn gs l=some l'->l'[j]? = some c'->∃c,l[j]? = some c/\c.dR gs=some c'
 | [],l',j,c',h,hj=>by simp only[nn,au] at h;subst h;simp at hj
 | c::t,l',j,c',h,hj=>by
  simp only[nn] at h;obtain⟨c1,h1,h2⟩:=fw.1 h;obtain⟨t1,h3,rfl⟩:=bK h2;cases j with
  | zero=>simp at hj;subst hj;exact⟨c,rfl,h1⟩
  | succ j=>obtain⟨c2,g1,g2⟩:=D7 j h3 (by simpa using hj);exact⟨c2,by simpa using g1,g2⟩
def D8 {gs:List (aJ×Nat)}:∀{l l':List C},nn gs l=some l'->l'.length=l.length
 | [],l',h=>by simp only[nn,au] at h;subst h;rfl
 | c::t,l',h=>by
  simp only[nn] at h;obtain⟨c1,h1,h2⟩:=fw.1 h;obtain⟨t1,h3,rfl⟩:=bK h2;simp[D8 h3]
def acx {gs:List (aJ×Nat)}:∀{l l':List V} (j:Nat) {c':V},tC gs l=some l'->l'[j]? = some c'->∃c,l[j]? = some c/\c.pQ gs=some c'
 | [],l',j,c',h,hj=>by simp only[tC,au] at h;subst h;simp at hj
 | c::t,l',j,c',h,hj=>by
  simp only[tC] at h;obtain⟨c1,h1,h2⟩:=fw.1 h;obtain⟨t1,h3,rfl⟩:=bK h2;cases j with
  | zero=>simp at hj;subst hj;exact⟨c,rfl,h1⟩
  | succ j=>obtain⟨c2,g1,g2⟩:=acx j h3 (by simpa using hj);exact⟨c2,by simpa using g1,g2⟩
def acy {gs:List (aJ×Nat)}:∀{l l':List V},tC gs l=some l'->l'.length=l.length
 | [],l',h=>by simp only[tC,au] at h;subst h;rfl
 | c::t,l',h=>by
  simp only[tC] at h;obtain⟨c1,h1,h2⟩:=fw.1 h;obtain⟨t1,h3,rfl⟩:=bK h2;simp[acy h3]
mutual
def aqe {gs:List (aJ×Nat)}:∀{c c':V},c.clean=true->c.pQ gs=some c'->c'.clean=true
 | .one c,c',h,hi=>by simp only[V.pQ] at hi;obtain⟨x,h1,rfl⟩:=bK hi;exact MO (c:=c) h h1
 | .agg cs,c',h,hi=>by simp only[V.pQ] at hi;obtain⟨x,h1,rfl⟩:=bK hi;exact MP (l:=cs) h h1
 | .ao vs,c',h,hi=>by simp only[V.pQ] at hi;obtain⟨x,h1,rfl⟩:=bK hi;exact TI (l:=vs) h h1
def TI {gs:List (aJ×Nat)}:∀{l l':List V},nE l=true->tC gs l=some l'->nE l'=true
 | [],l',h,hi=>by simp only[tC,au] at hi;subst hi;rfl
 | c::t,l',h,hi=>by
  simp only[tC] at hi;obtain⟨c1,h1,h2⟩:=fw.1 hi;obtain⟨t1,h3,rfl⟩:=bK h2;simp only[nE,cI] at h ⊢;exact⟨aqe h.1 h1,TI h.2 h3⟩
end
def acv {gs:List (aJ×Nat)}:∀{l l':List (List C)} (j:Nat) {c':List C},rK gs l=some l'->l'[j]? = some c'->∃c,l[j]? = some c/\nn gs c=some c'
 | [],l',j,c',h,hj=>by simp only[rK,au] at h;subst h;simp at hj
 | c::t,l',j,c',h,hj=>by
  simp only[rK] at h;obtain⟨c1,h1,h2⟩:=fw.1 h;obtain⟨t1,h3,rfl⟩:=bK h2;cases j with
  | zero=>simp at hj;subst hj;exact⟨c,rfl,h1⟩
  | succ j=>obtain⟨c2,g1,g2⟩:=acv j h3 (by simpa using hj);exact⟨c2,by simpa using g1,g2⟩
def TH {gs:List (aJ×Nat)}:∀{l l':List (List C)},rK gs l=some l'->l'.length=l.length
 | [],l',h=>by simp only[rK,au] at h;subst h;rfl
 | c::t,l',h=>by
  simp only[rK] at h;obtain⟨c1,h1,h2⟩:=fw.1 h;obtain⟨t1,h3,rfl⟩:=bK h2;simp[TH h3]
section
variable {nm:FuncId->Option Nat} {N:Nat} {a:Act} {w w':World} {L Lc eT L2:aw} {γ2:Key->Nat} {gs:List (aJ×Nat)}
structure EU (w':World) (eT L2:aw) (γ2:Key->Nat) (gs:List (aJ×Nat)):Prop where
 bg:∀B,eT B=some .bg->L2 B=some .bg
 box:∀B (i:Nat) r g o,gs[i]? = some (r,g)->eT B=some (.box (.e i) o)->L2 B=some (.box r o)
 gen:∀(i:Nat) r g,gs[i]? = some (r,g)->g<=γ2 (.r r)
def aC.back {k:Key} {j:Nat} {c:C} {v:Value} (hb:EU w' eT L2 γ2 gs) (h:aC nm w' eT (λ_=>0) k j c v):∀{c':C},c.dR gs=some c'->c.clean=true->∀k' j',aC nm w' L2 γ2 k' j' c' v:=by
 have fU:sx w' w' eT L2:=λB hB=>⟨hb.bg B hB,rfl⟩
 induction h with
 | @d x v h=>
  intro c' hi hc k' j';simp only[C.dR,au] at hi;subst hi;cases h with
  | plain h=>exact .d (.plain (h.mono fU))
  | jg=>simp[C.clean] at hc
  | own=>simp[C.clean] at hc
 | @ptr r g c v hv hg h=>
  intro c' hi hc k' j';cases r with
  | e i=>
   simp only[C.dR] at hi;obtain⟨⟨r',g'⟩,h1,rfl⟩:=bK hi;obtain⟨B,o,h2,h3⟩:=h (by omega);exact .ptr hv (hb.gen i r' g' h1) (λ_=>⟨B,o,hb.box B i r' g' o h1 h2,h3⟩)
  | l i=>simp[C.dR] at hi
  | g i=>simp[C.dR] at hi
 | eB=>intro c' hi;simp[C.dR] at hi
 | pp hL hB h=>
  intro c' hi hc k' j';simp only[C.dR,au] at hi;subst hi;refine .pp (hb.bg _ hL) hB (λq x hx=>?_);obtain⟨u,h1,h2⟩:=h q x hx;exact⟨u,h1,h2.mono fU⟩
 | view=>intro c' hi;simp[C.dR] at hi
 | cY=>intro c' hi;simp[C.dR] at hi
 | mp=>intro c' hi;simp[C.dR] at hi
 | gq=>intro c' hi;simp[C.dR] at hi
 | @fns f l v B o cap cur e fz val hf hL hB aU hv h ih=>
  intro c' hi hc k' j';have sW:=MO hc hi;simp only[C.dR] at hi;obtain⟨x',g1,g2⟩:=fw.1 hi;obtain⟨y',g3,rfl⟩:=bK g2;simp only[nn,au] at g1;subst g1;simp only[C.clean,cI] at sW;have hlen:=D8 g3;refine .fns val (by rw[hlen];exact hf) (hb.bg _ hL) hB sW.2 (by rw[hlen];exact hv) ?_;intro i x hx;obtain⟨c0,k1,k2⟩:=D7 i g3 hx;exact ih i c0 k1 k2 (jG aU k1) _ _
 | @fn f first cap cj fs cs j8 hf h1 h2 aU h3 h4 ta td=>
  intro c' hi hc k' j';have sW:=MO hc hi;simp only[C.dR] at hi;obtain⟨x',g1,g2⟩:=fw.1 hi;obtain⟨y',g3,rfl⟩:=bK g2;simp only[C.clean,cI] at sW;refine .fn j8 hf (by rw[D8 g1];exact h1) (by rw[D8 g3];exact h2) sW ?_ ?_
  ·intro i x u hx hu;obtain⟨c0,k1,k2⟩:=D7 i g1 hx;exact ta i c0 u k1 hu k2 (jG aU.1 k1) _ _
  ·intro i x u hx hu;obtain⟨c0,k1,k2⟩:=D7 i g3 hx;exact td i c0 u k1 hu k2 (jG aU.2 k1) _ _
 | c7=>intro c' hi _ _ _;simp only[C.dR,au] at hi;subst hi;exact .c7
 | eY=>intro c' hi _ _ _;simp only[C.dR,au] at hi;subst hi;exact .eY
 | fQ=>intro c' hi _ _ _;simp only[C.dR,au] at hi;subst hi;exact .fQ
 | fk=>intro c' hi _ _ _;simp only[C.dR,au] at hi;subst hi;exact .fk
 | bz=>intro c' hi hc;simp[C.clean] at hc
 | dead=>intro c' hi _ _ _;simp only[C.dR,au] at hi;subst hi;exact .dead
def acw {gs:List (aJ×Nat)} {c c':C} (hi:c.dR gs=some c') {B o k:Nat} {e:TypeId} {n:Nat} {v:Value} (h:lK c B o k e n v):lK c' B o k e n v:=by
 cases c' with
 | bz t=>
  cases c with
  | bz t'=>simp only[C.dR,au,C.bz.injEq] at hi;subst hi;exact h
  | ptr r g c=>
   cases r with
   | e i=>simp only[C.dR] at hi;obtain⟨i,_,h2⟩:=bK hi;cases h2
   | l i=>simp[C.dR] at hi
   | g i=>simp[C.dR] at hi
  | fn f a b=>simp only[C.dR] at hi;obtain⟨_,_,h2⟩:=fw.1 hi;obtain⟨_,_,h3⟩:=bK h2;cases h3
  | _=>simp[C.dR] at hi
 | _=>trivial
def aC.OV {k k':Key} {j:Nat} {c:C} {v:Value} (hb:EU w' eT L2 γ2 gs) (h:aC nm w' eT (λ_=>0) k j c v) {c':C} (hi:c.dR gs=some c')
  (dr:∀x,c = .d x->∀B q o,q.k=k->q.j=j->eT B=some (.row q o)->L2 B=some (.row ⟨k',j,q.p⟩ o)) (hkk:(∃r c,k = .b r c)->∃r c,k' = .b r c:=by first | exactλh=>h | exactλ_=>⟨_,_,rfl⟩ | (rintro⟨r,c,h⟩;cases h;done)):aC nm w' L2 γ2 k' j c' v:=by
 cases c with
 | d x=>
  simp only[C.dR,au] at hi;subst hi;cases h with
  | d h=>
   exact .d (bt.move (λq=>⟨k',j,q.p⟩) (λq=>q.k=k/\q.j=j) (λ_ _ _ h=>h) (λ_ _ _ _=>rfl) (λB hB=>⟨hb.bg B hB,rfl⟩) (λB q o hq hL=>⟨dr x rfl B q o hq.1 hq.2 hL,rfl⟩) h ⟨rfl,rfl⟩)
 | cY=>simp[C.dR] at hi
 | mp=>simp[C.dR] at hi
 | bz t=>
  simp only[C.dR,au] at hi;subst hi;cases h with
  | bz hk hv=>exact .bz (hkk hk) hv
 | _=>exact h.back hb hi (h.uv rfl) _ _
def bJ.back {x:V} {v:Value} (hb:EU w' eT L2 γ2 gs) (h:bJ nm w' eT (λ_=>0) (.h 0) x v):∀{x':V},x.pQ gs=some x'->(∀B q o,q.k = .h 0->eT B=some (.row q o)->L2 B=some (.row q o))->bJ nm w' L2 γ2 (.h 0) x' v:=by
 induction h with
 | @one c v h=>
  intro x' hi dr;simp only[V.pQ] at hi;obtain⟨c',h1,rfl⟩:=bK hi;exact .one (h.OV hb h1 (λx _ B q o h1 h2 h3=>by have:=dr B q o h1 h3;rw[this];cases q;simp_all))
 | @agg cs vs hl h=>
  intro x' hi dr;simp only[V.pQ] at hi;obtain⟨dQ,h1,rfl⟩:=bK hi;refine .agg (by rw[D8 h1];exact hl) (λj c u hj hu=>?_);obtain⟨c0,g1,g2⟩:=D7 j h1 hj;exact(h j c0 u g1 hu).OV hb g2 (λx _ B q o h1 h2 h3=>by have:=dr B q o h1 h3;rw[this];cases q;simp_all)
 | @ao vs us hl aU h ih=>
  intro x' hi dr;simp only[V.pQ] at hi;obtain⟨eR,h1,rfl⟩:=bK hi;refine .ao (by rw[acy h1];exact hl) (TI aU h1) (λi x u hj hu=>?_);obtain⟨c0,g1,g2⟩:=acx i h1 hj;exact ih i c0 u g1 hu g2 dr
structure Ov (S1 S2:St) (rs:List aJ) (cy:List (List C)) (ok:Nat->Nat->Bool):Prop where
 len:cy.length=rs.length
 Pw:∀(i:Nat) r (cs:List C),rs[i]? = some r->cy[i]? = some cs->∀(c:Nat) x,cs[c]? = some x->S2.E (.b r c) = .one x
 out:∀(i:Nat) r (cs:List C),rs[i]? = some r->cy[i]? = some cs->∀c,cs.length<=c->S2.E (.b r c) = .one .dead
 size:∀(i:Nat) r (cs:List C),rs[i]? = some r->cy[i]? = some cs->cr (S2.E (.r r))=cs.length
 other:∀k,(∀r c,k = .b r c->r∉rs)->(∀r,k = .r r->r∉rs)->S2.E k=S1.E k
 dP:∀k,S1.γ k<=S2.γ k
 wr:∀(i:Nat) r c,rs[i]? = some r->ok i c=true->S1.γ (.b r c) < S2.γ (.b r c)
 ad1:∀(i:Nat) r c,rs[i]? = some r->ok i c=false->∀x,S1.E (.b r c)≠.one (.d x)
 same:∀(i:Nat) r (cs:List C),rs[i]? = some r->cy[i]? = some cs->∀(c:Nat) x,cs[c]? = some x->ok i c=false->∀y,x≠.d y
def Y1 {S1 S2:St} {qL rs:List aJ} {cy out:List (List C)} {ok:Nat->Nat->Bool} (R:Rel nm N S1 a w L) (hH:EY L) (jq:rs.Nodup) (rq:∃t,rs=qL++t) (hG:∀r∈rs,r.iT=false)
  (C3:∀r∈rs,r∉qL->S1.γ (.r r) < S2.γ (.r r)/\∀i,r≠.e i)
  (CK:Lc=fM qL S1.E L) (hm:dc w w' Lc eT) (Rc:Rel nm 0 (dm 0 out) ⟨#[],[]⟩ w' eT) (X:Ov S1 S2 rs cy ok) (qp:∀i:Nat,(gs[i]?).map (·.1)=rs[i]?) (ak':∀(i:Nat) r g,gs[i]? = some (r,g)->g<=S2.γ (.r r))
  (qm:rK gs out=some cy) :
  Rel nm N S2 a w' (jm rs ok w.heap.size L Lc eT)/\dc w w' L (jm rs ok w.heap.size L Lc eT)/\EU w' eT (jm rs ok w.heap.size L Lc eT) S2.γ gs/\
   (∀B q o,q.k = .h 0->eT B=some (.row q o)->jm rs ok w.heap.size L Lc eT B=some (.row q o)):=by
 have wc:∀{B},Lc B=none->B < w.heap.size->eT B=none/\w'.heap[B]? = w.heap[B]?:=λh1 h2=>hm.none _ h2 h1
 have af:∀{B l},L B=some l->B < w.heap.size:=by
  intro B l hB;exact R.fx B l hB
 have j9:∀{B l},eT B=some l->¬ ((Lc B).isNone=true/\B < w.heap.size):=by
  rintro B l h ⟨h1,h2⟩;rw[(wc (by simpa using h1) h2).1] at h;cases h
 have vU:EU w' eT (jm rs ok w.heap.size L Lc eT) S2.γ gs:=by
  refine⟨λB hB=>?_,λB i r g o hg hB=>?_,ak'⟩
  ·unfold jm;rw[aI (j9 hB)];simp[hB]
  ·unfold jm;rw[aI (j9 hB)];have:=qp i;rw[hg] at this;simp only[fJ] at this;simp[hB,<-this]
 have Gf:∀B q o,q.k = .h 0->eT B=some (.row q o)->jm rs ok w.heap.size L Lc eT B=some (.row q o):=by
  intro B q o hq hB;unfold jm;rw[aI (j9 hB)];obtain⟨k,j,p⟩:=q;simp only at hq;subst hq;simp[hB]
 have alx:∀{B i c j p o r},rs[i]? = some r->ok i c=true->eT B=some (.row ⟨.b (.e i) c,j,p⟩ o)->jm rs ok w.heap.size L Lc eT B=some (.row ⟨.b r c,j,p⟩ o):=by
  intro B i c j p o r hr bh hB;unfold jm;rw[aI (j9 hB)];simp[hB,hr,bh]
 have JZ:∀{B i o r},rs[i]? = some r->eT B=some (.box (.e i) o)->jm rs ok w.heap.size L Lc eT B=some (.box r o):=by
  intro B i o r hr hB;unfold jm;rw[aI (j9 hB)];simp[hB,hr]
 have qq:∀{r i},rs[i]? = some r->jh rs r 0=some i:=λh=>by have:=yV rs (i:=0) jq h;rwa[cQ] at this
 have Ko:∀{B r o},L B=some (.box r o)->r∉rs->jm rs ok w.heap.size L Lc eT B=some (.box r o)/\Lc B=none:=by
  intro B r o hB hr;have hl:Lc B=none:=by
   rw[CK];simp only[fM,hB];cases hx:jh qL r 0 with
   | none=>rfl
   | some i=>
    obtain⟨t,ht⟩:=rq;exact absurd (by rw[ht];exact EO _ (ff (qG qL hx).2)) hr
  refine⟨?_,hl⟩;unfold jm;rw[aP ⟨by rw[hl];rfl,af hB⟩];simp[hB,hr]
 have alC:∀{r},r∈qL->r∈rs:=λh=>by obtain⟨t,ht⟩:=rq;rw[ht];exact EO _ h
 have Kp:∀{B q o},q.k.aT=true->L B=some (.row q o)->(∀(i:Nat) r c,rs[i]? = some r->q.k = .b r c->ok i c=false)->
   jm rs ok w.heap.size L Lc eT B=some (.row q o)/\Lc B=none:=by
  intro B q o hq hB h1;obtain⟨k,j,p⟩:=q;cases k with
  | s i=>
   have hl:Lc B=none:=by rw[CK];simp[fM,hB]
   refine⟨?_,hl⟩;unfold jm;rw[aP ⟨by rw[hl];rfl,af hB⟩];simp[hB]
  | b r c=>
   have hl:Lc B=none:=by
    rw[CK];simp only[fM,hB];cases hx:jh qL r 0 with
    | none=>rfl
    | some i=>
     have C0:=alC (ff (qG qL hx).2);obtain⟨i',uG⟩:=vq C0;have:=X.ad1 i' r c uG (h1 i' r c uG rfl);cases hE:S1.E (.b r c) with
     | one y=>cases y<;>first | rfl | exact absurd hE (this _)
     | _=>rfl
   refine⟨?_,hl⟩;unfold jm;rw[aP ⟨by rw[hl];rfl,af hB⟩];simp only[hB];cases hx:jh rs r 0 with
   | none=>rfl
   | some i=>
    have:=h1 i r c (qG rs hx).2 rfl;simp[this]
  | _=>simp[Key.aT] at hq
 have fU:sx w w' L (jm rs ok w.heap.size L Lc eT):=λB hB=>by
  have h1:Lc B=some .bg:=by rw[CK];exact uz hB
  exact⟨vU.bg B (hm.bg B h1).1,(hm.bg B h1).2⟩
 have ZK:∀{B r o},L B=some (.box r o)->r∈qL->jm rs ok w.heap.size L Lc eT B=some (.box r o):=by
  intro B r o hB hr;obtain⟨i,hi⟩:=vq hr;obtain⟨t,ht⟩:=rq;have ZX:rs[i]? = some r:=by rw[ht,nZ (cd.1 hi).1];exact hi
  have Rz:qL.Nodup:=by rw[ht] at jq;exact(Og.1 jq).1
  have h1:Lc B=some (.box (.e i) o):=by
   rw[CK];exact zS hB (by have:=yV qL (i:=0) Rz hi;rwa[cQ] at this)
  exact JZ ZX (hm.Cg B i o h1)
 have ej:∀{B l},L B=some l->Lc B=none->w'.heap[B]? = w.heap[B]?:=λh1 h2=>(wc h2 (af h1)).2
 have aaf:∀{k:Key},S2.γ k=S1.γ k->∀(i:Nat) r c,rs[i]? = some r->k = .b r c->ok i c=false:=by
  intro k hk i r c hi he;subst he;cases bh:ok i c with
  | false=>rfl
  | true=>have:=X.wr i r c hi bh;omega
 have bF:Step w w' L (jm rs ok w.heap.size L Lc eT) S1.γ S2.γ:=by
  refine⟨fU,X.dP,?_,?_,?_⟩
  ·intro B q o hq hk hB;obtain⟨h1,h2⟩:=Kp hq hB (aaf hk);exact⟨h1,λcur e fz hc=>⟨cur,(ej hB h2).trans hc,rfl⟩⟩
  ·intro B q o hq hk _ hB;obtain⟨h1,h2⟩:=Kp hq hB (aaf hk);exact ej hB h2
  ·intro B r o hk hB;by_cases hr:r∈rs
   ·by_cases Gu:r∈qL
    ·exact ZK hB Gu
    ·have:=(C3 r hr Gu).1;omega
   ·exact(Ko hB hr).1
 have yn:∀{B l},jm rs ok w.heap.size L Lc eT B=some l->
   (Lc B=none/\L B=some l/\B < w.heap.size/\(∀i r c j p o,l = .row ⟨.b r c,j,p⟩ o->rs[i]? = some r->ok i c=false)/\∀r o,l = .box r o->r∉rs)\/
   (l = .bg/\eT B=some .bg)\/(∃(i:Nat) (r:aJ) (o:Nat),l = .box r o/\rs[i]? = some r/\eT B=some (.box (.e i) o))\/
   (∃(i:Nat) (r:aJ) (c j:Nat) (p:List (Nat×Nat)) (o:Nat),l = .row ⟨.b r c,j,p⟩ o/\rs[i]? = some r/\ok i c=true/\eT B=some (.row ⟨.b (.e i) c,j,p⟩ o))\/
   (∃(j:Nat) (p:List (Nat×Nat)) (o:Nat),l = .row ⟨.h 0,j,p⟩ o/\eT B=some (.row ⟨.h 0,j,p⟩ o)):=by
  intro B l h;unfold jm at h;split at h
  ·rename_i hc;left;have hn:Lc B=none:=by simpa using hc.1
   split at h
   ·rename_i r c j p o hL;split at h
    ·rename_i i hi;split at h
     ·cases h
     ·rename_i bh;simp only[au] at h;subst h;refine⟨hn,hL,hc.2,?_,by intro _ _ h;cases h⟩;intro i' r' c' j' p' o' he uG;simp only[db.row.injEq,Place.mk.injEq,Key.b.injEq] at he;obtain⟨⟨⟨rfl,rfl⟩,rfl,rfl⟩,rfl⟩:=he;have:=qq uG;rw[hi] at this;simp only[au] at this;subst this;simpa using bh
    ·rename_i hi;simp only[au] at h;subst h;refine⟨hn,hL,hc.2,?_,by intro _ _ h;cases h⟩;intro i' r' c' j' p' o' he uG;simp only[db.row.injEq,Place.mk.injEq,Key.b.injEq] at he;obtain⟨⟨⟨rfl,rfl⟩,rfl,rfl⟩,rfl⟩:=he;have:=qq uG;rw[hi] at this;cases this
   ·rename_i r o hL;split at h
    ·cases h
    ·rename_i hr;simp only[au] at h;subst h;refine⟨hn,hL,hc.2,(by intro _ _ _ _ _ _ h;cases h),?_⟩;intro r' o' he;simp only[db.box.injEq] at he;obtain⟨rfl,rfl⟩:=he;simpa using hr
   ·rename_i h1 h2;refine⟨hn,h,hc.2,?_,?_⟩
    ·intro i r c j p o he;subst he;exact absurd h (h1 _ _ _ _ _)
    ·intro r o he;subst he;exact absurd h (h2 _ _)
  ·right;split at h
   ·simp only[au] at h;exact .inl ⟨h.symm,‹_›⟩
   ·rename_i i o hL;obtain⟨r,h1,h2⟩:=bK h;exact .inr (.inl ⟨i,r,o,h2,h1,hL⟩)
   ·rename_i i c j p o hL;split at h
    ·rename_i r hr;split at h
     ·rename_i bh;simp only[au] at h;exact .inr (.inr (.inl ⟨i,r,c,j,p,o,h.symm,hr,bh,hL⟩))
     ·cases h
    ·cases h
   ·rename_i j p o hL;simp only[au] at h;exact .inr (.inr (.inr ⟨j,p,o,h.symm,hL⟩))
   ·cases h
 have C9:∀{i i':Nat} {r},rs[i]? = some r->rs[i']? = some r->i=i':=by
  intro i i' r h1 h2;have e1:=qq h1;have e2:=qq h2;rw[e1] at e2;simpa using e2
 have pG:∀{i:Nat} {r},rs[i]? = some r->∃cs gZ,cy[i]? = some cs/\out[i]? = some gZ/\nn gs gZ=some cs/\cs.length=gZ.length:=by
  intro i r hi;have ew:i < cy.length:=by rw[X.len];exact(cd.1 hi).1
  have h1:cy[i]? = some cy[i]:=kI ew;obtain⟨gZ,h2,h3⟩:=acv i qm h1;exact⟨cy[i],gZ,h1,h2,h3,D8 h3⟩
 refine⟨⟨R.size,R.defers,?_,?_,?_,?_,?_,?_,?_,?_⟩,?_,vU,Gf⟩
 ·intro i;rw[X.other (.s i) (by intro _ _ h;cases h) (by intro _ h;cases h)];refine(R.slot i).step bF (λB q o hq hB=>?_);obtain⟨h1,h2⟩:=Kp (by rw[hq];rfl) hB (λi r c _ h=>by rw[hq] at h;cases h);rw[<-hq,Place.mf];exact⟨h1,ej hB h2⟩
 ·intro r c x hx gp;by_cases hr:r∈rs
  ·obtain⟨i,hi⟩:=vq hr;obtain⟨cs,gZ,h1,h2,h3,h4⟩:=pG hi;by_cases hc:c < cs.length
   ·have eJ:cs[c]? = some cs[c]:=kI hc;have:=X.Pw i r cs hi h1 c _ eJ;rw[hx] at this;simp only[V.one.injEq] at this;rw[<-this] at eJ;obtain⟨y,k1,k2⟩:=D7 c h3 eJ;have jK:y≠.dead:=by
     rintro rfl;simp only[C.dR,au] at k2;exact gp k2.symm
    have bD:i < out.length:=(cd.1 h2).1;have J5:out.getD i []=gZ:=by rw[nY,h2];rfl
    have hE:(dm 0 out:St).E (.b (.e i) c) = .one y:=by
     rw[px];simp only[J5];rw[aP ⟨bD,by omega⟩];rw[nY,k1];rfl
    obtain⟨B,o,cur,e,fz,v,m1,m2,m3,m4,m5,m6⟩:=Rc.cell (.e i) c y hE jK;rw[I7] at m5;have lA:aC nm w' (jm rs ok w.heap.size L Lc eT) S2.γ (.b r c) 0 x v:=by
     refine m5.OV vU k2 (λz hz B' q o' hq hj dH=>?_);have bh:ok i c=true:=by
      cases bh:ok i c with
      | true=>rfl
      | false=>
       subst hz;simp only[C.dR,au] at k2;exact absurd k2.symm (X.same i r cs hi h1 c x eJ bh z)
     obtain⟨k,j,p⟩:=q;simp only at hq hj;subst hq;subst hj;exact alx hi bh dH
    have hG':=hG r hr;cases r with
    | g n=>simp[aJ.iT] at hG'
    | e n=>exact⟨B,o,cur,e,fz,v,JZ hi m1,m2,m3,m4,lA,acw k2 m6⟩
    | l n=>exact⟨B,o,cur,e,fz,v,JZ hi m1,m2,m3,m4,lA,acw k2 m6⟩
   ·have:=X.out i r cs hi h1 c (by omega);rw[hx] at this;simp only[V.one.injEq] at this;exact absurd this gp
  ·rw[X.other (.b r c) (by intro r' c' h;cases h;exact hr) (by intro _ h;cases h)] at hx;refine(R.cell r c x hx gp).step bF ?_ ?_
   ·intro B q o hq hB;obtain⟨h1,h2⟩:=Kp (by rw[hq];rfl) hB (λi r' c' hi h=>by rw[hq] at h;cases h;exact absurd (ff hi) hr);exact⟨h1,ej hB h2⟩
   ·intro B o hB;obtain⟨h1,h2⟩:=Ko hB hr;exact⟨h1,λcur e fz hc=>⟨cur,(ej hB h2).trans hc,rfl,rfl⟩⟩
 ·intro r c;by_cases hr:r∈rs
  ·obtain⟨i,hi⟩:=vq hr;obtain⟨cs,gZ,h1,h2,h3,h4⟩:=pG hi;by_cases hc:c < cs.length
   ·exact⟨cs[c],X.Pw i r cs hi h1 c _ (kI hc)⟩
   ·exact⟨.dead,X.out i r cs hi h1 c (by omega)⟩
  ·rw[X.other (.b r c) (by intro r' c' h;cases h;exact hr) (by intro _ h;cases h)];exact R.kx r c
 ·intro r c hc;by_cases hr:r∈rs
  ·obtain⟨i,hi⟩:=vq hr;obtain⟨cs,gZ,h1,h2,h3,h4⟩:=pG hi;rw[X.size i r cs hi h1] at hc;exact X.out i r cs hi h1 c hc
  ·rw[X.other (.r r) (by intro _ _ h;cases h) (by intro r' h;cases h;exact hr)] at hc;rw[X.other (.b r c) (by intro r' c' h;cases h;exact hr) (by intro _ h;cases h)];exact R.bound r c hc
 ·intro r hg C6;by_cases hr:r∈rs
  ·obtain⟨i,hi⟩:=vq hr;obtain⟨cs,gZ,h1,h2,h3,h4⟩:=pG hi;rw[X.size i r cs hi h1] at C6 ⊢;have bD:i < out.length:=(cd.1 h2).1;have J5:out.getD i []=gZ:=by rw[nY,h2];rfl
   have hE:cr ((dm 0 out:St).E (.r (.e i)))=cs.length:=by
    rw[px];simp only[J5];rw[aP bD,qU,h4]
   obtain⟨B,o,cur,e,fz,m1,m2,m3,m4⟩:=Rc.room (.e i) rfl (by show 0 < cr ((dm 0 out:St).E (.r (.e i)));rw[hE];exact C6);have m4':o+cs.length<=cur.size:=by rw[<-hE];exact m4
   exact⟨B,o,cur,e,fz,JZ hi m1,m2,m3,m4'⟩
  ·rw[X.other (.r r) (by intro _ _ h;cases h) (by intro r' h;cases h;exact hr)] at C6 ⊢;obtain⟨B,o,cur,e,fz,m1,m2,m3,m4⟩:=R.room r hg C6;obtain⟨h1,h2⟩:=Ko m1 hr;exact⟨B,o,cur,e,fz,h1,(ej m1 h2).trans m2,m3,m4⟩
 ·intro B l hB;rcases yn hB with⟨h1,h2,h3,_⟩ | ⟨_,h⟩ | ⟨_,_,_,_,_,h⟩ | ⟨_,_,_,_,_,_,_,_,_,h⟩ | ⟨_,_,_,_,h⟩
  ·exact xY (R.fx B l h2) (ej h2 h1)
  all_goals exact Rc.fx B _ h
 ·intro B B' pl o o' h1 h2;rcases yn h1 with⟨a1,a2,a3,a4,_⟩ | ⟨a1,_⟩ | ⟨_,_,_,a1,_⟩ | ⟨i,r,c,j,p,o1,a1,a2,a3,a4⟩ | ⟨j,p,o1,a1,a2⟩
  ·rcases yn h2 with⟨b1,b2,b3,b4,_⟩ | ⟨b1,_⟩ | ⟨_,_,_,b1,_⟩ | ⟨i,r,c,j,p,o1,b1,b2,b3,b4⟩ | ⟨j,p,o1,b1,b2⟩
   ·exact R.ey B B' pl o o' a2 b2
   ·cases b1
   ·cases b1
   ·simp only[db.row.injEq] at b1;obtain⟨rfl,rfl⟩:=b1;have:=a4 i r c j p o rfl b2;rw[b3] at this;cases this
   ·simp only[db.row.injEq] at b1;obtain⟨rfl,rfl⟩:=b1;have:=hH B _ o a2;simp[Key.aT] at this
  ·cases a1
  ·cases a1
  ·simp only[db.row.injEq] at a1;obtain⟨rfl,rfl⟩:=a1;rcases yn h2 with⟨b1,b2,b3,b4,_⟩ | ⟨b1,_⟩ | ⟨_,_,_,b1,_⟩ | ⟨i',r',c',j',p',kf,b1,b2,b3,b4⟩ | ⟨j',p',kf,b1,b2⟩
   ·have:=b4 i r c j p o' rfl a2;rw[a3] at this;cases this
   ·cases b1
   ·cases b1
   ·simp only[db.row.injEq,Place.mk.injEq,Key.b.injEq] at b1;obtain⟨⟨⟨rfl,rfl⟩,rfl,rfl⟩,rfl⟩:=b1;obtain rfl:=C9 a2 b2;exact Rc.ey B B' _ _ _ a4 b4
   ·simp only[db.row.injEq,Place.mk.injEq] at b1;exact absurd b1.1.1 (by intro h;cases h)
  ·simp only[db.row.injEq] at a1;obtain⟨rfl,rfl⟩:=a1;rcases yn h2 with⟨b1,b2,b3,b4,_⟩ | ⟨b1,_⟩ | ⟨_,_,_,b1,_⟩ | ⟨i',r',c',j',p',kf,b1,b2,b3,b4⟩ | ⟨j',p',kf,b1,b2⟩
   ·have:=hH B' _ o' b2;simp[Key.aT] at this
   ·cases b1
   ·cases b1
   ·simp only[db.row.injEq,Place.mk.injEq] at b1;exact absurd b1.1.1 (by intro h;cases h)
   ·simp only[db.row.injEq] at b1;obtain⟨b1,rfl⟩:=b1;rw[<-b1] at b2;exact Rc.ey B B' _ _ _ a2 b2
 ·intro B B' r o o' h1 h2;rcases yn h1 with⟨a1,a2,a3,_,a5⟩ | ⟨a1,_⟩ | ⟨i,r1,o1,a1,a2,a3⟩ | ⟨_,_,_,_,_,_,a1,_⟩ | ⟨_,_,_,a1,_⟩
  ·rcases yn h2 with⟨b1,b2,b3,_,b5⟩ | ⟨b1,_⟩ | ⟨i',HP,kf,b1,b2,b3⟩ | ⟨_,_,_,_,_,_,b1,_⟩ | ⟨_,_,_,b1,_⟩
   ·exact R.fy B B' r o o' a2 b2
   ·cases b1
   ·simp only[db.box.injEq] at b1;obtain⟨rfl,rfl⟩:=b1;exact absurd (ff b2) (a5 r o rfl)
   ·cases b1
   ·cases b1
  ·cases a1
  ·simp only[db.box.injEq] at a1;obtain⟨rfl,rfl⟩:=a1;rcases yn h2 with⟨b1,b2,b3,_,b5⟩ | ⟨b1,_⟩ | ⟨i',HP,kf,b1,b2,b3⟩ | ⟨_,_,_,_,_,_,b1,_⟩ | ⟨_,_,_,b1,_⟩
   ·exact absurd (ff a2) (b5 r o' rfl)
   ·cases b1
   ·simp only[db.box.injEq] at b1;obtain⟨rfl,rfl⟩:=b1;obtain rfl:=C9 a2 b2;exact Rc.fy B B' _ _ _ a3 b3
   ·cases b1
   ·cases b1
  ·cases a1
  ·cases a1
 ·refine⟨hm.os,hm.tape,hm.output,hm.size,fU,?_,?_⟩
  ·intro B hB hL;have hl:Lc B=none:=by rw[CK];simp[fM,hL]
   refine⟨?_,(wc hl hB).2⟩;unfold jm;rw[aP ⟨by rw[hl];rfl,hB⟩];simp[hL]
  ·intro B i o hB;by_cases hr:(.e i)∈rs
   ·by_cases Gu:(.e i)∈qL
    ·exact ZK hB Gu
    ·exact absurd rfl ((C3 _ hr Gu).2 i)
   ·exact(Ko hB hr).1
end
end
section
def Uw {y x:C} (h:y.same x=true):x=y/\∃r g c,x = .ptr r g c:=by
 cases y<;>cases x<;>simp only[C.same,cI,gX,kv,xn] at h;obtain⟨⟨rfl,rfl⟩,rfl⟩:=h;exact⟨rfl,_,_,_,rfl⟩
def ab1 (S:St) (r:aJ):∀(cs ol:List C) (c0:Nat) (ws:List Wr) (k:Key),cs.length=ol.length->
  ((∀c,c < cs.length->k≠.b r (c0+c))->(S.ai (mB r c0 cs ol ws)).E k=(S.ai ws).E k/\(S.ai (mB r c0 cs ol ws)).γ k=(S.ai ws).γ k)/\
  (∀c x y,k = .b r (c0+c)->cs[c]? = some x->ol[c]? = some y->y.same x=true->(S.ai (mB r c0 cs ol ws)).E k=(S.ai ws).E k/\(S.ai (mB r c0 cs ol ws)).γ k=(S.ai ws).γ k)/\
  (∀c x y,k = .b r (c0+c)->cs[c]? = some x->ol[c]? = some y->y.same x=false->(S.ai (mB r c0 cs ol ws)).E k = .one x/\(S.ai ws).γ k < (S.ai (mB r c0 cs ol ws)).γ k)/\
  (S.ai ws).γ k<=(S.ai (mB r c0 cs ol ws)).γ k
 | [],ol,c0,ws,k,hl=>by
  have:mB r c0 [] ol ws=ws:=by cases ol<;>rfl
  rw[this];exact⟨λ_=>⟨rfl,rfl⟩,λc x y _ h=>by simp at h,λc x y _ h=>by simp at h,cp _⟩
 | x0::cs,[],c0,ws,k,hl=>by simp at hl
 | x0::cs,y0::ol,c0,ws,k,hl=>by
  have lQ:cs.length=ol.length:=by simpa using hl
  obtain⟨h1,h2,h3,h4⟩:=ab1 S r cs ol (c0+1) (if y0.same x0 then ws else { k:=.b r c0,v:=.one x0 } :: ws) k lQ;simp only[mB];have hle:(S.ai ws).γ k<=(S.ai (if y0.same x0 then ws else { k:=.b r c0,v:=.one x0 } :: ws)).γ k:=by
   split
   ·exact cp _
   ·exact St.qa _ _ k
  have hsk:k≠.b r c0->(S.ai (if y0.same x0 then ws else { k:=.b r c0,v:=.one x0 } :: ws)).E k=(S.ai ws).E k/\(S.ai (if y0.same x0 then ws else { k:=.b r c0,v:=.one x0 } :: ws)).γ k=(S.ai ws).γ k:=by
   intro aD;split
   ·exact⟨rfl,rfl⟩
   ·simp only[St.ai,St.il,St.jX,Ne.symm aD,eX];trivial
  have aal:k = .b r c0->∀c,c < cs.length->k≠.b r (c0+1+c):=by
   intro hk c _ e;rw[hk] at e;simp only[Key.b.injEq,nD] at e;omega
  have RU:∀c,c0+(c+1)=c0+1+c:=λc=>by omega
  refine⟨?_,?_,?_,iD hle h4⟩
  ·intro aD;obtain⟨g1,g2⟩:=h1 (λc hc e=>aD (c+1) (by simpa using hc) (by rw[e,RU c]));obtain⟨g3,g4⟩:=hsk (λe=>aD 0 (by simp) (by rw[e];rfl));exact⟨g1.trans g3,g2.trans g4⟩
  ·intro c x y hk hx hy hs;cases c with
   | zero=>
    simp at hx hy;subst hx;subst hy;obtain⟨g1,g2⟩:=h1 (aal hk);rw[hs] at g1 g2;simp only[dj] at g1 g2;rw[hs];exact⟨g1,g2⟩
   | succ c=>
    obtain⟨g1,g2⟩:=h2 c x y (by rw[hk,RU c]) (by simpa using hx) (by simpa using hy) hs;obtain⟨g3,g4⟩:=hsk (by rw[hk];intro e;simp only[Key.b.injEq,nD] at e;omega);exact⟨g1.trans g3,g2.trans g4⟩
  ·intro c x y hk hx hy hs;cases c with
   | zero=>
    simp at hx hy;subst hx;subst hy;obtain⟨g1,g2⟩:=h1 (aal hk);rw[hs] at g1 g2 ⊢;simp only[mN] at hk;subst hk;simp only[xn,eX,St.ai,St.il,St.jX,dj] at g1 g2 ⊢;exact⟨g1,by omega⟩
   | succ c=>
    obtain⟨g1,g2⟩:=h3 c x y (by rw[hk,RU c]) (by simpa using hx) (by simpa using hy) hs;exact⟨g1,by omega⟩
def Xh (S:St):∀(rs:List aJ) (bs os:List (List C)) (ws:List Wr) (k:Key),rs.Nodup->bs.length=rs.length->os.length=rs.length->
  (∀(i:Nat) cs ol,bs[i]? = some cs->os[i]? = some ol->cs.length=ol.length)->
  ((∀(i:Nat) r cs c,rs[i]? = some r->bs[i]? = some cs->c < cs.length->k≠.b r c)->(S.ai (jF rs bs os ws)).E k=(S.ai ws).E k/\(S.ai (jF rs bs os ws)).γ k=(S.ai ws).γ k)/\
  (∀(i:Nat) r cs ol c x y,rs[i]? = some r->bs[i]? = some cs->os[i]? = some ol->k = .b r c->cs[c]? = some x->ol[c]? = some y->y.same x=true->(S.ai (jF rs bs os ws)).E k=(S.ai ws).E k/\(S.ai (jF rs bs os ws)).γ k=(S.ai ws).γ k)/\
  (∀(i:Nat) r cs ol c x y,rs[i]? = some r->bs[i]? = some cs->os[i]? = some ol->k = .b r c->cs[c]? = some x->ol[c]? = some y->y.same x=false->(S.ai (jF rs bs os ws)).E k = .one x/\(S.ai ws).γ k < (S.ai (jF rs bs os ws)).γ k)/\
  (S.ai ws).γ k<=(S.ai (jF rs bs os ws)).γ k
 | [],bs,os,ws,k,_,_,_,_=>by
  have:jF [] bs os ws=ws:=by cases bs<;>cases os<;>rfl
  rw[this];exact⟨λ_=>⟨rfl,rfl⟩,λi r cs ol c x y h=>by simp at h,λi r cs ol c x y h=>by simp at h,cp _⟩
 | r0::rs,[],os,ws,k,_,h,_,_=>by simp at h
 | r0::rs,gZ::bs,[],ws,k,_,_,h,_=>by simp at h
 | r0::rs,gZ::bs,wS::os,ws,k,jq,hb,ho,hl=>by
  obtain⟨hnr,Rz⟩:=Ok.1 jq;obtain⟨h1,h2,h3,h4⟩:=Xh S rs bs os (mB r0 0 gZ wS ws) k Rz (by simpa using hb) (by simpa using ho) (λi cs ol h1 h2=>hl (i+1) cs ol (by simpa using h1) (by simpa using h2));obtain⟨g1,g2,g3,g4⟩:=ab1 S r0 gZ wS 0 ws k (hl 0 gZ wS rfl rfl);simp only[cQ] at g1 g2 g3;simp only[jF];have ZV:∀c,k = .b r0 c->(S.ai (jF rs bs os (mB r0 0 gZ wS ws))).E k=(S.ai (mB r0 0 gZ wS ws)).E k/\(S.ai (jF rs bs os (mB r0 0 gZ wS ws))).γ k=(S.ai (mB r0 0 gZ wS ws)).γ k:=by
   intro c hk;refine h1 (λi r cs c' hr _ _ e=>?_);rw[hk] at e;simp only[Key.b.injEq] at e;exact hnr (e.1▸ff hr)
  have ald:∀(i:Nat) r c,rs[i]? = some r->k = .b r c->(S.ai (mB r0 0 gZ wS ws)).E k=(S.ai ws).E k/\(S.ai (mB r0 0 gZ wS ws)).γ k=(S.ai ws).γ k:=by
   intro i r c hr hk;refine g1 (λc' _ e=>?_);rw[hk] at e;simp only[Key.b.injEq] at e;exact hnr (e.1▸ff hr)
  refine⟨?_,?_,?_,iD g4 h4⟩
  ·intro aD;obtain⟨a1,a2⟩:=h1 (λi r cs c hr hc af=>aD (i+1) r cs c (by simpa using hr) (by simpa using hc) af);obtain⟨a3,a4⟩:=g1 (λc hc=>aD 0 r0 gZ c rfl rfl hc);exact⟨a1.trans a3,a2.trans a4⟩
  ·intro i r cs ol c x y hr hc qw hk hx hy hs;cases i with
   | zero=>
    simp at hr hc qw;subst hr;subst hc;subst qw;obtain⟨a1,a2⟩:=ZV c hk;obtain⟨a3,a4⟩:=g2 c x y hk hx hy hs;exact⟨a1.trans a3,a2.trans a4⟩
   | succ i=>
    simp only[BA] at hr hc qw;obtain⟨a1,a2⟩:=h2 i r cs ol c x y hr hc qw hk hx hy hs;obtain⟨a3,a4⟩:=ald i r c hr hk;exact⟨a1.trans a3,a2.trans a4⟩
  ·intro i r cs ol c x y hr hc qw hk hx hy hs;cases i with
   | zero=>
    simp at hr hc qw;subst hr;subst hc;subst qw;obtain⟨a1,a2⟩:=ZV c hk;obtain⟨a3,a4⟩:=g3 c x y hk hx hy hs;exact⟨a1.trans a3,by omega⟩
   | succ i=>
    simp only[BA] at hr hc qw;obtain⟨a1,a2⟩:=h3 i r cs ol c x y hr hc qw hk hx hy hs;exact⟨a1,by omega⟩
def abv:∀{l m:List (List C)},tj l m=true->l.length=m.length/\∀(i:Nat) x y,l[i]? = some x->m[i]? = some y->x.length=y.length
 | [],[],_=>⟨rfl,λi x y h=>by simp at h⟩
 | [],_::_,h=>by simp[tj] at h
 | _::_,[],h=>by simp[tj] at h
 | a::l,b::m,h=>by
  simp only[tj,cI,kv] at h;obtain⟨h1,h2⟩:=abv h.2;refine⟨by simp[h1],λi x y hx hy=>?_⟩;cases i with
  | zero=>simp at hx hy;subst hx;subst hy;exact h.1
  | succ i=>exact h2 i x y (by simpa using hx) (by simpa using hy)
def Zr {S:St}:∀{rs:List aJ} {gs:List (aJ×Nat)},(Cz rs).run S=some gs->gs=rs.map λr=>(r,S.γ (.r r))
 | [],gs,h=>by simp only[Cz] at h;rw[Q.aW h];rfl
 | r::rs,gs,h=>by
  simp only[Cz] at h;have h1:=Q.np h;clear h;obtain⟨l,h2,h3⟩:=Q.aL h1;have h4:=Q.aW h3;rw[h4,Zr h2];rfl
def okF (bs cy:List (List C)) (i c:Nat):Bool:=
 match (bs[i]?).bind (·[c]?),(cy[i]?).bind (·[c]?) with
 | some y,some x=>!(y.same x)
 | _,_=>false
def Y0 {S0:St} {ws:List Wr} {rs:List aJ} {bs cy:List (List C)} (jq:rs.Nodup) (hl:bs.length=rs.length) (ew:cy.length=rs.length) (he:tj cy bs=true)
  (mn:∀r∈rs,BJ S0 ws r)
  (hb:∀(k:Nat) r cs,rs[k]? = some r->bs[k]? = some cs->cs.length=cr (S0.E (.r r))/\(∀(j:Nat) x,cs[j]? = some x->(S0.ai ws).E (.b r j) = .one x))
  (hbound:∀r c,cr ((S0.ai ws).E (.r r))<=c->(S0.ai ws).E (.b r c) = .one .dead) :
  Ov (S0.ai ws) (S0.ai (jF rs cy bs ws)) rs cy (okF bs cy):=by
 obtain⟨_,hlen⟩:=abv he;have W:=λk=>Xh S0 rs cy bs ws k jq ew hl (λi cs ol h1 h2=>hlen i cs ol h1 h2)
 have qq:∀{i i':Nat} {r},rs[i]? = some r->rs[i']? = some r->i=i':=λ{i i' r} h1 h2=>by
  have e1:=yV rs (i:=0) jq h1;have e2:=yV rs (i:=0) jq h2;rw[e1] at e2;simpa using e2
 have hold:∀{i:Nat} {r},rs[i]? = some r->∃ol,bs[i]? = some ol:=λ{i r} h=>⟨bs[i]'(by rw[hl];exact(cd.1 h).1),kI _⟩
 have aad:∀{i:Nat} {r},rs[i]? = some r->∃ol,cy[i]? = some ol:=λ{i r} h=>⟨cy[i]'(by rw[ew];exact(cd.1 h).1),kI _⟩
 have QK:∀{i:Nat} {r ol},rs[i]? = some r->bs[i]? = some ol->cr ((S0.ai ws).E (.r r))=ol.length:=by
  intro i r ol h1 h2;rw[CA,(mn r (ff h1)).1,(hb i r ol h1 h2).1];rfl
 refine⟨ew,?_,?_,?_,?_,λk=>(W k).2.2.2,?_,?_,?_⟩
 ·intro i r cs hr hc c x hx;obtain⟨ol,ho⟩:=hold hr;have nK:=hlen i cs ol hc ho;have aU:c < ol.length:=by rw[<-nK];exact(cd.1 hx).1
  have hy:ol[c]? = some ol[c]:=kI aU;cases hs:(ol[c]).same x with
  | true=>
   rw[((W (.b r c)).2.1 i r cs ol c x _ hr hc ho rfl hx hy hs).1,(hb i r ol hr ho).2 c _ hy];rw[(Uw hs).1]
  | false=>exact((W (.b r c)).2.2.1 i r cs ol c x _ hr hc ho rfl hx hy hs).1
 ·intro i r cs hr hc c hle;obtain⟨ol,ho⟩:=hold hr;have nK:=hlen i cs ol hc ho
  rw[((W (.b r c)).1 (λi' r' dQ c' eN ml af e => by
    cases e
    obtain rfl := qq hr eN
    rw[hc] at ml
    cases ml
    omega)).1]
  exact hbound r c (by rw[QK hr ho];omega)
 ·intro i r cs hr hc;obtain⟨ol,ho⟩:=hold hr;have nK:=hlen i cs ol hc ho;rw[((W (.r r)).1 (λ_ _ _ _ _ _ _ e=>by cases e)).1,QK hr ho,nK]
 ·intro k h1 h2;exact((W k).1 (λi r cs c hr _ _ e=>h1 r c e (ff hr))).1
 ·intro i r c hr bh;obtain⟨ol,ho⟩:=hold hr;obtain⟨cs,hc⟩:=aad hr;simp only[okF,ho,hc,Option.bind_some] at bh;cases hy:ol[c]? with
  | none=>simp[hy] at bh
  | some y=>
   cases hx:cs[c]? with
   | none=>simp[hy,hx] at bh
   | some x=>
    simp only[hy,hx,zp] at bh;exact((W (.b r c)).2.2.1 i r cs ol c x y hr hc ho rfl hx hy bh).2
 ·intro i r c hr bh x hE;obtain⟨ol,ho⟩:=hold hr;obtain⟨cs,hc⟩:=aad hr;simp only[okF,ho,hc,Option.bind_some] at bh;have nK:=hlen i cs ol hc ho;cases hy:ol[c]? with
  | none=>
   have:=hbound r c (by rw[QK hr ho];exact afW.1 hy);rw[this] at hE;cases hE
  | some y=>
   have aU:c < cs.length:=by rw[nK];exact(cd.1 hy).1
   have hx:cs[c]? = some cs[c]:=kI aU;simp only[hy,hx,Bool.not_eq_false'] at bh;obtain⟨h1,r',g',c',h2⟩:=Uw bh;rw[(hb i r ol hr ho).2 c y hy,<-h1,h2] at hE;cases hE
 ·intro i r cs hr hc c x hx bh y;obtain⟨ol,ho⟩:=hold hr;simp only[okF,ho,hc,Option.bind_some,hx] at bh;have nK:=hlen i cs ol hc ho;have aU:c < ol.length:=by rw[<-nK];exact(cd.1 hx).1
  have hy:ol[c]? = some ol[c]:=kI aU;simp only[hy,Bool.not_eq_false'] at bh;obtain⟨h1,r',g',c',h2⟩:=Uw bh;rw[h2];intro h;cases h
end
section
def akc {S0:St} {ws:List Wr} {rs:List aJ} {bs cy:List (List C)} {dst:Nat} (jq:rs.Nodup) (hl:bs.length=rs.length) (ew:cy.length=rs.length+1) (he:tj (cy.take rs.length) bs=true)
  (mn:∀r∈rs,BJ S0 ws r) (aD:(aJ.l dst)∉rs)
  (hb:∀(k:Nat) r cs,rs[k]? = some r->bs[k]? = some cs->cs.length=cr (S0.E (.r r))/\(∀(j:Nat) x,cs[j]? = some x->(S0.ai ws).E (.b r j) = .one x))
  (hbound:∀r c,cr ((S0.ai ws).E (.r r))<=c->(S0.ai ws).E (.b r c) = .one .dead)
  (hn:cr ((S0.ai ws).E (.r (.l dst)))=0\/cr ((S0.ai ws).E (.r (.l dst)))=(cy.getD rs.length []).length) {k0:Wr} (nJ:k0 = { k:=.r (.l dst),v:=fR (cy.getD rs.length []).length }) :
  Ov (S0.ai ws) (S0.ai (gC (.l dst) 0 (cy.getD rs.length []) (k0::jF rs cy bs ws))) (rs++[.l dst]) cy
   (λi c=>if i < rs.length then okF bs (cy.take rs.length) i c else decide (c < (cy.getD rs.length []).length))/\
  (S0.ai ws).γ (.r (.l dst)) < (S0.ai (gC (.l dst) 0 (cy.getD rs.length []) (k0::jF rs cy bs ws))).γ (.r (.l dst)):=by
 have s8:(cy.take rs.length).length=rs.length:=by simp[ew]
 have X:=Y0 (cy:=cy.take rs.length) jq hl s8 he mn hb hbound;have hbw:jF rs cy bs ws=jF rs (cy.take rs.length) bs ws:=by
  clear X s8 he hb mn jq aD hn nJ hbound;induction rs generalizing bs cy ws with
  | nil=>cases cy<;>cases bs<;>simp[jF]
  | cons r rs ih=>
   cases cy with
   | nil=>simp at ew
   | cons b cy=>
    cases bs with
    | nil=>simp at hl
    | cons o bs=>
     simp only[jF,jl,List.take_succ_cons];exact ih (by simpa using hl) (by simpa using ew)
 rw[hbw];generalize hW:jF rs (cy.take rs.length) bs ws=W at X ⊢;generalize s6:cy.getD rs.length []=nb at hn nJ ⊢;have Kh:cy[rs.length]? = some nb:=by rw[<-s6];exact getD_some (by omega)
 have K:=λk=>Ca S0 (.l dst) nb 0 (k0::W) k
 simp only[cQ] at K;have KB:∀k,k≠.r (.l dst)->(S0.ai (k0::W)).E k=(S0.ai W).E k/\(S0.ai (k0::W)).γ k=(S0.ai W).γ k:=by
  intro k hk;subst nJ;simp only[St.ai,St.il,St.jX,Ne.symm hk,eX];trivial
 have k0S:(S0.ai (k0::W)).E (.r (.l dst))=fR nb.length/\(S0.ai W).γ (.r (.l dst)) < (S0.ai (k0::W)).γ (.r (.l dst)):=by
  subst nJ;simp[St.ai,St.il,St.jX]
 have Kx:∀k,(∀c,k≠.b (.l dst) c)->k≠.r (.l dst)->(S0.ai (gC (.l dst) 0 nb (k0::W))).E k=(S0.ai W).E k/\(S0.ai (gC (.l dst) 0 nb (k0::W))).γ k=(S0.ai W).γ k:=by
  intro k h1 h2;obtain⟨a1,a2⟩:=(K k).2.1 (λc _=>h1 c);obtain⟨b1,b2⟩:=KB k h2;exact⟨a1.trans b1,a2.trans b2⟩
 have split:∀{i:Nat} {r},(rs++[aJ.l dst])[i]? = some r->(i < rs.length/\rs[i]? = some r/\r≠.l dst)\/(i=rs.length/\r = .l dst):=by
  intro i r h;by_cases hi:i < rs.length
  ·rw[nZ hi] at h;exact .inl ⟨hi,h,λe=>aD (e▸ff h)⟩
  ·rw[qP (by omega)] at h;cases hd:i - rs.length with
   | zero=>simp[hd] at h;exact .inr ⟨by omega,h.symm⟩
   | succ n=>simp[hd] at h
 have tk:∀{i:Nat} {cs},i < rs.length->cy[i]? = some cs->(cy.take rs.length)[i]? = some cs:=by
  intro i cs hi h;rw[Ob,aP hi];exact h
 have ap7:∀c,(S0.ai W).E (.b (.l dst) c)=(S0.ai ws).E (.b (.l dst) c):=λc=>X.other _ (by intro r c' e;cases e;exact aD) (by intro _ e;cases e)
 refine⟨⟨by simp[ew],?_,?_,?_,?_,?_,?_,?_,?_⟩,?_⟩
 ·intro i r cs hr hc c x hx;rcases split hr with⟨h1,h2,h3⟩ | ⟨rfl,rfl⟩
  ·rw[(Kx (.b r c) (by intro c' e;cases e;exact h3 rfl) (by intro e;cases e)).1];exact X.Pw i r cs h2 (tk h1 hc) c x hx
  ·rw[Kh] at hc;cases hc;exact(K (.b (.l dst) c)).1 c x rfl hx
 ·intro i r cs hr hc c hle;rcases split hr with⟨h1,h2,h3⟩ | ⟨rfl,rfl⟩
  ·rw[(Kx (.b r c) (by intro c' e;cases e;exact h3 rfl) (by intro e;cases e)).1];exact X.out i r cs h2 (tk h1 hc) c hle
  ·rw[Kh] at hc;cases hc;rw[((K (.b (.l dst) c)).2.1 (λc' ml e=>by cases e;omega)).1,(KB _ (by intro e;cases e)).1,ap7];exact hbound _ _ (by omega)
 ·intro i r cs hr hc;rcases split hr with⟨h1,h2,h3⟩ | ⟨rfl,rfl⟩
  ·rw[(Kx (.r r) (by intro c' e;cases e) (by intro e;cases e;exact h3 rfl)).1];exact X.size i r cs h2 (tk h1 hc)
  ·rw[Kh] at hc;cases hc;rw[((K (.r (.l dst))).2.1 (λc' ml e=>by cases e)).1,k0S.1,qU]
 ·intro k h1 h2;have m:aJ.l dst∈rs++[aJ.l dst]:=by simp
  rw[(Kx k (λc e=>h1 _ c e m) (λe=>h2 _ e m)).1];exact X.other k (λr c e hr=>h1 r c e (by simp[hr])) (λr e hr=>h2 r e (by simp[hr]))
 ·intro k;refine iD (X.dP k) (iD ?_ (K k).2.2.2);by_cases hk:k = .r (.l dst)
  ·subst hk;omega
  ·rw[(KB k hk).2];exact cp _
 ·intro i r c hr bh;rcases split hr with⟨h1,h2,h3⟩ | ⟨rfl,rfl⟩
  ·rw[aP h1] at bh;rw[(Kx (.b r c) (by intro c' e;cases e;exact h3 rfl) (by intro e;cases e)).2];exact X.wr i r c h2 bh
  ·rw[aI (by omega)] at bh;have:=(K (.b (.l dst) c)).2.2.1 c (by simpa using bh) rfl;rw[(KB _ (by intro e;cases e)).2] at this;have:=X.dP (.b (.l dst) c);omega
 ·intro i r c hr bh x hE;rcases split hr with⟨h1,h2,h3⟩ | ⟨rfl,rfl⟩
  ·rw[aP h1] at bh;exact X.ad1 i r c h2 bh x hE
  ·rw[aI (by omega)] at bh;have hc:nb.length<=c:=by simpa using bh
   rw[hbound (.l dst) c (by omega)] at hE;cases hE
 ·intro i r cs hr hc c x hx bh y;rcases split hr with⟨h1,h2,h3⟩ | ⟨rfl,rfl⟩
  ·rw[aP h1] at bh;exact X.same i r cs h2 (tk h1 hc) c x hx bh y
  ·rw[aI (by omega)] at bh;rw[Kh] at hc;cases hc;have:c < nb.length:=(cd.1 hx).1;simp at bh;omega
 ·rw[((K (.r (.l dst))).2.1 (λc' ml e=>by cases e)).2];have:=X.dP (.r (.l dst));omega
def jY (P:Program) (cj:FuncId) (args:Array Value) (w:World) (R:Value->World->Prop):Prop:=
 match (callFunc cj args).run P w with
 | .ok (.value v) w'=>R v w'
 | .ok .skip w'=>R undef w'
 | .ok (.enter f xs) w'=>Calls P f xs w' λe tY=>∃v,e = .returned v/\R v tY
 | .ok (.row row xs) w'=>Rows P row xs w' R
 | _=>False
def jY.mono {P:Program} {cj:FuncId} {args:Array Value} {w:World} {R R':Value->World->Prop} (h:jY P cj args w R) (hr:∀v w',R v w'->R' v w'):jY P cj args w R':=by
 unfold jY at h ⊢;split at h
 ·exact hr _ _ h
 ·exact hr _ _ h
 ·exact Calls.mono h (λe tY=>by rintro⟨v,rfl,hR⟩;exact⟨v,rfl,hr _ _ hR⟩)
 ·exact Rows.mono h hr
 ·exact h.elim
def E1 (P:Program) (nm:FuncId->Option Nat) (G:Nat->Option Obj) (Cl:bX):Prop:=
 ∀{f:Nat} {vs:List V} {bx:List (List C)} {r:V} {out:List (List C)} {cj:FuncId},Cl f vs bx=some (r,out)->nm cj=some f->
  ∀{args:Array Value} {w:World} {L:aw},Rel nm vs.length (gk 0 vs++dm 0 bx) ⟨args,[]⟩ w L->eA L->GI G w L->(∀B i o,L B=some (.box (.e i) o)->i < bx.length)->
   jY P cj args w λv w'=>∃L',dc w w' L L'/\Rel nm 0 (dm 0 out) ⟨#[],[]⟩ w' L'/\bJ nm w' L' (λ_=>0) (.h 0) r v
section
variable {nm:FuncId->Option Nat} {N:Nat} {S:St} {a:Act} {w w':World} {L L':aw} {γ γ':Key->Nat}
def Rel.grown (h:Rel nm N S a w L) (hh:∀B l,L B=some l->w'.heap[B]? = w.heap[B]?):Rel nm N S a w' L:=by
 have bF:Step w w' L L S.γ S.γ:=⟨λB hB=>⟨hB,hh B _ hB⟩,λ_=>cp _,λB q o _ _ hB=>⟨hB,λcur e fz hc=>⟨cur,(hh B _ hB).trans hc,rfl⟩⟩,λB q o _ _ _ hB=>hh B _ hB,λ_ _ _ _ hB=>hB⟩
 refine⟨h.size,h.defers,?_,?_,h.kx,h.bound,?_,?_,h.ey,h.fy⟩
 ·intro i;exact(h.slot i).step bF (λB q o hq hB=>by rw[<-hq,Place.mf];exact⟨hB,hh B _ hB⟩)
 ·intro r c x hx gp;exact(h.cell r c x hx gp).step bF (λB q o _ hB=>⟨hB,hh B _ hB⟩) (λB o hB=>⟨hB,λcur e fz hc=>⟨cur,(hh B _ hB).trans hc,rfl,rfl⟩⟩)
 ·intro r hg hr;obtain⟨B,o,cur,e,fz,h1,h2,h3,h4⟩:=h.room r hg hr;exact⟨B,o,cur,e,fz,h1,(hh B _ h1).trans h2,h3,h4⟩
 ·intro B l hB;exact xY (h.fx B l hB) (hh B _ hB)
def aC.flat {k k':Key} {j j':Nat} {c:C} {v:Value} (h:aC nm w L γ k j c v) (hf:c.flat=true):aC nm w' L' γ' k' j' c v:=by
 cases c with
 | d x=>
  cases h with
  | d h=>
   cases h with
   | plain h=>
    refine .d (.plain ?_);cases h<;>first | exact .int | exact .bool | exact .str | (simp[C.flat,D.flat] at hf)
   | jg=>simp[C.flat,D.flat] at hf
   | own=>simp[C.flat,D.flat] at hf
 | _=>simp[C.flat] at hf
def Zi:∀{l:List V} {i:Nat} {c:V},V.flat.go l=true->l[i]? = some c->c.flat=true
 | [],_,_,_,h=>by simp at h
 | x::t,0,c,h,hc=>by simp only[V.flat.go,cI] at h;simp at hc;subst hc;exact h.1
 | x::t,i+1,c,h,hc=>by simp only[V.flat.go,cI] at h;exact Zi h.2 (by simpa using hc)
def bJ.flat {k k':Key} {x:V} {v:Value} (h:bJ nm w L γ k x v):x.flat=true->bJ nm w' L' γ' k' x v:=by
 induction h with
 | one h=>exactλhf=>.one (h.flat hf)
 | agg hl h=>exactλhf=>.agg hl (λj c u hj hu=>(h j c u hj hu).flat (by simp only[V.flat,gY] at hf;exact hf c (ff hj)))
 | ao hl aU h ih=>exactλhf=>.ao hl aU (λi x u hj hu=>ih i x u hj hu (Zi hf hj))
end
end
section
section
variable {nm:FuncId->Option Nat} {G:Nat->Option Obj} {P:Program} {Cl:bX}
def BF (nm:FuncId->Option Nat) (w:World) (L:aw) (γ:Key->Nat) (l:List V) (us:Array Value):Prop:=
 us.size=l.length/\∀(j:Nat) x u,l[j]? = some x->us[j]? = some u->uf nm w L γ j x u
def BF.app {w:World} {L:aw} {γ:Key->Nat} {l m:List V} {us vs:Array Value} (h1:BF nm w L γ l us) (h2:vs.size=m.length/\∀(j:Nat) x u,m[j]? = some x->vs[j]? = some u->uf nm w L γ (l.length+j) x u):BF nm w L γ (l++m) (us++vs):=by
 refine⟨by simp[h1.1,h2.1],λj x u hx hu=>?_⟩;by_cases hj:j < l.length
 ·rw[nZ hj] at hx;rw[Bz (by rw[h1.1];exact hj)] at hu;exact h1.2 j x u hx hu
 ·rw[qP (by omega)] at hx;rw[VC (by rw[h1.1];omega),h1.1] at hu;have:=h2.2 _ x u hx hu;rwa[show l.length+(j - l.length)=j by omega] at this
def aqc {a:Act} {w:World} {o:Oper} {cj:FuncId} {args:Array Value} {R:Value->World->Prop} (he:(execOp a.eval o).run P w=(callFunc cj args).run P w) (h:jY P cj args w R):dx P a w o R:=by
 unfold jY at h;unfold dx;rw[he];split at h
 ·rename_i hx;rw[hx];exact h
 ·rename_i hx;rw[hx];exact h
 ·rename_i hx;rw[hx];exact h
 ·rename_i hx;rw[hx];exact h
 ·exact h.elim
def agM (hO:E1 P nm G Cl):xr P nm G Cl:=by
 intro N S a w L o d r c f F xs R hH hGi hd ho akV hF atA hlen ru hr;simp only[ch] at hr;obtain⟨vf,h1,h2⟩:=Q.aL hr;have hv:=rd_val R hF h1;split at h2;rotate_left
 ·cases h2
 rename_i n first cap
 clear hr;obtain⟨j8,h2⟩:=Q.ec h2;have j8:=Kz j8;obtain⟨⟨vs,ws⟩,h3,h4⟩:=Q.aL h2;clear h2;have yc:=hv.cB;generalize hfv:a.eval f=fv at yc;cases yc with
 | fns val hf=>exfalso;rcases hf with⟨h,_⟩ | ⟨h,_⟩<;>omega
 | @fn _ _ _ cj fs cs _ hf g1 g2 aU g3 g4=>
 obtain⟨L1,M,ZC,QI,bF,jI,alv⟩:=adp R xs c.args.toList (cf.init R) hH hlen ru h3;dsimp only at h4;have mv:∀{x:C} {u:Value},x.clean=true->aC nm w L S.γ (.h 0) 0 x u->aC nm w L1 (S.ai ws).γ (.h 0) 0 x u:=by
  intro x u hx h;exact h.step (k':=.h 0) (j':=0) bF (λB q o hq _ hB=>by have:=hH B q o hB;rw[hq] at this;simp[Key.aT] at this)
 have rep:BF nm w L1 (S.ai ws).γ (first.map .one++vs++cap.map .one) (fs++c.args.map a.eval++cs):=by
  refine BF.app (BF.app ⟨by simp[g1],?_⟩ ⟨by simp[jI],?_⟩) ⟨by simp[g2],?_⟩
  ·intro j x u hx hu;rw[bQ] at hx;obtain⟨y,hy,rfl⟩:=bK hx;exact .inl ⟨jG aU.1 hy,.one (mv (jG aU.1 hy) (g3 j y u hy hu))⟩
  ·intro j x u hx hu;rw[IE] at hu;obtain⟨p,hp,rfl⟩:=bK hu;rw[cX];exact alv j x p hx (by simpa using hp)
  ·intro j x u hx hu;rw[bQ] at hx;obtain⟨y,hy,rfl⟩:=bK hx;exact .inl ⟨jG aU.2 hy,.one (mv (jG aU.2 hy) (g4 j y u hy hu))⟩
 generalize kV:first.map V.one++vs++cap.map V.one=aug at rep h4;generalize mw:fs++c.args.map a.eval++cs=asw at rep;have he:(execOp a.eval o).run P w=(callFunc cj asw).run P w:=by
  subst mw;simp[execOp,ho,resolve,akV,Deferred.ofValue,hfv,invoke]
 refine aqc he ?_;simp only[B7] at h4;obtain⟨_,k1,k2⟩:=Q.aL h4;clear h4;obtain⟨⟨rs,bs⟩,k3,k4⟩:=Q.aL k2;clear k2;dsimp only at k4;obtain⟨eR,k5,k6⟩:=Q.gy k4;clear k4;obtain⟨dL,k7,k8⟩:=Q.gy k6;clear k6;obtain⟨⟨rv,out⟩,k9,Dh⟩:=Q.gy k8;clear k8;dsimp only at Dh;obtain⟨e1,e2,e3,e4,e5,e6,e7⟩:=ajr M (Hn _ k1) k3 k5 k7 rep.1 rep.2;have hEx:∀B i o,fM rs (S.ai ws).E L1 B=some (.box (.e i) o)->i < dL.length:=by
  intro B i o hB;rcases nF hB with⟨h,_⟩ | ⟨r,o',i',h,_,hi⟩ | ⟨_,_,_,_,_,_,_,h,_⟩ | ⟨_,_,_,_,h,_⟩
  ·cases h
  ·simp only[db.box.injEq,aJ.e.injEq] at h;obtain⟨rfl,rfl⟩:=h;rw[e6];have:=(qG rs hi).2;exact(cd.1 this).1
  ·cases h
  ·cases h
 have hGe:GI G w (fM rs (S.ai ws).E L1):=by
  intro B c hB;obtain⟨q1,q2⟩:=hGi B c hB;refine⟨?_,q2⟩;exact uz (M.mono.bg B q1).1
 refine(hO k9 hf e1 e2 hGe hEx).mono ?_;rintro v w' ⟨eT,m1,m2,m3⟩;have hG:∀r∈rs,r.iT=false:=λr hr=>(e4 r hr).2
 rw[Q.run_ite] at Dh;split at Dh
 ·
  rename_i hc;simp only[cI,List.isEmpty_iff,zp] at hc;obtain⟨hmv,⟨kU,hfl⟩,aag⟩:=hc;have hN:=QI hmv;obtain rfl:=Q.aW Dh;subst kU;have uB:∀{B l},L B=some l->fM [] (S.ai ws).E L1 B=none\/fM [] (S.ai ws).E L1 B=some .bg:=by
   intro B l hB;cases hx:fM [] (S.ai ws).E L1 B with
   | none=>exact .inl rfl
   | some l2=>
    right;rcases nF hx with⟨rfl,_⟩ | ⟨_,_,_,_,_,h⟩ | ⟨_,_,_,_,_,_,_,_,_,h,_⟩ | ⟨_,_,_,_,_,h⟩
    ·rfl
    ·simp[jh] at h
    ·simp[jh] at h
    ·have:=hN _ _ _ h;simp[Key.aT] at this
  have af:∀{B l},L B=some l->B < w.heap.size:=by
   intro B l hB;exact R.fx B l hB
  have ej:∀B l,L B=some l->w'.heap[B]? = w.heap[B]?:=by
   intro B l hB;rcases uB hB with h | h
   ·exact(m1.none B (af hB) h).2
   ·exact(m1.bg B h).2
  have R':=R.grown ej;have hm:dc w w' L L:=by
   refine⟨m1.os,m1.tape,m1.output,m1.size,λB hB=>⟨hB,ej B _ hB⟩,λB hB hL=>⟨hL,?_⟩,λ_ _ _ h=>h⟩;have h1:=(M.mono.none B hB hL).1;exact(m1.none B hB (by simp[fM,h1])).2
  exact Rel.gj (ws:=[]) R' hm hd (m:=0) (m3.flat hfl)
 obtain⟨gs,k11,Di⟩:=Q.aL Dh;clear Dh;have qp:=Zr k11;have hle:=λk=>St.xq S ws k
 rw[Q.run_ite] at Di;split at Di
 ·
  rename_i aag;obtain⟨r',GM,Dj⟩:=Q.gy Di;clear Di;obtain⟨cy,KC,KD⟩:=Q.gy Dj;clear Dj;obtain⟨KE,KF⟩:=Q.ec KD;obtain rfl:=Q.aW KF;have ew:cy.length=rs.length:=by rw[TH KC,aag]
  have X:=Y0 e3 e5 ew KE e4 e7 M.rel.bound;obtain⟨x1,x2,x3,x4⟩:=Y1 (gs:=gs) M.rel ZC e3 ⟨[],by simp⟩ hG (λr h1 h2=>absurd h1 h2) rfl m1 m2 X
   (λi=>by rw[qp,bQ];cases rs[i]?<;>rfl)
   (λi r g h => by
     rw[qp, bQ] at h
     obtain⟨r0, h1, h2⟩ := bK h
     simp only[iB] at h2
     obtain⟨rfl, rfl⟩ := h2
     exact St.xq S _ _) KC
  exact Rel.gj x1 (M.mono.trans x2) hd (m:=0) (m3.back x3 GM x4)
 ·
  obtain⟨e,GM,Dj⟩:=Q.aL Di;clear Di;rw[vI] at GM;simp only[au] at GM;subst GM;dsimp only at Dj;obtain⟨r',KC,KD⟩:=Q.gy Dj;clear Dj;obtain⟨cy,KE,KF⟩:=Q.gy KD;clear KD;obtain⟨k19,k20⟩:=Q.ec KF;clear KF;obtain rfl:=Q.aW k20;simp only[cI,kv,IG,zp] at k19;obtain⟨⟨⟨q1,q2⟩,q3⟩,q4⟩:=k19;have aD:(aJ.l d)∉rs:=by simpa using q4
  have ew:cy.length=rs.length+1:=by rw[TH KE,q1]
  obtain⟨X,hγ⟩:=akc e3 e5 ew q2 e4 aD e7 M.rel.bound q3 rfl;have gR:gs.length=rs.length:=by rw[qp];simp
  obtain⟨x1, x2, x3, x4⟩ := Y1 (gs := gs ++ [(.l d, S.γ (.r (.l d)) + 1)]) M.rel ZC (by
      rw[Og]
      exact⟨e3, by simp, λx hx y hy h => by simp at hy; subst hy; subst h; exact aD hx⟩) ⟨[.l d], rfl⟩ (λr hr => by
        rcases dk.1 hr with h | h
        · exact hG r h
        · simp at h; subst h; rfl) (λr h1 h2 => by
        rcases dk.1 h1 with h | h
        · exact absurd h h2
        · simp at h; subst h; exact⟨hγ, λi e => by cases e⟩) rfl m1 m2 X
   (λi => by
     by_cases hi : i < rs.length
     · rw[nZ (by omega), nZ hi, qp, bQ]; cases rs[i]? <;> rfl
     · rw[qP (by omega), qP (by omega), gR]
       cases i - rs.length <;> rfl)
   (λi r g h => by
     by_cases hi : i < rs.length
     · rw[nZ (by omega), qp, bQ] at h
       obtain⟨r0, h1, h2⟩ := bK h
       simp only[iB] at h2
       obtain⟨rfl, rfl⟩ := h2
       exact St.xq S _ _
     · rw[qP (by omega)] at h
       cases hx : i - gs.length with
       | zero =>
         simp[hx] at h
         obtain⟨rfl, rfl⟩ := h
         exact VR (hle (.r (.l d))) hγ
       | succ n => simp[hx] at h) KE
  exact Rel.gj x1 (M.mono.trans x2) hd (m:=0) (m3.back x3 KC x4)
end
end
section
section
variable {nm:FuncId->Option Nat} {N:Nat} {S S0:St} {a:Act} {w:World} {L L0:aw} {P:Program} {ws:List Wr}
def rR (P:Program) (w:World) (tmps:Array Value) (rv:ResultVar) (v:Value):Prop:=
 (match rv with
   | .tmp t => (pure (tmps.getD t undef) : Sem Value)
   | .cell a t => do loadVar t (<- asAddr (tmps.getD a undef))).run P w = .ok v w
def apu (R:Rel nm N S a w L) {r0:aJ} {g c:Nat} {u:Value} {t:TypeId} {n:Nat} {agg:Bool} (ht:sB P t=some (n,agg)) (hv:aC nm w L S.γ (.h 0) 0 (.ptr r0 g c) u)
 (hG:r0.iT=false) (hg:(S.get (.r r0)).g=g) (uE:c+n<=cr (S.get (.r r0)).v) {cs:List C} (h3:(wX r0 c n).run S=some cs) {x':V} (h4:(lU agg cs).run S=some x') :
 ∃val,(∃ad,u = .pointer (some ad)/\(loadVar t ad).run P w = .ok val w)/\bJ nm w L S.γ (.h 0) x' val:=by
 obtain⟨hlen,FT⟩:=Nd n c h3;cases hv with
 | ptr iI gR hp=>
  obtain⟨B,o',hB,cH⟩:=hp hg.symm;by_cases oz:n=0
  ·
   subst oz;have eJ:=p7.1 hlen;subst eJ;obtain⟨hm,CZ⟩:=yF (nm:=nm) (w:=w) (L:=L) (γ:=S.γ) (k:=.h 0) (vs:=[]) h4 rfl (λj c v h=>by simp at h);exact⟨_,⟨_,cH,Uv ht rfl (λh=>by have:=CZ h;omega) (λj v h=>by simp at h)⟩,hm⟩
  obtain⟨B',fm,cur,e,fz,k1,k2,k3,k4⟩:=R.room r0 hG (by have:c+n<=cr (S.E (.r r0)):=uE;omega);obtain rfl:=R.fy B' B r0 fm o' k1 hB;obtain rfl:fm=o':=by rw[k1] at hB;simpa using hB
  have akX:c+n<=cr (S.E (.r r0)):=uE;let vs:=(List.range n).map λj=>cur.getD (fm+c+j) undef
  have kV:∀j v,vs[j]? = some v->j < n/\cur[fm+c+j]? = some v:=by
   intro j v jo;simp only[vs,bQ] at jo;have hj:j < n:=by
    rcases zh j n with h | h
    ·exact h
    ·simp[zo,h] at jo
   have af:fm+c+j < cur.size:=by omega
   simp[hj,Array.getD,af] at jo;exact⟨hj,by simp[af,jo]⟩
  have qx:vs.length=n:=by simp[vs]
  have hm := yF (nm := nm) (w := w) (L := L) (γ := S.γ) (k := .h 0) (vs := vs) h4 (by omega) (by
    intro j c1 v1 dM nN
    obtain⟨hj, Aj⟩ := kV j v1 nN
    obtain⟨y, AA, yp⟩ := FT j hj
    rw[dM] at yp
    simp at yp
    subst yp
    by_cases jK : y = .dead
    · subst jK; exact .dead
    · have ow := R.cell r0 (c + j) y AA jK
      have : ∃ B o cur e fz v, L B = some (.box r0 o) /\ w.heap[B]? = some (.cells cur e fz) /\ jA cur.size fz /\ cur[o + (c + j)]? = some v /\ aC nm w L S.γ (.b r0 (c + j)) 0 y v := by
        cases r0 with
        | g i => simp[aJ.iT] at hG
        | e i => obtain⟨B, o, cur, e, fz, v, q1, q2, q3, q4, q5, _⟩ := ow; exact⟨B, o, cur, e, fz, v, q1, q2, q3, q4, q5⟩
        | l i => obtain⟨B, o, cur, e, fz, v, q1, q2, q3, q4, q5, _⟩ := ow; exact⟨B, o, cur, e, fz, v, q1, q2, q3, q4, q5⟩
      obtain⟨B2, o2, iF, e2, lu, v2, a1, a2, a3, a4, a5⟩ := this
      obtain rfl := R.fy B2 B' r0 o2 fm a1 k1
      obtain rfl : o2 = fm := by rw[a1] at k1; simpa using k1
      obtain⟨rfl, rfl, rfl⟩ : iF = cur /\ e2 = e /\ lu = fz := by rw[a2] at k2; simpa using k2
      rw[<- p9, Aj] at a4
      simp at a4
      subst a4
      exact a5.look rfl _ _)
  refine⟨_,⟨_,cH,Uv ht qx (λh=>by rw[<-hlen];exact hm.2 h) (λj v h=>?_)⟩,hm.1⟩;rw[qW k2];exact(kV j v h).2
def aqP {r:aJ} {n c:Nat} {cs:List C} (h:(wX r c n).run S=some cs):cs.any C.own=false:=by
 obtain⟨h1,h2⟩:=Nd n c h;rw[List.any_eq_false];intro x hx;obtain⟨j,hj⟩:=vq hx;obtain⟨y,_,h3⟩:=h2 j (by rw[<-h1];exact(cd.1 hj).1);rw[hj] at h3;simp at h3;rw[h3,Go.ax.DO];simp
def apC {agg:Bool} {cs:List C} {x:V} (h:(lU agg cs).run S=some x) (hc:cs.any C.own=false):x.own=false:=by
 unfold lU at h;split at h
 ·obtain rfl:=Q.aW h;exact hc
 ·split at h
  ·obtain rfl:=Q.aW h;simpa[V.own,V.cells] using hc
  ·cases h
def adr (R0:Rel nm N S0 a w L0) (M:cf nm N S0 w L0 ws a w L) (hH:eA L) {rv:ResultVar} {R:RV} (hc:xJ P rv=some R) {r:V×List Wr} (hr:(Ud ws R).run S0=some r) :
  ∃v L',Out nm N S0 w L0 ws r.2 a w L L' (λ_=>True) 0/\mP nm w L0 S0.γ w L' (S0.ai r.2).γ 0 r.1 v/\rR P w a.tmps rv v:=by
 cases rv with
 | tmp t=>
  simp only[xJ,au] at hc;subst hc;obtain⟨L',h1,h2⟩:=r9 M R0 (hH.free 0) (x:=.t t) (o:=.tmp t) rfl .t hr;exact⟨_,L',h1,h2,rfl⟩
 | cell ad t=>
  obtain⟨⟨n,agg⟩,h1,h2⟩:=bind_some hc;cases h2;obtain⟨v,h3,h4⟩:=Q.aL hr;have hv:=rd_val R0 (x:=.tmp ad) .s h3;split at h4
  ·have h5:=Q.np h4;obtain⟨hg,h6⟩:=Q.ec h5;simp at hg;obtain⟨cs,h7,h8⟩:=Q.aL h6;obtain⟨x',h9,cz⟩:=Q.aL h8;obtain rfl:=Q.aW cz;obtain⟨val,⟨ad',e1,e2⟩,rep⟩:=apu R0 h1 hv.cB hg.1.1 hg.1.2 hg.2 h7 h9;refine⟨val,L,Out.refl M _ 0,mP.A0 M.cU rep (apC h9 (aqP h7)),?_⟩;have P0:a.tmps.getD ad undef = .pointer (some ad'):=e1;simp[rR,P0,asAddr,e2]
  ·cases h4
def E2 (L:aw):Prop:=∀B q o,L B=some (.row q o)->q.k.aT=false->q.k = .h 0
def MN {e8:List Wr} {L':aw} {K:Place->Prop} (hH:eA L) (O:Out nm N S0 w L0 ws e8 a w L L' K 0):E2 L':=by
 intro B q o hB hq;by_cases hk:q.k = .h 0
 ·exact hk
 ·have:=hH B q o (O.yO B q o hq hk hB);rw[hq] at this;cases this
def ap8 (hH:eA L):E2 L:=λB q o hB hq=>by have:=hH B q o hB;rw[hq] at this;cases this
def aqV (R0:Rel nm N S0 a w L0) (hH:eA L0) {rv:ResultVar} {R:RV} (hc:xJ P rv=some R) {r:V×List Wr} (hr:(adx R).run S0=some r) :
  ∃v L',cf nm N S0 w L0 r.2 a w L'/\E2 L'/\bJ nm w L' (S0.ai r.2).γ (.h 0) r.1 v/\rR P w a.tmps rv v:=by
 obtain⟨⟨x,eS⟩,h1,h2⟩:=Q.aL hr;obtain⟨v,L1,O1,V1,hv⟩:=adr R0 (cf.init R0) hH hc h1;dsimp only at h2 O1 V1;split at h2
 ·obtain⟨⟨c',fu⟩,h3,h4⟩:=Q.aL h2;obtain rfl:=Q.aW h4;obtain⟨L2,O2,R2⟩:=NC (m:=0) (j:=0) (v:=v) O1.mid V1 h3;exact⟨v,L2,O2.mid,MN hH ((O1.weaken (K':=λq=>¬ (q.k = .h 0/\q.j=0)) (λ_ _=>trivial)).trans O2),.one R2,hv⟩
 ·rename_i cs;obtain⟨⟨dQ,fu⟩,h3,h4⟩:=Q.aL h2;obtain rfl:=Q.aW h4;obtain⟨us,rfl,hl,hV⟩:=V1
  obtain⟨L2, O2, l2, R2⟩ := NB cs O1.mid 0 (λj => us.getD j undef) (λj c hc => by
    have hj : j < us.size := by rw[<- hl]; exact(cd.1 hc).1
    have := hV j c _ hc (oZ hj)
    simpa[hj] using this) h3
  refine⟨_,L2,O2.mid,MN hH ((O1.weaken (K':=λq=>¬ (q.k = .h 0/\0<=q.j)) (λ_ _=>trivial)).trans O2),.agg (by omega) (λj c u hj hu=>?_),hv⟩;have:=R2 j c hj;rw[cQ] at this;simp only[jW,hu,Option.getD_some] at this;omega
 ·cases h2
def adA (R0:Rel nm N S0 a w L0):∀(ko:List ResultVar) {Rs:List RV} {ws:List Wr} {L:aw} (M:cf nm N S0 w L0 ws a w L) (hH:eA L) (hc:ko.mapM (xJ P)=some Rs) {rr:List V×List Wr} (hr:(A' ws Rs).run S0=some rr),
  ∃(vs:List Value) (L':aw),cf nm N S0 w L0 rr.2 a w L'/\eA L'/\Step w w L L' (S0.ai ws).γ (S0.ai rr.2).γ/\rr.1.length=vs.length/\nE rr.1=true/\(∀(j:Nat) x v,rr.1[j]? = some x->vs[j]? = some v->bJ nm w L' (S0.ai rr.2).γ (.h 0) x v)/\
   vs.length=ko.length/\∀(j:Nat) rv v,ko[j]? = some rv->vs[j]? = some v->rR P w a.tmps rv v
 | [],Rs,ws,L,M,hH,hc,rr,hr=>by
  have:=by simpa using hc.symm
  subst this;obtain rfl:=Q.aW hr;exact⟨[],L,M,hH,Step.same w L (λ_=>cp _),rfl,rfl,λj x p h=>by simp at h,rfl,λj x p h=>by simp at h⟩
 | rv::ko,Rs,ws,L,M,hH,hc,rr,hr=>by
  rw[mM] at hc;obtain⟨R,dM,gG⟩:=bind_some hc;obtain⟨Rt,CQ,FQ⟩:=bind_some gG;cases FQ;obtain⟨⟨x,eS⟩,h1,h2⟩:=Q.aL hr;obtain⟨v,L1,O1,V1,hv⟩:=adr R0 M hH dM h1;dsimp only at h2 O1 V1;have fin:∀{fu:List Wr} {L2:aw} {x':V} {rest:List V×List Wr},cf nm N S0 w L0 fu a w L2->eA L2->Step w w L L2 (S0.ai ws).γ (S0.ai fu).γ->x'.clean=true->bJ nm w L2 (S0.ai fu).γ (.h 0) x' v->(A' fu Rt).run S0=some rest->rr=(x'::rest.1,rest.2)->
    ∃(vs:List Value) (L':aw),cf nm N S0 w L0 rr.2 a w L'/\eA L'/\Step w w L L' (S0.ai ws).γ (S0.ai rr.2).γ/\rr.1.length=vs.length/\nE rr.1=true/\(∀(j:Nat) x v,rr.1[j]? = some x->vs[j]? = some v->bJ nm w L' (S0.ai rr.2).γ (.h 0) x v)/\
     vs.length=(rv::ko).length/\∀(j:Nat) Be v,(rv::ko)[j]? = some Be->vs[j]? = some v->rR P w a.tmps Be v:=by
   intro fu L2 x' rest M2 QE Ig aU rep h5 dV;obtain⟨vs,L3,M3,QF,nu,Kc,CQ,R3,Ru,hv4⟩:=adA R0 ko M2 QE CQ h5;subst dV;refine⟨v::vs,L3,M3,QF,Ig.trans nu,by simp[Kc],by simp[nE,aU,CQ],?_,by simp[Ru],?_⟩
   ·intro j x v' hj gM;cases j with
    | zero=>
     simp at hj gM;subst hj;subst gM;exact rep.rZ nu aU _
    | succ j=>exact R3 j x v' (by simpa using hj) (by simpa using gM)
   ·intro j Be v' hj gM;cases j with
    | zero=>
     simp at hj gM;subst hj;subst gM;exact hv
    | succ j=>exact hv4 j Be v' (by simpa using hj) (by simpa using gM)
  split at h2
  ·rename_i c;obtain⟨⟨c',fu⟩,h3,h4⟩:=Q.aL h2;obtain⟨⟨vs,xk⟩,h5,h6⟩:=Q.aL h4;have dV:=Q.aW h6;obtain⟨L2,O2,R2⟩:=vh (m:=0) (j:=0) (c:=c) (v:=v) O1.mid V1 h3;have mQ:=(O1.weaken (K':=λq=>¬ (q.k = .h 0/\q.j=0)) (λ_ _=>trivial)).trans O2;obtain⟨M3,nu⟩:=O2.mid.JP;obtain⟨R3,aU⟩:=aC.MV (k':=.h 0) (j':=0) nu R2 (UT h3);exact fin M3 (Mx O2.mid (MN hH mQ)) (mQ.cU.trans nu) (x':=.one c'.plain) aU (.one R3) h5 dV
  ·rename_i cs;obtain⟨⟨dQ,fu⟩,h3,h4⟩:=Q.aL h2;obtain⟨⟨vs,xk⟩,h5,h6⟩:=Q.aL h4;have dV:=Q.aW h6;obtain⟨us,mw,hl,hV⟩:=V1
   obtain⟨L2, O2, l2, R2⟩ := NA (m := 0) cs O1.mid 0 (λj => us.getD j undef) (λj c hc => by
     have hj : j < us.size := by rw[<- hl]; exact(cd.1 hc).1
     have := hV j c _ hc (oZ hj)
     simpa[hj] using this) h3
   have mQ:=(O1.weaken (K':=λq=>¬ (q.k = .h 0/\0<=q.j)) (λ_ _=>trivial)).trans O2;obtain⟨M3,nu⟩:=O2.mid.JP;have each:∀(j:Nat) c,(dQ.map C.plain)[j]? = some c->c.clean=true/\∀u,us[j]? = some u->aC nm w (kB L2) (S0.ai fu).γ (.h 0) j c u:=by
    intro j c hc;rw[bQ] at hc;cases hj:dQ[j]? with
    | none=>simp[hj] at hc
    | some c0=>
     simp only[hj,fJ,au] at hc;subst hc;have:=R2 j c0 hj;rw[cQ] at this;have hp:=aC.MV (k':=.h 0) (j':=j) nu this (UQ _ h3 c0 (ff hj));refine⟨hp.2,λu hu=>?_⟩;have h1:=hp.1;simp only[jW,hu,Option.getD_some] at h1;exact h1
   refine fin M3 (Mx O2.mid (MN hH mQ)) (mQ.cU.trans nu) (x':=.agg (dQ.map C.plain)) (X3 (λj c hc=>(each j c hc).1)) ?_ h5 dV;rw[mw];exact .agg (by simp[l2,hl]) (λj c u hc hu=>(each j c hc).2 u hu)
  ·cases h2
def Iw (vs:List Value):Value:=match vs with | [v]=>v | vs=>.tuple vs.toArray
def aqU (R0:Rel nm N S0 a w L0) (hH:eA L0) {fg:Bool} {ko:List ResultVar} {Rs:List RV} (hc:ko.mapM (xJ P)=some Rs) {r:V×List Wr} (hr:(Uh fg Rs).run S0=some r) :
  ∃(vs:List Value) (L':aw),cf nm N S0 w L0 r.2 a w L'/\E2 L'/\bJ nm w L' (S0.ai r.2).γ (.h 0) r.1 (Iw vs)/\vs.length=ko.length/\∀(j:Nat) rv v,ko[j]? = some rv->vs[j]? = some v->rR P w a.tmps rv v:=by
 have hl:Rs.length=ko.length:=by
  clear hr;induction ko generalizing Rs with
  | nil=>
   have:=by simpa using hc.symm
   subst this;rfl
  | cons x t ih=>
   rw[mM] at hc;obtain⟨R,dM,gG⟩:=bind_some hc;obtain⟨Rt,CQ,FQ⟩:=bind_some gG;cases FQ;simp[ih CQ]
 have many:∀{x:List V×List Wr},(A' [] Rs).run S0=some x->∃(vs:List Value) (L':aw),cf nm N S0 w L0 x.2 a w L'/\E2 L'/\x.1.length=vs.length/\nE x.1=true/\(∀(j:Nat) y v,x.1[j]? = some y->vs[j]? = some v->bJ nm w L' (S0.ai x.2).γ (.h 0) y v)/\vs.length=ko.length/\∀(j:Nat) rv v,ko[j]? = some rv->vs[j]? = some v->rR P w a.tmps rv v:=by
  intro x hx;obtain⟨vs,L',h1,h2,_,h3,h4,h5,h6,h7⟩:=adA R0 ko (cf.init R0) hH hc hx;exact⟨vs,L',h1,ap8 h2,h3,h4,h5,h6,h7⟩
 unfold Uh at hr;split at hr
 ·rename_i R;have jI:ko.length=1:=by rw[<-hl];rfl
  obtain⟨rv,rfl⟩:=N4.1 jI;split at hr
  ·obtain⟨⟨vs,ws⟩,h1,h2⟩:=Q.aL hr;obtain⟨us,L',k1,k2,k3,k4,k5,k6,k7⟩:=many h1;dsimp only at h2 k1 k3 k4 k5;split at h2
   ·rename_i v;obtain rfl:=Q.aW h2;obtain⟨u,rfl⟩:=N4.1 k3.symm;exact⟨[u],L',k1,k2,k5 0 v u rfl rfl,k6,k7⟩
   ·cases h2
  ·have dM:xJ P rv=some R:=by
    rw[mM] at hc;obtain⟨R',dM,gG⟩:=bind_some hc;obtain⟨Rt,CQ,FQ⟩:=bind_some gG;cases FQ;omega
   obtain⟨v,L',k1,k2,k3,k4⟩:=aqV R0 hH dM hr;refine⟨[v],L',k1,k2,k3,rfl,?_⟩;intro j Be v' h1 h2;cases j with
   | zero=>simp at h1 h2;subst h1;subst h2;exact k4
   | succ j=>simp at h1
 ·rename_i aD;obtain⟨⟨vs,ws⟩,h1,h2⟩:=Q.aL hr;obtain rfl:=Q.aW h2;obtain⟨us,L',k1,k2,k3,k4,k5,k6,k7⟩:=many h1;refine⟨us,L',k1,k2,?_,k6,k7⟩;have:Iw us = .tuple us.toArray:=by
   match us,k6 with
   | [],_=>rfl
   | [u],h=>exact absurd (by rw[<-h] at hl;exact N4.1 hl) (by rintro⟨R,rfl⟩;exact aD R rfl)
   | _::_::_,_=>rfl
  rw[this];exact .ao (by omega) k4 (λi x u h1 h2=>k5 i x u h1 (by simpa using h2))
def arl {fn:Func} {vs:List Value} (hl:vs.length=fn.results.toList.length) (h:∀(j:Nat) rv v,fn.results.toList[j]? = some rv->vs[j]? = some v->rR P w a.tmps rv v) :
  (results fn a.tmps).run P w = .ok (Iw vs) w:=by
 have hm:∀(l:List ResultVar) (us:List Value),us.length=l.length->(∀(j:Nat) rv v,l[j]? = some rv->us[j]? = some v->rR P w a.tmps rv v)->
   (l.mapM λ(rv:ResultVar)=>(match rv with | .tmp t=>(pure (a.tmps.getD t undef):Sem Value) | .cell ad t=>do loadVar t (<-asAddr (a.tmps.getD ad undef)))).run P w=Result.ok us w:=by
  intro l;induction l with
  | nil=>
   intro us h1 _;have:us=[]:=by simpa using h1
   subst this;rfl
  | cons rv l ih=>
   intro us h1 h2;cases us with
   | nil=>simp at h1
   | cons u us=>
    rw[mM,Sem.run_bind];have e1:=h2 0 rv u rfl rfl;unfold rR at e1;rw[e1,Result.andThen_ok,Sem.run_bind,ih us (by simpa using h1) (λj Be v' g1 g2=>h2 (j+1) Be v' (by simpa using g1) (by simpa using g2)),Result.andThen_ok];rfl
 have e:=hm fn.results.toList vs hl h;unfold results;rw[afX];rw[Sem.run_bind,map_eq_pure_bind,Sem.run_bind];refine(fW (λr=>Result.andThen (Result.andThen r _) _) e).trans ?_;simp only[Result.andThen_ok];match vs with
 | []=>rfl
 | [u]=>rfl
 | _::_::_=>rfl
end
end
section
section
variable {nm:FuncId->Option Nat} {N:Nat} {S S0:St} {a:Act} {w:World} {L L0:aw} {P:Program} {ws:List Wr} {γ:Key->Nat} {rs:List aJ} {E:Key->V}
def apo (R:Rel nm N S a w L) {bs dL:List (List C)} (jq:rs.Nodup) (xW:bs.length=rs.length)
  (hb:∀(k:Nat) r cs,rs[k]? = some r->bs[k]? = some cs->r.iT=false/\cs.length=cr (S.E (.r r))/\(∀(j:Nat) x,cs[j]? = some x->S.E (.b r j) = .one x)/\∀y∈kg cs,y.2=S.γ (.r y.1))
  (qm:pL rs bs=some dL):Rel nm 0 (dm 0 dL) ⟨#[],[]⟩ w (fM rs S.E L):=by
 have box:∀j,j < dL.length->∃r cs,rs[j]? = some r/\bs[j]? = some cs/\nc rs cs=some (dL.getD j [])/\(dL.getD j []).length=cr (S.E (.r r))/\r.iT=false/\jh rs r 0=some j/\
   (∀(i:Nat) x,cs[i]? = some x->S.E (.b r i) = .one x)/\∀x∈kg cs,x.2=S.γ (.r x.1):=by
  intro j hj;have vZ:dL[j]? = some (dL.getD j []):=getD_some hj;obtain⟨cs,h1,h2⟩:=Sc j qm vZ;have Rp:j < rs.length:=by rw[<-xW,<-Sd qm];exact hj
  have hr:rs[j]? = some rs[j]:=kI Rp;obtain⟨c0,c1,c2,c3⟩:=hb j rs[j] cs hr h1;refine⟨rs[j],cs,hr,h1,h2,by rw[wz h2,c1],c0,?_,c2,c3⟩;have:=yV rs (i:=0) jq hr;rwa[cQ] at this
 refine⟨rfl,rfl,?_,?_,?_,?_,?_,?_,?_,?_⟩
 ·intro i;rw[px];exact .one .dead
 ·intro r c x hx gp;have fF:(dm 0 dL:St).E (.b r c) = .one x:=hx;rw[I7];rw[px] at fF;cases r with
  | g i=>simp only[V.dead,V.one.injEq] at fF;exact absurd fF.symm gp
  | l i=>simp only[V.dead,V.one.injEq] at fF;exact absurd fF.symm gp
  | e j=>
   simp only at fF;split at fF
   ·rename_i Ga;obtain⟨r0,cs,h1,h2,h3,h4,h5,h6,h7,h8⟩:=box j Ga.1;simp only[V.one.injEq] at fF;obtain⟨y,k1,k2⟩:=wy c h3 (show (dL.getD j [])[c]? = some x by rw[<-fF];exact getD_some Ga.2);have GC:=h7 c y k1;have jK:y≠.dead:=by
     rintro rfl;simp only[C.dX,au] at k2;exact gp k2.symm
    have ow:=R.cell r0 c y GC jK;have ex:∃B o cur e fz v,L B=some (.box r0 o)/\w.heap[B]? = some (.cells cur e fz)/\jA cur.size fz/\cur[o+c]? = some v/\aC nm w L S.γ (.b r0 c) 0 y v/\lK y B o c e cur.size v:=by
     cases r0 with
     | g i=>simp[aJ.iT] at h5
     | e i=>exact ow
     | l i=>exact ow
    obtain⟨B,o,cur,e,fz,v,m1,m2,m3,m4,m5,m6⟩:=ex;exact⟨B,o,cur,e,fz,v,zS m1 h6,m2,m3,m4,m5.YH k2 (λz hz=>h8 z (wV k1 hz)) GC h6,aau k2 m6⟩
   ·simp only[V.dead,V.one.injEq] at fF;exact absurd fF.symm gp
 ·intro r c;rw[px];cases r with
  | e j=>
   simp only;split
   ·exact⟨(dL.getD j []).getD c .dead,rfl⟩
   ·exact⟨.dead,rfl⟩
  | g i=>exact⟨.dead,rfl⟩
  | l i=>exact⟨.dead,rfl⟩
 ·intro r c hc;rw[px] at hc ⊢;cases r with
  | e j=>
   simp only at hc ⊢;by_cases hj:j < dL.length
   ·rw[aP hj,qU] at hc;rw[aI (λh=>by omega)];rfl
   ·rw[aI (λh=>hj h.1)];rfl
  | g i=>rfl
  | l i=>rfl
 ·intro r hg hr;rw[px] at hr ⊢;cases r with
  | e j=>
   simp only at hr ⊢;by_cases hj:j < dL.length
   ·rw[aP hj,qU] at hr ⊢;obtain⟨r0,cs,h1,h2,h3,h4,h5,h6,h7,h8⟩:=box j hj;rw[h4] at hr ⊢;obtain⟨B,o,cur,e,fz,m1,m2,m3,m4⟩:=R.room r0 h5 hr;exact⟨B,o,cur,e,fz,zS m1 h6,m2,m3,m4⟩
   ·rw[aI hj] at hr;simp[V.dead,cr] at hr
  | g i=>simp[aJ.iT] at hg
  | l i=>simp[V.dead,cr] at hr
 ·intro B l hB;rcases nF hB with⟨_,h⟩ | ⟨_,_,_,_,h,_⟩ | ⟨_,_,_,_,_,_,_,_,h,_⟩ | ⟨_,_,_,_,_,h⟩<;>exact R.fx B _ h
 ·intro B B' pl o o' h1 h2;rcases nF h1 with⟨h,_⟩ | ⟨_,_,_,h,_⟩ | ⟨r,c,j,p,o1,i,x,h,k1,k2,_⟩ | ⟨i,j,p,o1,h,k1⟩
  ·cases h
  ·cases h
  rotate_left
  ·simp only[db.row.injEq] at h;obtain⟨rfl,rfl⟩:=h;rcases nF h2 with⟨h',_⟩ | ⟨_,_,_,h',_⟩ | ⟨r',c',j',p',kf,i',x',h',oI,wD,_⟩ | ⟨i',j',p',kf,h',oI⟩
   ·cases h'
   ·cases h'
   ·simp only[db.row.injEq,Place.mk.injEq] at h';exact absurd h'.1.1 (by intro h;cases h)
   ·simp only[db.row.injEq,Place.mk.injEq,Key.s.injEq] at h';obtain⟨⟨rfl,rfl,rfl⟩,rfl⟩:=h';exact R.ey B B' _ _ _ k1 oI
  rcases nF h2 with⟨h',_⟩ | ⟨_,_,_,h',_⟩ | ⟨r',c',j',p',kf,i',x',h',oI,wD,_⟩ | ⟨i',j',p',kf,h',oI⟩
  ·cases h'
  ·cases h'
  rotate_left
  ·simp only[db.row.injEq] at h h';obtain⟨rfl,rfl⟩:=h;simp only[Place.mk.injEq] at h';exact absurd h'.1.1 (by intro h;cases h)
  simp only[db.row.injEq] at h h';obtain⟨rfl,rfl⟩:=h;obtain⟨h',rfl⟩:=h';simp only[Place.mk.injEq,Key.b.injEq,aJ.e.injEq] at h';obtain⟨⟨rfl,rfl⟩,rfl,rfl⟩:=h';have e1:=(qG rs k2).2;have e2:=(qG rs wD).2;rw[e1] at e2;simp only[au] at e2;subst e2;exact R.ey B B' _ _ _ k1 oI
 ·intro B B' r o o' h1 h2;rcases nF h1 with⟨h,_⟩ | ⟨r1,o1,i,h,k1,k2⟩ | ⟨_,_,_,_,_,_,_,h,_⟩ | ⟨_,_,_,_,h,_⟩
  ·cases h
  ·rcases nF h2 with⟨h',_⟩ | ⟨HP,kf,i',h',oI,wD⟩ | ⟨_,_,_,_,_,_,_,h',_⟩ | ⟨_,_,_,_,h',_⟩
   ·cases h'
   ·simp only[db.box.injEq] at h h';obtain⟨rfl,rfl⟩:=h;obtain⟨h',rfl⟩:=h';simp only[aJ.e.injEq] at h';subst h';have e1:=(qG rs k2).2;have e2:=(qG rs wD).2;rw[e1] at e2;simp only[au] at e2;subst e2;exact R.fy B B' _ _ _ k1 oI
   ·cases h'
   ·cases h'
  ·cases h
  ·cases h
end
end
section
def oJ (rs:List aJ) (E:Key->V) (L:aw):aw:=λB=>
 match L B with
 | some (.row ⟨.h 0,j,p⟩ o)=>some (.row ⟨.h 0,j,p⟩ o)
 | _=>fM rs E L B
section
variable {nm:FuncId->Option Nat} {N:Nat} {S S0:St} {a:Act} {w:World} {L L0 L':aw} {P:Program} {ws:List Wr} {γ:Key->Nat} {rs:List aJ} {E:Key->V}
def ti {B:Nat} {l:db} (h:fM rs E L B=some l):oJ rs E L B=some l:=by
 unfold oJ;split
 ·rename_i j p o hL;simp[fM,hL] at h
 omega
def apm {B j o:Nat} {p:List (Nat×Nat)} (h:L B=some (.row ⟨.h 0,j,p⟩ o)):oJ rs E L B=some (.row ⟨.h 0,j,p⟩ o):=by
 unfold oJ;simp[h]
def DN {B:Nat} {l:db} (h:oJ rs E L B=some l):fM rs E L B=some l\/∃j p o,l = .row ⟨.h 0,j,p⟩ o/\L B=some l:=by
 unfold oJ at h;split at h
 ·rename_i j p o hL;simp at h;subst h;exact .inr ⟨j,p,o,rfl,hL⟩
 ·exact .inl h
def abp:Step w w (fM rs E L) (oJ rs E L) (λ_=>0) (λ_=>0):=
 ⟨λB hB=>⟨ti hB,rfl⟩,λ_=>cp _,λB q o _ _ hB=>⟨ti hB,λcur e fz h=>⟨cur,h,rfl⟩⟩,λ_ _ _ _ _ _ _=>rfl,λB r o _ hB=>ti hB⟩
def apq (R:Rel nm 0 S ⟨#[],[]⟩ w (fM rs E L)) (hS:S.γ=λ_=>0) (ri:mR L) (FX:sv w L):Rel nm 0 S ⟨#[],[]⟩ w (oJ rs E L):=by
 have bF:Step w w (fM rs E L) (oJ rs E L) S.γ S.γ:=by rw[hS];exact abp
 have noh:∀{B q o},fM rs E L B=some (.row q o)->q.k.aT=true:=by
  intro B q o hB;rcases nF hB with⟨h,_⟩ | ⟨_,_,_,h,_⟩ | ⟨_,_,_,_,_,_,_,h,_⟩ | ⟨_,_,_,_,h,_⟩
  ·cases h
  ·cases h
  all_goals simp at h;rw[h.1];rfl
 refine⟨R.size,R.defers,?_,?_,R.kx,R.bound,?_,?_,?_,?_⟩
 ·intro i;exact(R.slot i).step bF (λB q o hq hB=>by rw[<-hq,Place.mf];exact⟨ti hB,rfl⟩)
 ·intro r c x hx gp;exact(R.cell r c x hx gp).step bF (λB q o _ hB=>⟨ti hB,rfl⟩) (λB o hB=>⟨ti hB,λcur e fz hc=>⟨cur,hc,rfl,rfl⟩⟩)
 ·intro r hg hr;obtain⟨B,o,cur,e,fz,h1,h2,h3,h4⟩:=R.room r hg hr;exact⟨B,o,cur,e,fz,ti h1,h2,h3,h4⟩
 ·intro B l hB;rcases DN hB with h | ⟨_,_,_,_,h⟩
  ·exact R.fx B l h
  ·exact FX B l h
 ·intro B B' pl o o' h1 h2;rcases DN h1 with g1 | ⟨j,p,o1,e1,g1⟩
  ·rcases DN h2 with g2 | ⟨j',p',kf,e2,g2⟩
   ·exact R.ey B B' pl o o' g1 g2
   ·have:=noh g1;simp at e2;rw[e2.1] at this;simp[Key.aT] at this
  ·rcases DN h2 with g2 | ⟨j',p',kf,e2,g2⟩
   ·have:=noh g2;simp at e1;rw[e1.1] at this;simp[Key.aT] at this
   ·exact ri B B' pl o o' g1 g2
 ·intro B B' r o o' h1 h2;rcases DN h1 with g1 | ⟨_,_,_,e1,_⟩
  ·rcases DN h2 with g2 | ⟨_,_,_,e2,_⟩
   ·exact R.fy B B' r o o' g1 g2
   ·cases e2
  ·cases e1
def aC.Mq {j:Nat} {c:C} {v:Value} (h:aC nm w L γ (.h 0) j c v) {c':C} (hi:c.dX rs=some c') (hl:∀x∈c.u6,x.2=γ (.r x.1)):aC nm w (oJ rs E L) (λ_=>0) (.h 0) j c' v:=by
 have cl:c.clean=true->aC nm w (oJ rs E L) (λ_=>0) (.h 0) j c' v:=by
  intro hc;refine(h.enter (rs:=rs) (E:=E) hi hl hc (.h 0) j).step abp (λB q o h1 h2 hB=>?_);rw[<-h1,<-h2,Place.mf];exact⟨ti hB,rfl⟩
 cases c with
 | d x=>
  simp only[C.dX,au] at hi;subst hi;cases h with
  | d h=>
   refine .d (bt.move id (λq=>q.k = .h 0) (λ_ _ _ h=>h) (λ_ _ _ _=>rfl) (λB hB=>⟨ti (uz hB),rfl⟩) (λB q o hq hB=>⟨?_,rfl⟩) h rfl);obtain⟨k,j,p⟩:=q;subst hq;exact apm hB
 | cY=>simp[C.dX] at hi
 | mp=>simp[C.dX] at hi
 | bz t=>exact absurd rfl (h.Hs t)
 | _=>exact cl (h.uv rfl)
def abq:∀{l l':List V} (j:Nat) {c':V},wH rs l=some l'->l'[j]? = some c'->∃c,l[j]? = some c/\c.leave rs=some c'
 | [],l',j,c',h,hj=>by simp only[wH,au] at h;subst h;simp at hj
 | c::t,l',j,c',h,hj=>by
  obtain⟨c1,h1,h2⟩:=fw.1 h;obtain⟨t1,h3,rfl⟩:=bK h2;cases j with
  | zero=>simp at hj;subst hj;exact⟨c,rfl,h1⟩
  | succ j=>obtain⟨c2,g1,g2⟩:=abq j h3 (by simpa using hj);exact⟨c2,by simpa using g1,g2⟩
def abr:∀{l l':List V},wH rs l=some l'->l'.length=l.length
 | [],l',h=>by simp only[wH,au] at h;subst h;rfl
 | c::t,l',h=>by
  obtain⟨c1,h1,h2⟩:=fw.1 h;obtain⟨t1,h3,rfl⟩:=bK h2;simp[abr h3]
mutual
def apn:∀{c c':V},c.clean=true->c.leave rs=some c'->c'.clean=true
 | .one c,c',h,hi=>by simp only[V.leave] at hi;obtain⟨x,h1,rfl⟩:=bK hi;exact Kw (c:=c) h h1
 | .agg cs,c',h,hi=>by simp only[V.leave] at hi;obtain⟨x,h1,rfl⟩:=bK hi;exact Ky (l:=cs) h h1
 | .ao vs,c',h,hi=>by simp only[V.leave] at hi;obtain⟨x,h1,rfl⟩:=bK hi;exact SS (l:=vs) h h1
def SS:∀{l l':List V},nE l=true->wH rs l=some l'->nE l'=true
 | [],l',h,hi=>by simp only[wH,au] at hi;subst hi;rfl
 | c::t,l',h,hi=>by
  simp only[wH] at hi;obtain⟨c1,h1,h2⟩:=fw.1 hi;obtain⟨t1,h3,rfl⟩:=bK h2;simp only[nE,cI] at h ⊢;exact⟨apn h.1 h1,SS h.2 h3⟩
end
def ac6:∀{l:List V} {i:Nat} {x:V} {y:aJ×Nat},l[i]? = some x->y∈x.A6->y∈HM l
 | [],_,_,_,h,_=>by simp at h
 | x::t,0,c,y,h,hy=>by simp at h;subst h;simp[HM,hy]
 | x::t,i+1,c,y,h,hy=>by simp only[HM,dk];exact .inr (ac6 (by simpa using h) hy)
def ac5:∀{l:List (List C)} {i:Nat} {x:List C} {y:aJ×Nat},l[i]? = some x->y∈kg x->y∈A5 l
 | [],_,_,_,h,_=>by simp at h
 | x::t,0,c,y,h,hy=>by simp at h;subst h;simp[A5,hy]
 | x::t,i+1,c,y,h,hy=>by simp only[A5,dk];exact .inr (ac5 (by simpa using h) hy)
def bJ.Mq {x:V} {v:Value} (h:bJ nm w L γ (.h 0) x v):∀{x':V},x.leave rs=some x'->(∀y∈x.A6,y.2=γ (.r y.1))->bJ nm w (oJ rs E L) (λ_=>0) (.h 0) x' v:=by
 induction h with
 | one h=>
  intro x' hi hl;obtain⟨c',h1,rfl⟩:=bK hi;exact .one (h.Mq h1 hl)
 | @agg cs vs hlen h=>
  intro x' hi hl;obtain⟨dQ,h1,rfl⟩:=bK hi;refine .agg (by rw[wz h1];omega) (λj c u hj hu=>?_);obtain⟨c0,g1,g2⟩:=wy j h1 hj;exact(h j c0 u g1 hu).Mq g2 (λy hy=>hl y (wV g1 hy))
 | @ao vs us hlen aU h ih=>
  intro x' hi hl;obtain⟨eR,h1,rfl⟩:=bK hi;refine .ao (by rw[abr h1];omega) (SS aU h1) (λi x u hj hu=>?_);obtain⟨c0,g1,g2⟩:=abq i h1 hj;exact ih i c0 u g1 hu g2 (λy hy=>hl y (ac6 g1 hy))
def Cp:∀(n i k:Nat),(om i n)[k]? = if k < n then some (aJ.e (i+k)) else none
 | 0,i,k=>by simp[om]
 | n+1,i,0=>by simp[om]
 | n+1,i,k+1=>by
  simp only[om,BA];rw[Cp n (i+1) k];simp only[Nat.add_lt_add_iff_right,show i+1+k=i+(k+1) by omega]
def zU:∀(n i:Nat),(om i n).length=n
 | 0,i=>rfl
 | n+1,i=>by simp[om,zU n (i+1)]
def Y4 {n i:Nat} {r:aJ} (h:r∈om i n):∃k,r = .e k/\i<=k:=by
 obtain⟨k,hk⟩:=vq h;rw[Cp] at hk;split at hk
 ·simp at hk;exact⟨i+k,hk.symm,by omega⟩
 ·cases hk
def JD:∀(n i:Nat),(om i n).Nodup
 | 0,i=>List.nodup_nil
 | n+1,i=>by
  simp only[om,Ok];refine⟨λh=>?_,JD n (i+1)⟩;obtain⟨k,h1,h2⟩:=Y4 h;simp at h1;omega
def acu:∀{bs:List (List C)} {i:Nat} {out:List (List C)},(TG ws i bs).run S0=some out->out.length=bs.length/\
  ∀(k:Nat) cs,out[k]? = some cs->cs.length=cr ((S0.ai ws).E (.r (.e (i+k))))/\∀(j:Nat) x,cs[j]? = some x->(S0.ai ws).E (.b (.e (i+k)) j) = .one x
 | [],i,out,h=>by
  obtain rfl:=Q.aW h;exact⟨rfl,λk cs h=>by simp at h⟩
 | b::bs,i,out,h=>by
  obtain⟨e,h1,h2⟩:=Q.aL h;rw[vI] at h1;simp at h1;subst h1;obtain⟨h3,h4⟩:=Q.ec h2;obtain⟨cs,h5,h6⟩:=Q.aL h4;obtain⟨D6,h7,h8⟩:=Q.aL h6;obtain rfl:=Q.aW h8;obtain⟨g1,g2⟩:=M' _ _ h5;obtain⟨g3,g4⟩:=acu h7;refine⟨by simp[g3],λk dQ hk=>?_⟩;cases k with
  | zero=>
   simp at hk;subst hk;simp at h3;refine⟨by rw[g1];exact h3.symm,λj x hj=>?_⟩;have:=g2 j x hj;rwa[cQ] at this
  | succ k=>
   have:=g4 k dQ (by simpa using hk);rwa[show i+1+k=i+(k+1) by omega] at this
def Te:∀{l:List (aJ×Nat)} {r:aJ},tq l=some r->∃i,r = .l i
 | [],r,h=>by simp[tq] at h
 | (.l i,g)::t,r,h=>by simp only[tq,au] at h;exact⟨i,h.symm⟩
 | (.e i,g)::t,r,h=>by simp only[tq] at h;exact Te h
 | (.g i,g)::t,r,h=>by simp only[tq] at h;exact Te h
structure Oy (n:Nat) (L L':aw):Prop where
 bg:∀B,L B=some .bg->L' B=some .bg
 none:∀B,L B=none->L' B=none
 Cg:∀B i o,i < n->L B=some (.box (.e i) o)->L' B=some (.box (.e i) o)
def apl {n:Nat} (kU:∀i,i < n->jh rs (.e i) 0=some i):Oy n L (oJ rs E L):=by
 refine⟨λB hB=>ti (uz hB),λB hB=>?_,λB i o hi hB=>ti (zS hB (kU i hi))⟩;unfold oJ;simp[fM,hB]
def ajA (R0:Rel nm N S0 a w L0) (hH:eA L0) {fn:lk} {bx:List (List C)} {ko:List ResultVar} (hc:ko.mapM (xJ P)=some fn.results) {r:V×List (List C)} (hr:(xP fn bx).run S0=some r) :
  ∃(vs:List Value) (L':aw),vs.length=ko.length/\(∀(j:Nat) rv v,ko[j]? = some rv->vs[j]? = some v->rR P w a.tmps rv v)/\
   (∃L1,dc w w L0 L1/\Oy bx.length L1 L')/\Rel nm 0 (dm 0 r.2) ⟨#[],[]⟩ w L'/\bJ nm w L' (λ_=>0) (.h 0) r.1 (Iw vs):=by
 obtain⟨⟨x,ws⟩,h1,h2⟩:=Q.aL hr;obtain⟨vs,L1,M,hO,rep,hl,hv⟩:=aqU R0 hH hc h1;obtain⟨out,h3,h4⟩:=Q.aL h2;obtain⟨o1,o2⟩:=acu h3;simp at o2;have fin:∀{rs:List aJ} {bs dL:List (List C)} {x':V},rs.Nodup->bs.length=rs.length->(∀i,i < bx.length->jh rs (.e i) 0=some i)->
   (∀(k:Nat) r cs,rs[k]? = some r->bs[k]? = some cs->r.iT=false/\cs.length=cr ((S0.ai ws).E (.r r))/\(∀(j:Nat) x,cs[j]? = some x->(S0.ai ws).E (.b r j) = .one x))->
   (∀y∈x.A6++A5 bs,xt S0 ws y)->x.leave rs=some x'->pL rs bs=some dL->r=(x',dL)->
   ∃(vs:List Value) (L':aw),vs.length=ko.length/\(∀(j:Nat) rv v,ko[j]? = some rv->vs[j]? = some v->rR P w a.tmps rv v)/\
   (∃L1,dc w w L0 L1/\Oy bx.length L1 L')/\Rel nm 0 (dm 0 r.2) ⟨#[],[]⟩ w L'/\bJ nm w L' (λ_=>0) (.h 0) r.1 (Iw vs):=by
  intro rs bs dL x' jq xW kU hb mn hx qm dV;subst dV;have hγ:∀{y:aJ×Nat},xt S0 ws y->y.2=(S0.ai ws).γ (.r y.1):=λh=>by rw[IP h.2.1];exact h.1
  have R1:=apo M.rel jq xW (λk r cs h1 h2=>⟨(hb k r cs h1 h2).1,(hb k r cs h1 h2).2.1,(hb k r cs h1 h2).2.2,λy hy=>hγ (mn y (af3 _ (ac5 h2 hy)))⟩) qm;refine⟨vs,oJ rs (S0.ai ws).E L1,hl,hv,⟨L1,M.mono,apl kU⟩,apq R1 (I7 _) M.rel.ey M.rel.fx,?_⟩;exact rep.Mq hx (λy hy=>hγ (mn y (EO _ hy)))
 have adC:∀{rs:List aJ},rs.Nodup->(∀i,i < bx.length->rs[i]? = some (.e i))->∀i,i < bx.length->jh rs (.e i) 0=some i:=by
  intro rs jq h i hi;have:=yV rs (i:=0) jq (h i hi);rwa[cQ] at this
 split at h4
 ·obtain⟨_,h5,h6⟩:=Q.aL h4;obtain⟨x',h7,h8⟩:=Q.gy h6;obtain⟨D6,h9,cz⟩:=Q.gy h8;have dV:=Q.aW cz;refine fin (JD _ _) (by rw[o1,zU]) (adC (JD _ _) (λi hi=>by rw[Cp,aP hi,cQ])) ?_ (Hn _ h5) h7 h9 dV;intro k r cs hk eJ;rw[Cp] at hk;split at hk
  ·simp at hk;subst hk;exact⟨rfl,(o2 k cs eJ).1,(o2 k cs eJ).2⟩
  ·cases hk
 ·rename_i r0 s6;obtain⟨i0,rfl⟩:=Te s6;obtain⟨e,h5,h6⟩:=Q.aL h4;rw[vI] at h5;simp at h5;subst h5;obtain⟨gZ,h7,h8⟩:=Q.aL h6;obtain⟨_,h9,cz⟩:=Q.aL h8;obtain⟨x',fT,gl⟩:=Q.gy cz;obtain⟨D6,lO,sR⟩:=Q.gy gl;have dV:=Q.aW sR;obtain⟨g1,g2⟩:=M' _ _ h7;have jq:(om 0 bx.length++[aJ.l i0]).Nodup:=by
   rw[Og];refine⟨JD _ _,by simp,λy hy z hz h=>?_⟩;simp at hz;subst hz;subst h;obtain⟨k,h1,_⟩:=Y4 hy;cases h1
  refine fin jq (by simp[o1,zU]) (adC jq (λi hi=>by rw[nZ (by rw[zU];exact hi),Cp,aP hi,cQ])) ?_ (Hn _ h9) fT lO dV;intro k r1 cs hk eJ;by_cases s5:k < bx.length
  ·rw[nZ (by rw[zU];omega),Cp,aP s5] at hk;simp at hk;subst hk;rw[nZ (by omega)] at eJ;exact⟨rfl,(o2 k cs eJ).1,(o2 k cs eJ).2⟩
  ·rw[qP (by rw[zU];omega),zU] at hk;rw[qP (by omega),o1] at eJ;cases hd:k - bx.length with
   | zero=>
    simp[hd] at hk eJ;subst hk;subst eJ;refine⟨rfl,g1,λj x hj=>?_⟩;have:=g2 j x hj;rwa[cQ] at this
   | succ n=>simp[hd] at hk
end
end
section
section
variable {nm:FuncId->Option Nat} {G:Nat->Option Obj} {N n:Nat} {S S0:St} {a:Act} {w:World} {L L0 L':aw} {P:Program} {Cl:bX}
def akq {args:Array Value} {m:Nat} (R:Rel nm n S ⟨args,[]⟩ w L) (h:n<=m):Rel nm m S ⟨args++Array.replicate (m - args.size) undef,[]⟩ w L:=by
 have hs:args.size=n:=R.size;refine⟨by simp[hs];omega,rfl,λi=>?_,R.cell,R.kx,R.bound,R.room,R.fx,R.ey,R.fy⟩;have:=R.slot i;have e:(args++Array.replicate (m - args.size) undef).getD i undef=args.getD i undef:=by
  simp only[jW];by_cases hi:i < args.size
  ·rw[Bz hi]
  ·rw[VC (by omega),N5 (show args.size<=i by omega)];by_cases h2:i - args.size < m - args.size
   ·rw[afZ,aP h2];rfl
   ·rw[afZ,aI h2]
 show bJ nm w L S.γ (.s i) (S.E (.s i)) ((args++Array.replicate (m - args.size) undef).getD i undef);rw[e];exact this
def agu (Aq:P.follows .mixedOrders=true) (hc:xr P nm G Cl) {hh:Hint} {fg:Bool} {f:Func} {cj:FuncId} {fn:lk} (hf:P.funcs[cj]? = some f) (mo:(f.name == "runtime.NumGoroutine")=false)
  (Q6:Fi P nm hh f fg=some fn) {vs:List V} {bx:List (List C)} {r:V} {out:List (List C)} (he:vQ Cl n fn vs bx=some (r,out))
  {args:Array Value} (R:Rel nm vs.length (gk 0 vs++dm 0 bx) ⟨args,[]⟩ w L) (hH:eA L) (hG:GI G w L) (hE:∀B i o,L B=some (.box (.e i) o)->i < bx.length) :
  jY P cj args w λv w'=>∃L',dc w w' L L'/\Rel nm 0 (dm 0 out) ⟨#[],[]⟩ w' L'/\bJ nm w' L' (λ_=>0) (.h 0) r v:=by
 unfold Fi at Q6;obtain⟨c,hb,h1⟩:=bind_some Q6;clear Q6;split at h1
 ·cases h1
 rename_i qv;have qv:hh.nt=f.ntmps:=Classical.not_not.1 qv;obtain⟨ic,h2,h3⟩:=bind_some h1;clear h1;obtain⟨Rs,h4,h5⟩:=bind_some h3;clear h3;cases h5;unfold vQ at he;split at he;rotate_left
 ·cases he
 rename_i sV;obtain⟨⟨e,Sf⟩,h6,h7⟩:=fw.1 he;clear he;have jr:(callFunc cj args).run P w = .ok (.enter cj args) w:=by
  have Gl:¬ f.name = "runtime.NumGoroutine" := by simpa using mo
  simp[callFunc,hf,Gl,hb]
 unfold jY;rw[jr];refine calls_of_wp hf hb (ag4 Aq hc qv n c h2 h6 (akq R sV) hH hG ?_);intro a' w' L1 D;have fin:∀{rr:V×List (List C)},(xP ⟨f.ntmps,Rs,ic,fg⟩ bx).run Sf=some rr->rr=(r,out)->a'.defers=[]/\∃v,(results f a'.tmps).run P w' = .ok v w'/\∃v',Ending.returned v = .returned v'/\∃L',dc w w' L L'/\Rel nm 0 (dm 0 out) ⟨#[],[]⟩ w' L'/\bJ nm w' L' (λ_=>0) (.h 0) r v':=by
  intro rr dV heq;subst heq;obtain⟨us,L2,k1,k2,⟨L3,k3,k4⟩,k5,k6⟩:=ajA D.rel D.yH h4 dV;refine⟨D.rel.defers,_,arl k1 k2,_,rfl,L2,?_,k5,k6⟩;have m1:=D.mono.trans k3;refine⟨m1.os,m1.tape,m1.output,m1.size,λB hB=>⟨k4.bg B (m1.bg B hB).1,(m1.bg B hB).2⟩,λB hl hB=>⟨k4.none B (m1.none B hl hB).1,(m1.none B hl hB).2⟩,λB i o hB=>k4.Cg B i o (hE B i o hB) (m1.Cg B i o hB)⟩
 cases e with
 | norm=>exact fin h7 rfl
 | ret=>exact fin h7 rfl
 | exit id=>simp at h7
structure OD (P:Program) (nm:FuncId->Option Nat) (T:Nat->Option lk):Prop where
 mixed:P.follows .mixedOrders=true
 fn:∀{f:Nat} {fn:lk} {cj:FuncId},T f=some fn->nm cj=some f->∃g hh fg,P.funcs[cj]? = some g/\(g.name == "runtime.NumGoroutine")=false/\Fi P nm hh g fg=some fn
def Wy (P:Program) (nm:FuncId->Option Nat) (G:Nat->Option Obj) (T:Nat->Option lk) (pS:bX):Prop:=
 ∀{f:Nat} {vs:List V} {bx:List (List C)} {r:V} {out:List (List C)} {cj:FuncId},T f=none->pS f vs bx=some (r,out)->nm cj=some f->
  ∀{args:Array Value} {w:World} {L:aw},Rel nm vs.length (gk 0 vs++dm 0 bx) ⟨args,[]⟩ w L->eA L->GI G w L->(∀B i o,L B=some (.box (.e i) o)->i < bx.length)->
   jY P cj args w λv w'=>∃L',dc w w' L L'/\Rel nm 0 (dm 0 out) ⟨#[],[]⟩ w' L'/\bJ nm w' L' (λ_=>0) (.h 0) r v
def ajw {T:Nat->Option lk} {pS:bX} (hT:OD P nm T) (hp:Wy P nm G T pS) (n:Nat):E1 P nm G (nG T pS n):=by
 induction n with
 | zero=>intro f vs bx r out cj h;simp[nG] at h
 | succ n ih=>
  intro f vs bx r out cj h hn args w L R hH hG hE;simp only[nG] at h;split at h
  ·rename_i fn yc;obtain⟨g,hh,fg,h1,h2,h3⟩:=hT.fn yc hn;exact agu hT.mixed (agM ih) h1 h2 h3 h R hH hG hE
  ·rename_i yc;exact hp yc h hn R hH hG hE
end
end
section
def mX:ma->Option (Option (List Nat)×Bool)
 | .iY k g _ _=>some (k,g)
 | .seq a _=>mX a
 | .block _ b=>mX b
 | _=>none
def xd:jE->jE
 | .iY _ _ o d=>.iY none false o d
 | .seq a b=>.seq (xd a) b
 | .join i k g a b=>.join i k g (xd a) b
 | .block i b=>.block i (xd b)
 | c=>c
def ap9:oc->Bool
 | .app .. => true
 | .BP .. => true
 | .BN .. => true
 | _=>false
def jE.ways:jE->Nat×List Nat
 | .skip=>(1,[])
 | .iY _ _ ops _=>(if ops.any λo=>ap9 o.op||o.guard.isSome then 2 else 1,[])
 | .seq a b=>match a.ways with
  | (0,l)=>(0,l)
  | (m+1,l)=>match b.ways with
   | (n,r)=>(min 99 ((m+1) * n),l++(List.replicate (min 9 (m+1)) r).flatten)
 | .cond _ a b=>match a.ways,b.ways with
  | (m,l),(n,r)=>(m+n,l++r)
 | .block i b=>match b.ways with
  | (m,l)=>(m+(l.filter λj=>Nat.beq j i).length,l.filter λj=>!(Nat.beq j i))
 | .loop _ _ _ b=>match b.ways with
  | (_,l)=>(0,l)
 | .join _ _ _ a b=>match a.ways with
  | (0,l)=>(0,l)
  | (_+1,l)=>match b.ways with
   | (n,r)=>(n,l++r)
 | .exit i=>(0,[i])
 | .ret=>(0,[])
def ap':oc->Nat
 | .call .. => 6
 | .load .. => 2
 | .store .. => 2
 | _=>1
def jE.wt:jE->Nat
 | .iY _ _ ops _=>(ops.map λo=>ap' o.op).foldl (· + ·) 0
 | .seq a b=>a.wt+b.wt
 | .cond _ a b=>2+a.wt+b.wt
 | .block _ b=>b.wt
 | .loop _ _ _ b=>4+b.wt
 | .join _ _ _ a _=>a.wt+4
 | _=>0
def sf (jM:Nat):ma->Nat->jE×Nat
 | .skip,n=>(.skip,n)
 | .iY k g o d,n=>(.iY k g o d,n)
 | .seq a b,n=>match sf jM b n with
  | (b',n1)=>match sf jM a n1 with
   | (a',n2)=>match mX b,Nat.ble jM ((a'.ways.1 - 1) * b'.wt) with
    | some (k,g),true=>(.join n2 k g a' (xd b'),n2+1)
    | _,_=>(.seq a' b',n2)
 | .cond c a b,n=>match sf jM a n with
  | (a',n1)=>match sf jM b n1 with
   | (b',n2)=>(.cond c a' b',n2)
 | .block i b,n=>match sf jM b n with
  | (b',n1)=>(.block i b',n1)
 | .loop b,n=>match sf jM b (n+1) with
  | (b',n1)=>match mX b with
   | some (k,g)=>(.loop n k g (xd b'),n1)
   | none=>(.loop n none false b',n1)
 | .exit i,n=>(.exit i,n)
 | .ret,n=>(.ret,n)
def So (jM:Nat) (f:Option lk):vC:=
 match f with
 | some g=>⟨g.DU,g.results,(sf jM g.body 0).1,g.forget⟩
 | none=>⟨0,[],.skip,false⟩
def jE.at_:jE->List Nat->jE
 | c,[]=>c
 | .seq a b,i::p=>match i with | 0=>a.at_ p | _=>b.at_ p
 | .join _ _ _ a b,i::p=>match i with | 0=>a.at_ p | _=>b.at_ p
 | .cond _ a b,i::p=>match i with | 0=>a.at_ p | _=>b.at_ p
 | .block _ b,_::p=>b.at_ p
 | .loop _ _ _ b,_::p=>b.at_ p
 | c,_::_=>c
end
section
open Go
def DR (a:Nat):List Nat->Bool
 | []=>false
 | b::t=>match Nat.beq a b with | true=>true | false=>DR a t
def xi:List Nat->List Nat->List Nat
 | a,[]=>a
 | a,x::t=>match DR x a with | true=>xi a t | false=>xi (a++[x]) t
def PW (d:Nat):List Nat->List Nat
 | []=>[]
 | b::t=>match Nat.beq d b with | true=>PW d t | false=>b::PW d t
def Ij:List Operand->List Nat
 | []=>[]
 | .tmp t::l=>t::Ij l
 | _::l=>Ij l
def ahh (ops:List Oper) (j:Nat):List Nat:=match ops[j]? with
 | some o=>match o.dst with | some d=>[d] | none=>[]
 | none=>[]
def OU (all:List Oper):List Oper->List Nat->List Nat
 | [],l=>l
 | o::t,l=>
  let l:=OU all t l
  let l:=match o.dst with | some d=>PW d l | none=>l
  let l:=xi l (Ij o.op.operands.toList)
  match o.guard with
  | some (j,_)=>xi l (ahh all j)
  | none=>l
abbrev Rg:=List (Nat×List Nat)
def SW (i:Nat):Rg->Option (List Nat)
 | []=>none
 | (k,l)::t=>match Nat.beq i k with | true=>some l | false=>SW i t
def ad2:List Nat->List Nat->Bool
 | [],[]=>true
 | _::a,_::b=>ad2 a b
 | _,_=>false
def Sl (f:List Nat->List Nat):Nat->List Nat->List Nat
 | 0,x=>x
 | n+1,x=>
  let y:=xi x (f x)
  match ad2 x y with
  | true=>x
  | false=>Sl f n y
def yD (res:List Nat):Code->Rg->List Nat->List Nat
 | .region _ ops _,_,out=>OU ops.toList ops.toList out
 | .seq a b,ex,out=>yD res a ex (yD res b ex out)
 | .cond c a b,ex,out=>xi (xi (yD res a ex out) (yD res b ex out)) (Ij [c])
 | .block id b,ex,out=>yD res b ((id,out)::ex) out
 | .loop b,ex,_=>Sl (λx=>yD res b ex x) 20 []
 | .exit id,ex,_=>(SW id ex).getD []
 | .ret,_,_=>res
 | .scope b,ex,out=>yD res b ex out
 | _,_,out=>out
def yT (res:List Nat):Code->Rg->List Nat->Rg->List Nat×Rg
 | .region id ops _,_,out,m=>let l:=OU ops.toList ops.toList out;(l,(id,l)::m)
 | .seq a b,ex,out,m=>match yT res b ex out m with
  | (l,m)=>yT res a ex l m
 | .cond c a b,ex,out,m=>match yT res a ex out m with
  | (x,m)=>match yT res b ex out m with
   | (y,m)=>(xi (xi x y) (Ij [c]),m)
 | .block id b,ex,out,m=>yT res b ((id,out)::ex) out m
 | .loop b,ex,_,m=>match Sl (λx=>yD res b ex x) 20 [] with
  | x=>(x,(yT res b ex x m).2)
 | .exit id,ex,_,m=>((SW id ex).getD [],m)
 | .ret,_,_,m=>(res,m)
 | .scope b,ex,out,m=>yT res b ex out m
 | _,_,out,m=>(out,m)
def Fx:Code->List Nat
 | .region id _ _=>[id]
 | .seq a b=>match Fx a with
  | []=>Fx b
  | x=>x
 | .block _ b=>Fx b
 | .loop b=>Fx b
 | _=>[]
def Am:Code->List Nat
 | .seq a b=>Am a++Am b
 | .cond _ a b=>Am a++Am b
 | .block _ b=>Am b
 | .loop b=>Fx b++Am b
 | _=>[]
def Nh:List ResultVar->List Nat
 | []=>[]
 | .tmp t::l=>t::Nh l
 | .cell t _::l=>t::Nh l
def Px:List ResultVar->List Nat
 | []=>[]
 | .tmp _::l=>Px l
 | .cell t _::l=>t::Px l
def Rn (ld:List (Nat×List Nat)) (f:Func) (NP:Nat):Hint:=match f.body with
 | none=>⟨f.ntmps,NP,[],ld,[]⟩
 | some c=>⟨f.ntmps,NP,Px f.results.toList,ld,(yT (Nh f.results.toList) c [] (Nh f.results.toList) []).2.map λx=>(x.1,(some x.2,DR x.1 (Am c)))⟩
end
section
open Go
def vV {R:Type} (an:iQ) (Cl:bX) (n:Nat) (j:Nat):jE->List Nat->kK R->Option (St->Option R)
 | .seq a b,ms,K=>A2 (vV an Cl n j b ms K) (vV an Cl n j a ms (H9 (lq an Cl n b) K))
 | .cond _ a b,ms,K=>A2 (vV an Cl n j a ms K) (vV an Cl n j b ms K)
 | .block id b,ms,K=>vV an Cl n j b ms (OY id K)
 | .join i kp g a b,ms,K=>match Nat.beq i j with
  | true=>some λS=>Sn i (lq an Cl n b) (ms.headD 0) S K
  | false=>A2 (vV an Cl n j b ms K) (vV an Cl n j a ms (H9 (Sm i kp g n (lq an Cl n b)) K))
 | .loop i kp g b,ms,K=>match Nat.beq i j with
  | true=>some λS=>GJ i (lq an Cl n b) kp g (ms.headD 0) S K
  | false=>vV an Cl n j b ms.tail (Tg kp g (λS=>GJ i (lq an Cl n b) kp g (ms.headD 0) S K) K)
 | _,_,_=>none
def hdF (an:iQ) (k:vC) (Cl:bX) (n:Nat) (bx:List (List C)) (j:Nat) (ms:List Nat) (S:St):Option (V×List (List C)):=
 match vV an Cl n j k.body ms (Uk k.results k.forget bx) with
 | some f=>f S
 | none=>none
def Jw (P:Program):Nat->TypeId->Option (List DS)
 | 0,_=>none
 | n+1,t=>match P.underlying t with
  | some (.int k)=>some [.int k]
  | some .bool=>some [.bool]
  | some .string=>some [.str]
  | some (.slice e)=>some [.im ((jT P e).getD 0)]
  | some (.struct fs)=>fs.toList.foldr (λf acc=>match Jw P n f.type,acc with | some a,some b=>some (a++b) | _,_=>none) (some [])
  | some (.array k e)=>(Jw P n e).map λl=>(List.replicate k l).flatten
  | _=>none
def ab4:Option (List DS)->Option (List DS)
 | some (x::t)=>some (x::t)
 | _=>none
def El (P:Program) (d:Nat):List Oper->Option (List DS)
 | []=>none
 | o::t=>match o.dst,o.op with
  | some e,.load ty _=>match Nat.beq e d with | true=>A2 (ab4 (Jw P 12 ty)) (El P d t) | false=>El P d t
  | _,.store ty (.tmp i) _=>match Nat.beq i d with | true=>A2 (ab4 (Jw P 12 ty)) (El P d t) | false=>El P d t
  | _,_=>El P d t
def yW (P:Program) (d:Nat):Code->Option (List DS)
 | .region _ ops _=>El P d ops.toList
 | .seq a b=>A2 (yW P d a) (yW P d b)
 | .cond _ a b=>A2 (yW P d a) (yW P d b)
 | .block _ b=>yW P d b
 | .loop b=>yW P d b
 | .scope b=>yW P d b
 | _=>none
def SZ (f:Nat->DS):List DS->List DS
 | []=>[]
 | .im k::t=>f k::SZ f t
 | x::t=>x::SZ f t
structure ja where
 P:Program
 jM:Nat
 fns:List (Nat×Nat×Bool)
 aq6:List (Nat×Nat)
 aq5:List (Nat×List (Nat×Nat))
 res:Nat->Option RS
 imf:List Nat
 imB:Nat->Nat->Bool
 no:List Nat
 ld:List (Nat×List Nat)
 mv:List Nat
def abT (a b:Nat):List (Nat×Nat)->Bool
 | []=>false
 | x::t=>match Nat.beq a x.1,Nat.beq b x.2 with | true,true=>true | _,_=>abT a b t
def aki (s:ja) (n d:Nat) (k:Nat):DS:=match abT n k s.aq6 with
 | true=>.own k
 | false=>match (tp s.aq5 n).bind λl=>tp l d with
  | some 0=>.own k
  | some 1=>.sl k
  | some 2=>.tg k
  | some 3=>.any
  | _=>.im k
def ja.fn (s:ja) (n:Nat):Func:=(s.P.funcs[n]?).getD default
def ja.an (s:ja) (n:Nat):iQ:=
 ⟨λd => match (s.fn n).body with | some c => (yW s.P d c).map (SZ (aki s n d)) | none => none, s.res,
  match DR n s.imf with | true => λ_ _ => true | false => s.imB, λk => DR k s.no⟩
def ja.SQ (s:ja) (n:Nat):List (Nat×List Nat):=match DR n s.mv with
 | true=>(1000000,[])::s.ld
 | false=>s.ld
def ja.comp (s:ja) (n:Nat):Option lk:=match tp s.fns n with
 | some (t,fg)=>Fi s.P some (Rn (s.SQ n) (s.fn n) t) (s.fn n) fg
 | none=>none
def ja.k (s:ja) (n:Nat):vC:=So s.jM (s.comp n)
def ja.pY (s:ja) (n:Nat):Option lk:=match tp s.fns n with
 | some _=>some (s.k n).fn
 | none=>none
def ja.hd (s:ja) (f j:Nat) (Cl:bX) (n:Nat) (bx:List (List C)) (ms:List Nat) (S:St):Option (V×List (List C)):=hdF (s.an f) (s.k f) Cl n bx j ms S
def ja.oq (s:ja):Bool:=s.P.follows .mixedOrders&&s.fns.all λx=>match s.P.funcs[x.1]? with
 | some g=>!(g.name == "runtime.NumGoroutine")&&(s.comp x.1).isSome
 | none=>false
def E5:∀(c:jE) (k:Option (List Nat)) (g:Bool),lp k g (eP (xd c))=lp k g (eP c)
 | .iY ..,_,_=>rfl
 | .seq a b,k,g=>by simp only[xd,eP,lp,E5 a k g]
 | .join _ _ _ a b,k,g=>by simp only[xd,eP,lp,E5 a k g]
 | .block _ b,k,g=>by simp only[xd,eP,lp,E5 b k g]
 | .skip,_,_=>rfl
 | .cond ..,_,_=>rfl
 | .loop ..,_,_=>rfl
 | .exit _,_,_=>rfl
 | .ret,_,_=>rfl
def IY:∀(c:ma) {k:Option (List Nat)} {g:Bool},mX c=some (k,g)->lp k g c=c
 | .iY ..,k,g,h=>by simp only[mX,au,iB] at h;obtain⟨rfl,rfl⟩:=h;rfl
 | .seq a b,k,g,h=>by simp only[mX] at h;simp only[lp,IY a h]
 | .block _ b,k,g,h=>by simp only[mX] at h;simp only[lp,IY b h]
 | .skip,_,_,h=>by simp[mX] at h
 | .cond ..,_,_,h=>by simp[mX] at h
 | .loop ..,_,_,h=>by simp[mX] at h
 | .exit _,_,_,h=>by simp[mX] at h
 | .ret,_,_,h=>by simp[mX] at h
def OF:∀(c:ma) {k:Option (List Nat)} {g:Bool},mX c=none->lp k g c=c
 | .iY ..,k,g,h=>by simp[mX] at h
 | .seq a b,k,g,h=>by simp only[mX] at h;simp only[lp,OF a h]
 | .block _ b,k,g,h=>by simp only[mX] at h;simp only[lp,OF b h]
 | .skip,_,_,h=>rfl
 | .cond ..,_,_,h=>rfl
 | .loop ..,_,_,h=>rfl
 | .exit _,_,_,h=>rfl
 | .ret,_,_,h=>rfl
def uX (jM:Nat):∀(c:ma) (n:Nat),eP (sf jM c n).1=c
 | .skip,n=>rfl
 | .iY ..,n=>rfl
 | .exit _,n=>rfl
 | .ret,n=>rfl
 | .block i b,n=>by simp only[sf,eP,uX jM b n]
 | .cond c a b,n=>by simp only[sf,eP,uX jM a,uX jM b]
 | .loop b,n=>by
  simp only[sf];split
  ·rename_i k g h;simp only[eP,E5,uX jM b,IY b h]
  ·rename_i h;simp only[eP,uX jM b,OF b h]
 | .seq a b,n=>by
  simp only[sf];split
  ·rename_i k g h _;simp only[eP,E5,uX jM b,uX jM a,IY b h]
  ·simp only[eP,uX jM b,uX jM a]
def alV {jM:Nat} {g:lk}:(So jM (some g)).fn=g:=by
 simp only[So,vC.fn,uX]
def aby {α:Type}:∀{l:List (Nat×α)} {n:Nat} {x:α},tp l n=some x->(n,x)∈l
 | [],n,x,h=>by simp[tp] at h
 | y::t,n,x,h=>by
  simp only[tp] at h;split at h
  ·rename_i e;cases h;have:=sk e;subst this;exact jD
  ·exact jC _ (aby h)
def ja.ok (s:ja) (h:s.oq=true):OD s.P some s.pY:=by
 simp only[ja.oq,cI] at h;refine⟨h.1,?_⟩;intro f fn cj hf hn;simp only[au] at hn;subst hn;simp only[ja.pY] at hf;split at hf
 ·rename_i x hx;have h1:=gY.1 h.2 _ (aby hx);simp only[au] at hf;split at h1
  ·rename_i g hg;simp only[cI,zp] at h1;obtain⟨c,hc⟩:=zk.1 h1.2;subst hf;have e:s.fn cj=g:=by simp only[ja.fn];rw[show s.P.funcs[cj]? = some g from hg];rfl
   refine⟨g,Rn (s.SQ cj) g x.1,x.2,hg,h1.1,?_⟩;have ml:Fi s.P some (Rn (s.SQ cj) g x.1) g x.2=some c:=by rw[<-hc];simp only[ja.comp,hx,e]
   rw[ml];simp only[ja.k];rw[hc,alV]
  ·cases h1
 ·cases hf
end
end Go.ax
namespace Go.Proofs.YtfmpdgeiodnnfaaGreatDoor
section
open Go Go.ax
def nm:FuncId->Option Nat:=some
def gx:RS:=(.val (.one (.bool)) [])
def rT1:RS:=(.val (.agg [.im 3,.im 2,.own 4]) [])
def ki:RS:=(.val (.one (.str)) [])
def wW:RS:=(.val (.agg [.int .i64,.int .i64,.int .i64]) [])
def qD:RS:=(.ao [] [])
def tG:RS:=(.val (.one (.int .i64)) [])
def qE:RS:=(.val (.one (.im 1)) [])
def M8:RS:=(.val (.agg [.str,.im 1,.im 3]) [])
def adf:RS:=(.val (.agg [.int .i64,.str,.str,.str,.str,.int .i64,.im 1,.im 3,.im 3,.int .i64]) [])
def Ec:RS:=(.val (.one (.int .i64)) [[.ptr 1 0,.im 3,.str,.tg 3,.own 6,.tg 10,.str,.im 2,.int .i64,.int .i64,.int .i64],[.tg 1,.int .i64]])
def adg:RS:=(.val (.one (.int .i64)) [[.ptr 1 0,.im 3,.str,.tg 3,.tg 6,.own 10,.str,.im 2,.int .i64,.int .i64,.int .i64],[.tg 1,.int .i64]])
def adh:RS:=(.val (.agg [.int .i64,.str]) [])
def adi:RS:=(.ao [(.one (.str)),(.one (.str)),(.one (.bool))] [])
noncomputable def ST : ja := ⟨Tryz.prog, 8,
 [(6, 20, true), (9, 3, true), (10, 10, false), (11, 10, true), (12, 8, true), (14, 11, false), (15, 6, true), (17, 3, true), (19, 6, true), (21, 6, true), (24, 4, true), (25, 7, true), (26, 6, true), (28, 3, true), (31, 5, true), (32, 9, true), (33, 15, false), (34, 12, false), (35, 6, true), (36, 7, true), (37, 3, true), (38, 3, true), (39, 5, true), (40, 1, true), (41, 7, true), (42, 10, true), (43, 17, true), (44, 2, true), (45, 6, true), (46, 7, true), (47, 15, true), (48, 1, true), (49, 1, true), (50, 7, true), (53, 5, true), (54, 3, true), (55, 7, true), (56, 11, true), (57, 3, true), (58, 6, true), (62, 4, true), (64, 4, true), (67, 9, true), (68, 3, true), (69, 3, true), (70, 4, true), (71, 5, true), (72, 7, true), (73, 5, true), (74, 11, true), (80, 11, true), (81, 5, true), (82, 13, true), (83, 5, true), (84, 12, true), (85, 9, true), (86, 3, true), (87, 5, true), (88, 5, true), (89, 0, true), (90, 0, true), (92, 6, true), (93, 11, true), (94, 3, true), (95, 4, true), (96, 6, true), (97, 6, true), (98, 6, true), (99, 7, true), (100, 18, true), (101, 6, true), (102, 3, true), (103, 3, true), (104, 3, true), (108, 8, true), (109, 4, true), (110, 5, true), (111, 7, true), (113, 3, true), (114, 5, true), (115, 3, true), (116, 3, true), (117, 3, true), (118, 3, true), (119, 3, true), (120, 3, true), (127, 6, true), (128, 5, true), (132, 3, true), (137, 7, true), (138, 14, true), (139, 10, true), (140, 22, true), (141, 7, true), (142, 6, true), (143, 13, true), (144, 9, true), (145, 15, true), (146, 3, true), (147, 5, true), (149, 11, true), (150, 8, true), (151, 8, true), (152, 6, true), (153, 3, true), (154, 6, true), (155, 2, true), (156, 7, true), (157, 8, true), (158, 12, true), (160, 3, true), (161, 6, true), (165, 6, true), (167, 10, true), (184, 3, true), (188, 18, true), (189, 15, true), (190, 9, true), (191, 7, true), (192, 6, true), (193, 13, true), (194, 11, true), (195, 14, true), (196, 3, true), (197, 11, true), (198, 8, true), (199, 6, true), (200, 10, true), (201, 5, true), (202, 3, true), (203, 2, true), (204, 3, true), (205, 6, true), (206, 3, true), (207, 7, true), (209, 3, true), (210, 4, true), (218, 7, true), (223, 5, true), (224, 6, true), (226, 14, true), (227, 5, true), (228, 19, true), (229, 3, true), (230, 8, true), (231, 3, true), (232, 3, true), (236, 7, true), (237, 8, true), (247, 14, true)],
 [(188, 4)],
 [(14, [(29, 0), (39, 0), (118, 1), (125, 0), (128, 3), (134, 1), (140, 0), (147, 3), (49, 3)]), (47, [(34, 1), (39, 3), (55, 1), (79, 1), (81, 3), (92, 0), (99, 3)]), (84, [(169, 0), (175, 3)]), (142, [(74, 0), (80, 3)]), (143, [(100, 1), (105, 3), (144, 1), (149, 3)])],
 tp [(9, gx), (24, gx), (25, gx), (26, gx), (53, gx), (54, gx), (55, gx), (62, gx), (64, gx), (67, gx), (69, gx), (70, gx), (71, gx), (72, gx), (94, gx), (95, gx), (96, gx), (108, gx), (109, gx), (110, gx), (115, gx), (116, gx), (117, gx), (118, gx), (119, gx), (120, gx), (132, gx), (154, gx), (157, gx), (158, gx), (165, gx), (191, gx), (192, gx), (223, gx), (10, rT1), (14, rT1), (11, ki), (15, ki), (17, ki), (19, ki), (21, ki), (56, ki), (57, ki), (58, ki), (83, ki), (85, ki), (102, ki), (103, ki), (104, ki), (113, ki), (114, ki), (146, ki), (149, ki), (150, ki), (151, ki), (159, ki), (160, ki), (161, ki), (206, ki), (12, wW), (39, wW), (40, wW), (41, wW), (42, wW), (43, wW), (44, wW), (46, wW), (47, wW), (28, (.val (.one (.ptr 0 0)) [[.tg 1, .int .i64]])), (31, (.val (.one (.im 3)) [])), (32, (.ao [(.one (.im 2)), (.one (.int .i64)), (.one (.int .i64))] [])), (33, (.val (.agg [.str, .own 3, .sl 6, .own 10]) [[.tg 1, .int .i64]])), (34, (.val (.agg [.str, .im 3, .sl 6, .own 10]) [[.tg 1, .int .i64]])), (35, (.ao [(.one (.int .i64)), .fk] [])), (36, qD), (50, qD), (84, qD), (91, qD), (92, qD), (93, qD), (112, qD), (142, qD), (143, qD), (155, qD), (197, qD), (203, qD), (204, qD), (37, (.val (.one .str) [[.bz 82, .dead]])), (38, (.val (.one (.lr 39 [(0, 0), (1, 0)])) [[.im 3, .im 2, .im 4], [.lr 1000000000000 []]])), (45, tG), (68, tG), (73, tG), (100, tG), (127, tG), (141, tG), (145, tG), (152, tG), (224, tG), (247, tG), (256, tG), (48, qE), (49, qE), (81, qE), (97, qE), (98, qE), (99, qE), (101, qE), (156, qE), (189, qE), (190, qE), (205, qE), (218, qE), (236, qE), (74, (.val (.one (.im 4)) [])), (80, M8), (137, M8), (138, M8), (188, M8), (82, (.ao [(.agg [.str, .im 3]), (.one (.int .i64))] [])), (86, adf), (153, adf), (87, Ec), (88, Ec), (144, Ec), (147, Ec), (196, Ec), (199, Ec), (89, adg), (90, adg), (111, (.val (.agg [.str, .im 3]) [])), (128, adh), (184, adh), (139, (.ao [(.one (.int .i64)), (.one (.int .i64))] [])), (140, (.ao [(.agg [.int .i64, .str, .im 4]), (.one (.int .i64))] [])), (193, (.ao [(.one (.int .i64)), (.one (.str)), (.one (.int .i64))] [])), (194, (.ao [(.one (.im 1)), (.one (.bool))] [])), (195, (.ao [(.agg [.int .i64, .str]), (.one (.im 1)), (.one (.bool))] [])), (198, (.ao [(.agg [.str, .im 1, .im 3]), (.one (.str))] [])), (207, adi), (230, adi)],
 [11, 12, 19, 21, 36, 41, 42, 43, 47, 53, 55, 93, 96, 97, 98, 100, 101, 150, 151, 153, 154, 158], λn c => (Nat.beq n 11 && Nat.beq c 1) || (Nat.beq n 11 && Nat.beq c 7), [], [(89, [1]), (90, [1])], [89, 90]⟩
noncomputable def pY:Nat->Option lk:=ST.pY
def ar5:OD Tryz.prog nm pY:=ST.ok (by kernel_rfl)
end
end Go.Proofs.YtfmpdgeiodnnfaaGreatDoor
namespace Go.Proofs
section
open Go.Shelf
def Tryz.apj:Go.Shelf.Ren:=⟨λ| 173=>159 | 246=>167 | 283=>209 | 284=>210 | 285=>211 | 286=>212 | 129=>232 | 317=>231 | 318=>233 | 319=>234 | 320=>235 | 337=>248 | 338=>249 | n=>n,λ| 2=>2 | 3=>3 | 9=>9 | 4=>4 | 171=>231 | 0=>0 | 53=>200 | 37=>80 | 5=>5 | 173=>234 | 212=>250 | 51=>243 | 20=>20 | 213=>251 | 46=>96 | 232=>269 | 233=>270 | n=>n,λ| 17=>1 | 18=>2 | 19=>3 | n=>n⟩
def Tryz.aph : Go.Proofs.LaysM.n173 Tryz.prog Tryz.apj := {
  mixed := by kernel_rfl
  f129 := Tryz.func232.trans (fW some (by kernel_rfl))
  f173 := Tryz.func159.trans (fW some (by kernel_rfl))
  f246 := Tryz.func167.trans (fW some (by kernel_rfl))
  f283 := Tryz.func209.trans (fW some (by kernel_rfl))
  f284 := Tryz.func210.trans (fW some (by kernel_rfl))
  f285 := Tryz.func211.trans (fW some (by kernel_rfl))
  f286 := Tryz.func212.trans (fW some (by kernel_rfl))
  f317 := Tryz.func231.trans (fW some (by kernel_rfl))
  f318 := Tryz.func233.trans (fW some (by kernel_rfl))
  f319 := Tryz.func234.trans (fW some (by kernel_rfl))
  f320 := Tryz.func235.trans (fW some (by kernel_rfl))
  f337 := Tryz.func248.trans (fW some (by kernel_rfl))
  f338 := Tryz.func249.trans (fW some (by kernel_rfl))
  t0 := Tryz.underlying0
  a0 := Tryz.isAgg0
  z0 := Tryz.sizeOf0
  v0 := Tryz.zeroValue0
  t2 := Tryz.underlying2
  a2 := Tryz.isAgg2
  z2 := Tryz.sizeOf2
  v2 := Tryz.zeroValue2
  t3 := Tryz.underlying3
  a3 := Tryz.isAgg3
  z3 := Tryz.sizeOf3
  v3 := Tryz.zeroValue3
  t4 := Tryz.underlying4
  a4 := Tryz.isAgg4
  z4 := Tryz.sizeOf4
  v4 := Tryz.zeroValue4
  t5 := Tryz.underlying5
  a5 := Tryz.isAgg5
  z5 := Tryz.sizeOf5
  v5 := Tryz.zeroValue5
  t9 := Tryz.underlying9
  a9 := Tryz.isAgg9
  z9 := Tryz.sizeOf9
  v9 := Tryz.zeroValue9
  t20 := Tryz.underlying20
  a20 := Tryz.isAgg20
  z20 := Tryz.sizeOf20
  v20 := Tryz.zeroValue20
  t37 := Tryz.underlying80
  a37 := Tryz.isAgg80
  z37 := Tryz.sizeOf80
  v37 := Tryz.zeroValue80
  t46 := Tryz.underlying96
  a46 := Tryz.isAgg96
  z46 := Tryz.sizeOf96
  v46 := Tryz.zeroValue96
  t51 := Tryz.underlying243
  a51 := Tryz.isAgg243
  z51 := Tryz.sizeOf243
  v51 := Tryz.zeroValue243
  t53 := Tryz.underlying200
  a53 := Tryz.isAgg200
  z53 := Tryz.sizeOf200
  v53 := Tryz.zeroValue200
  t171 := Tryz.underlying231
  a171 := Tryz.isAgg231
  z171 := Tryz.sizeOf231
  v171 := Tryz.zeroValue231
  t173 := Tryz.underlying234
  a173 := Tryz.isAgg234
  z173 := Tryz.sizeOf234
  v173 := Tryz.zeroValue234
  t212 := Tryz.underlying250
  a212 := Tryz.isAgg250
  z212 := Tryz.sizeOf250
  v212 := Tryz.zeroValue250
  t213 := Tryz.underlying251
  a213 := Tryz.isAgg251
  z213 := Tryz.sizeOf251
  t232 := Tryz.underlying269
  a232 := Tryz.isAgg269
  z232 := Tryz.sizeOf269
  v232 := Tryz.zeroValue269
  t233 := Tryz.underlying270
  a233 := Tryz.isAgg270
  z233 := Tryz.sizeOf270
  v233 := Tryz.zeroValue270
  g17 := by kernel_rfl
  g18 := by kernel_rfl
  g19 := by kernel_rfl
  i0 := by kernel_rfl
  i2 := by kernel_rfl
  i3 := by kernel_rfl
  i4 := by kernel_rfl
  i5 := by kernel_rfl
  i9 := by kernel_rfl
  i20 := by kernel_rfl
  i37 := by kernel_rfl
  i46 := by kernel_rfl
  i51 := by kernel_rfl
  i53 := by kernel_rfl
  i171 := by kernel_rfl
  i173 := by kernel_rfl
  i212 := by kernel_rfl
  i232 := by kernel_rfl
  i233 := by kernel_rfl
  m17 := by kernel_rfl
  m18 := by kernel_rfl
  m19 := by kernel_rfl }
def Tryz.apg:Go.Shelf.Ren:=⟨λ| 217=>256 | 266=>261 | n=>n,λ| 9=>9 | 5=>5 | 3=>3 | n=>n,λ| n=>n⟩
def Tryz.apf : Go.Proofs.Lays.n217 Tryz.prog Tryz.apg := {
  mixed := by kernel_rfl
  f217 := Tryz.func256.trans (fW some (by kernel_rfl))
  f266 := Tryz.func261.trans (fW some (by kernel_rfl))
  t3 := Tryz.underlying3
  a3 := Tryz.isAgg3
  z3 := Tryz.sizeOf3
  v3 := Tryz.zeroValue3
  t5 := Tryz.underlying5
  a5 := Tryz.isAgg5
  z5 := Tryz.sizeOf5
  v5 := Tryz.zeroValue5
  t9 := Tryz.underlying9
  a9 := Tryz.isAgg9
  z9 := Tryz.sizeOf9
  v9 := Tryz.zeroValue9 }
end
end Go.Proofs
namespace Go.ax
section
section
variable {nm:FuncId->Option Nat} {N:Nat} {S:St} {a:Act} {w:World} {L:aw}
def Rel.W7 (h:Rel nm N S a w L) {r:aJ} {t:TypeId} {B:Nat} (hr:r.iT=false) (hE:S.E (.b r 0) = .one (.bz t)) (hB:L B=some (.box r 0)) :
  Rel nm N S a (w.setCell ⟨B,0,none⟩ (.pointer (some ⟨B,0,none⟩))) L/\dc w (w.setCell ⟨B,0,none⟩ (.pointer (some ⟨B,0,none⟩))) L L:=by
 have aD:∀{B2 l},L B2=some l->(∀r o,l≠.box r o)->(w.setCell ⟨B,0,none⟩ (.pointer (some ⟨B,0,none⟩))).heap[B2]? = w.heap[B2]?:=by
  intro B2 l hl s6;refine pH _ _ _ _ ?_;rintro rfl;rw[hB] at hl;simp only[au] at hl;exact s6 _ _ hl.symm
 have bF:Step w (w.setCell ⟨B,0,none⟩ (.pointer (some ⟨B,0,none⟩))) L L S.γ S.γ:=
  ⟨λB hB => ⟨hB, aD hB (by simp)⟩, λ_ => cp _, λB q o hq _ hL => ⟨hL, λcur e fz hB => ⟨cur, (aD hL (by simp)).trans hB, rfl⟩⟩,
    λB q o _ _ _ hB => aD hB (by simp), λB r o _ hB => hB⟩
 have aly:∀i,bJ nm (w.setCell ⟨B,0,none⟩ (.pointer (some ⟨B,0,none⟩))) L S.γ (.s i) (S.E (.s i)) (a.tmps.getD i undef):=λi=>
  (h.slot i).step bF (λB q o hq hB=>by rw[<-hq,Place.mf];exact⟨hB,aD hB (by simp)⟩)
 obtain⟨B0,o0,ag',e0,Zo,v0,g1,g2,g3,g4,g5,g6⟩:∃B o cur e fz v,L B=some (.box r o)/\w.heap[B]? = some (.cells cur e fz)/\jA cur.size fz/\cur[o+0]? = some v/\aC nm w L S.γ (.b r 0) 0 (.bz t) v/\lK (.bz t) B o 0 e cur.size v:=by
  have:=h.cell r 0 _ hE (by simp);cases r with
  | g i=>cases hr
  | e i=>exact this
  | l i=>exact this
 obtain rfl:=h.fy B0 B r o0 0 g1 hB;obtain⟨rfl,_,rfl,hn,hv⟩:=g6;refine⟨⟨h.size,h.defers,aly,?_,h.kx,h.bound,?_,?_,h.ey,h.fy⟩,⟨rfl,rfl,rfl,by simp,λB hB=>⟨hB,aD hB (by simp)⟩,?_,λ_ _ _ hB=>hB⟩⟩
 ·intro r2 c x hx gp;by_cases he:r2=r/\c=0
  ·obtain⟨rfl,rfl⟩:=he;rw[hE] at hx;simp only[V.one.injEq] at hx;subst hx;have hex:∃B o cur e fz v,L B=some (.box r2 o)/\(w.setCell ⟨B0,0,none⟩ (.pointer (some ⟨B0,0,none⟩))).heap[B]? = some (.cells cur e fz)/\jA cur.size fz/\cur[o+0]? = some v/\
     aC nm (w.setCell ⟨B0,0,none⟩ (.pointer (some ⟨B0,0,none⟩))) L S.γ (.b r2 0) 0 (.bz e0) v/\lK (.bz e0) B o 0 e cur.size v:=by
    refine⟨B0,0,_,e0,Zo,.pointer (some ⟨B0,0,none⟩),hB,xZ w B0 0 _ g2,by simpa using g3,?_,.bz ⟨_,_,rfl⟩ rfl,rfl,rfl,rfl,by simpa using hn,.inr rfl⟩;simp only[zj,dj];rw[aP (by omega)]
   cases r2 with
   | g i=>cases hr
   | e i=>exact hex
   | l i=>exact hex
  ·refine(h.cell r2 c x hx gp).step bF (λB q o _ hB=>⟨hB,aD hB (by simp)⟩) ?_;intro B2 o2 qZ;refine⟨qZ,λcur e fz hc=>?_⟩;by_cases hb:B2=B0
   ·subst hb;rw[hB] at qZ;simp only[au,db.box.injEq] at qZ;obtain⟨rfl,rfl⟩:=qZ;refine⟨cur.setIfInBounds 0 _,xZ w B2 0 _ hc,by simp,?_⟩;rw[By];intro e;exact he ⟨rfl,by omega⟩
   ·exact⟨cur,(pH _ _ _ _ hb).trans hc,rfl,rfl⟩
 ·intro r2 lP kQ;obtain⟨B2,o2,cur,e,fz,k1,k2,k3,k4⟩:=h.room r2 lP kQ;by_cases hb:B2=B0
  ·subst hb;exact⟨B2,o2,_,e,fz,k1,xZ w B2 0 _ k2,by simpa using k3,by simpa using k4⟩
  ·exact⟨B2,o2,cur,e,fz,k1,(pH _ _ _ _ hb).trans k2,k3,k4⟩
 ·intro B2 l hl;have:=h.fx B2 l hl;simpa using this
 ·intro B2 _ pI;refine⟨pI,pH _ _ _ _ ?_⟩;rintro rfl;rw[hB] at pI;cases pI
def Rel.PZ {vs:List V} {bs:List (List C)} (h:Rel nm N (gk 0 vs++dm 0 bs) a w L):Rel nm 0 (dm 0 bs) ⟨#[],[]⟩ w L:=by
 have hγ:(gk 0 vs++dm 0 bs:St).γ=(dm 0 bs:St).γ:=by rw[Cn,I7]
 have hE:∀k,(∀i,k≠.s i)->(gk 0 vs++dm 0 bs:St).E k=(dm 0 bs:St).E k:=by
  intro k hk;unfold St.E;rw[pk];cases k with
  | s i=>exact absurd rfl (hk i)
  | _=>rfl
 refine⟨rfl,rfl,?_,?_,?_,?_,?_,h.fx,h.ey,h.fy⟩
 ·intro i;rw[px];exact .one .dead
 ·intro r c x hx hd;rw[<-hE _ (by intro i e;cases e)] at hx;rw[<-hγ];exact h.cell r c x hx hd
 ·intro r c;rw[<-hE _ (by intro i e;cases e)];exact h.kx r c
 ·intro r c hc;rw[<-hE _ (by intro i e;cases e)] at hc ⊢;exact h.bound r c hc
 ·intro r hg hr;rw[<-hE _ (by intro i e;cases e)] at hr ⊢;exact h.room r hg hr
def jY.eq {P:Program} {cj:FuncId} {args:Array Value} {w:World} {R:Value->World->Prop} {v0:Value} {w0:World} (h:jY P cj args w λv w'=>v=v0/\w'=w0) (hr:R v0 w0):jY P cj args w R:=
 h.mono (λv w' ⟨h1,h2⟩=>by rw[h1,h2];exact hr)
def ag7 {P:Program} {cj:FuncId} {t:TypeId} {x:C}
  (ak8 : ∀ (b : Nat) (w : World), w.cell? ⟨b, 0, none⟩ = some (.pointer none) -> w.shape? b = some (t, 2) -> w.frozen? ⟨b, 0, none⟩ = false ->
    jY P cj #[.pointer (some ⟨b, 0, none⟩)] w λv w' => v = .tuple #[] /\ w' = w.setCell ⟨b, 0, none⟩ (.pointer (some ⟨b, 0, none⟩)))
  (alF:∀(b:Nat) (w:World),w.cell? ⟨b,0,none⟩=some (.pointer (some ⟨b,0,none⟩))->jY P cj #[.pointer (some ⟨b,0,none⟩)] w λv w'=>v = .tuple #[]/\w'=w)
  {args:Array Value} (R:Rel nm 1 (gk 0 [.one (.ptr (.e 0) 0 0)]++dm 0 [[.bz t,x]]) ⟨args,[]⟩ w L) :
  jY P cj args w λv w'=>∃L',dc w w' L L'/\Rel nm 0 (dm 0 [[.bz t,x]]) ⟨#[],[]⟩ w' L'/\bJ nm w' L' (λ_=>0) (.h 0) (.ao []) v:=by
 have hγ:=Cn [V.one (.ptr (.e 0) 0 0)] [[.bz t,x]];have FH:(gk 0 [V.one (.ptr (.e 0) 0 0)]++dm 0 [[.bz t,x]]:St).E (.b (.e 0) 0) = .one (.bz t):=rfl;have h0:=R.slot 0;have oE:(gk 0 [V.one (.ptr (.e 0) 0 0)]++dm 0 [[.bz t,x]]:St).E (.s 0) = .one (.ptr (.e 0) 0 0):=rfl;rw[oE] at h0;have aY:args.size=1:=R.size;generalize hv:(⟨args,[]⟩:Act).tmps.getD 0 undef=v0 at h0;have sV:args = #[v0]:=by
  apply Array.ext
  ·simpa using aY
  ·intro i h1 h2;have:i=0:=by omega
   subst this;rw[<-hv];simp[Array.getD,aY]
 cases h0 with
 | one h0=>
  cases h0 with
  | ptr iI hg hp=>
   obtain⟨B,o,hB,rfl⟩:=hp (by rw[hγ]);have hc:=R.cell (.e 0) 0 _ FH (by simp);obtain⟨B',o',cur,e,fz,v,k1,k2,k3,k4,k5,k6⟩:=hc;obtain rfl:=R.fy B' B (.e 0) o' o k1 hB;obtain⟨rfl,_,rfl,hn,oF⟩:=k6;obtain rfl:o=0:=by rw[k1] at hB;simpa using hB.symm
   simp only[mN] at k4 sV;have gn:w.cell? ⟨B',0,none⟩=some v:=by rw[qW k2];exact k4
   rcases oF with rfl | rfl
   ·obtain⟨R2,M2⟩:=R.W7 rfl FH hB;rw[sV];refine(ak8 B' w gn (by simp[World.shape?,k2,hn]) ?_).eq ⟨L,M2,R2.PZ,.ao rfl rfl (by simp)⟩;have:=k3 0 (by omega);simp only[World.frozen?,k2];simpa using this
   ·rw[sV];exact(alF B' w gn).eq ⟨L,dc.refl w L,R.PZ,.ao rfl rfl (by simp)⟩
def Rel.below {w':World} (h:Rel nm N S a w L) (hb:RowKit.Below w.heap.size w w'):Rel nm N S a w' L/\dc w w' L L:=by
 have af:∀{B l},L B=some l->B < w.heap.size:=by
  intro B l hl;exact h.fx B l hl
 exact⟨h.grown (λB l hl=>hb.block B (af hl)),hb.os,hb.tape,hb.output,hb.size,λB hB=>⟨hB,hb.block B (af hB)⟩,λB hl hn=>⟨hn,hb.block B hl⟩,λ_ _ _ hB=>hB⟩
def akn:D->Value
 | .int k n=>.int k n
 | .bool b=>.bool b
 | .str s=>.string ⟨s.toArray⟩
 | _=>undef
def WY {xs:List D} {bs:List (List C)} {args:Array Value} (hf:xs.all D.flat=true) (R:Rel nm (xs.map λx=>V.one (.d x)).length (gk 0 (xs.map λx=>V.one (.d x))++dm 0 bs) ⟨args,[]⟩ w L) :
  args=(xs.map akn).toArray:=by
 have aY:args.size=xs.length:=by have:=R.size;simpa using this
 apply Array.ext
 ·simpa using aY
 ·intro i h1 h2;have hi:i < xs.length:=by omega
  have h0:=R.slot i;have hE:(gk 0 (xs.map λx=>V.one (.d x))++dm 0 bs:St).E (.s i) = .one (.d xs[i]):=by
   unfold St.E;rw[pk];simp only[EK,nD,cQ,cX,hi,dj,xp];simp[List.getD,hi]
  rw[hE] at h0;have hv:(⟨args,[]⟩:Act).tmps.getD i undef=args[i]:=by simp[Array.getD,h1]
  rw[hv] at h0;have hx:(xs[i]).flat=true:=gY.1 hf _ (bU hi);simp only[List.getElem_toArray,List.getElem_map];generalize xs[i]=x at h0 hx;generalize args[i]=v at h0;cases h0 with
  | one h0=>
   cases h0 with
   | d h0=>
    have:=aC.Zf (nm:=nm) (γ:=λ_=>0) (w:=w) (L:=L) (.d h0) hx;cases this<;>first | rfl | simp[D.flat] at hx
def Ct {P:Program} {cj:FuncId} {args:Array Value} {g:Func} {c:Code} {R:Value->World->Prop} (hf:P.funcs[cj]? = some g) (mo:(g.name == "runtime.NumGoroutine")=false) (hb:g.body=some c)
  (h:Calls P cj args w λe w'=>∃v,e = .returned v/\R v w'):jY P cj args w R:=by
 have Gl:¬ g.name = "runtime.NumGoroutine" := by simpa using mo
 have jr:(callFunc cj args).run P w = .ok (.enter cj args) w:=by simp[callFunc,hf,Gl,hb]
 unfold jY;rw[jr];exact h
def Yd {P:Program} {cj:FuncId} {vs:List V} {bs:List (List C)} {r:V} {Rv:Value->Prop} (hr:∀w L v,Rv v->bJ nm w L (λ_=>0) (.h 0) r v)
  {args:Array Value} (R:Rel nm vs.length (gk 0 vs++dm 0 bs) ⟨args,[]⟩ w L)
  (h:jY P cj args w λv w'=>Rv v/\RowKit.Below w.heap.size w w') :
  jY P cj args w λv w'=>∃L',dc w w' L L'/\Rel nm 0 (dm 0 bs) ⟨#[],[]⟩ w' L'/\bJ nm w' L' (λ_=>0) (.h 0) r v:=
 h.mono (λv w' ⟨h1,h2⟩=>⟨L,(R.below h2).2,(R.below h2).1.PZ,hr w' L v h1⟩)
end
end
section
section
variable {nm:FuncId->Option Nat} {N:Nat} {S:St} {a:Act} {w:World} {L:aw}
def Rel.aqm {S':St} (h:Rel nm N S a w L) (hE:∀k,(∀i,k≠.s i)->S'.E k=S.E k) (hs:∀i,S'.E (.s i)=V.dead)
  (hd:∀r c x,S.E (.b r c) = .one x->x = .dead\/(∃y,x = .d y)\/∃t,x = .bz t):Rel nm 0 S' ⟨#[],[]⟩ w L:=by
 refine⟨rfl,rfl,?_,?_,?_,?_,?_,h.fx,h.ey,h.fy⟩
 ·intro i;rw[hs];exact .one .dead
 ·intro r c x hx gp;rw[hE _ (by intro i e;cases e)] at hx;have h1:=h.cell r c x hx gp;have yl:∀{v},aC nm w L S.γ (.b r c) 0 x v->aC nm w L S'.γ (.b r c) 0 x v:=by
   intro v hv;rcases hd r c x hx with rfl | ⟨y,rfl⟩ | ⟨t,rfl⟩
   ·exact .dead
   ·cases hv with | d h=>exact .d h
   ·cases hv with | bz hk hv=>exact .bz hk hv
  cases r with
  | g i=>obtain⟨v,hv⟩:=h1;exact⟨v,yl hv⟩
  | e i=>obtain⟨B,o,cur,e,fz,v,g1,g2,g3,g4,g5,g6⟩:=h1;exact⟨B,o,cur,e,fz,v,g1,g2,g3,g4,yl g5,g6⟩
  | l i=>obtain⟨B,o,cur,e,fz,v,g1,g2,g3,g4,g5,g6⟩:=h1;exact⟨B,o,cur,e,fz,v,g1,g2,g3,g4,yl g5,g6⟩
 ·intro r c;rw[hE _ (by intro i e;cases e)];exact h.kx r c
 ·intro r c hc;rw[hE _ (by intro i e;cases e)] at hc ⊢;exact h.bound r c hc
 ·intro r hg hr;rw[hE _ (by intro i e;cases e)] at hr ⊢;exact h.room r hg hr
def akG {P:Program} {cj:FuncId} {t:TypeId} {n:Nat} (hn:1<=n)
  (hg : ∀ (b : Nat) (w : World) (p : Value) (fz : Nat × Nat), w.heap[b]? = some (.cells #[p, .slice none 0 0] t fz) -> jA 2 fz ->
    (p = .pointer none \/ p = .pointer (some ⟨b, 0, none⟩)) ->
    jY P cj #[.pointer (some ⟨b, 0, none⟩), .int .i64 n] w λv w' => v = .tuple #[] /\ ∃ cs : Array Value, n <= cs.size /\ w'.os = w.os /\ w'.tape = w.tape /\ w'.output = w.output /\
      w'.heap = ((w.setCell ⟨b, 0, none⟩ (.pointer (some ⟨b, 0, none⟩))).setCell ⟨b, 1, none⟩ (.slice (some ⟨w.heap.size, 0, none⟩) 0 cs.size)).heap.push (.cells cs 5))
  {args:Array Value} (hH:eA L) (R:Rel nm 2 (gk 0 [.one (.ptr (.e 0) 0 0),.one (.d (.int .i64 n))]++dm 0 [[.bz t,.d (.sl (.im true) 1 [])]]) ⟨args,[]⟩ w L) :
  jY P cj args w λv w'=>∃L',dc w w' L L'/\Rel nm 0 (dm 0 [[.bz t,.d (.sl .own 1 [])]]) ⟨#[],[]⟩ w' L'/\bJ nm w' L' (λ_=>0) (.h 0) (.ao []) v:=by
 have hγ:=Cn [V.one (.ptr (.e 0) 0 0),.one (.d (.int .i64 n))] [[.bz t,.d (.sl (.im true) 1 [])]];generalize Af:(gk 0 [V.one (.ptr (.e 0) 0 0),.one (.d (.int .i64 n))]++dm 0 [[.bz t,.d (.sl (.im true) 1 [])]]:St)=S0 at R hγ;have FH:S0.E (.b (.e 0) 0) = .one (.bz t):=by subst Af;rfl
 have ZA:S0.E (.b (.e 0) 1) = .one (.d (.sl (.im true) 1 [])):=by subst Af;rfl
 have Ac:S0.E (.r (.e 0))=fR 2:=by subst Af;rfl
 have aY:args.size=2:=R.size;have h0:=R.slot 0;have h1:=R.slot 1;rw[show S0.E (.s 0) = .one (.ptr (.e 0) 0 0) by subst Af;rfl] at h0;rw[show S0.E (.s 1) = .one (.d (.int .i64 n)) by subst Af;rfl] at h1;have sV:args = #[args[0],args[1]]:=by
  apply Array.ext
  ·simpa using aY
  ·intro i h1 h2;match i,h2 with
   | 0,_=>rfl
   | 1,_=>rfl
 rw[show (⟨args,[]⟩:Act).tmps.getD 0 undef=args[0] by simp[Array.getD,aY]] at h0;rw[show (⟨args,[]⟩:Act).tmps.getD 1 undef=args[1] by simp[Array.getD,aY]] at h1;generalize iI:args[0]=v0 at h0;generalize nN:args[1]=v1 at h1;rw[iI,nN] at sV;obtain rfl:v1 = .int .i64 n:=by
  cases h1 with
  | one h1=>cases h1 with
   | d h1=>cases h1 with
    | plain h1=>cases h1;rfl
 cases h0 with
 | one h0=>
  cases h0 with
  | ptr atU J5 hp=>
   obtain⟨B,o,hB,rfl⟩:=hp (by rw[hγ]);obtain⟨B',o',cur,e,fz,v,k1,k2,k3,k4,k5,k6⟩:=R.cell (.e 0) 0 _ FH (by simp);obtain rfl:=R.fy B' B (.e 0) o' o k1 hB;obtain⟨rfl,_,rfl,alE,oF⟩:=k6;obtain rfl:o=0:=by rw[k1] at hB;simpa using hB.symm
   obtain⟨B2,o2,iF,e2,lu,u,j1,j2,j3,j4,j5,j6⟩:=R.cell (.e 0) 1 _ ZA (by simp);obtain rfl:=R.fy B2 B' (.e 0) o2 0 j1 hB;obtain rfl:o2=0:=by rw[hB] at j1;simpa using j1.symm
   rw[k2] at j2;simp only[au,Obj.cells.injEq] at j2;obtain⟨rfl,rfl,rfl⟩:=j2;obtain rfl:u = .slice none 0 0:=by
    cases j5 with
    | d h=>cases h with
     | plain h=>cases h;rfl
   have Aj:cur = #[v,.slice none 0 0]:=by
    apply Array.ext
    ·simpa using alE
    ·intro i h1 h2;match i,h2 with
     | 0,_=>
      have:=(lH.1 k4).2;simpa using this
     | 1,_=>
      have:=(lH.1 j4).2;simpa using this
   subst Aj;simp only[mN] at sV;obtain⟨R1,M1⟩:=R.W7 rfl FH hB;have af:B2 < w.heap.size:=(lH.1 k2).1;rw[sV];refine(hg B2 w v fz k2 k3 oF).mono ?_;rintro _ w' ⟨rfl,cs,eJ,ho,ht,hu,hh⟩;generalize JW:w.setCell ⟨B2,0,none⟩ (.pointer (some ⟨B2,0,none⟩))=W1 at R1 M1 hh;have ka:W1.heap.size=w.heap.size:=by subst JW;simp
   have J4:∀B o,L B≠some (.row ⟨.h 0,0,[]⟩ o):=by
    intro B o hB;have:=hH B _ o hB;simp[Key.aT] at this
   obtain⟨R2,M2,C2⟩:=R1.Mw (m:=0) (j:=0) J4 (w':=W1.alloc (.cells cs 5)) (cur:=cs) (e:=5) (fz:=(0,0)) (rows:=[]) (val:=λ_ _=>undef) (sz:=1) (cap:=cs.size)
    (ox W1 _) (λB hB=>mY W1 _ hB) (λj _=>by simp) ⟨rfl,rfl,rfl,by simp⟩ Nat.one_pos (by simp) (by simp) (by simp) (by intro i c x hx;simp[cellOf] at hx)
    (by intro i c x hx;simp[cellOf] at hx) (λ_=>rfl)
   have qZ:(L.put W1.heap.size (.row ⟨.h 0,0,[]⟩ 0)) B2=some (.box (.e 0) 0):=by
    rw[aw.gw (by omega)];exact hB
   obtain⟨L3,R3,_,M3,_,_⟩:=R2.Xf (m:=0) (j:=0) qZ (c:=1) (by rw[Ac];decide) rfl C2;have ej:w'.heap=((W1.alloc (.cells cs 5)).setCell ⟨B2,0+1,none⟩ (.slice (some ⟨W1.heap.size,0,none⟩) ([]:List (List D)).length cs.size)).heap:=by
    rw[hh,ka];have Ah:(W1.alloc (.cells cs 5)).heap=W1.heap.push (.cells cs 5):=by rw[<-World.alloc_eq]
    simp only[World.setCell,Ah];apply Array.ext
    ·simp
    ·intro i h1 h2;simp only[Array.getElem_push,Array.getElem_modify,Array.size_modify];by_cases hi:i < W1.heap.size
     ·simp[hi,Array.getElem_push]
     ·have:i=W1.heap.size:=by simp at h1;omega
      subst this;simp[show ¬ B2=W1.heap.size by omega]
   obtain⟨R4,M4⟩:=R3.below (w':=w') ⟨by rw[ho];subst JW;rfl,by rw[ht];subst JW;rfl,by rw[hu];subst JW;rfl,by rw[ej];exact cp _,λi _=>by rw[ej]⟩;refine⟨L3,((M1.trans M2).trans M3).trans M4,R4.aqm ?_ ?_ ?_,.ao rfl rfl (by simp)⟩
   ·intro k hk;rw[St.il];subst Af;simp only;unfold St.E;rw[pk];split
    ·rename_i he;subst he;rfl
    ·rename_i he;rw[pv];cases k with
     | s i=>exact absurd rfl (hk i)
     | r x=>
      simp only;rw[pv];cases x with
      | e i=>
       match i with
       | 0=>rfl
       | i+1=>simp
      | _=>rfl
     | b x c=>
      simp only;rw[pv];cases x with
      | e i=>
       match i,c with
       | 0,0=>rfl
       | 0,1=>exact absurd rfl he
       | 0,c+2=>simp
       | i+1,c=>simp
      | _=>rfl
     | _=>simp only;rw[pv]
   ·intro i;rw[px]
   ·intro r c x hx;rw[St.il] at hx;simp only at hx;split at hx
    ·simp only[V.one.injEq] at hx;subst hx;exact .inr (.inl ⟨_,rfl⟩)
    ·subst Af;unfold St.E at hx;rw[pk] at hx;simp only at hx;rw[pv] at hx;cases r with
     | e i=>
      match i,c with
      | 0,0=>simp at hx;subst hx;exact .inr (.inr ⟨_,rfl⟩)
      | 0,1=>simp at hx;subst hx;exact .inr (.inl ⟨_,rfl⟩)
      | 0,c+2=>simp[V.dead] at hx;exact .inl hx.symm
      | i+1,c=>simp[V.dead] at hx;exact .inl hx.symm
     | g i=>simp[V.dead] at hx;exact .inl hx.symm
     | l i=>simp[V.dead] at hx;exact .inl hx.symm
end
end
end Go.ax
namespace Go.Proofs.YtfmpdgeiodnnfaaGreatDoor
section
open Go Go.ax Go.RowKit Go.Proofs Go.Sort
set_option maxHeartbeats 1000000 in
def XU (b:Nat) (w:World) (h0:w.cell? ⟨b,0,none⟩=some (.pointer (some ⟨b,0,none⟩))) :
  Calls Tryz.prog 91 #[.pointer (some ⟨b,0,none⟩)] w λe w'=>e = .returned (.tuple #[])/\w'=w:=by
 obtain⟨j,hj⟩:∃j,Tryz.prog.info? 82=some j:=zk.1 (by kernel_rfl);have hp:Tryz.prog.underlying 79=some (.pointer 82):=by kernel_rfl
 go_enter Tryz.func91,Tryz.ntmps91;go_wp2;rw[Lib.run_neq_ptr_same w _ hp hj];go_wp2;go_end0;exact⟨rfl,rfl⟩
set_option maxHeartbeats 1000000 in
def XT (b:Nat) (w:World) (h0:w.cell? ⟨b,0,none⟩=some (.pointer none)) (Da:w.shape? b=some (82,2)) (c6:w.frozen? ⟨b,0,none⟩=false) :
  Calls Tryz.prog 91 #[.pointer (some ⟨b,0,none⟩)] w λe w'=>e = .returned (.tuple #[])/\w'=w.setCell ⟨b,0,none⟩ (.pointer (some ⟨b,0,none⟩)):=by
 obtain⟨j,hj,hjs⟩:∃j,Tryz.prog.info? 82=some j/\j.size=2:=Option.map_eq_some_iff.1 (by kernel_rfl);have hp:Tryz.prog.underlying 79=some (.pointer 82):=by kernel_rfl
 have hu:Tryz.prog.underlying 187=some .unsafePointer:=by kernel_rfl
 go_enter Tryz.func91,Tryz.ntmps91;go_wp2;rw[Lib.run_to_unsafe w ⟨b,0,none⟩ hp hu hj (by rw[hjs];decide) Da (Nat.zero_lt_succ 1)];simp only[Result.andThen];rw[Oper.upon_value];go_wp2;rw[run_callFunc_extern Tryz.func148 (by kernel_rfl) (by kernel_rfl) (by kernel_rfl) (e:=Extern.AbiNoEscape.same) (by kernel_rfl)];rw[Lib.run_noEscape];simp only[Result.andThen];rw[Oper.upon_value];go_wp2;rw[Lib.run_from_unsafe w ⟨b,0,none⟩ hu hp hj Da (by kernel_rfl)];simp only[Result.andThen];rw[Oper.upon_value];go_wp2;go_end0;exact⟨rfl,rfl⟩
set_option maxHeartbeats 1000000 in
def Zz (b:Nat) (w:World) (n:Nat) {T:TypeId} {p:Value} {fz:Nat×Nat} (mW:w.heap[b]? = some (.cells #[p,.slice none 0 0] T fz)) (c6:w.frozen? ⟨b,1,none⟩=false) (hn:n<=281474976710656) :
  Calls Tryz.prog 166 #[.pointer (some ⟨b,0,none⟩),.int .i64 n] w λe w'=>e = .returned (.tuple #[])/\∃(k:Nat) (cs:Array Value),n<=cs.size/\w'=((w.setCell ⟨b,1,none⟩ (.slice (some ⟨w.heap.size,0,none⟩) 0 cs.size)).alloc (.cells cs 5)).drewN k:=by
 have af:b < w.heap.size:=(lH.1 mW).1;have aas:Tryz.prog.underlying 80=some (.slice 5):=by kernel_rfl
 obtain⟨cs,jr,hle,Kf⟩:=Lib.run_makeNoZero (P:=Tryz.prog) w.drew #[3] 80 5 aas n hn;have hw:IntKind.i64.wrap (IntKind.i64.wrap 0+(n:Int))=n:=by
  rw[IntKind.wrap_i64,IntKind.wrap_i64];omega
 have atB:(callFunc 208 #[.int .i64 (IntKind.i64.wrap (IntKind.i64.wrap 0+(n:Int)))]).run Tryz.prog w.drew = .ok (.value (.slice (some ⟨w.drew.heap.size,0,none⟩) n cs.size)) (w.drew.drew.drew.alloc (.cells cs 5)):=by
  rw[hw,run_callFunc_extern Tryz.func208 (by kernel_rfl) (by kernel_rfl) (by kernel_rfl) (e:=Extern.BytealgMakeNoZero.makeNoZero #[3] #[80]) (by kernel_rfl),jr];rfl
 have c1:w.drew.cell? ⟨b,1,none⟩=some (.slice none 0 0):=by
  have:w.drew.heap[b]? = _:=mW;rw[Lib.cell_of_heap this];rfl
 have c2:(w.alloc (.cells cs 5)).cell? ⟨b,1,none⟩=some (.slice none 0 0):=by
  have:(w.alloc (.cells cs 5)).heap[b]? = _:=(Lib.alloc_old w _ b af).trans mW;rw[Lib.cell_of_heap this];rfl
 have f2:(w.alloc (.cells cs 5)).frozen? ⟨b,1,none⟩=false:=by
  rw[<-c6];simp only[World.frozen?,Lib.alloc_old w _ b af]
 have aY:(Tryz.prog.info? 5).map (·.size)=some 1:=by kernel_rfl
 have atC:∀W:World,(Builtin.copy_ #[80,80] 3 #[.slice (some ⟨w.heap.size,0,none⟩) 0 cs.size,.slice none 0 0]).run Tryz.prog W = .ok (goInt 0) W:=
  λW=>run_copy_none W 80 80 3 5 _ _ 0 cs.size 0 0 aas aY rfl
 have mixed:Tryz.prog.follows Departure.mixedOrders=true:=by kernel_rfl
 clear hw;go_enter Tryz.func166,Tryz.ntmps166;go_wp2;go_region_o;all_goals (go_wp2;go_end0;first | exact⟨rfl,3,cs,hle,rfl⟩ | exact⟨rfl,2,cs,hle,rfl⟩ | exact⟨rfl,4,cs,hle,rfl⟩ | exact⟨rfl,5,cs,hle,rfl⟩)
def ars {w:World} {b:Nat} {p q:Value} {T:TypeId} {fz:Nat×Nat} (mW:w.heap[b]? = some (.cells #[p,q] T fz)):(w.setCell ⟨b,0,none⟩ p).heap=w.heap:=by
 have af:b < w.heap.size:=(lH.1 mW).1;simp only[World.setCell];apply Array.ext
 ·simp
 ·intro i h1 h2;simp only[Array.getElem_modify];split
  ·rename_i he;subst he;rw[(lH.1 mW).2];simp
  ·rfl
def ZQ {w W:World} {a:Addr} {v:Value} {o:Obj} (k:Nat) (h:W.heap=w.heap):(((w.setCell a v).alloc o).drewN k).heap=(W.setCell a v).heap.push o:=by
 have h2:((w.setCell a v).alloc o).heap=(w.setCell a v).heap.push o:=by rw[<-World.alloc_eq]
 show ((w.setCell a v).alloc o).heap=_;rw[h2];show (w.heap.modify a.block _).push o=(W.heap.modify a.block _).push o;rw[h]
def Wu (b n:Nat) (w:World) (e:Ending) (w':World):Prop:=e = .returned (.tuple #[])/\∃cs:Array Value,n<=cs.size/\w'.os=w.os/\w'.tape=w.tape/\w'.output=w.output/\
 w'.heap=((w.setCell ⟨b,0,none⟩ (.pointer (some ⟨b,0,none⟩))).setCell ⟨b,1,none⟩ (.slice (some ⟨w.heap.size,0,none⟩) 0 cs.size)).heap.push (.cells cs 5)
set_option maxHeartbeats 1000000 in
def af7 (b n:Nat) (w:World) {fz:Nat×Nat} (mW:w.heap[b]? = some (.cells #[.pointer (some ⟨b,0,none⟩),.slice none 0 0] 82 fz)) (c6:jA 2 fz) (nM:1<=n) (hn:n<=140737488355328) :
  Calls Tryz.prog 112 #[.pointer (some ⟨b,0,none⟩),.int .i64 n] w (Wu b n w):=by
 have c0:w.cell? ⟨b,0,none⟩=some (.pointer (some ⟨b,0,none⟩)):=by rw[Lib.cell_of_heap mW];rfl
 have c1:w.cell? ⟨b,1,none⟩=some (.slice none 0 0):=by rw[Lib.cell_of_heap mW];rfl
 have c1':w.drew.cell? ⟨b,1,none⟩=some (.slice none 0 0):=c1;have Rf:w.frozen? ⟨b,1,none⟩=false:=by
  have:=c6 1 (by omega);simp only[World.frozen?,mW];simpa using this
 have mixed:Tryz.prog.follows Departure.mixedOrders=true:=by kernel_rfl
 have af:¬ (IntKind.i64.wrap (0 - 0)>=(n:Int)):=by rw[IntKind.wrap_i64];omega
 have e1:∀args w,(callFunc 91 args).run Tryz.prog w = .ok (.enter 91 args) w:=enters_of Tryz.func91 (by kernel_rfl) rfl;have e2:∀args w,(callFunc 166 args).run Tryz.prog w = .ok (.enter 166 args) w:=enters_of Tryz.func166 (by kernel_rfl) rfl;go_enter Tryz.func112,Tryz.ntmps112;go_wp2_with (go_at_fn 91;refine(XU b w c0).mono ?_;rintro e w' ⟨rfl,hw⟩;subst w');go_region_o;all_goals go_wp2_with (go_at_fn 166;refine(Zz b w.drew n mW Rf (by omega)).mono ?_;rintro e w' ⟨rfl,k,cs,eJ,rfl⟩)
 all_goals first
  | (exfalso;omega)
  | (go_end0;exact⟨rfl,cs,eJ,rfl,rfl,rfl,ZQ (1+k) (ars mW)⟩)
set_option maxHeartbeats 1000000 in
def af6 (b n:Nat) (w:World) {fz:Nat×Nat} (mW:w.heap[b]? = some (.cells #[.pointer none,.slice none 0 0] 82 fz)) (c6:jA 2 fz) (nM:1<=n) (hn:n<=140737488355328) :
  Calls Tryz.prog 112 #[.pointer (some ⟨b,0,none⟩),.int .i64 n] w (Wu b n w):=by
 have QV:(w.setCell ⟨b,0,none⟩ (.pointer (some ⟨b,0,none⟩))).heap[b]? = some (.cells #[.pointer (some ⟨b,0,none⟩),.slice none 0 0] 82 fz):=by
  simp[World.setCell,BD,mW]
 have c1:(w.setCell ⟨b,0,none⟩ (.pointer (some ⟨b,0,none⟩))).cell? ⟨b,1,none⟩=some (.slice none 0 0):=by rw[Lib.cell_of_heap QV];rfl
 have c1':(w.setCell ⟨b,0,none⟩ (.pointer (some ⟨b,0,none⟩))).drew.cell? ⟨b,1,none⟩=some (.slice none 0 0):=c1;have Rf:(w.setCell ⟨b,0,none⟩ (.pointer (some ⟨b,0,none⟩))).frozen? ⟨b,1,none⟩=false:=by
  have:=c6 1 (by omega);simp only[World.frozen?,QV];simpa using this
 have Re:w.frozen? ⟨b,0,none⟩=false:=by
  have:=c6 0 (by omega);simp only[World.frozen?,mW];simpa using this
 have mixed:Tryz.prog.follows Departure.mixedOrders=true:=by kernel_rfl
 have af:¬ (IntKind.i64.wrap (0 - 0)>=(n:Int)):=by rw[IntKind.wrap_i64];omega
 have e1:∀args w,(callFunc 91 args).run Tryz.prog w = .ok (.enter 91 args) w:=enters_of Tryz.func91 (by kernel_rfl) rfl;have e2:∀args w,(callFunc 166 args).run Tryz.prog w = .ok (.enter 166 args) w:=enters_of Tryz.func166 (by kernel_rfl) rfl;go_enter Tryz.func112,Tryz.ntmps112;go_wp2_with (go_at_fn 91;refine(XT b w (by rw[Lib.cell_of_heap mW];rfl) (by simp[World.shape?,mW]) Re).mono ?_;rintro e w' ⟨rfl,hw⟩;subst w');go_region_o;all_goals go_wp2_with (go_at_fn 166;refine(Zz b (w.setCell ⟨b,0,none⟩ (.pointer (some ⟨b,0,none⟩))).drew n QV Rf (by omega)).mono ?_;rintro e w' ⟨rfl,k,cs,eJ,rfl⟩)
 all_goals first
  | (exfalso;omega)
  | (go_end0;exact⟨rfl,cs,eJ,rfl,rfl,rfl,ZQ (1+k) rfl⟩)
def MY:String:=(Rows.printerLinesRow.laid.map (·.1)).getD 2 default
def oi:Nat->Nat->List UInt8
 | 0,u=>[UInt8.ofNat (48+u)]
 | f+1,u=>if u < 10 then[UInt8.ofNat (48+u)] else oi f (u / 10)++[UInt8.ofNat (48+u % 10)]
def PX:∀(f u:Nat),u < 10 ^ (f+1)->oi f u=Lib.decDigits u
 | 0,u,h=>by rw[Lib.decDigits,dif_pos (by simpa using h)];rfl
 | f+1,u,h=>by
  rw[Lib.decDigits];simp only[oi];by_cases h1:u < 10
  ·rw[aP h1,dif_pos h1]
  ·rw[aI h1,dif_neg h1,PX f (u / 10) (by rw[Wd] at h;omega)]
def pM (n:Int):List UInt8:=if n < 0 then 45::oi 19 n.natAbs else oi 19 n.toNat
def alQ {n:Int} (h0 : -9223372036854775808<=n) (h1:n<=9223372036854775807):pM n=Lib.itoa n:=by
 unfold pM Lib.itoa;by_cases h:n < 0
 ·rw[aP h,aP h,PX _ _ (by simp;omega)]
 ·rw[aI h,aI h,PX _ _ (by simp;omega)]
def A4:bX:=λf vs bx=>match f with
 | 91=>match vs,bx with
  | [.one (.ptr (.e 0) 0 0)],[[.bz t,x]]=>match Nat.beq t 82 with
   | true=>some (.ao [],[[.bz 82,x]])
   | false=>none
  | _,_=>none
 | 159=>match vs,bx with
  | [.one (.d (.int .i64 n)),.one (.d (.int .i64 m))],[]=>if m=10/\-9223372036854775808<=n/\n<=9223372036854775807 then some (.one (.d (.str (pM n))),[]) else none
  | _,_=>none
 | 256=>match vs,bx with
  | [.one (.d (.str s)),.one (.d (.int .u8 c))],[]=>some (.one (.d (.int .i64 (Lib.indexByte s c.toNat.toUInt8))),[])
  | _,_=>none
 | 112=>match vs,bx with
  | [.one (.ptr (.e 0) 0 0),.one (.d (.int .i64 n))],[[.bz t,.d (.sl (.im true) 1 [])]]=>match Nat.beq t 82,decide (1<=n/\n<=140737488355328) with
   | true,true=>some (.ao [],[[.bz 82,.d (.sl .own 1 [])]])
   | _,_=>none
  | _,_=>none
 | _=>none
def ago (w:World) (k:Nat) (os:Array Obj):Below w.heap.size w (grow (w.drewN k) os):=by
 refine⟨rfl,rfl,rfl,by simp[grow,World.drewN],λi hi=>?_⟩;simp only[grow,World.drewN];rw[Bz hi]
def aqs (G:Nat->Option Obj)
  (RF:∀w L,GI G w L->Lib.TabIs Tryz.prog w MY .u64 Lib.pow10Tab):Wy Tryz.prog nm G pY A4:=by
 intro f vs bx r out cj hT hp hn args w L R hH hG hE;obtain rfl:cj=f:=by simpa[nm] using hn
 unfold A4 at hp;split at hp
 ·split at hp
  ·rename_i t x;split at hp
   ·rename_i ht;have ht:=sk ht;subst ht;simp only[au,iB] at hp;obtain⟨rfl,rfl⟩:=hp;exact ag7 (λb w h1 h2 h3=>Ct Tryz.func91 (by kernel_rfl) rfl ((XT b w h1 h2 h3).mono (λe w' h=>⟨_,h.1,rfl,h.2⟩)))
     (λb w h1=>Ct Tryz.func91 (by kernel_rfl) rfl ((XU b w h1).mono (λe w' h=>⟨_,h.1,rfl,h.2⟩))) R
   ·cases hp
  ·cases hp
 ·split at hp
  ·rename_i n m;split at hp
   ·rename_i hc;simp only[au,iB] at hp;obtain⟨rfl,rfl⟩:=hp;obtain⟨rfl,h0,h1⟩:=hc;have ha:=WY (xs:=[.int .i64 n,.int .i64 10]) (bs:=[]) rfl R;refine Yd (Rv:=λu=>u = .string ⟨(Lib.itoa n).toArray⟩) ?_ R ?_
    ·rintro w L u rfl;rw[alQ h0 h1];exact .one (.d (.plain .str))
    ·rw[ha];refine Ct Tryz.func159 (by kernel_rfl) rfl ((Any.strconv_FormatInt_10 Tryz.aph n h0 h1 w (RF w L hG)).mono (λe w' h=>⟨_,h.1,rfl,?_⟩));obtain⟨k,os,rfl⟩:=h.2;exact ago w k os
   ·cases hp
  ·cases hp
 ·split at hp
  ·rename_i s c;simp only[au,iB] at hp;obtain⟨rfl,rfl⟩:=hp;have ha:=WY (xs:=[.str s,.int .u8 c]) (bs:=[]) rfl R;refine Yd (Rv:=λu=>u = .int .i64 (Lib.indexByte s c.toNat.toUInt8)) ?_ R ?_
   ·rintro w L u rfl;exact .one (.d (.plain .int))
   ·rw[ha];refine Ct Tryz.func256 (by kernel_rfl) rfl ((Any.stringslite_IndexByte Tryz.apf ⟨s.toArray⟩ c w).mono (λe w' h=>⟨_,h.1,by simp,by rw[h.2];exact Below.refl _ _⟩))
  ·cases hp
 ·split at hp
  ·rename_i n t;split at hp
   ·rename_i ht hc;have ht:=sk ht;subst ht;obtain⟨h1,h2⟩:=sn hc;simp only[au,iB] at hp;obtain⟨rfl,rfl⟩:=hp;obtain⟨k,rfl⟩:=Int.eq_ofNat_of_zero_le (show 0<=n by omega);refine akG (n:=k) (by omega) ?_ hH R;intro b w p fz g1 g2 g3;rcases g3 with rfl | rfl
    ·exact Ct Tryz.func112 (by kernel_rfl) rfl ((af6 b k w g1 g2 (by omega) (by omega)).mono (λe w' h=>⟨_,h.1,rfl,h.2⟩))
    ·exact Ct Tryz.func112 (by kernel_rfl) rfl ((af7 b k w g1 g2 (by omega) (by omega)).mono (λe w' h=>⟨_,h.1,rfl,h.2⟩))
   ·cases hp
  ·cases hp
 ·cases hp
end
end Go.Proofs.YtfmpdgeiodnnfaaGreatDoor
