/- A part of the proof. -/
import Derived.Test.YtfmpdgeiodnnfaaGreatDoorQ2
import Derived.Test.YtfmpdgeiodnnfaaGreatDoorQ0
import Derived.Test.YtfmpdgeiodnnfaaGreatDoorQ1
import Derived.Test.YtfmpdgeiodnnfaaGreatDoorChecked
import Derived.KernelRfl
import Derived.Shelf.Strings.Builder1
import Derived.Shelf.LaysM
import Derived.Shelf.LaysC
import Derived.Shelf.Strconv.Itoa4
import Derived.Shelf.Strings.Search1
import Derived.Shelf.Strconv.AtoiAll
import Derived.Shelf.Strconv.ErrVarAll
import Derived.Shelf.Strconv.ErrVarParseInt
import Derived.Test.YtfmpdgeiodnnfaaGreatDoorProg
import Derived.Below
import Derived.Test.YtfmpdgeiodnnfaaGreatDoorRows
import Derived.Lib.Walk
import Derived.Lib.Builder
import Derived.Lib.UnsafeStr
import Derived.WalkKit
import Derived.Laws.Externs
import Derived.Lib.MakeNoZero
import Derived.Laws.IdiomCopy
set_option maxRecDepth 100000
set_option linter.all false
namespace Go.ax
section
theorem qJ:∀(rs:List aI) {r:aI} {i k:Nat},jm rs r i=some k→i≤k∧rs[k - i]? = some r
 | [],r,i,k,h=>by simp [jm] at h
 | x::t,r,i,k,h=>by
  simp only [jm] at h;split at h
  ·rename_i hx;simp only [aj] at h;subst h;subst hx;exact ⟨bV _,by simp⟩
  ·obtain ⟨h1,h2⟩:=qJ t h;refine ⟨by omega,?_⟩;rw [show k - i=(k - (i+1))+1 by omega,yL];exact h2
theorem yu:∀(rs:List aI) {r:aI} {i k:Nat},rs.Nodup→rs[k]? = some r→jm rs r i=some (i+k)
 | [],r,i,k,_,h=>by simp at h
 | x::t,r,i,k,hn,h=>by
  simp only [jm];cases k with
  | zero=>simp at h;subst h;simp
  | succ k=>
   rw [yL] at h;have aA:x≠r:=by
    rintro rfl;exact (Nj.1 hn).1 (fp h)
   rw [aB aA,yu t (Nj.1 hn).2 h];congr 1;omega
def gp (rs:List aI) (E:Key→V) (L:aw):aw:=fun B=>
 match L B with
 | some .bh=>some .bh
 | some (.box r o)=>(jm rs r 0).map fun i=>.box (.e i) o
 | some (.row ⟨.b r c,j,p⟩ o)=>match jm rs r 0,E (.b r c) with
  | some i,.one (.d _)=>some (.row ⟨.b (.e i) c,j,p⟩ o)
  | _,_=>none
 | _=>none
section
variable {nm:FuncId→Option Nat} {N:Nat} {S S0:St} {a:Act} {w w0:World} {L L0:aw} {P:Program} {o:Oper} {Cl:bX} {d:Nat} {ws:List Wr} {γ:Key→Nat} {rs:List aI} {E:Key→V}
theorem vg {B:Nat} (h:L B=some .bh):gp rs E L B=some .bh:=by simp [gp,h]
theorem zm {B o i:Nat} {r:aI} (h:L B=some (.box r o)) (hi:jm rs r 0=some i):gp rs E L B=some (.box (.e i) o):=by simp [gp,h,hi]
theorem ahY {B o i c j:Nat} {r:aI} {p:List (Nat×Nat)} {x:D} (h:L B=some (.row ⟨.b r c,j,p⟩ o)) (hi:jm rs r 0=some i) (hE:E (.b r c) = .one (.d x)):gp rs E L B=some (.row ⟨.b (.e i) c,j,p⟩ o):=by
 simp [gp,h,hi,hE]
theorem pz {B:Nat} {l:bS} (h:gp rs E L B=some l):(l = .bh∧L B=some .bh)∨(∃r o i,l = .box (.e i) o∧L B=some (.box r o)∧jm rs r 0=some i)∨
  ∃r c j p o i x,l = .row ⟨.b (.e i) c,j,p⟩ o∧L B=some (.row ⟨.b r c,j,p⟩ o)∧jm rs r 0=some i∧E (.b r c) = .one (.d x):=by
 unfold gp at h;split at h
 ·simp only [aj] at h;exact .inl ⟨h.symm,‹_›⟩
 ·rename_i r o hL;obtain ⟨i,h1,h2⟩:=bH h;exact .inr (.inl ⟨r,o,i,h2,hL,h1⟩)
 ·rename_i r c j p o hL;split at h
  ·rename_i i x h1 h2;simp only [aj] at h;exact .inr (.inr ⟨r,c,j,p,o,i,x,h.symm,hL,h1,h2⟩)
  ·cases h
 ·cases h
theorem xK:∀{l l':List C} (j:Nat) {c':C},lV rs l=some l'→l'[j]? = some c'→∃c,l[j]? = some c∧c.ef rs=some c'
 | [],l',j,c',h,hj=>by simp only [lV,aj] at h;subst h;simp at hj
 | c::t,l',j,c',h,hj=>by
  simp only [lV] at h;obtain ⟨c1,h1,h2⟩:=fq.1 h;obtain ⟨t1,h3,rfl⟩:=bH h2;cases j with
  | zero=>simp at hj;subst hj;exact ⟨c,rfl,h1⟩
  | succ j=>obtain ⟨c2,g1,g2⟩:=xK j h3 (by simpa using hj);exact ⟨c2,by simpa using g1,g2⟩
theorem xL:∀{l l':List C},lV rs l=some l'→l'.length=l.length
 | [],l',h=>by simp only [lV,aj] at h;subst h;rfl
 | c::t,l',h=>by
  simp only [lV] at h;obtain ⟨c1,h1,h2⟩:=fq.1 h;obtain ⟨t1,h3,rfl⟩:=bH h2;simp [xL h3]
theorem yk:∀{l:List C} {j:Nat} {c:C} {x:aI×Nat},l[j]? = some c→x∈c.wo→x∈kY l
 | [],_,_,_,h,_=>by simp at h
 | y::t,0,c,x,h,hx=>by simp at h;subst h;simp [kY,hx]
 | y::t,j+1,c,x,h,hx=>by simp only [kY,dA];exact .inr (yk (by simpa using h) hx)
mutual
theorem JM:∀{c c':C},c.clean=true→c.ef rs=some c'→c'.clean=true
 | .d x,c',h,hi=>by simp only [C.ef,aj] at hi;subst hi;exact h
 | .ptr r g k,c',h,hi=>by simp only [C.ef] at hi;obtain ⟨i,_,rfl⟩:=bH hi;rfl
 | .pp cells,c',h,hi=>by simp only [C.ef,aj] at hi;subst hi;rfl
 | .fn f x y,c',h,hi=>by
  simp only [C.ef] at hi;obtain ⟨x',h1,h2⟩:=fq.1 hi;obtain ⟨y',h3,rfl⟩:=bH h2;simp only [C.clean,bK] at h ⊢;exact ⟨JN h.1 h1,JN h.2 h3⟩
 | .cE,c',h,hi=>by simp only [C.ef,aj] at hi;subst hi;rfl
 | .eX,c',h,hi=>by simp only [C.ef,aj] at hi;subst hi;rfl
 | .fR,c',h,hi=>by simp only [C.ef,aj] at hi;subst hi;rfl
 | .fj,c',h,hi=>by simp only [C.ef,aj] at hi;subst hi;rfl
 | .dead,c',h,hi=>by simp only [C.ef,aj] at hi;subst hi;rfl
 | .eD ..,c',h,hi=>by simp [C.ef] at hi
 | .view ..,c',h,hi=>by simp [C.ef] at hi
 | .c8 ..,c',h,hi=>by simp [C.ef] at hi
 | .mp _,c',h,hi=>by simp [C.ef] at hi
 | .gj ..,c',h,hi=>by simp [C.ef] at hi
theorem JN:∀{l l':List C},jo l=true→lV rs l=some l'→jo l'=true
 | [],l',h,hi=>by simp only [lV,aj] at hi;subst hi;rfl
 | c::t,l',h,hi=>by
  simp only [lV] at hi;obtain ⟨c1,h1,h2⟩:=fq.1 hi;obtain ⟨t1,h3,rfl⟩:=bH h2;simp only [jo,bK] at h ⊢;exact ⟨JM h.1 h1,JN h.2 h3⟩
end
theorem aF.enter {k:Key} {j:Nat} {c:C} {v:Value} (h:aF nm w L γ k j c v):∀{c':C},c.ef rs=some c'→(∀x∈c.wo,x.2=γ (.r x.1))→c.clean=true→∀k' j',aF nm w (gp rs E L) (fun _=>0) k' j' c' v:=by
 induction h with
 | @d x v h=>
  intro c' hi hl hc k' j';simp only [C.ef,aj] at hi;subst hi;cases h with
  | plain h=>exact .d (.plain (h.mono (fun B hB=>⟨vg hB,rfl⟩)))
  | jl=>simp [C.clean] at hc
  | own=>simp [C.clean] at hc
 | @ptr r g c v hv hg h=>
  intro c' hi hl hc k' j';simp only [C.ef] at hi;obtain ⟨i,h1,rfl⟩:=bH hi;have lx:=hl (r,g) (by simp [C.wo]);obtain ⟨B,o,h2,h3⟩:=h lx;exact .ptr hv (bV _) (fun _=>⟨B,o,zm h2 h1,h3⟩)
 | eD=>intro c' hi;simp [C.ef] at hi
 | pp hL hB h=>
  intro c' hi hl hc k' j';simp only [C.ef,aj] at hi;subst hi;refine .pp (vg hL) hB (fun q x hx=>?_);obtain ⟨u,h1,h2⟩:=h q x hx;exact ⟨u,h1,h2.mono (fun B hB=>⟨vg hB,rfl⟩)⟩
 | view=>intro c' hi;simp [C.ef] at hi
 | c8=>intro c' hi;simp [C.ef] at hi
 | mp=>intro c' hi;simp [C.ef] at hi
 | gj=>intro c' hi;simp [C.ef] at hi
 | @fns f l v B o cap cur e fz val hf hL hB aS hv h ih=>
  intro c' hi hl hc k' j';have sI:=JM hc hi;simp only [C.ef] at hi;obtain ⟨x',g1,g2⟩:=fq.1 hi;obtain ⟨y',g3,rfl⟩:=bH g2;simp only [lV,aj] at g1;subst g1;simp only [C.clean,bK] at sI;simp only [C.wo,dA] at hl;have hlen:=xL g3;refine .fns val (by rw [hlen];exact hf) (vg hL) hB sI.2 (by rw [hlen];exact hv) ?_;intro i x hx;obtain ⟨c0,k1,k2⟩:=xK i g3 hx;exact ih i c0 k1 k2 (fun y hy=>hl y (.inr (yk k1 hy))) (ko aS k1) _ _
 | @fn f first cap cH fs cs jI hf h1 h2 aS h3 h4 sP sQ=>
  intro c' hi hl hc k' j';have sI:=JM hc hi;simp only [C.ef] at hi;obtain ⟨x',g1,g2⟩:=fq.1 hi;obtain ⟨y',g3,rfl⟩:=bH g2;simp only [C.clean,bK] at sI;simp only [C.wo,dA] at hl;refine .fn jI hf (by rw [xL g1];exact h1) (by rw [xL g3];exact h2) sI ?_ ?_
  ·intro i x u hx hu;obtain ⟨c0,k1,k2⟩:=xK i g1 hx;exact sP i c0 u k1 hu k2 (fun y hy=>hl y (.inl (yk k1 hy))) (ko aS.1 k1) _ _
  ·intro i x u hx hu;obtain ⟨c0,k1,k2⟩:=xK i g3 hx;exact sQ i c0 u k1 hu k2 (fun y hy=>hl y (.inr (yk k1 hy))) (ko aS.2 k1) _ _
 | cE=>intro c' hi _ _ _ _;simp only [C.ef,aj] at hi;subst hi;exact .cE
 | eX=>intro c' hi _ _ _ _;simp only [C.ef,aj] at hi;subst hi;exact .eX
 | fR=>intro c' hi _ _ _ _;simp only [C.ef,aj] at hi;subst hi;exact .fR
 | fj=>intro c' hi _ _ _ _;simp only [C.ef,aj] at hi;subst hi;exact .fj
 | bt=>intro c' hi _ hc;simp [C.clean] at hc
 | dead=>intro c' hi _ _ _ _;simp only [C.ef,aj] at hi;subst hi;exact .dead
theorem Z0 {rs:List aI} {c c':C} (hi:c.ef rs=some c') {B o k:Nat} {e:TypeId} {n:Nat} {v:Value} (h:lO c B o k e n v):lO c' B o k e n v:=by
 cases c' with
 | bt t=>
  cases c with
  | bt t'=>simp only [C.ef,aj,C.bt.injEq] at hi;subst hi;exact h
  | ptr r g c=>simp only [C.ef] at hi;obtain ⟨i,_,h2⟩:=bH hi;cases h2
  | fn f a b=>simp only [C.ef] at hi;obtain ⟨_,_,h2⟩:=fq.1 hi;obtain ⟨_,_,h3⟩:=bH h2;cases h3
  | _=>simp [C.ef] at hi
 | _=>trivial
theorem aF.XX {r:aI} {c0 i:Nat} {c:C} {v:Value} (h:aF nm w L γ (.b r c0) 0 c v) {c':C} (hi:c.ef rs=some c') (hl:∀x∈c.wo,x.2=γ (.r x.1)) (hE:E (.b r c0) = .one c) (hr:jm rs r 0=some i) :
  aF nm w (gp rs E L) (fun _=>0) (.b (.e i) c0) 0 c' v:=by
 cases c with
 | d x=>
  simp only [C.ef,aj] at hi;subst hi;cases h with
  | d h=>
   refine .d ?_
   exact br.move (fun q => ⟨.b (.e i) c0, q.j, q.p⟩) (fun q => q.k = .b r c0) (fun _ _ _ h => h) (fun _ _ _ _ => rfl) (fun B hB => ⟨vg hB, rfl⟩) (fun B q o hq hL => by
     obtain ⟨k, j, p⟩ := q
     simp only at hq
     subst hq
     exact ⟨ahY hL hr hE, rfl⟩) h rfl
 | c8=>simp [C.ef] at hi
 | mp=>simp [C.ef] at hi
 | bt t=>
  simp only [C.ef,aj] at hi;subst hi;cases h with
  | bt hk hv=>exact .bt ⟨_,_,rfl⟩ hv
 | _=>exact h.enter hi hl (h.va rfl) _ _
theorem po:∀(vs:List V) (i:Nat) (rest:St) (k:Key),St.get (ga i vs++rest) k=match k with
  | .s j=>if i≤j∧j < i+vs.length then ⟨vs.getD (j - i) V.dead,0⟩ else rest.get (.s j)
  | k=>rest.get k
 | [],i,rest,k=>by
  simp only [ga,uV];cases k<;>simp;intro h1 h2;omega
 | v::vs,i,rest,k=>by
  simp only [ga,qQ,St.get];have ih:=po vs (i+1) rest k;cases k with
  | s j=>
   simp only at ih ⊢;by_cases h:i=j
   ·subst h;simp
   ·rw [aB (by simpa using h),ih];by_cases h2:i+1≤j∧j < i+1+vs.length
    ·rw [aJ h2,aJ ⟨by omega,by simp;omega⟩,show j - i=(j - (i+1))+1 by omega];rfl
    ·rw [aB h2,aB (by simp;omega)]
  | _=>simpa using ih
theorem Wh (r:aI):∀(cs:List C) (c0:Nat) (rest:St) (k:Key),St.get (Bj r c0 cs++rest) k=match k with
  | .b r' c=>if r'=r∧c0≤c∧c < c0+cs.length then ⟨.one (cs.getD (c - c0) .dead),0⟩ else rest.get (.b r' c)
  | k=>rest.get k
 | [],c0,rest,k=>by
  simp only [Bj,uV];cases k<;>simp;intro _ h1 h2;omega
 | x::cs,c0,rest,k=>by
  simp only [Bj,qQ,St.get];have ih:=Wh r cs (c0+1) rest k;cases k with
  | b r' c=>
   simp only at ih ⊢;by_cases h:r=r'∧c0=c
   ·obtain ⟨rfl,rfl⟩:=h;simp
   ·rw [aB (by simpa using h),ih];by_cases h2:r'=r∧c0+1≤c∧c < c0+1+cs.length
    ·rw [aJ h2,aJ ⟨h2.1,by omega,by simp;omega⟩,show c - c0=(c - (c0+1))+1 by omega];rfl
    ·rw [aB h2,aB];rintro ⟨h3,h4,h5⟩;subst h3;simp only [fX] at h5;by_cases h6:c0=c
     ·exact h ⟨rfl,h6⟩
     ·exact h2 ⟨rfl,by omega,by omega⟩
  | _=>simpa using ih
theorem pv:∀(bs:List (List C)) (i:Nat) (k:Key),St.get (dm i bs) k=match k with
  | .r (.e j)=>if i≤j∧j < i+bs.length then ⟨fy (bs.getD (j - i) []).length,0⟩ else ⟨.one .dead,0⟩
  | .b (.e j) c=>if (i≤j∧j < i+bs.length)∧c < (bs.getD (j - i) []).length then ⟨.one ((bs.getD (j - i) []).getD c .dead),0⟩ else ⟨.one .dead,0⟩
  | _=>⟨.one .dead,0⟩
 | [],i,k=>by
  simp only [dm,St.get];cases k with
  | r x=>
   cases x<;>simp;intro h1 h2;omega
  | b x c=>cases x<;>simp
  | _=>rfl
 | b::bs,i,k=>by
  simp only [dm,St.get];have ih:=pv bs (i+1) k;rw [Wh];cases k with
  | r x=>
   cases x with
   | e j=>
    simp only at ih ⊢;by_cases h:i=j
    ·subst h;simp
    ·rw [aB (by simpa using h),ih];by_cases h2:i+1≤j∧j < i+1+bs.length
     ·rw [aJ h2,aJ ⟨by omega,by simp;omega⟩,show j - i=(j - (i+1))+1 by omega];rfl
     ·rw [aB h2,aB (by simp;omega)]
   | _=>simpa using ih
  | b x c=>
   cases x with
   | e j=>
    simp only at ih ⊢;by_cases h:i=j
    ·subst h;rw [aB (by simp)];by_cases hc:c < b.length
     ·simp [hc]
     ·rw [aB (by simp;omega),ih,aB (by omega),aB (by simp;omega)]
    ·rw [aB (by simp),aB (by simp;omega),ih];by_cases h2:(i+1≤j∧j < i+1+bs.length)∧c < (bs.getD (j - (i+1)) []).length
     ·rw [aJ h2,aJ ⟨⟨by omega,by simp;omega⟩,by rw [show j - i=(j - (i+1))+1 by omega];exact h2.2⟩,show j - i=(j - (i+1))+1 by omega];rfl
     ·rw [aB h2,aB];rintro ⟨⟨h3,h4⟩,h5⟩;simp only [fX] at h4;rw [show j - i=(j - (i+1))+1 by omega] at h5;exact h2 ⟨⟨by omega,by omega⟩,h5⟩
   | g j=>rw [aB (by simp)];simpa using ih
   | l j=>rw [aB (by simp)];simpa using ih
  | _=>rw [aB (by simp)];simpa using ih
theorem HZ:∀(l:List (aI×Nat)) (bj:List aI),bj.Nodup→(sd bj l).Nodup∧(∃t,sd bj l=bj++t)∧∀r∈sd bj l,r∈bj∨∃g,(r,g)∈l
 | [],bj,h=>⟨h,⟨[],by simp [sd]⟩,fun r hr=>.inl hr⟩
 | (x,g)::t,bj,h=>by
  simp only [sd];split
  ·obtain ⟨h1,h2,h3⟩:=HZ t bj h;exact ⟨h1,h2,fun r hr=>(h3 r hr).imp id (fun ⟨g',hg⟩=>⟨g',by simp [hg]⟩)⟩
  ·rename_i hx;have hn:(bj++[x]).Nodup:=by
    rw [HG];refine ⟨h,by simp,fun a ha b hb=>?_⟩;simp only [tJ] at hb;subst hb;rintro rfl;exact hx (by simpa using ha)
   obtain ⟨h1,⟨u,h2⟩,h3⟩:=HZ t (bj++[x]) hn;refine ⟨h1,⟨x::u,by rw [h2];simp⟩,fun r hr=>?_⟩;rcases h3 r hr with h4 | ⟨g',h4⟩
   ·rcases dA.1 h4 with h5 | h5
    ·exact .inl h5
    ·simp only [tJ] at h5;subst h5;exact .inr ⟨g,by simp⟩
   ·exact .inr ⟨g',by simp [h4]⟩
def A9 (S0:St) (ws:List Wr) (r:aI):Prop:=qb ws (.r r)=none∧r.iW=false
def wW (S0:St) (ws:List Wr) (x:aI×Nat):Prop:=x.2=S0.γ (.r x.1)∧A9 S0 ws x.1
theorem Gv:∀(l:List (aI×Nat)) {u:Unit},(xV ws l).run S0=some u→∀x∈l,wW S0 ws x
 | [],u,h,x,hx=>by simp at hx
 | (r,g)::t,u,h,x,hx=>by
  simp only [xV] at h;have h1:=Q.ny h;obtain ⟨h2,h3⟩:=Q.en h1;simp only [bK,eW,nJ,Vl] at h2;rcases gU.1 hx with rfl | hx
  ·exact ⟨h2.1.1.symm,h2.1.2,h2.2⟩
  ·exact Gv t h3 x hx
theorem Mi {r:aI}:∀(n c:Nat) {cs:List C},(Az ws r c n).run S0=some cs→cs.length=n∧∀j x,cs[j]? = some x→(S0.ah ws).E (.b r (c+j)) = .one x
 | 0,c,cs,h=>by
  simp only [Az,Q.run_pure,aj] at h;subst h;exact ⟨rfl,fun j x hj=>by simp at hj⟩
 | n+1,c,cs,h=>by
  simp only [Az] at h;rw [Q.run_bind,u7,Option.bind_some] at h;split at h
  ·rename_i x hx;obtain ⟨t,h1,h2⟩:=Q.aK h;obtain rfl:=Q.aZ h2;obtain ⟨g1,g2⟩:=Mi n (c+1) h1;refine ⟨by simp [g1],fun j y hj=>?_⟩;cases j with
   | zero=>simp at hj;subst hj;exact hx
   | succ j=>
    have:=g2 j y (by simpa using hj);rwa [show c+1+j=c+(j+1) by omega] at this
  ·cases h
theorem YF:∀(fuel:Nat) (bj:List aI) (i:Nat) {rs:List aI} {bs:List (List C)},bj.Nodup→(zr ws fuel bj i).run S0=some (rs,bs)→rs.Nodup∧(∃t,rs=bj++t)∧(∀r∈rs,r∈bj∨A9 S0 ws r)∧bs.length=rs.length - i∧
  ∀(k:Nat) r cs,rs[i+k]? = some r→bs[k]? = some cs→cs.length=cp (S0.E (.r r))∧(∀j x,cs[j]? = some x→(S0.ah ws).E (.b r j) = .one x)∧∀x∈kY cs,wW S0 ws x
 | 0,bj,i,rs,bs,hn,h=>by
  simp only [zr,Q.run_ite] at h;split at h
  ·rename_i hle;obtain ⟨rfl,rfl⟩:rs=bj∧bs=[]:=by simpa [eq_comm] using h
   exact ⟨hn,⟨[],by simp⟩,fun r hr=>.inl hr,by simp;omega,fun k r cs hk hc=>by simp at hc⟩
  ·cases h
 | f+1,bj,i,rs,bs,hn,h=>by
  simp only [zr] at h;split at h
  ·rename_i vH;obtain ⟨rfl,rfl⟩:rs=bj∧bs=[]:=by simpa [eq_comm] using h
   have:=U5.1 vH;exact ⟨hn,⟨[],by simp⟩,fun r hr=>.inl hr,by simp;omega,fun k r cs hk hc=>by simp at hc⟩
  ·rename_i r0 uo;have h1:=Q.ny h;obtain ⟨gV,h2,h3⟩:=Q.aK h1;obtain ⟨u,h4,h5⟩:=Q.aK h3;obtain ⟨⟨Tx,dM⟩,h6,h7⟩:=Q.aK h5;obtain ⟨rfl,rfl⟩:rs=Tx∧bs=gV::dM:=by simpa [eq_comm] using Q.aZ h7
   obtain ⟨a1,⟨t1,a2⟩,a3⟩:=HZ (kY gV) bj hn;obtain ⟨b1,⟨t2,b2⟩,b3,b4,b5⟩:=YF f _ (i+1) a1 h6;obtain ⟨c1,c2⟩:=Mi _ _ h2;have mq:=Gv _ h4;have hi:i < bj.length:=(cA.1 uo).1;have hlen:rs.length≥bj.length:=by rw [b2,a2];simp
   refine ⟨b1,⟨t1++t2,by rw [b2,a2];simp⟩,fun r hr=>?_,by simp [b4];omega,?_⟩
   ·rcases b3 r hr with h | h
    ·rcases a3 r h with h | ⟨g,h⟩
     ·exact .inl h
     ·exact .inr (mq _ h).2
    ·exact .inr h
   ·intro k r cs hk hc;cases k with
    | zero=>
     simp only [kE,aj] at hc;subst hc;have:r=r0:=by
      rw [b2,a2,jn,ej,mS hi,uo] at hk;simpa using hk.symm
     subst this;refine ⟨c1,fun j x hj=>?_,mq⟩;have:=c2 j x hj;rwa [de] at this
    | succ k=>
     exact b5 k r cs (by rw [show i+1+k=i+(k+1) by omega];exact hk) (by simpa using hc)
end
end
section
section
variable {nm:FuncId→Option Nat} {N:Nat} {S S0:St} {a:Act} {w w0 w':World} {L L0:aw} {P:Program} {o:Oper} {Cl:bX} {d:Nat} {ws:List Wr} {γ:Key→Nat} {rs:List aI} {E:Key→V}
theorem getD_some {α:Type} {l:List α} {i:Nat} {d:α} (h:i < l.length):l[i]? = some (l.getD i d):=by
 rw [ke h,kD,ke h];rfl
theorem Z1:∀{l l':List V} (j:Nat) {c':V},uu rs l=some l'→l'[j]? = some c'→∃c,l[j]? = some c∧c.Cy rs=some c'
 | [],l',j,c',h,hj=>by simp only [uu,aj] at h;subst h;simp at hj
 | c::t,l',j,c',h,hj=>by
  simp only [uu] at h;obtain ⟨c1,h1,h2⟩:=fq.1 h;obtain ⟨t1,h3,rfl⟩:=bH h2;cases j with
  | zero=>simp at hj;subst hj;exact ⟨c,rfl,h1⟩
  | succ j=>obtain ⟨c2,g1,g2⟩:=Z1 j h3 (by simpa using hj);exact ⟨c2,by simpa using g1,g2⟩
theorem Rd:∀{l l':List V},uu rs l=some l'→l'.length=l.length
 | [],l',h=>by simp only [uu,aj] at h;subst h;rfl
 | c::t,l',h=>by
  simp only [uu] at h;obtain ⟨c1,h1,h2⟩:=fq.1 h;obtain ⟨t1,h3,rfl⟩:=bH h2;simp [Rd h3]
theorem Ra:∀{l l':List (List C)} (j:Nat) {c':List C},pI rs l=some l'→l'[j]? = some c'→∃c,l[j]? = some c∧lV rs c=some c'
 | [],l',j,c',h,hj=>by simp only [pI,aj] at h;subst h;simp at hj
 | c::t,l',j,c',h,hj=>by
  simp only [pI] at h;obtain ⟨c1,h1,h2⟩:=fq.1 h;obtain ⟨t1,h3,rfl⟩:=bH h2;cases j with
  | zero=>simp at hj;subst hj;exact ⟨c,rfl,h1⟩
  | succ j=>obtain ⟨c2,g1,g2⟩:=Ra j h3 (by simpa using hj);exact ⟨c2,by simpa using g1,g2⟩
theorem Rb:∀{l l':List (List C)},pI rs l=some l'→l'.length=l.length
 | [],l',h=>by simp only [pI,aj] at h;subst h;rfl
 | c::t,l',h=>by
  simp only [pI] at h;obtain ⟨c1,h1,h2⟩:=fq.1 h;obtain ⟨t1,h3,rfl⟩:=bH h2;simp [Rb h3]
theorem aef:∀{l:List V} {j:Nat} {v:V} {x:aI×Nat},l[j]? = some v→x∈kY v.cells→x∈tD l
 | [],_,_,_,h,_=>by simp at h
 | y::t,0,c,x,h,hx=>by simp at h;subst h;simp [tD,hx]
 | y::t,j+1,c,x,h,hx=>by simp only [tD,dA];exact .inr (aef (by simpa using h) hx)
theorem bD.enter {k:Key} {x:V} {v:Value} (h:bD nm w L γ k x v) {x':V} (hi:x.Cy rs=some x') (hl:∀y∈kY x.cells,y.2=γ (.r y.1)) (hc:x.clean=true) (k':Key):bD nm w (gp rs E L) (fun _=>0) k' x' v:=by
 cases h with
 | @one c v h=>
  simp only [V.Cy] at hi;obtain ⟨c',h1,rfl⟩:=bH hi;exact .one (h.enter h1 (fun y hy=>hl y (by simp [V.cells,kY,hy])) hc _ _)
 | @agg cs vs hlen h=>
  simp only [V.Cy] at hi;obtain ⟨ez,h1,rfl⟩:=bH hi;refine .agg (by rw [xL h1];exact hlen) (fun j c u hj hu=>?_);obtain ⟨c0,g1,g2⟩:=xK j h1 hj;exact (h j c0 u g1 hu).enter g2 (fun y hy=>hl y (yk g1 hy)) (ko hc g1) _ _
 | aq=>simp [V.Cy] at hi
theorem BI (vs:List V) (bs:List (List C)):(ga 0 vs++dm 0 bs:St).γ=fun _=>0:=by
 funext k;unfold St.γ;rw [po];cases k with
 | s j=>simp only;split;rfl;rw [pv]
 | r x=>simp only;rw [pv];cases x<;>simp only<;>(try split)<;>rfl
 | b x c=>simp only;rw [pv];cases x<;>simp only<;>(try split)<;>rfl
 | h i=>simp only;rw [pv]
 | a k=>simp only;rw [pv]
theorem Ii (bs:List (List C)):(dm 0 bs:St).γ=fun _=>0:=by
 have:=BI [] bs;simpa [ga] using this
theorem pw (bs:List (List C)) (k:Key):(dm 0 bs:St).E k=match k with
  | .r (.e j)=>if j < bs.length then fy (bs.getD j []).length else V.dead
  | .b (.e j) c=>if j < bs.length∧c < (bs.getD j []).length then .one ((bs.getD j []).getD c .dead) else V.dead
  | _=>V.dead:=by
 unfold St.E;rw [pv];cases k with
 | r x=>cases x<;>simp only<;>(try (simp only [yR,ll,de,A6];split<;>rfl))<;>rfl
 | b x c=>cases x<;>simp only<;>(try (simp only [yR,ll,de,A6];split<;>rfl))<;>rfl
 | _=>rfl
theorem ahZ (M:ch nm N S0 w0 L0 ws a w L) {vs eR:List V} {bs dM:List (List C)} (mq:∀x∈tD vs,wW S0 ws x) (hg:(zr ws 40 (sd [] (tD vs)) 0).run S0=some (rs,bs)) (kU:uu rs vs=some eR) (qi:pI rs bs=some dM)
  {args:Array Value} (bf:args.size=vs.length) (aS:iF vs=true) (kR:∀(j:Nat) x u,vs[j]? = some x→args[j]? = some u→bD nm w L (S0.ah ws).γ (.h 0) x u) :
  Rel nm eR.length (ga 0 eR++dm 0 dM) ⟨args,[]⟩ w (gp rs (S0.ah ws).E L)∧eI (gp rs (S0.ah ws).E L)∧rs.Nodup∧(∀r∈rs,A9 S0 ws r)∧bs.length=rs.length∧dM.length=rs.length∧
   (∀(k:Nat) r cs,rs[k]? = some r→bs[k]? = some cs→cs.length=cp (S0.E (.r r))∧(∀j x,cs[j]? = some x→(S0.ah ws).E (.b r j) = .one x)):=by
 obtain ⟨a1,⟨t1,a2⟩,a3⟩:=HZ (tD vs) [] List.nodup_nil;obtain ⟨b1,⟨t2,b2⟩,b3,b4,b5⟩:=YF 40 _ 0 a1 hg;have lx:∀r∈rs,A9 S0 ws r:=by
  intro r hr;rcases b3 r hr with h | h
  ·rcases a3 r h with h | ⟨g,h⟩
   ·simp at h
   ·exact (mq _ h).2
  ·exact h
 have qh:bs.length=rs.length:=by rw [b4];omega
 have ajn:dM.length=rs.length:=by rw [Rb qi,qh]
 have PX:∀(k:Nat) r cs,rs[k]? = some r→bs[k]? = some cs→cs.length=cp (S0.E (.r r))∧(∀j x,cs[j]? = some x→(S0.ah ws).E (.b r j) = .one x)∧∀x∈kY cs,wW S0 ws x:=
  fun k r cs h1 h2=>b5 k r cs (by rw [de];exact h1) h2
 have hγ:∀{x:aI×Nat},wW S0 ws x→x.2=(S0.ah ws).γ (.r x.1):=fun h=>by rw [HP h.2.1];exact h.1
 have box:∀j,j < dM.length→∃r cs,rs[j]? = some r∧bs[j]? = some cs∧lV rs cs=some (dM.getD j [])∧(dM.getD j []).length=cp ((S0.ah ws).E (.r r))∧r.iW=false∧jm rs r 0=some j∧
   (∀i x,cs[i]? = some x→(S0.ah ws).E (.b r i) = .one x)∧∀x∈kY cs,wW S0 ws x:=by
  intro j hj;have ug:dM[j]? = some (dM.getD j []):=by simp [kD,hj]
  obtain ⟨cs,h1,h2⟩:=Ra j qi ug;have Qt:j < rs.length:=by omega
  obtain ⟨c1,c2,c3⟩:=PX j rs[j] cs (by simp) h1;have hl:=lx rs[j] (bM Qt);refine ⟨rs[j],cs,by simp,h1,h2,?_,hl.2,?_,c2,c3⟩
  ·rw [xL h2,c1,BT,hl.1];rfl
  ·have:=yu rs (i:=0) b1 (show rs[j]? = some rs[j] by simp);rwa [de] at this
 refine ⟨⟨?_,rfl,?_,?_,?_,?_,?_,?_,?_,?_⟩,?_,b1,lx,qh,ajn,fun k r cs h1 h2=>⟨(PX k r cs h1 h2).1,(PX k r cs h1 h2).2.1⟩⟩
 ·rw [bf,Rd kU]
 ·intro i;rw [BI];show bD nm w _ _ (.s i) ((ga 0 eR++dm 0 dM:St).E (.s i)) (args.getD i undef);have hE:(ga 0 eR++dm 0 dM:St).E (.s i)=if i < eR.length then eR.getD i V.dead else V.dead:=by
   unfold St.E;rw [po];simp only [yR,ll,de,A6];split
   ·rfl
   ·rw [pv];rfl
  rw [hE];split
  ·rename_i hi;obtain ⟨x,h1,h2⟩:=Z1 i kU (show eR[i]? = some (eR.getD i V.dead) by simp [kD,hi]);have vz:i < args.size:=by rw [bf,←Rd kU];exact hi
   have:=(kR i x args[i] h1 (by simp [vz])).enter (E:=(S0.ah ws).E) h2 (fun y hy=>hγ (mq y (aef h1 hy))) (Ey aS h1) (.s i);simpa [Array.getD,vz] using this
  ·exact .one .dead
 ·intro r c x hx gi;have fI:(dm 0 dM:St).E (.b r c) = .one x:=by
   have:=hx;unfold St.E at this ⊢;rw [po] at this;exact this
  rw [BI];rw [pw] at fI;cases r with
  | g i=>simp only [V.dead,V.one.injEq] at fI;exact absurd fI.symm gi
  | l i=>simp only [V.dead,V.one.injEq] at fI;exact absurd fI.symm gi
  | e j=>
   simp only at fI;split at fI
   ·rename_i Fi;obtain ⟨r0,cs,h1,h2,h3,h4,h5,h6,h7,h8⟩:=box j Fi.1;simp only [V.one.injEq] at fI;obtain ⟨y,k1,k2⟩:=xK c h3 (show (dM.getD j [])[c]? = some x by rw [←fI];exact getD_some Fi.2);have FM:=h7 c y k1;have jh:y≠.dead:=by
     rintro rfl;simp only [C.ef,aj] at k2;exact gi k2.symm
    have oJ:=M.rel.cell r0 c y FM jh;have ex:∃B o cur e fz v,L B=some (.box r0 o)∧w.heap[B]? = some (.cells cur e fz)∧jD cur.size fz∧cur[o+c]? = some v∧aF nm w L (S0.ah ws).γ (.b r0 c) 0 y v∧lO y B o c e cur.size v:=by
     cases r0 with
     | g i=>simp [aI.iW] at h5
     | e i=>exact oJ
     | l i=>exact oJ
    obtain ⟨B,o,cur,e,fz,v,m1,m2,m3,m4,m5,m6⟩:=ex;exact ⟨B,o,cur,e,fz,v,zm m1 h6,m2,m3,m4,m5.XX k2 (fun z hz=>hγ (h8 z (yk k1 hz))) FM h6,Z0 k2 m6⟩
   ·simp only [V.dead,V.one.injEq] at fI;exact absurd fI.symm gi
 ·intro r c;have:(ga 0 eR++dm 0 dM:St).E (.b r c)=(dm 0 dM:St).E (.b r c):=by unfold St.E;rw [po]
  rw [this,pw];cases r with
  | e j=>
   simp only;split
   ·exact ⟨(dM.getD j []).getD c .dead,rfl⟩
   ·exact ⟨.dead,rfl⟩
  | g i=>exact ⟨.dead,rfl⟩
  | l i=>exact ⟨.dead,rfl⟩
 ·intro r c hc;have h1:(ga 0 eR++dm 0 dM:St).E (.b r c)=(dm 0 dM:St).E (.b r c):=by unfold St.E;rw [po]
  have h2:(ga 0 eR++dm 0 dM:St).E (.r r)=(dm 0 dM:St).E (.r r):=by unfold St.E;rw [po]
  rw [h2] at hc;rw [h1];rw [pw] at hc ⊢;cases r with
  | e j=>
   simp only at hc ⊢;by_cases hj:j < dM.length
   ·rw [aJ hj,qW] at hc;rw [aB (fun h=>by omega)];rfl
   ·rw [aB (fun h=>hj h.1)];rfl
  | g i=>rfl
  | l i=>rfl
 ·intro r hg hr;have h2:(ga 0 eR++dm 0 dM:St).E (.r r)=(dm 0 dM:St).E (.r r):=by unfold St.E;rw [po]
  rw [h2] at hr ⊢;rw [pw] at hr ⊢;cases r with
  | e j=>
   simp only at hr ⊢;by_cases hj:j < dM.length
   ·rw [aJ hj,qW] at hr ⊢;obtain ⟨r0,cs,h1,h2,h3,h4,h5,h6,h7,h8⟩:=box j hj;rw [h4] at hr ⊢;obtain ⟨B,o,cur,e,fz,m1,m2,m3,m4⟩:=M.rel.room r0 h5 hr;exact ⟨B,o,cur,e,fz,zm m1 h6,m2,m3,m4⟩
   ·rw [aB hj] at hr;simp [V.dead,cp] at hr
  | g i=>simp [aI.iW] at hg
  | l i=>simp [V.dead,cp] at hr
 ·intro B l hB;rcases pz hB with ⟨_,h⟩ | ⟨_,_,_,_,h,_⟩ | ⟨_,_,_,_,_,_,_,_,h,_⟩<;>exact M.rel.ft B _ h
 ·intro B B' pl o o' h1 h2;rcases pz h1 with ⟨h,_⟩ | ⟨_,_,_,h,_⟩ | ⟨r,c,j,p,o1,i,x,h,k1,k2,_⟩
  ·cases h
  ·cases h
  rcases pz h2 with ⟨h',_⟩ | ⟨_,_,_,h',_⟩ | ⟨r',c',j',p',np,i',x',h',Aa,Ab,_⟩
  ·cases h'
  ·cases h'
  simp only [bS.row.injEq] at h h';obtain ⟨rfl,rfl⟩:=h;obtain ⟨h',rfl⟩:=h';simp only [Place.mk.injEq,Key.b.injEq,aI.e.injEq] at h';obtain ⟨⟨rfl,rfl⟩,rfl,rfl⟩:=h';have e1:=(qJ rs k2).2;have e2:=(qJ rs Ab).2;rw [e1] at e2;simp only [aj] at e2;subst e2;exact M.rel.eM B B' _ _ _ k1 Aa
 ·intro B B' r o o' h1 h2;rcases pz h1 with ⟨h,_⟩ | ⟨r1,o1,i,h,k1,k2⟩ | ⟨_,_,_,_,_,_,_,h,_⟩
  ·cases h
  ·rcases pz h2 with ⟨h',_⟩ | ⟨G1,np,i',h',Aa,Ab⟩ | ⟨_,_,_,_,_,_,_,h',_⟩
   ·cases h'
   ·simp only [bS.box.injEq] at h h';obtain ⟨rfl,rfl⟩:=h;obtain ⟨h',rfl⟩:=h';simp only [aI.e.injEq] at h';subst h';have e1:=(qJ rs k2).2;have e2:=(qJ rs Ab).2;rw [e1] at e2;simp only [aj] at e2;subst e2;exact M.rel.fE B B' _ _ _ k1 Aa
   ·cases h'
  ·cases h
 ·intro B q o hB;rcases pz hB with ⟨h,_⟩ | ⟨_,_,_,h,_⟩ | ⟨_,_,_,_,_,_,_,h,_⟩
  ·cases h
  ·cases h
  ·simp only [bS.row.injEq] at h;rw [h.1];rfl
end
end
section
def jq (rs:List aI) (ok:Nat→Nat→Bool) (size:Nat) (L Lc eS:aw):aw:=fun B=>
 if (Lc B).isNone=true∧B < size then
  match L B with
  | some (.row ⟨.b r c,j,p⟩ o)=>(match jm rs r 0 with | some i=>if ok i c=true then none else some (.row ⟨.b r c,j,p⟩ o) | none=>some (.row ⟨.b r c,j,p⟩ o))
  | some (.box r o)=>if rs.contains r=true then none else some (.box r o)
  | x=>x
 else
  match eS B with
  | some .bh=>some .bh
  | some (.box (.e i) o)=>(rs[i]?).map fun r=>.box r o
  | some (.row ⟨.b (.e i) c,j,p⟩ o)=>(match rs[i]? with | some r=>if ok i c=true then some (.row ⟨.b r c,j,p⟩ o) else none | none=>none)
  | some (.row ⟨.h 0,j,p⟩ o)=>some (.row ⟨.h 0,j,p⟩ o)
  | _=>none
mutual
theorem LW {gs:List (aI×Nat)}:∀{c c':C},c.clean=true→c.dV gs=some c'→c'.clean=true
 | .d x,c',h,hi=>by simp only [C.dV,aj] at hi;subst hi;exact h
 | .ptr (.e i) g k,c',h,hi=>by simp only [C.dV] at hi;obtain ⟨i,_,rfl⟩:=bH hi;rfl
 | .ptr (.l i) g k,c',h,hi=>by simp [C.dV] at hi
 | .ptr (.g i) g k,c',h,hi=>by simp [C.dV] at hi
 | .pp cells,c',h,hi=>by simp only [C.dV,aj] at hi;subst hi;rfl
 | .fn f x y,c',h,hi=>by
  simp only [C.dV] at hi;obtain ⟨x',h1,h2⟩:=fq.1 hi;obtain ⟨y',h3,rfl⟩:=bH h2;simp only [C.clean,bK] at h ⊢;exact ⟨LY h.1 h1,LY h.2 h3⟩
 | .cE,c',h,hi=>by simp only [C.dV,aj] at hi;subst hi;rfl
 | .eX,c',h,hi=>by simp only [C.dV,aj] at hi;subst hi;rfl
 | .fR,c',h,hi=>by simp only [C.dV,aj] at hi;subst hi;rfl
 | .fj,c',h,hi=>by simp only [C.dV,aj] at hi;subst hi;rfl
 | .dead,c',h,hi=>by simp only [C.dV,aj] at hi;subst hi;rfl
 | .eD ..,c',h,hi=>by simp [C.dV] at hi
 | .view ..,c',h,hi=>by simp [C.dV] at hi
 | .c8 ..,c',h,hi=>by simp [C.dV] at hi
 | .mp _,c',h,hi=>by simp [C.dV] at hi
 | .gj ..,c',h,hi=>by simp [C.dV] at hi
theorem LY {gs:List (aI×Nat)}:∀{l l':List C},jo l=true→nu gs l=some l'→jo l'=true
 | [],l',h,hi=>by simp only [nu,aj] at hi;subst hi;rfl
 | c::t,l',h,hi=>by
  simp only [nu] at hi;obtain ⟨c1,h1,h2⟩:=fq.1 hi;obtain ⟨t1,h3,rfl⟩:=bH h2;simp only [jo,bK] at h ⊢;exact ⟨LW h.1 h1,LY h.2 h3⟩
end
theorem Dj {gs:List (aI×Nat)}:∀{l l':List C} (j:Nat) {c':C},nu gs l=some l'→l'[j]? = some c'→∃c,l[j]? = some c∧c.dV gs=some c'
 | [],l',j,c',h,hj=>by simp only [nu,aj] at h;subst h;simp at hj
 | c::t,l',j,c',h,hj=>by
  simp only [nu] at h;obtain ⟨c1,h1,h2⟩:=fq.1 h;obtain ⟨t1,h3,rfl⟩:=bH h2;cases j with
  | zero=>simp at hj;subst hj;exact ⟨c,rfl,h1⟩
  | succ j=>obtain ⟨c2,g1,g2⟩:=Dj j h3 (by simpa using hj);exact ⟨c2,by simpa using g1,g2⟩
theorem Dk {gs:List (aI×Nat)}:∀{l l':List C},nu gs l=some l'→l'.length=l.length
 | [],l',h=>by simp only [nu,aj] at h;subst h;rfl
 | c::t,l',h=>by
  simp only [nu] at h;obtain ⟨c1,h1,h2⟩:=fq.1 h;obtain ⟨t1,h3,rfl⟩:=bH h2;simp [Dk h3]
theorem abT {gs:List (aI×Nat)}:∀{l l':List V} (j:Nat) {c':V},s8 gs l=some l'→l'[j]? = some c'→∃c,l[j]? = some c∧c.pN gs=some c'
 | [],l',j,c',h,hj=>by simp only [s8,aj] at h;subst h;simp at hj
 | c::t,l',j,c',h,hj=>by
  simp only [s8] at h;obtain ⟨c1,h1,h2⟩:=fq.1 h;obtain ⟨t1,h3,rfl⟩:=bH h2;cases j with
  | zero=>simp at hj;subst hj;exact ⟨c,rfl,h1⟩
  | succ j=>obtain ⟨c2,g1,g2⟩:=abT j h3 (by simpa using hj);exact ⟨c2,by simpa using g1,g2⟩
theorem abU {gs:List (aI×Nat)}:∀{l l':List V},s8 gs l=some l'→l'.length=l.length
 | [],l',h=>by simp only [s8,aj] at h;subst h;rfl
 | c::t,l',h=>by
  simp only [s8] at h;obtain ⟨c1,h1,h2⟩:=fq.1 h;obtain ⟨t1,h3,rfl⟩:=bH h2;simp [abU h3]
mutual
theorem aou {gs:List (aI×Nat)}:∀{c c':V},c.clean=true→c.pN gs=some c'→c'.clean=true
 | .one c,c',h,hi=>by simp only [V.pN] at hi;obtain ⟨x,h1,rfl⟩:=bH hi;exact LW (c:=c) h h1
 | .agg cs,c',h,hi=>by simp only [V.pN] at hi;obtain ⟨x,h1,rfl⟩:=bH hi;exact LY (l:=cs) h h1
 | .aq vs,c',h,hi=>by simp only [V.pN] at hi;obtain ⟨x,h1,rfl⟩:=bH hi;exact SL (l:=vs) h h1
theorem SL {gs:List (aI×Nat)}:∀{l l':List V},iF l=true→s8 gs l=some l'→iF l'=true
 | [],l',h,hi=>by simp only [s8,aj] at hi;subst hi;rfl
 | c::t,l',h,hi=>by
  simp only [s8] at hi;obtain ⟨c1,h1,h2⟩:=fq.1 hi;obtain ⟨t1,h3,rfl⟩:=bH h2;simp only [iF,bK] at h ⊢;exact ⟨aou h.1 h1,SL h.2 h3⟩
end
theorem abR {gs:List (aI×Nat)}:∀{l l':List (List C)} (j:Nat) {c':List C},rE gs l=some l'→l'[j]? = some c'→∃c,l[j]? = some c∧nu gs c=some c'
 | [],l',j,c',h,hj=>by simp only [rE,aj] at h;subst h;simp at hj
 | c::t,l',j,c',h,hj=>by
  simp only [rE] at h;obtain ⟨c1,h1,h2⟩:=fq.1 h;obtain ⟨t1,h3,rfl⟩:=bH h2;cases j with
  | zero=>simp at hj;subst hj;exact ⟨c,rfl,h1⟩
  | succ j=>obtain ⟨c2,g1,g2⟩:=abR j h3 (by simpa using hj);exact ⟨c2,by simpa using g1,g2⟩
theorem SK {gs:List (aI×Nat)}:∀{l l':List (List C)},rE gs l=some l'→l'.length=l.length
 | [],l',h=>by simp only [rE,aj] at h;subst h;rfl
 | c::t,l',h=>by
  simp only [rE] at h;obtain ⟨c1,h1,h2⟩:=fq.1 h;obtain ⟨t1,h3,rfl⟩:=bH h2;simp [SK h3]
section
variable {nm:FuncId→Option Nat} {N:Nat} {a:Act} {w w':World} {L Lc eS L2:aw} {γ2:Key→Nat} {gs:List (aI×Nat)}
structure D5 (w':World) (eS L2:aw) (γ2:Key→Nat) (gs:List (aI×Nat)):Prop where
 bh:∀B,eS B=some .bh→L2 B=some .bh
 box:∀B (i:Nat) r g o,gs[i]? = some (r,g)→eS B=some (.box (.e i) o)→L2 B=some (.box r o)
 gen:∀(i:Nat) r g,gs[i]? = some (r,g)→g≤γ2 (.r r)
theorem aF.back {k:Key} {j:Nat} {c:C} {v:Value} (hb:D5 w' eS L2 γ2 gs) (h:aF nm w' eS (fun _=>0) k j c v):∀{c':C},c.dV gs=some c'→c.clean=true→∀k' j',aF nm w' L2 γ2 k' j' c' v:=by
 have fT:r8 w' w' eS L2:=fun B hB=>⟨hb.bh B hB,rfl⟩
 induction h with
 | @d x v h=>
  intro c' hi hc k' j';simp only [C.dV,aj] at hi;subst hi;cases h with
  | plain h=>exact .d (.plain (h.mono fT))
  | jl=>simp [C.clean] at hc
  | own=>simp [C.clean] at hc
 | @ptr r g c v hv hg h=>
  intro c' hi hc k' j';cases r with
  | e i=>
   simp only [C.dV] at hi;obtain ⟨⟨r',g'⟩,h1,rfl⟩:=bH hi;obtain ⟨B,o,h2,h3⟩:=h (by omega);exact .ptr hv (hb.gen i r' g' h1) (fun _=>⟨B,o,hb.box B i r' g' o h1 h2,h3⟩)
  | l i=>simp [C.dV] at hi
  | g i=>simp [C.dV] at hi
 | eD=>intro c' hi;simp [C.dV] at hi
 | pp hL hB h=>
  intro c' hi hc k' j';simp only [C.dV,aj] at hi;subst hi;refine .pp (hb.bh _ hL) hB (fun q x hx=>?_);obtain ⟨u,h1,h2⟩:=h q x hx;exact ⟨u,h1,h2.mono fT⟩
 | view=>intro c' hi;simp [C.dV] at hi
 | c8=>intro c' hi;simp [C.dV] at hi
 | mp=>intro c' hi;simp [C.dV] at hi
 | gj=>intro c' hi;simp [C.dV] at hi
 | @fns f l v B o cap cur e fz val hf hL hB aS hv h ih=>
  intro c' hi hc k' j';have sI:=LW hc hi;simp only [C.dV] at hi;obtain ⟨x',g1,g2⟩:=fq.1 hi;obtain ⟨y',g3,rfl⟩:=bH g2;simp only [nu,aj] at g1;subst g1;simp only [C.clean,bK] at sI;have hlen:=Dk g3;refine .fns val (by rw [hlen];exact hf) (hb.bh _ hL) hB sI.2 (by rw [hlen];exact hv) ?_;intro i x hx;obtain ⟨c0,k1,k2⟩:=Dj i g3 hx;exact ih i c0 k1 k2 (ko aS k1) _ _
 | @fn f first cap cH fs cs jI hf h1 h2 aS h3 h4 sP sQ=>
  intro c' hi hc k' j';have sI:=LW hc hi;simp only [C.dV] at hi;obtain ⟨x',g1,g2⟩:=fq.1 hi;obtain ⟨y',g3,rfl⟩:=bH g2;simp only [C.clean,bK] at sI;refine .fn jI hf (by rw [Dk g1];exact h1) (by rw [Dk g3];exact h2) sI ?_ ?_
  ·intro i x u hx hu;obtain ⟨c0,k1,k2⟩:=Dj i g1 hx;exact sP i c0 u k1 hu k2 (ko aS.1 k1) _ _
  ·intro i x u hx hu;obtain ⟨c0,k1,k2⟩:=Dj i g3 hx;exact sQ i c0 u k1 hu k2 (ko aS.2 k1) _ _
 | cE=>intro c' hi _ _ _;simp only [C.dV,aj] at hi;subst hi;exact .cE
 | eX=>intro c' hi _ _ _;simp only [C.dV,aj] at hi;subst hi;exact .eX
 | fR=>intro c' hi _ _ _;simp only [C.dV,aj] at hi;subst hi;exact .fR
 | fj=>intro c' hi _ _ _;simp only [C.dV,aj] at hi;subst hi;exact .fj
 | bt=>intro c' hi hc;simp [C.clean] at hc
 | dead=>intro c' hi _ _ _;simp only [C.dV,aj] at hi;subst hi;exact .dead
theorem abS {gs:List (aI×Nat)} {c c':C} (hi:c.dV gs=some c') {B o k:Nat} {e:TypeId} {n:Nat} {v:Value} (h:lO c B o k e n v):lO c' B o k e n v:=by
 cases c' with
 | bt t=>
  cases c with
  | bt t'=>simp only [C.dV,aj,C.bt.injEq] at hi;subst hi;exact h
  | ptr r g c=>
   cases r with
   | e i=>simp only [C.dV] at hi;obtain ⟨i,_,h2⟩:=bH hi;cases h2
   | l i=>simp [C.dV] at hi
   | g i=>simp [C.dV] at hi
  | fn f a b=>simp only [C.dV] at hi;obtain ⟨_,_,h2⟩:=fq.1 hi;obtain ⟨_,_,h3⟩:=bH h2;cases h3
  | _=>simp [C.dV] at hi
 | _=>trivial
theorem aF.NV {k k':Key} {j:Nat} {c:C} {v:Value} (hb:D5 w' eS L2 γ2 gs) (h:aF nm w' eS (fun _=>0) k j c v) {c':C} (hi:c.dV gs=some c')
  (c6:∀x,c = .d x→∀B q o,q.k=k→q.j=j→eS B=some (.row q o)→L2 B=some (.row ⟨k',j,q.p⟩ o)) (hkk:(∃r c,k = .b r c)→∃r c,k' = .b r c:=by first | exact fun h=>h | exact fun _=>⟨_,_,rfl⟩ | (rintro ⟨r,c,h⟩;cases h;done)):aF nm w' L2 γ2 k' j c' v:=by
 cases c with
 | d x=>
  simp only [C.dV,aj] at hi;subst hi;cases h with
  | d h=>
   exact .d (br.move (fun q=>⟨k',j,q.p⟩) (fun q=>q.k=k∧q.j=j) (fun _ _ _ h=>h) (fun _ _ _ _=>rfl) (fun B hB=>⟨hb.bh B hB,rfl⟩) (fun B q o hq hL=>⟨c6 x rfl B q o hq.1 hq.2 hL,rfl⟩) h ⟨rfl,rfl⟩)
 | c8=>simp [C.dV] at hi
 | mp=>simp [C.dV] at hi
 | bt t=>
  simp only [C.dV,aj] at hi;subst hi;cases h with
  | bt hk hv=>exact .bt (hkk hk) hv
 | _=>exact h.back hb hi (h.va rfl) _ _
theorem bD.back {x:V} {v:Value} (hb:D5 w' eS L2 γ2 gs) (h:bD nm w' eS (fun _=>0) (.h 0) x v):∀{x':V},x.pN gs=some x'→(∀B q o,q.k = .h 0→eS B=some (.row q o)→L2 B=some (.row q o))→bD nm w' L2 γ2 (.h 0) x' v:=by
 induction h with
 | @one c v h=>
  intro x' hi c6;simp only [V.pN] at hi;obtain ⟨c',h1,rfl⟩:=bH hi;exact .one (h.NV hb h1 (fun x _ B q o h1 h2 h3=>by have:=c6 B q o h1 h3;rw [this];cases q;simp_all))
 | @agg cs vs hl h=>
  intro x' hi c6;simp only [V.pN] at hi;obtain ⟨ez,h1,rfl⟩:=bH hi;refine .agg (by rw [Dk h1];exact hl) (fun j c u hj hu=>?_);obtain ⟨c0,g1,g2⟩:=Dj j h1 hj;exact (h j c0 u g1 hu).NV hb g2 (fun x _ B q o h1 h2 h3=>by have:=c6 B q o h1 h3;rw [this];cases q;simp_all)
 | @aq vs us hl aS h ih=>
  intro x' hi c6;simp only [V.pN] at hi;obtain ⟨eR,h1,rfl⟩:=bH hi;refine .aq (by rw [abU h1];exact hl) (SL aS h1) (fun i x u hj hu=>?_);obtain ⟨c0,g1,g2⟩:=abT i h1 hj;exact ih i c0 u g1 hu g2 c6
structure Nu (S1 S2:St) (rs:List aI) (cK:List (List C)) (ok:Nat→Nat→Bool):Prop where
 len:cK.length=rs.length
 Ov:∀(i:Nat) r (cs:List C),rs[i]? = some r→cK[i]? = some cs→∀(c:Nat) x,cs[c]? = some x→S2.E (.b r c) = .one x
 out:∀(i:Nat) r (cs:List C),rs[i]? = some r→cK[i]? = some cs→∀c,cs.length≤c→S2.E (.b r c) = .one .dead
 size:∀(i:Nat) r (cs:List C),rs[i]? = some r→cK[i]? = some cs→cp (S2.E (.r r))=cs.length
 other:∀k,(∀r c,k = .b r c→r∉rs)→(∀r,k = .r r→r∉rs)→S2.E k=S1.E k
 dT:∀k,S1.γ k≤S2.γ k
 wr:∀(i:Nat) r c,rs[i]? = some r→ok i c=true→S1.γ (.b r c) < S2.γ (.b r c)
 ada:∀(i:Nat) r c,rs[i]? = some r→ok i c=false→∀x,S1.E (.b r c)≠.one (.d x)
 same:∀(i:Nat) r (cs:List C),rs[i]? = some r→cK[i]? = some cs→∀(c:Nat) x,cs[c]? = some x→ok i c=false→∀y,x≠.d y
theorem Yh {S1 S2:St} {qP rs:List aI} {cK out:List (List C)} {ok:Nat→Nat→Bool} (R:Rel nm N S1 a w L) (hH:eI L) (jg:rs.Nodup) (rh:∃t,rs=qP++t) (hG:∀r∈rs,r.iW=false)
  (Ci:∀r∈rs,r∉qP→S1.γ (.r r) < S2.γ (.r r)∧∀i,r≠.e i)
  (B3:Lc=gp qP S1.E L) (hm:df w w' Lc eS) (Rc:Rel nm 0 (dm 0 out) ⟨#[],[]⟩ w' eS) (X:Nu S1 S2 rs cK ok) (qp:∀i:Nat,(gs[i]?).map (·.1)=rs[i]?) (ajE:∀(i:Nat) r g,gs[i]? = some (r,g)→g≤S2.γ (.r r))
  (qi:rE gs out=some cK) :
  Rel nm N S2 a w' (jq rs ok w.heap.size L Lc eS)∧df w w' L (jq rs ok w.heap.size L Lc eS)∧D5 w' eS (jq rs ok w.heap.size L Lc eS) S2.γ gs∧
   (∀B q o,q.k = .h 0→eS B=some (.row q o)→jq rs ok w.heap.size L Lc eS B=some (.row q o)):=by
 have vH:∀{B},Lc B=none→B < w.heap.size→eS B=none∧w'.heap[B]? = w.heap[B]?:=fun h1 h2=>hm.none _ h2 h1
 have af:∀{B l},L B=some l→B < w.heap.size:=by
  intro B l hB;exact R.ft B l hB
 have kQ:∀{B l},eS B=some l→¬ ((Lc B).isNone=true∧B < w.heap.size):=by
  rintro B l h ⟨h1,h2⟩;rw [(vH (by simpa using h1) h2).1] at h;cases h
 have vu:D5 w' eS (jq rs ok w.heap.size L Lc eS) S2.γ gs:=by
  refine ⟨fun B hB=>?_,fun B i r g o hg hB=>?_,ajE⟩
  ·unfold jq;rw [aB (kQ hB)];simp [hB]
  ·unfold jq;rw [aB (kQ hB)];have:=qp i;rw [hg] at this;simp only [ff] at this;simp [hB,←this]
 have Fq:∀B q o,q.k = .h 0→eS B=some (.row q o)→jq rs ok w.heap.size L Lc eS B=some (.row q o):=by
  intro B q o hq hB;unfold jq;rw [aB (kQ hB)];obtain ⟨k,j,p⟩:=q;simp only at hq;subst hq;simp [hB]
 have aj6:∀{B i c j p o r},rs[i]? = some r→ok i c=true→eS B=some (.row ⟨.b (.e i) c,j,p⟩ o)→jq rs ok w.heap.size L Lc eS B=some (.row ⟨.b r c,j,p⟩ o):=by
  intro B i c j p o r hr aQ hB;unfold jq;rw [aB (kQ hB)];simp [hB,hr,aQ]
 have Jf:∀{B i o r},rs[i]? = some r→eS B=some (.box (.e i) o)→jq rs ok w.heap.size L Lc eS B=some (.box r o):=by
  intro B i o r hr hB;unfold jq;rw [aB (kQ hB)];simp [hB,hr]
 have qq:∀{r i},rs[i]? = some r→jm rs r 0=some i:=fun h=>by have:=yu rs (i:=0) jg h;rwa [de] at this
 have JE:∀{B r o},L B=some (.box r o)→r∉rs→jq rs ok w.heap.size L Lc eS B=some (.box r o)∧Lc B=none:=by
  intro B r o hB hr;have hl:Lc B=none:=by
   rw [B3];simp only [gp,hB];cases hx:jm qP r 0 with
   | none=>rfl
   | some i=>
    obtain ⟨t,ht⟩:=rh;exact absurd (by rw [ht];exact HF _ (fp (qJ qP hx).2)) hr
  refine ⟨?_,hl⟩;unfold jq;rw [aJ ⟨by rw [hl];rfl,af hB⟩];simp [hB,hr]
 have aka:∀{r},r∈qP→r∈rs:=fun h=>by obtain ⟨t,ht⟩:=rh;rw [ht];exact HF _ h
 have JF:∀{B q o},L B=some (.row q o)→(∀(i:Nat) r c,rs[i]? = some r→q.k = .b r c→ok i c=false)→
   jq rs ok w.heap.size L Lc eS B=some (.row q o)∧Lc B=none:=by
  intro B q o hB h1;have hq:=hH B q o hB;obtain ⟨k,j,p⟩:=q;cases k with
  | s i=>
   have hl:Lc B=none:=by rw [B3];simp [gp,hB]
   refine ⟨?_,hl⟩;unfold jq;rw [aJ ⟨by rw [hl];rfl,af hB⟩];simp [hB]
  | b r c=>
   have hl:Lc B=none:=by
    rw [B3];simp only [gp,hB];cases hx:jm qP r 0 with
    | none=>rfl
    | some i=>
     have Ch:=aka (fp (qJ qP hx).2);obtain ⟨i',uh⟩:=uU Ch;have:=X.ada i' r c uh (h1 i' r c uh rfl);cases hE:S1.E (.b r c) with
     | one y=>cases y<;>first | rfl | exact absurd hE (this _)
     | _=>rfl
   refine ⟨?_,hl⟩;unfold jq;rw [aJ ⟨by rw [hl];rfl,af hB⟩];simp only [hB];cases hx:jm rs r 0 with
   | none=>rfl
   | some i=>
    have:=h1 i r c (qJ rs hx).2 rfl;simp [this]
  | _=>simp [Key.aT] at hq
 have fT:r8 w w' L (jq rs ok w.heap.size L Lc eS):=fun B hB=>by
  have h1:Lc B=some .bh:=by rw [B3];exact vg hB
  exact ⟨vu.bh B (hm.bh B h1).1,(hm.bh B h1).2⟩
 have Y1:∀{B r o},L B=some (.box r o)→r∈qP→jq rs ok w.heap.size L Lc eS B=some (.box r o):=by
  intro B r o hB hr;obtain ⟨i,hi⟩:=uU hr;obtain ⟨t,ht⟩:=rh;have Qo:rs[i]? = some r:=by rw [ht,mS (cA.1 hi).1];exact hi
  have QD:qP.Nodup:=by rw [ht] at jg;exact (HG.1 jg).1
  have h1:Lc B=some (.box (.e i) o):=by
   rw [B3];exact zm hB (by have:=yu qP (i:=0) QD hi;rwa [de] at this)
  exact Jf Qo (hm.Bz B i o h1)
 have ek:∀{B l},L B=some l→Lc B=none→w'.heap[B]? = w.heap[B]?:=fun h1 h2=>(vH h2 (af h1)).2
 have Zx:∀{k:Key},S2.γ k=S1.γ k→∀(i:Nat) r c,rs[i]? = some r→k = .b r c→ok i c=false:=by
  intro k hk i r c hi he;subst he;cases aQ:ok i c with
  | false=>rfl
  | true=>have:=X.wr i r c hi aQ;omega
 have bA:Step w w' L (jq rs ok w.heap.size L Lc eS) S1.γ S2.γ:=by
  refine ⟨fT,X.dT,?_,?_,?_⟩
  ·intro B q o hq hk hB;obtain ⟨h1,h2⟩:=JF hB (Zx hk);exact ⟨h1,fun cur e fz hc=>⟨cur,(ek hB h2).trans hc,rfl⟩⟩
  ·intro B q o hq hk _ hB;obtain ⟨h1,h2⟩:=JF hB (Zx hk);exact ek hB h2
  ·intro B r o hk hB;by_cases hr:r∈rs
   ·by_cases FF:r∈qP
    ·exact Y1 hB FF
    ·have:=(Ci r hr FF).1;omega
   ·exact (JE hB hr).1
 have xG:∀{B l},jq rs ok w.heap.size L Lc eS B=some l→
   (Lc B=none∧L B=some l∧B < w.heap.size∧(∀i r c j p o,l = .row ⟨.b r c,j,p⟩ o→rs[i]? = some r→ok i c=false)∧∀r o,l = .box r o→r∉rs)∨
   (l = .bh∧eS B=some .bh)∨(∃(i:Nat) (r:aI) (o:Nat),l = .box r o∧rs[i]? = some r∧eS B=some (.box (.e i) o))∨
   (∃(i:Nat) (r:aI) (c j:Nat) (p:List (Nat×Nat)) (o:Nat),l = .row ⟨.b r c,j,p⟩ o∧rs[i]? = some r∧ok i c=true∧eS B=some (.row ⟨.b (.e i) c,j,p⟩ o))∨
   (∃(j:Nat) (p:List (Nat×Nat)) (o:Nat),l = .row ⟨.h 0,j,p⟩ o∧eS B=some (.row ⟨.h 0,j,p⟩ o)):=by
  intro B l h;unfold jq at h;split at h
  ·rename_i hc;left;have hn:Lc B=none:=by simpa using hc.1
   split at h
   ·rename_i r c j p o hL;split at h
    ·rename_i i hi;split at h
     ·cases h
     ·rename_i aQ;simp only [aj] at h;subst h;refine ⟨hn,hL,hc.2,?_,by intro _ _ h;cases h⟩;intro i' r' c' j' p' o' he uh;simp only [bS.row.injEq,Place.mk.injEq,Key.b.injEq] at he;obtain ⟨⟨⟨rfl,rfl⟩,rfl,rfl⟩,rfl⟩:=he;have:=qq uh;rw [hi] at this;simp only [aj] at this;subst this;simpa using aQ
    ·rename_i hi;simp only [aj] at h;subst h;refine ⟨hn,hL,hc.2,?_,by intro _ _ h;cases h⟩;intro i' r' c' j' p' o' he uh;simp only [bS.row.injEq,Place.mk.injEq,Key.b.injEq] at he;obtain ⟨⟨⟨rfl,rfl⟩,rfl,rfl⟩,rfl⟩:=he;have:=qq uh;rw [hi] at this;cases this
   ·rename_i r o hL;split at h
    ·cases h
    ·rename_i hr;simp only [aj] at h;subst h;refine ⟨hn,hL,hc.2,(by intro _ _ _ _ _ _ h;cases h),?_⟩;intro r' o' he;simp only [bS.box.injEq] at he;obtain ⟨rfl,rfl⟩:=he;simpa using hr
   ·rename_i h1 h2;refine ⟨hn,h,hc.2,?_,?_⟩
    ·intro i r c j p o he;subst he;exact absurd h (h1 _ _ _ _ _)
    ·intro r o he;subst he;exact absurd h (h2 _ _)
  ·right;split at h
   ·simp only [aj] at h;exact .inl ⟨h.symm,‹_›⟩
   ·rename_i i o hL;obtain ⟨r,h1,h2⟩:=bH h;exact .inr (.inl ⟨i,r,o,h2,h1,hL⟩)
   ·rename_i i c j p o hL;split at h
    ·rename_i r hr;split at h
     ·rename_i aQ;simp only [aj] at h;exact .inr (.inr (.inl ⟨i,r,c,j,p,o,h.symm,hr,aQ,hL⟩))
     ·cases h
    ·cases h
   ·rename_i j p o hL;simp only [aj] at h;exact .inr (.inr (.inr ⟨j,p,o,h.symm,hL⟩))
   ·cases h
 have Cp:∀{i i':Nat} {r},rs[i]? = some r→rs[i']? = some r→i=i':=by
  intro i i' r h1 h2;have e1:=qq h1;have e2:=qq h2;rw [e1] at e2;simpa using e2
 have oK:∀{i:Nat} {r},rs[i]? = some r→∃cs gV,cK[i]? = some cs∧out[i]? = some gV∧nu gs gV=some cs∧cs.length=gV.length:=by
  intro i r hi;have dO:i < cK.length:=by rw [X.len];exact (cA.1 hi).1
  have h1:cK[i]? = some cK[i]:=ke dO;obtain ⟨gV,h2,h3⟩:=abR i qi h1;exact ⟨cK[i],gV,h1,h2,h3,Dk h3⟩
 refine ⟨⟨R.size,R.defers,?_,?_,?_,?_,?_,?_,?_,?_⟩,?_,vu,Fq⟩
 ·intro i;rw [X.other (.s i) (by intro _ _ h;cases h) (by intro _ h;cases h)];refine (R.slot i).step bA (fun B q o hq hB=>?_);obtain ⟨h1,h2⟩:=JF hB (fun i r c _ h=>by rw [hq] at h;cases h);rw [←hq,Place.mh];exact ⟨h1,ek hB h2⟩
 ·intro r c x hx gi;by_cases hr:r∈rs
  ·obtain ⟨i,hi⟩:=uU hr;obtain ⟨cs,gV,h1,h2,h3,h4⟩:=oK hi;by_cases hc:c < cs.length
   ·have eE:cs[c]? = some cs[c]:=ke hc;have:=X.Ov i r cs hi h1 c _ eE;rw [hx] at this;simp only [V.one.injEq] at this;rw [←this] at eE;obtain ⟨y,k1,k2⟩:=Dj c h3 eE;have jh:y≠.dead:=by
     rintro rfl;simp only [C.dV,aj] at k2;exact gi k2.symm
    have bw:i < out.length:=(cA.1 h2).1;have Jk:out.getD i []=gV:=by rw [kD,h2];rfl
    have hE:(dm 0 out:St).E (.b (.e i) c) = .one y:=by
     rw [pw];simp only [Jk];rw [aJ ⟨bw,by omega⟩];rw [kD,k1];rfl
    obtain ⟨B,o,cur,e,fz,v,m1,m2,m3,m4,m5,m6⟩:=Rc.cell (.e i) c y hE jh;rw [Ii] at m5;have kR:aF nm w' (jq rs ok w.heap.size L Lc eS) S2.γ (.b r c) 0 x v:=by
     refine m5.NV vu k2 (fun z hz B' q o' hq hj dD=>?_);have aQ:ok i c=true:=by
      cases aQ:ok i c with
      | true=>rfl
      | false=>
       subst hz;simp only [C.dV,aj] at k2;exact absurd k2.symm (X.same i r cs hi h1 c x eE aQ z)
     obtain ⟨k,j,p⟩:=q;simp only at hq hj;subst hq;subst hj;exact aj6 hi aQ dD
    have hG':=hG r hr;cases r with
    | g n=>simp [aI.iW] at hG'
    | e n=>exact ⟨B,o,cur,e,fz,v,Jf hi m1,m2,m3,m4,kR,abS k2 m6⟩
    | l n=>exact ⟨B,o,cur,e,fz,v,Jf hi m1,m2,m3,m4,kR,abS k2 m6⟩
   ·have:=X.out i r cs hi h1 c (by omega);rw [hx] at this;simp only [V.one.injEq] at this;exact absurd this gi
  ·rw [X.other (.b r c) (by intro r' c' h;cases h;exact hr) (by intro _ h;cases h)] at hx;refine (R.cell r c x hx gi).step bA ?_ ?_
   ·intro B q o hq hB;obtain ⟨h1,h2⟩:=JF hB (fun i r' c' hi h=>by rw [hq] at h;cases h;exact absurd (fp hi) hr);exact ⟨h1,ek hB h2⟩
   ·intro B o hB;obtain ⟨h1,h2⟩:=JE hB hr;exact ⟨h1,fun cur e fz hc=>⟨cur,(ek hB h2).trans hc,rfl,rfl⟩⟩
 ·intro r c;by_cases hr:r∈rs
  ·obtain ⟨i,hi⟩:=uU hr;obtain ⟨cs,gV,h1,h2,h3,h4⟩:=oK hi;by_cases hc:c < cs.length
   ·exact ⟨cs[c],X.Ov i r cs hi h1 c _ (ke hc)⟩
   ·exact ⟨.dead,X.out i r cs hi h1 c (by omega)⟩
  ·rw [X.other (.b r c) (by intro r' c' h;cases h;exact hr) (by intro _ h;cases h)];exact R.kg r c
 ·intro r c hc;by_cases hr:r∈rs
  ·obtain ⟨i,hi⟩:=uU hr;obtain ⟨cs,gV,h1,h2,h3,h4⟩:=oK hi;rw [X.size i r cs hi h1] at hc;exact X.out i r cs hi h1 c hc
  ·rw [X.other (.r r) (by intro _ _ h;cases h) (by intro r' h;cases h;exact hr)] at hc;rw [X.other (.b r c) (by intro r' c' h;cases h;exact hr) (by intro _ h;cases h)];exact R.bound r c hc
 ·intro r hg Cm;by_cases hr:r∈rs
  ·obtain ⟨i,hi⟩:=uU hr;obtain ⟨cs,gV,h1,h2,h3,h4⟩:=oK hi;rw [X.size i r cs hi h1] at Cm ⊢;have bw:i < out.length:=(cA.1 h2).1;have Jk:out.getD i []=gV:=by rw [kD,h2];rfl
   have hE:cp ((dm 0 out:St).E (.r (.e i)))=cs.length:=by
    rw [pw];simp only [Jk];rw [aJ bw,qW,h4]
   obtain ⟨B,o,cur,e,fz,m1,m2,m3,m4⟩:=Rc.room (.e i) rfl (by show 0 < cp ((dm 0 out:St).E (.r (.e i)));rw [hE];exact Cm);have m4':o+cs.length≤cur.size:=by rw [←hE];exact m4
   exact ⟨B,o,cur,e,fz,Jf hi m1,m2,m3,m4'⟩
  ·rw [X.other (.r r) (by intro _ _ h;cases h) (by intro r' h;cases h;exact hr)] at Cm ⊢;obtain ⟨B,o,cur,e,fz,m1,m2,m3,m4⟩:=R.room r hg Cm;obtain ⟨h1,h2⟩:=JE m1 hr;exact ⟨B,o,cur,e,fz,h1,(ek m1 h2).trans m2,m3,m4⟩
 ·intro B l hB;rcases xG hB with ⟨h1,h2,h3,_⟩ | ⟨_,h⟩ | ⟨_,_,_,_,_,h⟩ | ⟨_,_,_,_,_,_,_,_,_,h⟩ | ⟨_,_,_,_,h⟩
  ·exact xq (R.ft B l h2) (ek h2 h1)
  all_goals exact Rc.ft B _ h
 ·intro B B' pl o o' h1 h2;rcases xG h1 with ⟨a1,a2,a3,a4,_⟩ | ⟨a1,_⟩ | ⟨_,_,_,a1,_⟩ | ⟨i,r,c,j,p,o1,a1,a2,a3,a4⟩ | ⟨j,p,o1,a1,a2⟩
  ·rcases xG h2 with ⟨b1,b2,b3,b4,_⟩ | ⟨b1,_⟩ | ⟨_,_,_,b1,_⟩ | ⟨i,r,c,j,p,o1,b1,b2,b3,b4⟩ | ⟨j,p,o1,b1,b2⟩
   ·exact R.eM B B' pl o o' a2 b2
   ·cases b1
   ·cases b1
   ·simp only [bS.row.injEq] at b1;obtain ⟨rfl,rfl⟩:=b1;have:=a4 i r c j p o rfl b2;rw [b3] at this;cases this
   ·simp only [bS.row.injEq] at b1;obtain ⟨rfl,rfl⟩:=b1;have:=hH B _ o a2;simp [Key.aT] at this
  ·cases a1
  ·cases a1
  ·simp only [bS.row.injEq] at a1;obtain ⟨rfl,rfl⟩:=a1;rcases xG h2 with ⟨b1,b2,b3,b4,_⟩ | ⟨b1,_⟩ | ⟨_,_,_,b1,_⟩ | ⟨i',r',c',j',p',np,b1,b2,b3,b4⟩ | ⟨j',p',np,b1,b2⟩
   ·have:=b4 i r c j p o' rfl a2;rw [a3] at this;cases this
   ·cases b1
   ·cases b1
   ·simp only [bS.row.injEq,Place.mk.injEq,Key.b.injEq] at b1;obtain ⟨⟨⟨rfl,rfl⟩,rfl,rfl⟩,rfl⟩:=b1;obtain rfl:=Cp a2 b2;exact Rc.eM B B' _ _ _ a4 b4
   ·simp only [bS.row.injEq,Place.mk.injEq] at b1;exact absurd b1.1.1 (by intro h;cases h)
  ·simp only [bS.row.injEq] at a1;obtain ⟨rfl,rfl⟩:=a1;rcases xG h2 with ⟨b1,b2,b3,b4,_⟩ | ⟨b1,_⟩ | ⟨_,_,_,b1,_⟩ | ⟨i',r',c',j',p',np,b1,b2,b3,b4⟩ | ⟨j',p',np,b1,b2⟩
   ·have:=hH B' _ o' b2;simp [Key.aT] at this
   ·cases b1
   ·cases b1
   ·simp only [bS.row.injEq,Place.mk.injEq] at b1;exact absurd b1.1.1 (by intro h;cases h)
   ·simp only [bS.row.injEq] at b1;obtain ⟨b1,rfl⟩:=b1;rw [←b1] at b2;exact Rc.eM B B' _ _ _ a2 b2
 ·intro B B' r o o' h1 h2;rcases xG h1 with ⟨a1,a2,a3,_,a5⟩ | ⟨a1,_⟩ | ⟨i,r1,o1,a1,a2,a3⟩ | ⟨_,_,_,_,_,_,a1,_⟩ | ⟨_,_,_,a1,_⟩
  ·rcases xG h2 with ⟨b1,b2,b3,_,b5⟩ | ⟨b1,_⟩ | ⟨i',G1,np,b1,b2,b3⟩ | ⟨_,_,_,_,_,_,b1,_⟩ | ⟨_,_,_,b1,_⟩
   ·exact R.fE B B' r o o' a2 b2
   ·cases b1
   ·simp only [bS.box.injEq] at b1;obtain ⟨rfl,rfl⟩:=b1;exact absurd (fp b2) (a5 r o rfl)
   ·cases b1
   ·cases b1
  ·cases a1
  ·simp only [bS.box.injEq] at a1;obtain ⟨rfl,rfl⟩:=a1;rcases xG h2 with ⟨b1,b2,b3,_,b5⟩ | ⟨b1,_⟩ | ⟨i',G1,np,b1,b2,b3⟩ | ⟨_,_,_,_,_,_,b1,_⟩ | ⟨_,_,_,b1,_⟩
   ·exact absurd (fp a2) (b5 r o' rfl)
   ·cases b1
   ·simp only [bS.box.injEq] at b1;obtain ⟨rfl,rfl⟩:=b1;obtain rfl:=Cp a2 b2;exact Rc.fE B B' _ _ _ a3 b3
   ·cases b1
   ·cases b1
  ·cases a1
  ·cases a1
 ·refine ⟨hm.os,hm.tape,hm.output,hm.size,fT,?_,?_⟩
  ·intro B hB hL;have hl:Lc B=none:=by rw [B3];simp [gp,hL]
   refine ⟨?_,(vH hl hB).2⟩;unfold jq;rw [aJ ⟨by rw [hl];rfl,hB⟩];simp [hL]
  ·intro B i o hB;by_cases hr:(.e i)∈rs
   ·by_cases FF:(.e i)∈qP
    ·exact Y1 hB FF
    ·exact absurd rfl ((Ci _ hr FF).2 i)
   ·exact (JE hB hr).1
end
end
section
theorem TH {y x:C} (h:y.same x=true):x=y∧∃r g c,x = .ptr r g c:=by
 cases y<;>cases x<;>simp only [C.same,bK,fB,eW,r6] at h;obtain ⟨⟨rfl,rfl⟩,rfl⟩:=h;exact ⟨rfl,_,_,_,rfl⟩
theorem abw (S:St) (r:aI):∀(cs ol:List C) (c0:Nat) (ws:List Wr) (k:Key),cs.length=ol.length→
  ((∀c,c < cs.length→k≠.b r (c0+c))→(S.ah (mH r c0 cs ol ws)).E k=(S.ah ws).E k∧(S.ah (mH r c0 cs ol ws)).γ k=(S.ah ws).γ k)∧
  (∀c x y,k = .b r (c0+c)→cs[c]? = some x→ol[c]? = some y→y.same x=true→(S.ah (mH r c0 cs ol ws)).E k=(S.ah ws).E k∧(S.ah (mH r c0 cs ol ws)).γ k=(S.ah ws).γ k)∧
  (∀c x y,k = .b r (c0+c)→cs[c]? = some x→ol[c]? = some y→y.same x=false→(S.ah (mH r c0 cs ol ws)).E k = .one x∧(S.ah ws).γ k < (S.ah (mH r c0 cs ol ws)).γ k)∧
  (S.ah ws).γ k≤(S.ah (mH r c0 cs ol ws)).γ k
 | [],ol,c0,ws,k,hl=>by
  have:mH r c0 [] ol ws=ws:=by cases ol<;>rfl
  rw [this];exact ⟨fun _=>⟨rfl,rfl⟩,fun c x y _ h=>by simp at h,fun c x y _ h=>by simp at h,bV _⟩
 | x0::cs,[],c0,ws,k,hl=>by simp at hl
 | x0::cs,y0::ol,c0,ws,k,hl=>by
  have mo:cs.length=ol.length:=by simpa using hl
  obtain ⟨h1,h2,h3,h4⟩:=abw S r cs ol (c0+1) (if y0.same x0 then ws else { k:=.b r c0,v:=.one x0 } :: ws) k mo;simp only [mH];have hle:(S.ah ws).γ k≤(S.ah (if y0.same x0 then ws else { k:=.b r c0,v:=.one x0 } :: ws)).γ k:=by
   split
   ·exact bV _
   ·exact St.p7 _ _ k
  have ZL:k≠.b r c0→(S.ah (if y0.same x0 then ws else { k:=.b r c0,v:=.one x0 } :: ws)).E k=(S.ah ws).E k∧(S.ah (if y0.same x0 then ws else { k:=.b r c0,v:=.one x0 } :: ws)).γ k=(S.ah ws).γ k:=by
   intro aA;split
   ·exact ⟨rfl,rfl⟩
   ·simp only [St.ah,St.ij,St.jS,Ne.symm aA,dF];trivial
  have ZH:k = .b r c0→∀c,c < cs.length→k≠.b r (c0+1+c):=by
   intro hk c _ e;rw [hk] at e;simp only [Key.b.injEq,ll] at e;omega
  have QU:∀c,c0+(c+1)=c0+1+c:=fun c=>by omega
  refine ⟨?_,?_,?_,je hle h4⟩
  ·intro aA;obtain ⟨g1,g2⟩:=h1 (fun c hc e=>aA (c+1) (by simpa using hc) (by rw [e,QU c]));obtain ⟨g3,g4⟩:=ZL (fun e=>aA 0 (by simp) (by rw [e];rfl));exact ⟨g1.trans g3,g2.trans g4⟩
  ·intro c x y hk hx hy hs;cases c with
   | zero=>
    simp at hx hy;subst hx;subst hy;obtain ⟨g1,g2⟩:=h1 (ZH hk);rw [hs] at g1 g2;simp only [bW] at g1 g2;rw [hs];exact ⟨g1,g2⟩
   | succ c=>
    obtain ⟨g1,g2⟩:=h2 c x y (by rw [hk,QU c]) (by simpa using hx) (by simpa using hy) hs;obtain ⟨g3,g4⟩:=ZL (by rw [hk];intro e;simp only [Key.b.injEq,ll] at e;omega);exact ⟨g1.trans g3,g2.trans g4⟩
  ·intro c x y hk hx hy hs;cases c with
   | zero=>
    simp at hx hy;subst hx;subst hy;obtain ⟨g1,g2⟩:=h1 (ZH hk);rw [hs] at g1 g2 ⊢;simp only [jn] at hk;subst hk;simp only [r6,dF,St.ah,St.ij,St.jS,bW] at g1 g2 ⊢;exact ⟨g1,by omega⟩
   | succ c=>
    obtain ⟨g1,g2⟩:=h3 c x y (by rw [hk,QU c]) (by simpa using hx) (by simpa using hy) hs;exact ⟨g1,by omega⟩
theorem Wo (S:St):∀(rs:List aI) (bs os:List (List C)) (ws:List Wr) (k:Key),rs.Nodup→bs.length=rs.length→os.length=rs.length→
  (∀(i:Nat) cs ol,bs[i]? = some cs→os[i]? = some ol→cs.length=ol.length)→
  ((∀(i:Nat) r cs c,rs[i]? = some r→bs[i]? = some cs→c < cs.length→k≠.b r c)→(S.ah (jH rs bs os ws)).E k=(S.ah ws).E k∧(S.ah (jH rs bs os ws)).γ k=(S.ah ws).γ k)∧
  (∀(i:Nat) r cs ol c x y,rs[i]? = some r→bs[i]? = some cs→os[i]? = some ol→k = .b r c→cs[c]? = some x→ol[c]? = some y→y.same x=true→(S.ah (jH rs bs os ws)).E k=(S.ah ws).E k∧(S.ah (jH rs bs os ws)).γ k=(S.ah ws).γ k)∧
  (∀(i:Nat) r cs ol c x y,rs[i]? = some r→bs[i]? = some cs→os[i]? = some ol→k = .b r c→cs[c]? = some x→ol[c]? = some y→y.same x=false→(S.ah (jH rs bs os ws)).E k = .one x∧(S.ah ws).γ k < (S.ah (jH rs bs os ws)).γ k)∧
  (S.ah ws).γ k≤(S.ah (jH rs bs os ws)).γ k
 | [],bs,os,ws,k,_,_,_,_=>by
  have:jH [] bs os ws=ws:=by cases bs<;>cases os<;>rfl
  rw [this];exact ⟨fun _=>⟨rfl,rfl⟩,fun i r cs ol c x y h=>by simp at h,fun i r cs ol c x y h=>by simp at h,bV _⟩
 | r0::rs,[],os,ws,k,_,h,_,_=>by simp at h
 | r0::rs,gV::bs,[],ws,k,_,_,h,_=>by simp at h
 | r0::rs,gV::bs,wj::os,ws,k,jg,hb,ho,hl=>by
  obtain ⟨Zt,QD⟩:=Nj.1 jg;obtain ⟨h1,h2,h3,h4⟩:=Wo S rs bs os (mH r0 0 gV wj ws) k QD (by simpa using hb) (by simpa using ho) (fun i cs ol h1 h2=>hl (i+1) cs ol (by simpa using h1) (by simpa using h2));obtain ⟨g1,g2,g3,g4⟩:=abw S r0 gV wj 0 ws k (hl 0 gV wj rfl rfl);simp only [de] at g1 g2 g3;simp only [jH];have Zc:∀c,k = .b r0 c→(S.ah (jH rs bs os (mH r0 0 gV wj ws))).E k=(S.ah (mH r0 0 gV wj ws)).E k∧(S.ah (jH rs bs os (mH r0 0 gV wj ws))).γ k=(S.ah (mH r0 0 gV wj ws)).γ k:=by
   intro c hk;refine h1 (fun i r cs c' hr _ _ e=>?_);rw [hk] at e;simp only [Key.b.injEq] at e;exact Zt (e.1▸fp hr)
  have ajJ:∀(i:Nat) r c,rs[i]? = some r→k = .b r c→(S.ah (mH r0 0 gV wj ws)).E k=(S.ah ws).E k∧(S.ah (mH r0 0 gV wj ws)).γ k=(S.ah ws).γ k:=by
   intro i r c hr hk;refine g1 (fun c' _ e=>?_);rw [hk] at e;simp only [Key.b.injEq] at e;exact Zt (e.1▸fp hr)
  refine ⟨?_,?_,?_,je g4 h4⟩
  ·intro aA;obtain ⟨a1,a2⟩:=h1 (fun i r cs c hr hc af=>aA (i+1) r cs c (by simpa using hr) (by simpa using hc) af);obtain ⟨a3,a4⟩:=g1 (fun c hc=>aA 0 r0 gV c rfl rfl hc);exact ⟨a1.trans a3,a2.trans a4⟩
  ·intro i r cs ol c x y hr hc qw hk hx hy hs;cases i with
   | zero=>
    simp at hr hc qw;subst hr;subst hc;subst qw;obtain ⟨a1,a2⟩:=Zc c hk;obtain ⟨a3,a4⟩:=g2 c x y hk hx hy hs;exact ⟨a1.trans a3,a2.trans a4⟩
   | succ i=>
    simp only [yL] at hr hc qw;obtain ⟨a1,a2⟩:=h2 i r cs ol c x y hr hc qw hk hx hy hs;obtain ⟨a3,a4⟩:=ajJ i r c hr hk;exact ⟨a1.trans a3,a2.trans a4⟩
  ·intro i r cs ol c x y hr hc qw hk hx hy hs;cases i with
   | zero=>
    simp at hr hc qw;subst hr;subst hc;subst qw;obtain ⟨a1,a2⟩:=Zc c hk;obtain ⟨a3,a4⟩:=g3 c x y hk hx hy hs;exact ⟨a1.trans a3,by omega⟩
   | succ i=>
    simp only [yL] at hr hc qw;obtain ⟨a1,a2⟩:=h3 i r cs ol c x y hr hc qw hk hx hy hs;exact ⟨a1,by omega⟩
theorem aaZ:∀{l m:List (List C)},sV l m=true→l.length=m.length∧∀(i:Nat) x y,l[i]? = some x→m[i]? = some y→x.length=y.length
 | [],[],_=>⟨rfl,fun i x y h=>by simp at h⟩
 | [],_::_,h=>by simp [sV] at h
 | _::_,[],h=>by simp [sV] at h
 | a::l,b::m,h=>by
  simp only [sV,bK,eW] at h;obtain ⟨h1,h2⟩:=aaZ h.2;refine ⟨by simp [h1],fun i x y hx hy=>?_⟩;cases i with
  | zero=>simp at hx hy;subst hx;subst hy;exact h.1
  | succ i=>exact h2 i x y (by simpa using hx) (by simpa using hy)
theorem YG {S:St}:∀{rs:List aI} {gs:List (aI×Nat)},(BS rs).run S=some gs→gs=rs.map fun r=>(r,S.γ (.r r))
 | [],gs,h=>by simp only [BS] at h;rw [Q.aZ h];rfl
 | r::rs,gs,h=>by
  simp only [BS] at h;have h1:=Q.ny h;clear h;obtain ⟨l,h2,h3⟩:=Q.aK h1;have h4:=Q.aZ h3;rw [h4,YG h2];rfl
def okF (bs cK:List (List C)) (i c:Nat):Bool:=
 match (bs[i]?).bind (·[c]?),(cK[i]?).bind (·[c]?) with
 | some y,some x=>!(y.same x)
 | _,_=>false
theorem Yg {S0:St} {ws:List Wr} {rs:List aI} {bs cK:List (List C)} (jg:rs.Nodup) (hl:bs.length=rs.length) (dO:cK.length=rs.length) (he:sV cK bs=true)
  (lx:∀r∈rs,A9 S0 ws r)
  (hb:∀(k:Nat) r cs,rs[k]? = some r→bs[k]? = some cs→cs.length=cp (S0.E (.r r))∧(∀(j:Nat) x,cs[j]? = some x→(S0.ah ws).E (.b r j) = .one x))
  (hbound:∀r c,cp ((S0.ah ws).E (.r r))≤c→(S0.ah ws).E (.b r c) = .one .dead) :
  Nu (S0.ah ws) (S0.ah (jH rs cK bs ws)) rs cK (okF bs cK):=by
 obtain ⟨_,hlen⟩:=aaZ he;have W:=fun k=>Wo S0 rs cK bs ws k jg dO hl (fun i cs ol h1 h2=>hlen i cs ol h1 h2)
 have qq:∀{i i':Nat} {r},rs[i]? = some r→rs[i']? = some r→i=i':=fun {i i' r} h1 h2=>by
  have e1:=yu rs (i:=0) jg h1;have e2:=yu rs (i:=0) jg h2;rw [e1] at e2;simpa using e2
 have hold:∀{i:Nat} {r},rs[i]? = some r→∃ol,bs[i]? = some ol:=fun {i r} h=>⟨bs[i]'(by rw [hl];exact (cA.1 h).1),ke _⟩
 have Zr:∀{i:Nat} {r},rs[i]? = some r→∃ol,cK[i]? = some ol:=fun {i r} h=>⟨cK[i]'(by rw [dO];exact (cA.1 h).1),ke _⟩
 have PL:∀{i:Nat} {r ol},rs[i]? = some r→bs[i]? = some ol→cp ((S0.ah ws).E (.r r))=ol.length:=by
  intro i r ol h1 h2;rw [BT,(lx r (fp h1)).1,(hb i r ol h1 h2).1];rfl
 refine ⟨dO,?_,?_,?_,?_,fun k=>(W k).2.2.2,?_,?_,?_⟩
 ·intro i r cs hr hc c x hx;obtain ⟨ol,ho⟩:=hold hr;have gg:=hlen i cs ol hc ho;have aS:c < ol.length:=by rw [←gg];exact (cA.1 hx).1
  have hy:ol[c]? = some ol[c]:=ke aS;cases hs:(ol[c]).same x with
  | true=>
   rw [((W (.b r c)).2.1 i r cs ol c x _ hr hc ho rfl hx hy hs).1,(hb i r ol hr ho).2 c _ hy];rw [(TH hs).1]
  | false=>exact ((W (.b r c)).2.2.1 i r cs ol c x _ hr hc ho rfl hx hy hs).1
 ·intro i r cs hr hc c hle;obtain ⟨ol,ho⟩:=hold hr;have gg:=hlen i cs ol hc ho
  rw [((W (.b r c)).1 (fun i' r' ez c' eV kO af e => by
    cases e
    obtain rfl := qq hr eV
    rw [hc] at kO
    cases kO
    omega)).1]
  exact hbound r c (by rw [PL hr ho];omega)
 ·intro i r cs hr hc;obtain ⟨ol,ho⟩:=hold hr;have gg:=hlen i cs ol hc ho;rw [((W (.r r)).1 (fun _ _ _ _ _ _ _ e=>by cases e)).1,PL hr ho,gg]
 ·intro k h1 h2;exact ((W k).1 (fun i r cs c hr _ _ e=>h1 r c e (fp hr))).1
 ·intro i r c hr aQ;obtain ⟨ol,ho⟩:=hold hr;obtain ⟨cs,hc⟩:=Zr hr;simp only [okF,ho,hc,Option.bind_some] at aQ;cases hy:ol[c]? with
  | none=>simp [hy] at aQ
  | some y=>
   cases hx:cs[c]? with
   | none=>simp [hy,hx] at aQ
   | some x=>
    simp only [hy,hx,nJ] at aQ;exact ((W (.b r c)).2.2.1 i r cs ol c x y hr hc ho rfl hx hy aQ).2
 ·intro i r c hr aQ x hE;obtain ⟨ol,ho⟩:=hold hr;obtain ⟨cs,hc⟩:=Zr hr;simp only [okF,ho,hc,Option.bind_some] at aQ;have gg:=hlen i cs ol hc ho;cases hy:ol[c]? with
  | none=>
   have:=hbound r c (by rw [PL hr ho];exact U5.1 hy);rw [this] at hE;cases hE
  | some y=>
   have aS:c < cs.length:=by rw [gg];exact (cA.1 hy).1
   have hx:cs[c]? = some cs[c]:=ke aS;simp only [hy,hx,Bool.not_eq_false'] at aQ;obtain ⟨h1,r',g',c',h2⟩:=TH aQ;rw [(hb i r ol hr ho).2 c y hy,←h1,h2] at hE;cases hE
 ·intro i r cs hr hc c x hx aQ y;obtain ⟨ol,ho⟩:=hold hr;simp only [okF,ho,hc,Option.bind_some,hx] at aQ;have gg:=hlen i cs ol hc ho;have aS:c < ol.length:=by rw [←gg];exact (cA.1 hx).1
  have hy:ol[c]? = some ol[c]:=ke aS;simp only [hy,Bool.not_eq_false'] at aQ;obtain ⟨h1,r',g',c',h2⟩:=TH aQ;rw [h2];intro h;cases h
end
section
theorem aiK {S0:St} {ws:List Wr} {rs:List aI} {bs cK:List (List C)} {dst:Nat} (jg:rs.Nodup) (hl:bs.length=rs.length) (dO:cK.length=rs.length+1) (he:sV (cK.take rs.length) bs=true)
  (lx:∀r∈rs,A9 S0 ws r) (aA:(aI.l dst)∉rs)
  (hb:∀(k:Nat) r cs,rs[k]? = some r→bs[k]? = some cs→cs.length=cp (S0.E (.r r))∧(∀(j:Nat) x,cs[j]? = some x→(S0.ah ws).E (.b r j) = .one x))
  (hbound:∀r c,cp ((S0.ah ws).E (.r r))≤c→(S0.ah ws).E (.b r c) = .one .dead)
  (hn:cp ((S0.ah ws).E (.r (.l dst)))=0∨cp ((S0.ah ws).E (.r (.l dst)))=(cK.getD rs.length []).length) {k0:Wr} (nQ:k0 = { k:=.r (.l dst),v:=fy (cK.getD rs.length []).length }) :
  Nu (S0.ah ws) (S0.ah (gf (.l dst) 0 (cK.getD rs.length []) (k0::jH rs cK bs ws))) (rs++[.l dst]) cK
   (fun i c=>if i < rs.length then okF bs (cK.take rs.length) i c else decide (c < (cK.getD rs.length []).length))∧
  (S0.ah ws).γ (.r (.l dst)) < (S0.ah (gf (.l dst) 0 (cK.getD rs.length []) (k0::jH rs cK bs ws))).γ (.r (.l dst)):=by
 have ri:(cK.take rs.length).length=rs.length:=by simp [dO]
 have X:=Yg (cK:=cK.take rs.length) jg hl ri he lx hb hbound;have hbw:jH rs cK bs ws=jH rs (cK.take rs.length) bs ws:=by
  clear X ri he hb lx jg aA hn nQ hbound;induction rs generalizing bs cK ws with
  | nil=>cases cK<;>cases bs<;>simp [jH]
  | cons r rs ih=>
   cases cK with
   | nil=>simp at dO
   | cons b cK=>
    cases bs with
    | nil=>simp at hl
    | cons o bs=>
     simp only [jH,fX,List.take_succ_cons];exact ih (by simpa using hl) (by simpa using dO)
 rw [hbw];generalize hW:jH rs (cK.take rs.length) bs ws=W at X ⊢;generalize qu:cK.getD rs.length []=nb at hn nQ ⊢;have Jy:cK[rs.length]? = some nb:=by rw [←qu];exact getD_some (by omega)
 have K:=fun k=>Bs S0 (.l dst) nb 0 (k0::W) k
 simp only [de] at K;have JR:∀k,k≠.r (.l dst)→(S0.ah (k0::W)).E k=(S0.ah W).E k∧(S0.ah (k0::W)).γ k=(S0.ah W).γ k:=by
  intro k hk;subst nQ;simp only [St.ah,St.ij,St.jS,Ne.symm hk,dF];trivial
 have k0S:(S0.ah (k0::W)).E (.r (.l dst))=fy nb.length∧(S0.ah W).γ (.r (.l dst)) < (S0.ah (k0::W)).γ (.r (.l dst)):=by
  subst nQ;simp [St.ah,St.ij,St.jS]
 have Kx:∀k,(∀c,k≠.b (.l dst) c)→k≠.r (.l dst)→(S0.ah (gf (.l dst) 0 nb (k0::W))).E k=(S0.ah W).E k∧(S0.ah (gf (.l dst) 0 nb (k0::W))).γ k=(S0.ah W).γ k:=by
  intro k h1 h2;obtain ⟨a1,a2⟩:=(K k).2.1 (fun c _=>h1 c);obtain ⟨b1,b2⟩:=JR k h2;exact ⟨a1.trans b1,a2.trans b2⟩
 have split:∀{i:Nat} {r},(rs++[aI.l dst])[i]? = some r→(i < rs.length∧rs[i]? = some r∧r≠.l dst)∨(i=rs.length∧r = .l dst):=by
  intro i r h;by_cases hi:i < rs.length
  ·rw [mS hi] at h;exact .inl ⟨hi,h,fun e=>aA (e▸fp h)⟩
  ·rw [pX (by omega)] at h;cases hd:i - rs.length with
   | zero=>simp [hd] at h;exact .inr ⟨by omega,h.symm⟩
   | succ n=>simp [hd] at h
 have tk:∀{i:Nat} {cs},i < rs.length→cK[i]? = some cs→(cK.take rs.length)[i]? = some cs:=by
  intro i cs hi h;rw [Nd,aJ hi];exact h
 have aol:∀c,(S0.ah W).E (.b (.l dst) c)=(S0.ah ws).E (.b (.l dst) c):=fun c=>X.other _ (by intro r c' e;cases e;exact aA) (by intro _ e;cases e)
 refine ⟨⟨by simp [dO],?_,?_,?_,?_,?_,?_,?_,?_⟩,?_⟩
 ·intro i r cs hr hc c x hx;rcases split hr with ⟨h1,h2,h3⟩ | ⟨rfl,rfl⟩
  ·rw [(Kx (.b r c) (by intro c' e;cases e;exact h3 rfl) (by intro e;cases e)).1];exact X.Ov i r cs h2 (tk h1 hc) c x hx
  ·rw [Jy] at hc;cases hc;exact (K (.b (.l dst) c)).1 c x rfl hx
 ·intro i r cs hr hc c hle;rcases split hr with ⟨h1,h2,h3⟩ | ⟨rfl,rfl⟩
  ·rw [(Kx (.b r c) (by intro c' e;cases e;exact h3 rfl) (by intro e;cases e)).1];exact X.out i r cs h2 (tk h1 hc) c hle
  ·rw [Jy] at hc;cases hc;rw [((K (.b (.l dst) c)).2.1 (fun c' kO e=>by cases e;omega)).1,(JR _ (by intro e;cases e)).1,aol];exact hbound _ _ (by omega)
 ·intro i r cs hr hc;rcases split hr with ⟨h1,h2,h3⟩ | ⟨rfl,rfl⟩
  ·rw [(Kx (.r r) (by intro c' e;cases e) (by intro e;cases e;exact h3 rfl)).1];exact X.size i r cs h2 (tk h1 hc)
  ·rw [Jy] at hc;cases hc;rw [((K (.r (.l dst))).2.1 (fun c' kO e=>by cases e)).1,k0S.1,qW]
 ·intro k h1 h2;have m:aI.l dst∈rs++[aI.l dst]:=by simp
  rw [(Kx k (fun c e=>h1 _ c e m) (fun e=>h2 _ e m)).1];exact X.other k (fun r c e hr=>h1 r c e (by simp [hr])) (fun r e hr=>h2 r e (by simp [hr]))
 ·intro k;refine je (X.dT k) (je ?_ (K k).2.2.2);by_cases hk:k = .r (.l dst)
  ·subst hk;omega
  ·rw [(JR k hk).2];exact bV _
 ·intro i r c hr aQ;rcases split hr with ⟨h1,h2,h3⟩ | ⟨rfl,rfl⟩
  ·rw [aJ h1] at aQ;rw [(Kx (.b r c) (by intro c' e;cases e;exact h3 rfl) (by intro e;cases e)).2];exact X.wr i r c h2 aQ
  ·rw [aB (by omega)] at aQ;have:=(K (.b (.l dst) c)).2.2.1 c (by simpa using aQ) rfl;rw [(JR _ (by intro e;cases e)).2] at this;have:=X.dT (.b (.l dst) c);omega
 ·intro i r c hr aQ x hE;rcases split hr with ⟨h1,h2,h3⟩ | ⟨rfl,rfl⟩
  ·rw [aJ h1] at aQ;exact X.ada i r c h2 aQ x hE
  ·rw [aB (by omega)] at aQ;have hc:nb.length≤c:=by simpa using aQ
   rw [hbound (.l dst) c (by omega)] at hE;cases hE
 ·intro i r cs hr hc c x hx aQ y;rcases split hr with ⟨h1,h2,h3⟩ | ⟨rfl,rfl⟩
  ·rw [aJ h1] at aQ;exact X.same i r cs h2 (tk h1 hc) c x hx aQ y
  ·rw [aB (by omega)] at aQ;rw [Jy] at hc;cases hc;have:c < nb.length:=(cA.1 hx).1;simp at aQ;omega
 ·rw [((K (.r (.l dst))).2.1 (fun c' kO e=>by cases e)).2];have:=X.dT (.r (.l dst));omega
def jT (P:Program) (cH:FuncId) (args:Array Value) (w:World) (R:Value→World→Prop):Prop:=
 match (callFunc cH args).run P w with
 | .ok (.value v) w'=>R v w'
 | .ok .skip w'=>R undef w'
 | .ok (.enter f xs) w'=>Calls P f xs w' fun e tE=>∃v,e = .returned v∧R v tE
 | .ok (.row row xs) w'=>Rows P row xs w' R
 | _=>False
theorem jT.mono {P:Program} {cH:FuncId} {args:Array Value} {w:World} {R R':Value→World→Prop} (h:jT P cH args w R) (hr:∀v w',R v w'→R' v w'):jT P cH args w R':=by
 unfold jT at h ⊢;split at h
 ·exact hr _ _ h
 ·exact hr _ _ h
 ·exact Calls.mono h (fun e tE=>by rintro ⟨v,rfl,hR⟩;exact ⟨v,rfl,hr _ _ hR⟩)
 ·exact Rows.mono h hr
 ·exact h.elim
def Eb (P:Program) (nm:FuncId→Option Nat) (G:Nat→Option Obj) (Cl:bX):Prop:=
 ∀{f:Nat} {vs:List V} {bx:List (List C)} {r:V} {out:List (List C)} {cH:FuncId},Cl f vs bx=some (r,out)→nm cH=some f→
  ∀{args:Array Value} {w:World} {L:aw},Rel nm vs.length (ga 0 vs++dm 0 bx) ⟨args,[]⟩ w L→eI L→GI G w L→(∀B i o,L B=some (.box (.e i) o)→i < bx.length)→
   jT P cH args w fun v w'=>∃L',df w w' L L'∧Rel nm 0 (dm 0 out) ⟨#[],[]⟩ w' L'∧bD nm w' L' (fun _=>0) (.h 0) r v
section
variable {nm:FuncId→Option Nat} {N:Nat} {S:St} {a:Act} {w w':World} {L L':aw} {γ γ':Key→Nat}
theorem Rel.grown (h:Rel nm N S a w L) (hh:∀B l,L B=some l→w'.heap[B]? = w.heap[B]?):Rel nm N S a w' L:=by
 have bA:Step w w' L L S.γ S.γ:=⟨fun B hB=>⟨hB,hh B _ hB⟩,fun _=>bV _,fun B q o _ _ hB=>⟨hB,fun cur e fz hc=>⟨cur,(hh B _ hB).trans hc,rfl⟩⟩,fun B q o _ _ _ hB=>hh B _ hB,fun _ _ _ _ hB=>hB⟩
 refine ⟨h.size,h.defers,?_,?_,h.kg,h.bound,?_,?_,h.eM,h.fE⟩
 ·intro i;exact (h.slot i).step bA (fun B q o hq hB=>by rw [←hq,Place.mh];exact ⟨hB,hh B _ hB⟩)
 ·intro r c x hx gi;exact (h.cell r c x hx gi).step bA (fun B q o _ hB=>⟨hB,hh B _ hB⟩) (fun B o hB=>⟨hB,fun cur e fz hc=>⟨cur,(hh B _ hB).trans hc,rfl,rfl⟩⟩)
 ·intro r hg hr;obtain ⟨B,o,cur,e,fz,h1,h2,h3,h4⟩:=h.room r hg hr;exact ⟨B,o,cur,e,fz,h1,(hh B _ h1).trans h2,h3,h4⟩
 ·intro B l hB;exact xq (h.ft B l hB) (hh B _ hB)
theorem aF.flat {k k':Key} {j j':Nat} {c:C} {v:Value} (h:aF nm w L γ k j c v) (hf:c.flat=true):aF nm w' L' γ' k' j' c v:=by
 cases c with
 | d x=>
  cases h with
  | d h=>
   cases h with
   | plain h=>
    refine .d (.plain ?_);cases h<;>first | exact .int | exact .bool | exact .str | (simp [C.flat,D.flat] at hf)
   | jl=>simp [C.flat,D.flat] at hf
   | own=>simp [C.flat,D.flat] at hf
 | _=>simp [C.flat] at hf
theorem Yx:∀{l:List V} {i:Nat} {c:V},V.flat.go l=true→l[i]? = some c→c.flat=true
 | [],_,_,_,h=>by simp at h
 | x::t,0,c,h,hc=>by simp only [V.flat.go,bK] at h;simp at hc;subst hc;exact h.1
 | x::t,i+1,c,h,hc=>by simp only [V.flat.go,bK] at h;exact Yx h.2 (by simpa using hc)
theorem bD.flat {k k':Key} {x:V} {v:Value} (h:bD nm w L γ k x v):x.flat=true→bD nm w' L' γ' k' x v:=by
 induction h with
 | one h=>exact fun hf=>.one (h.flat hf)
 | agg hl h=>exact fun hf=>.agg hl (fun j c u hj hu=>(h j c u hj hu).flat (by simp only [V.flat,lM] at hf;exact hf c (fp hj)))
 | aq hl aS h ih=>exact fun hf=>.aq hl aS (fun i x u hj hu=>ih i x u hj hu (Yx hf hj))
end
end
section
section
variable {nm:FuncId→Option Nat} {G:Nat→Option Obj} {P:Program} {Cl:bX}
def yT (nm:FuncId→Option Nat) (w:World) (L:aw) (γ:Key→Nat) (l:List V) (us:Array Value):Prop:=
 us.size=l.length∧iF l=true∧∀(j:Nat) x u,l[j]? = some x→us[j]? = some u→bD nm w L γ (.h 0) x u
theorem Xl:∀{l m:List V},iF l=true→iF m=true→iF (l++m)=true
 | [],m,_,h=>h
 | x::t,m,h1,h2=>by
  simp only [iF,bK] at h1;simp only [qQ,iF,bK];exact ⟨h1.1,Xl h1.2 h2⟩
theorem OC:∀{l:List C},jo l=true→iF (l.map V.one)=true
 | [],_=>rfl
 | x::t,h=>by
  simp only [jo,bK] at h;simp only [fY,iF,V.clean,bK];exact ⟨h.1,OC h.2⟩
theorem yT.app {w:World} {L:aw} {γ:Key→Nat} {l m:List V} {us vs:Array Value} (h1:yT nm w L γ l us) (h2:yT nm w L γ m vs):yT nm w L γ (l++m) (us++vs):=by
 refine ⟨by simp [h1.1,h2.1],Xl h1.2.1 h2.2.1,fun j x u hx hu=>?_⟩;by_cases hj:j < l.length
 ·rw [mS hj] at hx;rw [AZ (by rw [h1.1];exact hj)] at hu;exact h1.2.2 j x u hx hu
 ·rw [pX (by omega)] at hx;rw [UP (by rw [h1.1];omega),h1.1] at hu;exact h2.2.2 _ x u hx hu
theorem aos {a:Act} {w:World} {o:Oper} {cH:FuncId} {args:Array Value} {R:Value→World→Prop} (he:(execOp a.eval o).run P w=(callFunc cH args).run P w) (h:jT P cH args w R):dw P a w o R:=by
 unfold jT at h;unfold dw;rw [he];split at h
 ·rename_i hx;rw [hx];exact h
 ·rename_i hx;rw [hx];exact h
 ·rename_i hx;rw [hx];exact h
 ·rename_i hx;rw [hx];exact h
 ·exact h.elim
theorem afF (hO:Eb P nm G Cl):wV P nm G Cl:=by
 intro N S a w L o d r c f F xs R hH hGi hd ho ajp hF arn hlen rj hr;simp only [bp] at hr;obtain ⟨vf,h1,h2⟩:=Q.aK hr;have hv:=rd_val R hF h1;split at h2;rotate_left
 ·cases h2
 rename_i n first cap
 clear hr;obtain ⟨jI,h2⟩:=Q.en h2;have jI:=JO jI;obtain ⟨⟨vs,ws⟩,h3,h4⟩:=Q.aK h2;clear h2;have xu:=hv.cQ;generalize hfv:a.eval f=fv at xu;cases xu with
 | fns val hf=>exfalso;rcases hf with ⟨h,_⟩ | ⟨h,_⟩<;>omega
 | @fn _ _ _ cH fs cs _ hf g1 g2 aS g3 g4=>
 obtain ⟨L1,M,YP,bA,jJ,ajq,aj4⟩:=acG R xs c.args.toList (ch.init R) hH hlen rj h3;dsimp only at h4;have mv:∀{x:C} {u:Value},x.clean=true→aF nm w L S.γ (.h 0) 0 x u→aF nm w L1 (S.ah ws).γ (.h 0) 0 x u:=by
  intro x u hx h;exact h.step (k':=.h 0) (j':=0) bA (fun B q o hq _ hB=>by have:=hH B q o hB;rw [hq] at this;simp [Key.aT] at this)
 have rep:yT nm w L1 (S.ah ws).γ (first.map .one++vs++cap.map .one) (fs++c.args.map a.eval++cs):=by
  refine yT.app (yT.app ⟨by simp [g1],OC aS.1,?_⟩ ⟨by simp [jJ],ajq,?_⟩) ⟨by simp [g2],OC aS.2,?_⟩
  ·intro j x u hx hu;rw [bQ] at hx;obtain ⟨y,hy,rfl⟩:=bH hx;exact .one (mv (ko aS.1 hy) (g3 j y u hy hu))
  ·intro j x u hx hu;rw [HA] at hu;obtain ⟨p,hp,rfl⟩:=bH hu;exact aj4 j x p hx (by simpa using hp)
  ·intro j x u hx hu;rw [bQ] at hx;obtain ⟨y,hy,rfl⟩:=bH hx;exact .one (mv (ko aS.2 hy) (g4 j y u hy hu))
 generalize kU:first.map V.one++vs++cap.map V.one=arK at rep h4;generalize nT:fs++c.args.map a.eval++cs=aqs at rep;have he:(execOp a.eval o).run P w=(callFunc cH aqs).run P w:=by
  subst nT;simp [execOp,ho,resolve,ajp,Deferred.ofValue,hfv,invoke]
 refine aos he ?_;simp only [zd] at h4;obtain ⟨_,k1,k2⟩:=Q.aK h4;clear h4;obtain ⟨⟨rs,bs⟩,k3,k4⟩:=Q.aK k2;clear k2;dsimp only at k4;obtain ⟨eR,k5,k6⟩:=Q.gx k4;clear k4;obtain ⟨dM,k7,k8⟩:=Q.gx k6;clear k6;obtain ⟨⟨rv,out⟩,k9,CB⟩:=Q.gx k8;clear k8;dsimp only at CB;obtain ⟨e1,e2,e3,e4,e5,e6,e7⟩:=ahZ M (Gv _ k1) k3 k5 k7 rep.1 rep.2.1 rep.2.2;have hEx:∀B i o,gp rs (S.ah ws).E L1 B=some (.box (.e i) o)→i < dM.length:=by
  intro B i o hB;rcases pz hB with ⟨h,_⟩ | ⟨r,o',i',h,_,hi⟩ | ⟨_,_,_,_,_,_,_,h,_⟩
  ·cases h
  ·simp only [bS.box.injEq,aI.e.injEq] at h;obtain ⟨rfl,rfl⟩:=h;rw [e6];have:=(qJ rs hi).2;exact (cA.1 this).1
  ·cases h
 have hGe:GI G w (gp rs (S.ah ws).E L1):=by
  intro B c hB;obtain ⟨q1,q2⟩:=hGi B c hB;refine ⟨?_,q2⟩;exact vg (M.mono.bh B q1).1
 refine (hO k9 hf e1 e2 hGe hEx).mono ?_;rintro v w' ⟨eS,m1,m2,m3⟩;have hG:∀r∈rs,r.iW=false:=fun r hr=>(e4 r hr).2
 rw [Q.run_ite] at CB;split at CB
 ·
  rename_i hc;simp only [bK,List.isEmpty_iff] at hc;obtain ⟨⟨zT,hfl⟩,Zz⟩:=hc;obtain rfl:=Q.aZ CB;subst zT;have qd:∀{B l},L B=some l→gp [] (S.ah ws).E L1 B=none∨gp [] (S.ah ws).E L1 B=some .bh:=by
   intro B l hB;cases hx:gp [] (S.ah ws).E L1 B with
   | none=>exact .inl rfl
   | some l2=>
    right;rcases pz hx with ⟨rfl,_⟩ | ⟨_,_,_,_,_,h⟩ | ⟨_,_,_,_,_,_,_,_,_,h,_⟩
    ·rfl
    ·simp [jm] at h
    ·simp [jm] at h
  have af:∀{B l},L B=some l→B < w.heap.size:=by
   intro B l hB;exact R.ft B l hB
  have ek:∀B l,L B=some l→w'.heap[B]? = w.heap[B]?:=by
   intro B l hB;rcases qd hB with h | h
   ·exact (m1.none B (af hB) h).2
   ·exact (m1.bh B h).2
  have R':=R.grown ek;have hm:df w w' L L:=by
   refine ⟨m1.os,m1.tape,m1.output,m1.size,fun B hB=>⟨hB,ek B _ hB⟩,fun B hB hL=>⟨hL,?_⟩,fun _ _ _ h=>h⟩;have h1:=(M.mono.none B hB hL).1;exact (m1.none B hB (by simp [gp,h1])).2
  exact Rel.fZ (ws:=[]) R' hm hd (m:=0) (m3.flat hfl)
 obtain ⟨gs,k11,CD⟩:=Q.aK CB;clear CB;have qp:=YG k11;have hle:=fun k=>St.wU S ws k
 rw [Q.run_ite] at CD;split at CD
 ·
  rename_i Zz;obtain ⟨r',FT,CF⟩:=Q.gx CD;clear CD;obtain ⟨cK,JS,JT⟩:=Q.gx CF;clear CF;obtain ⟨JU,JV⟩:=Q.en JT;obtain rfl:=Q.aZ JV;have dO:cK.length=rs.length:=by rw [SK JS,Zz]
  have X:=Yg e3 e5 dO JU e4 e7 M.rel.bound;obtain ⟨x1,x2,x3,x4⟩:=Yh (gs:=gs) M.rel YP e3 ⟨[],by simp⟩ hG (fun r h1 h2=>absurd h1 h2) rfl m1 m2 X
   (fun i=>by rw [qp,bQ];cases rs[i]?<;>rfl)
   (fun i r g h => by
     rw [qp, bQ] at h
     obtain ⟨r0, h1, h2⟩ := bH h
     simp only [fK] at h2
     obtain ⟨rfl, rfl⟩ := h2
     exact St.wU S _ _) JS
  exact Rel.fZ x1 (M.mono.trans x2) hd (m:=0) (m3.back x3 FT x4)
 ·
  obtain ⟨e,FT,CF⟩:=Q.aK CD;clear CD;rw [u7] at FT;simp only [aj] at FT;subst FT;dsimp only at CF;obtain ⟨r',JS,JT⟩:=Q.gx CF;clear CF;obtain ⟨cK,JU,JV⟩:=Q.gx JT;clear JT;obtain ⟨k19,k20⟩:=Q.en JV;clear JV;obtain rfl:=Q.aZ k20;simp only [bK,eW,wS,nJ] at k19;obtain ⟨⟨⟨q1,q2⟩,q3⟩,q4⟩:=k19;have aA:(aI.l d)∉rs:=by simpa using q4
  have dO:cK.length=rs.length+1:=by rw [SK JU,q1]
  obtain ⟨X,hγ⟩:=aiK e3 e5 dO q2 e4 aA e7 M.rel.bound q3 rfl;have gu:gs.length=rs.length:=by rw [qp];simp
  obtain ⟨x1, x2, x3, x4⟩ := Yh (gs := gs ++ [(.l d, S.γ (.r (.l d)) + 1)]) M.rel YP (by
      rw [HG]
      exact ⟨e3, by simp, fun x hx y hy h => by simp at hy; subst hy; subst h; exact aA hx⟩) ⟨[.l d], rfl⟩ (fun r hr => by
        rcases dA.1 hr with h | h
        · exact hG r h
        · simp at h; subst h; rfl) (fun r h1 h2 => by
        rcases dA.1 h1 with h | h
        · exact absurd h h2
        · simp at h; subst h; exact ⟨hγ, fun i e => by cases e⟩) rfl m1 m2 X
   (fun i => by
     by_cases hi : i < rs.length
     · rw [mS (by omega), mS hi, qp, bQ]; cases rs[i]? <;> rfl
     · rw [pX (by omega), pX (by omega), gu]
       cases i - rs.length <;> rfl)
   (fun i r g h => by
     by_cases hi : i < rs.length
     · rw [mS (by omega), qp, bQ] at h
       obtain ⟨r0, h1, h2⟩ := bH h
       simp only [fK] at h2
       obtain ⟨rfl, rfl⟩ := h2
       exact St.wU S _ _
     · rw [pX (by omega)] at h
       cases hx : i - gs.length with
       | zero =>
         simp [hx] at h
         obtain ⟨rfl, rfl⟩ := h
         exact Vg (hle (.r (.l d))) hγ
       | succ n => simp [hx] at h) JU
  exact Rel.fZ x1 (M.mono.trans x2) hd (m:=0) (m3.back x3 JS x4)
end
end
section
section
variable {nm:FuncId→Option Nat} {N:Nat} {S S0:St} {a:Act} {w:World} {L L0:aw} {P:Program} {ws:List Wr}
def rH (P:Program) (w:World) (tmps:Array Value) (rv:ResultVar) (v:Value):Prop:=
 (match rv with
   | .tmp t => (pure (tmps.getD t undef) : Sem Value)
   | .cell a t => do loadVar t (← asAddr (tmps.getD a undef))).run P w = .ok v w
theorem anR (R:Rel nm N S a w L) {r0:aI} {g c:Nat} {u:Value} {t:TypeId} {n:Nat} {agg:Bool} (ht:sf P t=some (n,agg)) (hv:aF nm w L S.γ (.h 0) 0 (.ptr r0 g c) u)
 (hG:r0.iW=false) (hg:(S.get (.r r0)).g=g) (B9:c+n≤cp (S.get (.r r0)).v) {cs:List C} (h3:(wv r0 c n).run S=some cs) {x':V} (h4:(lY agg cs).run S=some x') :
 ∃val,(∃ad,u = .pointer (some ad)∧(loadVar t ad).run P w = .ok val w)∧bD nm w L S.γ (.h 0) x' val:=by
 obtain ⟨hlen,E6⟩:=Mm n c h3;cases hv with
 | ptr iJ gu hp=>
  obtain ⟨B,o',hB,cr⟩:=hp hg.symm;by_cases nS:n=0
  ·
   subst nS;have eE:cs=[]:=pZ.1 hlen;subst eE;obtain ⟨hm,Cg⟩:=xY (nm:=nm) (w:=w) (L:=L) (γ:=S.γ) (k:=.h 0) (vs:=[]) h4 rfl (fun j c v h=>by simp at h);exact ⟨_,⟨_,cr,TG ht rfl (fun h=>by have:=Cg h;simp at this) (fun j v h=>by simp at h)⟩,hm⟩
  obtain ⟨B',eY,cur,e,fz,k1,k2,k3,k4⟩:=R.room r0 hG (by have:c+n≤cp (S.E (.r r0)):=B9;omega);obtain rfl:=R.fE B' B r0 eY o' k1 hB;obtain rfl:eY=o':=by rw [k1] at hB;simpa using hB
  have ajs:c+n≤cp (S.E (.r r0)):=B9;let vs:=(List.range n).map fun j=>cur.getD (eY+c+j) undef
  have kU:∀j v,vs[j]? = some v→j < n∧cur[eY+c+j]? = some v:=by
   intro j v jt;simp only [vs,bQ] at jt;have hj:j < n:=by
    rcases yQ j n with h | h
    ·exact h
    ·simp [pY,h] at jt
   have af:eY+c+j < cur.size:=by omega
   simp [hj,Array.getD,af] at jt;exact ⟨hj,by simp [af,jt]⟩
  have pG:vs.length=n:=by simp [vs]
  have hm := xY (nm := nm) (w := w) (L := L) (γ := S.γ) (k := .h 0) (vs := vs) h4 (by rw [hlen, pG]) (by
    intro j c1 v1 dH nU
    obtain ⟨hj, zF⟩ := kU j v1 nU
    obtain ⟨y, zX, xI⟩ := E6 j hj
    rw [dH] at xI
    simp only [aj] at xI
    subst xI
    by_cases jh : y = .dead
    · subst jh; exact .dead
    · have oJ := R.cell r0 (c + j) y zX jh
      have : ∃ B o cur e fz v, L B = some (.box r0 o) ∧ w.heap[B]? = some (.cells cur e fz) ∧ jD cur.size fz ∧ cur[o + (c + j)]? = some v ∧ aF nm w L S.γ (.b r0 (c + j)) 0 y v := by
        cases r0 with
        | g i => simp [aI.iW] at hG
        | e i => obtain ⟨B, o, cur, e, fz, v, q1, q2, q3, q4, q5, _⟩ := oJ; exact ⟨B, o, cur, e, fz, v, q1, q2, q3, q4, q5⟩
        | l i => obtain ⟨B, o, cur, e, fz, v, q1, q2, q3, q4, q5, _⟩ := oJ; exact ⟨B, o, cur, e, fz, v, q1, q2, q3, q4, q5⟩
      obtain ⟨B2, o2, iG, e2, lr, v2, a1, a2, a3, a4, a5⟩ := this
      obtain rfl := R.fE B2 B' r0 o2 eY a1 k1
      obtain rfl : o2 = eY := by rw [a1] at k1; simpa using k1
      obtain ⟨rfl, rfl, rfl⟩ : iG = cur ∧ e2 = e ∧ lr = fz := by rw [a2] at k2; simpa using k2
      rw [← p5, zF] at a4
      simp only [aj] at a4
      subst a4
      exact a5.look rfl _ _)
  refine ⟨_,⟨_,cr,TG ht pG (fun h=>by rw [←hlen];exact hm.2 h) (fun j v h=>?_)⟩,hm.1⟩;rw [qZ k2];exact (kU j v h).2
theorem ao0 {r:aI} {n c:Nat} {cs:List C} (h:(wv r c n).run S=some cs):cs.any C.own=false:=by
 obtain ⟨h1,h2⟩:=Mm n c h;rw [List.any_eq_false];intro x hx;obtain ⟨j,hj⟩:=uU hx;obtain ⟨y,_,h3⟩:=h2 j (by rw [←h1];exact (cA.1 hj).1);rw [hj] at h3;simp only [aj] at h3;rw [h3,Go.ax.C8];simp
theorem an2 {agg:Bool} {cs:List C} {x:V} (h:(lY agg cs).run S=some x) (hc:cs.any C.own=false):x.own=false:=by
 unfold lY at h;split at h
 ·obtain rfl:=Q.aZ h;exact hc
 ·split at h
  ·obtain rfl:=Q.aZ h;simpa [V.own,V.cells] using hc
  ·cases h
theorem acH (R0:Rel nm N S0 a w L0) (M:ch nm N S0 w L0 ws a w L) (hH:eI L) {rv:ResultVar} {R:RV} (hc:vb P rv=some R) {r:V×List Wr} (hr:(G5 ws R).run S0=some r) :
  ∃v L',Out nm N S0 w L0 ws r.2 a w L L' (fun _=>True) 0∧mW nm w L0 S0.γ w L' (S0.ah r.2).γ 0 r.1 v∧rH P w a.tmps rv v:=by
 cases rv with
 | tmp t=>
  simp only [vb,aj] at hc;subst hc;simp only [G5] at hr;obtain ⟨L',h1,h2⟩:=wG M R0 (hH.free 0) (x:=.t t) (o:=.tmp t) rfl .t hr;exact ⟨_,L',h1,h2,rfl⟩
 | cell ad t=>
  simp only [vb] at hc;obtain ⟨⟨n,agg⟩,h1,h2⟩:=bind_some hc;cases h2;simp only [G5] at hr;obtain ⟨v,h3,h4⟩:=Q.aK hr;have hv:=rd_val R0 (x:=.tmp ad) .s h3;split at h4
  ·rename_i r0 g c;have h5:=Q.ny h4;obtain ⟨hg,h6⟩:=Q.en h5;simp only [bK,nJ,eW,fB] at hg;obtain ⟨cs,h7,h8⟩:=Q.aK h6;obtain ⟨x',h9,dk⟩:=Q.aK h8;obtain rfl:=Q.aZ dk;obtain ⟨val,⟨ad',e1,e2⟩,rep⟩:=anR R0 h1 hv.cQ hg.1.1 hg.1.2 hg.2 h7 h9;refine ⟨val,L,Out.refl M _ 0,mW.Ar M.di rep (an2 h9 (ao0 h7)),?_⟩;have OV:a.tmps.getD ad undef = .pointer (some ad'):=e1;simp [rH,OV,asAddr,e2]
  ·cases h4
theorem adL:∀(cs:List C) {ws:List Wr} {L:aw} (M:ch nm N S0 w L0 ws a w L) (j0:Nat) (vs:Nat→Value)
  (hc:∀j c,cs[j]? = some c→iS nm w L0 S0.γ w L (S0.ah ws).γ 0 (j0+j) c (vs (j0+j))) {r:List C×List Wr} (hr:(Hh ws cs).run S0=some r),
  ∃L',Out nm N S0 w L0 ws r.2 a w L L' (fun q=>¬ (q.k = .h 0∧j0≤q.j)) 0∧r.1.length=cs.length∧
   ∀j c,r.1[j]? = some c→aF nm w L' (S0.ah r.2).γ (.h 0) (j0+j) c (vs (j0+j))
 | [],ws,L,M,j0,vs,hc,r,hr=>by
  simp only [Hh] at hr;obtain rfl:=Q.aZ hr;exact ⟨L,Out.refl M _ 0,rfl,fun j c h=>by simp at h⟩
 | c::cs,ws,L,M,j0,vs,hc,r,hr=>by
  simp only [Hh] at hr;obtain ⟨⟨c1,fe⟩,h1,h2⟩:=Q.aK hr;clear hr;obtain ⟨⟨Bx,fA⟩,h3,h4⟩:=Q.aK h2;clear h2;obtain rfl:=Q.aZ h4;dsimp only at h3;obtain ⟨L1,O1,R1⟩:=T7 M (by simpa using hc 0 c rfl) h1;dsimp only at O1 R1
  obtain ⟨L2, O2, hl, R2⟩ := adL cs O1.mid (j0 + 1) vs (fun j c h => by
    have := hc (j + 1) c (by simpa using h)
    have := this.keep O1.keep (fun p => by simp)
    rwa [show j0 + 1 + j = j0 + (j + 1) by omega]) h3
  refine ⟨L2,(O1.weaken ?_).trans (O2.weaken ?_),by simp [hl],?_⟩
  ·intro q hq h;exact hq ⟨h.1,by omega⟩
  ·intro q hq h;exact hq ⟨h.1,by omega⟩
  ·intro j c hj;cases j with
   | zero=>
    simp only [kE,aj] at hj;subst hj;exact R1.keep O2.keep (fun p=>by simp)
   | succ j=>
    have:=R2 j c (by simpa using hj);rwa [show j0+1+j=j0+(j+1) by omega] at this
def Ec (L:aw):Prop:=∀B q o,L B=some (.row q o)→q.k.aT=false→q.k = .h 0
theorem LV {e8:List Wr} {L':aw} {K:Place→Prop} (hH:eI L) (O:Out nm N S0 w L0 ws e8 a w L L' K 0):Ec L':=by
 intro B q o hB hq;by_cases hk:q.k = .h 0
 ·exact hk
 ·have:=hH B q o (O.yi B q o hq hk hB);rw [hq] at this;cases this
theorem aon (hH:eI L):Ec L:=fun B q o hB hq=>by have:=hH B q o hB;rw [hq] at this;cases this
theorem ao6 (R0:Rel nm N S0 a w L0) (hH:eI L0) {rv:ResultVar} {R:RV} (hc:vb P rv=some R) {r:V×List Wr} (hr:(Tp R).run S0=some r) :
  ∃v L',ch nm N S0 w L0 r.2 a w L'∧Ec L'∧bD nm w L' (S0.ah r.2).γ (.h 0) r.1 v∧rH P w a.tmps rv v:=by
 simp only [Tp] at hr;obtain ⟨⟨x,fe⟩,h1,h2⟩:=Q.aK hr;clear hr;obtain ⟨v,L1,O1,V1,hv⟩:=acH R0 (ch.init R0) hH hc h1;dsimp only at h2 O1 V1;split at h2
 ·rename_i c;obtain ⟨⟨c',fA⟩,h3,h4⟩:=Q.aK h2;clear h2;obtain rfl:=Q.aZ h4;obtain ⟨L2,O2,R2⟩:=T7 (m:=0) (j:=0) (v:=v) O1.mid V1 h3;dsimp only at O2 R2 ⊢;exact ⟨v,L2,O2.mid,LV hH ((O1.weaken (K':=fun q=>¬ (q.k = .h 0∧q.j=0)) (fun _ _=>trivial)).trans O2),.one R2,hv⟩
 ·rename_i cs;obtain ⟨⟨ez,fA⟩,h3,h4⟩:=Q.aK h2;clear h2;obtain rfl:=Q.aZ h4;obtain ⟨us,rfl,hl,hV⟩:=V1
  obtain ⟨L2, O2, l2, R2⟩ := adL cs O1.mid 0 (fun j => us.getD j undef) (fun j c hc => by
    have hj : j < us.size := by rw [← hl]; exact (cA.1 hc).1
    have := hV j c _ hc (oj hj)
    simpa [Array.getD, hj] using this) h3
  dsimp only at O2 R2 l2 ⊢;refine ⟨_,L2,O2.mid,LV hH ((O1.weaken (K':=fun q=>¬ (q.k = .h 0∧0≤q.j)) (fun _ _=>trivial)).trans O2),.agg (by simp [l2,hl]) (fun j c u hj hu=>?_),hv⟩;have:=R2 j c hj;rw [de] at this;simp only [iB,hu,Option.getD_some] at this;exact this
 ·cases h2
theorem acP (R0:Rel nm N S0 a w L0):∀(j8:List ResultVar) {Rs:List RV} {ws:List Wr} {L:aw} (M:ch nm N S0 w L0 ws a w L) (hH:eI L) (hc:j8.mapM (vb P)=some Rs) {rr:List V×List Wr} (hr:(wA ws Rs).run S0=some rr),
  ∃(vs:List Value) (L':aw),ch nm N S0 w L0 rr.2 a w L'∧eI L'∧Step w w L L' (S0.ah ws).γ (S0.ah rr.2).γ∧rr.1.length=vs.length∧iF rr.1=true∧(∀(j:Nat) x v,rr.1[j]? = some x→vs[j]? = some v→bD nm w L' (S0.ah rr.2).γ (.h 0) x v)∧
   vs.length=j8.length∧∀(j:Nat) rv v,j8[j]? = some rv→vs[j]? = some v→rH P w a.tmps rv v
 | [],Rs,ws,L,M,hH,hc,rr,hr=>by
  have:Rs=[]:=by simpa using hc.symm
  subst this;simp only [wA] at hr;obtain rfl:=Q.aZ hr;exact ⟨[],L,M,hH,Step.same w L (fun _=>bV _),rfl,rfl,fun j x p h=>by simp at h,rfl,fun j x p h=>by simp at h⟩
 | rv::j8,Rs,ws,L,M,hH,hc,rr,hr=>by
  rw [mT] at hc;obtain ⟨R,dH,gB⟩:=bind_some hc;obtain ⟨Rt,xp,E4⟩:=bind_some gB;cases E4;simp only [wA] at hr;obtain ⟨⟨x,fe⟩,h1,h2⟩:=Q.aK hr;clear hr;obtain ⟨v,L1,O1,V1,hv⟩:=acH R0 M hH dH h1;dsimp only at h2 O1 V1;have fin:∀{fA:List Wr} {L2:aw} {x':V} {rest:List V×List Wr},ch nm N S0 w L0 fA a w L2→eI L2→Step w w L L2 (S0.ah ws).γ (S0.ah fA).γ→x'.clean=true→bD nm w L2 (S0.ah fA).γ (.h 0) x' v→(wA fA Rt).run S0=some rest→rr=(x'::rest.1,rest.2)→
    ∃(vs:List Value) (L':aw),ch nm N S0 w L0 rr.2 a w L'∧eI L'∧Step w w L L' (S0.ah ws).γ (S0.ah rr.2).γ∧rr.1.length=vs.length∧iF rr.1=true∧(∀(j:Nat) x v,rr.1[j]? = some x→vs[j]? = some v→bD nm w L' (S0.ah rr.2).γ (.h 0) x v)∧
     vs.length=(rv::j8).length∧∀(j:Nat) AI v,(rv::j8)[j]? = some AI→vs[j]? = some v→rH P w a.tmps AI v:=by
   intro fA L2 x' rest M2 PE Hg aS rep h5 dP;obtain ⟨vs,L3,M3,PF,nE,Jr,xp,R3,Js,hv4⟩:=acP R0 j8 M2 PE xp h5;subst dP;refine ⟨v::vs,L3,M3,PF,Hg.trans nE,by simp [Jr],by simp [iF,aS,xp],?_,by simp [Js],?_⟩
   ·intro j x v' hj gJ;cases j with
    | zero=>
     simp only [kE,aj] at hj gJ;subst hj;subst gJ;exact rep.rP nE aS _
    | succ j=>exact R3 j x v' (by simpa using hj) (by simpa using gJ)
   ·intro j AI v' hj gJ;cases j with
    | zero=>
     simp only [kE,aj] at hj gJ;subst hj;subst gJ;exact hv
    | succ j=>exact hv4 j AI v' (by simpa using hj) (by simpa using gJ)
  split at h2
  ·rename_i c;obtain ⟨⟨c',fA⟩,h3,h4⟩:=Q.aK h2;clear h2;obtain ⟨⟨vs,wN⟩,h5,h6⟩:=Q.aK h4;clear h4;have dP:=Q.aZ h6;obtain ⟨L2,O2,R2⟩:=uP (m:=0) (j:=0) (c:=c) (v:=v) O1.mid V1 h3;dsimp only at O2 R2 h5;have r9:=(O1.weaken (K':=fun q=>¬ (q.k = .h 0∧q.j=0)) (fun _ _=>trivial)).trans O2;obtain ⟨M3,nE⟩:=O2.mid.I3;obtain ⟨R3,aS⟩:=aF.L7 (k':=.h 0) (j':=0) nE R2 (T8 h3);exact fin M3 (LB O2.mid (LV hH r9)) (r9.di.trans nE) (x':=.one c'.plain) aS (.one R3) h5 dP
  ·rename_i cs;obtain ⟨⟨ez,fA⟩,h3,h4⟩:=Q.aK h2;clear h2;obtain ⟨⟨vs,wN⟩,h5,h6⟩:=Q.aK h4;clear h4;have dP:=Q.aZ h6;obtain ⟨us,nT,hl,hV⟩:=V1
   obtain ⟨L2, O2, l2, R2⟩ := MF (m := 0) cs O1.mid 0 (fun j => us.getD j undef) (fun j c hc => by
     have hj : j < us.size := by rw [← hl]; exact (cA.1 hc).1
     have := hV j c _ hc (oj hj)
     simpa [Array.getD, hj] using this) h3
   dsimp only at O2 R2 h5 l2;have r9:=(O1.weaken (K':=fun q=>¬ (q.k = .h 0∧0≤q.j)) (fun _ _=>trivial)).trans O2;obtain ⟨M3,nE⟩:=O2.mid.I3;have each:∀(j:Nat) c,(ez.map C.plain)[j]? = some c→c.clean=true∧∀u,us[j]? = some u→aF nm w (kr L2) (S0.ah fA).γ (.h 0) j c u:=by
    intro j c hc;rw [bQ] at hc;cases hj:ez[j]? with
    | none=>simp [hj] at hc
    | some c0=>
     simp only [hj,ff,aj] at hc;subst hc;have:=R2 j c0 hj;rw [de] at this;have hp:=aF.L7 (k':=.h 0) (j':=j) nE this (T5 _ h3 c0 (fp hj));refine ⟨hp.2,fun u hu=>?_⟩;have h1:=hp.1;simp only [iB,hu,Option.getD_some] at h1;exact h1
   refine fin M3 (LB O2.mid (LV hH r9)) (r9.di.trans nE) (x':=.agg (ez.map C.plain)) (Xk (fun j c hc=>(each j c hc).1)) ?_ h5 dP;rw [nT];exact .agg (by simp [l2,hl]) (fun j c u hc hu=>(each j c hc).2 u hu)
  ·cases h2
def Hw (vs:List Value):Value:=match vs with | [v]=>v | vs=>.tuple vs.toArray
theorem ao5 (R0:Rel nm N S0 a w L0) (hH:eI L0) {fg:Bool} {j8:List ResultVar} {Rs:List RV} (hc:j8.mapM (vb P)=some Rs) {r:V×List Wr} (hr:(To fg Rs).run S0=some r) :
  ∃(vs:List Value) (L':aw),ch nm N S0 w L0 r.2 a w L'∧Ec L'∧bD nm w L' (S0.ah r.2).γ (.h 0) r.1 (Hw vs)∧vs.length=j8.length∧∀(j:Nat) rv v,j8[j]? = some rv→vs[j]? = some v→rH P w a.tmps rv v:=by
 have hl:Rs.length=j8.length:=by
  clear hr;induction j8 generalizing Rs with
  | nil=>
   have:Rs=[]:=by simpa using hc.symm
   subst this;rfl
  | cons x t ih=>
   rw [mT] at hc;obtain ⟨R,dH,gB⟩:=bind_some hc;obtain ⟨Rt,xp,E4⟩:=bind_some gB;cases E4;simp [ih xp]
 have many:∀{x:List V×List Wr},(wA [] Rs).run S0=some x→∃(vs:List Value) (L':aw),ch nm N S0 w L0 x.2 a w L'∧Ec L'∧x.1.length=vs.length∧iF x.1=true∧(∀(j:Nat) y v,x.1[j]? = some y→vs[j]? = some v→bD nm w L' (S0.ah x.2).γ (.h 0) y v)∧vs.length=j8.length∧∀(j:Nat) rv v,j8[j]? = some rv→vs[j]? = some v→rH P w a.tmps rv v:=by
  intro x hx;obtain ⟨vs,L',h1,h2,_,h3,h4,h5,h6,h7⟩:=acP R0 j8 (ch.init R0) hH hc hx;exact ⟨vs,L',h1,aon h2,h3,h4,h5,h6,h7⟩
 unfold To at hr;split at hr
 ·rename_i R;have jJ:j8.length=1:=by rw [←hl];rfl
  obtain ⟨rv,rfl⟩:=Ng.1 jJ;split at hr
  ·obtain ⟨⟨vs,ws⟩,h1,h2⟩:=Q.aK hr;clear hr;obtain ⟨us,L',k1,k2,k3,k4,k5,k6,k7⟩:=many h1;dsimp only at h2 k1 k3 k4 k5;split at h2
   ·rename_i v;obtain rfl:=Q.aZ h2;obtain ⟨u,rfl⟩:=Ng.1 k3.symm;exact ⟨[u],L',k1,k2,k5 0 v u rfl rfl,k6,k7⟩
   ·cases h2
  ·have dH:vb P rv=some R:=by
    rw [mT] at hc;obtain ⟨R',dH,gB⟩:=bind_some hc;obtain ⟨Rt,xp,E4⟩:=bind_some gB;cases E4;exact dH
   obtain ⟨v,L',k1,k2,k3,k4⟩:=ao6 R0 hH dH hr;refine ⟨[v],L',k1,k2,k3,rfl,?_⟩;intro j AI v' h1 h2;cases j with
   | zero=>simp at h1 h2;subst h1;subst h2;exact k4
   | succ j=>simp at h1
 ·rename_i aA;obtain ⟨⟨vs,ws⟩,h1,h2⟩:=Q.aK hr;clear hr;obtain rfl:=Q.aZ h2;obtain ⟨us,L',k1,k2,k3,k4,k5,k6,k7⟩:=many h1;dsimp only at k1 k3 k4 k5 ⊢;refine ⟨us,L',k1,k2,?_,k6,k7⟩;have:Hw us = .tuple us.toArray:=by
   match us,k6 with
   | [],_=>rfl
   | [u],h=>exact absurd (by rw [←h] at hl;exact Ng.1 hl) (by rintro ⟨R,rfl⟩;exact aA R rfl)
   | _::_::_,_=>rfl
  rw [this];exact .aq (by simpa using k3) k4 (fun i x u h1 h2=>k5 i x u h1 (by simpa using h2))
theorem apv {fn:Func} {vs:List Value} (hl:vs.length=fn.results.toList.length) (h:∀(j:Nat) rv v,fn.results.toList[j]? = some rv→vs[j]? = some v→rH P w a.tmps rv v) :
  (results fn a.tmps).run P w = .ok (Hw vs) w:=by
 have hm:∀(l:List ResultVar) (us:List Value),us.length=l.length→(∀(j:Nat) rv v,l[j]? = some rv→us[j]? = some v→rH P w a.tmps rv v)→
   (l.mapM fun (rv:ResultVar)=>(match rv with | .tmp t=>(pure (a.tmps.getD t undef):Sem Value) | .cell ad t=>do loadVar t (←asAddr (a.tmps.getD ad undef)))).run P w=Result.ok us w:=by
  intro l;induction l with
  | nil=>
   intro us h1 _;have:us=[]:=by simpa using h1
   subst this;rfl
  | cons rv l ih=>
   intro us h1 h2;cases us with
   | nil=>simp at h1
   | cons u us=>
    rw [mT,Sem.run_bind];have e1:=h2 0 rv u rfl rfl;unfold rH at e1;rw [e1,Result.andThen_ok,Sem.run_bind,ih us (by simpa using h1) (fun j AI v' g1 g2=>h2 (j+1) AI v' (by simpa using g1) (by simpa using g2)),Result.andThen_ok];rfl
 have e:=hm fn.results.toList vs hl h;unfold results;rw [aeV];rw [Sem.run_bind,map_eq_pure_bind,Sem.run_bind];refine (fU (fun r=>Result.andThen (Result.andThen r _) _) e).trans ?_;simp only [Result.andThen_ok];match vs with
 | []=>rfl
 | [u]=>rfl
 | _::_::_=>rfl
end
end
section
section
variable {nm:FuncId→Option Nat} {N:Nat} {S S0:St} {a:Act} {w:World} {L L0:aw} {P:Program} {ws:List Wr} {γ:Key→Nat} {rs:List aI} {E:Key→V}
theorem anL (R:Rel nm N S a w L) {bs dM:List (List C)} (jg:rs.Nodup) (qh:bs.length=rs.length)
  (hb:∀(k:Nat) r cs,rs[k]? = some r→bs[k]? = some cs→r.iW=false∧cs.length=cp (S.E (.r r))∧(∀(j:Nat) x,cs[j]? = some x→S.E (.b r j) = .one x)∧∀y∈kY cs,y.2=S.γ (.r y.1))
  (qi:pI rs bs=some dM):Rel nm 0 (dm 0 dM) ⟨#[],[]⟩ w (gp rs S.E L):=by
 have box:∀j,j < dM.length→∃r cs,rs[j]? = some r∧bs[j]? = some cs∧lV rs cs=some (dM.getD j [])∧(dM.getD j []).length=cp (S.E (.r r))∧r.iW=false∧jm rs r 0=some j∧
   (∀(i:Nat) x,cs[i]? = some x→S.E (.b r i) = .one x)∧∀x∈kY cs,x.2=S.γ (.r x.1):=by
  intro j hj;have ug:dM[j]? = some (dM.getD j []):=getD_some hj;obtain ⟨cs,h1,h2⟩:=Ra j qi ug;have Qt:j < rs.length:=by rw [←qh,←Rb qi];exact hj
  have hr:rs[j]? = some rs[j]:=ke Qt;obtain ⟨c0,c1,c2,c3⟩:=hb j rs[j] cs hr h1;refine ⟨rs[j],cs,hr,h1,h2,by rw [xL h2,c1],c0,?_,c2,c3⟩;have:=yu rs (i:=0) jg hr;rwa [de] at this
 refine ⟨rfl,rfl,?_,?_,?_,?_,?_,?_,?_,?_⟩
 ·intro i;rw [pw];exact .one .dead
 ·intro r c x hx gi;have fI:(dm 0 dM:St).E (.b r c) = .one x:=hx;rw [Ii];rw [pw] at fI;cases r with
  | g i=>simp only [V.dead,V.one.injEq] at fI;exact absurd fI.symm gi
  | l i=>simp only [V.dead,V.one.injEq] at fI;exact absurd fI.symm gi
  | e j=>
   simp only at fI;split at fI
   ·rename_i Fi;obtain ⟨r0,cs,h1,h2,h3,h4,h5,h6,h7,h8⟩:=box j Fi.1;simp only [V.one.injEq] at fI;obtain ⟨y,k1,k2⟩:=xK c h3 (show (dM.getD j [])[c]? = some x by rw [←fI];exact getD_some Fi.2);have FM:=h7 c y k1;have jh:y≠.dead:=by
     rintro rfl;simp only [C.ef,aj] at k2;exact gi k2.symm
    have oJ:=R.cell r0 c y FM jh;have ex:∃B o cur e fz v,L B=some (.box r0 o)∧w.heap[B]? = some (.cells cur e fz)∧jD cur.size fz∧cur[o+c]? = some v∧aF nm w L S.γ (.b r0 c) 0 y v∧lO y B o c e cur.size v:=by
     cases r0 with
     | g i=>simp [aI.iW] at h5
     | e i=>exact oJ
     | l i=>exact oJ
    obtain ⟨B,o,cur,e,fz,v,m1,m2,m3,m4,m5,m6⟩:=ex;exact ⟨B,o,cur,e,fz,v,zm m1 h6,m2,m3,m4,m5.XX k2 (fun z hz=>h8 z (yk k1 hz)) FM h6,Z0 k2 m6⟩
   ·simp only [V.dead,V.one.injEq] at fI;exact absurd fI.symm gi
 ·intro r c;rw [pw];cases r with
  | e j=>
   simp only;split
   ·exact ⟨(dM.getD j []).getD c .dead,rfl⟩
   ·exact ⟨.dead,rfl⟩
  | g i=>exact ⟨.dead,rfl⟩
  | l i=>exact ⟨.dead,rfl⟩
 ·intro r c hc;rw [pw] at hc ⊢;cases r with
  | e j=>
   simp only at hc ⊢;by_cases hj:j < dM.length
   ·rw [aJ hj,qW] at hc;rw [aB (fun h=>by omega)];rfl
   ·rw [aB (fun h=>hj h.1)];rfl
  | g i=>rfl
  | l i=>rfl
 ·intro r hg hr;rw [pw] at hr ⊢;cases r with
  | e j=>
   simp only at hr ⊢;by_cases hj:j < dM.length
   ·rw [aJ hj,qW] at hr ⊢;obtain ⟨r0,cs,h1,h2,h3,h4,h5,h6,h7,h8⟩:=box j hj;rw [h4] at hr ⊢;obtain ⟨B,o,cur,e,fz,m1,m2,m3,m4⟩:=R.room r0 h5 hr;exact ⟨B,o,cur,e,fz,zm m1 h6,m2,m3,m4⟩
   ·rw [aB hj] at hr;simp [V.dead,cp] at hr
  | g i=>simp [aI.iW] at hg
  | l i=>simp [V.dead,cp] at hr
 ·intro B l hB;rcases pz hB with ⟨_,h⟩ | ⟨_,_,_,_,h,_⟩ | ⟨_,_,_,_,_,_,_,_,h,_⟩<;>exact R.ft B _ h
 ·intro B B' pl o o' h1 h2;rcases pz h1 with ⟨h,_⟩ | ⟨_,_,_,h,_⟩ | ⟨r,c,j,p,o1,i,x,h,k1,k2,_⟩
  ·cases h
  ·cases h
  rcases pz h2 with ⟨h',_⟩ | ⟨_,_,_,h',_⟩ | ⟨r',c',j',p',np,i',x',h',Aa,Ab,_⟩
  ·cases h'
  ·cases h'
  simp only [bS.row.injEq] at h h';obtain ⟨rfl,rfl⟩:=h;obtain ⟨h',rfl⟩:=h';simp only [Place.mk.injEq,Key.b.injEq,aI.e.injEq] at h';obtain ⟨⟨rfl,rfl⟩,rfl,rfl⟩:=h';have e1:=(qJ rs k2).2;have e2:=(qJ rs Ab).2;rw [e1] at e2;simp only [aj] at e2;subst e2;exact R.eM B B' _ _ _ k1 Aa
 ·intro B B' r o o' h1 h2;rcases pz h1 with ⟨h,_⟩ | ⟨r1,o1,i,h,k1,k2⟩ | ⟨_,_,_,_,_,_,_,h,_⟩
  ·cases h
  ·rcases pz h2 with ⟨h',_⟩ | ⟨G1,np,i',h',Aa,Ab⟩ | ⟨_,_,_,_,_,_,_,h',_⟩
   ·cases h'
   ·simp only [bS.box.injEq] at h h';obtain ⟨rfl,rfl⟩:=h;obtain ⟨h',rfl⟩:=h';simp only [aI.e.injEq] at h';subst h';have e1:=(qJ rs k2).2;have e2:=(qJ rs Ab).2;rw [e1] at e2;simp only [aj] at e2;subst e2;exact R.fE B B' _ _ _ k1 Aa
   ·cases h'
  ·cases h
end
end
section
def oR (rs:List aI) (E:Key→V) (L:aw):aw:=fun B=>
 match L B with
 | some (.row ⟨.h 0,j,p⟩ o)=>some (.row ⟨.h 0,j,p⟩ o)
 | _=>gp rs E L B
section
variable {nm:FuncId→Option Nat} {N:Nat} {S S0:St} {a:Act} {w:World} {L L0 L':aw} {P:Program} {ws:List Wr} {γ:Key→Nat} {rs:List aI} {E:Key→V}
theorem sT {B:Nat} {l:bS} (h:gp rs E L B=some l):oR rs E L B=some l:=by
 unfold oR;split
 ·rename_i j p o hL;simp [gp,hL] at h
 ·exact h
theorem anJ {B j o:Nat} {p:List (Nat×Nat)} (h:L B=some (.row ⟨.h 0,j,p⟩ o)):oR rs E L B=some (.row ⟨.h 0,j,p⟩ o):=by
 unfold oR;simp [h]
theorem C7 {B:Nat} {l:bS} (h:oR rs E L B=some l):gp rs E L B=some l∨∃j p o,l = .row ⟨.h 0,j,p⟩ o∧L B=some l:=by
 unfold oR at h;split at h
 ·rename_i j p o hL;simp only [aj] at h;subst h;exact .inr ⟨j,p,o,rfl,hL⟩
 ·exact .inl h
theorem aaW:Step w w (gp rs E L) (oR rs E L) (fun _=>0) (fun _=>0):=
 ⟨fun B hB=>⟨sT hB,rfl⟩,fun _=>bV _,fun B q o _ _ hB=>⟨sT hB,fun cur e fz h=>⟨cur,h,rfl⟩⟩,fun _ _ _ _ _ _ _=>rfl,fun B r o _ hB=>sT hB⟩
theorem anM (R:Rel nm 0 S ⟨#[],[]⟩ w (gp rs E L)) (hS:S.γ=fun _=>0) (re:me L) (E':r7 w L):Rel nm 0 S ⟨#[],[]⟩ w (oR rs E L):=by
 have bA:Step w w (gp rs E L) (oR rs E L) S.γ S.γ:=by rw [hS];exact aaW
 have noh:∀{B q o},gp rs E L B=some (.row q o)→q.k.aT=true:=by
  intro B q o hB;rcases pz hB with ⟨h,_⟩ | ⟨_,_,_,h,_⟩ | ⟨_,_,_,_,_,_,_,h,_⟩
  ·cases h
  ·cases h
  ·simp only [bS.row.injEq] at h;rw [h.1];rfl
 refine ⟨R.size,R.defers,?_,?_,R.kg,R.bound,?_,?_,?_,?_⟩
 ·intro i;exact (R.slot i).step bA (fun B q o hq hB=>by rw [←hq,Place.mh];exact ⟨sT hB,rfl⟩)
 ·intro r c x hx gi;exact (R.cell r c x hx gi).step bA (fun B q o _ hB=>⟨sT hB,rfl⟩) (fun B o hB=>⟨sT hB,fun cur e fz hc=>⟨cur,hc,rfl,rfl⟩⟩)
 ·intro r hg hr;obtain ⟨B,o,cur,e,fz,h1,h2,h3,h4⟩:=R.room r hg hr;exact ⟨B,o,cur,e,fz,sT h1,h2,h3,h4⟩
 ·intro B l hB;rcases C7 hB with h | ⟨_,_,_,_,h⟩
  ·exact R.ft B l h
  ·exact E' B l h
 ·intro B B' pl o o' h1 h2;rcases C7 h1 with g1 | ⟨j,p,o1,e1,g1⟩
  ·rcases C7 h2 with g2 | ⟨j',p',np,e2,g2⟩
   ·exact R.eM B B' pl o o' g1 g2
   ·have:=noh g1;simp only [bS.row.injEq] at e2;rw [e2.1] at this;simp [Key.aT] at this
  ·rcases C7 h2 with g2 | ⟨j',p',np,e2,g2⟩
   ·have:=noh g2;simp only [bS.row.injEq] at e1;rw [e1.1] at this;simp [Key.aT] at this
   ·exact re B B' pl o o' g1 g2
 ·intro B B' r o o' h1 h2;rcases C7 h1 with g1 | ⟨_,_,_,e1,_⟩
  ·rcases C7 h2 with g2 | ⟨_,_,_,e2,_⟩
   ·exact R.fE B B' r o o' g1 g2
   ·cases e2
  ·cases e1
theorem aF.Lu {j:Nat} {c:C} {v:Value} (h:aF nm w L γ (.h 0) j c v) {c':C} (hi:c.ef rs=some c') (hl:∀x∈c.wo,x.2=γ (.r x.1)):aF nm w (oR rs E L) (fun _=>0) (.h 0) j c' v:=by
 have cl:c.clean=true→aF nm w (oR rs E L) (fun _=>0) (.h 0) j c' v:=by
  intro hc;refine (h.enter (rs:=rs) (E:=E) hi hl hc (.h 0) j).step aaW (fun B q o h1 h2 hB=>?_);rw [←h1,←h2,Place.mh];exact ⟨sT hB,rfl⟩
 cases c with
 | d x=>
  simp only [C.ef,aj] at hi;subst hi;cases h with
  | d h=>
   refine .d (br.move id (fun q=>q.k = .h 0) (fun _ _ _ h=>h) (fun _ _ _ _=>rfl) (fun B hB=>⟨sT (vg hB),rfl⟩) (fun B q o hq hB=>⟨?_,rfl⟩) h rfl);obtain ⟨k,j,p⟩:=q;simp only at hq;subst hq;exact anJ hB
 | c8=>simp [C.ef] at hi
 | mp=>simp [C.ef] at hi
 | bt t=>exact absurd rfl (h.Lz t)
 | _=>exact cl (h.va rfl)
theorem aaX:∀{l l':List V} (j:Nat) {c':V},sU rs l=some l'→l'[j]? = some c'→∃c,l[j]? = some c∧c.leave rs=some c'
 | [],l',j,c',h,hj=>by simp only [sU,aj] at h;subst h;simp at hj
 | c::t,l',j,c',h,hj=>by
  simp only [sU] at h;obtain ⟨c1,h1,h2⟩:=fq.1 h;obtain ⟨t1,h3,rfl⟩:=bH h2;cases j with
  | zero=>simp at hj;subst hj;exact ⟨c,rfl,h1⟩
  | succ j=>obtain ⟨c2,g1,g2⟩:=aaX j h3 (by simpa using hj);exact ⟨c2,by simpa using g1,g2⟩
theorem aaY:∀{l l':List V},sU rs l=some l'→l'.length=l.length
 | [],l',h=>by simp only [sU,aj] at h;subst h;rfl
 | c::t,l',h=>by
  simp only [sU] at h;obtain ⟨c1,h1,h2⟩:=fq.1 h;obtain ⟨t1,h3,rfl⟩:=bH h2;simp [aaY h3]
mutual
theorem anK:∀{c c':V},c.clean=true→c.leave rs=some c'→c'.clean=true
 | .one c,c',h,hi=>by simp only [V.leave] at hi;obtain ⟨x,h1,rfl⟩:=bH hi;exact JM (c:=c) h h1
 | .agg cs,c',h,hi=>by simp only [V.leave] at hi;obtain ⟨x,h1,rfl⟩:=bH hi;exact JN (l:=cs) h h1
 | .aq vs,c',h,hi=>by simp only [V.leave] at hi;obtain ⟨x,h1,rfl⟩:=bH hi;exact RO (l:=vs) h h1
theorem RO:∀{l l':List V},iF l=true→sU rs l=some l'→iF l'=true
 | [],l',h,hi=>by simp only [sU,aj] at hi;subst hi;rfl
 | c::t,l',h,hi=>by
  simp only [sU] at hi;obtain ⟨c1,h1,h2⟩:=fq.1 hi;obtain ⟨t1,h3,rfl⟩:=bH h2;simp only [iF,bK] at h ⊢;exact ⟨anK h.1 h1,RO h.2 h3⟩
end
theorem acq:∀{l:List V} {i:Nat} {x:V} {y:aI×Nat},l[i]? = some x→y∈x.Ay→y∈GZ l
 | [],_,_,_,h,_=>by simp at h
 | x::t,0,c,y,h,hy=>by simp at h;subst h;simp [GZ,hy]
 | x::t,i+1,c,y,h,hy=>by simp only [GZ,dA];exact .inr (acq (by simpa using h) hy)
theorem acp:∀{l:List (List C)} {i:Nat} {x:List C} {y:aI×Nat},l[i]? = some x→y∈kY x→y∈Ax l
 | [],_,_,_,h,_=>by simp at h
 | x::t,0,c,y,h,hy=>by simp at h;subst h;simp [Ax,hy]
 | x::t,i+1,c,y,h,hy=>by simp only [Ax,dA];exact .inr (acp (by simpa using h) hy)
theorem bD.Lu {x:V} {v:Value} (h:bD nm w L γ (.h 0) x v):∀{x':V},x.leave rs=some x'→(∀y∈x.Ay,y.2=γ (.r y.1))→bD nm w (oR rs E L) (fun _=>0) (.h 0) x' v:=by
 induction h with
 | one h=>
  intro x' hi hl;simp only [V.leave] at hi;obtain ⟨c',h1,rfl⟩:=bH hi;exact .one (h.Lu h1 hl)
 | @agg cs vs hlen h=>
  intro x' hi hl;simp only [V.leave] at hi;obtain ⟨ez,h1,rfl⟩:=bH hi;refine .agg (by rw [xL h1];exact hlen) (fun j c u hj hu=>?_);obtain ⟨c0,g1,g2⟩:=xK j h1 hj;exact (h j c0 u g1 hu).Lu g2 (fun y hy=>hl y (yk g1 hy))
 | @aq vs us hlen aS h ih=>
  intro x' hi hl;simp only [V.leave] at hi;obtain ⟨eR,h1,rfl⟩:=bH hi;refine .aq (by rw [aaY h1];exact hlen) (RO aS h1) (fun i x u hj hu=>?_);obtain ⟨c0,g1,g2⟩:=aaX i h1 hj;exact ih i c0 u g1 hu g2 (fun y hy=>hl y (acq g1 hy))
theorem BK:∀(n i k:Nat),(oD i n)[k]? = if k < n then some (aI.e (i+k)) else none
 | 0,i,k=>by simp [oD]
 | n+1,i,0=>by simp [oD]
 | n+1,i,k+1=>by
  simp only [oD,yL];rw [BK n (i+1) k];simp only [Nat.add_lt_add_iff_right,show i+1+k=i+(k+1) by omega]
theorem zn:∀(n i:Nat),(oD i n).length=n
 | 0,i=>rfl
 | n+1,i=>by simp [oD,zn n (i+1)]
theorem Yi {n i:Nat} {r:aI} (h:r∈oD i n):∃k,r = .e k∧i≤k:=by
 obtain ⟨k,hk⟩:=uU h;rw [BK] at hk;split at hk
 ·simp only [aj] at hk;exact ⟨i+k,hk.symm,by omega⟩
 ·cases hk
theorem IP:∀(n i:Nat),(oD i n).Nodup
 | 0,i=>List.nodup_nil
 | n+1,i=>by
  simp only [oD,Nj];refine ⟨fun h=>?_,IP n (i+1)⟩;obtain ⟨k,h1,h2⟩:=Yi h;simp only [aI.e.injEq] at h1;omega
theorem abQ:∀{bs:List (List C)} {i:Nat} {out:List (List C)},(GV ws i bs).run S0=some out→out.length=bs.length∧
  ∀(k:Nat) cs,out[k]? = some cs→cs.length=cp ((S0.ah ws).E (.r (.e (i+k))))∧∀(j:Nat) x,cs[j]? = some x→(S0.ah ws).E (.b (.e (i+k)) j) = .one x
 | [],i,out,h=>by
  simp only [GV] at h;obtain rfl:=Q.aZ h;exact ⟨rfl,fun k cs h=>by simp at h⟩
 | b::bs,i,out,h=>by
  simp only [GV] at h;obtain ⟨e,h1,h2⟩:=Q.aK h;clear h;rw [u7] at h1;simp only [aj] at h1;subst h1;obtain ⟨h3,h4⟩:=Q.en h2;clear h2;obtain ⟨cs,h5,h6⟩:=Q.aK h4;clear h4;obtain ⟨Di,h7,h8⟩:=Q.aK h6;clear h6;obtain rfl:=Q.aZ h8;obtain ⟨g1,g2⟩:=Mi _ _ h5;obtain ⟨g3,g4⟩:=abQ h7;refine ⟨by simp [g3],fun k ez hk=>?_⟩;cases k with
  | zero=>
   simp only [kE,aj] at hk;subst hk;simp only [eW] at h3;refine ⟨by rw [g1];exact h3.symm,fun j x hj=>?_⟩;have:=g2 j x hj;rwa [de] at this
  | succ k=>
   have:=g4 k ez (by simpa using hk);rwa [show i+1+k=i+(k+1) by omega] at this
theorem Sg:∀{l:List (aI×Nat)} {r:aI},sY l=some r→∃i,r = .l i
 | [],r,h=>by simp [sY] at h
 | (.l i,g)::t,r,h=>by simp only [sY,aj] at h;exact ⟨i,h.symm⟩
 | (.e i,g)::t,r,h=>by simp only [sY] at h;exact Sg h
 | (.g i,g)::t,r,h=>by simp only [sY] at h;exact Sg h
structure Nx (n:Nat) (L L':aw):Prop where
 bh:∀B,L B=some .bh→L' B=some .bh
 none:∀B,L B=none→L' B=none
 Bz:∀B i o,i < n→L B=some (.box (.e i) o)→L' B=some (.box (.e i) o)
theorem anI {n:Nat} (zT:∀i,i < n→jm rs (.e i) 0=some i):Nx n L (oR rs E L):=by
 refine ⟨fun B hB=>sT (vg hB),fun B hB=>?_,fun B i o hi hB=>sT (zm hB (zT i hi))⟩;unfold oR;rw [hB];simp [gp,hB]
theorem ah7 (R0:Rel nm N S0 a w L0) (hH:eI L0) {fn:lp} {bx:List (List C)} {j8:List ResultVar} (hc:j8.mapM (vb P)=some fn.results) {r:V×List (List C)} (hr:(vk fn bx).run S0=some r) :
  ∃(vs:List Value) (L':aw),vs.length=j8.length∧(∀(j:Nat) rv v,j8[j]? = some rv→vs[j]? = some v→rH P w a.tmps rv v)∧
   (∃L1,df w w L0 L1∧Nx bx.length L1 L')∧Rel nm 0 (dm 0 r.2) ⟨#[],[]⟩ w L'∧bD nm w L' (fun _=>0) (.h 0) r.1 (Hw vs):=by
 simp only [vk] at hr;obtain ⟨⟨x,ws⟩,h1,h2⟩:=Q.aK hr;clear hr;obtain ⟨vs,L1,M,hO,rep,hl,hv⟩:=ao5 R0 hH hc h1;dsimp only at h2 M rep;obtain ⟨out,h3,h4⟩:=Q.aK h2;clear h2;obtain ⟨o1,o2⟩:=abQ h3;simp only [de] at o2;have fin:∀{rs:List aI} {bs dM:List (List C)} {x':V},rs.Nodup→bs.length=rs.length→(∀i,i < bx.length→jm rs (.e i) 0=some i)→
   (∀(k:Nat) r cs,rs[k]? = some r→bs[k]? = some cs→r.iW=false∧cs.length=cp ((S0.ah ws).E (.r r))∧(∀(j:Nat) x,cs[j]? = some x→(S0.ah ws).E (.b r j) = .one x))→
   (∀y∈x.Ay++Ax bs,wW S0 ws y)→x.leave rs=some x'→pI rs bs=some dM→r=(x',dM)→
   ∃(vs:List Value) (L':aw),vs.length=j8.length∧(∀(j:Nat) rv v,j8[j]? = some rv→vs[j]? = some v→rH P w a.tmps rv v)∧
   (∃L1,df w w L0 L1∧Nx bx.length L1 L')∧Rel nm 0 (dm 0 r.2) ⟨#[],[]⟩ w L'∧bD nm w L' (fun _=>0) (.h 0) r.1 (Hw vs):=by
  intro rs bs dM x' jg qh zT hb lx hx qi dP;subst dP;have hγ:∀{y:aI×Nat},wW S0 ws y→y.2=(S0.ah ws).γ (.r y.1):=fun h=>by rw [HP h.2.1];exact h.1
  have R1:=anL M.rel jg qh (fun k r cs h1 h2=>⟨(hb k r cs h1 h2).1,(hb k r cs h1 h2).2.1,(hb k r cs h1 h2).2.2,fun y hy=>hγ (lx y (aeZ _ (acp h2 hy)))⟩) qi;refine ⟨vs,oR rs (S0.ah ws).E L1,hl,hv,⟨L1,M.mono,anI zT⟩,anM R1 (Ii _) M.rel.eM M.rel.ft,?_⟩;exact rep.Lu hx (fun y hy=>hγ (lx y (HF _ hy)))
 have acS:∀{rs:List aI},rs.Nodup→(∀i,i < bx.length→rs[i]? = some (.e i))→∀i,i < bx.length→jm rs (.e i) 0=some i:=by
  intro rs jg h i hi;have:=yu rs (i:=0) jg (h i hi);rwa [de] at this
 split at h4
 ·obtain ⟨_,h5,h6⟩:=Q.aK h4;clear h4;obtain ⟨x',h7,h8⟩:=Q.gx h6;clear h6;obtain ⟨Di,h9,dk⟩:=Q.gx h8;clear h8;have dP:=Q.aZ dk;refine fin (IP _ _) (by rw [o1,zn]) (acS (IP _ _) (fun i hi=>by rw [BK,aJ hi,de])) ?_ (Gv _ h5) h7 h9 dP;intro k r cs hk eE;rw [BK] at hk;split at hk
  ·simp only [de,aj] at hk;subst hk;exact ⟨rfl,(o2 k cs eE).1,(o2 k cs eE).2⟩
  ·cases hk
 ·rename_i r0 qu;obtain ⟨i0,rfl⟩:=Sg qu;obtain ⟨e,h5,h6⟩:=Q.aK h4;clear h4;rw [u7] at h5;simp only [aj] at h5;subst h5;obtain ⟨gV,h7,h8⟩:=Q.aK h6;clear h6;obtain ⟨_,h9,dk⟩:=Q.aK h8;clear h8;obtain ⟨x',gO,iH⟩:=Q.gx dk;clear dk;obtain ⟨Di,sB,sD⟩:=Q.gx iH;clear iH;have dP:=Q.aZ sD;obtain ⟨g1,g2⟩:=Mi _ _ h7;have jg:(oD 0 bx.length++[aI.l i0]).Nodup:=by
   rw [HG];refine ⟨IP _ _,by simp,fun y hy z hz h=>?_⟩;simp at hz;subst hz;subst h;obtain ⟨k,h1,_⟩:=Yi hy;cases h1
  refine fin jg (by simp [o1,zn]) (acS jg (fun i hi=>by rw [mS (by rw [zn];exact hi),BK,aJ hi,de])) ?_ (Gv _ h9) gO sB dP;intro k r1 cs hk eE;by_cases vB:k < bx.length
  ·rw [mS (by rw [zn];exact vB),BK,aJ vB] at hk;simp only [de,aj] at hk;subst hk;rw [mS (by rw [o1];exact vB)] at eE;exact ⟨rfl,(o2 k cs eE).1,(o2 k cs eE).2⟩
  ·rw [pX (by rw [zn];omega),zn] at hk;rw [pX (by rw [o1];omega),o1] at eE;cases hd:k - bx.length with
   | zero=>
    simp [hd] at hk eE;subst hk;subst eE;refine ⟨rfl,g1,fun j x hj=>?_⟩;have:=g2 j x hj;rwa [de] at this
   | succ n=>simp [hd] at hk
end
end
section
section
variable {nm:FuncId→Option Nat} {G:Nat→Option Obj} {N n:Nat} {S S0:St} {a:Act} {w:World} {L L0 L':aw} {P:Program} {Cl:bX}
theorem aiY {args:Array Value} {m:Nat} (R:Rel nm n S ⟨args,[]⟩ w L) (h:n≤m):Rel nm m S ⟨args++Array.replicate (m - args.size) undef,[]⟩ w L:=by
 have hs:args.size=n:=R.size;refine ⟨by simp [hs];omega,rfl,fun i=>?_,R.cell,R.kg,R.bound,R.room,R.ft,R.eM,R.fE⟩;have:=R.slot i;have e:(args++Array.replicate (m - args.size) undef).getD i undef=args.getD i undef:=by
  simp only [iB];by_cases hi:i < args.size
  ·rw [AZ hi]
  ·rw [UP (by omega),M9 (show args.size≤i by omega)];by_cases h2:i - args.size < m - args.size
   ·rw [aeU,aJ h2];rfl
   ·rw [aeU,aB h2]
 show bD nm w L S.γ (.s i) (S.E (.s i)) ((args++Array.replicate (m - args.size) undef).getD i undef);rw [e];exact this
theorem afp (vF:P.follows .mixedOrders=true) (hc:wV P nm G Cl) {hh:Hint} {fg:Bool} {f:Func} {cH:FuncId} {fn:lp} (hf:P.funcs[cH]? = some f) (mu:(f.name == "runtime.NumGoroutine")=false)
  (P8:Ez P nm hh f fg=some fn) {vs:List V} {bx:List (List C)} {r:V} {out:List (List C)} (he:vh Cl n fn vs bx=some (r,out))
  {args:Array Value} (R:Rel nm vs.length (ga 0 vs++dm 0 bx) ⟨args,[]⟩ w L) (hH:eI L) (hG:GI G w L) (hE:∀B i o,L B=some (.box (.e i) o)→i < bx.length) :
  jT P cH args w fun v w'=>∃L',df w w' L L'∧Rel nm 0 (dm 0 out) ⟨#[],[]⟩ w' L'∧bD nm w' L' (fun _=>0) (.h 0) r v:=by
 unfold Ez at P8;obtain ⟨c,hb,h1⟩:=bind_some P8;clear P8;split at h1
 ·cases h1
 rename_i qv;have qv:hh.nt=f.ntmps:=Classical.not_not.1 qv;obtain ⟨ic,h2,h3⟩:=bind_some h1;clear h1;obtain ⟨Rs,h4,h5⟩:=bind_some h3;clear h3;cases h5;unfold vh at he;split at he;rotate_left
 ·cases he
 rename_i sH;obtain ⟨⟨e,Sf⟩,h6,h7⟩:=fq.1 he;clear he;have iU:(callFunc cH args).run P w = .ok (.enter cH args) w:=by
  have Fx:¬ f.name = "runtime.NumGoroutine" := by simpa using mu
  simp [callFunc,hf,Fx,hb]
 unfold jT;rw [iU];refine calls_of_wp hf hb (afR vF hc qv n c h2 h6 (aiY R sH) hH hG ?_);intro a' w' L1 D;have fin:∀{rr:V×List (List C)},(vk ⟨f.ntmps,Rs,ic,fg⟩ bx).run Sf=some rr→rr=(r,out)→a'.defers=[]∧∃v,(results f a'.tmps).run P w' = .ok v w'∧∃v',Ending.returned v = .returned v'∧∃L',df w w' L L'∧Rel nm 0 (dm 0 out) ⟨#[],[]⟩ w' L'∧bD nm w' L' (fun _=>0) (.h 0) r v':=by
  intro rr dP heq;subst heq;obtain ⟨us,L2,k1,k2,⟨L3,k3,k4⟩,k5,k6⟩:=ah7 D.rel D.ya h4 dP;refine ⟨D.rel.defers,_,apv k1 k2,_,rfl,L2,?_,k5,k6⟩;have m1:=D.mono.trans k3;refine ⟨m1.os,m1.tape,m1.output,m1.size,fun B hB=>⟨k4.bh B (m1.bh B hB).1,(m1.bh B hB).2⟩,fun B hl hB=>⟨k4.none B (m1.none B hl hB).1,(m1.none B hl hB).2⟩,fun B i o hB=>k4.Bz B i o (hE B i o hB) (m1.Bz B i o hB)⟩
 cases e with
 | norm=>exact fin h7 rfl
 | ret=>exact fin h7 rfl
 | exit id=>simp at h7
structure ND (P:Program) (nm:FuncId→Option Nat) (T:Nat→Option lp):Prop where
 mixed:P.follows .mixedOrders=true
 fn:∀{f:Nat} {fn:lp} {cH:FuncId},T f=some fn→nm cH=some f→∃g hh fg,P.funcs[cH]? = some g∧(g.name == "runtime.NumGoroutine")=false∧Ez P nm hh g fg=some fn
def Vy (P:Program) (nm:FuncId→Option Nat) (G:Nat→Option Obj) (T:Nat→Option lp) (pO:bX):Prop:=
 ∀{f:Nat} {vs:List V} {bx:List (List C)} {r:V} {out:List (List C)} {cH:FuncId},T f=none→pO f vs bx=some (r,out)→nm cH=some f→
  ∀{args:Array Value} {w:World} {L:aw},Rel nm vs.length (ga 0 vs++dm 0 bx) ⟨args,[]⟩ w L→eI L→GI G w L→(∀B i o,L B=some (.box (.e i) o)→i < bx.length)→
   jT P cH args w fun v w'=>∃L',df w w' L L'∧Rel nm 0 (dm 0 out) ⟨#[],[]⟩ w' L'∧bD nm w' L' (fun _=>0) (.h 0) r v
theorem ah3 {T:Nat→Option lp} {pO:bX} (hT:ND P nm T) (hp:Vy P nm G T pO) (n:Nat):Eb P nm G (nN T pO n):=by
 induction n with
 | zero=>intro f vs bx r out cH h;simp [nN] at h
 | succ n ih=>
  intro f vs bx r out cH h hn args w L R hH hG hE;simp only [nN] at h;split at h
  ·rename_i fn xu;obtain ⟨g,hh,fg,h1,h2,h3⟩:=hT.fn xu hn;exact afp hT.mixed (afF ih) h1 h2 h3 h R hH hG hE
  ·rename_i xu;exact hp xu h hn R hH hG hE
end
end
section
def nj:mc→Option (Option (List Nat)×Bool)
 | .iZ k g _ _=>some (k,g)
 | .seq a _=>nj a
 | .block _ b=>nj b
 | _=>none
def wF:jF→jF
 | .iZ _ _ o d=>.iZ none false o d
 | .seq a b=>.seq (wF a) b
 | .join i k g a b=>.join i k g (wF a) b
 | .block i b=>.block i (wF b)
 | c=>c
def aoo:pj→Bool
 | .app .. => true
 | .Be .. => true
 | .Bb .. => true
 | _=>false
def jF.ways:jF→Nat×List Nat
 | .skip=>(1,[])
 | .iZ _ _ ops _=>(if ops.any fun o=>aoo o.op||o.guard.isSome then 2 else 1,[])
 | .seq a b=>match a.ways with
  | (0,l)=>(0,l)
  | (m+1,l)=>match b.ways with
   | (n,r)=>(min 99 ((m+1) * n),l++(List.replicate (min 9 (m+1)) r).flatten)
 | .cond _ a b=>match a.ways,b.ways with
  | (m,l),(n,r)=>(m+n,l++r)
 | .block i b=>match b.ways with
  | (m,l)=>(m+(l.filter fun j=>Nat.beq j i).length,l.filter fun j=>!(Nat.beq j i))
 | .loop _ _ _ b=>match b.ways with
  | (_,l)=>(0,l)
 | .join _ _ _ a b=>match a.ways with
  | (0,l)=>(0,l)
  | (_+1,l)=>match b.ways with
   | (n,r)=>(n,l++r)
 | .exit i=>(0,[i])
 | .ret=>(0,[])
def aop:pj→Nat
 | .call .. => 6
 | .load .. => 2
 | .store .. => 2
 | _=>1
def jF.wt:jF→Nat
 | .iZ _ _ ops _=>(ops.map fun o=>aop o.op).foldl (· + ·) 0
 | .seq a b=>a.wt+b.wt
 | .cond _ a b=>2+a.wt+b.wt
 | .block _ b=>b.wt
 | .loop _ _ _ b=>4+b.wt
 | .join _ _ _ a _=>a.wt+4
 | _=>0
def rW (jL:Nat):mc→Nat→jF×Nat
 | .skip,n=>(.skip,n)
 | .iZ k g o d,n=>(.iZ k g o d,n)
 | .seq a b,n=>match rW jL b n with
  | (b',n1)=>match rW jL a n1 with
   | (a',n2)=>match nj b,Nat.ble jL ((a'.ways.1 - 1) * b'.wt) with
    | some (k,g),true=>(.join n2 k g a' (wF b'),n2+1)
    | _,_=>(.seq a' b',n2)
 | .cond c a b,n=>match rW jL a n with
  | (a',n1)=>match rW jL b n1 with
   | (b',n2)=>(.cond c a' b',n2)
 | .block i b,n=>match rW jL b n with
  | (b',n1)=>(.block i b',n1)
 | .loop b,n=>match rW jL b (n+1) with
  | (b',n1)=>match nj b with
   | some (k,g)=>(.loop n k g (wF b'),n1)
   | none=>(.loop n none false b',n1)
 | .exit i,n=>(.exit i,n)
 | .ret,n=>(.ret,n)
def Rn (jL:Nat) (f:Option lp):u4:=
 match f with
 | some g=>⟨g.Db,g.results,(rW jL g.body 0).1,g.forget⟩
 | none=>⟨0,[],.skip,false⟩
def jF.at_:jF→List Nat→jF
 | c,[]=>c
 | .seq a b,i::p=>match i with | 0=>a.at_ p | _=>b.at_ p
 | .join _ _ _ a b,i::p=>match i with | 0=>a.at_ p | _=>b.at_ p
 | .cond _ a b,i::p=>match i with | 0=>a.at_ p | _=>b.at_ p
 | .block _ b,_::p=>b.at_ p
 | .loop _ _ _ b,_::p=>b.at_ p
 | c,_::_=>c
end
section
open Go
def Gz (a:Nat):List Nat→Bool
 | []=>false
 | b::t=>match Nat.beq a b with | true=>true | false=>Gz a t
def wK:List Nat→List Nat→List Nat
 | a,[]=>a
 | a,x::t=>match Gz x a with | true=>wK a t | false=>wK (a++[x]) t
def OP (d:Nat):List Nat→List Nat
 | []=>[]
 | b::t=>match Nat.beq d b with | true=>OP d t | false=>b::OP d t
def Hn:List Operand→List Nat
 | []=>[]
 | .tmp t::l=>t::Hn l
 | _::l=>Hn l
def af5 (ops:List Oper) (j:Nat):List Nat:=match ops[j]? with
 | some o=>match o.dst with | some d=>[d] | none=>[]
 | none=>[]
def NU (all:List Oper):List Oper→List Nat→List Nat
 | [],l=>l
 | o::t,l=>
  let l:=NU all t l
  let l:=match o.dst with | some d=>OP d l | none=>l
  let l:=wK l (Hn o.op.operands.toList)
  match o.guard with
  | some (j,_)=>wK l (af5 all j)
  | none=>l
abbrev Rg:=List (Nat×List Nat)
def RU (i:Nat):Rg→Option (List Nat)
 | []=>none
 | (k,l)::t=>match Nat.beq i k with | true=>some l | false=>RU i t
def adb:List Nat→List Nat→Bool
 | [],[]=>true
 | _::a,_::b=>adb a b
 | _,_=>false
def Rj (f:List Nat→List Nat):Nat→List Nat→List Nat
 | 0,x=>x
 | n+1,x=>
  let y:=wK x (f x)
  match adb x y with
  | true=>x
  | false=>Rj f n y
def xW (res:List Nat):Code→Rg→List Nat→List Nat
 | .region _ ops _,_,out=>NU ops.toList ops.toList out
 | .seq a b,ex,out=>xW res a ex (xW res b ex out)
 | .cond c a b,ex,out=>wK (wK (xW res a ex out) (xW res b ex out)) (Hn [c])
 | .block id b,ex,out=>xW res b ((id,out)::ex) out
 | .loop b,ex,_=>Rj (fun x=>xW res b ex x) 20 []
 | .exit id,ex,_=>(RU id ex).getD []
 | .ret,_,_=>res
 | .scope b,ex,out=>xW res b ex out
 | _,_,out=>out
def yq (res:List Nat):Code→Rg→List Nat→Rg→List Nat×Rg
 | .region id ops _,_,out,m=>let l:=NU ops.toList ops.toList out;(l,(id,l)::m)
 | .seq a b,ex,out,m=>match yq res b ex out m with
  | (l,m)=>yq res a ex l m
 | .cond c a b,ex,out,m=>match yq res a ex out m with
  | (x,m)=>match yq res b ex out m with
   | (y,m)=>(wK (wK x y) (Hn [c]),m)
 | .block id b,ex,out,m=>yq res b ((id,out)::ex) out m
 | .loop b,ex,_,m=>match Rj (fun x=>xW res b ex x) 20 [] with
  | x=>(x,(yq res b ex x m).2)
 | .exit id,ex,_,m=>((RU id ex).getD [],m)
 | .ret,_,_,m=>(res,m)
 | .scope b,ex,out,m=>yq res b ex out m
 | _,_,out,m=>(out,m)
def EN:Code→List Nat
 | .region id _ _=>[id]
 | .seq a b=>match EN a with
  | []=>EN b
  | x=>x
 | .block _ b=>EN b
 | .loop b=>EN b
 | _=>[]
def zJ:Code→List Nat
 | .seq a b=>zJ a++zJ b
 | .cond _ a b=>zJ a++zJ b
 | .block _ b=>zJ b
 | .loop b=>EN b++zJ b
 | _=>[]
def Mq:List ResultVar→List Nat
 | []=>[]
 | .tmp t::l=>t::Mq l
 | .cell t _::l=>t::Mq l
def Ow:List ResultVar→List Nat
 | []=>[]
 | .tmp _::l=>Ow l
 | .cell t _::l=>t::Ow l
def Qq (f:Func) (MP:Nat):Hint:=match f.body with
 | none=>⟨f.ntmps,MP,[],[],[]⟩
 | some c=>⟨f.ntmps,MP,Ow f.results.toList,[],(yq (Mq f.results.toList) c [] (Mq f.results.toList) []).2.map fun x=>(x.1,(some x.2,Gz x.1 (zJ c)))⟩
end
section
open Go
def vw {R:Type} (an:iQ) (Cl:bX) (n:Nat) (j:Nat):jF→List Nat→kG R→Option (St→Option R)
 | .seq a b,ms,K=>Au (vw an Cl n j b ms K) (vw an Cl n j a ms (DC (kL an Cl n b) K))
 | .cond _ a b,ms,K=>Au (vw an Cl n j a ms K) (vw an Cl n j b ms K)
 | .block id b,ms,K=>vw an Cl n j b ms (NZ id K)
 | .join i kp g a b,ms,K=>match Nat.beq i j with
  | true=>some fun S=>Rm i (kL an Cl n b) (ms.headD 0) S K
  | false=>Au (vw an Cl n j b ms K) (vw an Cl n j a ms (DC (Rk i kp g n (kL an Cl n b)) K))
 | .loop i kp g b,ms,K=>match Nat.beq i j with
  | true=>some fun S=>CA i (kL an Cl n b) kp g (ms.headD 0) S K
  | false=>vw an Cl n j b ms.tail (Si kp g (fun S=>CA i (kL an Cl n b) kp g (ms.headD 0) S K) K)
 | _,_,_=>none
def hdF (an:iQ) (k:u4) (Cl:bX) (n:Nat) (bx:List (List C)) (j:Nat) (ms:List Nat) (S:St):Option (V×List (List C)):=
 match vw an Cl n j k.body ms (Tr k.results k.forget bx) with
 | some f=>f S
 | none=>none
def II (P:Program):Nat→TypeId→Option (List DS)
 | 0,_=>none
 | n+1,t=>match P.underlying t with
  | some (.int k)=>some [.int k]
  | some .bool=>some [.bool]
  | some .string=>some [.str]
  | some (.slice e)=>some [.im ((jP P e).getD 0)]
  | some (.struct fs)=>fs.toList.foldr (fun f acc=>match II P n f.type,acc with | some a,some b=>some (a++b) | _,_=>none) (some [])
  | some (.array k e)=>(II P n e).map fun l=>(List.replicate k l).flatten
  | _=>none
def abz:Option (List DS)→Option (List DS)
 | some (x::t)=>some (x::t)
 | _=>none
def Dz (P:Program) (d:Nat):List Oper→Option (List DS)
 | []=>none
 | o::t=>match o.dst,o.op with
  | some e,.load ty _=>match Nat.beq e d with | true=>Au (abz (II P 12 ty)) (Dz P d t) | false=>Dz P d t
  | _,.store ty (.tmp i) _=>match Nat.beq i d with | true=>Au (abz (II P 12 ty)) (Dz P d t) | false=>Dz P d t
  | _,_=>Dz P d t
def yv (P:Program) (d:Nat):Code→Option (List DS)
 | .region _ ops _=>Dz P d ops.toList
 | .seq a b=>Au (yv P d a) (yv P d b)
 | .cond _ a b=>Au (yv P d a) (yv P d b)
 | .block _ b=>yv P d b
 | .loop b=>yv P d b
 | .scope b=>yv P d b
 | _=>none
def RY (f:Nat→DS):List DS→List DS
 | []=>[]
 | .im k::t=>f k::RY f t
 | x::t=>x::RY f t
structure jG where
 P:Program
 jL:Nat
 fns:List (Nat×Nat×Bool)
 apf:List (Nat×Nat)
 ape:List (Nat×List (Nat×Nat))
 res:Nat→Option RS
 imf:List Nat
 imB:Nat→Nat→Bool
 no:List Nat
def abn (a b:Nat):List (Nat×Nat)→Bool
 | []=>false
 | x::t=>match Nat.beq a x.1,Nat.beq b x.2 with | true,true=>true | _,_=>abn a b t
def aiQ (s:jG) (n d:Nat) (k:Nat):DS:=match abn n k s.apf with
 | true=>.own k
 | false=>match (sW s.ape n).bind fun l=>sW l d with
  | some 0=>.own k
  | some 1=>.sl k
  | some 2=>.tg k
  | some 3=>.any
  | _=>.im k
def jG.fn (s:jG) (n:Nat):Func:=(s.P.funcs[n]?).getD default
def jG.an (s:jG) (n:Nat):iQ:=
 ⟨fun d => match (s.fn n).body with | some c => (yv s.P d c).map (RY (aiQ s n d)) | none => none, s.res,
  match Gz n s.imf with | true => fun _ _ => true | false => s.imB, fun k => Gz k s.no⟩
def jG.comp (s:jG) (n:Nat):Option lp:=match sW s.fns n with
 | some (t,fg)=>Ez s.P some (Qq (s.fn n) t) (s.fn n) fg
 | none=>none
def jG.k (s:jG) (n:Nat):u4:=Rn s.jL (s.comp n)
def jG.pT (s:jG) (n:Nat):Option lp:=match sW s.fns n with
 | some _=>some (s.k n).fn
 | none=>none
def jG.hd (s:jG) (f j:Nat) (Cl:bX) (n:Nat) (bx:List (List C)) (ms:List Nat) (S:St):Option (V×List (List C)):=hdF (s.an f) (s.k f) Cl n bx j ms S
def jG.oF (s:jG):Bool:=s.P.follows .mixedOrders&&s.fns.all fun x=>match s.P.funcs[x.1]? with
 | some g=>!(g.name == "runtime.NumGoroutine")&&(s.comp x.1).isSome
 | none=>false
theorem Ef:∀(c:jF) (k:Option (List Nat)) (g:Bool),kH k g (eL (wF c))=kH k g (eL c)
 | .iZ ..,_,_=>rfl
 | .seq a b,k,g=>by simp only [wF,eL,kH,Ef a k g]
 | .join _ _ _ a b,k,g=>by simp only [wF,eL,kH,Ef a k g]
 | .block _ b,k,g=>by simp only [wF,eL,kH,Ef b k g]
 | .skip,_,_=>rfl
 | .cond ..,_,_=>rfl
 | .loop ..,_,_=>rfl
 | .exit _,_,_=>rfl
 | .ret,_,_=>rfl
theorem HY:∀(c:mc) {k:Option (List Nat)} {g:Bool},nj c=some (k,g)→kH k g c=c
 | .iZ ..,k,g,h=>by simp only [nj,aj,fK] at h;obtain ⟨rfl,rfl⟩:=h;rfl
 | .seq a b,k,g,h=>by simp only [nj] at h;simp only [kH,HY a h]
 | .block _ b,k,g,h=>by simp only [nj] at h;simp only [kH,HY b h]
 | .skip,_,_,h=>by simp [nj] at h
 | .cond ..,_,_,h=>by simp [nj] at h
 | .loop ..,_,_,h=>by simp [nj] at h
 | .exit _,_,_,h=>by simp [nj] at h
 | .ret,_,_,h=>by simp [nj] at h
theorem NG:∀(c:mc) {k:Option (List Nat)} {g:Bool},nj c=none→kH k g c=c
 | .iZ ..,k,g,h=>by simp [nj] at h
 | .seq a b,k,g,h=>by simp only [nj] at h;simp only [kH,NG a h]
 | .block _ b,k,g,h=>by simp only [nj] at h;simp only [kH,NG b h]
 | .skip,_,_,h=>rfl
 | .cond ..,_,_,h=>rfl
 | .loop ..,_,_,h=>rfl
 | .exit _,_,_,h=>rfl
 | .ret,_,_,h=>rfl
theorem uC (jL:Nat):∀(c:mc) (n:Nat),eL (rW jL c n).1=c
 | .skip,n=>rfl
 | .iZ ..,n=>rfl
 | .exit _,n=>rfl
 | .ret,n=>rfl
 | .block i b,n=>by simp only [rW,eL,uC jL b n]
 | .cond c a b,n=>by simp only [rW,eL,uC jL a,uC jL b]
 | .loop b,n=>by
  simp only [rW];split
  ·rename_i k g h;simp only [eL,Ef,uC jL b,HY b h]
  ·rename_i h;simp only [eL,uC jL b,NG b h]
 | .seq a b,n=>by
  simp only [rW];split
  ·rename_i k g h _;simp only [eL,Ef,uC jL b,uC jL a,HY b h]
  ·simp only [eL,uC jL b,uC jL a]
theorem akt {jL:Nat} {g:lp}:(Rn jL (some g)).fn=g:=by
 simp only [Rn,u4.fn,uC]
theorem aa2 {α:Type}:∀{l:List (Nat×α)} {n:Nat} {x:α},sW l n=some x→(n,x)∈l
 | [],n,x,h=>by simp [sW] at h
 | y::t,n,x,h=>by
  simp only [sW] at h;split at h
  ·rename_i e;cases h;have:=mU e;subst this;exact kf
  ·exact kF _ (aa2 h)
theorem jG.ok (s:jG) (h:s.oF=true):ND s.P some s.pT:=by
 simp only [jG.oF,bK] at h;refine ⟨h.1,?_⟩;intro f fn cH hf hn;simp only [aj] at hn;subst hn;simp only [jG.pT] at hf;split at hf
 ·rename_i x hx;have h1:=lM.1 h.2 _ (aa2 hx);simp only [aj] at hf;split at h1
  ·rename_i g hg;simp only [bK,nJ] at h1;obtain ⟨c,hc⟩:=yS.1 h1.2;subst hf;have e:s.fn cH=g:=by simp only [jG.fn];rw [show s.P.funcs[cH]? = some g from hg];rfl
   refine ⟨g,Qq g x.1,x.2,hg,h1.1,?_⟩;have kO:Ez s.P some (Qq g x.1) g x.2=some c:=by rw [←hc];simp only [jG.comp,hx,e]
   rw [kO];simp only [jG.k];rw [hc,akt]
  ·cases h1
 ·cases hf
end
end Go.ax
namespace Go.Proofs.YtfmpdgeiodnnfaaGreatDoor
section
open Go Go.ax
def nm:FuncId→Option Nat:=some
def iw:RS:=(.val (.one (.bool)) [])
def jZ:RS:=(.val (.one (.str)) [])
def wu:RS:=(.val (.agg [.int .i64,.int .i64,.int .i64]) [])
def rT4:RS:=(.val (.agg [.str,.im 3]) [])
def rT8:RS:=(.val (.agg [.str,.im 3,.im 6,.im 10]) [])
def qH:RS:=(.aq [] [])
def wq:RS:=(.val (.one (.int .i64)) [])
def qI:RS:=(.val (.one (.im 1)) [])
def Mh:RS:=(.val (.agg [.str,.im 1,.im 3]) [])
def acB:RS:=(.val (.agg [.int .i64,.str,.str,.str,.str,.int .i64,.im 1,.im 3,.im 3,.int .i64]) [])
def Dp:RS:=(.val (.one (.int .i64)) [[.ptr 1 0,.im 3,.str,.tg 3,.own 6,.tg 10,.str,.im 2,.int .i64,.int .i64,.int .i64],[.tg 1,.int .i64]])
def acC:RS:=(.val (.one (.int .i64)) [[.ptr 1 0,.im 3,.str,.tg 3,.tg 6,.own 10,.str,.im 2,.int .i64,.int .i64,.int .i64],[.tg 1,.int .i64]])
def acD:RS:=(.val (.agg [.int .i64,.str]) [])
noncomputable def ST : jG := ⟨Tryz.prog, 8,
 [(3, 9, true), (4, 12, true), (7, 11, true), (9, 3, true), (10, 10, true), (11, 10, true), (12, 8, true), (15, 6, true), (17, 3, true), (19, 6, true), (21, 6, true), (25, 7, true), (26, 6, true), (27, 12, true), (28, 3, true), (31, 5, true), (32, 9, true), (33, 15, true), (34, 12, true), (35, 6, true), (36, 7, true), (37, 3, true), (38, 3, true), (39, 5, true), (40, 1, true), (41, 7, true), (42, 10, true), (43, 17, true), (44, 2, true), (45, 6, true), (46, 7, true), (47, 15, true), (48, 1, true), (49, 1, true), (50, 7, true), (53, 5, true), (54, 3, true), (55, 7, true), (56, 11, true), (57, 3, true), (58, 6, true), (62, 4, true), (64, 4, true), (67, 9, true), (68, 3, true), (69, 3, true), (70, 4, true), (71, 5, true), (72, 7, true), (73, 5, true), (74, 11, true), (80, 11, true), (81, 5, true), (82, 13, true), (83, 5, true), (84, 12, true), (85, 9, true), (86, 3, true), (87, 5, true), (88, 5, true), (89, 5, true), (90, 6, true), (92, 6, true), (93, 11, true), (94, 3, true), (95, 4, true), (96, 6, true), (97, 6, true), (98, 6, true), (99, 7, true), (100, 18, true), (101, 6, true), (102, 3, true), (103, 3, true), (104, 3, true), (108, 8, true), (109, 4, true), (110, 5, true), (111, 7, true), (113, 3, true), (114, 5, true), (115, 3, true), (116, 3, true), (117, 3, true), (118, 3, true), (119, 3, true), (120, 3, true), (127, 6, true), (128, 5, true), (132, 3, true), (137, 7, true), (138, 14, true), (139, 10, true), (140, 22, true), (141, 7, true), (142, 6, true), (143, 13, true), (144, 9, true), (145, 15, true), (146, 3, true), (147, 5, true), (149, 11, true), (150, 8, true), (151, 8, true), (152, 6, true), (153, 3, true), (154, 6, true), (155, 2, true), (156, 7, true), (157, 8, true), (158, 12, true), (160, 3, true), (161, 6, true), (165, 6, true), (167, 10, true), (184, 3, true), (188, 18, true), (189, 15, true), (190, 9, true), (191, 7, true), (192, 6, true), (193, 13, true), (194, 11, true), (195, 14, true), (196, 3, true), (197, 11, true), (198, 8, true), (199, 6, true), (200, 10, true), (201, 5, true), (202, 3, true), (203, 2, true), (204, 3, true), (205, 6, true), (206, 3, true), (207, 7, true), (209, 3, true), (210, 4, true), (218, 7, true), (223, 5, true), (224, 6, true), (226, 14, true), (227, 5, true), (228, 19, true), (229, 3, true), (230, 8, true), (231, 3, true), (232, 3, true), (236, 7, true), (237, 8, true), (247, 14, true)],
 [(188, 4)],
 [(47, [(34, 1), (39, 3), (55, 1), (79, 1), (81, 3), (92, 0), (99, 3)]), (84, [(169, 0), (175, 3)]), (142, [(74, 0), (80, 3)]), (143, [(100, 1), (105, 3), (144, 1), (149, 3)])],
 sW [(9, iw), (25, iw), (26, iw), (53, iw), (54, iw), (55, iw), (62, iw), (64, iw), (67, iw), (69, iw), (70, iw), (71, iw), (72, iw), (94, iw), (95, iw), (96, iw), (108, iw), (110, iw), (115, iw), (116, iw), (117, iw), (132, iw), (154, iw), (157, iw), (158, iw), (165, iw), (191, iw), (192, iw), (223, iw), (10, (.val (.agg [.im 3, .im 2, .im 4]) [])), (11, jZ), (15, jZ), (17, jZ), (19, jZ), (21, jZ), (56, jZ), (57, jZ), (58, jZ), (83, jZ), (85, jZ), (102, jZ), (103, jZ), (104, jZ), (113, jZ), (114, jZ), (146, jZ), (149, jZ), (150, jZ), (151, jZ), (159, jZ), (160, jZ), (161, jZ), (206, jZ), (12, wu), (39, wu), (40, wu), (41, wu), (42, wu), (43, wu), (44, wu), (46, wu), (47, wu), (27, rT4), (111, rT4), (28, (.val (.one (.ptr 0 0)) [[.tg 1, .int .i64]])), (31, (.val (.one (.im 3)) [])), (32, (.aq [(.one (.im 2)), (.one (.int .i64)), (.one (.int .i64))] [])), (33, rT8), (34, rT8), (35, (.aq [(.one (.int .i64)), .fj] [])), (36, qH), (50, qH), (84, qH), (91, qH), (92, qH), (93, qH), (112, qH), (142, qH), (143, qH), (155, qH), (197, qH), (203, qH), (204, qH), (37, (.val (.one .str) [[.bt 82, .dead]])), (38, (.val (.one (.lq 39 [(0, 0), (1, 0)])) [[.im 3, .im 2, .im 4], [.lq 1000000000000 []]])), (45, wq), (68, wq), (73, wq), (100, wq), (127, wq), (141, wq), (145, wq), (152, wq), (224, wq), (48, qI), (49, qI), (81, qI), (97, qI), (98, qI), (99, qI), (101, qI), (156, qI), (189, qI), (190, qI), (205, qI), (218, qI), (236, qI), (74, (.val (.one (.im 4)) [])), (80, Mh), (137, Mh), (138, Mh), (188, Mh), (82, (.aq [(.agg [.str, .im 3]), (.one (.int .i64))] [])), (86, acB), (153, acB), (87, Dp), (88, Dp), (144, Dp), (147, Dp), (196, Dp), (199, Dp), (89, acC), (90, acC), (128, acD), (184, acD), (139, (.aq [(.one (.int .i64)), (.one (.int .i64))] [])), (140, (.aq [(.agg [.int .i64, .str, .im 4]), (.one (.int .i64))] [])), (193, (.aq [(.one (.int .i64)), (.one (.str)), (.one (.int .i64))] [])), (194, (.aq [(.one (.im 1)), (.one (.bool))] [])), (195, (.aq [(.agg [.int .i64, .str]), (.one (.im 1)), (.one (.bool))] [])), (198, (.aq [(.agg [.str, .im 1, .im 3]), (.one (.str))] []))],
 [11, 12, 19, 21, 36, 41, 42, 43, 47, 53, 55, 93, 96, 97, 98, 100, 101, 150, 151, 153, 154, 158], fun n c => (Nat.beq n 11 && Nat.beq c 1) || (Nat.beq n 11 && Nat.beq c 7), []⟩
noncomputable def pT:Nat→Option lp:=ST.pT
theorem ap3:ND Tryz.prog nm pT:=ST.ok (by kernel_rfl)
end
end Go.Proofs.YtfmpdgeiodnnfaaGreatDoor
namespace Go.Proofs
section
open Go.Shelf
def Tryz.anG:Go.Shelf.Ren:=⟨fun | 173=>159 | 246=>167 | 283=>209 | 284=>210 | 285=>211 | 286=>212 | 129=>232 | 317=>231 | 318=>233 | 319=>234 | 320=>235 | 337=>248 | 338=>249 | n=>n,fun | 2=>2 | 3=>3 | 9=>9 | 4=>4 | 171=>231 | 0=>0 | 53=>200 | 37=>80 | 5=>5 | 173=>234 | 212=>250 | 51=>243 | 20=>20 | 213=>251 | 46=>96 | 232=>269 | 233=>270 | n=>n,fun | 17=>1 | 18=>2 | 19=>3 | n=>n⟩
theorem Tryz.anF : Go.Proofs.LaysM.n173 Tryz.prog Tryz.anG := {
  mixed := by kernel_rfl
  f129 := Tryz.func232.trans (fU some (by kernel_rfl))
  f173 := Tryz.func159.trans (fU some (by kernel_rfl))
  f246 := Tryz.func167.trans (fU some (by kernel_rfl))
  f283 := Tryz.func209.trans (fU some (by kernel_rfl))
  f284 := Tryz.func210.trans (fU some (by kernel_rfl))
  f285 := Tryz.func211.trans (fU some (by kernel_rfl))
  f286 := Tryz.func212.trans (fU some (by kernel_rfl))
  f317 := Tryz.func231.trans (fU some (by kernel_rfl))
  f318 := Tryz.func233.trans (fU some (by kernel_rfl))
  f319 := Tryz.func234.trans (fU some (by kernel_rfl))
  f320 := Tryz.func235.trans (fU some (by kernel_rfl))
  f337 := Tryz.func248.trans (fU some (by kernel_rfl))
  f338 := Tryz.func249.trans (fU some (by kernel_rfl))
  t0 := Tryz.underlying0
  a0 := Tryz.isAgg0
  z0 := Tryz.sizeOf0
  v0 := Tryz.zeroValue0
  t2 := Tryz.underlying2
  a2 := Tryz.isAgg2
  z2 := Tryz.sizeOf2
  v2 := Tryz.zeroValue2
  t3 := Tryz.underlying3
  a3 := Tryz.isAgg3
  z3 := Tryz.sizeOf3
  v3 := Tryz.zeroValue3
  t4 := Tryz.underlying4
  a4 := Tryz.isAgg4
  z4 := Tryz.sizeOf4
  v4 := Tryz.zeroValue4
  t5 := Tryz.underlying5
  a5 := Tryz.isAgg5
  z5 := Tryz.sizeOf5
  v5 := Tryz.zeroValue5
  t9 := Tryz.underlying9
  a9 := Tryz.isAgg9
  z9 := Tryz.sizeOf9
  v9 := Tryz.zeroValue9
  t20 := Tryz.underlying20
  a20 := Tryz.isAgg20
  z20 := Tryz.sizeOf20
  v20 := Tryz.zeroValue20
  t37 := Tryz.underlying80
  a37 := Tryz.isAgg80
  z37 := Tryz.sizeOf80
  v37 := Tryz.zeroValue80
  t46 := Tryz.underlying96
  a46 := Tryz.isAgg96
  z46 := Tryz.sizeOf96
  v46 := Tryz.zeroValue96
  t51 := Tryz.underlying243
  a51 := Tryz.isAgg243
  z51 := Tryz.sizeOf243
  v51 := Tryz.zeroValue243
  t53 := Tryz.underlying200
  a53 := Tryz.isAgg200
  z53 := Tryz.sizeOf200
  v53 := Tryz.zeroValue200
  t171 := Tryz.underlying231
  a171 := Tryz.isAgg231
  z171 := Tryz.sizeOf231
  v171 := Tryz.zeroValue231
  t173 := Tryz.underlying234
  a173 := Tryz.isAgg234
  z173 := Tryz.sizeOf234
  v173 := Tryz.zeroValue234
  t212 := Tryz.underlying250
  a212 := Tryz.isAgg250
  z212 := Tryz.sizeOf250
  v212 := Tryz.zeroValue250
  t213 := Tryz.underlying251
  a213 := Tryz.isAgg251
  z213 := Tryz.sizeOf251
  t232 := Tryz.underlying269
  a232 := Tryz.isAgg269
  z232 := Tryz.sizeOf269
  v232 := Tryz.zeroValue269
  t233 := Tryz.underlying270
  a233 := Tryz.isAgg270
  z233 := Tryz.sizeOf270
  v233 := Tryz.zeroValue270
  g17 := by kernel_rfl
  g18 := by kernel_rfl
  g19 := by kernel_rfl
  i0 := by kernel_rfl
  i2 := by kernel_rfl
  i3 := by kernel_rfl
  i4 := by kernel_rfl
  i5 := by kernel_rfl
  i9 := by kernel_rfl
  i20 := by kernel_rfl
  i37 := by kernel_rfl
  i46 := by kernel_rfl
  i51 := by kernel_rfl
  i53 := by kernel_rfl
  i171 := by kernel_rfl
  i173 := by kernel_rfl
  i212 := by kernel_rfl
  i232 := by kernel_rfl
  i233 := by kernel_rfl
  m17 := by kernel_rfl
  m18 := by kernel_rfl
  m19 := by kernel_rfl }
def Tryz.anE:Go.Shelf.Ren:=⟨fun | 217=>256 | 266=>261 | n=>n,fun | 9=>9 | 5=>5 | 3=>3 | n=>n,fun | n=>n⟩
theorem Tryz.anD : Go.Proofs.Lays.n217 Tryz.prog Tryz.anE := {
  mixed := by kernel_rfl
  f217 := Tryz.func256.trans (fU some (by kernel_rfl))
  f266 := Tryz.func261.trans (fU some (by kernel_rfl))
  t3 := Tryz.underlying3
  a3 := Tryz.isAgg3
  z3 := Tryz.sizeOf3
  v3 := Tryz.zeroValue3
  t5 := Tryz.underlying5
  a5 := Tryz.isAgg5
  z5 := Tryz.sizeOf5
  v5 := Tryz.zeroValue5
  t9 := Tryz.underlying9
  a9 := Tryz.isAgg9
  z9 := Tryz.sizeOf9
  v9 := Tryz.zeroValue9 }
end
end Go.Proofs
namespace Go.ax
section
section
variable {nm:FuncId→Option Nat} {N:Nat} {S:St} {a:Act} {w:World} {L:aw}
theorem Rel.Wa (h:Rel nm N S a w L) {r:aI} {t:TypeId} {B:Nat} (hr:r.iW=false) (hE:S.E (.b r 0) = .one (.bt t)) (hB:L B=some (.box r 0)) :
  Rel nm N S a (w.setCell ⟨B,0,none⟩ (.pointer (some ⟨B,0,none⟩))) L∧df w (w.setCell ⟨B,0,none⟩ (.pointer (some ⟨B,0,none⟩))) L L:=by
 have aA:∀{B2 l},L B2=some l→(∀r o,l≠.box r o)→(w.setCell ⟨B,0,none⟩ (.pointer (some ⟨B,0,none⟩))).heap[B2]? = w.heap[B2]?:=by
  intro B2 l hl qu;refine pD _ _ _ _ ?_;rintro rfl;rw [hB] at hl;simp only [aj] at hl;exact qu _ _ hl.symm
 have bA:Step w (w.setCell ⟨B,0,none⟩ (.pointer (some ⟨B,0,none⟩))) L L S.γ S.γ:=
  ⟨fun B hB => ⟨hB, aA hB (by simp)⟩, fun _ => bV _, fun B q o hq _ hL => ⟨hL, fun cur e fz hB => ⟨cur, (aA hL (by simp)).trans hB, rfl⟩⟩,
    fun B q o _ _ _ hB => aA hB (by simp), fun B r o _ hB => hB⟩
 have aj7:∀i,bD nm (w.setCell ⟨B,0,none⟩ (.pointer (some ⟨B,0,none⟩))) L S.γ (.s i) (S.E (.s i)) (a.tmps.getD i undef):=fun i=>
  (h.slot i).step bA (fun B q o hq hB=>by rw [←hq,Place.mh];exact ⟨hB,aA hB (by simp)⟩)
 obtain ⟨B0,o0,afW,e0,YD,v0,g1,g2,g3,g4,g5,g6⟩:∃B o cur e fz v,L B=some (.box r o)∧w.heap[B]? = some (.cells cur e fz)∧jD cur.size fz∧cur[o+0]? = some v∧aF nm w L S.γ (.b r 0) 0 (.bt t) v∧lO (.bt t) B o 0 e cur.size v:=by
  have:=h.cell r 0 _ hE (by simp);cases r with
  | g i=>cases hr
  | e i=>exact this
  | l i=>exact this
 obtain rfl:=h.fE B0 B r o0 0 g1 hB;obtain ⟨rfl,_,rfl,hn,hv⟩:=g6;refine ⟨⟨h.size,h.defers,aj7,?_,h.kg,h.bound,?_,?_,h.eM,h.fE⟩,⟨rfl,rfl,rfl,by simp,fun B hB=>⟨hB,aA hB (by simp)⟩,?_,fun _ _ _ hB=>hB⟩⟩
 ·intro r2 c x hx gi;by_cases he:r2=r∧c=0
  ·obtain ⟨rfl,rfl⟩:=he;rw [hE] at hx;simp only [V.one.injEq] at hx;subst hx;have hex:∃B o cur e fz v,L B=some (.box r2 o)∧(w.setCell ⟨B0,0,none⟩ (.pointer (some ⟨B0,0,none⟩))).heap[B]? = some (.cells cur e fz)∧jD cur.size fz∧cur[o+0]? = some v∧
     aF nm (w.setCell ⟨B0,0,none⟩ (.pointer (some ⟨B0,0,none⟩))) L S.γ (.b r2 0) 0 (.bt e0) v∧lO (.bt e0) B o 0 e cur.size v:=by
    refine ⟨B0,0,_,e0,YD,.pointer (some ⟨B0,0,none⟩),hB,xr w B0 0 _ g2,by simpa using g3,?_,.bt ⟨_,_,rfl⟩ rfl,rfl,rfl,rfl,by simpa using hn,.inr rfl⟩;simp only [wR,bW];rw [aJ (by omega)]
   cases r2 with
   | g i=>cases hr
   | e i=>exact hex
   | l i=>exact hex
  ·refine (h.cell r2 c x hx gi).step bA (fun B q o _ hB=>⟨hB,aA hB (by simp)⟩) ?_;intro B2 o2 pC;refine ⟨pC,fun cur e fz hc=>?_⟩;by_cases hb:B2=B0
   ·subst hb;rw [hB] at pC;simp only [aj,bS.box.injEq] at pC;obtain ⟨rfl,rfl⟩:=pC;refine ⟨cur.setIfInBounds 0 _,xr w B2 0 _ hc,by simp,?_⟩;rw [yJ];intro e;exact he ⟨rfl,by omega⟩
   ·exact ⟨cur,(pD _ _ _ _ hb).trans hc,rfl,rfl⟩
 ·intro r2 jV qx;obtain ⟨B2,o2,cur,e,fz,k1,k2,k3,k4⟩:=h.room r2 jV qx;by_cases hb:B2=B0
  ·subst hb;exact ⟨B2,o2,_,e,fz,k1,xr w B2 0 _ k2,by simpa using k3,by simpa using k4⟩
  ·exact ⟨B2,o2,cur,e,fz,k1,(pD _ _ _ _ hb).trans k2,k3,k4⟩
 ·intro B2 l hl;have:=h.ft B2 l hl;simpa using this
 ·intro B2 _ vG;refine ⟨vG,pD _ _ _ _ ?_⟩;rintro rfl;rw [hB] at vG;cases vG
theorem Rel.OU {vs:List V} {bs:List (List C)} (h:Rel nm N (ga 0 vs++dm 0 bs) a w L):Rel nm 0 (dm 0 bs) ⟨#[],[]⟩ w L:=by
 have hγ:(ga 0 vs++dm 0 bs:St).γ=(dm 0 bs:St).γ:=by rw [BI,Ii]
 have hE:∀k,(∀i,k≠.s i)→(ga 0 vs++dm 0 bs:St).E k=(dm 0 bs:St).E k:=by
  intro k hk;unfold St.E;rw [po];cases k with
  | s i=>exact absurd rfl (hk i)
  | _=>rfl
 refine ⟨rfl,rfl,?_,?_,?_,?_,?_,h.ft,h.eM,h.fE⟩
 ·intro i;rw [pw];exact .one .dead
 ·intro r c x hx hd;rw [←hE _ (by intro i e;cases e)] at hx;rw [←hγ];exact h.cell r c x hx hd
 ·intro r c;rw [←hE _ (by intro i e;cases e)];exact h.kg r c
 ·intro r c hc;rw [←hE _ (by intro i e;cases e)] at hc ⊢;exact h.bound r c hc
 ·intro r hg hr;rw [←hE _ (by intro i e;cases e)] at hr ⊢;exact h.room r hg hr
theorem jT.eq {P:Program} {cH:FuncId} {args:Array Value} {w:World} {R:Value→World→Prop} {v0:Value} {w0:World} (h:jT P cH args w fun v w'=>v=v0∧w'=w0) (hr:R v0 w0):jT P cH args w R:=
 h.mono (fun v w' ⟨h1,h2⟩=>by rw [h1,h2];exact hr)
theorem afU {P:Program} {cH:FuncId} {t:TypeId} {x:C}
  (ajD : ∀ (b : Nat) (w : World), w.cell? ⟨b, 0, none⟩ = some (.pointer none) → w.shape? b = some (t, 2) → w.frozen? ⟨b, 0, none⟩ = false →
    jT P cH #[.pointer (some ⟨b, 0, none⟩)] w fun v w' => v = .tuple #[] ∧ w' = w.setCell ⟨b, 0, none⟩ (.pointer (some ⟨b, 0, none⟩)))
  (ake:∀(b:Nat) (w:World),w.cell? ⟨b,0,none⟩=some (.pointer (some ⟨b,0,none⟩))→jT P cH #[.pointer (some ⟨b,0,none⟩)] w fun v w'=>v = .tuple #[]∧w'=w)
  {args:Array Value} (R:Rel nm 1 (ga 0 [.one (.ptr (.e 0) 0 0)]++dm 0 [[.bt t,x]]) ⟨args,[]⟩ w L) :
  jT P cH args w fun v w'=>∃L',df w w' L L'∧Rel nm 0 (dm 0 [[.bt t,x]]) ⟨#[],[]⟩ w' L'∧bD nm w' L' (fun _=>0) (.h 0) (.aq []) v:=by
 have hγ:=BI [V.one (.ptr (.e 0) 0 0)] [[.bt t,x]];have EW:(ga 0 [V.one (.ptr (.e 0) 0 0)]++dm 0 [[.bt t,x]]:St).E (.b (.e 0) 0) = .one (.bt t):=rfl;have h0:=R.slot 0;have oP:(ga 0 [V.one (.ptr (.e 0) 0 0)]++dm 0 [[.bt t,x]]:St).E (.s 0) = .one (.ptr (.e 0) 0 0):=rfl;rw [oP] at h0;have bf:args.size=1:=R.size;generalize hv:(⟨args,[]⟩:Act).tmps.getD 0 undef=v0 at h0;have sH:args = #[v0]:=by
  apply Array.ext
  ·simpa using bf
  ·intro i h1 h2;have:i=0:=by omega
   subst this;rw [←hv];simp [Array.getD,bf]
 cases h0 with
 | one h0=>
  cases h0 with
  | ptr iJ hg hp=>
   obtain ⟨B,o,hB,rfl⟩:=hp (by rw [hγ]);have hc:=R.cell (.e 0) 0 _ EW (by simp);obtain ⟨B',o',cur,e,fz,v,k1,k2,k3,k4,k5,k6⟩:=hc;obtain rfl:=R.fE B' B (.e 0) o' o k1 hB;obtain ⟨rfl,_,rfl,hn,oQ⟩:=k6;obtain rfl:o=0:=by rw [k1] at hB;simpa using hB.symm
   simp only [jn] at k4 sH;have fG:w.cell? ⟨B',0,none⟩=some v:=by rw [qZ k2];exact k4
   rcases oQ with rfl | rfl
   ·obtain ⟨R2,M2⟩:=R.Wa rfl EW hB;rw [sH];refine (ajD B' w fG (by simp [World.shape?,k2,hn]) ?_).eq ⟨L,M2,R2.OU,.aq rfl rfl (by simp)⟩;have:=k3 0 (by omega);simp only [World.frozen?,k2];simpa using this
   ·rw [sH];exact (ake B' w fG).eq ⟨L,df.refl w L,R.OU,.aq rfl rfl (by simp)⟩
theorem Rel.below {w':World} (h:Rel nm N S a w L) (hb:RowKit.Below w.heap.size w w'):Rel nm N S a w' L∧df w w' L L:=by
 have af:∀{B l},L B=some l→B < w.heap.size:=by
  intro B l hl;exact h.ft B l hl
 exact ⟨h.grown (fun B l hl=>hb.block B (af hl)),hb.os,hb.tape,hb.output,hb.size,fun B hB=>⟨hB,hb.block B (af hB)⟩,fun B hl hn=>⟨hn,hb.block B hl⟩,fun _ _ _ hB=>hB⟩
def aiV:D→Value
 | .int k n=>.int k n
 | .bool b=>.bool b
 | .str s=>.string ⟨s.toArray⟩
 | _=>undef
theorem VT {xs:List D} {bs:List (List C)} {args:Array Value} (hf:xs.all D.flat=true) (R:Rel nm (xs.map fun x=>V.one (.d x)).length (ga 0 (xs.map fun x=>V.one (.d x))++dm 0 bs) ⟨args,[]⟩ w L) :
  args=(xs.map aiV).toArray:=by
 have bf:args.size=xs.length:=by have:=R.size;simpa using this
 apply Array.ext
 ·simpa using bf
 ·intro i h1 h2;have hi:i < xs.length:=by omega
  have h0:=R.slot i;have hE:(ga 0 (xs.map fun x=>V.one (.d x))++dm 0 bs:St).E (.s i) = .one (.d xs[i]):=by
   unfold St.E;rw [po];simp only [yR,ll,de,cf,hi,bW,A6];simp [List.getD,hi]
  rw [hE] at h0;have hv:(⟨args,[]⟩:Act).tmps.getD i undef=args[i]:=by simp [Array.getD,h1]
  rw [hv] at h0;have hx:(xs[i]).flat=true:=lM.1 hf _ (bM hi);simp only [List.getElem_toArray,List.getElem_map];generalize xs[i]=x at h0 hx;generalize args[i]=v at h0;cases h0 with
  | one h0=>
   cases h0 with
   | d h0=>
    have:=aF.Yu (nm:=nm) (γ:=fun _=>0) (w:=w) (L:=L) (.d h0) hx;cases this<;>first | rfl | simp [D.flat] at hx
theorem BO {P:Program} {cH:FuncId} {args:Array Value} {g:Func} {c:Code} {R:Value→World→Prop} (hf:P.funcs[cH]? = some g) (mu:(g.name == "runtime.NumGoroutine")=false) (hb:g.body=some c)
  (h:Calls P cH args w fun e w'=>∃v,e = .returned v∧R v w'):jT P cH args w R:=by
 have Fx:¬ g.name = "runtime.NumGoroutine" := by simpa using mu
 have iU:(callFunc cH args).run P w = .ok (.enter cH args) w:=by simp [callFunc,hf,Fx,hb]
 unfold jT;rw [iU];exact h
theorem Xv {P:Program} {cH:FuncId} {vs:List V} {bs:List (List C)} {r:V} {Rv:Value→Prop} (hr:∀w L v,Rv v→bD nm w L (fun _=>0) (.h 0) r v)
  {args:Array Value} (R:Rel nm vs.length (ga 0 vs++dm 0 bs) ⟨args,[]⟩ w L)
  (h:jT P cH args w fun v w'=>Rv v∧RowKit.Below w.heap.size w w') :
  jT P cH args w fun v w'=>∃L',df w w' L L'∧Rel nm 0 (dm 0 bs) ⟨#[],[]⟩ w' L'∧bD nm w' L' (fun _=>0) (.h 0) r v:=
 h.mono (fun v w' ⟨h1,h2⟩=>⟨L,(R.below h2).2,(R.below h2).1.OU,hr w' L v h1⟩)
end
end
section
section
variable {nm:FuncId→Option Nat} {N:Nat} {S:St} {a:Act} {w:World} {L:aw}
theorem Rel.aoD {S':St} (h:Rel nm N S a w L) (hE:∀k,(∀i,k≠.s i)→S'.E k=S.E k) (hs:∀i,S'.E (.s i)=V.dead)
  (hd:∀r c x,S.E (.b r c) = .one x→x = .dead∨(∃y,x = .d y)∨∃t,x = .bt t):Rel nm 0 S' ⟨#[],[]⟩ w L:=by
 refine ⟨rfl,rfl,?_,?_,?_,?_,?_,h.ft,h.eM,h.fE⟩
 ·intro i;rw [hs];exact .one .dead
 ·intro r c x hx gi;rw [hE _ (by intro i e;cases e)] at hx;have h1:=h.cell r c x hx gi;have xE:∀{v},aF nm w L S.γ (.b r c) 0 x v→aF nm w L S'.γ (.b r c) 0 x v:=by
   intro v hv;rcases hd r c x hx with rfl | ⟨y,rfl⟩ | ⟨t,rfl⟩
   ·exact .dead
   ·cases hv with | d h=>exact .d h
   ·cases hv with | bt hk hv=>exact .bt hk hv
  cases r with
  | g i=>obtain ⟨v,hv⟩:=h1;exact ⟨v,xE hv⟩
  | e i=>obtain ⟨B,o,cur,e,fz,v,g1,g2,g3,g4,g5,g6⟩:=h1;exact ⟨B,o,cur,e,fz,v,g1,g2,g3,g4,xE g5,g6⟩
  | l i=>obtain ⟨B,o,cur,e,fz,v,g1,g2,g3,g4,g5,g6⟩:=h1;exact ⟨B,o,cur,e,fz,v,g1,g2,g3,g4,xE g5,g6⟩
 ·intro r c;rw [hE _ (by intro i e;cases e)];exact h.kg r c
 ·intro r c hc;rw [hE _ (by intro i e;cases e)] at hc ⊢;exact h.bound r c hc
 ·intro r hg hr;rw [hE _ (by intro i e;cases e)] at hr ⊢;exact h.room r hg hr
theorem aja {P:Program} {cH:FuncId} {t:TypeId} {n:Nat} (hn:1≤n)
  (hg : ∀ (b : Nat) (w : World) (p : Value) (fz : Nat × Nat), w.heap[b]? = some (.cells #[p, .slice none 0 0] t fz) → jD 2 fz →
    (p = .pointer none ∨ p = .pointer (some ⟨b, 0, none⟩)) →
    jT P cH #[.pointer (some ⟨b, 0, none⟩), .int .i64 n] w fun v w' => v = .tuple #[] ∧ ∃ cs : Array Value, n ≤ cs.size ∧ w'.os = w.os ∧ w'.tape = w.tape ∧ w'.output = w.output ∧
      w'.heap = ((w.setCell ⟨b, 0, none⟩ (.pointer (some ⟨b, 0, none⟩))).setCell ⟨b, 1, none⟩ (.slice (some ⟨w.heap.size, 0, none⟩) 0 cs.size)).heap.push (.cells cs 5))
  {args:Array Value} (hH:eI L) (R:Rel nm 2 (ga 0 [.one (.ptr (.e 0) 0 0),.one (.d (.int .i64 n))]++dm 0 [[.bt t,.d (.sl (.im true) 1 [])]]) ⟨args,[]⟩ w L) :
  jT P cH args w fun v w'=>∃L',df w w' L L'∧Rel nm 0 (dm 0 [[.bt t,.d (.sl .own 1 [])]]) ⟨#[],[]⟩ w' L'∧bD nm w' L' (fun _=>0) (.h 0) (.aq []) v:=by
 have hγ:=BI [V.one (.ptr (.e 0) 0 0),.one (.d (.int .i64 n))] [[.bt t,.d (.sl (.im true) 1 [])]];generalize zA:(ga 0 [V.one (.ptr (.e 0) 0 0),.one (.d (.int .i64 n))]++dm 0 [[.bt t,.d (.sl (.im true) 1 [])]]:St)=S0 at R hγ;have EW:S0.E (.b (.e 0) 0) = .one (.bt t):=by subst zA;rfl
 have YN:S0.E (.b (.e 0) 1) = .one (.d (.sl (.im true) 1 [])):=by subst zA;rfl
 have zw:S0.E (.r (.e 0))=fy 2:=by subst zA;rfl
 have bf:args.size=2:=R.size;have h0:=R.slot 0;have h1:=R.slot 1;rw [show S0.E (.s 0) = .one (.ptr (.e 0) 0 0) by subst zA;rfl] at h0;rw [show S0.E (.s 1) = .one (.d (.int .i64 n)) by subst zA;rfl] at h1;have sH:args = #[args[0],args[1]]:=by
  apply Array.ext
  ·simpa using bf
  ·intro i h1 h2;match i,h2 with
   | 0,_=>rfl
   | 1,_=>rfl
 rw [show (⟨args,[]⟩:Act).tmps.getD 0 undef=args[0] by simp [Array.getD,bf]] at h0;rw [show (⟨args,[]⟩:Act).tmps.getD 1 undef=args[1] by simp [Array.getD,bf]] at h1;generalize iJ:args[0]=v0 at h0;generalize nU:args[1]=v1 at h1;rw [iJ,nU] at sH;obtain rfl:v1 = .int .i64 n:=by
  cases h1 with
  | one h1=>cases h1 with
   | d h1=>cases h1 with
    | plain h1=>cases h1;rfl
 cases h0 with
 | one h0=>
  cases h0 with
  | ptr arB Jk hp=>
   obtain ⟨B,o,hB,rfl⟩:=hp (by rw [hγ]);obtain ⟨B',o',cur,e,fz,v,k1,k2,k3,k4,k5,k6⟩:=R.cell (.e 0) 0 _ EW (by simp);obtain rfl:=R.fE B' B (.e 0) o' o k1 hB;obtain ⟨rfl,_,rfl,akd,oQ⟩:=k6;obtain rfl:o=0:=by rw [k1] at hB;simpa using hB.symm
   obtain ⟨B2,o2,iG,e2,lr,u,j1,j2,j3,j4,j5,j6⟩:=R.cell (.e 0) 1 _ YN (by simp);obtain rfl:=R.fE B2 B' (.e 0) o2 0 j1 hB;obtain rfl:o2=0:=by rw [hB] at j1;simpa using j1.symm
   rw [k2] at j2;simp only [aj,Obj.cells.injEq] at j2;obtain ⟨rfl,rfl,rfl⟩:=j2;obtain rfl:u = .slice none 0 0:=by
    cases j5 with
    | d h=>cases h with
     | plain h=>cases h;rfl
   have zF:cur = #[v,.slice none 0 0]:=by
    apply Array.ext
    ·simpa using akd
    ·intro i h1 h2;match i,h2 with
     | 0,_=>
      have:=(lL.1 k4).2;simpa using this
     | 1,_=>
      have:=(lL.1 j4).2;simpa using this
   subst zF;simp only [jn] at sH;obtain ⟨R1,M1⟩:=R.Wa rfl EW hB;have af:B2 < w.heap.size:=(lL.1 k2).1;rw [sH];refine (hg B2 w v fz k2 k3 oQ).mono ?_;rintro _ w' ⟨rfl,cs,eE,ho,ht,hu,hh⟩;generalize Jc:w.setCell ⟨B2,0,none⟩ (.pointer (some ⟨B2,0,none⟩))=W1 at R1 M1 hh;have kx:W1.heap.size=w.heap.size:=by subst Jc;simp
   have Jj:∀B o,L B≠some (.row ⟨.h 0,0,[]⟩ o):=by
    intro B o hB;have:=hH B _ o hB;simp [Key.aT] at this
   obtain ⟨R2,M2,C2⟩:=R1.LA (m:=0) (j:=0) Jj (w':=W1.alloc (.cells cs 5)) (cur:=cs) (e:=5) (fz:=(0,0)) (rows:=[]) (val:=fun _ _=>undef) (sz:=1) (cap:=cs.size)
    (oL W1 _) (fun B hB=>nk W1 _ hB) (fun j _=>by simp) ⟨rfl,rfl,rfl,by simp⟩ Nat.one_pos (by simp) (by simp) (by simp) (by intro i c x hx;simp [cellOf] at hx)
    (by intro i c x hx;simp [cellOf] at hx) (fun _=>rfl)
   have pC:(L.put W1.heap.size (.row ⟨.h 0,0,[]⟩ 0)) B2=some (.box (.e 0) 0):=by
    rw [aw.gw (by omega)];exact hB
   obtain ⟨L3,R3,_,M3,_,_⟩:=R2.Wk (m:=0) (j:=0) pC (c:=1) (by rw [zw];decide) rfl C2;have ek:w'.heap=((W1.alloc (.cells cs 5)).setCell ⟨B2,0+1,none⟩ (.slice (some ⟨W1.heap.size,0,none⟩) ([]:List (List D)).length cs.size)).heap:=by
    rw [hh,kx];have vr:(W1.alloc (.cells cs 5)).heap=W1.heap.push (.cells cs 5):=by rw [←World.alloc_eq]
    simp only [World.setCell,vr];apply Array.ext
    ·simp
    ·intro i h1 h2;simp only [Array.getElem_push,Array.getElem_modify,Array.size_modify];by_cases hi:i < W1.heap.size
     ·simp [hi,Array.getElem_push]
     ·have:i=W1.heap.size:=by simp at h1;omega
      subst this;simp [show ¬ B2=W1.heap.size by omega]
   obtain ⟨R4,M4⟩:=R3.below (w':=w') ⟨by rw [ho];subst Jc;rfl,by rw [ht];subst Jc;rfl,by rw [hu];subst Jc;rfl,by rw [ek];exact bV _,fun i _=>by rw [ek]⟩;refine ⟨L3,((M1.trans M2).trans M3).trans M4,R4.aoD ?_ ?_ ?_,.aq rfl rfl (by simp)⟩
   ·intro k hk;rw [St.ij];subst zA;simp only;unfold St.E;rw [po];split
    ·rename_i he;subst he;rfl
    ·rename_i he;rw [pv];cases k with
     | s i=>exact absurd rfl (hk i)
     | r x=>
      simp only;rw [pv];cases x with
      | e i=>
       match i with
       | 0=>rfl
       | i+1=>simp
      | _=>rfl
     | b x c=>
      simp only;rw [pv];cases x with
      | e i=>
       match i,c with
       | 0,0=>rfl
       | 0,1=>exact absurd rfl he
       | 0,c+2=>simp
       | i+1,c=>simp
      | _=>rfl
     | _=>simp only;rw [pv]
   ·intro i;rw [pw]
   ·intro r c x hx;rw [St.ij] at hx;simp only at hx;split at hx
    ·simp only [V.one.injEq] at hx;subst hx;exact .inr (.inl ⟨_,rfl⟩)
    ·subst zA;unfold St.E at hx;rw [po] at hx;simp only at hx;rw [pv] at hx;cases r with
     | e i=>
      match i,c with
      | 0,0=>simp at hx;subst hx;exact .inr (.inr ⟨_,rfl⟩)
      | 0,1=>simp at hx;subst hx;exact .inr (.inl ⟨_,rfl⟩)
      | 0,c+2=>simp [V.dead] at hx;exact .inl hx.symm
      | i+1,c=>simp [V.dead] at hx;exact .inl hx.symm
     | g i=>simp [V.dead] at hx;exact .inl hx.symm
     | l i=>simp [V.dead] at hx;exact .inl hx.symm
end
end
end Go.ax
namespace Go.Proofs.YtfmpdgeiodnnfaaGreatDoor
section
open Go Go.ax Go.RowKit Go.Proofs Go.Sort
set_option maxHeartbeats 1000000 in
theorem Xa (b:Nat) (w:World) (h0:w.cell? ⟨b,0,none⟩=some (.pointer (some ⟨b,0,none⟩))) :
  Calls Tryz.prog 91 #[.pointer (some ⟨b,0,none⟩)] w fun e w'=>e = .returned (.tuple #[])∧w'=w:=by
 obtain ⟨j,hj⟩:∃j,Tryz.prog.info? 82=some j:=yS.1 (by kernel_rfl);have hp:Tryz.prog.underlying 79=some (.pointer 82):=by kernel_rfl
 go_enter Tryz.func91,Tryz.ntmps91;go_wp2;rw [Lib.run_neq_ptr_same w _ hp hj];go_wp2;go_end0;exact ⟨rfl,rfl⟩
set_option maxHeartbeats 1000000 in
theorem W9 (b:Nat) (w:World) (h0:w.cell? ⟨b,0,none⟩=some (.pointer none)) (Cq:w.shape? b=some (82,2)) (cU:w.frozen? ⟨b,0,none⟩=false) :
  Calls Tryz.prog 91 #[.pointer (some ⟨b,0,none⟩)] w fun e w'=>e = .returned (.tuple #[])∧w'=w.setCell ⟨b,0,none⟩ (.pointer (some ⟨b,0,none⟩)):=by
 obtain ⟨j,hj,hjs⟩:∃j,Tryz.prog.info? 82=some j∧j.size=2:=Option.map_eq_some_iff.1 (by kernel_rfl);have hp:Tryz.prog.underlying 79=some (.pointer 82):=by kernel_rfl
 have hu:Tryz.prog.underlying 187=some .unsafePointer:=by kernel_rfl
 go_enter Tryz.func91,Tryz.ntmps91;go_wp2;rw [Lib.run_to_unsafe w ⟨b,0,none⟩ hp hu hj (by rw [hjs];decide) Cq (Nat.zero_lt_succ 1)];simp only [Result.andThen];rw [Oper.upon_value];go_wp2;rw [run_callFunc_extern Tryz.func148 (by kernel_rfl) (by kernel_rfl) (by kernel_rfl) (e:=Extern.AbiNoEscape.same) (by kernel_rfl)];rw [Lib.run_noEscape];simp only [Result.andThen];rw [Oper.upon_value];go_wp2;rw [Lib.run_from_unsafe w ⟨b,0,none⟩ hu hp hj Cq (by kernel_rfl)];simp only [Result.andThen];rw [Oper.upon_value];go_wp2;go_end0;exact ⟨rfl,rfl⟩
set_option maxHeartbeats 1000000 in
theorem YM (b:Nat) (w:World) (n:Nat) {T:TypeId} {p:Value} {fz:Nat×Nat} (ni:w.heap[b]? = some (.cells #[p,.slice none 0 0] T fz)) (cU:w.frozen? ⟨b,1,none⟩=false) (hn:n≤281474976710656) :
  Calls Tryz.prog 166 #[.pointer (some ⟨b,0,none⟩),.int .i64 n] w fun e w'=>e = .returned (.tuple #[])∧∃(k:Nat) (cs:Array Value),n≤cs.size∧w'=((w.setCell ⟨b,1,none⟩ (.slice (some ⟨w.heap.size,0,none⟩) 0 cs.size)).alloc (.cells cs 5)).drewN k:=by
 have af:b < w.heap.size:=(lL.1 ni).1;have ZR:Tryz.prog.underlying 80=some (.slice 5):=by kernel_rfl
 obtain ⟨cs,iU,hle,Jv⟩:=Lib.run_makeNoZero (P:=Tryz.prog) w.drew #[3] 80 5 ZR n hn;have hw:IntKind.i64.wrap (IntKind.i64.wrap 0+(n:Int))=n:=by
  rw [IntKind.wrap_i64,IntKind.wrap_i64];omega
 have aro:(callFunc 208 #[.int .i64 (IntKind.i64.wrap (IntKind.i64.wrap 0+(n:Int)))]).run Tryz.prog w.drew = .ok (.value (.slice (some ⟨w.drew.heap.size,0,none⟩) n cs.size)) (w.drew.drew.drew.alloc (.cells cs 5)):=by
  rw [hw,run_callFunc_extern Tryz.func208 (by kernel_rfl) (by kernel_rfl) (by kernel_rfl) (e:=Extern.BytealgMakeNoZero.makeNoZero #[3] #[80]) (by kernel_rfl),iU];rfl
 have c1:w.drew.cell? ⟨b,1,none⟩=some (.slice none 0 0):=by
  have:w.drew.heap[b]? = _:=ni;rw [Lib.cell_of_heap this];rfl
 have c2:(w.alloc (.cells cs 5)).cell? ⟨b,1,none⟩=some (.slice none 0 0):=by
  have:(w.alloc (.cells cs 5)).heap[b]? = _:=(Lib.alloc_old w _ b af).trans ni;rw [Lib.cell_of_heap this];rfl
 have f2:(w.alloc (.cells cs 5)).frozen? ⟨b,1,none⟩=false:=by
  rw [←cU];simp only [World.frozen?,Lib.alloc_old w _ b af]
 have bf:(Tryz.prog.info? 5).map (·.size)=some 1:=by kernel_rfl
 have arp:∀W:World,(Builtin.copy_ #[80,80] 3 #[.slice (some ⟨w.heap.size,0,none⟩) 0 cs.size,.slice none 0 0]).run Tryz.prog W = .ok (goInt 0) W:=
  fun W=>run_copy_none W 80 80 3 5 _ _ 0 cs.size 0 0 ZR bf rfl
 have mixed:Tryz.prog.follows Departure.mixedOrders=true:=by kernel_rfl
 clear hw;go_enter Tryz.func166,Tryz.ntmps166;go_wp2;go_region_o;all_goals (go_wp2;go_end0;first | exact ⟨rfl,3,cs,hle,rfl⟩ | exact ⟨rfl,2,cs,hle,rfl⟩ | exact ⟨rfl,4,cs,hle,rfl⟩ | exact ⟨rfl,5,cs,hle,rfl⟩)
theorem apA {w:World} {b:Nat} {p q:Value} {T:TypeId} {fz:Nat×Nat} (ni:w.heap[b]? = some (.cells #[p,q] T fz)):(w.setCell ⟨b,0,none⟩ p).heap=w.heap:=by
 have af:b < w.heap.size:=(lL.1 ni).1;simp only [World.setCell];apply Array.ext
 ·simp
 ·intro i h1 h2;simp only [Array.getElem_modify];split
  ·rename_i he;subst he;rw [(lL.1 ni).2];simp
  ·rfl
theorem Y8 {w W:World} {a:Addr} {v:Value} {o:Obj} (k:Nat) (h:W.heap=w.heap):(((w.setCell a v).alloc o).drewN k).heap=(W.setCell a v).heap.push o:=by
 have h2:((w.setCell a v).alloc o).heap=(w.setCell a v).heap.push o:=by rw [←World.alloc_eq]
 show ((w.setCell a v).alloc o).heap=_;rw [h2];show (w.heap.modify a.block _).push o=(W.heap.modify a.block _).push o;rw [h]
def Vv (b n:Nat) (w:World) (e:Ending) (w':World):Prop:=e = .returned (.tuple #[])∧∃cs:Array Value,n≤cs.size∧w'.os=w.os∧w'.tape=w.tape∧w'.output=w.output∧
 w'.heap=((w.setCell ⟨b,0,none⟩ (.pointer (some ⟨b,0,none⟩))).setCell ⟨b,1,none⟩ (.slice (some ⟨w.heap.size,0,none⟩) 0 cs.size)).heap.push (.cells cs 5)
set_option maxHeartbeats 1000000 in
theorem ae6 (b n:Nat) (w:World) {fz:Nat×Nat} (ni:w.heap[b]? = some (.cells #[.pointer (some ⟨b,0,none⟩),.slice none 0 0] 82 fz)) (cU:jD 2 fz) (lz:1≤n) (hn:n≤140737488355328) :
  Calls Tryz.prog 112 #[.pointer (some ⟨b,0,none⟩),.int .i64 n] w (Vv b n w):=by
 have c0:w.cell? ⟨b,0,none⟩=some (.pointer (some ⟨b,0,none⟩)):=by rw [Lib.cell_of_heap ni];rfl
 have c1:w.cell? ⟨b,1,none⟩=some (.slice none 0 0):=by rw [Lib.cell_of_heap ni];rfl
 have c1':w.drew.cell? ⟨b,1,none⟩=some (.slice none 0 0):=c1;have Qf:w.frozen? ⟨b,1,none⟩=false:=by
  have:=cU 1 (by omega);simp only [World.frozen?,ni];simpa using this
 have mixed:Tryz.prog.follows Departure.mixedOrders=true:=by kernel_rfl
 have af:¬ (IntKind.i64.wrap (0 - 0)≥(n:Int)):=by rw [IntKind.wrap_i64];omega
 have e1:∀args w,(callFunc 91 args).run Tryz.prog w = .ok (.enter 91 args) w:=enters_of Tryz.func91 (by kernel_rfl) rfl;have e2:∀args w,(callFunc 166 args).run Tryz.prog w = .ok (.enter 166 args) w:=enters_of Tryz.func166 (by kernel_rfl) rfl;go_enter Tryz.func112,Tryz.ntmps112;go_wp2_with (go_at_fn 91;refine (Xa b w c0).mono ?_;rintro e w' ⟨rfl,hw⟩;subst w');go_region_o;all_goals go_wp2_with (go_at_fn 166;refine (YM b w.drew n ni Qf (by omega)).mono ?_;rintro e w' ⟨rfl,k,cs,eE,rfl⟩)
 all_goals first
  | (exfalso;omega)
  | (go_end0;exact ⟨rfl,cs,eE,rfl,rfl,rfl,Y8 (1+k) (apA ni)⟩)
set_option maxHeartbeats 1000000 in
theorem ae5 (b n:Nat) (w:World) {fz:Nat×Nat} (ni:w.heap[b]? = some (.cells #[.pointer none,.slice none 0 0] 82 fz)) (cU:jD 2 fz) (lz:1≤n) (hn:n≤140737488355328) :
  Calls Tryz.prog 112 #[.pointer (some ⟨b,0,none⟩),.int .i64 n] w (Vv b n w):=by
 have P1:(w.setCell ⟨b,0,none⟩ (.pointer (some ⟨b,0,none⟩))).heap[b]? = some (.cells #[.pointer (some ⟨b,0,none⟩),.slice none 0 0] 82 fz):=by
  simp [World.setCell,A0,ni]
 have c1:(w.setCell ⟨b,0,none⟩ (.pointer (some ⟨b,0,none⟩))).cell? ⟨b,1,none⟩=some (.slice none 0 0):=by rw [Lib.cell_of_heap P1];rfl
 have c1':(w.setCell ⟨b,0,none⟩ (.pointer (some ⟨b,0,none⟩))).drew.cell? ⟨b,1,none⟩=some (.slice none 0 0):=c1;have Qf:(w.setCell ⟨b,0,none⟩ (.pointer (some ⟨b,0,none⟩))).frozen? ⟨b,1,none⟩=false:=by
  have:=cU 1 (by omega);simp only [World.frozen?,P1];simpa using this
 have Qe:w.frozen? ⟨b,0,none⟩=false:=by
  have:=cU 0 (by omega);simp only [World.frozen?,ni];simpa using this
 have mixed:Tryz.prog.follows Departure.mixedOrders=true:=by kernel_rfl
 have af:¬ (IntKind.i64.wrap (0 - 0)≥(n:Int)):=by rw [IntKind.wrap_i64];omega
 have e1:∀args w,(callFunc 91 args).run Tryz.prog w = .ok (.enter 91 args) w:=enters_of Tryz.func91 (by kernel_rfl) rfl;have e2:∀args w,(callFunc 166 args).run Tryz.prog w = .ok (.enter 166 args) w:=enters_of Tryz.func166 (by kernel_rfl) rfl;go_enter Tryz.func112,Tryz.ntmps112;go_wp2_with (go_at_fn 91;refine (W9 b w (by rw [Lib.cell_of_heap ni];rfl) (by simp [World.shape?,ni]) Qe).mono ?_;rintro e w' ⟨rfl,hw⟩;subst w');go_region_o;all_goals go_wp2_with (go_at_fn 166;refine (YM b (w.setCell ⟨b,0,none⟩ (.pointer (some ⟨b,0,none⟩))).drew n P1 Qf (by omega)).mono ?_;rintro e w' ⟨rfl,k,cs,eE,rfl⟩)
 all_goals first
  | (exfalso;omega)
  | (go_end0;exact ⟨rfl,cs,eE,rfl,rfl,rfl,Y8 (1+k) rfl⟩)
def Ma:String:=(Rows.printerLinesRow.laid.map (·.1)).getD 2 default
def oB:Nat→Nat→List UInt8
 | 0,u=>[UInt8.ofNat (48+u)]
 | f+1,u=>if u < 10 then [UInt8.ofNat (48+u)] else oB f (u / 10)++[UInt8.ofNat (48+u % 10)]
theorem OS:∀(f u:Nat),u < 10 ^ (f+1)→oB f u=Lib.decDigits u
 | 0,u,h=>by rw [Lib.decDigits,dif_pos (by simpa using h)];rfl
 | f+1,u,h=>by
  rw [Lib.decDigits];simp only [oB];by_cases h1:u < 10
  ·rw [aJ h1,dif_pos h1]
  ·rw [aB h1,dif_neg h1,OS f (u / 10) (by rw [Vi] at h;omega)]
def pJ (n:Int):List UInt8:=if n < 0 then 45::oB 19 n.natAbs else oB 19 n.toNat
theorem akn {n:Int} (h0 : -9223372036854775808≤n) (h1:n≤9223372036854775807):pJ n=Lib.itoa n:=by
 unfold pJ Lib.itoa;by_cases h:n < 0
 ·rw [aJ h,aJ h,OS _ _ (by simp;omega)]
 ·rw [aB h,aB h,OS _ _ (by simp;omega)]
def Aw:bX:=fun f vs bx=>match f with
 | 91=>match vs,bx with
  | [.one (.ptr (.e 0) 0 0)],[[.bt t,x]]=>match Nat.beq t 82 with
   | true=>some (.aq [],[[.bt 82,x]])
   | false=>none
  | _,_=>none
 | 159=>match vs,bx with
  | [.one (.d (.int .i64 n)),.one (.d (.int .i64 m))],[]=>if m=10∧-9223372036854775808≤n∧n≤9223372036854775807 then some (.one (.d (.str (pJ n))),[]) else none
  | _,_=>none
 | 256=>match vs,bx with
  | [.one (.d (.str s)),.one (.d (.int .u8 c))],[]=>some (.one (.d (.int .i64 (Lib.indexByte s c.toNat.toUInt8))),[])
  | _,_=>none
 | 112=>match vs,bx with
  | [.one (.ptr (.e 0) 0 0),.one (.d (.int .i64 n))],[[.bt t,.d (.sl (.im true) 1 [])]]=>match Nat.beq t 82,decide (1≤n∧n≤140737488355328) with
   | true,true=>some (.aq [],[[.bt 82,.d (.sl .own 1 [])]])
   | _,_=>none
  | _,_=>none
 | _=>none
theorem afi (w:World) (k:Nat) (os:Array Obj):Below w.heap.size w (grow (w.drewN k) os):=by
 refine ⟨rfl,rfl,rfl,by simp [grow,World.drewN],fun i hi=>?_⟩;simp only [grow,World.drewN];rw [AZ hi]
theorem aoI (G:Nat→Option Obj)
  (QL:∀w L,GI G w L→Lib.TabIs Tryz.prog w Ma .u64 Lib.pow10Tab):Vy Tryz.prog nm G pT Aw:=by
 intro f vs bx r out cH hT hp hn args w L R hH hG hE;obtain rfl:cH=f:=by simpa [nm] using hn
 unfold Aw at hp;split at hp
 ·split at hp
  ·rename_i t x;split at hp
   ·rename_i ht;have ht:=mU ht;subst ht;simp only [aj,fK] at hp;obtain ⟨rfl,rfl⟩:=hp;exact afU (fun b w h1 h2 h3=>BO Tryz.func91 (by kernel_rfl) rfl ((W9 b w h1 h2 h3).mono (fun e w' h=>⟨_,h.1,rfl,h.2⟩)))
     (fun b w h1=>BO Tryz.func91 (by kernel_rfl) rfl ((Xa b w h1).mono (fun e w' h=>⟨_,h.1,rfl,h.2⟩))) R
   ·cases hp
  ·cases hp
 ·split at hp
  ·rename_i n m;split at hp
   ·rename_i hc;simp only [aj,fK] at hp;obtain ⟨rfl,rfl⟩:=hp;obtain ⟨rfl,h0,h1⟩:=hc;have ha:=VT (xs:=[.int .i64 n,.int .i64 10]) (bs:=[]) rfl R;refine Xv (Rv:=fun u=>u = .string ⟨(Lib.itoa n).toArray⟩) ?_ R ?_
    ·rintro w L u rfl;rw [akn h0 h1];exact .one (.d (.plain .str))
    ·rw [ha];refine BO Tryz.func159 (by kernel_rfl) rfl ((Any.strconv_FormatInt_10 Tryz.anF n h0 h1 w (QL w L hG)).mono (fun e w' h=>⟨_,h.1,rfl,?_⟩));obtain ⟨k,os,rfl⟩:=h.2;exact afi w k os
   ·cases hp
  ·cases hp
 ·split at hp
  ·rename_i s c;simp only [aj,fK] at hp;obtain ⟨rfl,rfl⟩:=hp;have ha:=VT (xs:=[.str s,.int .u8 c]) (bs:=[]) rfl R;refine Xv (Rv:=fun u=>u = .int .i64 (Lib.indexByte s c.toNat.toUInt8)) ?_ R ?_
   ·rintro w L u rfl;exact .one (.d (.plain .int))
   ·rw [ha];refine BO Tryz.func256 (by kernel_rfl) rfl ((Any.stringslite_IndexByte Tryz.anD ⟨s.toArray⟩ c w).mono (fun e w' h=>⟨_,h.1,by simp,by rw [h.2];exact Below.refl _ _⟩))
  ·cases hp
 ·split at hp
  ·rename_i n t;split at hp
   ·rename_i ht hc;have ht:=mU ht;subst ht;obtain ⟨h1,h2⟩:=tN hc;simp only [aj,fK] at hp;obtain ⟨rfl,rfl⟩:=hp;obtain ⟨k,rfl⟩:=Int.eq_ofNat_of_zero_le (show 0≤n by omega);refine aja (n:=k) (by omega) ?_ hH R;intro b w p fz g1 g2 g3;rcases g3 with rfl | rfl
    ·exact BO Tryz.func112 (by kernel_rfl) rfl ((ae5 b k w g1 g2 (by omega) (by omega)).mono (fun e w' h=>⟨_,h.1,rfl,h.2⟩))
    ·exact BO Tryz.func112 (by kernel_rfl) rfl ((ae6 b k w g1 g2 (by omega) (by omega)).mono (fun e w' h=>⟨_,h.1,rfl,h.2⟩))
   ·cases hp
  ·cases hp
 ·cases hp
end
end Go.Proofs.YtfmpdgeiodnnfaaGreatDoor
