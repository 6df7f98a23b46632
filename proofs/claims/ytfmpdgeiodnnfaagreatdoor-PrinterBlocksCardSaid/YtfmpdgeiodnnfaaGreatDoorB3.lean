/- A part of the proof. -/
import Derived.Test.YtfmpdgeiodnnfaaGreatDoorB2
import Derived.Test.YtfmpdgeiodnnfaaGreatDoorB0
import Derived.Test.YtfmpdgeiodnnfaaGreatDoorB1
import Derived.Test.YtfmpdgeiodnnfaaGreatDoorChecked
import Derived.KernelRfl
import Derived.Shelf.Strings.Builder1
import Derived.Shelf.LaysM
import Derived.Shelf.LaysC
import Derived.Shelf.Strconv.Itoa4
import Derived.Shelf.Strings.Search1
import Derived.Shelf.Strconv.AtoiAll
import Derived.Shelf.Strconv.ErrVarAll
import Derived.Shelf.Strconv.ErrVarParseInt
import Derived.Test.YtfmpdgeiodnnfaaGreatDoorProg
import Derived.Below
import Derived.Test.YtfmpdgeiodnnfaaGreatDoorRows
import Derived.Lib.Walk
import Derived.Lib.Builder
import Derived.Lib.UnsafeStr
import Derived.WalkKit
import Derived.Laws.Externs
import Derived.Lib.MakeNoZero
import Derived.Laws.IdiomCopy
set_option maxRecDepth 100000
set_option linter.all false
namespace Go.ax
section
theorem qD:∀(rs:List aI) {r:aI} {i k:Nat},jl rs r i=some k→i≤k∧rs[k - i]? = some r
 | [],r,i,k,h=>by simp [jl] at h
 | x::t,r,i,k,h=>by
  simp only [jl] at h;split at h
  ·rename_i hx;simp only [ai] at h;subst h;subst hx;exact ⟨bT _,by simp⟩
  ·obtain ⟨h1,h2⟩:=qD t h;refine ⟨by omega,?_⟩;rw [show k - i=(k - (i+1))+1 by omega,yx];exact h2
theorem yh:∀(rs:List aI) {r:aI} {i k:Nat},rs.Nodup→rs[k]? = some r→jl rs r i=some (i+k)
 | [],r,i,k,_,h=>by simp at h
 | x::t,r,i,k,hn,h=>by
  simp only [jl];cases k with
  | zero=>simp at h;subst h;simp
  | succ k=>
   rw [yx] at h;have az:x≠r:=by
    rintro rfl;exact (Ng.1 hn).1 (ft h)
   rw [aB az,yh t (Ng.1 hn).2 h];congr 1;omega
def gp (rs:List aI) (E:Key→V) (L:aw):aw:=fun B=>
 match L B with
 | some .bh=>some .bh
 | some (.box r o)=>(jl rs r 0).map fun i=>.box (.e i) o
 | some (.row ⟨.b r c,j,p⟩ o)=>match jl rs r 0,E (.b r c) with
  | some i,.one (.d _)=>some (.row ⟨.b (.e i) c,j,p⟩ o)
  | _,_=>none
 | _=>none
section
variable {nm:FuncId→Option Nat} {N:Nat} {S S0:St} {a:Act} {w w0:World} {L L0:aw} {P:Program} {o:Oper} {Cl:bX} {d:Nat} {ws:List Wr} {γ:Key→Nat} {rs:List aI} {E:Key→V}
theorem u5 {B:Nat} (h:L B=some .bh):gp rs E L B=some .bh:=by simp [gp,h]
theorem y9 {B o i:Nat} {r:aI} (h:L B=some (.box r o)) (hi:jl rs r 0=some i):gp rs E L B=some (.box (.e i) o):=by simp [gp,h,hi]
theorem ahN {B o i c j:Nat} {r:aI} {p:List (Nat×Nat)} {x:D} (h:L B=some (.row ⟨.b r c,j,p⟩ o)) (hi:jl rs r 0=some i) (hE:E (.b r c) = .one (.d x)):gp rs E L B=some (.row ⟨.b (.e i) c,j,p⟩ o):=by
 simp [gp,h,hi,hE]
theorem pq {B:Nat} {l:bO} (h:gp rs E L B=some l):(l = .bh∧L B=some .bh)∨(∃r o i,l = .box (.e i) o∧L B=some (.box r o)∧jl rs r 0=some i)∨
  ∃r c j p o i x,l = .row ⟨.b (.e i) c,j,p⟩ o∧L B=some (.row ⟨.b r c,j,p⟩ o)∧jl rs r 0=some i∧E (.b r c) = .one (.d x):=by
 unfold gp at h;split at h
 ·simp only [ai] at h;exact .inl ⟨h.symm,‹_›⟩
 ·rename_i r o hL;obtain ⟨i,h1,h2⟩:=bG h;exact .inr (.inl ⟨r,o,i,h2,hL,h1⟩)
 ·rename_i r c j p o hL;split at h
  ·rename_i i x h1 h2;simp only [ai] at h;exact .inr (.inr ⟨r,c,j,p,o,i,x,h.symm,hL,h1,h2⟩)
  ·cases h
 ·cases h
theorem xy:∀{l l':List C} (j:Nat) {c':C},lO rs l=some l'→l'[j]? = some c'→∃c,l[j]? = some c∧c.dY rs=some c'
 | [],l',j,c',h,hj=>by simp only [lO,ai] at h;subst h;simp at hj
 | c::t,l',j,c',h,hj=>by
  simp only [lO] at h;obtain ⟨c1,h1,h2⟩:=ff.1 h;obtain ⟨t1,h3,rfl⟩:=bG h2;cases j with
  | zero=>simp at hj;subst hj;exact ⟨c,rfl,h1⟩
  | succ j=>obtain ⟨c2,g1,g2⟩:=xy j h3 (by simpa using hj);exact ⟨c2,by simpa using g1,g2⟩
theorem xA:∀{l l':List C},lO rs l=some l'→l'.length=l.length
 | [],l',h=>by simp only [lO,ai] at h;subst h;rfl
 | c::t,l',h=>by
  simp only [lO] at h;obtain ⟨c1,h1,h2⟩:=ff.1 h;obtain ⟨t1,h3,rfl⟩:=bG h2;simp [xA h3]
theorem xY:∀{l:List C} {j:Nat} {c:C} {x:aI×Nat},l[j]? = some c→x∈c.vX→x∈kW l
 | [],_,_,_,h,_=>by simp at h
 | y::t,0,c,x,h,hx=>by simp at h;subst h;simp [kW,hx]
 | y::t,j+1,c,x,h,hx=>by simp only [kW,dC];exact .inr (xY (by simpa using h) hx)
mutual
theorem JP:∀{c c':C},c.clean=true→c.dY rs=some c'→c'.clean=true
 | .d x,c',h,hi=>by simp only [C.dY,ai] at hi;subst hi;exact h
 | .ptr r g k,c',h,hi=>by simp only [C.dY] at hi;obtain ⟨i,_,rfl⟩:=bG hi;rfl
 | .pp cells,c',h,hi=>by simp only [C.dY,ai] at hi;subst hi;rfl
 | .fn f x y,c',h,hi=>by
  simp only [C.dY] at hi;obtain ⟨x',h1,h2⟩:=ff.1 hi;obtain ⟨y',h3,rfl⟩:=bG h2;simp only [C.clean,bK] at h ⊢;exact ⟨JQ h.1 h1,JQ h.2 h3⟩
 | .cz,c',h,hi=>by simp only [C.dY,ai] at hi;subst hi;rfl
 | .eX,c',h,hi=>by simp only [C.dY,ai] at hi;subst hi;rfl
 | .fS,c',h,hi=>by simp only [C.dY,ai] at hi;subst hi;rfl
 | .fm,c',h,hi=>by simp only [C.dY,ai] at hi;subst hi;rfl
 | .dead,c',h,hi=>by simp only [C.dY,ai] at hi;subst hi;rfl
 | .eE ..,c',h,hi=>by simp [C.dY] at hi
 | .view ..,c',h,hi=>by simp [C.dY] at hi
 | .c6 ..,c',h,hi=>by simp [C.dY] at hi
 | .mp _,c',h,hi=>by simp [C.dY] at hi
 | .gi ..,c',h,hi=>by simp [C.dY] at hi
theorem JQ:∀{l l':List C},jm l=true→lO rs l=some l'→jm l'=true
 | [],l',h,hi=>by simp only [lO,ai] at hi;subst hi;rfl
 | c::t,l',h,hi=>by
  simp only [lO] at hi;obtain ⟨c1,h1,h2⟩:=ff.1 hi;obtain ⟨t1,h3,rfl⟩:=bG h2;simp only [jm,bK] at h ⊢;exact ⟨JP h.1 h1,JQ h.2 h3⟩
end
theorem aG.enter {k:Key} {j:Nat} {c:C} {v:Value} (h:aG nm w L γ k j c v):∀{c':C},c.dY rs=some c'→(∀x∈c.vX,x.2=γ (.r x.1))→c.clean=true→∀k' j',aG nm w (gp rs E L) (fun _=>0) k' j' c' v:=by
 induction h with
 | @d x v h=>
  intro c' hi hl hc k' j';simp only [C.dY,ai] at hi;subst hi;cases h with
  | plain h=>exact .d (.plain (h.mono (fun B hB=>⟨u5 hB,rfl⟩)))
  | jk=>simp [C.clean] at hc
  | own=>simp [C.clean] at hc
 | @ptr r g c v hv hg h=>
  intro c' hi hl hc k' j';simp only [C.dY] at hi;obtain ⟨i,h1,rfl⟩:=bG hi;have lq:=hl (r,g) (by simp [C.vX]);obtain ⟨B,o,h2,h3⟩:=h lq;exact .ptr hv (bT _) (fun _=>⟨B,o,y9 h2 h1,h3⟩)
 | eE=>intro c' hi;simp [C.dY] at hi
 | pp hL hB h=>
  intro c' hi hl hc k' j';simp only [C.dY,ai] at hi;subst hi;refine .pp (u5 hL) hB (fun q x hx=>?_);obtain ⟨u,h1,h2⟩:=h q x hx;exact ⟨u,h1,h2.mono (fun B hB=>⟨u5 hB,rfl⟩)⟩
 | view=>intro c' hi;simp [C.dY] at hi
 | c6=>intro c' hi;simp [C.dY] at hi
 | mp=>intro c' hi;simp [C.dY] at hi
 | gi=>intro c' hi;simp [C.dY] at hi
 | @fns f l v B o cap cur e fz val hf hL hB aS hv h ih=>
  intro c' hi hl hc k' j';have sy:=JP hc hi;simp only [C.dY] at hi;obtain ⟨x',g1,g2⟩:=ff.1 hi;obtain ⟨y',g3,rfl⟩:=bG g2;simp only [lO,ai] at g1;subst g1;simp only [C.clean,bK] at sy;simp only [C.vX,dC] at hl;have hlen:=xA g3;refine .fns val (by rw [hlen];exact hf) (u5 hL) hB sy.2 (by rw [hlen];exact hv) ?_;intro i x hx;obtain ⟨c0,k1,k2⟩:=xy i g3 hx;exact ih i c0 k1 k2 (fun y hy=>hl y (.inr (xY k1 hy))) (ko aS k1) _ _
 | @fn f first cap cF fs cs jG hf h1 h2 aS h3 h4 sL sM=>
  intro c' hi hl hc k' j';have sy:=JP hc hi;simp only [C.dY] at hi;obtain ⟨x',g1,g2⟩:=ff.1 hi;obtain ⟨y',g3,rfl⟩:=bG g2;simp only [C.clean,bK] at sy;simp only [C.vX,dC] at hl;refine .fn jG hf (by rw [xA g1];exact h1) (by rw [xA g3];exact h2) sy ?_ ?_
  ·intro i x u hx hu;obtain ⟨c0,k1,k2⟩:=xy i g1 hx;exact sL i c0 u k1 hu k2 (fun y hy=>hl y (.inl (xY k1 hy))) (ko aS.1 k1) _ _
  ·intro i x u hx hu;obtain ⟨c0,k1,k2⟩:=xy i g3 hx;exact sM i c0 u k1 hu k2 (fun y hy=>hl y (.inr (xY k1 hy))) (ko aS.2 k1) _ _
 | cz=>intro c' hi _ _ _ _;simp only [C.dY,ai] at hi;subst hi;exact .cz
 | eX=>intro c' hi _ _ _ _;simp only [C.dY,ai] at hi;subst hi;exact .eX
 | fS=>intro c' hi _ _ _ _;simp only [C.dY,ai] at hi;subst hi;exact .fS
 | fm=>intro c' hi _ _ _ _;simp only [C.dY,ai] at hi;subst hi;exact .fm
 | bu=>intro c' hi _ hc;simp [C.clean] at hc
 | dead=>intro c' hi _ _ _ _;simp only [C.dY,ai] at hi;subst hi;exact .dead
theorem ZI {rs:List aI} {c c':C} (hi:c.dY rs=some c') {B o k:Nat} {e:TypeId} {n:Nat} {v:Value} (h:lK c B o k e n v):lK c' B o k e n v:=by
 cases c' with
 | bu t=>
  cases c with
  | bu t'=>simp only [C.dY,ai,C.bu.injEq] at hi;subst hi;exact h
  | ptr r g c=>simp only [C.dY] at hi;obtain ⟨i,_,h2⟩:=bG hi;cases h2
  | fn f a b=>simp only [C.dY] at hi;obtain ⟨_,_,h2⟩:=ff.1 hi;obtain ⟨_,_,h3⟩:=bG h2;cases h3
  | _=>simp [C.dY] at hi
 | _=>trivial
theorem aG.XG {r:aI} {c0 i:Nat} {c:C} {v:Value} (h:aG nm w L γ (.b r c0) 0 c v) {c':C} (hi:c.dY rs=some c') (hl:∀x∈c.vX,x.2=γ (.r x.1)) (hE:E (.b r c0) = .one c) (hr:jl rs r 0=some i) :
  aG nm w (gp rs E L) (fun _=>0) (.b (.e i) c0) 0 c' v:=by
 cases c with
 | d x=>
  simp only [C.dY,ai] at hi;subst hi;cases h with
  | d h=>
   refine .d ?_
   exact bt.move (fun q => ⟨.b (.e i) c0, q.j, q.p⟩) (fun q => q.k = .b r c0) (fun _ _ _ h => h) (fun _ _ _ _ => rfl) (fun B hB => ⟨u5 hB, rfl⟩) (fun B q o hq hL => by
     obtain ⟨k, j, p⟩ := q
     simp only at hq
     subst hq
     exact ⟨ahN hL hr hE, rfl⟩) h rfl
 | c6=>simp [C.dY] at hi
 | mp=>simp [C.dY] at hi
 | bu t=>
  simp only [C.dY,ai] at hi;subst hi;cases h with
  | bu hk hv=>exact .bu ⟨_,_,rfl⟩ hv
 | _=>exact h.enter hi hl (h.uX rfl) _ _
theorem pf:∀(vs:List V) (i:Nat) (rest:St) (k:Key),St.get (ga i vs++rest) k=match k with
  | .s j=>if i≤j∧j < i+vs.length then ⟨vs.getD (j - i) V.dead,0⟩ else rest.get (.s j)
  | k=>rest.get k
 | [],i,rest,k=>by
  simp only [ga,uL];cases k<;>simp;intro h1 h2;omega
 | v::vs,i,rest,k=>by
  simp only [ga,qJ,St.get];have ih:=pf vs (i+1) rest k;cases k with
  | s j=>
   simp only at ih ⊢;by_cases h:i=j
   ·subst h;simp
   ·rw [aB (by simpa using h),ih];by_cases h2:i+1≤j∧j < i+1+vs.length
    ·rw [aJ h2,aJ ⟨by omega,by simp;omega⟩,show j - i=(j - (i+1))+1 by omega];rfl
    ·rw [aB h2,aB (by simp;omega)]
  | _=>simpa using ih
theorem VY (r:aI):∀(cs:List C) (c0:Nat) (rest:St) (k:Key),St.get (A' r c0 cs++rest) k=match k with
  | .b r' c=>if r'=r∧c0≤c∧c < c0+cs.length then ⟨.one (cs.getD (c - c0) .dead),0⟩ else rest.get (.b r' c)
  | k=>rest.get k
 | [],c0,rest,k=>by
  simp only [A',uL];cases k<;>simp;intro _ h1 h2;omega
 | x::cs,c0,rest,k=>by
  simp only [A',qJ,St.get];have ih:=VY r cs (c0+1) rest k;cases k with
  | b r' c=>
   simp only at ih ⊢;by_cases h:r=r'∧c0=c
   ·obtain ⟨rfl,rfl⟩:=h;simp
   ·rw [aB (by simpa using h),ih];by_cases h2:r'=r∧c0+1≤c∧c < c0+1+cs.length
    ·rw [aJ h2,aJ ⟨h2.1,by omega,by simp;omega⟩,show c - c0=(c - (c0+1))+1 by omega];rfl
    ·rw [aB h2,aB];rintro ⟨h3,h4,h5⟩;subst h3;simp only [gk] at h5;by_cases h6:c0=c
     ·exact h ⟨rfl,h6⟩
     ·exact h2 ⟨rfl,by omega,by omega⟩
  | _=>simpa using ih
theorem ph:∀(bs:List (List C)) (i:Nat) (k:Key),St.get (dk i bs) k=match k with
  | .r (.e j)=>if i≤j∧j < i+bs.length then ⟨fx (bs.getD (j - i) []).length,0⟩ else ⟨.one .dead,0⟩
  | .b (.e j) c=>if (i≤j∧j < i+bs.length)∧c < (bs.getD (j - i) []).length then ⟨.one ((bs.getD (j - i) []).getD c .dead),0⟩ else ⟨.one .dead,0⟩
  | _=>⟨.one .dead,0⟩
 | [],i,k=>by
  simp only [dk,St.get];cases k with
  | r x=>
   cases x<;>simp;intro h1 h2;omega
  | b x c=>cases x<;>simp
  | _=>rfl
 | b::bs,i,k=>by
  simp only [dk,St.get];have ih:=ph bs (i+1) k;rw [VY];cases k with
  | r x=>
   cases x with
   | e j=>
    simp only at ih ⊢;by_cases h:i=j
    ·subst h;simp
    ·rw [aB (by simpa using h),ih];by_cases h2:i+1≤j∧j < i+1+bs.length
     ·rw [aJ h2,aJ ⟨by omega,by simp;omega⟩,show j - i=(j - (i+1))+1 by omega];rfl
     ·rw [aB h2,aB (by simp;omega)]
   | _=>simpa using ih
  | b x c=>
   cases x with
   | e j=>
    simp only at ih ⊢;by_cases h:i=j
    ·subst h;rw [aB (by simp)];by_cases hc:c < b.length
     ·simp [hc]
     ·rw [aB (by simp;omega),ih,aB (by omega),aB (by simp;omega)]
    ·rw [aB (by simp),aB (by simp;omega),ih];by_cases h2:(i+1≤j∧j < i+1+bs.length)∧c < (bs.getD (j - (i+1)) []).length
     ·rw [aJ h2,aJ ⟨⟨by omega,by simp;omega⟩,by rw [show j - i=(j - (i+1))+1 by omega];exact h2.2⟩,show j - i=(j - (i+1))+1 by omega];rfl
     ·rw [aB h2,aB];rintro ⟨⟨h3,h4⟩,h5⟩;simp only [gk] at h4;rw [show j - i=(j - (i+1))+1 by omega] at h5;exact h2 ⟨⟨by omega,by omega⟩,h5⟩
   | g j=>rw [aB (by simp)];simpa using ih
   | l j=>rw [aB (by simp)];simpa using ih
  | _=>rw [aB (by simp)];simpa using ih
theorem HY:∀(l:List (aI×Nat)) (bj:List aI),bj.Nodup→(rZ bj l).Nodup∧(∃t,rZ bj l=bj++t)∧∀r∈rZ bj l,r∈bj∨∃g,(r,g)∈l
 | [],bj,h=>⟨h,⟨[],by simp [rZ]⟩,fun r hr=>.inl hr⟩
 | (x,g)::t,bj,h=>by
  simp only [rZ];split
  ·obtain ⟨h1,h2,h3⟩:=HY t bj h;exact ⟨h1,h2,fun r hr=>(h3 r hr).imp id (fun ⟨g',hg⟩=>⟨g',by simp [hg]⟩)⟩
  ·rename_i hx;have hn:(bj++[x]).Nodup:=by
    rw [HG];refine ⟨h,by simp,fun a ha b hb=>?_⟩;simp only [uK] at hb;subst hb;rintro rfl;exact hx (by simpa using ha)
   obtain ⟨h1,⟨u,h2⟩,h3⟩:=HY t (bj++[x]) hn;refine ⟨h1,⟨x::u,by rw [h2];simp⟩,fun r hr=>?_⟩;rcases h3 r hr with h4 | ⟨g',h4⟩
   ·rcases dC.1 h4 with h5 | h5
    ·exact .inl h5
    ·simp only [uK] at h5;subst h5;exact .inr ⟨g,by simp⟩
   ·exact .inr ⟨g',by simp [h4]⟩
def A0 (S0:St) (ws:List Wr) (r:aI):Prop:=p8 ws (.r r)=none∧r.iU=false
def wO (S0:St) (ws:List Wr) (x:aI×Nat):Prop:=x.2=S0.γ (.r x.1)∧A0 S0 ws x.1
theorem Gr:∀(l:List (aI×Nat)) {u:Unit},(xK ws l).run S0=some u→∀x∈l,wO S0 ws x
 | [],u,h,x,hx=>by simp at hx
 | (r,g)::t,u,h,x,hx=>by
  simp only [xK] at h;have h1:=Q.ni h;obtain ⟨h2,h3⟩:=Q.ei h1;simp only [bK,eU,nA,U6] at h2;rcases gT.1 hx with rfl | hx
  ·exact ⟨h2.1.1.symm,h2.1.2,h2.2⟩
  ·exact Gr t h3 x hx
theorem Ml {r:aI}:∀(n c:Nat) {cs:List C},(As ws r c n).run S0=some cs→cs.length=n∧∀j x,cs[j]? = some x→(S0.ah ws).E (.b r (c+j)) = .one x
 | 0,c,cs,h=>by
  simp only [As,Q.run_pure,ai] at h;subst h;exact ⟨rfl,fun j x hj=>by simp at hj⟩
 | n+1,c,cs,h=>by
  simp only [As] at h;rw [Q.run_bind,uV,Option.bind_some] at h;split at h
  ·rename_i x hx;obtain ⟨t,h1,h2⟩:=Q.aK h;obtain rfl:=Q.aZ h2;obtain ⟨g1,g2⟩:=Ml n (c+1) h1;refine ⟨by simp [g1],fun j y hj=>?_⟩;cases j with
   | zero=>simp at hj;subst hj;exact hx
   | succ j=>
    have:=g2 j y (by simpa using hj);rwa [show c+1+j=c+(j+1) by omega] at this
  ·cases h
theorem Yp:∀(fuel:Nat) (bj:List aI) (i:Nat) {rs:List aI} {bs:List (List C)},bj.Nodup→(zf ws fuel bj i).run S0=some (rs,bs)→rs.Nodup∧(∃t,rs=bj++t)∧(∀r∈rs,r∈bj∨A0 S0 ws r)∧bs.length=rs.length - i∧
  ∀(k:Nat) r cs,rs[i+k]? = some r→bs[k]? = some cs→cs.length=cj (S0.E (.r r))∧(∀j x,cs[j]? = some x→(S0.ah ws).E (.b r j) = .one x)∧∀x∈kW cs,wO S0 ws x
 | 0,bj,i,rs,bs,hn,h=>by
  simp only [zf,Q.run_ite] at h;split at h
  ·rename_i hle;obtain ⟨rfl,rfl⟩:rs=bj∧bs=[]:=by simpa [eq_comm] using h
   exact ⟨hn,⟨[],by simp⟩,fun r hr=>.inl hr,by simp;omega,fun k r cs hk hc=>by simp at hc⟩
  ·cases h
 | f+1,bj,i,rs,bs,hn,h=>by
  simp only [zf] at h;split at h
  ·rename_i vw;obtain ⟨rfl,rfl⟩:rs=bj∧bs=[]:=by simpa [eq_comm] using h
   have:=UR.1 vw;exact ⟨hn,⟨[],by simp⟩,fun r hr=>.inl hr,by simp;omega,fun k r cs hk hc=>by simp at hc⟩
  ·rename_i r0 ud;have h1:=Q.ni h;obtain ⟨gU,h2,h3⟩:=Q.aK h1;obtain ⟨u,h4,h5⟩:=Q.aK h3;obtain ⟨⟨Ti,dK⟩,h6,h7⟩:=Q.aK h5;obtain ⟨rfl,rfl⟩:rs=Ti∧bs=gU::dK:=by simpa [eq_comm] using Q.aZ h7
   obtain ⟨a1,⟨t1,a2⟩,a3⟩:=HY (kW gU) bj hn;obtain ⟨b1,⟨t2,b2⟩,b3,b4,b5⟩:=Yp f _ (i+1) a1 h6;obtain ⟨c1,c2⟩:=Ml _ _ h2;have mg:=Gr _ h4;have hi:i < bj.length:=(cw.1 ud).1;have hlen:rs.length≥bj.length:=by rw [b2,a2];simp
   refine ⟨b1,⟨t1++t2,by rw [b2,a2];simp⟩,fun r hr=>?_,by simp [b4];omega,?_⟩
   ·rcases b3 r hr with h | h
    ·rcases a3 r h with h | ⟨g,h⟩
     ·exact .inl h
     ·exact .inr (mg _ h).2
    ·exact .inr h
   ·intro k r cs hk hc;cases k with
    | zero=>
     simp only [kC,ai] at hc;subst hc;have:r=r0:=by
      rw [b2,a2,jC,ek,nB hi,ud] at hk;simpa using hk.symm
     subst this;refine ⟨c1,fun j x hj=>?_,mg⟩;have:=c2 j x hj;rwa [db] at this
    | succ k=>
     exact b5 k r cs (by rw [show i+1+k=i+(k+1) by omega];exact hk) (by simpa using hc)
end
end
section
section
variable {nm:FuncId→Option Nat} {N:Nat} {S S0:St} {a:Act} {w w0 w':World} {L L0:aw} {P:Program} {o:Oper} {Cl:bX} {d:Nat} {ws:List Wr} {γ:Key→Nat} {rs:List aI} {E:Key→V}
theorem getD_some {α:Type} {l:List α} {i:Nat} {d:α} (h:i < l.length):l[i]? = some (l.getD i d):=by
 rw [kf h,kB,kf h];rfl
theorem ZJ:∀{l l':List V} (j:Nat) {c':V},ug rs l=some l'→l'[j]? = some c'→∃c,l[j]? = some c∧c.Co rs=some c'
 | [],l',j,c',h,hj=>by simp only [ug,ai] at h;subst h;simp at hj
 | c::t,l',j,c',h,hj=>by
  simp only [ug] at h;obtain ⟨c1,h1,h2⟩:=ff.1 h;obtain ⟨t1,h3,rfl⟩:=bG h2;cases j with
  | zero=>simp at hj;subst hj;exact ⟨c,rfl,h1⟩
  | succ j=>obtain ⟨c2,g1,g2⟩:=ZJ j h3 (by simpa using hj);exact ⟨c2,by simpa using g1,g2⟩
theorem Q6:∀{l l':List V},ug rs l=some l'→l'.length=l.length
 | [],l',h=>by simp only [ug,ai] at h;subst h;rfl
 | c::t,l',h=>by
  simp only [ug] at h;obtain ⟨c1,h1,h2⟩:=ff.1 h;obtain ⟨t1,h3,rfl⟩:=bG h2;simp [Q6 h3]
theorem Q0:∀{l l':List (List C)} (j:Nat) {c':List C},pF rs l=some l'→l'[j]? = some c'→∃c,l[j]? = some c∧lO rs c=some c'
 | [],l',j,c',h,hj=>by simp only [pF,ai] at h;subst h;simp at hj
 | c::t,l',j,c',h,hj=>by
  simp only [pF] at h;obtain ⟨c1,h1,h2⟩:=ff.1 h;obtain ⟨t1,h3,rfl⟩:=bG h2;cases j with
  | zero=>simp at hj;subst hj;exact ⟨c,rfl,h1⟩
  | succ j=>obtain ⟨c2,g1,g2⟩:=Q0 j h3 (by simpa using hj);exact ⟨c2,by simpa using g1,g2⟩
theorem Q5:∀{l l':List (List C)},pF rs l=some l'→l'.length=l.length
 | [],l',h=>by simp only [pF,ai] at h;subst h;rfl
 | c::t,l',h=>by
  simp only [pF] at h;obtain ⟨c1,h1,h2⟩:=ff.1 h;obtain ⟨t1,h3,rfl⟩:=bG h2;simp [Q5 h3]
theorem ad1:∀{l:List V} {j:Nat} {v:V} {x:aI×Nat},l[j]? = some v→x∈kW v.cells→x∈tu l
 | [],_,_,_,h,_=>by simp at h
 | y::t,0,c,x,h,hx=>by simp at h;subst h;simp [tu,hx]
 | y::t,j+1,c,x,h,hx=>by simp only [tu,dC];exact .inr (ad1 (by simpa using h) hx)
theorem bD.enter {k:Key} {x:V} {v:Value} (h:bD nm w L γ k x v) {x':V} (hi:x.Co rs=some x') (hl:∀y∈kW x.cells,y.2=γ (.r y.1)) (hc:x.clean=true) (k':Key):bD nm w (gp rs E L) (fun _=>0) k' x' v:=by
 cases h with
 | @one c v h=>
  simp only [V.Co] at hi;obtain ⟨c',h1,rfl⟩:=bG hi;exact .one (h.enter h1 (fun y hy=>hl y (by simp [V.cells,kW,hy])) hc _ _)
 | @agg cs vs hlen h=>
  simp only [V.Co] at hi;obtain ⟨ey,h1,rfl⟩:=bG hi;refine .agg (by rw [xA h1];exact hlen) (fun j c u hj hu=>?_);obtain ⟨c0,g1,g2⟩:=xy j h1 hj;exact (h j c0 u g1 hu).enter g2 (fun y hy=>hl y (xY g1 hy)) (ko hc g1) _ _
 | aq=>simp [V.Co] at hi
theorem Bw (vs:List V) (bs:List (List C)):(ga 0 vs++dk 0 bs:St).γ=fun _=>0:=by
 funext k;unfold St.γ;rw [pf];cases k with
 | s j=>simp only;split;rfl;rw [ph]
 | r x=>simp only;rw [ph];cases x<;>simp only<;>(try split)<;>rfl
 | b x c=>simp only;rw [ph];cases x<;>simp only<;>(try split)<;>rfl
 | h i=>simp only;rw [ph]
 | a k=>simp only;rw [ph]
theorem Ii (bs:List (List C)):(dk 0 bs:St).γ=fun _=>0:=by
 have:=Bw [] bs;simpa [ga] using this
theorem pj (bs:List (List C)) (k:Key):(dk 0 bs:St).E k=match k with
  | .r (.e j)=>if j < bs.length then fx (bs.getD j []).length else V.dead
  | .b (.e j) c=>if j < bs.length∧c < (bs.getD j []).length then .one ((bs.getD j []).getD c .dead) else V.dead
  | _=>V.dead:=by
 unfold St.E;rw [ph];cases k with
 | r x=>cases x<;>simp only<;>(try (simp only [yE,lh,db,DW];split<;>rfl))<;>rfl
 | b x c=>cases x<;>simp only<;>(try (simp only [yE,lh,db,DW];split<;>rfl))<;>rfl
 | _=>rfl
theorem ahO (M:cg nm N S0 w0 L0 ws a w L) {vs eR:List V} {bs dK:List (List C)} (mg:∀x∈tu vs,wO S0 ws x) (hg:(zf ws 40 (rZ [] (tu vs)) 0).run S0=some (rs,bs)) (kQ:ug rs vs=some eR) (qd:pF rs bs=some dK)
  {args:Array Value} (bf:args.size=vs.length) (aS:iB vs=true) (kP:∀(j:Nat) x u,vs[j]? = some x→args[j]? = some u→bD nm w L (S0.ah ws).γ (.h 0) x u) :
  Rel nm eR.length (ga 0 eR++dk 0 dK) ⟨args,[]⟩ w (gp rs (S0.ah ws).E L)∧eJ (gp rs (S0.ah ws).E L)∧rs.Nodup∧(∀r∈rs,A0 S0 ws r)∧bs.length=rs.length∧dK.length=rs.length∧
   (∀(k:Nat) r cs,rs[k]? = some r→bs[k]? = some cs→cs.length=cj (S0.E (.r r))∧(∀j x,cs[j]? = some x→(S0.ah ws).E (.b r j) = .one x)):=by
 obtain ⟨a1,⟨t1,a2⟩,a3⟩:=HY (tu vs) [] List.nodup_nil;obtain ⟨b1,⟨t2,b2⟩,b3,b4,b5⟩:=Yp 40 _ 0 a1 hg;have lq:∀r∈rs,A0 S0 ws r:=by
  intro r hr;rcases b3 r hr with h | h
  ·rcases a3 r h with h | ⟨g,h⟩
   ·simp at h
   ·exact (mg _ h).2
  ·exact h
 have qY:bs.length=rs.length:=by rw [b4];omega
 have ajb:dK.length=rs.length:=by rw [Q5 qd,qY]
 have PU:∀(k:Nat) r cs,rs[k]? = some r→bs[k]? = some cs→cs.length=cj (S0.E (.r r))∧(∀j x,cs[j]? = some x→(S0.ah ws).E (.b r j) = .one x)∧∀x∈kW cs,wO S0 ws x:=
  fun k r cs h1 h2=>b5 k r cs (by rw [db];exact h1) h2
 have hγ:∀{x:aI×Nat},wO S0 ws x→x.2=(S0.ah ws).γ (.r x.1):=fun h=>by rw [HO h.2.1];exact h.1
 have box:∀j,j < dK.length→∃r cs,rs[j]? = some r∧bs[j]? = some cs∧lO rs cs=some (dK.getD j [])∧(dK.getD j []).length=cj ((S0.ah ws).E (.r r))∧r.iU=false∧jl rs r 0=some j∧
   (∀i x,cs[i]? = some x→(S0.ah ws).E (.b r i) = .one x)∧∀x∈kW cs,wO S0 ws x:=by
  intro j hj;have tX:dK[j]? = some (dK.getD j []):=by simp [kB,hj]
  obtain ⟨cs,h1,h2⟩:=Q0 j qd tX;have Qo:j < rs.length:=by omega
  obtain ⟨c1,c2,c3⟩:=PU j rs[j] cs (by simp) h1;have hl:=lq rs[j] (bM Qo);refine ⟨rs[j],cs,by simp,h1,h2,?_,hl.2,?_,c2,c3⟩
  ·rw [xA h2,c1,BK,hl.1];rfl
  ·have:=yh rs (i:=0) b1 (show rs[j]? = some rs[j] by simp);rwa [db] at this
 refine ⟨⟨?_,rfl,?_,?_,?_,?_,?_,?_,?_,?_⟩,?_,b1,lq,qY,ajb,fun k r cs h1 h2=>⟨(PU k r cs h1 h2).1,(PU k r cs h1 h2).2.1⟩⟩
 ·rw [bf,Q6 kQ]
 ·intro i;rw [Bw];show bD nm w _ _ (.s i) ((ga 0 eR++dk 0 dK:St).E (.s i)) (args.getD i undef);have hE:(ga 0 eR++dk 0 dK:St).E (.s i)=if i < eR.length then eR.getD i V.dead else V.dead:=by
   unfold St.E;rw [pf];simp only [yE,lh,db,DW];split
   ·rfl
   ·rw [ph];rfl
  rw [hE];split
  ·rename_i hi;obtain ⟨x,h1,h2⟩:=ZJ i kQ (show eR[i]? = some (eR.getD i V.dead) by simp [kB,hi]);have vo:i < args.size:=by rw [bf,←Q6 kQ];exact hi
   have:=(kP i x args[i] h1 (by simp [vo])).enter (E:=(S0.ah ws).E) h2 (fun y hy=>hγ (mg y (ad1 h1 hy))) (Er aS h1) (.s i);simpa [Array.getD,vo] using this
  ·exact .one .dead
 ·intro r c x hx gg;have fH:(dk 0 dK:St).E (.b r c) = .one x:=by
   have:=hx;unfold St.E at this ⊢;rw [pf] at this;exact this
  rw [Bw];rw [pj] at fH;cases r with
  | g i=>simp only [V.dead,V.one.injEq] at fH;exact absurd fH.symm gg
  | l i=>simp only [V.dead,V.one.injEq] at fH;exact absurd fH.symm gg
  | e j=>
   simp only at fH;split at fH
   ·rename_i Fb;obtain ⟨r0,cs,h1,h2,h3,h4,h5,h6,h7,h8⟩:=box j Fb.1;simp only [V.one.injEq] at fH;obtain ⟨y,k1,k2⟩:=xy c h3 (show (dK.getD j [])[c]? = some x by rw [←fH];exact getD_some Fb.2);have FI:=h7 c y k1;have jg:y≠.dead:=by
     rintro rfl;simp only [C.dY,ai] at k2;exact gg k2.symm
    have oD:=M.rel.cell r0 c y FI jg;have ex:∃B o cur e fz v,L B=some (.box r0 o)∧w.heap[B]? = some (.cells cur e fz)∧jA cur.size fz∧cur[o+c]? = some v∧aG nm w L (S0.ah ws).γ (.b r0 c) 0 y v∧lK y B o c e cur.size v:=by
     cases r0 with
     | g i=>simp [aI.iU] at h5
     | e i=>exact oD
     | l i=>exact oD
    obtain ⟨B,o,cur,e,fz,v,m1,m2,m3,m4,m5,m6⟩:=ex;exact ⟨B,o,cur,e,fz,v,y9 m1 h6,m2,m3,m4,m5.XG k2 (fun z hz=>hγ (h8 z (xY k1 hz))) FI h6,ZI k2 m6⟩
   ·simp only [V.dead,V.one.injEq] at fH;exact absurd fH.symm gg
 ·intro r c;have:(ga 0 eR++dk 0 dK:St).E (.b r c)=(dk 0 dK:St).E (.b r c):=by unfold St.E;rw [pf]
  rw [this,pj];cases r with
  | e j=>
   simp only;split
   ·exact ⟨(dK.getD j []).getD c .dead,rfl⟩
   ·exact ⟨.dead,rfl⟩
  | g i=>exact ⟨.dead,rfl⟩
  | l i=>exact ⟨.dead,rfl⟩
 ·intro r c hc;have h1:(ga 0 eR++dk 0 dK:St).E (.b r c)=(dk 0 dK:St).E (.b r c):=by unfold St.E;rw [pf]
  have h2:(ga 0 eR++dk 0 dK:St).E (.r r)=(dk 0 dK:St).E (.r r):=by unfold St.E;rw [pf]
  rw [h2] at hc;rw [h1];rw [pj] at hc ⊢;cases r with
  | e j=>
   simp only at hc ⊢;by_cases hj:j < dK.length
   ·rw [aJ hj,qQ] at hc;rw [aB (fun h=>by omega)];rfl
   ·rw [aB (fun h=>hj h.1)];rfl
  | g i=>rfl
  | l i=>rfl
 ·intro r hg hr;have h2:(ga 0 eR++dk 0 dK:St).E (.r r)=(dk 0 dK:St).E (.r r):=by unfold St.E;rw [pf]
  rw [h2] at hr ⊢;rw [pj] at hr ⊢;cases r with
  | e j=>
   simp only at hr ⊢;by_cases hj:j < dK.length
   ·rw [aJ hj,qQ] at hr ⊢;obtain ⟨r0,cs,h1,h2,h3,h4,h5,h6,h7,h8⟩:=box j hj;rw [h4] at hr ⊢;obtain ⟨B,o,cur,e,fz,m1,m2,m3,m4⟩:=M.rel.room r0 h5 hr;exact ⟨B,o,cur,e,fz,y9 m1 h6,m2,m3,m4⟩
   ·rw [aB hj] at hr;simp [V.dead,cj] at hr
  | g i=>simp [aI.iU] at hg
  | l i=>simp [V.dead,cj] at hr
 ·intro B l hB;rcases pq hB with ⟨_,h⟩ | ⟨_,_,_,_,h,_⟩ | ⟨_,_,_,_,_,_,_,_,h,_⟩<;>exact M.rel.fu B _ h
 ·intro B B' pl o o' h1 h2;rcases pq h1 with ⟨h,_⟩ | ⟨_,_,_,h,_⟩ | ⟨r,c,j,p,o1,i,x,h,k1,k2,_⟩
  ·cases h
  ·cases h
  rcases pq h2 with ⟨h',_⟩ | ⟨_,_,_,h',_⟩ | ⟨r',c',j',p',mZ,i',x',h',zS,zT,_⟩
  ·cases h'
  ·cases h'
  simp only [bO.row.injEq] at h h';obtain ⟨rfl,rfl⟩:=h;obtain ⟨h',rfl⟩:=h';simp only [Place.mk.injEq,Key.b.injEq,aI.e.injEq] at h';obtain ⟨⟨rfl,rfl⟩,rfl,rfl⟩:=h';have e1:=(qD rs k2).2;have e2:=(qD rs zT).2;rw [e1] at e2;simp only [ai] at e2;subst e2;exact M.rel.eN B B' _ _ _ k1 zS
 ·intro B B' r o o' h1 h2;rcases pq h1 with ⟨h,_⟩ | ⟨r1,o1,i,h,k1,k2⟩ | ⟨_,_,_,_,_,_,_,h,_⟩
  ·cases h
  ·rcases pq h2 with ⟨h',_⟩ | ⟨GV,mZ,i',h',zS,zT⟩ | ⟨_,_,_,_,_,_,_,h',_⟩
   ·cases h'
   ·simp only [bO.box.injEq] at h h';obtain ⟨rfl,rfl⟩:=h;obtain ⟨h',rfl⟩:=h';simp only [aI.e.injEq] at h';subst h';have e1:=(qD rs k2).2;have e2:=(qD rs zT).2;rw [e1] at e2;simp only [ai] at e2;subst e2;exact M.rel.fB B B' _ _ _ k1 zS
   ·cases h'
  ·cases h
 ·intro B q o hB;rcases pq hB with ⟨h,_⟩ | ⟨_,_,_,h,_⟩ | ⟨_,_,_,_,_,_,_,h,_⟩
  ·cases h
  ·cases h
  ·simp only [bO.row.injEq] at h;rw [h.1];rfl
end
end
section
def jn (rs:List aI) (ok:Nat→Nat→Bool) (size:Nat) (L Lc eS:aw):aw:=fun B=>
 if (Lc B).isNone=true∧B < size then
  match L B with
  | some (.row ⟨.b r c,j,p⟩ o)=>(match jl rs r 0 with | some i=>if ok i c=true then none else some (.row ⟨.b r c,j,p⟩ o) | none=>some (.row ⟨.b r c,j,p⟩ o))
  | some (.box r o)=>if rs.contains r=true then none else some (.box r o)
  | x=>x
 else
  match eS B with
  | some .bh=>some .bh
  | some (.box (.e i) o)=>(rs[i]?).map fun r=>.box r o
  | some (.row ⟨.b (.e i) c,j,p⟩ o)=>(match rs[i]? with | some r=>if ok i c=true then some (.row ⟨.b r c,j,p⟩ o) else none | none=>none)
  | some (.row ⟨.h 0,j,p⟩ o)=>some (.row ⟨.h 0,j,p⟩ o)
  | _=>none
mutual
theorem L5 {gs:List (aI×Nat)}:∀{c c':C},c.clean=true→c.dR gs=some c'→c'.clean=true
 | .d x,c',h,hi=>by simp only [C.dR,ai] at hi;subst hi;exact h
 | .ptr (.e i) g k,c',h,hi=>by simp only [C.dR] at hi;obtain ⟨i,_,rfl⟩:=bG hi;rfl
 | .ptr (.l i) g k,c',h,hi=>by simp [C.dR] at hi
 | .ptr (.g i) g k,c',h,hi=>by simp [C.dR] at hi
 | .pp cells,c',h,hi=>by simp only [C.dR,ai] at hi;subst hi;rfl
 | .fn f x y,c',h,hi=>by
  simp only [C.dR] at hi;obtain ⟨x',h1,h2⟩:=ff.1 hi;obtain ⟨y',h3,rfl⟩:=bG h2;simp only [C.clean,bK] at h ⊢;exact ⟨L6 h.1 h1,L6 h.2 h3⟩
 | .cz,c',h,hi=>by simp only [C.dR,ai] at hi;subst hi;rfl
 | .eX,c',h,hi=>by simp only [C.dR,ai] at hi;subst hi;rfl
 | .fS,c',h,hi=>by simp only [C.dR,ai] at hi;subst hi;rfl
 | .fm,c',h,hi=>by simp only [C.dR,ai] at hi;subst hi;rfl
 | .dead,c',h,hi=>by simp only [C.dR,ai] at hi;subst hi;rfl
 | .eE ..,c',h,hi=>by simp [C.dR] at hi
 | .view ..,c',h,hi=>by simp [C.dR] at hi
 | .c6 ..,c',h,hi=>by simp [C.dR] at hi
 | .mp _,c',h,hi=>by simp [C.dR] at hi
 | .gi ..,c',h,hi=>by simp [C.dR] at hi
theorem L6 {gs:List (aI×Nat)}:∀{l l':List C},jm l=true→nh gs l=some l'→jm l'=true
 | [],l',h,hi=>by simp only [nh,ai] at hi;subst hi;rfl
 | c::t,l',h,hi=>by
  simp only [nh] at hi;obtain ⟨c1,h1,h2⟩:=ff.1 hi;obtain ⟨t1,h3,rfl⟩:=bG h2;simp only [jm,bK] at h ⊢;exact ⟨L5 h.1 h1,L6 h.2 h3⟩
end
theorem Dc {gs:List (aI×Nat)}:∀{l l':List C} (j:Nat) {c':C},nh gs l=some l'→l'[j]? = some c'→∃c,l[j]? = some c∧c.dR gs=some c'
 | [],l',j,c',h,hj=>by simp only [nh,ai] at h;subst h;simp at hj
 | c::t,l',j,c',h,hj=>by
  simp only [nh] at h;obtain ⟨c1,h1,h2⟩:=ff.1 h;obtain ⟨t1,h3,rfl⟩:=bG h2;cases j with
  | zero=>simp at hj;subst hj;exact ⟨c,rfl,h1⟩
  | succ j=>obtain ⟨c2,g1,g2⟩:=Dc j h3 (by simpa using hj);exact ⟨c2,by simpa using g1,g2⟩
theorem De {gs:List (aI×Nat)}:∀{l l':List C},nh gs l=some l'→l'.length=l.length
 | [],l',h=>by simp only [nh,ai] at h;subst h;rfl
 | c::t,l',h=>by
  simp only [nh] at h;obtain ⟨c1,h1,h2⟩:=ff.1 h;obtain ⟨t1,h3,rfl⟩:=bG h2;simp [De h3]
theorem abD {gs:List (aI×Nat)}:∀{l l':List V} (j:Nat) {c':V},sY gs l=some l'→l'[j]? = some c'→∃c,l[j]? = some c∧c.pJ gs=some c'
 | [],l',j,c',h,hj=>by simp only [sY,ai] at h;subst h;simp at hj
 | c::t,l',j,c',h,hj=>by
  simp only [sY] at h;obtain ⟨c1,h1,h2⟩:=ff.1 h;obtain ⟨t1,h3,rfl⟩:=bG h2;cases j with
  | zero=>simp at hj;subst hj;exact ⟨c,rfl,h1⟩
  | succ j=>obtain ⟨c2,g1,g2⟩:=abD j h3 (by simpa using hj);exact ⟨c2,by simpa using g1,g2⟩
theorem abE {gs:List (aI×Nat)}:∀{l l':List V},sY gs l=some l'→l'.length=l.length
 | [],l',h=>by simp only [sY,ai] at h;subst h;rfl
 | c::t,l',h=>by
  simp only [sY] at h;obtain ⟨c1,h1,h2⟩:=ff.1 h;obtain ⟨t1,h3,rfl⟩:=bG h2;simp [abE h3]
mutual
theorem aoo {gs:List (aI×Nat)}:∀{c c':V},c.clean=true→c.pJ gs=some c'→c'.clean=true
 | .one c,c',h,hi=>by simp only [V.pJ] at hi;obtain ⟨x,h1,rfl⟩:=bG hi;exact L5 (c:=c) h h1
 | .agg cs,c',h,hi=>by simp only [V.pJ] at hi;obtain ⟨x,h1,rfl⟩:=bG hi;exact L6 (l:=cs) h h1
 | .aq vs,c',h,hi=>by simp only [V.pJ] at hi;obtain ⟨x,h1,rfl⟩:=bG hi;exact Ss (l:=vs) h h1
theorem Ss {gs:List (aI×Nat)}:∀{l l':List V},iB l=true→sY gs l=some l'→iB l'=true
 | [],l',h,hi=>by simp only [sY,ai] at hi;subst hi;rfl
 | c::t,l',h,hi=>by
  simp only [sY] at hi;obtain ⟨c1,h1,h2⟩:=ff.1 hi;obtain ⟨t1,h3,rfl⟩:=bG h2;simp only [iB,bK] at h ⊢;exact ⟨aoo h.1 h1,Ss h.2 h3⟩
end
theorem abB {gs:List (aI×Nat)}:∀{l l':List (List C)} (j:Nat) {c':List C},ru gs l=some l'→l'[j]? = some c'→∃c,l[j]? = some c∧nh gs c=some c'
 | [],l',j,c',h,hj=>by simp only [ru,ai] at h;subst h;simp at hj
 | c::t,l',j,c',h,hj=>by
  simp only [ru] at h;obtain ⟨c1,h1,h2⟩:=ff.1 h;obtain ⟨t1,h3,rfl⟩:=bG h2;cases j with
  | zero=>simp at hj;subst hj;exact ⟨c,rfl,h1⟩
  | succ j=>obtain ⟨c2,g1,g2⟩:=abB j h3 (by simpa using hj);exact ⟨c2,by simpa using g1,g2⟩
theorem Sr {gs:List (aI×Nat)}:∀{l l':List (List C)},ru gs l=some l'→l'.length=l.length
 | [],l',h=>by simp only [ru,ai] at h;subst h;rfl
 | c::t,l',h=>by
  simp only [ru] at h;obtain ⟨c1,h1,h2⟩:=ff.1 h;obtain ⟨t1,h3,rfl⟩:=bG h2;simp [Sr h3]
section
variable {nm:FuncId→Option Nat} {N:Nat} {a:Act} {w w':World} {L Lc eS L2:aw} {γ2:Key→Nat} {gs:List (aI×Nat)}
structure DZ (w':World) (eS L2:aw) (γ2:Key→Nat) (gs:List (aI×Nat)):Prop where
 bh:∀B,eS B=some .bh→L2 B=some .bh
 box:∀B (i:Nat) r g o,gs[i]? = some (r,g)→eS B=some (.box (.e i) o)→L2 B=some (.box r o)
 gen:∀(i:Nat) r g,gs[i]? = some (r,g)→g≤γ2 (.r r)
theorem aG.back {k:Key} {j:Nat} {c:C} {v:Value} (hb:DZ w' eS L2 γ2 gs) (h:aG nm w' eS (fun _=>0) k j c v):∀{c':C},c.dR gs=some c'→c.clean=true→∀k' j',aG nm w' L2 γ2 k' j' c' v:=by
 have fU:rW w' w' eS L2:=fun B hB=>⟨hb.bh B hB,rfl⟩
 induction h with
 | @d x v h=>
  intro c' hi hc k' j';simp only [C.dR,ai] at hi;subst hi;cases h with
  | plain h=>exact .d (.plain (h.mono fU))
  | jk=>simp [C.clean] at hc
  | own=>simp [C.clean] at hc
 | @ptr r g c v hv hg h=>
  intro c' hi hc k' j';cases r with
  | e i=>
   simp only [C.dR] at hi;obtain ⟨⟨r',g'⟩,h1,rfl⟩:=bG hi;obtain ⟨B,o,h2,h3⟩:=h (by omega);exact .ptr hv (hb.gen i r' g' h1) (fun _=>⟨B,o,hb.box B i r' g' o h1 h2,h3⟩)
  | l i=>simp [C.dR] at hi
  | g i=>simp [C.dR] at hi
 | eE=>intro c' hi;simp [C.dR] at hi
 | pp hL hB h=>
  intro c' hi hc k' j';simp only [C.dR,ai] at hi;subst hi;refine .pp (hb.bh _ hL) hB (fun q x hx=>?_);obtain ⟨u,h1,h2⟩:=h q x hx;exact ⟨u,h1,h2.mono fU⟩
 | view=>intro c' hi;simp [C.dR] at hi
 | c6=>intro c' hi;simp [C.dR] at hi
 | mp=>intro c' hi;simp [C.dR] at hi
 | gi=>intro c' hi;simp [C.dR] at hi
 | @fns f l v B o cap cur e fz val hf hL hB aS hv h ih=>
  intro c' hi hc k' j';have sy:=L5 hc hi;simp only [C.dR] at hi;obtain ⟨x',g1,g2⟩:=ff.1 hi;obtain ⟨y',g3,rfl⟩:=bG g2;simp only [nh,ai] at g1;subst g1;simp only [C.clean,bK] at sy;have hlen:=De g3;refine .fns val (by rw [hlen];exact hf) (hb.bh _ hL) hB sy.2 (by rw [hlen];exact hv) ?_;intro i x hx;obtain ⟨c0,k1,k2⟩:=Dc i g3 hx;exact ih i c0 k1 k2 (ko aS k1) _ _
 | @fn f first cap cF fs cs jG hf h1 h2 aS h3 h4 sL sM=>
  intro c' hi hc k' j';have sy:=L5 hc hi;simp only [C.dR] at hi;obtain ⟨x',g1,g2⟩:=ff.1 hi;obtain ⟨y',g3,rfl⟩:=bG g2;simp only [C.clean,bK] at sy;refine .fn jG hf (by rw [De g1];exact h1) (by rw [De g3];exact h2) sy ?_ ?_
  ·intro i x u hx hu;obtain ⟨c0,k1,k2⟩:=Dc i g1 hx;exact sL i c0 u k1 hu k2 (ko aS.1 k1) _ _
  ·intro i x u hx hu;obtain ⟨c0,k1,k2⟩:=Dc i g3 hx;exact sM i c0 u k1 hu k2 (ko aS.2 k1) _ _
 | cz=>intro c' hi _ _ _;simp only [C.dR,ai] at hi;subst hi;exact .cz
 | eX=>intro c' hi _ _ _;simp only [C.dR,ai] at hi;subst hi;exact .eX
 | fS=>intro c' hi _ _ _;simp only [C.dR,ai] at hi;subst hi;exact .fS
 | fm=>intro c' hi _ _ _;simp only [C.dR,ai] at hi;subst hi;exact .fm
 | bu=>intro c' hi hc;simp [C.clean] at hc
 | dead=>intro c' hi _ _ _;simp only [C.dR,ai] at hi;subst hi;exact .dead
theorem abC {gs:List (aI×Nat)} {c c':C} (hi:c.dR gs=some c') {B o k:Nat} {e:TypeId} {n:Nat} {v:Value} (h:lK c B o k e n v):lK c' B o k e n v:=by
 cases c' with
 | bu t=>
  cases c with
  | bu t'=>simp only [C.dR,ai,C.bu.injEq] at hi;subst hi;exact h
  | ptr r g c=>
   cases r with
   | e i=>simp only [C.dR] at hi;obtain ⟨i,_,h2⟩:=bG hi;cases h2
   | l i=>simp [C.dR] at hi
   | g i=>simp [C.dR] at hi
  | fn f a b=>simp only [C.dR] at hi;obtain ⟨_,_,h2⟩:=ff.1 hi;obtain ⟨_,_,h3⟩:=bG h2;cases h3
  | _=>simp [C.dR] at hi
 | _=>trivial
theorem aG.NU {k k':Key} {j:Nat} {c:C} {v:Value} (hb:DZ w' eS L2 γ2 gs) (h:aG nm w' eS (fun _=>0) k j c v) {c':C} (hi:c.dR gs=some c')
  (de:∀x,c = .d x→∀B q o,q.k=k→q.j=j→eS B=some (.row q o)→L2 B=some (.row ⟨k',j,q.p⟩ o)) (hkk:(∃r c,k = .b r c)→∃r c,k' = .b r c:=by first | exact fun h=>h | exact fun _=>⟨_,_,rfl⟩ | (rintro ⟨r,c,h⟩;cases h;done)):aG nm w' L2 γ2 k' j c' v:=by
 cases c with
 | d x=>
  simp only [C.dR,ai] at hi;subst hi;cases h with
  | d h=>
   exact .d (bt.move (fun q=>⟨k',j,q.p⟩) (fun q=>q.k=k∧q.j=j) (fun _ _ _ h=>h) (fun _ _ _ _=>rfl) (fun B hB=>⟨hb.bh B hB,rfl⟩) (fun B q o hq hL=>⟨de x rfl B q o hq.1 hq.2 hL,rfl⟩) h ⟨rfl,rfl⟩)
 | c6=>simp [C.dR] at hi
 | mp=>simp [C.dR] at hi
 | bu t=>
  simp only [C.dR,ai] at hi;subst hi;cases h with
  | bu hk hv=>exact .bu (hkk hk) hv
 | _=>exact h.back hb hi (h.uX rfl) _ _
theorem bD.back {x:V} {v:Value} (hb:DZ w' eS L2 γ2 gs) (h:bD nm w' eS (fun _=>0) (.h 0) x v):∀{x':V},x.pJ gs=some x'→(∀B q o,q.k = .h 0→eS B=some (.row q o)→L2 B=some (.row q o))→bD nm w' L2 γ2 (.h 0) x' v:=by
 induction h with
 | @one c v h=>
  intro x' hi de;simp only [V.pJ] at hi;obtain ⟨c',h1,rfl⟩:=bG hi;exact .one (h.NU hb h1 (fun x _ B q o h1 h2 h3=>by have:=de B q o h1 h3;rw [this];cases q;simp_all))
 | @agg cs vs hl h=>
  intro x' hi de;simp only [V.pJ] at hi;obtain ⟨ey,h1,rfl⟩:=bG hi;refine .agg (by rw [De h1];exact hl) (fun j c u hj hu=>?_);obtain ⟨c0,g1,g2⟩:=Dc j h1 hj;exact (h j c0 u g1 hu).NU hb g2 (fun x _ B q o h1 h2 h3=>by have:=de B q o h1 h3;rw [this];cases q;simp_all)
 | @aq vs us hl aS h ih=>
  intro x' hi de;simp only [V.pJ] at hi;obtain ⟨eR,h1,rfl⟩:=bG hi;refine .aq (by rw [abE h1];exact hl) (Ss aS h1) (fun i x u hj hu=>?_);obtain ⟨c0,g1,g2⟩:=abD i h1 hj;exact ih i c0 u g1 hu g2 de
structure Nt (S1 S2:St) (rs:List aI) (cI:List (List C)) (ok:Nat→Nat→Bool):Prop where
 len:cI.length=rs.length
 Ot:∀(i:Nat) r (cs:List C),rs[i]? = some r→cI[i]? = some cs→∀(c:Nat) x,cs[c]? = some x→S2.E (.b r c) = .one x
 out:∀(i:Nat) r (cs:List C),rs[i]? = some r→cI[i]? = some cs→∀c,cs.length≤c→S2.E (.b r c) = .one .dead
 size:∀(i:Nat) r (cs:List C),rs[i]? = some r→cI[i]? = some cs→cj (S2.E (.r r))=cs.length
 other:∀k,(∀r c,k = .b r c→r∉rs)→(∀r,k = .r r→r∉rs)→S2.E k=S1.E k
 dP:∀k,S1.γ k≤S2.γ k
 wr:∀(i:Nat) r c,rs[i]? = some r→ok i c=true→S1.γ (.b r c) < S2.γ (.b r c)
 acW:∀(i:Nat) r c,rs[i]? = some r→ok i c=false→∀x,S1.E (.b r c)≠.one (.d x)
 same:∀(i:Nat) r (cs:List C),rs[i]? = some r→cI[i]? = some cs→∀(c:Nat) x,cs[c]? = some x→ok i c=false→∀y,x≠.d y
theorem X1 {S1 S2:St} {qI rs:List aI} {cI out:List (List C)} {ok:Nat→Nat→Bool} (R:Rel nm N S1 a w L) (hH:eJ L) (jf:rs.Nodup) (q8:∃t,rs=qI++t) (hG:∀r∈rs,r.iU=false)
  (B9:∀r∈rs,r∉qI→S1.γ (.r r) < S2.γ (.r r)∧∀i,r≠.e i)
  (BQ:Lc=gp qI S1.E L) (hm:dc w w' Lc eS) (Rc:Rel nm 0 (dk 0 out) ⟨#[],[]⟩ w' eS) (X:Nt S1 S2 rs cI ok) (qi:∀i:Nat,(gs[i]?).map (·.1)=rs[i]?) (ajt:∀(i:Nat) r g,gs[i]? = some (r,g)→g≤S2.γ (.r r))
  (qd:ru gs out=some cI) :
  Rel nm N S2 a w' (jn rs ok w.heap.size L Lc eS)∧dc w w' L (jn rs ok w.heap.size L Lc eS)∧DZ w' eS (jn rs ok w.heap.size L Lc eS) S2.γ gs∧
   (∀B q o,q.k = .h 0→eS B=some (.row q o)→jn rs ok w.heap.size L Lc eS B=some (.row q o)):=by
 have vw:∀{B},Lc B=none→B < w.heap.size→eS B=none∧w'.heap[B]? = w.heap[B]?:=fun h1 h2=>hm.none _ h2 h1
 have af:∀{B l},L B=some l→B < w.heap.size:=by
  intro B l hB;exact R.fu B l hB
 have kO:∀{B l},eS B=some l→¬ ((Lc B).isNone=true∧B < w.heap.size):=by
  rintro B l h ⟨h1,h2⟩;rw [(vw (by simpa using h1) h2).1] at h;cases h
 have vg:DZ w' eS (jn rs ok w.heap.size L Lc eS) S2.γ gs:=by
  refine ⟨fun B hB=>?_,fun B i r g o hg hB=>?_,ajt⟩
  ·unfold jn;rw [aB (kO hB)];simp [hB]
  ·unfold jn;rw [aB (kO hB)];have:=qi i;rw [hg] at this;simp only [fh] at this;simp [hB,←this]
 have Fi:∀B q o,q.k = .h 0→eS B=some (.row q o)→jn rs ok w.heap.size L Lc eS B=some (.row q o):=by
  intro B q o hq hB;unfold jn;rw [aB (kO hB)];obtain ⟨k,j,p⟩:=q;simp only at hq;subst hq;simp [hB]
 have ajW:∀{B i c j p o r},rs[i]? = some r→ok i c=true→eS B=some (.row ⟨.b (.e i) c,j,p⟩ o)→jn rs ok w.heap.size L Lc eS B=some (.row ⟨.b r c,j,p⟩ o):=by
  intro B i c j p o r hr aQ hB;unfold jn;rw [aB (kO hB)];simp [hB,hr,aQ]
 have Jf:∀{B i o r},rs[i]? = some r→eS B=some (.box (.e i) o)→jn rs ok w.heap.size L Lc eS B=some (.box r o):=by
  intro B i o r hr hB;unfold jn;rw [aB (kO hB)];simp [hB,hr]
 have qj:∀{r i},rs[i]? = some r→jl rs r 0=some i:=fun h=>by have:=yh rs (i:=0) jf h;rwa [db] at this
 have JG:∀{B r o},L B=some (.box r o)→r∉rs→jn rs ok w.heap.size L Lc eS B=some (.box r o)∧Lc B=none:=by
  intro B r o hB hr;have hl:Lc B=none:=by
   rw [BQ];simp only [gp,hB];cases hx:jl qI r 0 with
   | none=>rfl
   | some i=>
    obtain ⟨t,ht⟩:=q8;exact absurd (by rw [ht];exact HF _ (ft (qD qI hx).2)) hr
  refine ⟨?_,hl⟩;unfold jn;rw [aJ ⟨by rw [hl];rfl,af hB⟩];simp [hB,hr]
 have aj1:∀{r},r∈qI→r∈rs:=fun h=>by obtain ⟨t,ht⟩:=q8;rw [ht];exact HF _ h
 have JH:∀{B q o},L B=some (.row q o)→(∀(i:Nat) r c,rs[i]? = some r→q.k = .b r c→ok i c=false)→
   jn rs ok w.heap.size L Lc eS B=some (.row q o)∧Lc B=none:=by
  intro B q o hB h1;have hq:=hH B q o hB;obtain ⟨k,j,p⟩:=q;cases k with
  | s i=>
   have hl:Lc B=none:=by rw [BQ];simp [gp,hB]
   refine ⟨?_,hl⟩;unfold jn;rw [aJ ⟨by rw [hl];rfl,af hB⟩];simp [hB]
  | b r c=>
   have hl:Lc B=none:=by
    rw [BQ];simp only [gp,hB];cases hx:jl qI r 0 with
    | none=>rfl
    | some i=>
     have B7:=aj1 (ft (qD qI hx).2);obtain ⟨i',tY⟩:=uJ B7;have:=X.acW i' r c tY (h1 i' r c tY rfl);cases hE:S1.E (.b r c) with
     | one y=>cases y<;>first | rfl | exact absurd hE (this _)
     | _=>rfl
   refine ⟨?_,hl⟩;unfold jn;rw [aJ ⟨by rw [hl];rfl,af hB⟩];simp only [hB];cases hx:jl rs r 0 with
   | none=>rfl
   | some i=>
    have:=h1 i r c (qD rs hx).2 rfl;simp [this]
  | _=>simp [Key.aT] at hq
 have fU:rW w w' L (jn rs ok w.heap.size L Lc eS):=fun B hB=>by
  have h1:Lc B=some .bh:=by rw [BQ];exact u5 hB
  exact ⟨vg.bh B (hm.bh B h1).1,(hm.bh B h1).2⟩
 have YK:∀{B r o},L B=some (.box r o)→r∈qI→jn rs ok w.heap.size L Lc eS B=some (.box r o):=by
  intro B r o hB hr;obtain ⟨i,hi⟩:=uJ hr;obtain ⟨t,ht⟩:=q8;have YY:rs[i]? = some r:=by rw [ht,nB (cw.1 hi).1];exact hi
  have Qy:qI.Nodup:=by rw [ht] at jf;exact (HG.1 jf).1
  have h1:Lc B=some (.box (.e i) o):=by
   rw [BQ];exact y9 hB (by have:=yh qI (i:=0) Qy hi;rwa [db] at this)
  exact Jf YY (hm.Bq B i o h1)
 have eh:∀{B l},L B=some l→Lc B=none→w'.heap[B]? = w.heap[B]?:=fun h1 h2=>(vw h2 (af h1)).2
 have Zg:∀{k:Key},S2.γ k=S1.γ k→∀(i:Nat) r c,rs[i]? = some r→k = .b r c→ok i c=false:=by
  intro k hk i r c hi he;subst he;cases aQ:ok i c with
  | false=>rfl
  | true=>have:=X.wr i r c hi aQ;omega
 have bp:Step w w' L (jn rs ok w.heap.size L Lc eS) S1.γ S2.γ:=by
  refine ⟨fU,X.dP,?_,?_,?_⟩
  ·intro B q o hq hk hB;obtain ⟨h1,h2⟩:=JH hB (Zg hk);exact ⟨h1,fun cur e fz hc=>⟨cur,(eh hB h2).trans hc,rfl⟩⟩
  ·intro B q o hq hk _ hB;obtain ⟨h1,h2⟩:=JH hB (Zg hk);exact eh hB h2
  ·intro B r o hk hB;by_cases hr:r∈rs
   ·by_cases FB:r∈qI
    ·exact YK hB FB
    ·have:=(B9 r hr FB).1;omega
   ·exact (JG hB hr).1
 have xu:∀{B l},jn rs ok w.heap.size L Lc eS B=some l→
   (Lc B=none∧L B=some l∧B < w.heap.size∧(∀i r c j p o,l = .row ⟨.b r c,j,p⟩ o→rs[i]? = some r→ok i c=false)∧∀r o,l = .box r o→r∉rs)∨
   (l = .bh∧eS B=some .bh)∨(∃(i:Nat) (r:aI) (o:Nat),l = .box r o∧rs[i]? = some r∧eS B=some (.box (.e i) o))∨
   (∃(i:Nat) (r:aI) (c j:Nat) (p:List (Nat×Nat)) (o:Nat),l = .row ⟨.b r c,j,p⟩ o∧rs[i]? = some r∧ok i c=true∧eS B=some (.row ⟨.b (.e i) c,j,p⟩ o))∨
   (∃(j:Nat) (p:List (Nat×Nat)) (o:Nat),l = .row ⟨.h 0,j,p⟩ o∧eS B=some (.row ⟨.h 0,j,p⟩ o)):=by
  intro B l h;unfold jn at h;split at h
  ·rename_i hc;left;have hn:Lc B=none:=by simpa using hc.1
   split at h
   ·rename_i r c j p o hL;split at h
    ·rename_i i hi;split at h
     ·cases h
     ·rename_i aQ;simp only [ai] at h;subst h;refine ⟨hn,hL,hc.2,?_,by intro _ _ h;cases h⟩;intro i' r' c' j' p' o' he tY;simp only [bO.row.injEq,Place.mk.injEq,Key.b.injEq] at he;obtain ⟨⟨⟨rfl,rfl⟩,rfl,rfl⟩,rfl⟩:=he;have:=qj tY;rw [hi] at this;simp only [ai] at this;subst this;simpa using aQ
    ·rename_i hi;simp only [ai] at h;subst h;refine ⟨hn,hL,hc.2,?_,by intro _ _ h;cases h⟩;intro i' r' c' j' p' o' he tY;simp only [bO.row.injEq,Place.mk.injEq,Key.b.injEq] at he;obtain ⟨⟨⟨rfl,rfl⟩,rfl,rfl⟩,rfl⟩:=he;have:=qj tY;rw [hi] at this;cases this
   ·rename_i r o hL;split at h
    ·cases h
    ·rename_i hr;simp only [ai] at h;subst h;refine ⟨hn,hL,hc.2,(by intro _ _ _ _ _ _ h;cases h),?_⟩;intro r' o' he;simp only [bO.box.injEq] at he;obtain ⟨rfl,rfl⟩:=he;simpa using hr
   ·rename_i h1 h2;refine ⟨hn,h,hc.2,?_,?_⟩
    ·intro i r c j p o he;subst he;exact absurd h (h1 _ _ _ _ _)
    ·intro r o he;subst he;exact absurd h (h2 _ _)
  ·right;split at h
   ·simp only [ai] at h;exact .inl ⟨h.symm,‹_›⟩
   ·rename_i i o hL;obtain ⟨r,h1,h2⟩:=bG h;exact .inr (.inl ⟨i,r,o,h2,h1,hL⟩)
   ·rename_i i c j p o hL;split at h
    ·rename_i r hr;split at h
     ·rename_i aQ;simp only [ai] at h;exact .inr (.inr (.inl ⟨i,r,c,j,p,o,h.symm,hr,aQ,hL⟩))
     ·cases h
    ·cases h
   ·rename_i j p o hL;simp only [ai] at h;exact .inr (.inr (.inr ⟨j,p,o,h.symm,hL⟩))
   ·cases h
 have Cf:∀{i i':Nat} {r},rs[i]? = some r→rs[i']? = some r→i=i':=by
  intro i i' r h1 h2;have e1:=qj h1;have e2:=qj h2;rw [e1] at e2;simpa using e2
 have oE:∀{i:Nat} {r},rs[i]? = some r→∃cs gU,cI[i]? = some cs∧out[i]? = some gU∧nh gs gU=some cs∧cs.length=gU.length:=by
  intro i r hi;have dW:i < cI.length:=by rw [X.len];exact (cw.1 hi).1
  have h1:cI[i]? = some cI[i]:=kf dW;obtain ⟨gU,h2,h3⟩:=abB i qd h1;exact ⟨cI[i],gU,h1,h2,h3,De h3⟩
 refine ⟨⟨R.size,R.defers,?_,?_,?_,?_,?_,?_,?_,?_⟩,?_,vg,Fi⟩
 ·intro i;rw [X.other (.s i) (by intro _ _ h;cases h) (by intro _ h;cases h)];refine (R.slot i).step bp (fun B q o hq hB=>?_);obtain ⟨h1,h2⟩:=JH hB (fun i r c _ h=>by rw [hq] at h;cases h);rw [←hq,Place.l9];exact ⟨h1,eh hB h2⟩
 ·intro r c x hx gg;by_cases hr:r∈rs
  ·obtain ⟨i,hi⟩:=uJ hr;obtain ⟨cs,gU,h1,h2,h3,h4⟩:=oE hi;by_cases hc:c < cs.length
   ·have eF:cs[c]? = some cs[c]:=kf hc;have:=X.Ot i r cs hi h1 c _ eF;rw [hx] at this;simp only [V.one.injEq] at this;rw [←this] at eF;obtain ⟨y,k1,k2⟩:=Dc c h3 eF;have jg:y≠.dead:=by
     rintro rfl;simp only [C.dR,ai] at k2;exact gg k2.symm
    have bz:i < out.length:=(cw.1 h2).1;have Jk:out.getD i []=gU:=by rw [kB,h2];rfl
    have hE:(dk 0 out:St).E (.b (.e i) c) = .one y:=by
     rw [pj];simp only [Jk];rw [aJ ⟨bz,by omega⟩];rw [kB,k1];rfl
    obtain ⟨B,o,cur,e,fz,v,m1,m2,m3,m4,m5,m6⟩:=Rc.cell (.e i) c y hE jg;rw [Ii] at m5;have kP:aG nm w' (jn rs ok w.heap.size L Lc eS) S2.γ (.b r c) 0 x v:=by
     refine m5.NU vg k2 (fun z hz B' q o' hq hj dA=>?_);have aQ:ok i c=true:=by
      cases aQ:ok i c with
      | true=>rfl
      | false=>
       subst hz;simp only [C.dR,ai] at k2;exact absurd k2.symm (X.same i r cs hi h1 c x eF aQ z)
     obtain ⟨k,j,p⟩:=q;simp only at hq hj;subst hq;subst hj;exact ajW hi aQ dA
    have hG':=hG r hr;cases r with
    | g n=>simp [aI.iU] at hG'
    | e n=>exact ⟨B,o,cur,e,fz,v,Jf hi m1,m2,m3,m4,kP,abC k2 m6⟩
    | l n=>exact ⟨B,o,cur,e,fz,v,Jf hi m1,m2,m3,m4,kP,abC k2 m6⟩
   ·have:=X.out i r cs hi h1 c (by omega);rw [hx] at this;simp only [V.one.injEq] at this;exact absurd this gg
  ·rw [X.other (.b r c) (by intro r' c' h;cases h;exact hr) (by intro _ h;cases h)] at hx;refine (R.cell r c x hx gg).step bp ?_ ?_
   ·intro B q o hq hB;obtain ⟨h1,h2⟩:=JH hB (fun i r' c' hi h=>by rw [hq] at h;cases h;exact absurd (ft hi) hr);exact ⟨h1,eh hB h2⟩
   ·intro B o hB;obtain ⟨h1,h2⟩:=JG hB hr;exact ⟨h1,fun cur e fz hc=>⟨cur,(eh hB h2).trans hc,rfl,rfl⟩⟩
 ·intro r c;by_cases hr:r∈rs
  ·obtain ⟨i,hi⟩:=uJ hr;obtain ⟨cs,gU,h1,h2,h3,h4⟩:=oE hi;by_cases hc:c < cs.length
   ·exact ⟨cs[c],X.Ot i r cs hi h1 c _ (kf hc)⟩
   ·exact ⟨.dead,X.out i r cs hi h1 c (by omega)⟩
  ·rw [X.other (.b r c) (by intro r' c' h;cases h;exact hr) (by intro _ h;cases h)];exact R.kg r c
 ·intro r c hc;by_cases hr:r∈rs
  ·obtain ⟨i,hi⟩:=uJ hr;obtain ⟨cs,gU,h1,h2,h3,h4⟩:=oE hi;rw [X.size i r cs hi h1] at hc;exact X.out i r cs hi h1 c hc
  ·rw [X.other (.r r) (by intro _ _ h;cases h) (by intro r' h;cases h;exact hr)] at hc;rw [X.other (.b r c) (by intro r' c' h;cases h;exact hr) (by intro _ h;cases h)];exact R.bound r c hc
 ·intro r hg Cd;by_cases hr:r∈rs
  ·obtain ⟨i,hi⟩:=uJ hr;obtain ⟨cs,gU,h1,h2,h3,h4⟩:=oE hi;rw [X.size i r cs hi h1] at Cd ⊢;have bz:i < out.length:=(cw.1 h2).1;have Jk:out.getD i []=gU:=by rw [kB,h2];rfl
   have hE:cj ((dk 0 out:St).E (.r (.e i)))=cs.length:=by
    rw [pj];simp only [Jk];rw [aJ bz,qQ,h4]
   obtain ⟨B,o,cur,e,fz,m1,m2,m3,m4⟩:=Rc.room (.e i) rfl (by show 0 < cj ((dk 0 out:St).E (.r (.e i)));rw [hE];exact Cd);have m4':o+cs.length≤cur.size:=by rw [←hE];exact m4
   exact ⟨B,o,cur,e,fz,Jf hi m1,m2,m3,m4'⟩
  ·rw [X.other (.r r) (by intro _ _ h;cases h) (by intro r' h;cases h;exact hr)] at Cd ⊢;obtain ⟨B,o,cur,e,fz,m1,m2,m3,m4⟩:=R.room r hg Cd;obtain ⟨h1,h2⟩:=JG m1 hr;exact ⟨B,o,cur,e,fz,h1,(eh m1 h2).trans m2,m3,m4⟩
 ·intro B l hB;rcases xu hB with ⟨h1,h2,h3,_⟩ | ⟨_,h⟩ | ⟨_,_,_,_,_,h⟩ | ⟨_,_,_,_,_,_,_,_,_,h⟩ | ⟨_,_,_,_,h⟩
  ·exact xh (R.fu B l h2) (eh h2 h1)
  all_goals exact Rc.fu B _ h
 ·intro B B' pl o o' h1 h2;rcases xu h1 with ⟨a1,a2,a3,a4,_⟩ | ⟨a1,_⟩ | ⟨_,_,_,a1,_⟩ | ⟨i,r,c,j,p,o1,a1,a2,a3,a4⟩ | ⟨j,p,o1,a1,a2⟩
  ·rcases xu h2 with ⟨b1,b2,b3,b4,_⟩ | ⟨b1,_⟩ | ⟨_,_,_,b1,_⟩ | ⟨i,r,c,j,p,o1,b1,b2,b3,b4⟩ | ⟨j,p,o1,b1,b2⟩
   ·exact R.eN B B' pl o o' a2 b2
   ·cases b1
   ·cases b1
   ·simp only [bO.row.injEq] at b1;obtain ⟨rfl,rfl⟩:=b1;have:=a4 i r c j p o rfl b2;rw [b3] at this;cases this
   ·simp only [bO.row.injEq] at b1;obtain ⟨rfl,rfl⟩:=b1;have:=hH B _ o a2;simp [Key.aT] at this
  ·cases a1
  ·cases a1
  ·simp only [bO.row.injEq] at a1;obtain ⟨rfl,rfl⟩:=a1;rcases xu h2 with ⟨b1,b2,b3,b4,_⟩ | ⟨b1,_⟩ | ⟨_,_,_,b1,_⟩ | ⟨i',r',c',j',p',mZ,b1,b2,b3,b4⟩ | ⟨j',p',mZ,b1,b2⟩
   ·have:=b4 i r c j p o' rfl a2;rw [a3] at this;cases this
   ·cases b1
   ·cases b1
   ·simp only [bO.row.injEq,Place.mk.injEq,Key.b.injEq] at b1;obtain ⟨⟨⟨rfl,rfl⟩,rfl,rfl⟩,rfl⟩:=b1;obtain rfl:=Cf a2 b2;exact Rc.eN B B' _ _ _ a4 b4
   ·simp only [bO.row.injEq,Place.mk.injEq] at b1;exact absurd b1.1.1 (by intro h;cases h)
  ·simp only [bO.row.injEq] at a1;obtain ⟨rfl,rfl⟩:=a1;rcases xu h2 with ⟨b1,b2,b3,b4,_⟩ | ⟨b1,_⟩ | ⟨_,_,_,b1,_⟩ | ⟨i',r',c',j',p',mZ,b1,b2,b3,b4⟩ | ⟨j',p',mZ,b1,b2⟩
   ·have:=hH B' _ o' b2;simp [Key.aT] at this
   ·cases b1
   ·cases b1
   ·simp only [bO.row.injEq,Place.mk.injEq] at b1;exact absurd b1.1.1 (by intro h;cases h)
   ·simp only [bO.row.injEq] at b1;obtain ⟨b1,rfl⟩:=b1;rw [←b1] at b2;exact Rc.eN B B' _ _ _ a2 b2
 ·intro B B' r o o' h1 h2;rcases xu h1 with ⟨a1,a2,a3,_,a5⟩ | ⟨a1,_⟩ | ⟨i,r1,o1,a1,a2,a3⟩ | ⟨_,_,_,_,_,_,a1,_⟩ | ⟨_,_,_,a1,_⟩
  ·rcases xu h2 with ⟨b1,b2,b3,_,b5⟩ | ⟨b1,_⟩ | ⟨i',GV,mZ,b1,b2,b3⟩ | ⟨_,_,_,_,_,_,b1,_⟩ | ⟨_,_,_,b1,_⟩
   ·exact R.fB B B' r o o' a2 b2
   ·cases b1
   ·simp only [bO.box.injEq] at b1;obtain ⟨rfl,rfl⟩:=b1;exact absurd (ft b2) (a5 r o rfl)
   ·cases b1
   ·cases b1
  ·cases a1
  ·simp only [bO.box.injEq] at a1;obtain ⟨rfl,rfl⟩:=a1;rcases xu h2 with ⟨b1,b2,b3,_,b5⟩ | ⟨b1,_⟩ | ⟨i',GV,mZ,b1,b2,b3⟩ | ⟨_,_,_,_,_,_,b1,_⟩ | ⟨_,_,_,b1,_⟩
   ·exact absurd (ft a2) (b5 r o' rfl)
   ·cases b1
   ·simp only [bO.box.injEq] at b1;obtain ⟨rfl,rfl⟩:=b1;obtain rfl:=Cf a2 b2;exact Rc.fB B B' _ _ _ a3 b3
   ·cases b1
   ·cases b1
  ·cases a1
  ·cases a1
 ·refine ⟨hm.os,hm.tape,hm.output,hm.size,fU,?_,?_⟩
  ·intro B hB hL;have hl:Lc B=none:=by rw [BQ];simp [gp,hL]
   refine ⟨?_,(vw hl hB).2⟩;unfold jn;rw [aJ ⟨by rw [hl];rfl,hB⟩];simp [hL]
  ·intro B i o hB;by_cases hr:(.e i)∈rs
   ·by_cases FB:(.e i)∈qI
    ·exact YK hB FB
    ·exact absurd rfl ((B9 _ hr FB).2 i)
   ·exact (JG hB hr).1
end
end
section
theorem Tr {y x:C} (h:y.same x=true):x=y∧∃r g c,x = .ptr r g c:=by
 cases y<;>cases x<;>simp only [C.same,bK,fA,eU,rU] at h;obtain ⟨⟨rfl,rfl⟩,rfl⟩:=h;exact ⟨rfl,_,_,_,rfl⟩
theorem abe (S:St) (r:aI):∀(cs ol:List C) (c0:Nat) (ws:List Wr) (k:Key),cs.length=ol.length→
  ((∀c,c < cs.length→k≠.b r (c0+c))→(S.ah (mA r c0 cs ol ws)).E k=(S.ah ws).E k∧(S.ah (mA r c0 cs ol ws)).γ k=(S.ah ws).γ k)∧
  (∀c x y,k = .b r (c0+c)→cs[c]? = some x→ol[c]? = some y→y.same x=true→(S.ah (mA r c0 cs ol ws)).E k=(S.ah ws).E k∧(S.ah (mA r c0 cs ol ws)).γ k=(S.ah ws).γ k)∧
  (∀c x y,k = .b r (c0+c)→cs[c]? = some x→ol[c]? = some y→y.same x=false→(S.ah (mA r c0 cs ol ws)).E k = .one x∧(S.ah ws).γ k < (S.ah (mA r c0 cs ol ws)).γ k)∧
  (S.ah ws).γ k≤(S.ah (mA r c0 cs ol ws)).γ k
 | [],ol,c0,ws,k,hl=>by
  have:mA r c0 [] ol ws=ws:=by cases ol<;>rfl
  rw [this];exact ⟨fun _=>⟨rfl,rfl⟩,fun c x y _ h=>by simp at h,fun c x y _ h=>by simp at h,bT _⟩
 | x0::cs,[],c0,ws,k,hl=>by simp at hl
 | x0::cs,y0::ol,c0,ws,k,hl=>by
  have mf:cs.length=ol.length:=by simpa using hl
  obtain ⟨h1,h2,h3,h4⟩:=abe S r cs ol (c0+1) (if y0.same x0 then ws else { k:=.b r c0,v:=.one x0 } :: ws) k mf;simp only [mA];have hle:(S.ah ws).γ k≤(S.ah (if y0.same x0 then ws else { k:=.b r c0,v:=.one x0 } :: ws)).γ k:=by
   split
   ·exact bT _
   ·exact St.pZ _ _ k
  have Zt:k≠.b r c0→(S.ah (if y0.same x0 then ws else { k:=.b r c0,v:=.one x0 } :: ws)).E k=(S.ah ws).E k∧(S.ah (if y0.same x0 then ws else { k:=.b r c0,v:=.one x0 } :: ws)).γ k=(S.ah ws).γ k:=by
   intro az;split
   ·exact ⟨rfl,rfl⟩
   ·simp only [St.ah,St.ia,St.jS,Ne.symm az,dE];trivial
  have Zq:k = .b r c0→∀c,c < cs.length→k≠.b r (c0+1+c):=by
   intro hk c _ e;rw [hk] at e;simp only [Key.b.injEq,lh] at e;omega
  have QO:∀c,c0+(c+1)=c0+1+c:=fun c=>by omega
  refine ⟨?_,?_,?_,jd hle h4⟩
  ·intro az;obtain ⟨g1,g2⟩:=h1 (fun c hc e=>az (c+1) (by simpa using hc) (by rw [e,QO c]));obtain ⟨g3,g4⟩:=Zt (fun e=>az 0 (by simp) (by rw [e];rfl));exact ⟨g1.trans g3,g2.trans g4⟩
  ·intro c x y hk hx hy hs;cases c with
   | zero=>
    simp at hx hy;subst hx;subst hy;obtain ⟨g1,g2⟩:=h1 (Zq hk);rw [hs] at g1 g2;simp only [bW] at g1 g2;rw [hs];exact ⟨g1,g2⟩
   | succ c=>
    obtain ⟨g1,g2⟩:=h2 c x y (by rw [hk,QO c]) (by simpa using hx) (by simpa using hy) hs;obtain ⟨g3,g4⟩:=Zt (by rw [hk];intro e;simp only [Key.b.injEq,lh] at e;omega);exact ⟨g1.trans g3,g2.trans g4⟩
  ·intro c x y hk hx hy hs;cases c with
   | zero=>
    simp at hx hy;subst hx;subst hy;obtain ⟨g1,g2⟩:=h1 (Zq hk);rw [hs] at g1 g2 ⊢;simp only [jC] at hk;subst hk;simp only [rU,dE,St.ah,St.ia,St.jS,bW] at g1 g2 ⊢;exact ⟨g1,by omega⟩
   | succ c=>
    obtain ⟨g1,g2⟩:=h3 c x y (by rw [hk,QO c]) (by simpa using hx) (by simpa using hy) hs;exact ⟨g1,by omega⟩
theorem V5 (S:St):∀(rs:List aI) (bs os:List (List C)) (ws:List Wr) (k:Key),rs.Nodup→bs.length=rs.length→os.length=rs.length→
  (∀(i:Nat) cs ol,bs[i]? = some cs→os[i]? = some ol→cs.length=ol.length)→
  ((∀(i:Nat) r cs c,rs[i]? = some r→bs[i]? = some cs→c < cs.length→k≠.b r c)→(S.ah (jF rs bs os ws)).E k=(S.ah ws).E k∧(S.ah (jF rs bs os ws)).γ k=(S.ah ws).γ k)∧
  (∀(i:Nat) r cs ol c x y,rs[i]? = some r→bs[i]? = some cs→os[i]? = some ol→k = .b r c→cs[c]? = some x→ol[c]? = some y→y.same x=true→(S.ah (jF rs bs os ws)).E k=(S.ah ws).E k∧(S.ah (jF rs bs os ws)).γ k=(S.ah ws).γ k)∧
  (∀(i:Nat) r cs ol c x y,rs[i]? = some r→bs[i]? = some cs→os[i]? = some ol→k = .b r c→cs[c]? = some x→ol[c]? = some y→y.same x=false→(S.ah (jF rs bs os ws)).E k = .one x∧(S.ah ws).γ k < (S.ah (jF rs bs os ws)).γ k)∧
  (S.ah ws).γ k≤(S.ah (jF rs bs os ws)).γ k
 | [],bs,os,ws,k,_,_,_,_=>by
  have:jF [] bs os ws=ws:=by cases bs<;>cases os<;>rfl
  rw [this];exact ⟨fun _=>⟨rfl,rfl⟩,fun i r cs ol c x y h=>by simp at h,fun i r cs ol c x y h=>by simp at h,bT _⟩
 | r0::rs,[],os,ws,k,_,h,_,_=>by simp at h
 | r0::rs,gU::bs,[],ws,k,_,_,h,_=>by simp at h
 | r0::rs,gU::bs,vU::os,ws,k,jf,hb,ho,hl=>by
  obtain ⟨Zc,Qy⟩:=Ng.1 jf;obtain ⟨h1,h2,h3,h4⟩:=V5 S rs bs os (mA r0 0 gU vU ws) k Qy (by simpa using hb) (by simpa using ho) (fun i cs ol h1 h2=>hl (i+1) cs ol (by simpa using h1) (by simpa using h2));obtain ⟨g1,g2,g3,g4⟩:=abe S r0 gU vU 0 ws k (hl 0 gU vU rfl rfl);simp only [db] at g1 g2 g3;simp only [jF];have YW:∀c,k = .b r0 c→(S.ah (jF rs bs os (mA r0 0 gU vU ws))).E k=(S.ah (mA r0 0 gU vU ws)).E k∧(S.ah (jF rs bs os (mA r0 0 gU vU ws))).γ k=(S.ah (mA r0 0 gU vU ws)).γ k:=by
   intro c hk;refine h1 (fun i r cs c' hr _ _ e=>?_);rw [hk] at e;simp only [Key.b.injEq] at e;exact Zc (e.1▸ft hr)
  have ajz:∀(i:Nat) r c,rs[i]? = some r→k = .b r c→(S.ah (mA r0 0 gU vU ws)).E k=(S.ah ws).E k∧(S.ah (mA r0 0 gU vU ws)).γ k=(S.ah ws).γ k:=by
   intro i r c hr hk;refine g1 (fun c' _ e=>?_);rw [hk] at e;simp only [Key.b.injEq] at e;exact Zc (e.1▸ft hr)
  refine ⟨?_,?_,?_,jd g4 h4⟩
  ·intro az;obtain ⟨a1,a2⟩:=h1 (fun i r cs c hr hc af=>az (i+1) r cs c (by simpa using hr) (by simpa using hc) af);obtain ⟨a3,a4⟩:=g1 (fun c hc=>az 0 r0 gU c rfl rfl hc);exact ⟨a1.trans a3,a2.trans a4⟩
  ·intro i r cs ol c x y hr hc qn hk hx hy hs;cases i with
   | zero=>
    simp at hr hc qn;subst hr;subst hc;subst qn;obtain ⟨a1,a2⟩:=YW c hk;obtain ⟨a3,a4⟩:=g2 c x y hk hx hy hs;exact ⟨a1.trans a3,a2.trans a4⟩
   | succ i=>
    simp only [yx] at hr hc qn;obtain ⟨a1,a2⟩:=h2 i r cs ol c x y hr hc qn hk hx hy hs;obtain ⟨a3,a4⟩:=ajz i r c hr hk;exact ⟨a1.trans a3,a2.trans a4⟩
  ·intro i r cs ol c x y hr hc qn hk hx hy hs;cases i with
   | zero=>
    simp at hr hc qn;subst hr;subst hc;subst qn;obtain ⟨a1,a2⟩:=YW c hk;obtain ⟨a3,a4⟩:=g3 c x y hk hx hy hs;exact ⟨a1.trans a3,by omega⟩
   | succ i=>
    simp only [yx] at hr hc qn;obtain ⟨a1,a2⟩:=h3 i r cs ol c x y hr hc qn hk hx hy hs;exact ⟨a1,by omega⟩
theorem aaI:∀{l m:List (List C)},sR l m=true→l.length=m.length∧∀(i:Nat) x y,l[i]? = some x→m[i]? = some y→x.length=y.length
 | [],[],_=>⟨rfl,fun i x y h=>by simp at h⟩
 | [],_::_,h=>by simp [sR] at h
 | _::_,[],h=>by simp [sR] at h
 | a::l,b::m,h=>by
  simp only [sR,bK,eU] at h;obtain ⟨h1,h2⟩:=aaI h.2;refine ⟨by simp [h1],fun i x y hx hy=>?_⟩;cases i with
  | zero=>simp at hx hy;subst hx;subst hy;exact h.1
  | succ i=>exact h2 i x y (by simpa using hx) (by simpa using hy)
theorem Yq {S:St}:∀{rs:List aI} {gs:List (aI×Nat)},(BJ rs).run S=some gs→gs=rs.map fun r=>(r,S.γ (.r r))
 | [],gs,h=>by simp only [BJ] at h;rw [Q.aZ h];rfl
 | r::rs,gs,h=>by
  simp only [BJ] at h;have h1:=Q.ni h;clear h;obtain ⟨l,h2,h3⟩:=Q.aK h1;have h4:=Q.aZ h3;rw [h4,Yq h2];rfl
def okF (bs cI:List (List C)) (i c:Nat):Bool:=
 match (bs[i]?).bind (·[c]?),(cI[i]?).bind (·[c]?) with
 | some y,some x=>!(y.same x)
 | _,_=>false
theorem X0 {S0:St} {ws:List Wr} {rs:List aI} {bs cI:List (List C)} (jf:rs.Nodup) (hl:bs.length=rs.length) (dW:cI.length=rs.length) (he:sR cI bs=true)
  (lq:∀r∈rs,A0 S0 ws r)
  (hb:∀(k:Nat) r cs,rs[k]? = some r→bs[k]? = some cs→cs.length=cj (S0.E (.r r))∧(∀(j:Nat) x,cs[j]? = some x→(S0.ah ws).E (.b r j) = .one x))
  (hbound:∀r c,cj ((S0.ah ws).E (.r r))≤c→(S0.ah ws).E (.b r c) = .one .dead) :
  Nt (S0.ah ws) (S0.ah (jF rs cI bs ws)) rs cI (okF bs cI):=by
 obtain ⟨_,hlen⟩:=aaI he;have W:=fun k=>V5 S0 rs cI bs ws k jf dW hl (fun i cs ol h1 h2=>hlen i cs ol h1 h2)
 have qj:∀{i i':Nat} {r},rs[i]? = some r→rs[i']? = some r→i=i':=fun {i i' r} h1 h2=>by
  have e1:=yh rs (i:=0) jf h1;have e2:=yh rs (i:=0) jf h2;rw [e1] at e2;simpa using e2
 have hold:∀{i:Nat} {r},rs[i]? = some r→∃ol,bs[i]? = some ol:=fun {i r} h=>⟨bs[i]'(by rw [hl];exact (cw.1 h).1),kf _⟩
 have Za:∀{i:Nat} {r},rs[i]? = some r→∃ol,cI[i]? = some ol:=fun {i r} h=>⟨cI[i]'(by rw [dW];exact (cw.1 h).1),kf _⟩
 have PG:∀{i:Nat} {r ol},rs[i]? = some r→bs[i]? = some ol→cj ((S0.ah ws).E (.r r))=ol.length:=by
  intro i r ol h1 h2;rw [BK,(lq r (ft h1)).1,(hb i r ol h1 h2).1];rfl
 refine ⟨dW,?_,?_,?_,?_,fun k=>(W k).2.2.2,?_,?_,?_⟩
 ·intro i r cs hr hc c x hx;obtain ⟨ol,ho⟩:=hold hr;have fW:=hlen i cs ol hc ho;have aS:c < ol.length:=by rw [←fW];exact (cw.1 hx).1
  have hy:ol[c]? = some ol[c]:=kf aS;cases hs:(ol[c]).same x with
  | true=>
   rw [((W (.b r c)).2.1 i r cs ol c x _ hr hc ho rfl hx hy hs).1,(hb i r ol hr ho).2 c _ hy];rw [(Tr hs).1]
  | false=>exact ((W (.b r c)).2.2.1 i r cs ol c x _ hr hc ho rfl hx hy hs).1
 ·intro i r cs hr hc c hle;obtain ⟨ol,ho⟩:=hold hr;have fW:=hlen i cs ol hc ho
  rw [((W (.b r c)).1 (fun i' r' ey c' en lM af e => by
    cases e
    obtain rfl := qj hr en
    rw [hc] at lM
    cases lM
    omega)).1]
  exact hbound r c (by rw [PG hr ho];omega)
 ·intro i r cs hr hc;obtain ⟨ol,ho⟩:=hold hr;have fW:=hlen i cs ol hc ho;rw [((W (.r r)).1 (fun _ _ _ _ _ _ _ e=>by cases e)).1,PG hr ho,fW]
 ·intro k h1 h2;exact ((W k).1 (fun i r cs c hr _ _ e=>h1 r c e (ft hr))).1
 ·intro i r c hr aQ;obtain ⟨ol,ho⟩:=hold hr;obtain ⟨cs,hc⟩:=Za hr;simp only [okF,ho,hc,Option.bind_some] at aQ;cases hy:ol[c]? with
  | none=>simp [hy] at aQ
  | some y=>
   cases hx:cs[c]? with
   | none=>simp [hy,hx] at aQ
   | some x=>
    simp only [hy,hx,nA] at aQ;exact ((W (.b r c)).2.2.1 i r cs ol c x y hr hc ho rfl hx hy aQ).2
 ·intro i r c hr aQ x hE;obtain ⟨ol,ho⟩:=hold hr;obtain ⟨cs,hc⟩:=Za hr;simp only [okF,ho,hc,Option.bind_some] at aQ;have fW:=hlen i cs ol hc ho;cases hy:ol[c]? with
  | none=>
   have:=hbound r c (by rw [PG hr ho];exact UR.1 hy);rw [this] at hE;cases hE
  | some y=>
   have aS:c < cs.length:=by rw [fW];exact (cw.1 hy).1
   have hx:cs[c]? = some cs[c]:=kf aS;simp only [hy,hx,Bool.not_eq_false'] at aQ;obtain ⟨h1,r',g',c',h2⟩:=Tr aQ;rw [(hb i r ol hr ho).2 c y hy,←h1,h2] at hE;cases hE
 ·intro i r cs hr hc c x hx aQ y;obtain ⟨ol,ho⟩:=hold hr;simp only [okF,ho,hc,Option.bind_some,hx] at aQ;have fW:=hlen i cs ol hc ho;have aS:c < ol.length:=by rw [←fW];exact (cw.1 hx).1
  have hy:ol[c]? = some ol[c]:=kf aS;simp only [hy,Bool.not_eq_false'] at aQ;obtain ⟨h1,r',g',c',h2⟩:=Tr aQ;rw [h2];intro h;cases h
end
section
theorem aiz {S0:St} {ws:List Wr} {rs:List aI} {bs cI:List (List C)} {dst:Nat} (jf:rs.Nodup) (hl:bs.length=rs.length) (dW:cI.length=rs.length+1) (he:sR (cI.take rs.length) bs=true)
  (lq:∀r∈rs,A0 S0 ws r) (az:(aI.l dst)∉rs)
  (hb:∀(k:Nat) r cs,rs[k]? = some r→bs[k]? = some cs→cs.length=cj (S0.E (.r r))∧(∀(j:Nat) x,cs[j]? = some x→(S0.ah ws).E (.b r j) = .one x))
  (hbound:∀r c,cj ((S0.ah ws).E (.r r))≤c→(S0.ah ws).E (.b r c) = .one .dead)
  (hn:cj ((S0.ah ws).E (.r (.l dst)))=0∨cj ((S0.ah ws).E (.r (.l dst)))=(cI.getD rs.length []).length) {k0:Wr} (nK:k0 = { k:=.r (.l dst),v:=fx (cI.getD rs.length []).length }) :
  Nt (S0.ah ws) (S0.ah (gf (.l dst) 0 (cI.getD rs.length []) (k0::jF rs cI bs ws))) (rs++[.l dst]) cI
   (fun i c=>if i < rs.length then okF bs (cI.take rs.length) i c else decide (c < (cI.getD rs.length []).length))∧
  (S0.ah ws).γ (.r (.l dst)) < (S0.ah (gf (.l dst) 0 (cI.getD rs.length []) (k0::jF rs cI bs ws))).γ (.r (.l dst)):=by
 have sI:(cI.take rs.length).length=rs.length:=by simp [dW]
 have X:=X0 (cI:=cI.take rs.length) jf hl sI he lq hb hbound;have hbw:jF rs cI bs ws=jF rs (cI.take rs.length) bs ws:=by
  clear X sI he hb lq jf az hn nK hbound;induction rs generalizing bs cI ws with
  | nil=>cases cI<;>cases bs<;>simp [jF]
  | cons r rs ih=>
   cases cI with
   | nil=>simp at dW
   | cons b cI=>
    cases bs with
    | nil=>simp at hl
    | cons o bs=>
     simp only [jF,gk,List.take_succ_cons];exact ih (by simpa using hl) (by simpa using dW)
 rw [hbw];generalize hW:jF rs (cI.take rs.length) bs ws=W at X ⊢;generalize ql:cI.getD rs.length []=nb at hn nK ⊢;have Jz:cI[rs.length]? = some nb:=by rw [←ql];exact getD_some (by omega)
 have K:=fun k=>Bj S0 (.l dst) nb 0 (k0::W) k
 simp only [db] at K;have JU:∀k,k≠.r (.l dst)→(S0.ah (k0::W)).E k=(S0.ah W).E k∧(S0.ah (k0::W)).γ k=(S0.ah W).γ k:=by
  intro k hk;subst nK;simp only [St.ah,St.ia,St.jS,Ne.symm hk,dE];trivial
 have k0S:(S0.ah (k0::W)).E (.r (.l dst))=fx nb.length∧(S0.ah W).γ (.r (.l dst)) < (S0.ah (k0::W)).γ (.r (.l dst)):=by
  subst nK;simp [St.ah,St.ia,St.jS]
 have Kx:∀k,(∀c,k≠.b (.l dst) c)→k≠.r (.l dst)→(S0.ah (gf (.l dst) 0 nb (k0::W))).E k=(S0.ah W).E k∧(S0.ah (gf (.l dst) 0 nb (k0::W))).γ k=(S0.ah W).γ k:=by
  intro k h1 h2;obtain ⟨a1,a2⟩:=(K k).2.1 (fun c _=>h1 c);obtain ⟨b1,b2⟩:=JU k h2;exact ⟨a1.trans b1,a2.trans b2⟩
 have split:∀{i:Nat} {r},(rs++[aI.l dst])[i]? = some r→(i < rs.length∧rs[i]? = some r∧r≠.l dst)∨(i=rs.length∧r = .l dst):=by
  intro i r h;by_cases hi:i < rs.length
  ·rw [nB hi] at h;exact .inl ⟨hi,h,fun e=>az (e▸ft h)⟩
  ·rw [nC (by omega)] at h;cases hd:i - rs.length with
   | zero=>simp [hd] at h;exact .inr ⟨by omega,h.symm⟩
   | succ n=>simp [hd] at h
 have tk:∀{i:Nat} {cs},i < rs.length→cI[i]? = some cs→(cI.take rs.length)[i]? = some cs:=by
  intro i cs hi h;rw [Na,aJ hi];exact h
 have aof:∀c,(S0.ah W).E (.b (.l dst) c)=(S0.ah ws).E (.b (.l dst) c):=fun c=>X.other _ (by intro r c' e;cases e;exact az) (by intro _ e;cases e)
 refine ⟨⟨by simp [dW],?_,?_,?_,?_,?_,?_,?_,?_⟩,?_⟩
 ·intro i r cs hr hc c x hx;rcases split hr with ⟨h1,h2,h3⟩ | ⟨rfl,rfl⟩
  ·rw [(Kx (.b r c) (by intro c' e;cases e;exact h3 rfl) (by intro e;cases e)).1];exact X.Ot i r cs h2 (tk h1 hc) c x hx
  ·rw [Jz] at hc;cases hc;exact (K (.b (.l dst) c)).1 c x rfl hx
 ·intro i r cs hr hc c hle;rcases split hr with ⟨h1,h2,h3⟩ | ⟨rfl,rfl⟩
  ·rw [(Kx (.b r c) (by intro c' e;cases e;exact h3 rfl) (by intro e;cases e)).1];exact X.out i r cs h2 (tk h1 hc) c hle
  ·rw [Jz] at hc;cases hc;rw [((K (.b (.l dst) c)).2.1 (fun c' lM e=>by cases e;omega)).1,(JU _ (by intro e;cases e)).1,aof];exact hbound _ _ (by omega)
 ·intro i r cs hr hc;rcases split hr with ⟨h1,h2,h3⟩ | ⟨rfl,rfl⟩
  ·rw [(Kx (.r r) (by intro c' e;cases e) (by intro e;cases e;exact h3 rfl)).1];exact X.size i r cs h2 (tk h1 hc)
  ·rw [Jz] at hc;cases hc;rw [((K (.r (.l dst))).2.1 (fun c' lM e=>by cases e)).1,k0S.1,qQ]
 ·intro k h1 h2;have m:aI.l dst∈rs++[aI.l dst]:=by simp
  rw [(Kx k (fun c e=>h1 _ c e m) (fun e=>h2 _ e m)).1];exact X.other k (fun r c e hr=>h1 r c e (by simp [hr])) (fun r e hr=>h2 r e (by simp [hr]))
 ·intro k;refine jd (X.dP k) (jd ?_ (K k).2.2.2);by_cases hk:k = .r (.l dst)
  ·subst hk;omega
  ·rw [(JU k hk).2];exact bT _
 ·intro i r c hr aQ;rcases split hr with ⟨h1,h2,h3⟩ | ⟨rfl,rfl⟩
  ·rw [aJ h1] at aQ;rw [(Kx (.b r c) (by intro c' e;cases e;exact h3 rfl) (by intro e;cases e)).2];exact X.wr i r c h2 aQ
  ·rw [aB (by omega)] at aQ;have:=(K (.b (.l dst) c)).2.2.1 c (by simpa using aQ) rfl;rw [(JU _ (by intro e;cases e)).2] at this;have:=X.dP (.b (.l dst) c);omega
 ·intro i r c hr aQ x hE;rcases split hr with ⟨h1,h2,h3⟩ | ⟨rfl,rfl⟩
  ·rw [aJ h1] at aQ;exact X.acW i r c h2 aQ x hE
  ·rw [aB (by omega)] at aQ;have hc:nb.length≤c:=by simpa using aQ
   rw [hbound (.l dst) c (by omega)] at hE;cases hE
 ·intro i r cs hr hc c x hx aQ y;rcases split hr with ⟨h1,h2,h3⟩ | ⟨rfl,rfl⟩
  ·rw [aJ h1] at aQ;exact X.same i r cs h2 (tk h1 hc) c x hx aQ y
  ·rw [aB (by omega)] at aQ;rw [Jz] at hc;cases hc;have:c < nb.length:=(cw.1 hx).1;simp at aQ;omega
 ·rw [((K (.r (.l dst))).2.1 (fun c' lM e=>by cases e)).2];have:=X.dP (.r (.l dst));omega
def jT (P:Program) (cF:FuncId) (args:Array Value) (w:World) (R:Value→World→Prop):Prop:=
 match (callFunc cF args).run P w with
 | .ok (.value v) w'=>R v w'
 | .ok .skip w'=>R undef w'
 | .ok (.enter f xs) w'=>Calls P f xs w' fun e tv=>∃v,e = .returned v∧R v tv
 | .ok (.row row xs) w'=>Rows P row xs w' R
 | _=>False
theorem jT.mono {P:Program} {cF:FuncId} {args:Array Value} {w:World} {R R':Value→World→Prop} (h:jT P cF args w R) (hr:∀v w',R v w'→R' v w'):jT P cF args w R':=by
 unfold jT at h ⊢;split at h
 ·exact hr _ _ h
 ·exact hr _ _ h
 ·exact Calls.mono h (fun e tv=>by rintro ⟨v,rfl,hR⟩;exact ⟨v,rfl,hr _ _ hR⟩)
 ·exact Rows.mono h hr
 ·exact h.elim
def D6 (P:Program) (nm:FuncId→Option Nat) (G:Nat→Option Obj) (Cl:bX):Prop:=
 ∀{f:Nat} {vs:List V} {bx:List (List C)} {r:V} {out:List (List C)} {cF:FuncId},Cl f vs bx=some (r,out)→nm cF=some f→
  ∀{args:Array Value} {w:World} {L:aw},Rel nm vs.length (ga 0 vs++dk 0 bx) ⟨args,[]⟩ w L→eJ L→GI G w L→(∀B i o,L B=some (.box (.e i) o)→i < bx.length)→
   jT P cF args w fun v w'=>∃L',dc w w' L L'∧Rel nm 0 (dk 0 out) ⟨#[],[]⟩ w' L'∧bD nm w' L' (fun _=>0) (.h 0) r v
section
variable {nm:FuncId→Option Nat} {N:Nat} {S:St} {a:Act} {w w':World} {L L':aw} {γ γ':Key→Nat}
theorem Rel.grown (h:Rel nm N S a w L) (hh:∀B l,L B=some l→w'.heap[B]? = w.heap[B]?):Rel nm N S a w' L:=by
 have bp:Step w w' L L S.γ S.γ:=⟨fun B hB=>⟨hB,hh B _ hB⟩,fun _=>bT _,fun B q o _ _ hB=>⟨hB,fun cur e fz hc=>⟨cur,(hh B _ hB).trans hc,rfl⟩⟩,fun B q o _ _ _ hB=>hh B _ hB,fun _ _ _ _ hB=>hB⟩
 refine ⟨h.size,h.defers,?_,?_,h.kg,h.bound,?_,?_,h.eN,h.fB⟩
 ·intro i;exact (h.slot i).step bp (fun B q o hq hB=>by rw [←hq,Place.l9];exact ⟨hB,hh B _ hB⟩)
 ·intro r c x hx gg;exact (h.cell r c x hx gg).step bp (fun B q o _ hB=>⟨hB,hh B _ hB⟩) (fun B o hB=>⟨hB,fun cur e fz hc=>⟨cur,(hh B _ hB).trans hc,rfl,rfl⟩⟩)
 ·intro r hg hr;obtain ⟨B,o,cur,e,fz,h1,h2,h3,h4⟩:=h.room r hg hr;exact ⟨B,o,cur,e,fz,h1,(hh B _ h1).trans h2,h3,h4⟩
 ·intro B l hB;exact xh (h.fu B l hB) (hh B _ hB)
theorem aG.flat {k k':Key} {j j':Nat} {c:C} {v:Value} (h:aG nm w L γ k j c v) (hf:c.flat=true):aG nm w' L' γ' k' j' c v:=by
 cases c with
 | d x=>
  cases h with
  | d h=>
   cases h with
   | plain h=>
    refine .d (.plain ?_);cases h<;>first | exact .int | exact .bool | exact .str | (simp [C.flat,D.flat] at hf)
   | jk=>simp [C.flat,D.flat] at hf
   | own=>simp [C.flat,D.flat] at hf
 | _=>simp [C.flat] at hf
theorem Yh:∀{l:List V} {i:Nat} {c:V},V.flat.go l=true→l[i]? = some c→c.flat=true
 | [],_,_,_,h=>by simp at h
 | x::t,0,c,h,hc=>by simp only [V.flat.go,bK] at h;simp at hc;subst hc;exact h.1
 | x::t,i+1,c,h,hc=>by simp only [V.flat.go,bK] at h;exact Yh h.2 (by simpa using hc)
theorem bD.flat {k k':Key} {x:V} {v:Value} (h:bD nm w L γ k x v):x.flat=true→bD nm w' L' γ' k' x v:=by
 induction h with
 | one h=>exact fun hf=>.one (h.flat hf)
 | agg hl h=>exact fun hf=>.agg hl (fun j c u hj hu=>(h j c u hj hu).flat (by simp only [V.flat,lI] at hf;exact hf c (ft hj)))
 | aq hl aS h ih=>exact fun hf=>.aq hl aS (fun i x u hj hu=>ih i x u hj hu (Yh hf hj))
end
end
section
section
variable {nm:FuncId→Option Nat} {G:Nat→Option Obj} {P:Program} {Cl:bX}
def yG (nm:FuncId→Option Nat) (w:World) (L:aw) (γ:Key→Nat) (l:List V) (us:Array Value):Prop:=
 us.size=l.length∧iB l=true∧∀(j:Nat) x u,l[j]? = some x→us[j]? = some u→bD nm w L γ (.h 0) x u
theorem W7:∀{l m:List V},iB l=true→iB m=true→iB (l++m)=true
 | [],m,_,h=>h
 | x::t,m,h1,h2=>by
  simp only [iB,bK] at h1;simp only [qJ,iB,bK];exact ⟨h1.1,W7 h1.2 h2⟩
theorem OA:∀{l:List C},jm l=true→iB (l.map V.one)=true
 | [],_=>rfl
 | x::t,h=>by
  simp only [jm,bK] at h;simp only [gl,iB,V.clean,bK];exact ⟨h.1,OA h.2⟩
theorem yG.app {w:World} {L:aw} {γ:Key→Nat} {l m:List V} {us vs:Array Value} (h1:yG nm w L γ l us) (h2:yG nm w L γ m vs):yG nm w L γ (l++m) (us++vs):=by
 refine ⟨by simp [h1.1,h2.1],W7 h1.2.1 h2.2.1,fun j x u hx hu=>?_⟩;by_cases hj:j < l.length
 ·rw [nB hj] at hx;rw [AQ (by rw [h1.1];exact hj)] at hu;exact h1.2.2 j x u hx hu
 ·rw [nC (by omega)] at hx;rw [UC (by rw [h1.1];omega),h1.1] at hu;exact h2.2.2 _ x u hx hu
theorem aom {a:Act} {w:World} {o:Oper} {cF:FuncId} {args:Array Value} {R:Value→World→Prop} (he:(execOp a.eval o).run P w=(callFunc cF args).run P w) (h:jT P cF args w R):dx P a w o R:=by
 unfold jT at h;unfold dx;rw [he];split at h
 ·rename_i hx;rw [hx];exact h
 ·rename_i hx;rw [hx];exact h
 ·rename_i hx;rw [hx];exact h
 ·rename_i hx;rw [hx];exact h
 ·exact h.elim
theorem afs (hO:D6 P nm G Cl):wN P nm G Cl:=by
 intro N S a w L o d r c f F xs R hH hGi hd ho ajd hF arj hlen q9 hr;simp only [bq] at hr;obtain ⟨vf,h1,h2⟩:=Q.aK hr;have hv:=rd_val R hF h1;split at h2;rotate_left
 ·cases h2
 rename_i n first cap
 clear hr;obtain ⟨jG,h2⟩:=Q.ei h2;have jG:=JR jG;obtain ⟨⟨vs,ws⟩,h3,h4⟩:=Q.aK h2;clear h2;have xk:=hv.cL;generalize hfv:a.eval f=fv at xk;cases xk with
 | fns val hf=>exfalso;rcases hf with ⟨h,_⟩ | ⟨h,_⟩<;>omega
 | @fn _ _ _ cF fs cs _ hf g1 g2 aS g3 g4=>
 obtain ⟨L1,M,Yz,bp,jH,aje,ajU⟩:=acp R xs c.args.toList (cg.init R) hH hlen q9 h3;dsimp only at h4;have mv:∀{x:C} {u:Value},x.clean=true→aG nm w L S.γ (.h 0) 0 x u→aG nm w L1 (S.ah ws).γ (.h 0) 0 x u:=by
  intro x u hx h;exact h.step (k':=.h 0) (j':=0) bp (fun B q o hq _ hB=>by have:=hH B q o hB;rw [hq] at this;simp [Key.aT] at this)
 have rep:yG nm w L1 (S.ah ws).γ (first.map .one++vs++cap.map .one) (fs++c.args.map a.eval++cs):=by
  refine yG.app (yG.app ⟨by simp [g1],OA aS.1,?_⟩ ⟨by simp [jH],aje,?_⟩) ⟨by simp [g2],OA aS.2,?_⟩
  ·intro j x u hx hu;rw [bS] at hx;obtain ⟨y,hy,rfl⟩:=bG hx;exact .one (mv (ko aS.1 hy) (g3 j y u hy hu))
  ·intro j x u hx hu;rw [Hy] at hu;obtain ⟨p,hp,rfl⟩:=bG hu;exact ajU j x p hx (by simpa using hp)
  ·intro j x u hx hu;rw [bS] at hx;obtain ⟨y,hy,rfl⟩:=bG hx;exact .one (mv (ko aS.2 hy) (g4 j y u hy hu))
 generalize kQ:first.map V.one++vs++cap.map V.one=arG at rep h4;generalize nP:fs++c.args.map a.eval++cs=aqm at rep;have he:(execOp a.eval o).run P w=(callFunc cF aqm).run P w:=by
  subst nP;simp [execOp,ho,resolve,ajd,Deferred.ofValue,hfv,invoke]
 refine aom he ?_;simp only [yS] at h4;obtain ⟨_,k1,k2⟩:=Q.aK h4;clear h4;obtain ⟨⟨rs,bs⟩,k3,k4⟩:=Q.aK k2;clear k2;dsimp only at k4;obtain ⟨eR,k5,k6⟩:=Q.gw k4;clear k4;obtain ⟨dK,k7,k8⟩:=Q.gw k6;clear k6;obtain ⟨⟨rv,out⟩,k9,Cr⟩:=Q.gw k8;clear k8;dsimp only at Cr;obtain ⟨e1,e2,e3,e4,e5,e6,e7⟩:=ahO M (Gr _ k1) k3 k5 k7 rep.1 rep.2.1 rep.2.2;have hEx:∀B i o,gp rs (S.ah ws).E L1 B=some (.box (.e i) o)→i < dK.length:=by
  intro B i o hB;rcases pq hB with ⟨h,_⟩ | ⟨r,o',i',h,_,hi⟩ | ⟨_,_,_,_,_,_,_,h,_⟩
  ·cases h
  ·simp only [bO.box.injEq,aI.e.injEq] at h;obtain ⟨rfl,rfl⟩:=h;rw [e6];have:=(qD rs hi).2;exact (cw.1 this).1
  ·cases h
 have hGe:GI G w (gp rs (S.ah ws).E L1):=by
  intro B c hB;obtain ⟨q1,q2⟩:=hGi B c hB;refine ⟨?_,q2⟩;exact u5 (M.mono.bh B q1).1
 refine (hO k9 hf e1 e2 hGe hEx).mono ?_;rintro v w' ⟨eS,m1,m2,m3⟩;have hG:∀r∈rs,r.iU=false:=fun r hr=>(e4 r hr).2
 rw [Q.run_ite] at Cr;split at Cr
 ·
  rename_i hc;simp only [bK,List.isEmpty_iff] at hc;obtain ⟨⟨zG,hfl⟩,Zi⟩:=hc;obtain rfl:=Q.aZ Cr;subst zG;have p9:∀{B l},L B=some l→gp [] (S.ah ws).E L1 B=none∨gp [] (S.ah ws).E L1 B=some .bh:=by
   intro B l hB;cases hx:gp [] (S.ah ws).E L1 B with
   | none=>exact .inl rfl
   | some l2=>
    right;rcases pq hx with ⟨rfl,_⟩ | ⟨_,_,_,_,_,h⟩ | ⟨_,_,_,_,_,_,_,_,_,h,_⟩
    ·rfl
    ·simp [jl] at h
    ·simp [jl] at h
  have af:∀{B l},L B=some l→B < w.heap.size:=by
   intro B l hB;exact R.fu B l hB
  have eh:∀B l,L B=some l→w'.heap[B]? = w.heap[B]?:=by
   intro B l hB;rcases p9 hB with h | h
   ·exact (m1.none B (af hB) h).2
   ·exact (m1.bh B h).2
  have R':=R.grown eh;have hm:dc w w' L L:=by
   refine ⟨m1.os,m1.tape,m1.output,m1.size,fun B hB=>⟨hB,eh B _ hB⟩,fun B hB hL=>⟨hL,?_⟩,fun _ _ _ h=>h⟩;have h1:=(M.mono.none B hB hL).1;exact (m1.none B hB (by simp [gp,h1])).2
  exact Rel.fZ (ws:=[]) R' hm hd (m:=0) (m3.flat hfl)
 obtain ⟨gs,k11,Cs⟩:=Q.aK Cr;clear Cr;have qi:=Yq k11;have hle:=fun k=>St.wM S ws k
 rw [Q.run_ite] at Cs;split at Cs
 ·
  rename_i Zi;obtain ⟨r',FO,Ct⟩:=Q.gw Cs;clear Cs;obtain ⟨cI,JV,JW⟩:=Q.gw Ct;clear Ct;obtain ⟨JX,JY⟩:=Q.ei JW;obtain rfl:=Q.aZ JY;have dW:cI.length=rs.length:=by rw [Sr JV,Zi]
  have X:=X0 e3 e5 dW JX e4 e7 M.rel.bound;obtain ⟨x1,x2,x3,x4⟩:=X1 (gs:=gs) M.rel Yz e3 ⟨[],by simp⟩ hG (fun r h1 h2=>absurd h1 h2) rfl m1 m2 X
   (fun i=>by rw [qi,bS];cases rs[i]?<;>rfl)
   (fun i r g h => by
     rw [qi, bS] at h
     obtain ⟨r0, h1, h2⟩ := bG h
     simp only [fL] at h2
     obtain ⟨rfl, rfl⟩ := h2
     exact St.wM S _ _) JV
  exact Rel.fZ x1 (M.mono.trans x2) hd (m:=0) (m3.back x3 FO x4)
 ·
  obtain ⟨e,FO,Ct⟩:=Q.aK Cs;clear Cs;rw [uV] at FO;simp only [ai] at FO;subst FO;dsimp only at Ct;obtain ⟨r',JV,JW⟩:=Q.gw Ct;clear Ct;obtain ⟨cI,JX,JY⟩:=Q.gw JW;clear JW;obtain ⟨ZV,k20⟩:=Q.ei JY;clear JY;obtain rfl:=Q.aZ k20;simp only [bK,eU,wL,nA] at ZV;obtain ⟨⟨⟨q1,q2⟩,q3⟩,q4⟩:=ZV;have az:(aI.l d)∉rs:=by simpa using q4
  have dW:cI.length=rs.length+1:=by rw [Sr JX,q1]
  obtain ⟨X,hγ⟩:=aiz e3 e5 dW q2 e4 az e7 M.rel.bound q3 rfl;have gA:gs.length=rs.length:=by rw [qi];simp
  obtain ⟨x1, x2, x3, x4⟩ := X1 (gs := gs ++ [(.l d, S.γ (.r (.l d)) + 1)]) M.rel Yz (by
      rw [HG]
      exact ⟨e3, by simp, fun x hx y hy h => by simp at hy; subst hy; subst h; exact az hx⟩) ⟨[.l d], rfl⟩ (fun r hr => by
        rcases dC.1 hr with h | h
        · exact hG r h
        · simp at h; subst h; rfl) (fun r h1 h2 => by
        rcases dC.1 h1 with h | h
        · exact absurd h h2
        · simp at h; subst h; exact ⟨hγ, fun i e => by cases e⟩) rfl m1 m2 X
   (fun i => by
     by_cases hi : i < rs.length
     · rw [nB (by omega), nB hi, qi, bS]; cases rs[i]? <;> rfl
     · rw [nC (by omega), nC (by omega), gA]
       cases i - rs.length <;> rfl)
   (fun i r g h => by
     by_cases hi : i < rs.length
     · rw [nB (by omega), qi, bS] at h
       obtain ⟨r0, h1, h2⟩ := bG h
       simp only [fL] at h2
       obtain ⟨rfl, rfl⟩ := h2
       exact St.wM S _ _
     · rw [nC (by omega)] at h
       cases hx : i - gs.length with
       | zero =>
         simp [hx] at h
         obtain ⟨rfl, rfl⟩ := h
         exact U2 (hle (.r (.l d))) hγ
       | succ n => simp [hx] at h) JX
  exact Rel.fZ x1 (M.mono.trans x2) hd (m:=0) (m3.back x3 JV x4)
end
end
section
section
variable {nm:FuncId→Option Nat} {N:Nat} {S S0:St} {a:Act} {w:World} {L L0:aw} {P:Program} {ws:List Wr}
def rz (P:Program) (w:World) (tmps:Array Value) (rv:ResultVar) (v:Value):Prop:=
 (match rv with
   | .tmp t => (pure (tmps.getD t undef) : Sem Value)
   | .cell a t => do loadVar t (← asAddr (tmps.getD a undef))).run P w = .ok v w
theorem anL (R:Rel nm N S a w L) {r0:aI} {g c:Nat} {u:Value} {t:TypeId} {n:Nat} {agg:Bool} (ht:r4 P t=some (n,agg)) (hv:aG nm w L S.γ (.h 0) 0 (.ptr r0 g c) u)
 (hG:r0.iU=false) (hg:(S.get (.r r0)).g=g) (BX:c+n≤cj (S.get (.r r0)).v) {cs:List C} (h3:(wc r0 c n).run S=some cs) {x':V} (h4:(lQ agg cs).run S=some x') :
 ∃val,(∃ad,u = .pointer (some ad)∧(loadVar t ad).run P w = .ok val w)∧bD nm w L S.γ (.h 0) x' val:=by
 obtain ⟨hlen,EZ⟩:=Mp n c h3;cases hv with
 | ptr iH gA hp=>
  obtain ⟨B,o',hB,cm⟩:=hp hg.symm;by_cases nN:n=0
  ·
   subst nN;have eF:cs=[]:=pW.1 hlen;subst eF;obtain ⟨hm,B6⟩:=xM (nm:=nm) (w:=w) (L:=L) (γ:=S.γ) (k:=.h 0) (vs:=[]) h4 rfl (fun j c v h=>by simp at h);exact ⟨_,⟨_,cm,Tq ht rfl (fun h=>by have:=B6 h;simp at this) (fun j v h=>by simp at h)⟩,hm⟩
  obtain ⟨B',eY,cur,e,fz,k1,k2,k3,k4⟩:=R.room r0 hG (by have:c+n≤cj (S.E (.r r0)):=BX;omega);obtain rfl:=R.fB B' B r0 eY o' k1 hB;obtain rfl:eY=o':=by rw [k1] at hB;simpa using hB
  have ajg:c+n≤cj (S.E (.r r0)):=BX;let vs:=(List.range n).map fun j=>cur.getD (eY+c+j) undef
  have kQ:∀j v,vs[j]? = some v→j < n∧cur[eY+c+j]? = some v:=by
   intro j v jq;simp only [vs,bS] at jq;have hj:j < n:=by
    rcases yD j n with h | h
    ·exact h
    ·simp [pV,h] at jq
   have af:eY+c+j < cur.size:=by omega
   simp [hj,Array.getD,af] at jq;exact ⟨hj,by simp [af,jq]⟩
  have pC:vs.length=n:=by simp [vs]
  have hm := xM (nm := nm) (w := w) (L := L) (γ := S.γ) (k := .h 0) (vs := vs) h4 (by rw [hlen, pC]) (by
    intro j c1 v1 dF nQ
    obtain ⟨hj, zt⟩ := kQ j v1 nQ
    obtain ⟨y, zK, xw⟩ := EZ j hj
    rw [dF] at xw
    simp only [ai] at xw
    subst xw
    by_cases jg : y = .dead
    · subst jg; exact .dead
    · have oD := R.cell r0 (c + j) y zK jg
      have : ∃ B o cur e fz v, L B = some (.box r0 o) ∧ w.heap[B]? = some (.cells cur e fz) ∧ jA cur.size fz ∧ cur[o + (c + j)]? = some v ∧ aG nm w L S.γ (.b r0 (c + j)) 0 y v := by
        cases r0 with
        | g i => simp [aI.iU] at hG
        | e i => obtain ⟨B, o, cur, e, fz, v, q1, q2, q3, q4, q5, _⟩ := oD; exact ⟨B, o, cur, e, fz, v, q1, q2, q3, q4, q5⟩
        | l i => obtain ⟨B, o, cur, e, fz, v, q1, q2, q3, q4, q5, _⟩ := oD; exact ⟨B, o, cur, e, fz, v, q1, q2, q3, q4, q5⟩
      obtain ⟨B2, o2, iD, e2, ll, v2, a1, a2, a3, a4, a5⟩ := this
      obtain rfl := R.fB B2 B' r0 o2 eY a1 k1
      obtain rfl : o2 = eY := by rw [a1] at k1; simpa using k1
      obtain ⟨rfl, rfl, rfl⟩ : iD = cur ∧ e2 = e ∧ ll = fz := by rw [a2] at k2; simpa using k2
      rw [← pX, zt] at a4
      simp only [ai] at a4
      subst a4
      exact a5.look rfl _ _)
  refine ⟨_,⟨_,cm,Tq ht pC (fun h=>by rw [←hlen];exact hm.2 h) (fun j v h=>?_)⟩,hm.1⟩;rw [qT k2];exact (kQ j v h).2
theorem aoS {r:aI} {n c:Nat} {cs:List C} (h:(wc r c n).run S=some cs):cs.any C.own=false:=by
 obtain ⟨h1,h2⟩:=Mp n c h;rw [List.any_eq_false];intro x hx;obtain ⟨j,hj⟩:=uJ hx;obtain ⟨y,_,h3⟩:=h2 j (by rw [←h1];exact (cw.1 hj).1);rw [hj] at h3;simp only [ai] at h3;rw [h3,Go.ax.C0];simp
theorem anV {agg:Bool} {cs:List C} {x:V} (h:(lQ agg cs).run S=some x) (hc:cs.any C.own=false):x.own=false:=by
 unfold lQ at h;split at h
 ·obtain rfl:=Q.aZ h;exact hc
 ·split at h
  ·obtain rfl:=Q.aZ h;simpa [V.own,V.cells] using hc
  ·cases h
theorem acq (R0:Rel nm N S0 a w L0) (M:cg nm N S0 w L0 ws a w L) (hH:eJ L) {rv:ResultVar} {R:RV} (hc:uY P rv=some R) {r:V×List Wr} (hr:(G0 ws R).run S0=some r) :
  ∃v L',Out nm N S0 w L0 ws r.2 a w L L' (fun _=>True) 0∧mO nm w L0 S0.γ w L' (S0.ah r.2).γ 0 r.1 v∧rz P w a.tmps rv v:=by
 cases rv with
 | tmp t=>
  simp only [uY,ai] at hc;subst hc;simp only [G0] at hr;obtain ⟨L',h1,h2⟩:=wv M R0 (hH.free 0) (x:=.t t) (o:=.tmp t) rfl .t hr;exact ⟨_,L',h1,h2,rfl⟩
 | cell ad t=>
  simp only [uY] at hc;obtain ⟨⟨n,agg⟩,h1,h2⟩:=bind_some hc;cases h2;simp only [G0] at hr;obtain ⟨v,h3,h4⟩:=Q.aK hr;have hv:=rd_val R0 (x:=.tmp ad) .s h3;split at h4
  ·rename_i r0 g c;have h5:=Q.ni h4;obtain ⟨hg,h6⟩:=Q.ei h5;simp only [bK,nA,eU,fA] at hg;obtain ⟨cs,h7,h8⟩:=Q.aK h6;obtain ⟨x',h9,dj⟩:=Q.aK h8;obtain rfl:=Q.aZ dj;obtain ⟨val,⟨ad',e1,e2⟩,rep⟩:=anL R0 h1 hv.cL hg.1.1 hg.1.2 hg.2 h7 h9;refine ⟨val,L,Out.refl M _ 0,mO.Aj M.dh rep (anV h9 (aoS h7)),?_⟩;have OT:a.tmps.getD ad undef = .pointer (some ad'):=e1;simp [rz,OT,asAddr,e2]
  ·cases h4
theorem adw:∀(cs:List C) {ws:List Wr} {L:aw} (M:cg nm N S0 w L0 ws a w L) (j0:Nat) (vs:Nat→Value)
  (hc:∀j c,cs[j]? = some c→iQ nm w L0 S0.γ w L (S0.ah ws).γ 0 (j0+j) c (vs (j0+j))) {r:List C×List Wr} (hr:(He ws cs).run S0=some r),
  ∃L',Out nm N S0 w L0 ws r.2 a w L L' (fun q=>¬ (q.k = .h 0∧j0≤q.j)) 0∧r.1.length=cs.length∧
   ∀j c,r.1[j]? = some c→aG nm w L' (S0.ah r.2).γ (.h 0) (j0+j) c (vs (j0+j))
 | [],ws,L,M,j0,vs,hc,r,hr=>by
  simp only [He] at hr;obtain rfl:=Q.aZ hr;exact ⟨L,Out.refl M _ 0,rfl,fun j c h=>by simp at h⟩
 | c::cs,ws,L,M,j0,vs,hc,r,hr=>by
  simp only [He] at hr;obtain ⟨⟨c1,fe⟩,h1,h2⟩:=Q.aK hr;clear hr;obtain ⟨⟨Bo,fy⟩,h3,h4⟩:=Q.aK h2;clear h2;obtain rfl:=Q.aZ h4;dsimp only at h3;obtain ⟨L1,O1,R1⟩:=TP M (by simpa using hc 0 c rfl) h1;dsimp only at O1 R1
  obtain ⟨L2, O2, hl, R2⟩ := adw cs O1.mid (j0 + 1) vs (fun j c h => by
    have := hc (j + 1) c (by simpa using h)
    have := this.keep O1.keep (fun p => by simp)
    rwa [show j0 + 1 + j = j0 + (j + 1) by omega]) h3
  refine ⟨L2,(O1.weaken ?_).trans (O2.weaken ?_),by simp [hl],?_⟩
  ·intro q hq h;exact hq ⟨h.1,by omega⟩
  ·intro q hq h;exact hq ⟨h.1,by omega⟩
  ·intro j c hj;cases j with
   | zero=>
    simp only [kC,ai] at hj;subst hj;exact R1.keep O2.keep (fun p=>by simp)
   | succ j=>
    have:=R2 j c (by simpa using hj);rwa [show j0+1+j=j0+(j+1) by omega] at this
def D7 (L:aw):Prop:=∀B q o,L B=some (.row q o)→q.k.aT=false→q.k = .h 0
theorem L4 {e8:List Wr} {L':aw} {K:Place→Prop} (hH:eJ L) (O:Out nm N S0 w L0 ws e8 a w L L' K 0):D7 L':=by
 intro B q o hB hq;by_cases hk:q.k = .h 0
 ·exact hk
 ·have:=hH B q o (O.xW B q o hq hk hB);rw [hq] at this;cases this
theorem aoh (hH:eJ L):D7 L:=fun B q o hB hq=>by have:=hH B q o hB;rw [hq] at this;cases this
theorem aoY (R0:Rel nm N S0 a w L0) (hH:eJ L0) {rv:ResultVar} {R:RV} (hc:uY P rv=some R) {r:V×List Wr} (hr:(Tb R).run S0=some r) :
  ∃v L',cg nm N S0 w L0 r.2 a w L'∧D7 L'∧bD nm w L' (S0.ah r.2).γ (.h 0) r.1 v∧rz P w a.tmps rv v:=by
 simp only [Tb] at hr;obtain ⟨⟨x,fe⟩,h1,h2⟩:=Q.aK hr;clear hr;obtain ⟨v,L1,O1,V1,hv⟩:=acq R0 (cg.init R0) hH hc h1;dsimp only at h2 O1 V1;split at h2
 ·rename_i c;obtain ⟨⟨c',fy⟩,h3,h4⟩:=Q.aK h2;clear h2;obtain rfl:=Q.aZ h4;obtain ⟨L2,O2,R2⟩:=TP (m:=0) (j:=0) (v:=v) O1.mid V1 h3;dsimp only at O2 R2 ⊢;exact ⟨v,L2,O2.mid,L4 hH ((O1.weaken (K':=fun q=>¬ (q.k = .h 0∧q.j=0)) (fun _ _=>trivial)).trans O2),.one R2,hv⟩
 ·rename_i cs;obtain ⟨⟨ey,fy⟩,h3,h4⟩:=Q.aK h2;clear h2;obtain rfl:=Q.aZ h4;obtain ⟨us,rfl,hl,hV⟩:=V1
  obtain ⟨L2, O2, l2, R2⟩ := adw cs O1.mid 0 (fun j => us.getD j undef) (fun j c hc => by
    have hj : j < us.size := by rw [← hl]; exact (cw.1 hc).1
    have := hV j c _ hc (og hj)
    simpa [Array.getD, hj] using this) h3
  dsimp only at O2 R2 l2 ⊢;refine ⟨_,L2,O2.mid,L4 hH ((O1.weaken (K':=fun q=>¬ (q.k = .h 0∧0≤q.j)) (fun _ _=>trivial)).trans O2),.agg (by simp [l2,hl]) (fun j c u hj hu=>?_),hv⟩;have:=R2 j c hj;rw [db] at this;simp only [iw,hu,Option.getD_some] at this;exact this
 ·cases h2
theorem acz (R0:Rel nm N S0 a w L0):∀(j9:List ResultVar) {Rs:List RV} {ws:List Wr} {L:aw} (M:cg nm N S0 w L0 ws a w L) (hH:eJ L) (hc:j9.mapM (uY P)=some Rs) {rr:List V×List Wr} (hr:(wi ws Rs).run S0=some rr),
  ∃(vs:List Value) (L':aw),cg nm N S0 w L0 rr.2 a w L'∧eJ L'∧Step w w L L' (S0.ah ws).γ (S0.ah rr.2).γ∧rr.1.length=vs.length∧iB rr.1=true∧(∀(j:Nat) x v,rr.1[j]? = some x→vs[j]? = some v→bD nm w L' (S0.ah rr.2).γ (.h 0) x v)∧
   vs.length=j9.length∧∀(j:Nat) rv v,j9[j]? = some rv→vs[j]? = some v→rz P w a.tmps rv v
 | [],Rs,ws,L,M,hH,hc,rr,hr=>by
  have:Rs=[]:=by simpa using hc.symm
  subst this;simp only [wi] at hr;obtain rfl:=Q.aZ hr;exact ⟨[],L,M,hH,Step.same w L (fun _=>bT _),rfl,rfl,fun j x p h=>by simp at h,rfl,fun j x p h=>by simp at h⟩
 | rv::j9,Rs,ws,L,M,hH,hc,rr,hr=>by
  rw [mL] at hc;obtain ⟨R,dF,gy⟩:=bind_some hc;obtain ⟨Rt,xg,EX⟩:=bind_some gy;cases EX;simp only [wi] at hr;obtain ⟨⟨x,fe⟩,h1,h2⟩:=Q.aK hr;clear hr;obtain ⟨v,L1,O1,V1,hv⟩:=acq R0 M hH dF h1;dsimp only at h2 O1 V1;have fin:∀{fy:List Wr} {L2:aw} {x':V} {rest:List V×List Wr},cg nm N S0 w L0 fy a w L2→eJ L2→Step w w L L2 (S0.ah ws).γ (S0.ah fy).γ→x'.clean=true→bD nm w L2 (S0.ah fy).γ (.h 0) x' v→(wi fy Rt).run S0=some rest→rr=(x'::rest.1,rest.2)→
    ∃(vs:List Value) (L':aw),cg nm N S0 w L0 rr.2 a w L'∧eJ L'∧Step w w L L' (S0.ah ws).γ (S0.ah rr.2).γ∧rr.1.length=vs.length∧iB rr.1=true∧(∀(j:Nat) x v,rr.1[j]? = some x→vs[j]? = some v→bD nm w L' (S0.ah rr.2).γ (.h 0) x v)∧
     vs.length=(rv::j9).length∧∀(j:Nat) Az v,(rv::j9)[j]? = some Az→vs[j]? = some v→rz P w a.tmps Az v:=by
   intro fy L2 x' rest M2 PA Hd aS rep h5 dM;obtain ⟨vs,L3,M3,PB,np,Js,xg,R3,Jt,hv4⟩:=acz R0 j9 M2 PA xg h5;subst dM;refine ⟨v::vs,L3,M3,PB,Hd.trans np,by simp [Js],by simp [iB,aS,xg],?_,by simp [Jt],?_⟩
   ·intro j x v' hj gI;cases j with
    | zero=>
     simp only [kC,ai] at hj gI;subst hj;subst gI;exact rep.rG np aS _
    | succ j=>exact R3 j x v' (by simpa using hj) (by simpa using gI)
   ·intro j Az v' hj gI;cases j with
    | zero=>
     simp only [kC,ai] at hj gI;subst hj;subst gI;exact hv
    | succ j=>exact hv4 j Az v' (by simpa using hj) (by simpa using gI)
  split at h2
  ·rename_i c;obtain ⟨⟨c',fy⟩,h3,h4⟩:=Q.aK h2;clear h2;obtain ⟨⟨vs,wF⟩,h5,h6⟩:=Q.aK h4;clear h4;have dM:=Q.aZ h6;obtain ⟨L2,O2,R2⟩:=uD (m:=0) (j:=0) (c:=c) (v:=v) O1.mid V1 h3;dsimp only at O2 R2 h5;have rX:=(O1.weaken (K':=fun q=>¬ (q.k = .h 0∧q.j=0)) (fun _ _=>trivial)).trans O2;obtain ⟨M3,np⟩:=O2.mid.I4;obtain ⟨R3,aS⟩:=aG.Mb (k':=.h 0) (j':=0) np R2 (TQ h3);exact fin M3 (LG O2.mid (L4 hH rX)) (rX.dh.trans np) (x':=.one c'.plain) aS (.one R3) h5 dM
  ·rename_i cs;obtain ⟨⟨ey,fy⟩,h3,h4⟩:=Q.aK h2;clear h2;obtain ⟨⟨vs,wF⟩,h5,h6⟩:=Q.aK h4;clear h4;have dM:=Q.aZ h6;obtain ⟨us,nP,hl,hV⟩:=V1
   obtain ⟨L2, O2, l2, R2⟩ := MG (m := 0) cs O1.mid 0 (fun j => us.getD j undef) (fun j c hc => by
     have hj : j < us.size := by rw [← hl]; exact (cw.1 hc).1
     have := hV j c _ hc (og hj)
     simpa [Array.getD, hj] using this) h3
   dsimp only at O2 R2 h5 l2;have rX:=(O1.weaken (K':=fun q=>¬ (q.k = .h 0∧0≤q.j)) (fun _ _=>trivial)).trans O2;obtain ⟨M3,np⟩:=O2.mid.I4;have each:∀(j:Nat) c,(ey.map C.plain)[j]? = some c→c.clean=true∧∀u,us[j]? = some u→aG nm w (kr L2) (S0.ah fy).γ (.h 0) j c u:=by
    intro j c hc;rw [bS] at hc;cases hj:ey[j]? with
    | none=>simp [hj] at hc
    | some c0=>
     simp only [hj,fh,ai] at hc;subst hc;have:=R2 j c0 hj;rw [db] at this;have hp:=aG.Mb (k':=.h 0) (j':=j) np this (TJ _ h3 c0 (ft hj));refine ⟨hp.2,fun u hu=>?_⟩;have h1:=hp.1;simp only [iw,hu,Option.getD_some] at h1;exact h1
   refine fin M3 (LG O2.mid (L4 hH rX)) (rX.dh.trans np) (x':=.agg (ey.map C.plain)) (W6 (fun j c hc=>(each j c hc).1)) ?_ h5 dM;rw [nP];exact .agg (by simp [l2,hl]) (fun j c u hc hu=>(each j c hc).2 u hu)
  ·cases h2
def Hu (vs:List Value):Value:=match vs with | [v]=>v | vs=>.tuple vs.toArray
theorem aoX (R0:Rel nm N S0 a w L0) (hH:eJ L0) {fg:Bool} {j9:List ResultVar} {Rs:List RV} (hc:j9.mapM (uY P)=some Rs) {r:V×List Wr} (hr:(Ta fg Rs).run S0=some r) :
  ∃(vs:List Value) (L':aw),cg nm N S0 w L0 r.2 a w L'∧D7 L'∧bD nm w L' (S0.ah r.2).γ (.h 0) r.1 (Hu vs)∧vs.length=j9.length∧∀(j:Nat) rv v,j9[j]? = some rv→vs[j]? = some v→rz P w a.tmps rv v:=by
 have hl:Rs.length=j9.length:=by
  clear hr;induction j9 generalizing Rs with
  | nil=>
   have:Rs=[]:=by simpa using hc.symm
   subst this;rfl
  | cons x t ih=>
   rw [mL] at hc;obtain ⟨R,dF,gy⟩:=bind_some hc;obtain ⟨Rt,xg,EX⟩:=bind_some gy;cases EX;simp [ih xg]
 have many:∀{x:List V×List Wr},(wi [] Rs).run S0=some x→∃(vs:List Value) (L':aw),cg nm N S0 w L0 x.2 a w L'∧D7 L'∧x.1.length=vs.length∧iB x.1=true∧(∀(j:Nat) y v,x.1[j]? = some y→vs[j]? = some v→bD nm w L' (S0.ah x.2).γ (.h 0) y v)∧vs.length=j9.length∧∀(j:Nat) rv v,j9[j]? = some rv→vs[j]? = some v→rz P w a.tmps rv v:=by
  intro x hx;obtain ⟨vs,L',h1,h2,_,h3,h4,h5,h6,h7⟩:=acz R0 j9 (cg.init R0) hH hc hx;exact ⟨vs,L',h1,aoh h2,h3,h4,h5,h6,h7⟩
 unfold Ta at hr;split at hr
 ·rename_i R;have jH:j9.length=1:=by rw [←hl];rfl
  obtain ⟨rv,rfl⟩:=Nc.1 jH;split at hr
  ·obtain ⟨⟨vs,ws⟩,h1,h2⟩:=Q.aK hr;clear hr;obtain ⟨us,L',k1,k2,k3,k4,k5,k6,k7⟩:=many h1;dsimp only at h2 k1 k3 k4 k5;split at h2
   ·rename_i v;obtain rfl:=Q.aZ h2;obtain ⟨u,rfl⟩:=Nc.1 k3.symm;exact ⟨[u],L',k1,k2,k5 0 v u rfl rfl,k6,k7⟩
   ·cases h2
  ·have dF:uY P rv=some R:=by
    rw [mL] at hc;obtain ⟨R',dF,gy⟩:=bind_some hc;obtain ⟨Rt,xg,EX⟩:=bind_some gy;cases EX;exact dF
   obtain ⟨v,L',k1,k2,k3,k4⟩:=aoY R0 hH dF hr;refine ⟨[v],L',k1,k2,k3,rfl,?_⟩;intro j Az v' h1 h2;cases j with
   | zero=>simp at h1 h2;subst h1;subst h2;exact k4
   | succ j=>simp at h1
 ·rename_i az;obtain ⟨⟨vs,ws⟩,h1,h2⟩:=Q.aK hr;clear hr;obtain rfl:=Q.aZ h2;obtain ⟨us,L',k1,k2,k3,k4,k5,k6,k7⟩:=many h1;dsimp only at k1 k3 k4 k5 ⊢;refine ⟨us,L',k1,k2,?_,k6,k7⟩;have:Hu us = .tuple us.toArray:=by
   match us,k6 with
   | [],_=>rfl
   | [u],h=>exact absurd (by rw [←h] at hl;exact Nc.1 hl) (by rintro ⟨R,rfl⟩;exact az R rfl)
   | _::_::_,_=>rfl
  rw [this];exact .aq (by simpa using k3) k4 (fun i x u h1 h2=>k5 i x u h1 (by simpa using h2))
theorem apn {fn:Func} {vs:List Value} (hl:vs.length=fn.results.toList.length) (h:∀(j:Nat) rv v,fn.results.toList[j]? = some rv→vs[j]? = some v→rz P w a.tmps rv v) :
  (results fn a.tmps).run P w = .ok (Hu vs) w:=by
 have hm:∀(l:List ResultVar) (us:List Value),us.length=l.length→(∀(j:Nat) rv v,l[j]? = some rv→us[j]? = some v→rz P w a.tmps rv v)→
   (l.mapM fun (rv:ResultVar)=>(match rv with | .tmp t=>(pure (a.tmps.getD t undef):Sem Value) | .cell ad t=>do loadVar t (←asAddr (a.tmps.getD ad undef)))).run P w=Result.ok us w:=by
  intro l;induction l with
  | nil=>
   intro us h1 _;have:us=[]:=by simpa using h1
   subst this;rfl
  | cons rv l ih=>
   intro us h1 h2;cases us with
   | nil=>simp at h1
   | cons u us=>
    rw [mL,Sem.run_bind];have e1:=h2 0 rv u rfl rfl;unfold rz at e1;rw [e1,Result.andThen_ok,Sem.run_bind,ih us (by simpa using h1) (fun j Az v' g1 g2=>h2 (j+1) Az v' (by simpa using g1) (by simpa using g2)),Result.andThen_ok];rfl
 have e:=hm fn.results.toList vs hl h;unfold results;rw [aeF];rw [Sem.run_bind,map_eq_pure_bind,Sem.run_bind];refine (fX (fun r=>Result.andThen (Result.andThen r _) _) e).trans ?_;simp only [Result.andThen_ok];match vs with
 | []=>rfl
 | [u]=>rfl
 | _::_::_=>rfl
end
end
section
section
variable {nm:FuncId→Option Nat} {N:Nat} {S S0:St} {a:Act} {w:World} {L L0:aw} {P:Program} {ws:List Wr} {γ:Key→Nat} {rs:List aI} {E:Key→V}
theorem anF (R:Rel nm N S a w L) {bs dK:List (List C)} (jf:rs.Nodup) (qY:bs.length=rs.length)
  (hb:∀(k:Nat) r cs,rs[k]? = some r→bs[k]? = some cs→r.iU=false∧cs.length=cj (S.E (.r r))∧(∀(j:Nat) x,cs[j]? = some x→S.E (.b r j) = .one x)∧∀y∈kW cs,y.2=S.γ (.r y.1))
  (qd:pF rs bs=some dK):Rel nm 0 (dk 0 dK) ⟨#[],[]⟩ w (gp rs S.E L):=by
 have box:∀j,j < dK.length→∃r cs,rs[j]? = some r∧bs[j]? = some cs∧lO rs cs=some (dK.getD j [])∧(dK.getD j []).length=cj (S.E (.r r))∧r.iU=false∧jl rs r 0=some j∧
   (∀(i:Nat) x,cs[i]? = some x→S.E (.b r i) = .one x)∧∀x∈kW cs,x.2=S.γ (.r x.1):=by
  intro j hj;have tX:dK[j]? = some (dK.getD j []):=getD_some hj;obtain ⟨cs,h1,h2⟩:=Q0 j qd tX;have Qo:j < rs.length:=by rw [←qY,←Q5 qd];exact hj
  have hr:rs[j]? = some rs[j]:=kf Qo;obtain ⟨c0,c1,c2,c3⟩:=hb j rs[j] cs hr h1;refine ⟨rs[j],cs,hr,h1,h2,by rw [xA h2,c1],c0,?_,c2,c3⟩;have:=yh rs (i:=0) jf hr;rwa [db] at this
 refine ⟨rfl,rfl,?_,?_,?_,?_,?_,?_,?_,?_⟩
 ·intro i;rw [pj];exact .one .dead
 ·intro r c x hx gg;have fH:(dk 0 dK:St).E (.b r c) = .one x:=hx;rw [Ii];rw [pj] at fH;cases r with
  | g i=>simp only [V.dead,V.one.injEq] at fH;exact absurd fH.symm gg
  | l i=>simp only [V.dead,V.one.injEq] at fH;exact absurd fH.symm gg
  | e j=>
   simp only at fH;split at fH
   ·rename_i Fb;obtain ⟨r0,cs,h1,h2,h3,h4,h5,h6,h7,h8⟩:=box j Fb.1;simp only [V.one.injEq] at fH;obtain ⟨y,k1,k2⟩:=xy c h3 (show (dK.getD j [])[c]? = some x by rw [←fH];exact getD_some Fb.2);have FI:=h7 c y k1;have jg:y≠.dead:=by
     rintro rfl;simp only [C.dY,ai] at k2;exact gg k2.symm
    have oD:=R.cell r0 c y FI jg;have ex:∃B o cur e fz v,L B=some (.box r0 o)∧w.heap[B]? = some (.cells cur e fz)∧jA cur.size fz∧cur[o+c]? = some v∧aG nm w L S.γ (.b r0 c) 0 y v∧lK y B o c e cur.size v:=by
     cases r0 with
     | g i=>simp [aI.iU] at h5
     | e i=>exact oD
     | l i=>exact oD
    obtain ⟨B,o,cur,e,fz,v,m1,m2,m3,m4,m5,m6⟩:=ex;exact ⟨B,o,cur,e,fz,v,y9 m1 h6,m2,m3,m4,m5.XG k2 (fun z hz=>h8 z (xY k1 hz)) FI h6,ZI k2 m6⟩
   ·simp only [V.dead,V.one.injEq] at fH;exact absurd fH.symm gg
 ·intro r c;rw [pj];cases r with
  | e j=>
   simp only;split
   ·exact ⟨(dK.getD j []).getD c .dead,rfl⟩
   ·exact ⟨.dead,rfl⟩
  | g i=>exact ⟨.dead,rfl⟩
  | l i=>exact ⟨.dead,rfl⟩
 ·intro r c hc;rw [pj] at hc ⊢;cases r with
  | e j=>
   simp only at hc ⊢;by_cases hj:j < dK.length
   ·rw [aJ hj,qQ] at hc;rw [aB (fun h=>by omega)];rfl
   ·rw [aB (fun h=>hj h.1)];rfl
  | g i=>rfl
  | l i=>rfl
 ·intro r hg hr;rw [pj] at hr ⊢;cases r with
  | e j=>
   simp only at hr ⊢;by_cases hj:j < dK.length
   ·rw [aJ hj,qQ] at hr ⊢;obtain ⟨r0,cs,h1,h2,h3,h4,h5,h6,h7,h8⟩:=box j hj;rw [h4] at hr ⊢;obtain ⟨B,o,cur,e,fz,m1,m2,m3,m4⟩:=R.room r0 h5 hr;exact ⟨B,o,cur,e,fz,y9 m1 h6,m2,m3,m4⟩
   ·rw [aB hj] at hr;simp [V.dead,cj] at hr
  | g i=>simp [aI.iU] at hg
  | l i=>simp [V.dead,cj] at hr
 ·intro B l hB;rcases pq hB with ⟨_,h⟩ | ⟨_,_,_,_,h,_⟩ | ⟨_,_,_,_,_,_,_,_,h,_⟩<;>exact R.fu B _ h
 ·intro B B' pl o o' h1 h2;rcases pq h1 with ⟨h,_⟩ | ⟨_,_,_,h,_⟩ | ⟨r,c,j,p,o1,i,x,h,k1,k2,_⟩
  ·cases h
  ·cases h
  rcases pq h2 with ⟨h',_⟩ | ⟨_,_,_,h',_⟩ | ⟨r',c',j',p',mZ,i',x',h',zS,zT,_⟩
  ·cases h'
  ·cases h'
  simp only [bO.row.injEq] at h h';obtain ⟨rfl,rfl⟩:=h;obtain ⟨h',rfl⟩:=h';simp only [Place.mk.injEq,Key.b.injEq,aI.e.injEq] at h';obtain ⟨⟨rfl,rfl⟩,rfl,rfl⟩:=h';have e1:=(qD rs k2).2;have e2:=(qD rs zT).2;rw [e1] at e2;simp only [ai] at e2;subst e2;exact R.eN B B' _ _ _ k1 zS
 ·intro B B' r o o' h1 h2;rcases pq h1 with ⟨h,_⟩ | ⟨r1,o1,i,h,k1,k2⟩ | ⟨_,_,_,_,_,_,_,h,_⟩
  ·cases h
  ·rcases pq h2 with ⟨h',_⟩ | ⟨GV,mZ,i',h',zS,zT⟩ | ⟨_,_,_,_,_,_,_,h',_⟩
   ·cases h'
   ·simp only [bO.box.injEq] at h h';obtain ⟨rfl,rfl⟩:=h;obtain ⟨h',rfl⟩:=h';simp only [aI.e.injEq] at h';subst h';have e1:=(qD rs k2).2;have e2:=(qD rs zT).2;rw [e1] at e2;simp only [ai] at e2;subst e2;exact R.fB B B' _ _ _ k1 zS
   ·cases h'
  ·cases h
end
end
section
def oL (rs:List aI) (E:Key→V) (L:aw):aw:=fun B=>
 match L B with
 | some (.row ⟨.h 0,j,p⟩ o)=>some (.row ⟨.h 0,j,p⟩ o)
 | _=>gp rs E L B
section
variable {nm:FuncId→Option Nat} {N:Nat} {S S0:St} {a:Act} {w:World} {L L0 L':aw} {P:Program} {ws:List Wr} {γ:Key→Nat} {rs:List aI} {E:Key→V}
theorem sP {B:Nat} {l:bO} (h:gp rs E L B=some l):oL rs E L B=some l:=by
 unfold oL;split
 ·rename_i j p o hL;simp [gp,hL] at h
 ·exact h
theorem anD {B j o:Nat} {p:List (Nat×Nat)} (h:L B=some (.row ⟨.h 0,j,p⟩ o)):oL rs E L B=some (.row ⟨.h 0,j,p⟩ o):=by
 unfold oL;simp [h]
theorem CZ {B:Nat} {l:bO} (h:oL rs E L B=some l):gp rs E L B=some l∨∃j p o,l = .row ⟨.h 0,j,p⟩ o∧L B=some l:=by
 unfold oL at h;split at h
 ·rename_i j p o hL;simp only [ai] at h;subst h;exact .inr ⟨j,p,o,rfl,hL⟩
 ·exact .inl h
theorem aaF:Step w w (gp rs E L) (oL rs E L) (fun _=>0) (fun _=>0):=
 ⟨fun B hB=>⟨sP hB,rfl⟩,fun _=>bT _,fun B q o _ _ hB=>⟨sP hB,fun cur e fz h=>⟨cur,h,rfl⟩⟩,fun _ _ _ _ _ _ _=>rfl,fun B r o _ hB=>sP hB⟩
theorem anG (R:Rel nm 0 S ⟨#[],[]⟩ w (gp rs E L)) (hS:S.γ=fun _=>0) (q6:lZ L) (E3:rV w L):Rel nm 0 S ⟨#[],[]⟩ w (oL rs E L):=by
 have bp:Step w w (gp rs E L) (oL rs E L) S.γ S.γ:=by rw [hS];exact aaF
 have noh:∀{B q o},gp rs E L B=some (.row q o)→q.k.aT=true:=by
  intro B q o hB;rcases pq hB with ⟨h,_⟩ | ⟨_,_,_,h,_⟩ | ⟨_,_,_,_,_,_,_,h,_⟩
  ·cases h
  ·cases h
  ·simp only [bO.row.injEq] at h;rw [h.1];rfl
 refine ⟨R.size,R.defers,?_,?_,R.kg,R.bound,?_,?_,?_,?_⟩
 ·intro i;exact (R.slot i).step bp (fun B q o hq hB=>by rw [←hq,Place.l9];exact ⟨sP hB,rfl⟩)
 ·intro r c x hx gg;exact (R.cell r c x hx gg).step bp (fun B q o _ hB=>⟨sP hB,rfl⟩) (fun B o hB=>⟨sP hB,fun cur e fz hc=>⟨cur,hc,rfl,rfl⟩⟩)
 ·intro r hg hr;obtain ⟨B,o,cur,e,fz,h1,h2,h3,h4⟩:=R.room r hg hr;exact ⟨B,o,cur,e,fz,sP h1,h2,h3,h4⟩
 ·intro B l hB;rcases CZ hB with h | ⟨_,_,_,_,h⟩
  ·exact R.fu B l h
  ·exact E3 B l h
 ·intro B B' pl o o' h1 h2;rcases CZ h1 with g1 | ⟨j,p,o1,e1,g1⟩
  ·rcases CZ h2 with g2 | ⟨j',p',mZ,e2,g2⟩
   ·exact R.eN B B' pl o o' g1 g2
   ·have:=noh g1;simp only [bO.row.injEq] at e2;rw [e2.1] at this;simp [Key.aT] at this
  ·rcases CZ h2 with g2 | ⟨j',p',mZ,e2,g2⟩
   ·have:=noh g2;simp only [bO.row.injEq] at e1;rw [e1.1] at this;simp [Key.aT] at this
   ·exact q6 B B' pl o o' g1 g2
 ·intro B B' r o o' h1 h2;rcases CZ h1 with g1 | ⟨_,_,_,e1,_⟩
  ·rcases CZ h2 with g2 | ⟨_,_,_,e2,_⟩
   ·exact R.fB B B' r o o' g1 g2
   ·cases e2
  ·cases e1
theorem aG.Lx {j:Nat} {c:C} {v:Value} (h:aG nm w L γ (.h 0) j c v) {c':C} (hi:c.dY rs=some c') (hl:∀x∈c.vX,x.2=γ (.r x.1)):aG nm w (oL rs E L) (fun _=>0) (.h 0) j c' v:=by
 have cl:c.clean=true→aG nm w (oL rs E L) (fun _=>0) (.h 0) j c' v:=by
  intro hc;refine (h.enter (rs:=rs) (E:=E) hi hl hc (.h 0) j).step aaF (fun B q o h1 h2 hB=>?_);rw [←h1,←h2,Place.l9];exact ⟨sP hB,rfl⟩
 cases c with
 | d x=>
  simp only [C.dY,ai] at hi;subst hi;cases h with
  | d h=>
   refine .d (bt.move id (fun q=>q.k = .h 0) (fun _ _ _ h=>h) (fun _ _ _ _=>rfl) (fun B hB=>⟨sP (u5 hB),rfl⟩) (fun B q o hq hB=>⟨?_,rfl⟩) h rfl);obtain ⟨k,j,p⟩:=q;simp only at hq;subst hq;exact anD hB
 | c6=>simp [C.dY] at hi
 | mp=>simp [C.dY] at hi
 | bu t=>exact absurd rfl (h.LC t)
 | _=>exact cl (h.uX rfl)
theorem aaG:∀{l l':List V} (j:Nat) {c':V},sQ rs l=some l'→l'[j]? = some c'→∃c,l[j]? = some c∧c.leave rs=some c'
 | [],l',j,c',h,hj=>by simp only [sQ,ai] at h;subst h;simp at hj
 | c::t,l',j,c',h,hj=>by
  simp only [sQ] at h;obtain ⟨c1,h1,h2⟩:=ff.1 h;obtain ⟨t1,h3,rfl⟩:=bG h2;cases j with
  | zero=>simp at hj;subst hj;exact ⟨c,rfl,h1⟩
  | succ j=>obtain ⟨c2,g1,g2⟩:=aaG j h3 (by simpa using hj);exact ⟨c2,by simpa using g1,g2⟩
theorem aaH:∀{l l':List V},sQ rs l=some l'→l'.length=l.length
 | [],l',h=>by simp only [sQ,ai] at h;subst h;rfl
 | c::t,l',h=>by
  simp only [sQ] at h;obtain ⟨c1,h1,h2⟩:=ff.1 h;obtain ⟨t1,h3,rfl⟩:=bG h2;simp [aaH h3]
mutual
theorem anE:∀{c c':V},c.clean=true→c.leave rs=some c'→c'.clean=true
 | .one c,c',h,hi=>by simp only [V.leave] at hi;obtain ⟨x,h1,rfl⟩:=bG hi;exact JP (c:=c) h h1
 | .agg cs,c',h,hi=>by simp only [V.leave] at hi;obtain ⟨x,h1,rfl⟩:=bG hi;exact JQ (l:=cs) h h1
 | .aq vs,c',h,hi=>by simp only [V.leave] at hi;obtain ⟨x,h1,rfl⟩:=bG hi;exact RD (l:=vs) h h1
theorem RD:∀{l l':List V},iB l=true→sQ rs l=some l'→iB l'=true
 | [],l',h,hi=>by simp only [sQ,ai] at hi;subst hi;rfl
 | c::t,l',h,hi=>by
  simp only [sQ] at hi;obtain ⟨c1,h1,h2⟩:=ff.1 hi;obtain ⟨t1,h3,rfl⟩:=bG h2;simp only [iB,bK] at h ⊢;exact ⟨anE h.1 h1,RD h.2 h3⟩
end
theorem ab9:∀{l:List V} {i:Nat} {x:V} {y:aI×Nat},l[i]? = some x→y∈x.Ar→y∈GQ l
 | [],_,_,_,h,_=>by simp at h
 | x::t,0,c,y,h,hy=>by simp at h;subst h;simp [GQ,hy]
 | x::t,i+1,c,y,h,hy=>by simp only [GQ,dC];exact .inr (ab9 (by simpa using h) hy)
theorem ab8:∀{l:List (List C)} {i:Nat} {x:List C} {y:aI×Nat},l[i]? = some x→y∈kW x→y∈Aq l
 | [],_,_,_,h,_=>by simp at h
 | x::t,0,c,y,h,hy=>by simp at h;subst h;simp [Aq,hy]
 | x::t,i+1,c,y,h,hy=>by simp only [Aq,dC];exact .inr (ab8 (by simpa using h) hy)
theorem bD.Lx {x:V} {v:Value} (h:bD nm w L γ (.h 0) x v):∀{x':V},x.leave rs=some x'→(∀y∈x.Ar,y.2=γ (.r y.1))→bD nm w (oL rs E L) (fun _=>0) (.h 0) x' v:=by
 induction h with
 | one h=>
  intro x' hi hl;simp only [V.leave] at hi;obtain ⟨c',h1,rfl⟩:=bG hi;exact .one (h.Lx h1 hl)
 | @agg cs vs hlen h=>
  intro x' hi hl;simp only [V.leave] at hi;obtain ⟨ey,h1,rfl⟩:=bG hi;refine .agg (by rw [xA h1];exact hlen) (fun j c u hj hu=>?_);obtain ⟨c0,g1,g2⟩:=xy j h1 hj;exact (h j c0 u g1 hu).Lx g2 (fun y hy=>hl y (xY g1 hy))
 | @aq vs us hlen aS h ih=>
  intro x' hi hl;simp only [V.leave] at hi;obtain ⟨eR,h1,rfl⟩:=bG hi;refine .aq (by rw [aaH h1];exact hlen) (RD aS h1) (fun i x u hj hu=>?_);obtain ⟨c0,g1,g2⟩:=aaG i h1 hj;exact ih i c0 u g1 hu g2 (fun y hy=>hl y (ab9 g1 hy))
theorem By:∀(n i k:Nat),(ox i n)[k]? = if k < n then some (aI.e (i+k)) else none
 | 0,i,k=>by simp [ox]
 | n+1,i,0=>by simp [ox]
 | n+1,i,k+1=>by
  simp only [ox,yx];rw [By n (i+1) k];simp only [Nat.add_lt_add_iff_right,show i+1+k=i+(k+1) by omega]
theorem za:∀(n i:Nat),(ox i n).length=n
 | 0,i=>rfl
 | n+1,i=>by simp [ox,za n (i+1)]
theorem X2 {n i:Nat} {r:aI} (h:r∈ox i n):∃k,r = .e k∧i≤k:=by
 obtain ⟨k,hk⟩:=uJ h;rw [By] at hk;split at hk
 ·simp only [ai] at hk;exact ⟨i+k,hk.symm,by omega⟩
 ·cases hk
theorem IQ:∀(n i:Nat),(ox i n).Nodup
 | 0,i=>List.nodup_nil
 | n+1,i=>by
  simp only [ox,Ng];refine ⟨fun h=>?_,IQ n (i+1)⟩;obtain ⟨k,h1,h2⟩:=X2 h;simp only [aI.e.injEq] at h1;omega
theorem abA:∀{bs:List (List C)} {i:Nat} {out:List (List C)},(GM ws i bs).run S0=some out→out.length=bs.length∧
  ∀(k:Nat) cs,out[k]? = some cs→cs.length=cj ((S0.ah ws).E (.r (.e (i+k))))∧∀(j:Nat) x,cs[j]? = some x→(S0.ah ws).E (.b (.e (i+k)) j) = .one x
 | [],i,out,h=>by
  simp only [GM] at h;obtain rfl:=Q.aZ h;exact ⟨rfl,fun k cs h=>by simp at h⟩
 | b::bs,i,out,h=>by
  simp only [GM] at h;obtain ⟨e,h1,h2⟩:=Q.aK h;clear h;rw [uV] at h1;simp only [ai] at h1;subst h1;obtain ⟨h3,h4⟩:=Q.ei h2;clear h2;obtain ⟨cs,h5,h6⟩:=Q.aK h4;clear h4;obtain ⟨Db,h7,h8⟩:=Q.aK h6;clear h6;obtain rfl:=Q.aZ h8;obtain ⟨g1,g2⟩:=Ml _ _ h5;obtain ⟨g3,g4⟩:=abA h7;refine ⟨by simp [g3],fun k ey hk=>?_⟩;cases k with
  | zero=>
   simp only [kC,ai] at hk;subst hk;simp only [eU] at h3;refine ⟨by rw [g1];exact h3.symm,fun j x hj=>?_⟩;have:=g2 j x hj;rwa [db] at this
  | succ k=>
   have:=g4 k ey (by simpa using hk);rwa [show i+1+k=i+(k+1) by omega] at this
theorem RY:∀{l:List (aI×Nat)} {r:aI},sV l=some r→∃i,r = .l i
 | [],r,h=>by simp [sV] at h
 | (.l i,g)::t,r,h=>by simp only [sV,ai] at h;exact ⟨i,h.symm⟩
 | (.e i,g)::t,r,h=>by simp only [sV] at h;exact RY h
 | (.g i,g)::t,r,h=>by simp only [sV] at h;exact RY h
structure Nw (n:Nat) (L L':aw):Prop where
 bh:∀B,L B=some .bh→L' B=some .bh
 none:∀B,L B=none→L' B=none
 Bq:∀B i o,i < n→L B=some (.box (.e i) o)→L' B=some (.box (.e i) o)
theorem anC {n:Nat} (zG:∀i,i < n→jl rs (.e i) 0=some i):Nw n L (oL rs E L):=by
 refine ⟨fun B hB=>sP (u5 hB),fun B hB=>?_,fun B i o hi hB=>sP (y9 hB (zG i hi))⟩;unfold oL;rw [hB];simp [gp,hB]
theorem ahW (R0:Rel nm N S0 a w L0) (hH:eJ L0) {fn:lj} {bx:List (List C)} {j9:List ResultVar} (hc:j9.mapM (uY P)=some fn.results) {r:V×List (List C)} (hr:(u9 fn bx).run S0=some r) :
  ∃(vs:List Value) (L':aw),vs.length=j9.length∧(∀(j:Nat) rv v,j9[j]? = some rv→vs[j]? = some v→rz P w a.tmps rv v)∧
   (∃L1,dc w w L0 L1∧Nw bx.length L1 L')∧Rel nm 0 (dk 0 r.2) ⟨#[],[]⟩ w L'∧bD nm w L' (fun _=>0) (.h 0) r.1 (Hu vs):=by
 simp only [u9] at hr;obtain ⟨⟨x,ws⟩,h1,h2⟩:=Q.aK hr;clear hr;obtain ⟨vs,L1,M,hO,rep,hl,hv⟩:=aoX R0 hH hc h1;dsimp only at h2 M rep;obtain ⟨out,h3,h4⟩:=Q.aK h2;clear h2;obtain ⟨o1,o2⟩:=abA h3;simp only [db] at o2;have fin:∀{rs:List aI} {bs dK:List (List C)} {x':V},rs.Nodup→bs.length=rs.length→(∀i,i < bx.length→jl rs (.e i) 0=some i)→
   (∀(k:Nat) r cs,rs[k]? = some r→bs[k]? = some cs→r.iU=false∧cs.length=cj ((S0.ah ws).E (.r r))∧(∀(j:Nat) x,cs[j]? = some x→(S0.ah ws).E (.b r j) = .one x))→
   (∀y∈x.Ar++Aq bs,wO S0 ws y)→x.leave rs=some x'→pF rs bs=some dK→r=(x',dK)→
   ∃(vs:List Value) (L':aw),vs.length=j9.length∧(∀(j:Nat) rv v,j9[j]? = some rv→vs[j]? = some v→rz P w a.tmps rv v)∧
   (∃L1,dc w w L0 L1∧Nw bx.length L1 L')∧Rel nm 0 (dk 0 r.2) ⟨#[],[]⟩ w L'∧bD nm w L' (fun _=>0) (.h 0) r.1 (Hu vs):=by
  intro rs bs dK x' jf qY zG hb lq hx qd dM;subst dM;have hγ:∀{y:aI×Nat},wO S0 ws y→y.2=(S0.ah ws).γ (.r y.1):=fun h=>by rw [HO h.2.1];exact h.1
  have R1:=anF M.rel jf qY (fun k r cs h1 h2=>⟨(hb k r cs h1 h2).1,(hb k r cs h1 h2).2.1,(hb k r cs h1 h2).2.2,fun y hy=>hγ (lq y (aeK _ (ab8 h2 hy)))⟩) qd;refine ⟨vs,oL rs (S0.ah ws).E L1,hl,hv,⟨L1,M.mono,anC zG⟩,anG R1 (Ii _) M.rel.eN M.rel.fu,?_⟩;exact rep.Lx hx (fun y hy=>hγ (lq y (HF _ hy)))
 have acC:∀{rs:List aI},rs.Nodup→(∀i,i < bx.length→rs[i]? = some (.e i))→∀i,i < bx.length→jl rs (.e i) 0=some i:=by
  intro rs jf h i hi;have:=yh rs (i:=0) jf (h i hi);rwa [db] at this
 split at h4
 ·obtain ⟨_,h5,h6⟩:=Q.aK h4;clear h4;obtain ⟨x',h7,h8⟩:=Q.gw h6;clear h6;obtain ⟨Db,h9,dj⟩:=Q.gw h8;clear h8;have dM:=Q.aZ dj;refine fin (IQ _ _) (by rw [o1,za]) (acC (IQ _ _) (fun i hi=>by rw [By,aJ hi,db])) ?_ (Gr _ h5) h7 h9 dM;intro k r cs hk eF;rw [By] at hk;split at hk
  ·simp only [db,ai] at hk;subst hk;exact ⟨rfl,(o2 k cs eF).1,(o2 k cs eF).2⟩
  ·cases hk
 ·rename_i r0 ql;obtain ⟨i0,rfl⟩:=RY ql;obtain ⟨e,h5,h6⟩:=Q.aK h4;clear h4;rw [uV] at h5;simp only [ai] at h5;subst h5;obtain ⟨gU,h7,h8⟩:=Q.aK h6;clear h6;obtain ⟨_,h9,dj⟩:=Q.aK h8;clear h8;obtain ⟨x',gO,iE⟩:=Q.gw dj;clear dj;obtain ⟨Db,sq,sr⟩:=Q.gw iE;clear iE;have dM:=Q.aZ sr;obtain ⟨g1,g2⟩:=Ml _ _ h7;have jf:(ox 0 bx.length++[aI.l i0]).Nodup:=by
   rw [HG];refine ⟨IQ _ _,by simp,fun y hy z hz h=>?_⟩;simp at hz;subst hz;subst h;obtain ⟨k,h1,_⟩:=X2 hy;cases h1
  refine fin jf (by simp [o1,za]) (acC jf (fun i hi=>by rw [nB (by rw [za];exact hi),By,aJ hi,db])) ?_ (Gr _ h9) gO sq dM;intro k r1 cs hk eF;by_cases vq:k < bx.length
  ·rw [nB (by rw [za];exact vq),By,aJ vq] at hk;simp only [db,ai] at hk;subst hk;rw [nB (by rw [o1];exact vq)] at eF;exact ⟨rfl,(o2 k cs eF).1,(o2 k cs eF).2⟩
  ·rw [nC (by rw [za];omega),za] at hk;rw [nC (by rw [o1];omega),o1] at eF;cases hd:k - bx.length with
   | zero=>
    simp [hd] at hk eF;subst hk;subst eF;refine ⟨rfl,g1,fun j x hj=>?_⟩;have:=g2 j x hj;rwa [db] at this
   | succ n=>simp [hd] at hk
end
end
section
section
variable {nm:FuncId→Option Nat} {G:Nat→Option Obj} {N n:Nat} {S S0:St} {a:Act} {w:World} {L L0 L':aw} {P:Program} {Cl:bX}
theorem aiN {args:Array Value} {m:Nat} (R:Rel nm n S ⟨args,[]⟩ w L) (h:n≤m):Rel nm m S ⟨args++Array.replicate (m - args.size) undef,[]⟩ w L:=by
 have hs:args.size=n:=R.size;refine ⟨by simp [hs];omega,rfl,fun i=>?_,R.cell,R.kg,R.bound,R.room,R.fu,R.eN,R.fB⟩;have:=R.slot i;have e:(args++Array.replicate (m - args.size) undef).getD i undef=args.getD i undef:=by
  simp only [iw];by_cases hi:i < args.size
  ·rw [AQ hi]
  ·rw [UC (by omega),M7 (show args.size≤i by omega)];by_cases h2:i - args.size < m - args.size
   ·rw [aeE,aJ h2];rfl
   ·rw [aeE,aB h2]
 show bD nm w L S.γ (.s i) (S.E (.s i)) ((args++Array.replicate (m - args.size) undef).getD i undef);rw [e];exact this
theorem afd (vt:P.follows .mixedOrders=true) (hc:wN P nm G Cl) {hh:Hint} {fg:Bool} {f:Func} {cF:FuncId} {fn:lj} (hf:P.funcs[cF]? = some f) (mj:(f.name == "runtime.NumGoroutine")=false)
  (P5:Es P nm hh f fg=some fn) {vs:List V} {bx:List (List C)} {r:V} {out:List (List C)} (he:u6 Cl n fn vs bx=some (r,out))
  {args:Array Value} (R:Rel nm vs.length (ga 0 vs++dk 0 bx) ⟨args,[]⟩ w L) (hH:eJ L) (hG:GI G w L) (hE:∀B i o,L B=some (.box (.e i) o)→i < bx.length) :
  jT P cF args w fun v w'=>∃L',dc w w' L L'∧Rel nm 0 (dk 0 out) ⟨#[],[]⟩ w' L'∧bD nm w' L' (fun _=>0) (.h 0) r v:=by
 unfold Es at P5;obtain ⟨c,hb,h1⟩:=bind_some P5;clear P5;split at h1
 ·cases h1
 rename_i qm;have qm:hh.nt=f.ntmps:=Classical.not_not.1 qm;obtain ⟨ic,h2,h3⟩:=bind_some h1;clear h1;obtain ⟨Rs,h4,h5⟩:=bind_some h3;clear h3;cases h5;unfold u6 at he;split at he;rotate_left
 ·cases he
 rename_i sw;obtain ⟨⟨e,Sf⟩,h6,h7⟩:=ff.1 he;clear he;have iT:(callFunc cF args).run P w = .ok (.enter cF args) w:=by
  have Fq:¬ f.name = "runtime.NumGoroutine" := by simpa using mj
  simp [callFunc,hf,Fq,hb]
 unfold jT;rw [iT];refine calls_of_wp hf hb (afG vt hc qm n c h2 h6 (aiN R sw) hH hG ?_);intro a' w' L1 D;have fin:∀{rr:V×List (List C)},(u9 ⟨f.ntmps,Rs,ic,fg⟩ bx).run Sf=some rr→rr=(r,out)→a'.defers=[]∧∃v,(results f a'.tmps).run P w' = .ok v w'∧∃v',Ending.returned v = .returned v'∧∃L',dc w w' L L'∧Rel nm 0 (dk 0 out) ⟨#[],[]⟩ w' L'∧bD nm w' L' (fun _=>0) (.h 0) r v':=by
  intro rr dM heq;subst heq;obtain ⟨us,L2,k1,k2,⟨L3,k3,k4⟩,k5,k6⟩:=ahW D.rel D.xO h4 dM;refine ⟨D.rel.defers,_,apn k1 k2,_,rfl,L2,?_,k5,k6⟩;have m1:=D.mono.trans k3;refine ⟨m1.os,m1.tape,m1.output,m1.size,fun B hB=>⟨k4.bh B (m1.bh B hB).1,(m1.bh B hB).2⟩,fun B hl hB=>⟨k4.none B (m1.none B hl hB).1,(m1.none B hl hB).2⟩,fun B i o hB=>k4.Bq B i o (hE B i o hB) (m1.Bq B i o hB)⟩
 cases e with
 | norm=>exact fin h7 rfl
 | ret=>exact fin h7 rfl
 | exit id=>simp at h7
structure NC (P:Program) (nm:FuncId→Option Nat) (T:Nat→Option lj):Prop where
 mixed:P.follows .mixedOrders=true
 fn:∀{f:Nat} {fn:lj} {cF:FuncId},T f=some fn→nm cF=some f→∃g hh fg,P.funcs[cF]? = some g∧(g.name == "runtime.NumGoroutine")=false∧Es P nm hh g fg=some fn
def Vi (P:Program) (nm:FuncId→Option Nat) (G:Nat→Option Obj) (T:Nat→Option lj) (pK:bX):Prop:=
 ∀{f:Nat} {vs:List V} {bx:List (List C)} {r:V} {out:List (List C)} {cF:FuncId},T f=none→pK f vs bx=some (r,out)→nm cF=some f→
  ∀{args:Array Value} {w:World} {L:aw},Rel nm vs.length (ga 0 vs++dk 0 bx) ⟨args,[]⟩ w L→eJ L→GI G w L→(∀B i o,L B=some (.box (.e i) o)→i < bx.length)→
   jT P cF args w fun v w'=>∃L',dc w w' L L'∧Rel nm 0 (dk 0 out) ⟨#[],[]⟩ w' L'∧bD nm w' L' (fun _=>0) (.h 0) r v
theorem ahS {T:Nat→Option lj} {pK:bX} (hT:NC P nm T) (hp:Vi P nm G T pK) (n:Nat):D6 P nm G (nH T pK n):=by
 induction n with
 | zero=>intro f vs bx r out cF h;simp [nH] at h
 | succ n ih=>
  intro f vs bx r out cF h hn args w L R hH hG hE;simp only [nH] at h;split at h
  ·rename_i fn xk;obtain ⟨g,hh,fg,h1,h2,h3⟩:=hT.fn xk hn;exact afd hT.mixed (afs ih) h1 h2 h3 h R hH hG hE
  ·rename_i xk;exact hp xk h hn R hH hG hE
end
end
section
def mV:lY→Option (Option (List Nat)×Bool)
 | .iY k g _ _=>some (k,g)
 | .seq a _=>mV a
 | .block _ b=>mV b
 | _=>none
def wu:jD→jD
 | .iY _ _ o d=>.iY none false o d
 | .seq a b=>.seq (wu a) b
 | .join i k g a b=>.join i k g (wu a) b
 | .block i b=>.block i (wu b)
 | c=>c
def aoi:pa→Bool
 | .app .. => true
 | .A5 .. => true
 | .A3 .. => true
 | _=>false
def jD.ways:jD→Nat×List Nat
 | .skip=>(1,[])
 | .iY _ _ ops _=>(if ops.any fun o=>aoi o.op||o.guard.isSome then 2 else 1,[])
 | .seq a b=>match a.ways with
  | (0,l)=>(0,l)
  | (m+1,l)=>match b.ways with
   | (n,r)=>(min 99 ((m+1) * n),l++(List.replicate (min 9 (m+1)) r).flatten)
 | .cond _ a b=>match a.ways,b.ways with
  | (m,l),(n,r)=>(m+n,l++r)
 | .block i b=>match b.ways with
  | (m,l)=>(m+(l.filter fun j=>Nat.beq j i).length,l.filter fun j=>!(Nat.beq j i))
 | .loop _ _ _ b=>match b.ways with
  | (_,l)=>(0,l)
 | .join _ _ _ a b=>match a.ways with
  | (0,l)=>(0,l)
  | (_+1,l)=>match b.ways with
   | (n,r)=>(n,l++r)
 | .exit i=>(0,[i])
 | .ret=>(0,[])
def aoj:pa→Nat
 | .call .. => 6
 | .load .. => 2
 | .store .. => 2
 | _=>1
def jD.wt:jD→Nat
 | .iY _ _ ops _=>(ops.map fun o=>aoj o.op).foldl (· + ·) 0
 | .seq a b=>a.wt+b.wt
 | .cond _ a b=>2+a.wt+b.wt
 | .block _ b=>b.wt
 | .loop _ _ _ b=>4+b.wt
 | .join _ _ _ a _=>a.wt+4
 | _=>0
def rK (jK:Nat):lY→Nat→jD×Nat
 | .skip,n=>(.skip,n)
 | .iY k g o d,n=>(.iY k g o d,n)
 | .seq a b,n=>match rK jK b n with
  | (b',n1)=>match rK jK a n1 with
   | (a',n2)=>match mV b,Nat.ble jK ((a'.ways.1 - 1) * b'.wt) with
    | some (k,g),true=>(.join n2 k g a' (wu b'),n2+1)
    | _,_=>(.seq a' b',n2)
 | .cond c a b,n=>match rK jK a n with
  | (a',n1)=>match rK jK b n1 with
   | (b',n2)=>(.cond c a' b',n2)
 | .block i b,n=>match rK jK b n with
  | (b',n1)=>(.block i b',n1)
 | .loop b,n=>match rK jK b (n+1) with
  | (b',n1)=>match mV b with
   | some (k,g)=>(.loop n k g (wu b'),n1)
   | none=>(.loop n none false b',n1)
 | .exit i,n=>(.exit i,n)
 | .ret,n=>(.ret,n)
def Rh (jK:Nat) (f:Option lj):uS:=
 match f with
 | some g=>⟨g.C4,g.results,(rK jK g.body 0).1,g.forget⟩
 | none=>⟨0,[],.skip,false⟩
def jD.at_:jD→List Nat→jD
 | c,[]=>c
 | .seq a b,i::p=>match i with | 0=>a.at_ p | _=>b.at_ p
 | .join _ _ _ a b,i::p=>match i with | 0=>a.at_ p | _=>b.at_ p
 | .cond _ a b,i::p=>match i with | 0=>a.at_ p | _=>b.at_ p
 | .block _ b,_::p=>b.at_ p
 | .loop _ _ _ b,_::p=>b.at_ p
 | c,_::_=>c
end
section
open Go
def Gv (a:Nat):List Nat→Bool
 | []=>false
 | b::t=>match Nat.beq a b with | true=>true | false=>Gv a t
def wB:List Nat→List Nat→List Nat
 | a,[]=>a
 | a,x::t=>match Gv x a with | true=>wB a t | false=>wB (a++[x]) t
def ON (d:Nat):List Nat→List Nat
 | []=>[]
 | b::t=>match Nat.beq d b with | true=>ON d t | false=>b::ON d t
def Hl:List Operand→List Nat
 | []=>[]
 | .tmp t::l=>t::Hl l
 | _::l=>Hl l
def afV (ops:List Oper) (j:Nat):List Nat:=match ops[j]? with
 | some o=>match o.dst with | some d=>[d] | none=>[]
 | none=>[]
def NT (all:List Oper):List Oper→List Nat→List Nat
 | [],l=>l
 | o::t,l=>
  let l:=NT all t l
  let l:=match o.dst with | some d=>ON d l | none=>l
  let l:=wB l (Hl o.op.operands.toList)
  match o.guard with
  | some (j,_)=>wB l (afV all j)
  | none=>l
abbrev Rg:=List (Nat×List Nat)
def RF (i:Nat):Rg→Option (List Nat)
 | []=>none
 | (k,l)::t=>match Nat.beq i k with | true=>some l | false=>RF i t
def acX:List Nat→List Nat→Bool
 | [],[]=>true
 | _::a,_::b=>acX a b
 | _,_=>false
def Rb (f:List Nat→List Nat):Nat→List Nat→List Nat
 | 0,x=>x
 | n+1,x=>
  let y:=wB x (f x)
  match acX x y with
  | true=>x
  | false=>Rb f n y
def xL (res:List Nat):Code→Rg→List Nat→List Nat
 | .region _ ops _,_,out=>NT ops.toList ops.toList out
 | .seq a b,ex,out=>xL res a ex (xL res b ex out)
 | .cond c a b,ex,out=>wB (wB (xL res a ex out) (xL res b ex out)) (Hl [c])
 | .block id b,ex,out=>xL res b ((id,out)::ex) out
 | .loop b,ex,_=>Rb (fun x=>xL res b ex x) 20 []
 | .exit id,ex,_=>(RF id ex).getD []
 | .ret,_,_=>res
 | .scope b,ex,out=>xL res b ex out
 | _,_,out=>out
def yf (res:List Nat):Code→Rg→List Nat→Rg→List Nat×Rg
 | .region id ops _,_,out,m=>let l:=NT ops.toList ops.toList out;(l,(id,l)::m)
 | .seq a b,ex,out,m=>match yf res b ex out m with
  | (l,m)=>yf res a ex l m
 | .cond c a b,ex,out,m=>match yf res a ex out m with
  | (x,m)=>match yf res b ex out m with
   | (y,m)=>(wB (wB x y) (Hl [c]),m)
 | .block id b,ex,out,m=>yf res b ((id,out)::ex) out m
 | .loop b,ex,_,m=>match Rb (fun x=>xL res b ex x) 20 [] with
  | x=>(x,(yf res b ex x m).2)
 | .exit id,ex,_,m=>((RF id ex).getD [],m)
 | .ret,_,_,m=>(res,m)
 | .scope b,ex,out,m=>yf res b ex out m
 | _,_,out,m=>(out,m)
def EG:Code→List Nat
 | .region id _ _=>[id]
 | .seq a b=>match EG a with
  | []=>EG b
  | x=>x
 | .block _ b=>EG b
 | .loop b=>EG b
 | _=>[]
def zw:Code→List Nat
 | .seq a b=>zw a++zw b
 | .cond _ a b=>zw a++zw b
 | .block _ b=>zw b
 | .loop b=>EG b++zw b
 | _=>[]
def Ms:List ResultVar→List Nat
 | []=>[]
 | .tmp t::l=>t::Ms l
 | .cell t _::l=>t::Ms l
def Ou:List ResultVar→List Nat
 | []=>[]
 | .tmp _::l=>Ou l
 | .cell t _::l=>t::Ou l
def Ql (f:Func) (MO:Nat):Hint:=match f.body with
 | none=>⟨f.ntmps,MO,[],[],[]⟩
 | some c=>⟨f.ntmps,MO,Ou f.results.toList,[],(yf (Ms f.results.toList) c [] (Ms f.results.toList) []).2.map fun x=>(x.1,(some x.2,Gv x.1 (zw c)))⟩
end
section
open Go
def vh {R:Type} (an:iP) (Cl:bX) (n:Nat) (j:Nat):jD→List Nat→kE R→Option (St→Option R)
 | .seq a b,ms,K=>Am (vh an Cl n j b ms K) (vh an Cl n j a ms (Dw (kK an Cl n b) K))
 | .cond _ a b,ms,K=>Am (vh an Cl n j a ms K) (vh an Cl n j b ms K)
 | .block id b,ms,K=>vh an Cl n j b ms (NY id K)
 | .join i kp g a b,ms,K=>match Nat.beq i j with
  | true=>some fun S=>Rf i (kK an Cl n b) (ms.headD 0) S K
  | false=>Am (vh an Cl n j b ms K) (vh an Cl n j a ms (Dw (Rd i kp g n (kK an Cl n b)) K))
 | .loop i kp g b,ms,K=>match Nat.beq i j with
  | true=>some fun S=>Cq i (kK an Cl n b) kp g (ms.headD 0) S K
  | false=>vh an Cl n j b ms.tail (R5 kp g (fun S=>Cq i (kK an Cl n b) kp g (ms.headD 0) S K) K)
 | _,_,_=>none
def hdF (an:iP) (k:uS) (Cl:bX) (n:Nat) (bx:List (List C)) (j:Nat) (ms:List Nat) (S:St):Option (V×List (List C)):=
 match vh an Cl n j k.body ms (Td k.results k.forget bx) with
 | some f=>f S
 | none=>none
def IJ (P:Program):Nat→TypeId→Option (List DS)
 | 0,_=>none
 | n+1,t=>match P.underlying t with
  | some (.int k)=>some [.int k]
  | some .bool=>some [.bool]
  | some .string=>some [.str]
  | some (.slice e)=>some [.im ((jO P e).getD 0)]
  | some (.struct fs)=>fs.toList.foldr (fun f acc=>match IJ P n f.type,acc with | some a,some b=>some (a++b) | _,_=>none) (some [])
  | some (.array k e)=>(IJ P n e).map fun l=>(List.replicate k l).flatten
  | _=>none
def abh:Option (List DS)→Option (List DS)
 | some (x::t)=>some (x::t)
 | _=>none
def Dt (P:Program) (d:Nat):List Oper→Option (List DS)
 | []=>none
 | o::t=>match o.dst,o.op with
  | some e,.load ty _=>match Nat.beq e d with | true=>Am (abh (IJ P 12 ty)) (Dt P d t) | false=>Dt P d t
  | _,.store ty (.tmp i) _=>match Nat.beq i d with | true=>Am (abh (IJ P 12 ty)) (Dt P d t) | false=>Dt P d t
  | _,_=>Dt P d t
def yi (P:Program) (d:Nat):Code→Option (List DS)
 | .region _ ops _=>Dt P d ops.toList
 | .seq a b=>Am (yi P d a) (yi P d b)
 | .cond _ a b=>Am (yi P d a) (yi P d b)
 | .block _ b=>yi P d b
 | .loop b=>yi P d b
 | .scope b=>yi P d b
 | _=>none
def RI (f:Nat→DS):List DS→List DS
 | []=>[]
 | .im k::t=>f k::RI f t
 | x::t=>x::RI f t
structure jE where
 P:Program
 jK:Nat
 fns:List (Nat×Nat×Bool)
 ao8:List (Nat×Nat)
 ao7:List (Nat×List (Nat×Nat))
 res:Nat→Option RS
 imf:List Nat
 imB:Nat→Nat→Bool
 no:List Nat
def aa5 (a b:Nat):List (Nat×Nat)→Bool
 | []=>false
 | x::t=>match Nat.beq a x.1,Nat.beq b x.2 with | true,true=>true | _,_=>aa5 a b t
def aiF (s:jE) (n d:Nat) (k:Nat):DS:=match aa5 n k s.ao8 with
 | true=>.own k
 | false=>match (sS s.ao7 n).bind fun l=>sS l d with
  | some 0=>.own k
  | some 1=>.sl k
  | some 2=>.tg k
  | some 3=>.any
  | _=>.im k
def jE.fn (s:jE) (n:Nat):Func:=(s.P.funcs[n]?).getD default
def jE.an (s:jE) (n:Nat):iP:=
 ⟨fun d => match (s.fn n).body with | some c => (yi s.P d c).map (RI (aiF s n d)) | none => none, s.res,
  match Gv n s.imf with | true => fun _ _ => true | false => s.imB, fun k => Gv k s.no⟩
def jE.comp (s:jE) (n:Nat):Option lj:=match sS s.fns n with
 | some (t,fg)=>Es s.P some (Ql (s.fn n) t) (s.fn n) fg
 | none=>none
def jE.k (s:jE) (n:Nat):uS:=Rh s.jK (s.comp n)
def jE.pQ (s:jE) (n:Nat):Option lj:=match sS s.fns n with
 | some _=>some (s.k n).fn
 | none=>none
def jE.hd (s:jE) (f j:Nat) (Cl:bX) (n:Nat) (bx:List (List C)) (ms:List Nat) (S:St):Option (V×List (List C)):=hdF (s.an f) (s.k f) Cl n bx j ms S
def jE.oz (s:jE):Bool:=s.P.follows .mixedOrders&&s.fns.all fun x=>match s.P.funcs[x.1]? with
 | some g=>!(g.name == "runtime.NumGoroutine")&&(s.comp x.1).isSome
 | none=>false
theorem Ea:∀(c:jD) (k:Option (List Nat)) (g:Bool),kF k g (eM (wu c))=kF k g (eM c)
 | .iY ..,_,_=>rfl
 | .seq a b,k,g=>by simp only [wu,eM,kF,Ea a k g]
 | .join _ _ _ a b,k,g=>by simp only [wu,eM,kF,Ea a k g]
 | .block _ b,k,g=>by simp only [wu,eM,kF,Ea b k g]
 | .skip,_,_=>rfl
 | .cond ..,_,_=>rfl
 | .loop ..,_,_=>rfl
 | .exit _,_,_=>rfl
 | .ret,_,_=>rfl
theorem HX:∀(c:lY) {k:Option (List Nat)} {g:Bool},mV c=some (k,g)→kF k g c=c
 | .iY ..,k,g,h=>by simp only [mV,ai,fL] at h;obtain ⟨rfl,rfl⟩:=h;rfl
 | .seq a b,k,g,h=>by simp only [mV] at h;simp only [kF,HX a h]
 | .block _ b,k,g,h=>by simp only [mV] at h;simp only [kF,HX b h]
 | .skip,_,_,h=>by simp [mV] at h
 | .cond ..,_,_,h=>by simp [mV] at h
 | .loop ..,_,_,h=>by simp [mV] at h
 | .exit _,_,_,h=>by simp [mV] at h
 | .ret,_,_,h=>by simp [mV] at h
theorem NF:∀(c:lY) {k:Option (List Nat)} {g:Bool},mV c=none→kF k g c=c
 | .iY ..,k,g,h=>by simp [mV] at h
 | .seq a b,k,g,h=>by simp only [mV] at h;simp only [kF,NF a h]
 | .block _ b,k,g,h=>by simp only [mV] at h;simp only [kF,NF b h]
 | .skip,_,_,h=>rfl
 | .cond ..,_,_,h=>rfl
 | .loop ..,_,_,h=>rfl
 | .exit _,_,_,h=>rfl
 | .ret,_,_,h=>rfl
theorem uq (jK:Nat):∀(c:lY) (n:Nat),eM (rK jK c n).1=c
 | .skip,n=>rfl
 | .iY ..,n=>rfl
 | .exit _,n=>rfl
 | .ret,n=>rfl
 | .block i b,n=>by simp only [rK,eM,uq jK b n]
 | .cond c a b,n=>by simp only [rK,eM,uq jK a,uq jK b]
 | .loop b,n=>by
  simp only [rK];split
  ·rename_i k g h;simp only [eM,Ea,uq jK b,HX b h]
  ·rename_i h;simp only [eM,uq jK b,NF b h]
 | .seq a b,n=>by
  simp only [rK];split
  ·rename_i k g h _;simp only [eM,Ea,uq jK b,uq jK a,HX b h]
  ·simp only [eM,uq jK b,uq jK a]
theorem akj {jK:Nat} {g:lj}:(Rh jK (some g)).fn=g:=by
 simp only [Rh,uS.fn,uq]
theorem aaL {α:Type}:∀{l:List (Nat×α)} {n:Nat} {x:α},sS l n=some x→(n,x)∈l
 | [],n,x,h=>by simp [sS] at h
 | y::t,n,x,h=>by
  simp only [sS] at h;split at h
  ·rename_i e;cases h;have:=mM e;subst this;exact jR
  ·exact kD _ (aaL h)
theorem jE.ok (s:jE) (h:s.oz=true):NC s.P some s.pQ:=by
 simp only [jE.oz,bK] at h;refine ⟨h.1,?_⟩;intro f fn cF hf hn;simp only [ai] at hn;subst hn;simp only [jE.pQ] at hf;split at hf
 ·rename_i x hx;have h1:=lI.1 h.2 _ (aaL hx);simp only [ai] at hf;split at h1
  ·rename_i g hg;simp only [bK,nA] at h1;obtain ⟨c,hc⟩:=yF.1 h1.2;subst hf;have e:s.fn cF=g:=by simp only [jE.fn];rw [show s.P.funcs[cF]? = some g from hg];rfl
   refine ⟨g,Ql g x.1,x.2,hg,h1.1,?_⟩;have lM:Es s.P some (Ql g x.1) g x.2=some c:=by rw [←hc];simp only [jE.comp,hx,e]
   rw [lM];simp only [jE.k];rw [hc,akj]
  ·cases h1
 ·cases hf
end
end Go.ax
namespace Go.Proofs.YtfmpdgeiodnnfaaGreatDoor
section
open Go Go.ax
def nm:FuncId→Option Nat:=some
def iq:RS:=(.val (.one (.bool)) [])
def j7:RS:=(.val (.one (.str)) [])
def vZ:RS:=(.val (.agg [.int .i64,.int .i64,.int .i64]) [])
def rT4:RS:=(.val (.agg [.str,.im 3]) [])
def rT8:RS:=(.val (.agg [.str,.im 3,.im 6,.im 10]) [])
def qA:RS:=(.aq [] [])
def vY:RS:=(.val (.one (.int .i64)) [])
def qC:RS:=(.val (.one (.im 1)) [])
def Mk:RS:=(.val (.agg [.str,.im 1,.im 3]) [])
def acj:RS:=(.val (.agg [.int .i64,.str,.str,.str,.str,.int .i64,.im 1,.im 3,.im 3,.int .i64]) [])
def Dj:RS:=(.val (.one (.int .i64)) [[.ptr 1 0,.im 3,.str,.tg 3,.own 6,.tg 10,.str,.im 2,.int .i64,.int .i64,.int .i64],[.tg 1,.int .i64]])
def ack:RS:=(.val (.one (.int .i64)) [[.ptr 1 0,.im 3,.str,.tg 3,.tg 6,.own 10,.str,.im 2,.int .i64,.int .i64,.int .i64],[.tg 1,.int .i64]])
def acm:RS:=(.val (.agg [.int .i64,.str]) [])
noncomputable def ST : jE := ⟨Tryz.prog, 8,
 [(3, 9, true), (4, 12, true), (7, 11, true), (9, 3, true), (10, 10, true), (11, 10, true), (12, 8, true), (15, 6, true), (17, 3, true), (19, 6, true), (21, 6, true), (25, 7, true), (26, 6, true), (27, 12, true), (28, 3, true), (31, 5, true), (32, 9, true), (33, 15, true), (34, 12, true), (35, 6, true), (36, 7, true), (37, 3, true), (38, 3, true), (39, 5, true), (40, 1, true), (41, 7, true), (42, 10, true), (43, 17, true), (44, 2, true), (45, 6, true), (46, 7, true), (47, 15, true), (48, 1, true), (49, 1, true), (50, 7, true), (53, 5, true), (54, 3, true), (55, 7, true), (56, 11, true), (57, 3, true), (58, 6, true), (62, 4, true), (64, 4, true), (67, 9, true), (68, 3, true), (69, 3, true), (70, 4, true), (71, 5, true), (72, 7, true), (73, 5, true), (74, 11, true), (80, 11, true), (81, 5, true), (82, 13, true), (83, 5, true), (84, 12, true), (85, 9, true), (86, 3, true), (87, 5, true), (88, 5, true), (89, 5, true), (90, 6, true), (92, 6, true), (93, 11, true), (94, 3, true), (95, 4, true), (96, 6, true), (97, 6, true), (98, 6, true), (99, 7, true), (100, 18, true), (101, 6, true), (102, 3, true), (103, 3, true), (104, 3, true), (108, 8, true), (109, 4, true), (110, 5, true), (111, 7, true), (113, 3, true), (114, 5, true), (115, 3, true), (116, 3, true), (117, 3, true), (118, 3, true), (119, 3, true), (120, 3, true), (127, 6, true), (128, 5, true), (132, 3, true), (137, 7, true), (138, 14, true), (139, 10, true), (140, 22, true), (141, 7, true), (142, 6, true), (143, 13, true), (144, 9, true), (145, 15, true), (146, 3, true), (147, 5, true), (149, 11, true), (150, 8, true), (151, 8, true), (152, 6, true), (153, 3, true), (154, 6, true), (155, 2, true), (156, 7, true), (157, 8, true), (158, 12, true), (160, 3, true), (161, 6, true), (165, 6, true), (167, 10, true), (184, 3, true), (188, 18, true), (189, 15, true), (190, 9, true), (191, 7, true), (192, 6, true), (193, 13, true), (194, 11, true), (195, 14, true), (196, 3, true), (197, 11, true), (198, 8, true), (199, 6, true), (200, 10, true), (201, 5, true), (202, 3, true), (203, 2, true), (204, 3, true), (205, 6, true), (206, 3, true), (207, 7, true), (209, 3, true), (210, 4, true), (218, 7, true), (223, 5, true), (224, 6, true), (226, 14, true), (227, 5, true), (228, 19, true), (229, 3, true), (230, 8, true), (231, 3, true), (232, 3, true), (236, 7, true), (237, 8, true), (247, 14, true)],
 [(188, 4)],
 [(47, [(34, 1), (39, 3), (55, 1), (79, 1), (81, 3), (92, 0), (99, 3)]), (84, [(169, 0), (175, 3)]), (142, [(74, 0), (80, 3)]), (143, [(100, 1), (105, 3), (144, 1), (149, 3)])],
 sS [(9, iq), (25, iq), (26, iq), (53, iq), (54, iq), (55, iq), (62, iq), (64, iq), (67, iq), (69, iq), (70, iq), (71, iq), (72, iq), (94, iq), (95, iq), (96, iq), (108, iq), (110, iq), (115, iq), (116, iq), (117, iq), (132, iq), (154, iq), (157, iq), (158, iq), (165, iq), (191, iq), (192, iq), (223, iq), (10, (.val (.agg [.im 3, .im 2, .im 4]) [])), (11, j7), (15, j7), (17, j7), (19, j7), (21, j7), (56, j7), (57, j7), (58, j7), (83, j7), (85, j7), (102, j7), (103, j7), (104, j7), (113, j7), (114, j7), (146, j7), (149, j7), (150, j7), (151, j7), (159, j7), (160, j7), (161, j7), (206, j7), (12, vZ), (39, vZ), (40, vZ), (41, vZ), (42, vZ), (43, vZ), (44, vZ), (46, vZ), (47, vZ), (27, rT4), (111, rT4), (28, (.val (.one (.ptr 0 0)) [[.tg 1, .int .i64]])), (31, (.val (.one (.im 3)) [])), (32, (.aq [(.one (.im 2)), (.one (.int .i64)), (.one (.int .i64))] [])), (33, rT8), (34, rT8), (35, (.aq [(.one (.int .i64)), .fm] [])), (36, qA), (50, qA), (84, qA), (91, qA), (92, qA), (93, qA), (112, qA), (142, qA), (143, qA), (155, qA), (197, qA), (203, qA), (204, qA), (37, (.val (.one .str) [[.bu 82, .dead]])), (38, (.val (.one (.lk 39 [(0, 0), (1, 0)])) [[.im 3, .im 2, .im 4], [.lk 1000000000000 []]])), (45, vY), (68, vY), (73, vY), (100, vY), (127, vY), (141, vY), (145, vY), (152, vY), (224, vY), (48, qC), (49, qC), (81, qC), (97, qC), (98, qC), (99, qC), (101, qC), (156, qC), (189, qC), (190, qC), (205, qC), (218, qC), (236, qC), (74, (.val (.one (.im 4)) [])), (80, Mk), (137, Mk), (138, Mk), (188, Mk), (82, (.aq [(.agg [.str, .im 3]), (.one (.int .i64))] [])), (86, acj), (153, acj), (87, Dj), (88, Dj), (144, Dj), (147, Dj), (196, Dj), (199, Dj), (89, ack), (90, ack), (128, acm), (184, acm), (139, (.aq [(.one (.int .i64)), (.one (.int .i64))] [])), (140, (.aq [(.agg [.int .i64, .str, .im 4]), (.one (.int .i64))] [])), (193, (.aq [(.one (.int .i64)), (.one (.str)), (.one (.int .i64))] [])), (194, (.aq [(.one (.im 1)), (.one (.bool))] [])), (195, (.aq [(.agg [.int .i64, .str]), (.one (.im 1)), (.one (.bool))] [])), (198, (.aq [(.agg [.str, .im 1, .im 3]), (.one (.str))] []))],
 [11, 12, 19, 21, 36, 41, 42, 43, 47, 53, 55, 93, 96, 97, 98, 100, 101, 150, 151, 153, 154, 158], fun n c => (Nat.beq n 11 && Nat.beq c 1) || (Nat.beq n 11 && Nat.beq c 7), []⟩
noncomputable def pQ:Nat→Option lj:=ST.pQ
theorem apW:NC Tryz.prog nm pQ:=ST.ok (by kernel_rfl)
end
end Go.Proofs.YtfmpdgeiodnnfaaGreatDoor
namespace Go.Proofs
section
open Go.Shelf
def Tryz.anA:Go.Shelf.Ren:=⟨fun | 173=>159 | 246=>167 | 283=>209 | 284=>210 | 285=>211 | 286=>212 | 129=>232 | 317=>231 | 318=>233 | 319=>234 | 320=>235 | 337=>248 | 338=>249 | n=>n,fun | 2=>2 | 3=>3 | 9=>9 | 4=>4 | 171=>231 | 0=>0 | 53=>200 | 37=>80 | 5=>5 | 173=>234 | 212=>250 | 51=>243 | 20=>20 | 213=>251 | 46=>96 | 232=>269 | 233=>270 | n=>n,fun | 17=>1 | 18=>2 | 19=>3 | n=>n⟩
theorem Tryz.anz : Go.Proofs.LaysM.n173 Tryz.prog Tryz.anA := {
  mixed := by kernel_rfl
  f129 := Tryz.func232.trans (fX some (by kernel_rfl))
  f173 := Tryz.func159.trans (fX some (by kernel_rfl))
  f246 := Tryz.func167.trans (fX some (by kernel_rfl))
  f283 := Tryz.func209.trans (fX some (by kernel_rfl))
  f284 := Tryz.func210.trans (fX some (by kernel_rfl))
  f285 := Tryz.func211.trans (fX some (by kernel_rfl))
  f286 := Tryz.func212.trans (fX some (by kernel_rfl))
  f317 := Tryz.func231.trans (fX some (by kernel_rfl))
  f318 := Tryz.func233.trans (fX some (by kernel_rfl))
  f319 := Tryz.func234.trans (fX some (by kernel_rfl))
  f320 := Tryz.func235.trans (fX some (by kernel_rfl))
  f337 := Tryz.func248.trans (fX some (by kernel_rfl))
  f338 := Tryz.func249.trans (fX some (by kernel_rfl))
  t0 := Tryz.underlying0
  a0 := Tryz.isAgg0
  z0 := Tryz.sizeOf0
  v0 := Tryz.zeroValue0
  t2 := Tryz.underlying2
  a2 := Tryz.isAgg2
  z2 := Tryz.sizeOf2
  v2 := Tryz.zeroValue2
  t3 := Tryz.underlying3
  a3 := Tryz.isAgg3
  z3 := Tryz.sizeOf3
  v3 := Tryz.zeroValue3
  t4 := Tryz.underlying4
  a4 := Tryz.isAgg4
  z4 := Tryz.sizeOf4
  v4 := Tryz.zeroValue4
  t5 := Tryz.underlying5
  a5 := Tryz.isAgg5
  z5 := Tryz.sizeOf5
  v5 := Tryz.zeroValue5
  t9 := Tryz.underlying9
  a9 := Tryz.isAgg9
  z9 := Tryz.sizeOf9
  v9 := Tryz.zeroValue9
  t20 := Tryz.underlying20
  a20 := Tryz.isAgg20
  z20 := Tryz.sizeOf20
  v20 := Tryz.zeroValue20
  t37 := Tryz.underlying80
  a37 := Tryz.isAgg80
  z37 := Tryz.sizeOf80
  v37 := Tryz.zeroValue80
  t46 := Tryz.underlying96
  a46 := Tryz.isAgg96
  z46 := Tryz.sizeOf96
  v46 := Tryz.zeroValue96
  t51 := Tryz.underlying243
  a51 := Tryz.isAgg243
  z51 := Tryz.sizeOf243
  v51 := Tryz.zeroValue243
  t53 := Tryz.underlying200
  a53 := Tryz.isAgg200
  z53 := Tryz.sizeOf200
  v53 := Tryz.zeroValue200
  t171 := Tryz.underlying231
  a171 := Tryz.isAgg231
  z171 := Tryz.sizeOf231
  v171 := Tryz.zeroValue231
  t173 := Tryz.underlying234
  a173 := Tryz.isAgg234
  z173 := Tryz.sizeOf234
  v173 := Tryz.zeroValue234
  t212 := Tryz.underlying250
  a212 := Tryz.isAgg250
  z212 := Tryz.sizeOf250
  v212 := Tryz.zeroValue250
  t213 := Tryz.underlying251
  a213 := Tryz.isAgg251
  z213 := Tryz.sizeOf251
  t232 := Tryz.underlying269
  a232 := Tryz.isAgg269
  z232 := Tryz.sizeOf269
  v232 := Tryz.zeroValue269
  t233 := Tryz.underlying270
  a233 := Tryz.isAgg270
  z233 := Tryz.sizeOf270
  v233 := Tryz.zeroValue270
  g17 := by kernel_rfl
  g18 := by kernel_rfl
  g19 := by kernel_rfl
  i0 := by kernel_rfl
  i2 := by kernel_rfl
  i3 := by kernel_rfl
  i4 := by kernel_rfl
  i5 := by kernel_rfl
  i9 := by kernel_rfl
  i20 := by kernel_rfl
  i37 := by kernel_rfl
  i46 := by kernel_rfl
  i51 := by kernel_rfl
  i53 := by kernel_rfl
  i171 := by kernel_rfl
  i173 := by kernel_rfl
  i212 := by kernel_rfl
  i232 := by kernel_rfl
  i233 := by kernel_rfl
  m17 := by kernel_rfl
  m18 := by kernel_rfl
  m19 := by kernel_rfl }
def Tryz.anx:Go.Shelf.Ren:=⟨fun | 217=>256 | 266=>261 | n=>n,fun | 9=>9 | 5=>5 | 3=>3 | n=>n,fun | n=>n⟩
theorem Tryz.anw : Go.Proofs.Lays.n217 Tryz.prog Tryz.anx := {
  mixed := by kernel_rfl
  f217 := Tryz.func256.trans (fX some (by kernel_rfl))
  f266 := Tryz.func261.trans (fX some (by kernel_rfl))
  t3 := Tryz.underlying3
  a3 := Tryz.isAgg3
  z3 := Tryz.sizeOf3
  v3 := Tryz.zeroValue3
  t5 := Tryz.underlying5
  a5 := Tryz.isAgg5
  z5 := Tryz.sizeOf5
  v5 := Tryz.zeroValue5
  t9 := Tryz.underlying9
  a9 := Tryz.isAgg9
  z9 := Tryz.sizeOf9
  v9 := Tryz.zeroValue9 }
end
end Go.Proofs
namespace Go.ax
section
section
variable {nm:FuncId→Option Nat} {N:Nat} {S:St} {a:Act} {w:World} {L:aw}
theorem Rel.VO (h:Rel nm N S a w L) {r:aI} {t:TypeId} {B:Nat} (hr:r.iU=false) (hE:S.E (.b r 0) = .one (.bu t)) (hB:L B=some (.box r 0)) :
  Rel nm N S a (w.setCell ⟨B,0,none⟩ (.pointer (some ⟨B,0,none⟩))) L∧dc w (w.setCell ⟨B,0,none⟩ (.pointer (some ⟨B,0,none⟩))) L L:=by
 have az:∀{B2 l},L B2=some l→(∀r o,l≠.box r o)→(w.setCell ⟨B,0,none⟩ (.pointer (some ⟨B,0,none⟩))).heap[B2]? = w.heap[B2]?:=by
  intro B2 l hl ql;refine pz _ _ _ _ ?_;rintro rfl;rw [hB] at hl;simp only [ai] at hl;exact ql _ _ hl.symm
 have bp:Step w (w.setCell ⟨B,0,none⟩ (.pointer (some ⟨B,0,none⟩))) L L S.γ S.γ:=
  ⟨fun B hB => ⟨hB, az hB (by simp)⟩, fun _ => bT _, fun B q o hq _ hL => ⟨hL, fun cur e fz hB => ⟨cur, (az hL (by simp)).trans hB, rfl⟩⟩,
    fun B q o _ _ _ hB => az hB (by simp), fun B r o _ hB => hB⟩
 have ajX:∀i,bD nm (w.setCell ⟨B,0,none⟩ (.pointer (some ⟨B,0,none⟩))) L S.γ (.s i) (S.E (.s i)) (a.tmps.getD i undef):=fun i=>
  (h.slot i).step bp (fun B q o hq hB=>by rw [←hq,Place.l9];exact ⟨hB,az hB (by simp)⟩)
 obtain ⟨B0,o0,afM,e0,Yn,v0,g1,g2,g3,g4,g5,g6⟩:∃B o cur e fz v,L B=some (.box r o)∧w.heap[B]? = some (.cells cur e fz)∧jA cur.size fz∧cur[o+0]? = some v∧aG nm w L S.γ (.b r 0) 0 (.bu t) v∧lK (.bu t) B o 0 e cur.size v:=by
  have:=h.cell r 0 _ hE (by simp);cases r with
  | g i=>cases hr
  | e i=>exact this
  | l i=>exact this
 obtain rfl:=h.fB B0 B r o0 0 g1 hB;obtain ⟨rfl,_,rfl,hn,hv⟩:=g6;refine ⟨⟨h.size,h.defers,ajX,?_,h.kg,h.bound,?_,?_,h.eN,h.fB⟩,⟨rfl,rfl,rfl,by simp,fun B hB=>⟨hB,az hB (by simp)⟩,?_,fun _ _ _ hB=>hB⟩⟩
 ·intro r2 c x hx gg;by_cases he:r2=r∧c=0
  ·obtain ⟨rfl,rfl⟩:=he;rw [hE] at hx;simp only [V.one.injEq] at hx;subst hx;have hex:∃B o cur e fz v,L B=some (.box r2 o)∧(w.setCell ⟨B0,0,none⟩ (.pointer (some ⟨B0,0,none⟩))).heap[B]? = some (.cells cur e fz)∧jA cur.size fz∧cur[o+0]? = some v∧
     aG nm (w.setCell ⟨B0,0,none⟩ (.pointer (some ⟨B0,0,none⟩))) L S.γ (.b r2 0) 0 (.bu e0) v∧lK (.bu e0) B o 0 e cur.size v:=by
    refine ⟨B0,0,_,e0,Yn,.pointer (some ⟨B0,0,none⟩),hB,xi w B0 0 _ g2,by simpa using g3,?_,.bu ⟨_,_,rfl⟩ rfl,rfl,rfl,rfl,by simpa using hn,.inr rfl⟩;simp only [wK,bW];rw [aJ (by omega)]
   cases r2 with
   | g i=>cases hr
   | e i=>exact hex
   | l i=>exact hex
  ·refine (h.cell r2 c x hx gg).step bp (fun B q o _ hB=>⟨hB,az hB (by simp)⟩) ?_;intro B2 o2 py;refine ⟨py,fun cur e fz hc=>?_⟩;by_cases hb:B2=B0
   ·subst hb;rw [hB] at py;simp only [ai,bO.box.injEq] at py;obtain ⟨rfl,rfl⟩:=py;refine ⟨cur.setIfInBounds 0 _,xi w B2 0 _ hc,by simp,?_⟩;rw [yw];intro e;exact he ⟨rfl,by omega⟩
   ·exact ⟨cur,(pz _ _ _ _ hb).trans hc,rfl,rfl⟩
 ·intro r2 jV pB;obtain ⟨B2,o2,cur,e,fz,k1,k2,k3,k4⟩:=h.room r2 jV pB;by_cases hb:B2=B0
  ·subst hb;exact ⟨B2,o2,_,e,fz,k1,xi w B2 0 _ k2,by simpa using k3,by simpa using k4⟩
  ·exact ⟨B2,o2,cur,e,fz,k1,(pz _ _ _ _ hb).trans k2,k3,k4⟩
 ·intro B2 l hl;have:=h.fu B2 l hl;simpa using this
 ·intro B2 _ vu;refine ⟨vu,pz _ _ _ _ ?_⟩;rintro rfl;rw [hB] at vu;cases vu
theorem Rel.OS {vs:List V} {bs:List (List C)} (h:Rel nm N (ga 0 vs++dk 0 bs) a w L):Rel nm 0 (dk 0 bs) ⟨#[],[]⟩ w L:=by
 have hγ:(ga 0 vs++dk 0 bs:St).γ=(dk 0 bs:St).γ:=by rw [Bw,Ii]
 have hE:∀k,(∀i,k≠.s i)→(ga 0 vs++dk 0 bs:St).E k=(dk 0 bs:St).E k:=by
  intro k hk;unfold St.E;rw [pf];cases k with
  | s i=>exact absurd rfl (hk i)
  | _=>rfl
 refine ⟨rfl,rfl,?_,?_,?_,?_,?_,h.fu,h.eN,h.fB⟩
 ·intro i;rw [pj];exact .one .dead
 ·intro r c x hx hd;rw [←hE _ (by intro i e;cases e)] at hx;rw [←hγ];exact h.cell r c x hx hd
 ·intro r c;rw [←hE _ (by intro i e;cases e)];exact h.kg r c
 ·intro r c hc;rw [←hE _ (by intro i e;cases e)] at hc ⊢;exact h.bound r c hc
 ·intro r hg hr;rw [←hE _ (by intro i e;cases e)] at hr ⊢;exact h.room r hg hr
theorem jT.eq {P:Program} {cF:FuncId} {args:Array Value} {w:World} {R:Value→World→Prop} {v0:Value} {w0:World} (h:jT P cF args w fun v w'=>v=v0∧w'=w0) (hr:R v0 w0):jT P cF args w R:=
 h.mono (fun v w' ⟨h1,h2⟩=>by rw [h1,h2];exact hr)
theorem afJ {P:Program} {cF:FuncId} {t:TypeId} {x:C}
  (ajr : ∀ (b : Nat) (w : World), w.cell? ⟨b, 0, none⟩ = some (.pointer none) → w.shape? b = some (t, 2) → w.frozen? ⟨b, 0, none⟩ = false →
    jT P cF #[.pointer (some ⟨b, 0, none⟩)] w fun v w' => v = .tuple #[] ∧ w' = w.setCell ⟨b, 0, none⟩ (.pointer (some ⟨b, 0, none⟩)))
  (aj5:∀(b:Nat) (w:World),w.cell? ⟨b,0,none⟩=some (.pointer (some ⟨b,0,none⟩))→jT P cF #[.pointer (some ⟨b,0,none⟩)] w fun v w'=>v = .tuple #[]∧w'=w)
  {args:Array Value} (R:Rel nm 1 (ga 0 [.one (.ptr (.e 0) 0 0)]++dk 0 [[.bu t,x]]) ⟨args,[]⟩ w L) :
  jT P cF args w fun v w'=>∃L',dc w w' L L'∧Rel nm 0 (dk 0 [[.bu t,x]]) ⟨#[],[]⟩ w' L'∧bD nm w' L' (fun _=>0) (.h 0) (.aq []) v:=by
 have hγ:=Bw [V.one (.ptr (.e 0) 0 0)] [[.bu t,x]];have EO:(ga 0 [V.one (.ptr (.e 0) 0 0)]++dk 0 [[.bu t,x]]:St).E (.b (.e 0) 0) = .one (.bu t):=rfl;have h0:=R.slot 0;have oJ:(ga 0 [V.one (.ptr (.e 0) 0 0)]++dk 0 [[.bu t,x]]:St).E (.s 0) = .one (.ptr (.e 0) 0 0):=rfl;rw [oJ] at h0;have bf:args.size=1:=R.size;generalize hv:(⟨args,[]⟩:Act).tmps.getD 0 undef=v0 at h0;have sw:args = #[v0]:=by
  apply Array.ext
  ·simpa using bf
  ·intro i h1 h2;have:i=0:=by omega
   subst this;rw [←hv];simp [Array.getD,bf]
 cases h0 with
 | one h0=>
  cases h0 with
  | ptr iH hg hp=>
   obtain ⟨B,o,hB,rfl⟩:=hp (by rw [hγ]);have hc:=R.cell (.e 0) 0 _ EO (by simp);obtain ⟨B',o',cur,e,fz,v,k1,k2,k3,k4,k5,k6⟩:=hc;obtain rfl:=R.fB B' B (.e 0) o' o k1 hB;obtain ⟨rfl,_,rfl,hn,oK⟩:=k6;obtain rfl:o=0:=by rw [k1] at hB;simpa using hB.symm
   simp only [jC] at k4 sw;have fF:w.cell? ⟨B',0,none⟩=some v:=by rw [qT k2];exact k4
   rcases oK with rfl | rfl
   ·obtain ⟨R2,M2⟩:=R.VO rfl EO hB;rw [sw];refine (ajr B' w fF (by simp [World.shape?,k2,hn]) ?_).eq ⟨L,M2,R2.OS,.aq rfl rfl (by simp)⟩;have:=k3 0 (by omega);simp only [World.frozen?,k2];simpa using this
   ·rw [sw];exact (aj5 B' w fF).eq ⟨L,dc.refl w L,R.OS,.aq rfl rfl (by simp)⟩
theorem Rel.below {w':World} (h:Rel nm N S a w L) (hb:RowKit.Below w.heap.size w w'):Rel nm N S a w' L∧dc w w' L L:=by
 have af:∀{B l},L B=some l→B < w.heap.size:=by
  intro B l hl;exact h.fu B l hl
 exact ⟨h.grown (fun B l hl=>hb.block B (af hl)),hb.os,hb.tape,hb.output,hb.size,fun B hB=>⟨hB,hb.block B (af hB)⟩,fun B hl hn=>⟨hn,hb.block B hl⟩,fun _ _ _ hB=>hB⟩
def aiK:D→Value
 | .int k n=>.int k n
 | .bool b=>.bool b
 | .str s=>.string ⟨s.toArray⟩
 | _=>undef
theorem VB {xs:List D} {bs:List (List C)} {args:Array Value} (hf:xs.all D.flat=true) (R:Rel nm (xs.map fun x=>V.one (.d x)).length (ga 0 (xs.map fun x=>V.one (.d x))++dk 0 bs) ⟨args,[]⟩ w L) :
  args=(xs.map aiK).toArray:=by
 have bf:args.size=xs.length:=by have:=R.size;simpa using this
 apply Array.ext
 ·simpa using bf
 ·intro i h1 h2;have hi:i < xs.length:=by omega
  have h0:=R.slot i;have hE:(ga 0 (xs.map fun x=>V.one (.d x))++dk 0 bs:St).E (.s i) = .one (.d xs[i]):=by
   unfold St.E;rw [pf];simp only [yE,lh,db,cy,hi,bW,DW];simp [List.getD,hi]
  rw [hE] at h0;have hv:(⟨args,[]⟩:Act).tmps.getD i undef=args[i]:=by simp [Array.getD,h1]
  rw [hv] at h0;have hx:(xs[i]).flat=true:=lI.1 hf _ (bM hi);simp only [List.getElem_toArray,List.getElem_map];generalize xs[i]=x at h0 hx;generalize args[i]=v at h0;cases h0 with
  | one h0=>
   cases h0 with
   | d h0=>
    have:=aG.Ye (nm:=nm) (γ:=fun _=>0) (w:=w) (L:=L) (.d h0) hx;cases this<;>first | rfl | simp [D.flat] at hx
theorem BE {P:Program} {cF:FuncId} {args:Array Value} {g:Func} {c:Code} {R:Value→World→Prop} (hf:P.funcs[cF]? = some g) (mj:(g.name == "runtime.NumGoroutine")=false) (hb:g.body=some c)
  (h:Calls P cF args w fun e w'=>∃v,e = .returned v∧R v w'):jT P cF args w R:=by
 have Fq:¬ g.name = "runtime.NumGoroutine" := by simpa using mj
 have iT:(callFunc cF args).run P w = .ok (.enter cF args) w:=by simp [callFunc,hf,Fq,hb]
 unfold jT;rw [iT];exact h
theorem Xf {P:Program} {cF:FuncId} {vs:List V} {bs:List (List C)} {r:V} {Rv:Value→Prop} (hr:∀w L v,Rv v→bD nm w L (fun _=>0) (.h 0) r v)
  {args:Array Value} (R:Rel nm vs.length (ga 0 vs++dk 0 bs) ⟨args,[]⟩ w L)
  (h:jT P cF args w fun v w'=>Rv v∧RowKit.Below w.heap.size w w') :
  jT P cF args w fun v w'=>∃L',dc w w' L L'∧Rel nm 0 (dk 0 bs) ⟨#[],[]⟩ w' L'∧bD nm w' L' (fun _=>0) (.h 0) r v:=
 h.mono (fun v w' ⟨h1,h2⟩=>⟨L,(R.below h2).2,(R.below h2).1.OS,hr w' L v h1⟩)
end
end
section
section
variable {nm:FuncId→Option Nat} {N:Nat} {S:St} {a:Act} {w:World} {L:aw}
theorem Rel.aow {S':St} (h:Rel nm N S a w L) (hE:∀k,(∀i,k≠.s i)→S'.E k=S.E k) (hs:∀i,S'.E (.s i)=V.dead)
  (hd:∀r c x,S.E (.b r c) = .one x→x = .dead∨(∃y,x = .d y)∨∃t,x = .bu t):Rel nm 0 S' ⟨#[],[]⟩ w L:=by
 refine ⟨rfl,rfl,?_,?_,?_,?_,?_,h.fu,h.eN,h.fB⟩
 ·intro i;rw [hs];exact .one .dead
 ·intro r c x hx gg;rw [hE _ (by intro i e;cases e)] at hx;have h1:=h.cell r c x hx gg;have xr:∀{v},aG nm w L S.γ (.b r c) 0 x v→aG nm w L S'.γ (.b r c) 0 x v:=by
   intro v hv;rcases hd r c x hx with rfl | ⟨y,rfl⟩ | ⟨t,rfl⟩
   ·exact .dead
   ·cases hv with | d h=>exact .d h
   ·cases hv with | bu hk hv=>exact .bu hk hv
  cases r with
  | g i=>obtain ⟨v,hv⟩:=h1;exact ⟨v,xr hv⟩
  | e i=>obtain ⟨B,o,cur,e,fz,v,g1,g2,g3,g4,g5,g6⟩:=h1;exact ⟨B,o,cur,e,fz,v,g1,g2,g3,g4,xr g5,g6⟩
  | l i=>obtain ⟨B,o,cur,e,fz,v,g1,g2,g3,g4,g5,g6⟩:=h1;exact ⟨B,o,cur,e,fz,v,g1,g2,g3,g4,xr g5,g6⟩
 ·intro r c;rw [hE _ (by intro i e;cases e)];exact h.kg r c
 ·intro r c hc;rw [hE _ (by intro i e;cases e)] at hc ⊢;exact h.bound r c hc
 ·intro r hg hr;rw [hE _ (by intro i e;cases e)] at hr ⊢;exact h.room r hg hr
theorem ai0 {P:Program} {cF:FuncId} {t:TypeId} {n:Nat} (hn:1≤n)
  (hg : ∀ (b : Nat) (w : World) (p : Value) (fz : Nat × Nat), w.heap[b]? = some (.cells #[p, .slice none 0 0] t fz) → jA 2 fz →
    (p = .pointer none ∨ p = .pointer (some ⟨b, 0, none⟩)) →
    jT P cF #[.pointer (some ⟨b, 0, none⟩), .int .i64 n] w fun v w' => v = .tuple #[] ∧ ∃ cs : Array Value, n ≤ cs.size ∧ w'.os = w.os ∧ w'.tape = w.tape ∧ w'.output = w.output ∧
      w'.heap = ((w.setCell ⟨b, 0, none⟩ (.pointer (some ⟨b, 0, none⟩))).setCell ⟨b, 1, none⟩ (.slice (some ⟨w.heap.size, 0, none⟩) 0 cs.size)).heap.push (.cells cs 5))
  {args:Array Value} (hH:eJ L) (R:Rel nm 2 (ga 0 [.one (.ptr (.e 0) 0 0),.one (.d (.int .i64 n))]++dk 0 [[.bu t,.d (.sl (.im true) 1 [])]]) ⟨args,[]⟩ w L) :
  jT P cF args w fun v w'=>∃L',dc w w' L L'∧Rel nm 0 (dk 0 [[.bu t,.d (.sl .own 1 [])]]) ⟨#[],[]⟩ w' L'∧bD nm w' L' (fun _=>0) (.h 0) (.aq []) v:=by
 have hγ:=Bw [V.one (.ptr (.e 0) 0 0),.one (.d (.int .i64 n))] [[.bu t,.d (.sl (.im true) 1 [])]];generalize zo:(ga 0 [V.one (.ptr (.e 0) 0 0),.one (.d (.int .i64 n))]++dk 0 [[.bu t,.d (.sl (.im true) 1 [])]]:St)=S0 at R hγ;have EO:S0.E (.b (.e 0) 0) = .one (.bu t):=by subst zo;rfl
 have Yx:S0.E (.b (.e 0) 1) = .one (.d (.sl (.im true) 1 [])):=by subst zo;rfl
 have zk:S0.E (.r (.e 0))=fx 2:=by subst zo;rfl
 have bf:args.size=2:=R.size;have h0:=R.slot 0;have h1:=R.slot 1;rw [show S0.E (.s 0) = .one (.ptr (.e 0) 0 0) by subst zo;rfl] at h0;rw [show S0.E (.s 1) = .one (.d (.int .i64 n)) by subst zo;rfl] at h1;have sw:args = #[args[0],args[1]]:=by
  apply Array.ext
  ·simpa using bf
  ·intro i h1 h2;match i,h2 with
   | 0,_=>rfl
   | 1,_=>rfl
 rw [show (⟨args,[]⟩:Act).tmps.getD 0 undef=args[0] by simp [Array.getD,bf]] at h0;rw [show (⟨args,[]⟩:Act).tmps.getD 1 undef=args[1] by simp [Array.getD,bf]] at h1;generalize iH:args[0]=v0 at h0;generalize nQ:args[1]=v1 at h1;rw [iH,nQ] at sw;obtain rfl:v1 = .int .i64 n:=by
  cases h1 with
  | one h1=>cases h1 with
   | d h1=>cases h1 with
    | plain h1=>cases h1;rfl
 cases h0 with
 | one h0=>
  cases h0 with
  | ptr ary Jk hp=>
   obtain ⟨B,o,hB,rfl⟩:=hp (by rw [hγ]);obtain ⟨B',o',cur,e,fz,v,k1,k2,k3,k4,k5,k6⟩:=R.cell (.e 0) 0 _ EO (by simp);obtain rfl:=R.fB B' B (.e 0) o' o k1 hB;obtain ⟨rfl,_,rfl,aj4,oK⟩:=k6;obtain rfl:o=0:=by rw [k1] at hB;simpa using hB.symm
   obtain ⟨B2,o2,iD,e2,ll,u,j1,j2,j3,j4,j5,j6⟩:=R.cell (.e 0) 1 _ Yx (by simp);obtain rfl:=R.fB B2 B' (.e 0) o2 0 j1 hB;obtain rfl:o2=0:=by rw [hB] at j1;simpa using j1.symm
   rw [k2] at j2;simp only [ai,Obj.cells.injEq] at j2;obtain ⟨rfl,rfl,rfl⟩:=j2;obtain rfl:u = .slice none 0 0:=by
    cases j5 with
    | d h=>cases h with
     | plain h=>cases h;rfl
   have zt:cur = #[v,.slice none 0 0]:=by
    apply Array.ext
    ·simpa using aj4
    ·intro i h1 h2;match i,h2 with
     | 0,_=>
      have:=(lH.1 k4).2;simpa using this
     | 1,_=>
      have:=(lH.1 j4).2;simpa using this
   subst zt;simp only [jC] at sw;obtain ⟨R1,M1⟩:=R.VO rfl EO hB;have af:B2 < w.heap.size:=(lH.1 k2).1;rw [sw];refine (hg B2 w v fz k2 k3 oK).mono ?_;rintro _ w' ⟨rfl,cs,eF,ho,ht,hu,hh⟩;generalize Jc:w.setCell ⟨B2,0,none⟩ (.pointer (some ⟨B2,0,none⟩))=W1 at R1 M1 hh;have kx:W1.heap.size=w.heap.size:=by subst Jc;simp
   have Jj:∀B o,L B≠some (.row ⟨.h 0,0,[]⟩ o):=by
    intro B o hB;have:=hH B _ o hB;simp [Key.aT] at this
   obtain ⟨R2,M2,C2⟩:=R1.LD (m:=0) (j:=0) Jj (w':=W1.alloc (.cells cs 5)) (cur:=cs) (e:=5) (fz:=(0,0)) (rows:=[]) (val:=fun _ _=>undef) (sz:=1) (cap:=cs.size)
    (oF W1 _) (fun B hB=>mW W1 _ hB) (fun j _=>by simp) ⟨rfl,rfl,rfl,by simp⟩ Nat.one_pos (by simp) (by simp) (by simp) (by intro i c x hx;simp [cellOf] at hx)
    (by intro i c x hx;simp [cellOf] at hx) (fun _=>rfl)
   have py:(L.put W1.heap.size (.row ⟨.h 0,0,[]⟩ 0)) B2=some (.box (.e 0) 0):=by
    rw [aw.gu (by omega)];exact hB
   obtain ⟨L3,R3,_,M3,_,_⟩:=R2.V2 (m:=0) (j:=0) py (c:=1) (by rw [zk];decide) rfl C2;have eh:w'.heap=((W1.alloc (.cells cs 5)).setCell ⟨B2,0+1,none⟩ (.slice (some ⟨W1.heap.size,0,none⟩) ([]:List (List D)).length cs.size)).heap:=by
    rw [hh,kx];have ve:(W1.alloc (.cells cs 5)).heap=W1.heap.push (.cells cs 5):=by rw [←World.alloc_eq]
    simp only [World.setCell,ve];apply Array.ext
    ·simp
    ·intro i h1 h2;simp only [Array.getElem_push,Array.getElem_modify,Array.size_modify];by_cases hi:i < W1.heap.size
     ·simp [hi,Array.getElem_push]
     ·have:i=W1.heap.size:=by simp at h1;omega
      subst this;simp [show ¬ B2=W1.heap.size by omega]
   obtain ⟨R4,M4⟩:=R3.below (w':=w') ⟨by rw [ho];subst Jc;rfl,by rw [ht];subst Jc;rfl,by rw [hu];subst Jc;rfl,by rw [eh];exact bT _,fun i _=>by rw [eh]⟩;refine ⟨L3,((M1.trans M2).trans M3).trans M4,R4.aow ?_ ?_ ?_,.aq rfl rfl (by simp)⟩
   ·intro k hk;rw [St.ia];subst zo;simp only;unfold St.E;rw [pf];split
    ·rename_i he;subst he;rfl
    ·rename_i he;rw [ph];cases k with
     | s i=>exact absurd rfl (hk i)
     | r x=>
      simp only;rw [ph];cases x with
      | e i=>
       match i with
       | 0=>rfl
       | i+1=>simp
      | _=>rfl
     | b x c=>
      simp only;rw [ph];cases x with
      | e i=>
       match i,c with
       | 0,0=>rfl
       | 0,1=>exact absurd rfl he
       | 0,c+2=>simp
       | i+1,c=>simp
      | _=>rfl
     | _=>simp only;rw [ph]
   ·intro i;rw [pj]
   ·intro r c x hx;rw [St.ia] at hx;simp only at hx;split at hx
    ·simp only [V.one.injEq] at hx;subst hx;exact .inr (.inl ⟨_,rfl⟩)
    ·subst zo;unfold St.E at hx;rw [pf] at hx;simp only at hx;rw [ph] at hx;cases r with
     | e i=>
      match i,c with
      | 0,0=>simp at hx;subst hx;exact .inr (.inr ⟨_,rfl⟩)
      | 0,1=>simp at hx;subst hx;exact .inr (.inl ⟨_,rfl⟩)
      | 0,c+2=>simp [V.dead] at hx;exact .inl hx.symm
      | i+1,c=>simp [V.dead] at hx;exact .inl hx.symm
     | g i=>simp [V.dead] at hx;exact .inl hx.symm
     | l i=>simp [V.dead] at hx;exact .inl hx.symm
end
end
end Go.ax
namespace Go.Proofs.YtfmpdgeiodnnfaaGreatDoor
section
open Go Go.ax Go.RowKit Go.Proofs Go.Sort
set_option maxHeartbeats 1000000 in
theorem WV (b:Nat) (w:World) (h0:w.cell? ⟨b,0,none⟩=some (.pointer (some ⟨b,0,none⟩))) :
  Calls Tryz.prog 91 #[.pointer (some ⟨b,0,none⟩)] w fun e w'=>e = .returned (.tuple #[])∧w'=w:=by
 obtain ⟨j,hj⟩:∃j,Tryz.prog.info? 82=some j:=yF.1 (by kernel_rfl);have hp:Tryz.prog.underlying 79=some (.pointer 82):=by kernel_rfl
 go_enter Tryz.func91,Tryz.ntmps91;go_wp2;rw [Lib.run_neq_ptr_same w _ hp hj];go_wp2;go_end0;exact ⟨rfl,rfl⟩
set_option maxHeartbeats 1000000 in
theorem WU (b:Nat) (w:World) (h0:w.cell? ⟨b,0,none⟩=some (.pointer none)) (Cg:w.shape? b=some (82,2)) (cU:w.frozen? ⟨b,0,none⟩=false) :
  Calls Tryz.prog 91 #[.pointer (some ⟨b,0,none⟩)] w fun e w'=>e = .returned (.tuple #[])∧w'=w.setCell ⟨b,0,none⟩ (.pointer (some ⟨b,0,none⟩)):=by
 obtain ⟨j,hj,hjs⟩:∃j,Tryz.prog.info? 82=some j∧j.size=2:=Option.map_eq_some_iff.1 (by kernel_rfl);have hp:Tryz.prog.underlying 79=some (.pointer 82):=by kernel_rfl
 have hu:Tryz.prog.underlying 187=some .unsafePointer:=by kernel_rfl
 go_enter Tryz.func91,Tryz.ntmps91;go_wp2;rw [Lib.run_to_unsafe w ⟨b,0,none⟩ hp hu hj (by rw [hjs];decide) Cg (Nat.zero_lt_succ 1)];simp only [Result.andThen];rw [Oper.upon_value];go_wp2;rw [run_callFunc_extern Tryz.func148 (by kernel_rfl) (by kernel_rfl) (by kernel_rfl) (e:=Extern.AbiNoEscape.same) (by kernel_rfl)];rw [Lib.run_noEscape];simp only [Result.andThen];rw [Oper.upon_value];go_wp2;rw [Lib.run_from_unsafe w ⟨b,0,none⟩ hu hp hj Cg (by kernel_rfl)];simp only [Result.andThen];rw [Oper.upon_value];go_wp2;go_end0;exact ⟨rfl,rfl⟩
set_option maxHeartbeats 1000000 in
theorem Yw (b:Nat) (w:World) (n:Nat) {T:TypeId} {p:Value} {fz:Nat×Nat} (mU:w.heap[b]? = some (.cells #[p,.slice none 0 0] T fz)) (cU:w.frozen? ⟨b,1,none⟩=false) (hn:n≤281474976710656) :
  Calls Tryz.prog 166 #[.pointer (some ⟨b,0,none⟩),.int .i64 n] w fun e w'=>e = .returned (.tuple #[])∧∃(k:Nat) (cs:Array Value),n≤cs.size∧w'=((w.setCell ⟨b,1,none⟩ (.slice (some ⟨w.heap.size,0,none⟩) 0 cs.size)).alloc (.cells cs 5)).drewN k:=by
 have af:b < w.heap.size:=(lH.1 mU).1;have Zz:Tryz.prog.underlying 80=some (.slice 5):=by kernel_rfl
 obtain ⟨cs,iT,hle,Jw⟩:=Lib.run_makeNoZero (P:=Tryz.prog) w.drew #[3] 80 5 Zz n hn;have hw:IntKind.i64.wrap (IntKind.i64.wrap 0+(n:Int))=n:=by
  rw [IntKind.wrap_i64,IntKind.wrap_i64];omega
 have ark:(callFunc 208 #[.int .i64 (IntKind.i64.wrap (IntKind.i64.wrap 0+(n:Int)))]).run Tryz.prog w.drew = .ok (.value (.slice (some ⟨w.drew.heap.size,0,none⟩) n cs.size)) (w.drew.drew.drew.alloc (.cells cs 5)):=by
  rw [hw,run_callFunc_extern Tryz.func208 (by kernel_rfl) (by kernel_rfl) (by kernel_rfl) (e:=Extern.BytealgMakeNoZero.makeNoZero #[3] #[80]) (by kernel_rfl),iT];rfl
 have c1:w.drew.cell? ⟨b,1,none⟩=some (.slice none 0 0):=by
  have:w.drew.heap[b]? = _:=mU;rw [Lib.cell_of_heap this];rfl
 have c2:(w.alloc (.cells cs 5)).cell? ⟨b,1,none⟩=some (.slice none 0 0):=by
  have:(w.alloc (.cells cs 5)).heap[b]? = _:=(Lib.alloc_old w _ b af).trans mU;rw [Lib.cell_of_heap this];rfl
 have f2:(w.alloc (.cells cs 5)).frozen? ⟨b,1,none⟩=false:=by
  rw [←cU];simp only [World.frozen?,Lib.alloc_old w _ b af]
 have bf:(Tryz.prog.info? 5).map (·.size)=some 1:=by kernel_rfl
 have arl:∀W:World,(Builtin.copy_ #[80,80] 3 #[.slice (some ⟨w.heap.size,0,none⟩) 0 cs.size,.slice none 0 0]).run Tryz.prog W = .ok (goInt 0) W:=
  fun W=>run_copy_none W 80 80 3 5 _ _ 0 cs.size 0 0 Zz bf rfl
 have mixed:Tryz.prog.follows Departure.mixedOrders=true:=by kernel_rfl
 clear hw;go_enter Tryz.func166,Tryz.ntmps166;go_wp2;go_region_o;all_goals (go_wp2;go_end0;first | exact ⟨rfl,3,cs,hle,rfl⟩ | exact ⟨rfl,2,cs,hle,rfl⟩ | exact ⟨rfl,4,cs,hle,rfl⟩ | exact ⟨rfl,5,cs,hle,rfl⟩)
theorem apt {w:World} {b:Nat} {p q:Value} {T:TypeId} {fz:Nat×Nat} (mU:w.heap[b]? = some (.cells #[p,q] T fz)):(w.setCell ⟨b,0,none⟩ p).heap=w.heap:=by
 have af:b < w.heap.size:=(lH.1 mU).1;simp only [World.setCell];apply Array.ext
 ·simp
 ·intro i h1 h2;simp only [Array.getElem_modify];split
  ·rename_i he;subst he;rw [(lH.1 mU).2];simp
  ·rfl
theorem YR {w W:World} {a:Addr} {v:Value} {o:Obj} (k:Nat) (h:W.heap=w.heap):(((w.setCell a v).alloc o).drewN k).heap=(W.setCell a v).heap.push o:=by
 have h2:((w.setCell a v).alloc o).heap=(w.setCell a v).heap.push o:=by rw [←World.alloc_eq]
 show ((w.setCell a v).alloc o).heap=_;rw [h2];show (w.heap.modify a.block _).push o=(W.heap.modify a.block _).push o;rw [h]
def Vf (b n:Nat) (w:World) (e:Ending) (w':World):Prop:=e = .returned (.tuple #[])∧∃cs:Array Value,n≤cs.size∧w'.os=w.os∧w'.tape=w.tape∧w'.output=w.output∧
 w'.heap=((w.setCell ⟨b,0,none⟩ (.pointer (some ⟨b,0,none⟩))).setCell ⟨b,1,none⟩ (.slice (some ⟨w.heap.size,0,none⟩) 0 cs.size)).heap.push (.cells cs 5)
set_option maxHeartbeats 1000000 in
theorem aeS (b n:Nat) (w:World) {fz:Nat×Nat} (mU:w.heap[b]? = some (.cells #[.pointer (some ⟨b,0,none⟩),.slice none 0 0] 82 fz)) (cU:jA 2 fz) (mh:1≤n) (hn:n≤140737488355328) :
  Calls Tryz.prog 112 #[.pointer (some ⟨b,0,none⟩),.int .i64 n] w (Vf b n w):=by
 have c0:w.cell? ⟨b,0,none⟩=some (.pointer (some ⟨b,0,none⟩)):=by rw [Lib.cell_of_heap mU];rfl
 have c1:w.cell? ⟨b,1,none⟩=some (.slice none 0 0):=by rw [Lib.cell_of_heap mU];rfl
 have c1':w.drew.cell? ⟨b,1,none⟩=some (.slice none 0 0):=c1;have Qc:w.frozen? ⟨b,1,none⟩=false:=by
  have:=cU 1 (by omega);simp only [World.frozen?,mU];simpa using this
 have mixed:Tryz.prog.follows Departure.mixedOrders=true:=by kernel_rfl
 have af:¬ (IntKind.i64.wrap (0 - 0)≥(n:Int)):=by rw [IntKind.wrap_i64];omega
 have e1:∀args w,(callFunc 91 args).run Tryz.prog w = .ok (.enter 91 args) w:=enters_of Tryz.func91 (by kernel_rfl) rfl;have e2:∀args w,(callFunc 166 args).run Tryz.prog w = .ok (.enter 166 args) w:=enters_of Tryz.func166 (by kernel_rfl) rfl;go_enter Tryz.func112,Tryz.ntmps112;go_wp2_with (go_at_fn 91;refine (WV b w c0).mono ?_;rintro e w' ⟨rfl,hw⟩;subst w');go_region_o;all_goals go_wp2_with (go_at_fn 166;refine (Yw b w.drew n mU Qc (by omega)).mono ?_;rintro e w' ⟨rfl,k,cs,eF,rfl⟩)
 all_goals first
  | (exfalso;omega)
  | (go_end0;exact ⟨rfl,cs,eF,rfl,rfl,rfl,YR (1+k) (apt mU)⟩)
set_option maxHeartbeats 1000000 in
theorem aeR (b n:Nat) (w:World) {fz:Nat×Nat} (mU:w.heap[b]? = some (.cells #[.pointer none,.slice none 0 0] 82 fz)) (cU:jA 2 fz) (mh:1≤n) (hn:n≤140737488355328) :
  Calls Tryz.prog 112 #[.pointer (some ⟨b,0,none⟩),.int .i64 n] w (Vf b n w):=by
 have PX:(w.setCell ⟨b,0,none⟩ (.pointer (some ⟨b,0,none⟩))).heap[b]? = some (.cells #[.pointer (some ⟨b,0,none⟩),.slice none 0 0] 82 fz):=by
  simp [World.setCell,AS,mU]
 have c1:(w.setCell ⟨b,0,none⟩ (.pointer (some ⟨b,0,none⟩))).cell? ⟨b,1,none⟩=some (.slice none 0 0):=by rw [Lib.cell_of_heap PX];rfl
 have c1':(w.setCell ⟨b,0,none⟩ (.pointer (some ⟨b,0,none⟩))).drew.cell? ⟨b,1,none⟩=some (.slice none 0 0):=c1;have Qc:(w.setCell ⟨b,0,none⟩ (.pointer (some ⟨b,0,none⟩))).frozen? ⟨b,1,none⟩=false:=by
  have:=cU 1 (by omega);simp only [World.frozen?,PX];simpa using this
 have Qb:w.frozen? ⟨b,0,none⟩=false:=by
  have:=cU 0 (by omega);simp only [World.frozen?,mU];simpa using this
 have mixed:Tryz.prog.follows Departure.mixedOrders=true:=by kernel_rfl
 have af:¬ (IntKind.i64.wrap (0 - 0)≥(n:Int)):=by rw [IntKind.wrap_i64];omega
 have e1:∀args w,(callFunc 91 args).run Tryz.prog w = .ok (.enter 91 args) w:=enters_of Tryz.func91 (by kernel_rfl) rfl;have e2:∀args w,(callFunc 166 args).run Tryz.prog w = .ok (.enter 166 args) w:=enters_of Tryz.func166 (by kernel_rfl) rfl;go_enter Tryz.func112,Tryz.ntmps112;go_wp2_with (go_at_fn 91;refine (WU b w (by rw [Lib.cell_of_heap mU];rfl) (by simp [World.shape?,mU]) Qb).mono ?_;rintro e w' ⟨rfl,hw⟩;subst w');go_region_o;all_goals go_wp2_with (go_at_fn 166;refine (Yw b (w.setCell ⟨b,0,none⟩ (.pointer (some ⟨b,0,none⟩))).drew n PX Qc (by omega)).mono ?_;rintro e w' ⟨rfl,k,cs,eF,rfl⟩)
 all_goals first
  | (exfalso;omega)
  | (go_end0;exact ⟨rfl,cs,eF,rfl,rfl,rfl,YR (1+k) rfl⟩)
def Md:String:=(Rows.printerLinesRow.laid.map (·.1)).getD 2 default
def ov:Nat→Nat→List UInt8
 | 0,u=>[UInt8.ofNat (48+u)]
 | f+1,u=>if u < 10 then [UInt8.ofNat (48+u)] else ov f (u / 10)++[UInt8.ofNat (48+u % 10)]
theorem OP:∀(f u:Nat),u < 10 ^ (f+1)→ov f u=Lib.decDigits u
 | 0,u,h=>by rw [Lib.decDigits,dif_pos (by simpa using h)];rfl
 | f+1,u,h=>by
  rw [Lib.decDigits];simp only [ov];by_cases h1:u < 10
  ·rw [aJ h1,dif_pos h1]
  ·rw [aB h1,dif_neg h1,OP f (u / 10) (by rw [U4] at h;omega)]
def pG (n:Int):List UInt8:=if n < 0 then 45::ov 19 n.natAbs else ov 19 n.toNat
theorem akd {n:Int} (h0 : -9223372036854775808≤n) (h1:n≤9223372036854775807):pG n=Lib.itoa n:=by
 unfold pG Lib.itoa;by_cases h:n < 0
 ·rw [aJ h,aJ h,OP _ _ (by simp;omega)]
 ·rw [aB h,aB h,OP _ _ (by simp;omega)]
def Ao:bX:=fun f vs bx=>match f with
 | 91=>match vs,bx with
  | [.one (.ptr (.e 0) 0 0)],[[.bu t,x]]=>match Nat.beq t 82 with
   | true=>some (.aq [],[[.bu 82,x]])
   | false=>none
  | _,_=>none
 | 159=>match vs,bx with
  | [.one (.d (.int .i64 n)),.one (.d (.int .i64 m))],[]=>if m=10∧-9223372036854775808≤n∧n≤9223372036854775807 then some (.one (.d (.str (pG n))),[]) else none
  | _,_=>none
 | 256=>match vs,bx with
  | [.one (.d (.str s)),.one (.d (.int .u8 c))],[]=>some (.one (.d (.int .i64 (Lib.indexByte s c.toNat.toUInt8))),[])
  | _,_=>none
 | 112=>match vs,bx with
  | [.one (.ptr (.e 0) 0 0),.one (.d (.int .i64 n))],[[.bu t,.d (.sl (.im true) 1 [])]]=>match Nat.beq t 82,decide (1≤n∧n≤140737488355328) with
   | true,true=>some (.aq [],[[.bu 82,.d (.sl .own 1 [])]])
   | _,_=>none
  | _,_=>none
 | _=>none
theorem ae6 (w:World) (k:Nat) (os:Array Obj):Below w.heap.size w (grow (w.drewN k) os):=by
 refine ⟨rfl,rfl,rfl,by simp [grow,World.drewN],fun i hi=>?_⟩;simp only [grow,World.drewN];rw [AQ hi]
theorem aoB (G:Nat→Option Obj)
  (QG:∀w L,GI G w L→Lib.TabIs Tryz.prog w Md .u64 Lib.pow10Tab):Vi Tryz.prog nm G pQ Ao:=by
 intro f vs bx r out cF hT hp hn args w L R hH hG hE;obtain rfl:cF=f:=by simpa [nm] using hn
 unfold Ao at hp;split at hp
 ·split at hp
  ·rename_i t x;split at hp
   ·rename_i ht;have ht:=mM ht;subst ht;simp only [ai,fL] at hp;obtain ⟨rfl,rfl⟩:=hp;exact afJ (fun b w h1 h2 h3=>BE Tryz.func91 (by kernel_rfl) rfl ((WU b w h1 h2 h3).mono (fun e w' h=>⟨_,h.1,rfl,h.2⟩)))
     (fun b w h1=>BE Tryz.func91 (by kernel_rfl) rfl ((WV b w h1).mono (fun e w' h=>⟨_,h.1,rfl,h.2⟩))) R
   ·cases hp
  ·cases hp
 ·split at hp
  ·rename_i n m;split at hp
   ·rename_i hc;simp only [ai,fL] at hp;obtain ⟨rfl,rfl⟩:=hp;obtain ⟨rfl,h0,h1⟩:=hc;have ha:=VB (xs:=[.int .i64 n,.int .i64 10]) (bs:=[]) rfl R;refine Xf (Rv:=fun u=>u = .string ⟨(Lib.itoa n).toArray⟩) ?_ R ?_
    ·rintro w L u rfl;rw [akd h0 h1];exact .one (.d (.plain .str))
    ·rw [ha];refine BE Tryz.func159 (by kernel_rfl) rfl ((Any.strconv_FormatInt_10 Tryz.anz n h0 h1 w (QG w L hG)).mono (fun e w' h=>⟨_,h.1,rfl,?_⟩));obtain ⟨k,os,rfl⟩:=h.2;exact ae6 w k os
   ·cases hp
  ·cases hp
 ·split at hp
  ·rename_i s c;simp only [ai,fL] at hp;obtain ⟨rfl,rfl⟩:=hp;have ha:=VB (xs:=[.str s,.int .u8 c]) (bs:=[]) rfl R;refine Xf (Rv:=fun u=>u = .int .i64 (Lib.indexByte s c.toNat.toUInt8)) ?_ R ?_
   ·rintro w L u rfl;exact .one (.d (.plain .int))
   ·rw [ha];refine BE Tryz.func256 (by kernel_rfl) rfl ((Any.stringslite_IndexByte Tryz.anw ⟨s.toArray⟩ c w).mono (fun e w' h=>⟨_,h.1,by simp,by rw [h.2];exact Below.refl _ _⟩))
  ·cases hp
 ·split at hp
  ·rename_i n t;split at hp
   ·rename_i ht hc;have ht:=mM ht;subst ht;obtain ⟨h1,h2⟩:=tF hc;simp only [ai,fL] at hp;obtain ⟨rfl,rfl⟩:=hp;obtain ⟨k,rfl⟩:=Int.eq_ofNat_of_zero_le (show 0≤n by omega);refine ai0 (n:=k) (by omega) ?_ hH R;intro b w p fz g1 g2 g3;rcases g3 with rfl | rfl
    ·exact BE Tryz.func112 (by kernel_rfl) rfl ((aeR b k w g1 g2 (by omega) (by omega)).mono (fun e w' h=>⟨_,h.1,rfl,h.2⟩))
    ·exact BE Tryz.func112 (by kernel_rfl) rfl ((aeS b k w g1 g2 (by omega) (by omega)).mono (fun e w' h=>⟨_,h.1,rfl,h.2⟩))
   ·cases hp
  ·cases hp
 ·cases hp
end
end Go.Proofs.YtfmpdgeiodnnfaaGreatDoor
