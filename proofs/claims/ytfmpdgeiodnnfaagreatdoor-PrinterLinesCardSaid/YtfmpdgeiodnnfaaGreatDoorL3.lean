/- A part of the proof. -/
import Derived.Test.YtfmpdgeiodnnfaaGreatDoorL2
import Derived.Test.YtfmpdgeiodnnfaaGreatDoorL0
import Derived.Test.YtfmpdgeiodnnfaaGreatDoorL1
import Derived.Test.YtfmpdgeiodnnfaaGreatDoorChecked
import Derived.KernelRfl
import Derived.Shelf.Strings.Builder1
import Derived.Shelf.LaysM
import Derived.Shelf.LaysC
import Derived.Shelf.Strconv.Itoa4
import Derived.Shelf.Strings.Search1
import Derived.Shelf.Strconv.AtoiAll
import Derived.Shelf.Strconv.ErrVarAll
import Derived.Shelf.Strconv.ErrVarParseInt
import Derived.Test.YtfmpdgeiodnnfaaGreatDoorProg
import Derived.Below
import Derived.Test.YtfmpdgeiodnnfaaGreatDoorRows
import Derived.Lib.Walk
import Derived.Lib.Builder
import Derived.Lib.UnsafeStr
import Derived.WalkKit
import Derived.Laws.Externs
import Derived.Lib.MakeNoZero
import Derived.Laws.IdiomCopy
set_option maxRecDepth 100000
set_option linter.all false
namespace Go.ax
section
theorem qz:∀(rs:List aI) {r:aI} {i k:Nat},jn rs r i=some k→i≤k∧rs[k - i]? = some r
 | [],r,i,k,h=>by simp [jn] at h
 | x::t,r,i,k,h=>by
  simp only [jn] at h;split at h
  ·rename_i hx;simp only [aj] at h;subst h;subst hx;exact ⟨bT _,by simp⟩
  ·obtain ⟨h1,h2⟩:=qz t h;refine ⟨by omega,?_⟩;rw [show k - i=(k - (i+1))+1 by omega,yB];exact h2
theorem yk:∀(rs:List aI) {r:aI} {i k:Nat},rs.Nodup→rs[k]? = some r→jn rs r i=some (i+k)
 | [],r,i,k,_,h=>by simp at h
 | x::t,r,i,k,hn,h=>by
  simp only [jn];cases k with
  | zero=>simp at h;subst h;simp
  | succ k=>
   rw [yB] at h;have aB:x≠r:=by
    rintro rfl;exact (Nf.1 hn).1 (fm h)
   rw [az aB,yk t (Nf.1 hn).2 h];congr 1;omega
def gu (rs:List aI) (E:Key→V) (L:aw):aw:=fun B=>
 match L B with
 | some .bh=>some .bh
 | some (.box r o)=>(jn rs r 0).map fun i=>.box (.e i) o
 | some (.row ⟨.b r c,j,p⟩ o)=>match jn rs r 0,E (.b r c) with
  | some i,.one (.d _)=>some (.row ⟨.b (.e i) c,j,p⟩ o)
  | _,_=>none
 | _=>none
section
variable {nm:FuncId→Option Nat} {N:Nat} {S S0:St} {a:Act} {w w0:World} {L L0:aw} {P:Program} {o:Oper} {Cl:bW} {d:Nat} {ws:List Wr} {γ:Key→Nat} {rs:List aI} {E:Key→V}
theorem va {B:Nat} (h:L B=some .bh):gu rs E L B=some .bh:=by simp [gu,h]
theorem zc {B o i:Nat} {r:aI} (h:L B=some (.box r o)) (hi:jn rs r 0=some i):gu rs E L B=some (.box (.e i) o):=by simp [gu,h,hi]
theorem ahL {B o i c j:Nat} {r:aI} {p:List (Nat×Nat)} {x:D} (h:L B=some (.row ⟨.b r c,j,p⟩ o)) (hi:jn rs r 0=some i) (hE:E (.b r c) = .one (.d x)):gu rs E L B=some (.row ⟨.b (.e i) c,j,p⟩ o):=by
 simp [gu,h,hi,hE]
theorem pn {B:Nat} {l:bQ} (h:gu rs E L B=some l):(l = .bh∧L B=some .bh)∨(∃r o i,l = .box (.e i) o∧L B=some (.box r o)∧jn rs r 0=some i)∨
  ∃r c j p o i x,l = .row ⟨.b (.e i) c,j,p⟩ o∧L B=some (.row ⟨.b r c,j,p⟩ o)∧jn rs r 0=some i∧E (.b r c) = .one (.d x):=by
 unfold gu at h;split at h
 ·simp only [aj] at h;exact .inl ⟨h.symm,‹_›⟩
 ·rename_i r o hL;obtain ⟨i,h1,h2⟩:=bG h;exact .inr (.inl ⟨r,o,i,h2,hL,h1⟩)
 ·rename_i r c j p o hL;split at h
  ·rename_i i x h1 h2;simp only [aj] at h;exact .inr (.inr ⟨r,c,j,p,o,i,x,h.symm,hL,h1,h2⟩)
  ·cases h
 ·cases h
theorem xB:∀{l l':List C} (j:Nat) {c':C},lO rs l=some l'→l'[j]? = some c'→∃c,l[j]? = some c∧c.dZ rs=some c'
 | [],l',j,c',h,hj=>by simp only [lO,aj] at h;subst h;simp at hj
 | c::t,l',j,c',h,hj=>by
  simp only [lO] at h;obtain ⟨c1,h1,h2⟩:=fp.1 h;obtain ⟨t1,h3,rfl⟩:=bG h2;cases j with
  | zero=>simp at hj;subst hj;exact ⟨c,rfl,h1⟩
  | succ j=>obtain ⟨c2,g1,g2⟩:=xB j h3 (by simpa using hj);exact ⟨c2,by simpa using g1,g2⟩
theorem xC:∀{l l':List C},lO rs l=some l'→l'.length=l.length
 | [],l',h=>by simp only [lO,aj] at h;subst h;rfl
 | c::t,l',h=>by
  simp only [lO] at h;obtain ⟨c1,h1,h2⟩:=fp.1 h;obtain ⟨t1,h3,rfl⟩:=bG h2;simp [xC h3]
theorem yc:∀{l:List C} {j:Nat} {c:C} {x:aI×Nat},l[j]? = some c→x∈c.wa→x∈kZ l
 | [],_,_,_,h,_=>by simp at h
 | y::t,0,c,x,h,hx=>by simp at h;subst h;simp [kZ,hx]
 | y::t,j+1,c,x,h,hx=>by simp only [kZ,dC];exact .inr (yc (by simpa using h) hx)
mutual
theorem JR:∀{c c':C},c.clean=true→c.dZ rs=some c'→c'.clean=true
 | .d x,c',h,hi=>by simp only [C.dZ,aj] at hi;subst hi;exact h
 | .ptr r g k,c',h,hi=>by simp only [C.dZ] at hi;obtain ⟨i,_,rfl⟩:=bG hi;rfl
 | .pp cells,c',h,hi=>by simp only [C.dZ,aj] at hi;subst hi;rfl
 | .fn f x y,c',h,hi=>by
  simp only [C.dZ] at hi;obtain ⟨x',h1,h2⟩:=fp.1 hi;obtain ⟨y',h3,rfl⟩:=bG h2;simp only [C.clean,bK] at h ⊢;exact ⟨JS h.1 h1,JS h.2 h3⟩
 | .cE,c',h,hi=>by simp only [C.dZ,aj] at hi;subst hi;rfl
 | .eW,c',h,hi=>by simp only [C.dZ,aj] at hi;subst hi;rfl
 | .fQ,c',h,hi=>by simp only [C.dZ,aj] at hi;subst hi;rfl
 | .fj,c',h,hi=>by simp only [C.dZ,aj] at hi;subst hi;rfl
 | .dead,c',h,hi=>by simp only [C.dZ,aj] at hi;subst hi;rfl
 | .eD ..,c',h,hi=>by simp [C.dZ] at hi
 | .view ..,c',h,hi=>by simp [C.dZ] at hi
 | .c7 ..,c',h,hi=>by simp [C.dZ] at hi
 | .mp _,c',h,hi=>by simp [C.dZ] at hi
 | .gk ..,c',h,hi=>by simp [C.dZ] at hi
theorem JS:∀{l l':List C},jo l=true→lO rs l=some l'→jo l'=true
 | [],l',h,hi=>by simp only [lO,aj] at hi;subst hi;rfl
 | c::t,l',h,hi=>by
  simp only [lO] at hi;obtain ⟨c1,h1,h2⟩:=fp.1 hi;obtain ⟨t1,h3,rfl⟩:=bG h2;simp only [jo,bK] at h ⊢;exact ⟨JR h.1 h1,JS h.2 h3⟩
end
theorem aF.enter {k:Key} {j:Nat} {c:C} {v:Value} (h:aF nm w L γ k j c v):∀{c':C},c.dZ rs=some c'→(∀x∈c.wa,x.2=γ (.r x.1))→c.clean=true→∀k' j',aF nm w (gu rs E L) (fun _=>0) k' j' c' v:=by
 induction h with
 | @d x v h=>
  intro c' hi hl hc k' j';simp only [C.dZ,aj] at hi;subst hi;cases h with
  | plain h=>exact .d (.plain (h.mono (fun B hB=>⟨va hB,rfl⟩)))
  | jm=>simp [C.clean] at hc
  | own=>simp [C.clean] at hc
 | @ptr r g c v hv hg h=>
  intro c' hi hl hc k' j';simp only [C.dZ] at hi;obtain ⟨i,h1,rfl⟩:=bG hi;have lu:=hl (r,g) (by simp [C.wa]);obtain ⟨B,o,h2,h3⟩:=h lu;exact .ptr hv (bT _) (fun _=>⟨B,o,zc h2 h1,h3⟩)
 | eD=>intro c' hi;simp [C.dZ] at hi
 | pp hL hB h=>
  intro c' hi hl hc k' j';simp only [C.dZ,aj] at hi;subst hi;refine .pp (va hL) hB (fun q x hx=>?_);obtain ⟨u,h1,h2⟩:=h q x hx;exact ⟨u,h1,h2.mono (fun B hB=>⟨va hB,rfl⟩)⟩
 | view=>intro c' hi;simp [C.dZ] at hi
 | c7=>intro c' hi;simp [C.dZ] at hi
 | mp=>intro c' hi;simp [C.dZ] at hi
 | gk=>intro c' hi;simp [C.dZ] at hi
 | @fns f l v B o cap cur e fz val hf hL hB aR hv h ih=>
  intro c' hi hl hc k' j';have sx:=JR hc hi;simp only [C.dZ] at hi;obtain ⟨x',g1,g2⟩:=fp.1 hi;obtain ⟨y',g3,rfl⟩:=bG g2;simp only [lO,aj] at g1;subst g1;simp only [C.clean,bK] at sx;simp only [C.wa,dC] at hl;have hlen:=xC g3;refine .fns val (by rw [hlen];exact hf) (va hL) hB sx.2 (by rw [hlen];exact hv) ?_;intro i x hx;obtain ⟨c0,k1,k2⟩:=xB i g3 hx;exact ih i c0 k1 k2 (fun y hy=>hl y (.inr (yc k1 hy))) (kj aR k1) _ _
 | @fn f first cap cH fs cs jH hf h1 h2 aR h3 h4 sL sM=>
  intro c' hi hl hc k' j';have sx:=JR hc hi;simp only [C.dZ] at hi;obtain ⟨x',g1,g2⟩:=fp.1 hi;obtain ⟨y',g3,rfl⟩:=bG g2;simp only [C.clean,bK] at sx;simp only [C.wa,dC] at hl;refine .fn jH hf (by rw [xC g1];exact h1) (by rw [xC g3];exact h2) sx ?_ ?_
  ·intro i x u hx hu;obtain ⟨c0,k1,k2⟩:=xB i g1 hx;exact sL i c0 u k1 hu k2 (fun y hy=>hl y (.inl (yc k1 hy))) (kj aR.1 k1) _ _
  ·intro i x u hx hu;obtain ⟨c0,k1,k2⟩:=xB i g3 hx;exact sM i c0 u k1 hu k2 (fun y hy=>hl y (.inr (yc k1 hy))) (kj aR.2 k1) _ _
 | cE=>intro c' hi _ _ _ _;simp only [C.dZ,aj] at hi;subst hi;exact .cE
 | eW=>intro c' hi _ _ _ _;simp only [C.dZ,aj] at hi;subst hi;exact .eW
 | fQ=>intro c' hi _ _ _ _;simp only [C.dZ,aj] at hi;subst hi;exact .fQ
 | fj=>intro c' hi _ _ _ _;simp only [C.dZ,aj] at hi;subst hi;exact .fj
 | bt=>intro c' hi _ hc;simp [C.clean] at hc
 | dead=>intro c' hi _ _ _ _;simp only [C.dZ,aj] at hi;subst hi;exact .dead
theorem ZF {rs:List aI} {c c':C} (hi:c.dZ rs=some c') {B o k:Nat} {e:TypeId} {n:Nat} {v:Value} (h:lJ c B o k e n v):lJ c' B o k e n v:=by
 cases c' with
 | bt t=>
  cases c with
  | bt t'=>simp only [C.dZ,aj,C.bt.injEq] at hi;subst hi;exact h
  | ptr r g c=>simp only [C.dZ] at hi;obtain ⟨i,_,h2⟩:=bG hi;cases h2
  | fn f a b=>simp only [C.dZ] at hi;obtain ⟨_,_,h2⟩:=fp.1 hi;obtain ⟨_,_,h3⟩:=bG h2;cases h3
  | _=>simp [C.dZ] at hi
 | _=>trivial
theorem aF.XB {r:aI} {c0 i:Nat} {c:C} {v:Value} (h:aF nm w L γ (.b r c0) 0 c v) {c':C} (hi:c.dZ rs=some c') (hl:∀x∈c.wa,x.2=γ (.r x.1)) (hE:E (.b r c0) = .one c) (hr:jn rs r 0=some i) :
  aF nm w (gu rs E L) (fun _=>0) (.b (.e i) c0) 0 c' v:=by
 cases c with
 | d x=>
  simp only [C.dZ,aj] at hi;subst hi;cases h with
  | d h=>
   refine .d ?_
   exact br.move (fun q => ⟨.b (.e i) c0, q.j, q.p⟩) (fun q => q.k = .b r c0) (fun _ _ _ h => h) (fun _ _ _ _ => rfl) (fun B hB => ⟨va hB, rfl⟩) (fun B q o hq hL => by
     obtain ⟨k, j, p⟩ := q
     simp only at hq
     subst hq
     exact ⟨ahL hL hr hE, rfl⟩) h rfl
 | c7=>simp [C.dZ] at hi
 | mp=>simp [C.dZ] at hi
 | bt t=>
  simp only [C.dZ,aj] at hi;subst hi;cases h with
  | bt hk hv=>exact .bt ⟨_,_,rfl⟩ hv
 | _=>exact h.enter hi hl (h.u4 rfl) _ _
theorem pd:∀(vs:List V) (i:Nat) (rest:St) (k:Key),St.get (ga i vs++rest) k=match k with
  | .s j=>if i≤j∧j < i+vs.length then ⟨vs.getD (j - i) V.dead,0⟩ else rest.get (.s j)
  | k=>rest.get k
 | [],i,rest,k=>by
  simp only [ga,uP];cases k<;>simp;intro h1 h2;omega
 | v::vs,i,rest,k=>by
  simp only [ga,qG,St.get];have ih:=pd vs (i+1) rest k;cases k with
  | s j=>
   simp only at ih ⊢;by_cases h:i=j
   ·subst h;simp
   ·rw [az (by simpa using h),ih];by_cases h2:i+1≤j∧j < i+1+vs.length
    ·rw [aJ h2,aJ ⟨by omega,by simp;omega⟩,show j - i=(j - (i+1))+1 by omega];rfl
    ·rw [az h2,az (by simp;omega)]
  | _=>simpa using ih
theorem VQ (r:aI):∀(cs:List C) (c0:Nat) (rest:St) (k:Key),St.get (Bc r c0 cs++rest) k=match k with
  | .b r' c=>if r'=r∧c0≤c∧c < c0+cs.length then ⟨.one (cs.getD (c - c0) .dead),0⟩ else rest.get (.b r' c)
  | k=>rest.get k
 | [],c0,rest,k=>by
  simp only [Bc,uP];cases k<;>simp;intro _ h1 h2;omega
 | x::cs,c0,rest,k=>by
  simp only [Bc,qG,St.get];have ih:=VQ r cs (c0+1) rest k;cases k with
  | b r' c=>
   simp only at ih ⊢;by_cases h:r=r'∧c0=c
   ·obtain ⟨rfl,rfl⟩:=h;simp
   ·rw [az (by simpa using h),ih];by_cases h2:r'=r∧c0+1≤c∧c < c0+1+cs.length
    ·rw [aJ h2,aJ ⟨h2.1,by omega,by simp;omega⟩,show c - c0=(c - (c0+1))+1 by omega];rfl
    ·rw [az h2,az];rintro ⟨h3,h4,h5⟩;subst h3;simp only [gp] at h5;by_cases h6:c0=c
     ·exact h ⟨rfl,h6⟩
     ·exact h2 ⟨rfl,by omega,by omega⟩
  | _=>simpa using ih
theorem pf:∀(bs:List (List C)) (i:Nat) (k:Key),St.get (dk i bs) k=match k with
  | .r (.e j)=>if i≤j∧j < i+bs.length then ⟨fw (bs.getD (j - i) []).length,0⟩ else ⟨.one .dead,0⟩
  | .b (.e j) c=>if (i≤j∧j < i+bs.length)∧c < (bs.getD (j - i) []).length then ⟨.one ((bs.getD (j - i) []).getD c .dead),0⟩ else ⟨.one .dead,0⟩
  | _=>⟨.one .dead,0⟩
 | [],i,k=>by
  simp only [dk,St.get];cases k with
  | r x=>
   cases x<;>simp;intro h1 h2;omega
  | b x c=>cases x<;>simp
  | _=>rfl
 | b::bs,i,k=>by
  simp only [dk,St.get];have ih:=pf bs (i+1) k;rw [VQ];cases k with
  | r x=>
   cases x with
   | e j=>
    simp only at ih ⊢;by_cases h:i=j
    ·subst h;simp
    ·rw [az (by simpa using h),ih];by_cases h2:i+1≤j∧j < i+1+bs.length
     ·rw [aJ h2,aJ ⟨by omega,by simp;omega⟩,show j - i=(j - (i+1))+1 by omega];rfl
     ·rw [az h2,az (by simp;omega)]
   | _=>simpa using ih
  | b x c=>
   cases x with
   | e j=>
    simp only at ih ⊢;by_cases h:i=j
    ·subst h;rw [az (by simp)];by_cases hc:c < b.length
     ·simp [hc]
     ·rw [az (by simp;omega),ih,az (by omega),az (by simp;omega)]
    ·rw [az (by simp),az (by simp;omega),ih];by_cases h2:(i+1≤j∧j < i+1+bs.length)∧c < (bs.getD (j - (i+1)) []).length
     ·rw [aJ h2,aJ ⟨⟨by omega,by simp;omega⟩,by rw [show j - i=(j - (i+1))+1 by omega];exact h2.2⟩,show j - i=(j - (i+1))+1 by omega];rfl
     ·rw [az h2,az];rintro ⟨⟨h3,h4⟩,h5⟩;simp only [gp] at h4;rw [show j - i=(j - (i+1))+1 by omega] at h5;exact h2 ⟨⟨by omega,by omega⟩,h5⟩
   | g j=>rw [az (by simp)];simpa using ih
   | l j=>rw [az (by simp)];simpa using ih
  | _=>rw [az (by simp)];simpa using ih
theorem H9:∀(l:List (aI×Nat)) (bj:List aI),bj.Nodup→(rZ bj l).Nodup∧(∃t,rZ bj l=bj++t)∧∀r∈rZ bj l,r∈bj∨∃g,(r,g)∈l
 | [],bj,h=>⟨h,⟨[],by simp [rZ]⟩,fun r hr=>.inl hr⟩
 | (x,g)::t,bj,h=>by
  simp only [rZ];split
  ·obtain ⟨h1,h2,h3⟩:=H9 t bj h;exact ⟨h1,h2,fun r hr=>(h3 r hr).imp id (fun ⟨g',hg⟩=>⟨g',by simp [hg]⟩)⟩
  ·rename_i hx;have hn:(bj++[x]).Nodup:=by
    rw [HK];refine ⟨h,by simp,fun a ha b hb=>?_⟩;simp only [uO] at hb;subst hb;rintro rfl;exact hx (by simpa using ha)
   obtain ⟨h1,⟨u,h2⟩,h3⟩:=H9 t (bj++[x]) hn;refine ⟨h1,⟨x::u,by rw [h2];simp⟩,fun r hr=>?_⟩;rcases h3 r hr with h4 | ⟨g',h4⟩
   ·rcases dC.1 h4 with h5 | h5
    ·exact .inl h5
    ·simp only [uO] at h5;subst h5;exact .inr ⟨g,by simp⟩
   ·exact .inr ⟨g',by simp [h4]⟩
def A3 (S0:St) (ws:List Wr) (r:aI):Prop:=pZ ws (.r r)=none∧r.iX=false
def wR (S0:St) (ws:List Wr) (x:aI×Nat):Prop:=x.2=S0.γ (.r x.1)∧A3 S0 ws x.1
theorem Gu:∀(l:List (aI×Nat)) {u:Unit},(xM ws l).run S0=some u→∀x∈l,wR S0 ws x
 | [],u,h,x,hx=>by simp at hx
 | (r,g)::t,u,h,x,hx=>by
  simp only [xM] at h;have h1:=Q.ni h;obtain ⟨h2,h3⟩:=Q.ek h1;simp only [bK,eV,nA,U3] at h2;rcases gV.1 hx with rfl | hx
  ·exact ⟨h2.1.1.symm,h2.1.2,h2.2⟩
  ·exact Gu t h3 x hx
theorem Mk {r:aI}:∀(n c:Nat) {cs:List C},(At ws r c n).run S0=some cs→cs.length=n∧∀j x,cs[j]? = some x→(S0.ah ws).E (.b r (c+j)) = .one x
 | 0,c,cs,h=>by
  simp only [At,Q.run_pure,aj] at h;subst h;exact ⟨rfl,fun j x hj=>by simp at hj⟩
 | n+1,c,cs,h=>by
  simp only [At] at h;rw [Q.run_bind,uZ,Option.bind_some] at h;split at h
  ·rename_i x hx;obtain ⟨t,h1,h2⟩:=Q.aK h;obtain rfl:=Q.aY h2;obtain ⟨g1,g2⟩:=Mk n (c+1) h1;refine ⟨by simp [g1],fun j y hj=>?_⟩;cases j with
   | zero=>simp at hj;subst hj;exact hx
   | succ j=>
    have:=g2 j y (by simpa using hj);rwa [show c+1+j=c+(j+1) by omega] at this
  ·cases h
theorem Yk:∀(fuel:Nat) (bj:List aI) (i:Nat) {rs:List aI} {bs:List (List C)},bj.Nodup→(zi ws fuel bj i).run S0=some (rs,bs)→rs.Nodup∧(∃t,rs=bj++t)∧(∀r∈rs,r∈bj∨A3 S0 ws r)∧bs.length=rs.length - i∧
  ∀(k:Nat) r cs,rs[i+k]? = some r→bs[k]? = some cs→cs.length=cm (S0.E (.r r))∧(∀j x,cs[j]? = some x→(S0.ah ws).E (.b r j) = .one x)∧∀x∈kZ cs,wR S0 ws x
 | 0,bj,i,rs,bs,hn,h=>by
  simp only [zi,Q.run_ite] at h;split at h
  ·rename_i hle;obtain ⟨rfl,rfl⟩:rs=bj∧bs=[]:=by simpa [eq_comm] using h
   exact ⟨hn,⟨[],by simp⟩,fun r hr=>.inl hr,by simp;omega,fun k r cs hk hc=>by simp at hc⟩
  ·cases h
 | f+1,bj,i,rs,bs,hn,h=>by
  simp only [zi] at h;split at h
  ·rename_i vC;obtain ⟨rfl,rfl⟩:rs=bj∧bs=[]:=by simpa [eq_comm] using h
   have:=UN.1 vC;exact ⟨hn,⟨[],by simp⟩,fun r hr=>.inl hr,by simp;omega,fun k r cs hk hc=>by simp at hc⟩
  ·rename_i r0 ug;have h1:=Q.ni h;obtain ⟨gX,h2,h3⟩:=Q.aK h1;obtain ⟨u,h4,h5⟩:=Q.aK h3;obtain ⟨⟨Td,dJ⟩,h6,h7⟩:=Q.aK h5;obtain ⟨rfl,rfl⟩:rs=Td∧bs=gX::dJ:=by simpa [eq_comm] using Q.aY h7
   obtain ⟨a1,⟨t1,a2⟩,a3⟩:=H9 (kZ gX) bj hn;obtain ⟨b1,⟨t2,b2⟩,b3,b4,b5⟩:=Yk f _ (i+1) a1 h6;obtain ⟨c1,c2⟩:=Mk _ _ h2;have me:=Gu _ h4;have hi:i < bj.length:=(cB.1 ug).1;have hlen:rs.length≥bj.length:=by rw [b2,a2];simp
   refine ⟨b1,⟨t1++t2,by rw [b2,a2];simp⟩,fun r hr=>?_,by simp [b4];omega,?_⟩
   ·rcases b3 r hr with h | h
    ·rcases a3 r h with h | ⟨g,h⟩
     ·exact .inl h
     ·exact .inr (me _ h).2
    ·exact .inr h
   ·intro k r cs hk hc;cases k with
    | zero=>
     simp only [kD,aj] at hc;subst hc;have:r=r0:=by
      rw [b2,a2,gW,eo,od hi,ug] at hk;simpa using hk.symm
     subst this;refine ⟨c1,fun j x hj=>?_,me⟩;have:=c2 j x hj;rwa [dc] at this
    | succ k=>
     exact b5 k r cs (by rw [show i+1+k=i+(k+1) by omega];exact hk) (by simpa using hc)
end
end
section
section
variable {nm:FuncId→Option Nat} {N:Nat} {S S0:St} {a:Act} {w w0 w':World} {L L0:aw} {P:Program} {o:Oper} {Cl:bW} {d:Nat} {ws:List Wr} {γ:Key→Nat} {rs:List aI} {E:Key→V}
theorem getD_some {α:Type} {l:List α} {i:Nat} {d:α} (h:i < l.length):l[i]? = some (l.getD i d):=by
 rw [ke h,kC,ke h];rfl
theorem ZG:∀{l l':List V} (j:Nat) {c':V},uj rs l=some l'→l'[j]? = some c'→∃c,l[j]? = some c∧c.Cs rs=some c'
 | [],l',j,c',h,hj=>by simp only [uj,aj] at h;subst h;simp at hj
 | c::t,l',j,c',h,hj=>by
  simp only [uj] at h;obtain ⟨c1,h1,h2⟩:=fp.1 h;obtain ⟨t1,h3,rfl⟩:=bG h2;cases j with
  | zero=>simp at hj;subst hj;exact ⟨c,rfl,h1⟩
  | succ j=>obtain ⟨c2,g1,g2⟩:=ZG j h3 (by simpa using hj);exact ⟨c2,by simpa using g1,g2⟩
theorem QZ:∀{l l':List V},uj rs l=some l'→l'.length=l.length
 | [],l',h=>by simp only [uj,aj] at h;subst h;rfl
 | c::t,l',h=>by
  simp only [uj] at h;obtain ⟨c1,h1,h2⟩:=fp.1 h;obtain ⟨t1,h3,rfl⟩:=bG h2;simp [QZ h3]
theorem QX:∀{l l':List (List C)} (j:Nat) {c':List C},pB rs l=some l'→l'[j]? = some c'→∃c,l[j]? = some c∧lO rs c=some c'
 | [],l',j,c',h,hj=>by simp only [pB,aj] at h;subst h;simp at hj
 | c::t,l',j,c',h,hj=>by
  simp only [pB] at h;obtain ⟨c1,h1,h2⟩:=fp.1 h;obtain ⟨t1,h3,rfl⟩:=bG h2;cases j with
  | zero=>simp at hj;subst hj;exact ⟨c,rfl,h1⟩
  | succ j=>obtain ⟨c2,g1,g2⟩:=QX j h3 (by simpa using hj);exact ⟨c2,by simpa using g1,g2⟩
theorem QY:∀{l l':List (List C)},pB rs l=some l'→l'.length=l.length
 | [],l',h=>by simp only [pB,aj] at h;subst h;rfl
 | c::t,l',h=>by
  simp only [pB] at h;obtain ⟨c1,h1,h2⟩:=fp.1 h;obtain ⟨t1,h3,rfl⟩:=bG h2;simp [QY h3]
theorem ad1:∀{l:List V} {j:Nat} {v:V} {x:aI×Nat},l[j]? = some v→x∈kZ v.cells→x∈tu l
 | [],_,_,_,h,_=>by simp at h
 | y::t,0,c,x,h,hx=>by simp at h;subst h;simp [tu,hx]
 | y::t,j+1,c,x,h,hx=>by simp only [tu,dC];exact .inr (ad1 (by simpa using h) hx)
theorem bD.enter {k:Key} {x:V} {v:Value} (h:bD nm w L γ k x v) {x':V} (hi:x.Cs rs=some x') (hl:∀y∈kZ x.cells,y.2=γ (.r y.1)) (hc:x.clean=true) (k':Key):bD nm w (gu rs E L) (fun _=>0) k' x' v:=by
 cases h with
 | @one c v h=>
  simp only [V.Cs] at hi;obtain ⟨c',h1,rfl⟩:=bG hi;exact .one (h.enter h1 (fun y hy=>hl y (by simp [V.cells,kZ,hy])) hc _ _)
 | @agg cs vs hlen h=>
  simp only [V.Cs] at hi;obtain ⟨eA,h1,rfl⟩:=bG hi;refine .agg (by rw [xC h1];exact hlen) (fun j c u hj hu=>?_);obtain ⟨c0,g1,g2⟩:=xB j h1 hj;exact (h j c0 u g1 hu).enter g2 (fun y hy=>hl y (yc g1 hy)) (kj hc g1) _ _
 | aq=>simp [V.Cs] at hi
theorem Bz (vs:List V) (bs:List (List C)):(ga 0 vs++dk 0 bs:St).γ=fun _=>0:=by
 funext k;unfold St.γ;rw [pd];cases k with
 | s j=>simp only;split;rfl;rw [pf]
 | r x=>simp only;rw [pf];cases x<;>simp only<;>(try split)<;>rfl
 | b x c=>simp only;rw [pf];cases x<;>simp only<;>(try split)<;>rfl
 | h i=>simp only;rw [pf]
 | a k=>simp only;rw [pf]
theorem Il (bs:List (List C)):(dk 0 bs:St).γ=fun _=>0:=by
 have:=Bz [] bs;simpa [ga] using this
theorem pg (bs:List (List C)) (k:Key):(dk 0 bs:St).E k=match k with
  | .r (.e j)=>if j < bs.length then fw (bs.getD j []).length else V.dead
  | .b (.e j) c=>if j < bs.length∧c < (bs.getD j []).length then .one ((bs.getD j []).getD c .dead) else V.dead
  | _=>V.dead:=by
 unfold St.E;rw [pf];cases k with
 | r x=>cases x<;>simp only<;>(try (simp only [yH,lk,dc,D0];split<;>rfl))<;>rfl
 | b x c=>cases x<;>simp only<;>(try (simp only [yH,lk,dc,D0];split<;>rfl))<;>rfl
 | _=>rfl
theorem ahM (M:ch nm N S0 w0 L0 ws a w L) {vs eR:List V} {bs dJ:List (List C)} (me:∀x∈tu vs,wR S0 ws x) (hg:(zi ws 40 (rZ [] (tu vs)) 0).run S0=some (rs,bs)) (kV:uj rs vs=some eR) (p8:pB rs bs=some dJ)
  {args:Array Value} (aZ:args.size=vs.length) (aR:iB vs=true) (kR:∀(j:Nat) x u,vs[j]? = some x→args[j]? = some u→bD nm w L (S0.ah ws).γ (.h 0) x u) :
  Rel nm eR.length (ga 0 eR++dk 0 dJ) ⟨args,[]⟩ w (gu rs (S0.ah ws).E L)∧eI (gu rs (S0.ah ws).E L)∧rs.Nodup∧(∀r∈rs,A3 S0 ws r)∧bs.length=rs.length∧dJ.length=rs.length∧
   (∀(k:Nat) r cs,rs[k]? = some r→bs[k]? = some cs→cs.length=cm (S0.E (.r r))∧(∀j x,cs[j]? = some x→(S0.ah ws).E (.b r j) = .one x)):=by
 obtain ⟨a1,⟨t1,a2⟩,a3⟩:=H9 (tu vs) [] List.nodup_nil;obtain ⟨b1,⟨t2,b2⟩,b3,b4,b5⟩:=Yk 40 _ 0 a1 hg;have lu:∀r∈rs,A3 S0 ws r:=by
  intro r hr;rcases b3 r hr with h | h
  ·rcases a3 r h with h | ⟨g,h⟩
   ·simp at h
   ·exact (me _ h).2
  ·exact h
 have tW:bs.length=rs.length:=by rw [b4];omega
 have ai':dJ.length=rs.length:=by rw [QY p8,tW]
 have PL:∀(k:Nat) r cs,rs[k]? = some r→bs[k]? = some cs→cs.length=cm (S0.E (.r r))∧(∀j x,cs[j]? = some x→(S0.ah ws).E (.b r j) = .one x)∧∀x∈kZ cs,wR S0 ws x:=
  fun k r cs h1 h2=>b5 k r cs (by rw [dc];exact h1) h2
 have hγ:∀{x:aI×Nat},wR S0 ws x→x.2=(S0.ah ws).γ (.r x.1):=fun h=>by rw [HS h.2.1];exact h.1
 have box:∀j,j < dJ.length→∃r cs,rs[j]? = some r∧bs[j]? = some cs∧lO rs cs=some (dJ.getD j [])∧(dJ.getD j []).length=cm ((S0.ah ws).E (.r r))∧r.iX=false∧jn rs r 0=some j∧
   (∀i x,cs[i]? = some x→(S0.ah ws).E (.b r i) = .one x)∧∀x∈kZ cs,wR S0 ws x:=by
  intro j hj;have ua:dJ[j]? = some (dJ.getD j []):=by simp [kC,hj]
  obtain ⟨cs,h1,h2⟩:=QX j p8 ua;have Qk:j < rs.length:=by omega
  obtain ⟨c1,c2,c3⟩:=PL j rs[j] cs (by simp) h1;have hl:=lu rs[j] (bL Qk);refine ⟨rs[j],cs,by simp,h1,h2,?_,hl.2,?_,c2,c3⟩
  ·rw [xC h2,c1,BN,hl.1];rfl
  ·have:=yk rs (i:=0) b1 (show rs[j]? = some rs[j] by simp);rwa [dc] at this
 refine ⟨⟨?_,rfl,?_,?_,?_,?_,?_,?_,?_,?_⟩,?_,b1,lu,tW,ai',fun k r cs h1 h2=>⟨(PL k r cs h1 h2).1,(PL k r cs h1 h2).2.1⟩⟩
 ·rw [aZ,QZ kV]
 ·intro i;rw [Bz];show bD nm w _ _ (.s i) ((ga 0 eR++dk 0 dJ:St).E (.s i)) (args.getD i undef);have hE:(ga 0 eR++dk 0 dJ:St).E (.s i)=if i < eR.length then eR.getD i V.dead else V.dead:=by
   unfold St.E;rw [pd];simp only [yH,lk,dc,D0];split
   ·rfl
   ·rw [pf];rfl
  rw [hE];split
  ·rename_i hi;obtain ⟨x,h1,h2⟩:=ZG i kV (show eR[i]? = some (eR.getD i V.dead) by simp [kC,hi]);have vu:i < args.size:=by rw [aZ,←QZ kV];exact hi
   have:=(kR i x args[i] h1 (by simp [vu])).enter (E:=(S0.ah ws).E) h2 (fun y hy=>hγ (me y (ad1 h1 hy))) (Ex aR h1) (.s i);simpa [Array.getD,vu] using this
  ·exact .one .dead
 ·intro r c x hx gj;have fG:(dk 0 dJ:St).E (.b r c) = .one x:=by
   have:=hx;unfold St.E at this ⊢;rw [pd] at this;exact this
  rw [Bz];rw [pg] at fG;cases r with
  | g i=>simp only [V.dead,V.one.injEq] at fG;exact absurd fG.symm gj
  | l i=>simp only [V.dead,V.one.injEq] at fG;exact absurd fG.symm gj
  | e j=>
   simp only at fG;split at fG
   ·rename_i Fh;obtain ⟨r0,cs,h1,h2,h3,h4,h5,h6,h7,h8⟩:=box j Fh.1;simp only [V.one.injEq] at fG;obtain ⟨y,k1,k2⟩:=xB c h3 (show (dJ.getD j [])[c]? = some x by rw [←fG];exact getD_some Fh.2);have FM:=h7 c y k1;have ji:y≠.dead:=by
     rintro rfl;simp only [C.dZ,aj] at k2;exact gj k2.symm
    have oB:=M.rel.cell r0 c y FM ji;have ex:∃B o cur e fz v,L B=some (.box r0 o)∧w.heap[B]? = some (.cells cur e fz)∧jC cur.size fz∧cur[o+c]? = some v∧aF nm w L (S0.ah ws).γ (.b r0 c) 0 y v∧lJ y B o c e cur.size v:=by
     cases r0 with
     | g i=>simp [aI.iX] at h5
     | e i=>exact oB
     | l i=>exact oB
    obtain ⟨B,o,cur,e,fz,v,m1,m2,m3,m4,m5,m6⟩:=ex;exact ⟨B,o,cur,e,fz,v,zc m1 h6,m2,m3,m4,m5.XB k2 (fun z hz=>hγ (h8 z (yc k1 hz))) FM h6,ZF k2 m6⟩
   ·simp only [V.dead,V.one.injEq] at fG;exact absurd fG.symm gj
 ·intro r c;have:(ga 0 eR++dk 0 dJ:St).E (.b r c)=(dk 0 dJ:St).E (.b r c):=by unfold St.E;rw [pd]
  rw [this,pg];cases r with
  | e j=>
   simp only;split
   ·exact ⟨(dJ.getD j []).getD c .dead,rfl⟩
   ·exact ⟨.dead,rfl⟩
  | g i=>exact ⟨.dead,rfl⟩
  | l i=>exact ⟨.dead,rfl⟩
 ·intro r c hc;have h1:(ga 0 eR++dk 0 dJ:St).E (.b r c)=(dk 0 dJ:St).E (.b r c):=by unfold St.E;rw [pd]
  have h2:(ga 0 eR++dk 0 dJ:St).E (.r r)=(dk 0 dJ:St).E (.r r):=by unfold St.E;rw [pd]
  rw [h2] at hc;rw [h1];rw [pg] at hc ⊢;cases r with
  | e j=>
   simp only at hc ⊢;by_cases hj:j < dJ.length
   ·rw [aJ hj,qN] at hc;rw [az (fun h=>by omega)];rfl
   ·rw [az (fun h=>hj h.1)];rfl
  | g i=>rfl
  | l i=>rfl
 ·intro r hg hr;have h2:(ga 0 eR++dk 0 dJ:St).E (.r r)=(dk 0 dJ:St).E (.r r):=by unfold St.E;rw [pd]
  rw [h2] at hr ⊢;rw [pg] at hr ⊢;cases r with
  | e j=>
   simp only at hr ⊢;by_cases hj:j < dJ.length
   ·rw [aJ hj,qN] at hr ⊢;obtain ⟨r0,cs,h1,h2,h3,h4,h5,h6,h7,h8⟩:=box j hj;rw [h4] at hr ⊢;obtain ⟨B,o,cur,e,fz,m1,m2,m3,m4⟩:=M.rel.room r0 h5 hr;exact ⟨B,o,cur,e,fz,zc m1 h6,m2,m3,m4⟩
   ·rw [az hj] at hr;simp [V.dead,cm] at hr
  | g i=>simp [aI.iX] at hg
  | l i=>simp [V.dead,cm] at hr
 ·intro B l hB;rcases pn hB with ⟨_,h⟩ | ⟨_,_,_,_,h,_⟩ | ⟨_,_,_,_,_,_,_,_,h,_⟩<;>exact M.rel.fq B _ h
 ·intro B B' pl o o' h1 h2;rcases pn h1 with ⟨h,_⟩ | ⟨_,_,_,h,_⟩ | ⟨r,c,j,p,o1,i,x,h,k1,k2,_⟩
  ·cases h
  ·cases h
  rcases pn h2 with ⟨h',_⟩ | ⟨_,_,_,h',_⟩ | ⟨r',c',j',p',mZ,i',x',h',zT,zU,_⟩
  ·cases h'
  ·cases h'
  simp only [bQ.row.injEq] at h h';obtain ⟨rfl,rfl⟩:=h;obtain ⟨h',rfl⟩:=h';simp only [Place.mk.injEq,Key.b.injEq,aI.e.injEq] at h';obtain ⟨⟨rfl,rfl⟩,rfl,rfl⟩:=h';have e1:=(qz rs k2).2;have e2:=(qz rs zU).2;rw [e1] at e2;simp only [aj] at e2;subst e2;exact M.rel.eM B B' _ _ _ k1 zT
 ·intro B B' r o o' h1 h2;rcases pn h1 with ⟨h,_⟩ | ⟨r1,o1,i,h,k1,k2⟩ | ⟨_,_,_,_,_,_,_,h,_⟩
  ·cases h
  ·rcases pn h2 with ⟨h',_⟩ | ⟨GZ,mZ,i',h',zT,zU⟩ | ⟨_,_,_,_,_,_,_,h',_⟩
   ·cases h'
   ·simp only [bQ.box.injEq] at h h';obtain ⟨rfl,rfl⟩:=h;obtain ⟨h',rfl⟩:=h';simp only [aI.e.injEq] at h';subst h';have e1:=(qz rs k2).2;have e2:=(qz rs zU).2;rw [e1] at e2;simp only [aj] at e2;subst e2;exact M.rel.fA B B' _ _ _ k1 zT
   ·cases h'
  ·cases h
 ·intro B q o hB;rcases pn hB with ⟨h,_⟩ | ⟨_,_,_,h,_⟩ | ⟨_,_,_,_,_,_,_,h,_⟩
  ·cases h
  ·cases h
  ·simp only [bQ.row.injEq] at h;rw [h.1];rfl
end
end
section
def jq (rs:List aI) (ok:Nat→Nat→Bool) (size:Nat) (L Lc eS:aw):aw:=fun B=>
 if (Lc B).isNone=true∧B < size then
  match L B with
  | some (.row ⟨.b r c,j,p⟩ o)=>(match jn rs r 0 with | some i=>if ok i c=true then none else some (.row ⟨.b r c,j,p⟩ o) | none=>some (.row ⟨.b r c,j,p⟩ o))
  | some (.box r o)=>if rs.contains r=true then none else some (.box r o)
  | x=>x
 else
  match eS B with
  | some .bh=>some .bh
  | some (.box (.e i) o)=>(rs[i]?).map fun r=>.box r o
  | some (.row ⟨.b (.e i) c,j,p⟩ o)=>(match rs[i]? with | some r=>if ok i c=true then some (.row ⟨.b r c,j,p⟩ o) else none | none=>none)
  | some (.row ⟨.h 0,j,p⟩ o)=>some (.row ⟨.h 0,j,p⟩ o)
  | _=>none
mutual
theorem L4 {gs:List (aI×Nat)}:∀{c c':C},c.clean=true→c.dT gs=some c'→c'.clean=true
 | .d x,c',h,hi=>by simp only [C.dT,aj] at hi;subst hi;exact h
 | .ptr (.e i) g k,c',h,hi=>by simp only [C.dT] at hi;obtain ⟨i,_,rfl⟩:=bG hi;rfl
 | .ptr (.l i) g k,c',h,hi=>by simp [C.dT] at hi
 | .ptr (.g i) g k,c',h,hi=>by simp [C.dT] at hi
 | .pp cells,c',h,hi=>by simp only [C.dT,aj] at hi;subst hi;rfl
 | .fn f x y,c',h,hi=>by
  simp only [C.dT] at hi;obtain ⟨x',h1,h2⟩:=fp.1 hi;obtain ⟨y',h3,rfl⟩:=bG h2;simp only [C.clean,bK] at h ⊢;exact ⟨L5 h.1 h1,L5 h.2 h3⟩
 | .cE,c',h,hi=>by simp only [C.dT,aj] at hi;subst hi;rfl
 | .eW,c',h,hi=>by simp only [C.dT,aj] at hi;subst hi;rfl
 | .fQ,c',h,hi=>by simp only [C.dT,aj] at hi;subst hi;rfl
 | .fj,c',h,hi=>by simp only [C.dT,aj] at hi;subst hi;rfl
 | .dead,c',h,hi=>by simp only [C.dT,aj] at hi;subst hi;rfl
 | .eD ..,c',h,hi=>by simp [C.dT] at hi
 | .view ..,c',h,hi=>by simp [C.dT] at hi
 | .c7 ..,c',h,hi=>by simp [C.dT] at hi
 | .mp _,c',h,hi=>by simp [C.dT] at hi
 | .gk ..,c',h,hi=>by simp [C.dT] at hi
theorem L5 {gs:List (aI×Nat)}:∀{l l':List C},jo l=true→nh gs l=some l'→jo l'=true
 | [],l',h,hi=>by simp only [nh,aj] at hi;subst hi;rfl
 | c::t,l',h,hi=>by
  simp only [nh] at hi;obtain ⟨c1,h1,h2⟩:=fp.1 hi;obtain ⟨t1,h3,rfl⟩:=bG h2;simp only [jo,bK] at h ⊢;exact ⟨L4 h.1 h1,L5 h.2 h3⟩
end
theorem Di {gs:List (aI×Nat)}:∀{l l':List C} (j:Nat) {c':C},nh gs l=some l'→l'[j]? = some c'→∃c,l[j]? = some c∧c.dT gs=some c'
 | [],l',j,c',h,hj=>by simp only [nh,aj] at h;subst h;simp at hj
 | c::t,l',j,c',h,hj=>by
  simp only [nh] at h;obtain ⟨c1,h1,h2⟩:=fp.1 h;obtain ⟨t1,h3,rfl⟩:=bG h2;cases j with
  | zero=>simp at hj;subst hj;exact ⟨c,rfl,h1⟩
  | succ j=>obtain ⟨c2,g1,g2⟩:=Di j h3 (by simpa using hj);exact ⟨c2,by simpa using g1,g2⟩
theorem Dj {gs:List (aI×Nat)}:∀{l l':List C},nh gs l=some l'→l'.length=l.length
 | [],l',h=>by simp only [nh,aj] at h;subst h;rfl
 | c::t,l',h=>by
  simp only [nh] at h;obtain ⟨c1,h1,h2⟩:=fp.1 h;obtain ⟨t1,h3,rfl⟩:=bG h2;simp [Dj h3]
theorem abD {gs:List (aI×Nat)}:∀{l l':List V} (j:Nat) {c':V},sY gs l=some l'→l'[j]? = some c'→∃c,l[j]? = some c∧c.pG gs=some c'
 | [],l',j,c',h,hj=>by simp only [sY,aj] at h;subst h;simp at hj
 | c::t,l',j,c',h,hj=>by
  simp only [sY] at h;obtain ⟨c1,h1,h2⟩:=fp.1 h;obtain ⟨t1,h3,rfl⟩:=bG h2;cases j with
  | zero=>simp at hj;subst hj;exact ⟨c,rfl,h1⟩
  | succ j=>obtain ⟨c2,g1,g2⟩:=abD j h3 (by simpa using hj);exact ⟨c2,by simpa using g1,g2⟩
theorem abE {gs:List (aI×Nat)}:∀{l l':List V},sY gs l=some l'→l'.length=l.length
 | [],l',h=>by simp only [sY,aj] at h;subst h;rfl
 | c::t,l',h=>by
  simp only [sY] at h;obtain ⟨c1,h1,h2⟩:=fp.1 h;obtain ⟨t1,h3,rfl⟩:=bG h2;simp [abE h3]
mutual
theorem aoj {gs:List (aI×Nat)}:∀{c c':V},c.clean=true→c.pG gs=some c'→c'.clean=true
 | .one c,c',h,hi=>by simp only [V.pG] at hi;obtain ⟨x,h1,rfl⟩:=bG hi;exact L4 (c:=c) h h1
 | .agg cs,c',h,hi=>by simp only [V.pG] at hi;obtain ⟨x,h1,rfl⟩:=bG hi;exact L5 (l:=cs) h h1
 | .aq vs,c',h,hi=>by simp only [V.pG] at hi;obtain ⟨x,h1,rfl⟩:=bG hi;exact So (l:=vs) h h1
theorem So {gs:List (aI×Nat)}:∀{l l':List V},iB l=true→sY gs l=some l'→iB l'=true
 | [],l',h,hi=>by simp only [sY,aj] at hi;subst hi;rfl
 | c::t,l',h,hi=>by
  simp only [sY] at hi;obtain ⟨c1,h1,h2⟩:=fp.1 hi;obtain ⟨t1,h3,rfl⟩:=bG h2;simp only [iB,bK] at h ⊢;exact ⟨aoj h.1 h1,So h.2 h3⟩
end
theorem abB {gs:List (aI×Nat)}:∀{l l':List (List C)} (j:Nat) {c':List C},rn gs l=some l'→l'[j]? = some c'→∃c,l[j]? = some c∧nh gs c=some c'
 | [],l',j,c',h,hj=>by simp only [rn,aj] at h;subst h;simp at hj
 | c::t,l',j,c',h,hj=>by
  simp only [rn] at h;obtain ⟨c1,h1,h2⟩:=fp.1 h;obtain ⟨t1,h3,rfl⟩:=bG h2;cases j with
  | zero=>simp at hj;subst hj;exact ⟨c,rfl,h1⟩
  | succ j=>obtain ⟨c2,g1,g2⟩:=abB j h3 (by simpa using hj);exact ⟨c2,by simpa using g1,g2⟩
theorem Sn {gs:List (aI×Nat)}:∀{l l':List (List C)},rn gs l=some l'→l'.length=l.length
 | [],l',h=>by simp only [rn,aj] at h;subst h;rfl
 | c::t,l',h=>by
  simp only [rn] at h;obtain ⟨c1,h1,h2⟩:=fp.1 h;obtain ⟨t1,h3,rfl⟩:=bG h2;simp [Sn h3]
section
variable {nm:FuncId→Option Nat} {N:Nat} {a:Act} {w w':World} {L Lc eS L2:aw} {γ2:Key→Nat} {gs:List (aI×Nat)}
structure D4 (w':World) (eS L2:aw) (γ2:Key→Nat) (gs:List (aI×Nat)):Prop where
 bh:∀B,eS B=some .bh→L2 B=some .bh
 box:∀B (i:Nat) r g o,gs[i]? = some (r,g)→eS B=some (.box (.e i) o)→L2 B=some (.box r o)
 gen:∀(i:Nat) r g,gs[i]? = some (r,g)→g≤γ2 (.r r)
theorem aF.back {k:Key} {j:Nat} {c:C} {v:Value} (hb:D4 w' eS L2 γ2 gs) (h:aF nm w' eS (fun _=>0) k j c v):∀{c':C},c.dT gs=some c'→c.clean=true→∀k' j',aF nm w' L2 γ2 k' j' c' v:=by
 have fT:rW w' w' eS L2:=fun B hB=>⟨hb.bh B hB,rfl⟩
 induction h with
 | @d x v h=>
  intro c' hi hc k' j';simp only [C.dT,aj] at hi;subst hi;cases h with
  | plain h=>exact .d (.plain (h.mono fT))
  | jm=>simp [C.clean] at hc
  | own=>simp [C.clean] at hc
 | @ptr r g c v hv hg h=>
  intro c' hi hc k' j';cases r with
  | e i=>
   simp only [C.dT] at hi;obtain ⟨⟨r',g'⟩,h1,rfl⟩:=bG hi;obtain ⟨B,o,h2,h3⟩:=h (by omega);exact .ptr hv (hb.gen i r' g' h1) (fun _=>⟨B,o,hb.box B i r' g' o h1 h2,h3⟩)
  | l i=>simp [C.dT] at hi
  | g i=>simp [C.dT] at hi
 | eD=>intro c' hi;simp [C.dT] at hi
 | pp hL hB h=>
  intro c' hi hc k' j';simp only [C.dT,aj] at hi;subst hi;refine .pp (hb.bh _ hL) hB (fun q x hx=>?_);obtain ⟨u,h1,h2⟩:=h q x hx;exact ⟨u,h1,h2.mono fT⟩
 | view=>intro c' hi;simp [C.dT] at hi
 | c7=>intro c' hi;simp [C.dT] at hi
 | mp=>intro c' hi;simp [C.dT] at hi
 | gk=>intro c' hi;simp [C.dT] at hi
 | @fns f l v B o cap cur e fz val hf hL hB aR hv h ih=>
  intro c' hi hc k' j';have sx:=L4 hc hi;simp only [C.dT] at hi;obtain ⟨x',g1,g2⟩:=fp.1 hi;obtain ⟨y',g3,rfl⟩:=bG g2;simp only [nh,aj] at g1;subst g1;simp only [C.clean,bK] at sx;have hlen:=Dj g3;refine .fns val (by rw [hlen];exact hf) (hb.bh _ hL) hB sx.2 (by rw [hlen];exact hv) ?_;intro i x hx;obtain ⟨c0,k1,k2⟩:=Di i g3 hx;exact ih i c0 k1 k2 (kj aR k1) _ _
 | @fn f first cap cH fs cs jH hf h1 h2 aR h3 h4 sL sM=>
  intro c' hi hc k' j';have sx:=L4 hc hi;simp only [C.dT] at hi;obtain ⟨x',g1,g2⟩:=fp.1 hi;obtain ⟨y',g3,rfl⟩:=bG g2;simp only [C.clean,bK] at sx;refine .fn jH hf (by rw [Dj g1];exact h1) (by rw [Dj g3];exact h2) sx ?_ ?_
  ·intro i x u hx hu;obtain ⟨c0,k1,k2⟩:=Di i g1 hx;exact sL i c0 u k1 hu k2 (kj aR.1 k1) _ _
  ·intro i x u hx hu;obtain ⟨c0,k1,k2⟩:=Di i g3 hx;exact sM i c0 u k1 hu k2 (kj aR.2 k1) _ _
 | cE=>intro c' hi _ _ _;simp only [C.dT,aj] at hi;subst hi;exact .cE
 | eW=>intro c' hi _ _ _;simp only [C.dT,aj] at hi;subst hi;exact .eW
 | fQ=>intro c' hi _ _ _;simp only [C.dT,aj] at hi;subst hi;exact .fQ
 | fj=>intro c' hi _ _ _;simp only [C.dT,aj] at hi;subst hi;exact .fj
 | bt=>intro c' hi hc;simp [C.clean] at hc
 | dead=>intro c' hi _ _ _;simp only [C.dT,aj] at hi;subst hi;exact .dead
theorem abC {gs:List (aI×Nat)} {c c':C} (hi:c.dT gs=some c') {B o k:Nat} {e:TypeId} {n:Nat} {v:Value} (h:lJ c B o k e n v):lJ c' B o k e n v:=by
 cases c' with
 | bt t=>
  cases c with
  | bt t'=>simp only [C.dT,aj,C.bt.injEq] at hi;subst hi;exact h
  | ptr r g c=>
   cases r with
   | e i=>simp only [C.dT] at hi;obtain ⟨i,_,h2⟩:=bG hi;cases h2
   | l i=>simp [C.dT] at hi
   | g i=>simp [C.dT] at hi
  | fn f a b=>simp only [C.dT] at hi;obtain ⟨_,_,h2⟩:=fp.1 hi;obtain ⟨_,_,h3⟩:=bG h2;cases h3
  | _=>simp [C.dT] at hi
 | _=>trivial
theorem aF.NR {k k':Key} {j:Nat} {c:C} {v:Value} (hb:D4 w' eS L2 γ2 gs) (h:aF nm w' eS (fun _=>0) k j c v) {c':C} (hi:c.dT gs=some c')
  (df:∀x,c = .d x→∀B q o,q.k=k→q.j=j→eS B=some (.row q o)→L2 B=some (.row ⟨k',j,q.p⟩ o)) (hkk:(∃r c,k = .b r c)→∃r c,k' = .b r c:=by first | exact fun h=>h | exact fun _=>⟨_,_,rfl⟩ | (rintro ⟨r,c,h⟩;cases h;done)):aF nm w' L2 γ2 k' j c' v:=by
 cases c with
 | d x=>
  simp only [C.dT,aj] at hi;subst hi;cases h with
  | d h=>
   exact .d (br.move (fun q=>⟨k',j,q.p⟩) (fun q=>q.k=k∧q.j=j) (fun _ _ _ h=>h) (fun _ _ _ _=>rfl) (fun B hB=>⟨hb.bh B hB,rfl⟩) (fun B q o hq hL=>⟨df x rfl B q o hq.1 hq.2 hL,rfl⟩) h ⟨rfl,rfl⟩)
 | c7=>simp [C.dT] at hi
 | mp=>simp [C.dT] at hi
 | bt t=>
  simp only [C.dT,aj] at hi;subst hi;cases h with
  | bt hk hv=>exact .bt (hkk hk) hv
 | _=>exact h.back hb hi (h.u4 rfl) _ _
theorem bD.back {x:V} {v:Value} (hb:D4 w' eS L2 γ2 gs) (h:bD nm w' eS (fun _=>0) (.h 0) x v):∀{x':V},x.pG gs=some x'→(∀B q o,q.k = .h 0→eS B=some (.row q o)→L2 B=some (.row q o))→bD nm w' L2 γ2 (.h 0) x' v:=by
 induction h with
 | @one c v h=>
  intro x' hi df;simp only [V.pG] at hi;obtain ⟨c',h1,rfl⟩:=bG hi;exact .one (h.NR hb h1 (fun x _ B q o h1 h2 h3=>by have:=df B q o h1 h3;rw [this];cases q;simp_all))
 | @agg cs vs hl h=>
  intro x' hi df;simp only [V.pG] at hi;obtain ⟨eA,h1,rfl⟩:=bG hi;refine .agg (by rw [Dj h1];exact hl) (fun j c u hj hu=>?_);obtain ⟨c0,g1,g2⟩:=Di j h1 hj;exact (h j c0 u g1 hu).NR hb g2 (fun x _ B q o h1 h2 h3=>by have:=df B q o h1 h3;rw [this];cases q;simp_all)
 | @aq vs us hl aR h ih=>
  intro x' hi df;simp only [V.pG] at hi;obtain ⟨eR,h1,rfl⟩:=bG hi;refine .aq (by rw [abE h1];exact hl) (So aR h1) (fun i x u hj hu=>?_);obtain ⟨c0,g1,g2⟩:=abD i h1 hj;exact ih i c0 u g1 hu g2 df
structure Nq (S1 S2:St) (rs:List aI) (cK:List (List C)) (ok:Nat→Nat→Bool):Prop where
 len:cK.length=rs.length
 Om:∀(i:Nat) r (cs:List C),rs[i]? = some r→cK[i]? = some cs→∀(c:Nat) x,cs[c]? = some x→S2.E (.b r c) = .one x
 out:∀(i:Nat) r (cs:List C),rs[i]? = some r→cK[i]? = some cs→∀c,cs.length≤c→S2.E (.b r c) = .one .dead
 size:∀(i:Nat) r (cs:List C),rs[i]? = some r→cK[i]? = some cs→cm (S2.E (.r r))=cs.length
 other:∀k,(∀r c,k = .b r c→r∉rs)→(∀r,k = .r r→r∉rs)→S2.E k=S1.E k
 dQ:∀k,S1.γ k≤S2.γ k
 wr:∀(i:Nat) r c,rs[i]? = some r→ok i c=true→S1.γ (.b r c) < S2.γ (.b r c)
 acW:∀(i:Nat) r c,rs[i]? = some r→ok i c=false→∀x,S1.E (.b r c)≠.one (.d x)
 same:∀(i:Nat) r (cs:List C),rs[i]? = some r→cK[i]? = some cs→∀(c:Nat) x,cs[c]? = some x→ok i c=false→∀y,x≠.d y
theorem XW {S1 S2:St} {qF rs:List aI} {cK out:List (List C)} {ok:Nat→Nat→Bool} (R:Rel nm N S1 a w L) (hH:eI L) (jh:rs.Nodup) (qZ:∃t,rs=qF++t) (hG:∀r∈rs,r.iX=false)
  (Cd:∀r∈rs,r∉qF→S1.γ (.r r) < S2.γ (.r r)∧∀i,r≠.e i)
  (BT:Lc=gu qF S1.E L) (hm:de w w' Lc eS) (Rc:Rel nm 0 (dk 0 out) ⟨#[],[]⟩ w' eS) (X:Nq S1 S2 rs cK ok) (qe:∀i:Nat,(gs[i]?).map (·.1)=rs[i]?) (ajq:∀(i:Nat) r g,gs[i]? = some (r,g)→g≤S2.γ (.r r))
  (p8:rn gs out=some cK) :
  Rel nm N S2 a w' (jq rs ok w.heap.size L Lc eS)∧de w w' L (jq rs ok w.heap.size L Lc eS)∧D4 w' eS (jq rs ok w.heap.size L Lc eS) S2.γ gs∧
   (∀B q o,q.k = .h 0→eS B=some (.row q o)→jq rs ok w.heap.size L Lc eS B=some (.row q o)):=by
 have vC:∀{B},Lc B=none→B < w.heap.size→eS B=none∧w'.heap[B]? = w.heap[B]?:=fun h1 h2=>hm.none _ h2 h1
 have af:∀{B l},L B=some l→B < w.heap.size:=by
  intro B l hB;exact R.fq B l hB
 have kQ:∀{B l},eS B=some l→¬ ((Lc B).isNone=true∧B < w.heap.size):=by
  rintro B l h ⟨h1,h2⟩;rw [(vC (by simpa using h1) h2).1] at h;cases h
 have vp:D4 w' eS (jq rs ok w.heap.size L Lc eS) S2.γ gs:=by
  refine ⟨fun B hB=>?_,fun B i r g o hg hB=>?_,ajq⟩
  ·unfold jq;rw [az (kQ hB)];simp [hB]
  ·unfold jq;rw [az (kQ hB)];have:=qe i;rw [hg] at this;simp only [fe] at this;simp [hB,←this]
 have Fp:∀B q o,q.k = .h 0→eS B=some (.row q o)→jq rs ok w.heap.size L Lc eS B=some (.row q o):=by
  intro B q o hq hB;unfold jq;rw [az (kQ hB)];obtain ⟨k,j,p⟩:=q;simp only at hq;subst hq;simp [hB]
 have ajS:∀{B i c j p o r},rs[i]? = some r→ok i c=true→eS B=some (.row ⟨.b (.e i) c,j,p⟩ o)→jq rs ok w.heap.size L Lc eS B=some (.row ⟨.b r c,j,p⟩ o):=by
  intro B i c j p o r hr aS hB;unfold jq;rw [az (kQ hB)];simp [hB,hr,aS]
 have Ji:∀{B i o r},rs[i]? = some r→eS B=some (.box (.e i) o)→jq rs ok w.heap.size L Lc eS B=some (.box r o):=by
  intro B i o r hr hB;unfold jq;rw [az (kQ hB)];simp [hB,hr]
 have qf:∀{r i},rs[i]? = some r→jn rs r 0=some i:=fun h=>by have:=yk rs (i:=0) jh h;rwa [dc] at this
 have JI:∀{B r o},L B=some (.box r o)→r∉rs→jq rs ok w.heap.size L Lc eS B=some (.box r o)∧Lc B=none:=by
  intro B r o hB hr;have hl:Lc B=none:=by
   rw [BT];simp only [gu,hB];cases hx:jn qF r 0 with
   | none=>rfl
   | some i=>
    obtain ⟨t,ht⟩:=qZ;exact absurd (by rw [ht];exact HJ _ (fm (qz qF hx).2)) hr
  refine ⟨?_,hl⟩;unfold jq;rw [aJ ⟨by rw [hl];rfl,af hB⟩];simp [hB,hr]
 have ajX:∀{r},r∈qF→r∈rs:=fun h=>by obtain ⟨t,ht⟩:=qZ;rw [ht];exact HJ _ h
 have JJ:∀{B q o},L B=some (.row q o)→(∀(i:Nat) r c,rs[i]? = some r→q.k = .b r c→ok i c=false)→
   jq rs ok w.heap.size L Lc eS B=some (.row q o)∧Lc B=none:=by
  intro B q o hB h1;have hq:=hH B q o hB;obtain ⟨k,j,p⟩:=q;cases k with
  | s i=>
   have hl:Lc B=none:=by rw [BT];simp [gu,hB]
   refine ⟨?_,hl⟩;unfold jq;rw [aJ ⟨by rw [hl];rfl,af hB⟩];simp [hB]
  | b r c=>
   have hl:Lc B=none:=by
    rw [BT];simp only [gu,hB];cases hx:jn qF r 0 with
    | none=>rfl
    | some i=>
     have Cb:=ajX (fm (qz qF hx).2);obtain ⟨i',ub⟩:=uM Cb;have:=X.acW i' r c ub (h1 i' r c ub rfl);cases hE:S1.E (.b r c) with
     | one y=>cases y<;>first | rfl | exact absurd hE (this _)
     | _=>rfl
   refine ⟨?_,hl⟩;unfold jq;rw [aJ ⟨by rw [hl];rfl,af hB⟩];simp only [hB];cases hx:jn rs r 0 with
   | none=>rfl
   | some i=>
    have:=h1 i r c (qz rs hx).2 rfl;simp [this]
  | _=>simp [Key.aT] at hq
 have fT:rW w w' L (jq rs ok w.heap.size L Lc eS):=fun B hB=>by
  have h1:Lc B=some .bh:=by rw [BT];exact va hB
  exact ⟨vp.bh B (hm.bh B h1).1,(hm.bh B h1).2⟩
 have YF:∀{B r o},L B=some (.box r o)→r∈qF→jq rs ok w.heap.size L Lc eS B=some (.box r o):=by
  intro B r o hB hr;obtain ⟨i,hi⟩:=uM hr;obtain ⟨t,ht⟩:=qZ;have YU:rs[i]? = some r:=by rw [ht,od (cB.1 hi).1];exact hi
  have Qt:qF.Nodup:=by rw [ht] at jh;exact (HK.1 jh).1
  have h1:Lc B=some (.box (.e i) o):=by
   rw [BT];exact zc hB (by have:=yk qF (i:=0) Qt hi;rwa [dc] at this)
  exact Ji YU (hm.Bt B i o h1)
 have ej:∀{B l},L B=some l→Lc B=none→w'.heap[B]? = w.heap[B]?:=fun h1 h2=>(vC h2 (af h1)).2
 have Zc:∀{k:Key},S2.γ k=S1.γ k→∀(i:Nat) r c,rs[i]? = some r→k = .b r c→ok i c=false:=by
  intro k hk i r c hi he;subst he;cases aS:ok i c with
  | false=>rfl
  | true=>have:=X.wr i r c hi aS;omega
 have bA:Step w w' L (jq rs ok w.heap.size L Lc eS) S1.γ S2.γ:=by
  refine ⟨fT,X.dQ,?_,?_,?_⟩
  ·intro B q o hq hk hB;obtain ⟨h1,h2⟩:=JJ hB (Zc hk);exact ⟨h1,fun cur e fz hc=>⟨cur,(ej hB h2).trans hc,rfl⟩⟩
  ·intro B q o hq hk _ hB;obtain ⟨h1,h2⟩:=JJ hB (Zc hk);exact ej hB h2
  ·intro B r o hk hB;by_cases hr:r∈rs
   ·by_cases FE:r∈qF
    ·exact YF hB FE
    ·have:=(Cd r hr FE).1;omega
   ·exact (JI hB hr).1
 have xw:∀{B l},jq rs ok w.heap.size L Lc eS B=some l→
   (Lc B=none∧L B=some l∧B < w.heap.size∧(∀i r c j p o,l = .row ⟨.b r c,j,p⟩ o→rs[i]? = some r→ok i c=false)∧∀r o,l = .box r o→r∉rs)∨
   (l = .bh∧eS B=some .bh)∨(∃(i:Nat) (r:aI) (o:Nat),l = .box r o∧rs[i]? = some r∧eS B=some (.box (.e i) o))∨
   (∃(i:Nat) (r:aI) (c j:Nat) (p:List (Nat×Nat)) (o:Nat),l = .row ⟨.b r c,j,p⟩ o∧rs[i]? = some r∧ok i c=true∧eS B=some (.row ⟨.b (.e i) c,j,p⟩ o))∨
   (∃(j:Nat) (p:List (Nat×Nat)) (o:Nat),l = .row ⟨.h 0,j,p⟩ o∧eS B=some (.row ⟨.h 0,j,p⟩ o)):=by
  intro B l h;unfold jq at h;split at h
  ·rename_i hc;left;have hn:Lc B=none:=by simpa using hc.1
   split at h
   ·rename_i r c j p o hL;split at h
    ·rename_i i hi;split at h
     ·cases h
     ·rename_i aS;simp only [aj] at h;subst h;refine ⟨hn,hL,hc.2,?_,by intro _ _ h;cases h⟩;intro i' r' c' j' p' o' he ub;simp only [bQ.row.injEq,Place.mk.injEq,Key.b.injEq] at he;obtain ⟨⟨⟨rfl,rfl⟩,rfl,rfl⟩,rfl⟩:=he;have:=qf ub;rw [hi] at this;simp only [aj] at this;subst this;simpa using aS
    ·rename_i hi;simp only [aj] at h;subst h;refine ⟨hn,hL,hc.2,?_,by intro _ _ h;cases h⟩;intro i' r' c' j' p' o' he ub;simp only [bQ.row.injEq,Place.mk.injEq,Key.b.injEq] at he;obtain ⟨⟨⟨rfl,rfl⟩,rfl,rfl⟩,rfl⟩:=he;have:=qf ub;rw [hi] at this;cases this
   ·rename_i r o hL;split at h
    ·cases h
    ·rename_i hr;simp only [aj] at h;subst h;refine ⟨hn,hL,hc.2,(by intro _ _ _ _ _ _ h;cases h),?_⟩;intro r' o' he;simp only [bQ.box.injEq] at he;obtain ⟨rfl,rfl⟩:=he;simpa using hr
   ·rename_i h1 h2;refine ⟨hn,h,hc.2,?_,?_⟩
    ·intro i r c j p o he;subst he;exact absurd h (h1 _ _ _ _ _)
    ·intro r o he;subst he;exact absurd h (h2 _ _)
  ·right;split at h
   ·simp only [aj] at h;exact .inl ⟨h.symm,‹_›⟩
   ·rename_i i o hL;obtain ⟨r,h1,h2⟩:=bG h;exact .inr (.inl ⟨i,r,o,h2,h1,hL⟩)
   ·rename_i i c j p o hL;split at h
    ·rename_i r hr;split at h
     ·rename_i aS;simp only [aj] at h;exact .inr (.inr (.inl ⟨i,r,c,j,p,o,h.symm,hr,aS,hL⟩))
     ·cases h
    ·cases h
   ·rename_i j p o hL;simp only [aj] at h;exact .inr (.inr (.inr ⟨j,p,o,h.symm,hL⟩))
   ·cases h
 have Cj:∀{i i':Nat} {r},rs[i]? = some r→rs[i']? = some r→i=i':=by
  intro i i' r h1 h2;have e1:=qf h1;have e2:=qf h2;rw [e1] at e2;simpa using e2
 have oC:∀{i:Nat} {r},rs[i]? = some r→∃cs gX,cK[i]? = some cs∧out[i]? = some gX∧nh gs gX=some cs∧cs.length=gX.length:=by
  intro i r hi;have dX:i < cK.length:=by rw [X.len];exact (cB.1 hi).1
  have h1:cK[i]? = some cK[i]:=ke dX;obtain ⟨gX,h2,h3⟩:=abB i p8 h1;exact ⟨cK[i],gX,h1,h2,h3,Dj h3⟩
 refine ⟨⟨R.size,R.defers,?_,?_,?_,?_,?_,?_,?_,?_⟩,?_,vp,Fp⟩
 ·intro i;rw [X.other (.s i) (by intro _ _ h;cases h) (by intro _ h;cases h)];refine (R.slot i).step bA (fun B q o hq hB=>?_);obtain ⟨h1,h2⟩:=JJ hB (fun i r c _ h=>by rw [hq] at h;cases h);rw [←hq,Place.l9];exact ⟨h1,ej hB h2⟩
 ·intro r c x hx gj;by_cases hr:r∈rs
  ·obtain ⟨i,hi⟩:=uM hr;obtain ⟨cs,gX,h1,h2,h3,h4⟩:=oC hi;by_cases hc:c < cs.length
   ·have eE:cs[c]? = some cs[c]:=ke hc;have:=X.Om i r cs hi h1 c _ eE;rw [hx] at this;simp only [V.one.injEq] at this;rw [←this] at eE;obtain ⟨y,k1,k2⟩:=Di c h3 eE;have ji:y≠.dead:=by
     rintro rfl;simp only [C.dT,aj] at k2;exact gj k2.symm
    have bw:i < out.length:=(cB.1 h2).1;have Jn:out.getD i []=gX:=by rw [kC,h2];rfl
    have hE:(dk 0 out:St).E (.b (.e i) c) = .one y:=by
     rw [pg];simp only [Jn];rw [aJ ⟨bw,by omega⟩];rw [kC,k1];rfl
    obtain ⟨B,o,cur,e,fz,v,m1,m2,m3,m4,m5,m6⟩:=Rc.cell (.e i) c y hE ji;rw [Il] at m5;have kR:aF nm w' (jq rs ok w.heap.size L Lc eS) S2.γ (.b r c) 0 x v:=by
     refine m5.NR vp k2 (fun z hz B' q o' hq hj dA=>?_);have aS:ok i c=true:=by
      cases aS:ok i c with
      | true=>rfl
      | false=>
       subst hz;simp only [C.dT,aj] at k2;exact absurd k2.symm (X.same i r cs hi h1 c x eE aS z)
     obtain ⟨k,j,p⟩:=q;simp only at hq hj;subst hq;subst hj;exact ajS hi aS dA
    have hG':=hG r hr;cases r with
    | g n=>simp [aI.iX] at hG'
    | e n=>exact ⟨B,o,cur,e,fz,v,Ji hi m1,m2,m3,m4,kR,abC k2 m6⟩
    | l n=>exact ⟨B,o,cur,e,fz,v,Ji hi m1,m2,m3,m4,kR,abC k2 m6⟩
   ·have:=X.out i r cs hi h1 c (by omega);rw [hx] at this;simp only [V.one.injEq] at this;exact absurd this gj
  ·rw [X.other (.b r c) (by intro r' c' h;cases h;exact hr) (by intro _ h;cases h)] at hx;refine (R.cell r c x hx gj).step bA ?_ ?_
   ·intro B q o hq hB;obtain ⟨h1,h2⟩:=JJ hB (fun i r' c' hi h=>by rw [hq] at h;cases h;exact absurd (fm hi) hr);exact ⟨h1,ej hB h2⟩
   ·intro B o hB;obtain ⟨h1,h2⟩:=JI hB hr;exact ⟨h1,fun cur e fz hc=>⟨cur,(ej hB h2).trans hc,rfl,rfl⟩⟩
 ·intro r c;by_cases hr:r∈rs
  ·obtain ⟨i,hi⟩:=uM hr;obtain ⟨cs,gX,h1,h2,h3,h4⟩:=oC hi;by_cases hc:c < cs.length
   ·exact ⟨cs[c],X.Om i r cs hi h1 c _ (ke hc)⟩
   ·exact ⟨.dead,X.out i r cs hi h1 c (by omega)⟩
  ·rw [X.other (.b r c) (by intro r' c' h;cases h;exact hr) (by intro _ h;cases h)];exact R.kf r c
 ·intro r c hc;by_cases hr:r∈rs
  ·obtain ⟨i,hi⟩:=uM hr;obtain ⟨cs,gX,h1,h2,h3,h4⟩:=oC hi;rw [X.size i r cs hi h1] at hc;exact X.out i r cs hi h1 c hc
  ·rw [X.other (.r r) (by intro _ _ h;cases h) (by intro r' h;cases h;exact hr)] at hc;rw [X.other (.b r c) (by intro r' c' h;cases h;exact hr) (by intro _ h;cases h)];exact R.bound r c hc
 ·intro r hg Ch;by_cases hr:r∈rs
  ·obtain ⟨i,hi⟩:=uM hr;obtain ⟨cs,gX,h1,h2,h3,h4⟩:=oC hi;rw [X.size i r cs hi h1] at Ch ⊢;have bw:i < out.length:=(cB.1 h2).1;have Jn:out.getD i []=gX:=by rw [kC,h2];rfl
   have hE:cm ((dk 0 out:St).E (.r (.e i)))=cs.length:=by
    rw [pg];simp only [Jn];rw [aJ bw,qN,h4]
   obtain ⟨B,o,cur,e,fz,m1,m2,m3,m4⟩:=Rc.room (.e i) rfl (by show 0 < cm ((dk 0 out:St).E (.r (.e i)));rw [hE];exact Ch);have m4':o+cs.length≤cur.size:=by rw [←hE];exact m4
   exact ⟨B,o,cur,e,fz,Ji hi m1,m2,m3,m4'⟩
  ·rw [X.other (.r r) (by intro _ _ h;cases h) (by intro r' h;cases h;exact hr)] at Ch ⊢;obtain ⟨B,o,cur,e,fz,m1,m2,m3,m4⟩:=R.room r hg Ch;obtain ⟨h1,h2⟩:=JI m1 hr;exact ⟨B,o,cur,e,fz,h1,(ej m1 h2).trans m2,m3,m4⟩
 ·intro B l hB;rcases xw hB with ⟨h1,h2,h3,_⟩ | ⟨_,h⟩ | ⟨_,_,_,_,_,h⟩ | ⟨_,_,_,_,_,_,_,_,_,h⟩ | ⟨_,_,_,_,h⟩
  ·exact xj (R.fq B l h2) (ej h2 h1)
  all_goals exact Rc.fq B _ h
 ·intro B B' pl o o' h1 h2;rcases xw h1 with ⟨a1,a2,a3,a4,_⟩ | ⟨a1,_⟩ | ⟨_,_,_,a1,_⟩ | ⟨i,r,c,j,p,o1,a1,a2,a3,a4⟩ | ⟨j,p,o1,a1,a2⟩
  ·rcases xw h2 with ⟨b1,b2,b3,b4,_⟩ | ⟨b1,_⟩ | ⟨_,_,_,b1,_⟩ | ⟨i,r,c,j,p,o1,b1,b2,b3,b4⟩ | ⟨j,p,o1,b1,b2⟩
   ·exact R.eM B B' pl o o' a2 b2
   ·cases b1
   ·cases b1
   ·simp only [bQ.row.injEq] at b1;obtain ⟨rfl,rfl⟩:=b1;have:=a4 i r c j p o rfl b2;rw [b3] at this;cases this
   ·simp only [bQ.row.injEq] at b1;obtain ⟨rfl,rfl⟩:=b1;have:=hH B _ o a2;simp [Key.aT] at this
  ·cases a1
  ·cases a1
  ·simp only [bQ.row.injEq] at a1;obtain ⟨rfl,rfl⟩:=a1;rcases xw h2 with ⟨b1,b2,b3,b4,_⟩ | ⟨b1,_⟩ | ⟨_,_,_,b1,_⟩ | ⟨i',r',c',j',p',mZ,b1,b2,b3,b4⟩ | ⟨j',p',mZ,b1,b2⟩
   ·have:=b4 i r c j p o' rfl a2;rw [a3] at this;cases this
   ·cases b1
   ·cases b1
   ·simp only [bQ.row.injEq,Place.mk.injEq,Key.b.injEq] at b1;obtain ⟨⟨⟨rfl,rfl⟩,rfl,rfl⟩,rfl⟩:=b1;obtain rfl:=Cj a2 b2;exact Rc.eM B B' _ _ _ a4 b4
   ·simp only [bQ.row.injEq,Place.mk.injEq] at b1;exact absurd b1.1.1 (by intro h;cases h)
  ·simp only [bQ.row.injEq] at a1;obtain ⟨rfl,rfl⟩:=a1;rcases xw h2 with ⟨b1,b2,b3,b4,_⟩ | ⟨b1,_⟩ | ⟨_,_,_,b1,_⟩ | ⟨i',r',c',j',p',mZ,b1,b2,b3,b4⟩ | ⟨j',p',mZ,b1,b2⟩
   ·have:=hH B' _ o' b2;simp [Key.aT] at this
   ·cases b1
   ·cases b1
   ·simp only [bQ.row.injEq,Place.mk.injEq] at b1;exact absurd b1.1.1 (by intro h;cases h)
   ·simp only [bQ.row.injEq] at b1;obtain ⟨b1,rfl⟩:=b1;rw [←b1] at b2;exact Rc.eM B B' _ _ _ a2 b2
 ·intro B B' r o o' h1 h2;rcases xw h1 with ⟨a1,a2,a3,_,a5⟩ | ⟨a1,_⟩ | ⟨i,r1,o1,a1,a2,a3⟩ | ⟨_,_,_,_,_,_,a1,_⟩ | ⟨_,_,_,a1,_⟩
  ·rcases xw h2 with ⟨b1,b2,b3,_,b5⟩ | ⟨b1,_⟩ | ⟨i',GZ,mZ,b1,b2,b3⟩ | ⟨_,_,_,_,_,_,b1,_⟩ | ⟨_,_,_,b1,_⟩
   ·exact R.fA B B' r o o' a2 b2
   ·cases b1
   ·simp only [bQ.box.injEq] at b1;obtain ⟨rfl,rfl⟩:=b1;exact absurd (fm b2) (a5 r o rfl)
   ·cases b1
   ·cases b1
  ·cases a1
  ·simp only [bQ.box.injEq] at a1;obtain ⟨rfl,rfl⟩:=a1;rcases xw h2 with ⟨b1,b2,b3,_,b5⟩ | ⟨b1,_⟩ | ⟨i',GZ,mZ,b1,b2,b3⟩ | ⟨_,_,_,_,_,_,b1,_⟩ | ⟨_,_,_,b1,_⟩
   ·exact absurd (fm a2) (b5 r o' rfl)
   ·cases b1
   ·simp only [bQ.box.injEq] at b1;obtain ⟨rfl,rfl⟩:=b1;obtain rfl:=Cj a2 b2;exact Rc.fA B B' _ _ _ a3 b3
   ·cases b1
   ·cases b1
  ·cases a1
  ·cases a1
 ·refine ⟨hm.os,hm.tape,hm.output,hm.size,fT,?_,?_⟩
  ·intro B hB hL;have hl:Lc B=none:=by rw [BT];simp [gu,hL]
   refine ⟨?_,(vC hl hB).2⟩;unfold jq;rw [aJ ⟨by rw [hl];rfl,hB⟩];simp [hL]
  ·intro B i o hB;by_cases hr:(.e i)∈rs
   ·by_cases FE:(.e i)∈qF
    ·exact YF hB FE
    ·exact absurd rfl ((Cd _ hr FE).2 i)
   ·exact (JI hB hr).1
end
end
section
theorem Tn {y x:C} (h:y.same x=true):x=y∧∃r g c,x = .ptr r g c:=by
 cases y<;>cases x<;>simp only [C.same,bK,fy,eV,rQ] at h;obtain ⟨⟨rfl,rfl⟩,rfl⟩:=h;exact ⟨rfl,_,_,_,rfl⟩
theorem abe (S:St) (r:aI):∀(cs ol:List C) (c0:Nat) (ws:List Wr) (k:Key),cs.length=ol.length→
  ((∀c,c < cs.length→k≠.b r (c0+c))→(S.ah (mw r c0 cs ol ws)).E k=(S.ah ws).E k∧(S.ah (mw r c0 cs ol ws)).γ k=(S.ah ws).γ k)∧
  (∀c x y,k = .b r (c0+c)→cs[c]? = some x→ol[c]? = some y→y.same x=true→(S.ah (mw r c0 cs ol ws)).E k=(S.ah ws).E k∧(S.ah (mw r c0 cs ol ws)).γ k=(S.ah ws).γ k)∧
  (∀c x y,k = .b r (c0+c)→cs[c]? = some x→ol[c]? = some y→y.same x=false→(S.ah (mw r c0 cs ol ws)).E k = .one x∧(S.ah ws).γ k < (S.ah (mw r c0 cs ol ws)).γ k)∧
  (S.ah ws).γ k≤(S.ah (mw r c0 cs ol ws)).γ k
 | [],ol,c0,ws,k,hl=>by
  have:mw r c0 [] ol ws=ws:=by cases ol<;>rfl
  rw [this];exact ⟨fun _=>⟨rfl,rfl⟩,fun c x y _ h=>by simp at h,fun c x y _ h=>by simp at h,bT _⟩
 | x0::cs,[],c0,ws,k,hl=>by simp at hl
 | x0::cs,y0::ol,c0,ws,k,hl=>by
  have mc:cs.length=ol.length:=by simpa using hl
  obtain ⟨h1,h2,h3,h4⟩:=abe S r cs ol (c0+1) (if y0.same x0 then ws else { k:=.b r c0,v:=.one x0 } :: ws) k mc;simp only [mw];have hle:(S.ah ws).γ k≤(S.ah (if y0.same x0 then ws else { k:=.b r c0,v:=.one x0 } :: ws)).γ k:=by
   split
   ·exact bT _
   ·exact St.pV _ _ k
  have Zp:k≠.b r c0→(S.ah (if y0.same x0 then ws else { k:=.b r c0,v:=.one x0 } :: ws)).E k=(S.ah ws).E k∧(S.ah (if y0.same x0 then ws else { k:=.b r c0,v:=.one x0 } :: ws)).γ k=(S.ah ws).γ k:=by
   intro aB;split
   ·exact ⟨rfl,rfl⟩
   ·simp only [St.ah,St.ig,St.jU,Ne.symm aB,dE];trivial
  have Zm:k = .b r c0→∀c,c < cs.length→k≠.b r (c0+1+c):=by
   intro hk c _ e;rw [hk] at e;simp only [Key.b.injEq,lk] at e;omega
  have QL:∀c,c0+(c+1)=c0+1+c:=fun c=>by omega
  refine ⟨?_,?_,?_,iQ hle h4⟩
  ·intro aB;obtain ⟨g1,g2⟩:=h1 (fun c hc e=>aB (c+1) (by simpa using hc) (by rw [e,QL c]));obtain ⟨g3,g4⟩:=Zp (fun e=>aB 0 (by simp) (by rw [e];rfl));exact ⟨g1.trans g3,g2.trans g4⟩
  ·intro c x y hk hx hy hs;cases c with
   | zero=>
    simp at hx hy;subst hx;subst hy;obtain ⟨g1,g2⟩:=h1 (Zm hk);rw [hs] at g1 g2;simp only [bV] at g1 g2;rw [hs];exact ⟨g1,g2⟩
   | succ c=>
    obtain ⟨g1,g2⟩:=h2 c x y (by rw [hk,QL c]) (by simpa using hx) (by simpa using hy) hs;obtain ⟨g3,g4⟩:=Zp (by rw [hk];intro e;simp only [Key.b.injEq,lk] at e;omega);exact ⟨g1.trans g3,g2.trans g4⟩
  ·intro c x y hk hx hy hs;cases c with
   | zero=>
    simp at hx hy;subst hx;subst hy;obtain ⟨g1,g2⟩:=h1 (Zm hk);rw [hs] at g1 g2 ⊢;simp only [gW] at hk;subst hk;simp only [rQ,dE,St.ah,St.ig,St.jU,bV] at g1 g2 ⊢;exact ⟨g1,by omega⟩
   | succ c=>
    obtain ⟨g1,g2⟩:=h3 c x y (by rw [hk,QL c]) (by simpa using hx) (by simpa using hy) hs;exact ⟨g1,by omega⟩
theorem VX (S:St):∀(rs:List aI) (bs os:List (List C)) (ws:List Wr) (k:Key),rs.Nodup→bs.length=rs.length→os.length=rs.length→
  (∀(i:Nat) cs ol,bs[i]? = some cs→os[i]? = some ol→cs.length=ol.length)→
  ((∀(i:Nat) r cs c,rs[i]? = some r→bs[i]? = some cs→c < cs.length→k≠.b r c)→(S.ah (jG rs bs os ws)).E k=(S.ah ws).E k∧(S.ah (jG rs bs os ws)).γ k=(S.ah ws).γ k)∧
  (∀(i:Nat) r cs ol c x y,rs[i]? = some r→bs[i]? = some cs→os[i]? = some ol→k = .b r c→cs[c]? = some x→ol[c]? = some y→y.same x=true→(S.ah (jG rs bs os ws)).E k=(S.ah ws).E k∧(S.ah (jG rs bs os ws)).γ k=(S.ah ws).γ k)∧
  (∀(i:Nat) r cs ol c x y,rs[i]? = some r→bs[i]? = some cs→os[i]? = some ol→k = .b r c→cs[c]? = some x→ol[c]? = some y→y.same x=false→(S.ah (jG rs bs os ws)).E k = .one x∧(S.ah ws).γ k < (S.ah (jG rs bs os ws)).γ k)∧
  (S.ah ws).γ k≤(S.ah (jG rs bs os ws)).γ k
 | [],bs,os,ws,k,_,_,_,_=>by
  have:jG [] bs os ws=ws:=by cases bs<;>cases os<;>rfl
  rw [this];exact ⟨fun _=>⟨rfl,rfl⟩,fun i r cs ol c x y h=>by simp at h,fun i r cs ol c x y h=>by simp at h,bT _⟩
 | r0::rs,[],os,ws,k,_,h,_,_=>by simp at h
 | r0::rs,gX::bs,[],ws,k,_,_,h,_=>by simp at h
 | r0::rs,gX::bs,vY::os,ws,k,jh,hb,ho,hl=>by
  obtain ⟨Y9,Qt⟩:=Nf.1 jh;obtain ⟨h1,h2,h3,h4⟩:=VX S rs bs os (mw r0 0 gX vY ws) k Qt (by simpa using hb) (by simpa using ho) (fun i cs ol h1 h2=>hl (i+1) cs ol (by simpa using h1) (by simpa using h2));obtain ⟨g1,g2,g3,g4⟩:=abe S r0 gX vY 0 ws k (hl 0 gX vY rfl rfl);simp only [dc] at g1 g2 g3;simp only [jG];have YR:∀c,k = .b r0 c→(S.ah (jG rs bs os (mw r0 0 gX vY ws))).E k=(S.ah (mw r0 0 gX vY ws)).E k∧(S.ah (jG rs bs os (mw r0 0 gX vY ws))).γ k=(S.ah (mw r0 0 gX vY ws)).γ k:=by
   intro c hk;refine h1 (fun i r cs c' hr _ _ e=>?_);rw [hk] at e;simp only [Key.b.injEq] at e;exact Y9 (e.1▸fm hr)
  have ajv:∀(i:Nat) r c,rs[i]? = some r→k = .b r c→(S.ah (mw r0 0 gX vY ws)).E k=(S.ah ws).E k∧(S.ah (mw r0 0 gX vY ws)).γ k=(S.ah ws).γ k:=by
   intro i r c hr hk;refine g1 (fun c' _ e=>?_);rw [hk] at e;simp only [Key.b.injEq] at e;exact Y9 (e.1▸fm hr)
  refine ⟨?_,?_,?_,iQ g4 h4⟩
  ·intro aB;obtain ⟨a1,a2⟩:=h1 (fun i r cs c hr hc af=>aB (i+1) r cs c (by simpa using hr) (by simpa using hc) af);obtain ⟨a3,a4⟩:=g1 (fun c hc=>aB 0 r0 gX c rfl rfl hc);exact ⟨a1.trans a3,a2.trans a4⟩
  ·intro i r cs ol c x y hr hc qj hk hx hy hs;cases i with
   | zero=>
    simp at hr hc qj;subst hr;subst hc;subst qj;obtain ⟨a1,a2⟩:=YR c hk;obtain ⟨a3,a4⟩:=g2 c x y hk hx hy hs;exact ⟨a1.trans a3,a2.trans a4⟩
   | succ i=>
    simp only [yB] at hr hc qj;obtain ⟨a1,a2⟩:=h2 i r cs ol c x y hr hc qj hk hx hy hs;obtain ⟨a3,a4⟩:=ajv i r c hr hk;exact ⟨a1.trans a3,a2.trans a4⟩
  ·intro i r cs ol c x y hr hc qj hk hx hy hs;cases i with
   | zero=>
    simp at hr hc qj;subst hr;subst hc;subst qj;obtain ⟨a1,a2⟩:=YR c hk;obtain ⟨a3,a4⟩:=g3 c x y hk hx hy hs;exact ⟨a1.trans a3,by omega⟩
   | succ i=>
    simp only [yB] at hr hc qj;obtain ⟨a1,a2⟩:=h3 i r cs ol c x y hr hc qj hk hx hy hs;exact ⟨a1,by omega⟩
theorem aaE:∀{l m:List (List C)},sR l m=true→l.length=m.length∧∀(i:Nat) x y,l[i]? = some x→m[i]? = some y→x.length=y.length
 | [],[],_=>⟨rfl,fun i x y h=>by simp at h⟩
 | [],_::_,h=>by simp [sR] at h
 | _::_,[],h=>by simp [sR] at h
 | a::l,b::m,h=>by
  simp only [sR,bK,eV] at h;obtain ⟨h1,h2⟩:=aaE h.2;refine ⟨by simp [h1],fun i x y hx hy=>?_⟩;cases i with
  | zero=>simp at hx hy;subst hx;subst hy;exact h.1
  | succ i=>exact h2 i x y (by simpa using hx) (by simpa using hy)
theorem Yl {S:St}:∀{rs:List aI} {gs:List (aI×Nat)},(BM rs).run S=some gs→gs=rs.map fun r=>(r,S.γ (.r r))
 | [],gs,h=>by simp only [BM] at h;rw [Q.aY h];rfl
 | r::rs,gs,h=>by
  simp only [BM] at h;have h1:=Q.ni h;clear h;obtain ⟨l,h2,h3⟩:=Q.aK h1;have h4:=Q.aY h3;rw [h4,Yl h2];rfl
def okF (bs cK:List (List C)) (i c:Nat):Bool:=
 match (bs[i]?).bind (·[c]?),(cK[i]?).bind (·[c]?) with
 | some y,some x=>!(y.same x)
 | _,_=>false
theorem XV {S0:St} {ws:List Wr} {rs:List aI} {bs cK:List (List C)} (jh:rs.Nodup) (hl:bs.length=rs.length) (dX:cK.length=rs.length) (he:sR cK bs=true)
  (lu:∀r∈rs,A3 S0 ws r)
  (hb:∀(k:Nat) r cs,rs[k]? = some r→bs[k]? = some cs→cs.length=cm (S0.E (.r r))∧(∀(j:Nat) x,cs[j]? = some x→(S0.ah ws).E (.b r j) = .one x))
  (hbound:∀r c,cm ((S0.ah ws).E (.r r))≤c→(S0.ah ws).E (.b r c) = .one .dead) :
  Nq (S0.ah ws) (S0.ah (jG rs cK bs ws)) rs cK (okF bs cK):=by
 obtain ⟨_,hlen⟩:=aaE he;have W:=fun k=>VX S0 rs cK bs ws k jh dX hl (fun i cs ol h1 h2=>hlen i cs ol h1 h2)
 have qf:∀{i i':Nat} {r},rs[i]? = some r→rs[i']? = some r→i=i':=fun {i i' r} h1 h2=>by
  have e1:=yk rs (i:=0) jh h1;have e2:=yk rs (i:=0) jh h2;rw [e1] at e2;simpa using e2
 have hold:∀{i:Nat} {r},rs[i]? = some r→∃ol,bs[i]? = some ol:=fun {i r} h=>⟨bs[i]'(by rw [hl];exact (cB.1 h).1),ke _⟩
 have Y7:∀{i:Nat} {r},rs[i]? = some r→∃ol,cK[i]? = some ol:=fun {i r} h=>⟨cK[i]'(by rw [dX];exact (cB.1 h).1),ke _⟩
 have PB:∀{i:Nat} {r ol},rs[i]? = some r→bs[i]? = some ol→cm ((S0.ah ws).E (.r r))=ol.length:=by
  intro i r ol h1 h2;rw [BN,(lu r (fm h1)).1,(hb i r ol h1 h2).1];rfl
 refine ⟨dX,?_,?_,?_,?_,fun k=>(W k).2.2.2,?_,?_,?_⟩
 ·intro i r cs hr hc c x hx;obtain ⟨ol,ho⟩:=hold hr;have gi:=hlen i cs ol hc ho;have aR:c < ol.length:=by rw [←gi];exact (cB.1 hx).1
  have hy:ol[c]? = some ol[c]:=ke aR;cases hs:(ol[c]).same x with
  | true=>
   rw [((W (.b r c)).2.1 i r cs ol c x _ hr hc ho rfl hx hy hs).1,(hb i r ol hr ho).2 c _ hy];rw [(Tn hs).1]
  | false=>exact ((W (.b r c)).2.2.1 i r cs ol c x _ hr hc ho rfl hx hy hs).1
 ·intro i r cs hr hc c hle;obtain ⟨ol,ho⟩:=hold hr;have gi:=hlen i cs ol hc ho
  rw [((W (.b r c)).1 (fun i' r' eA c' eU lL af e => by
    cases e
    obtain rfl := qf hr eU
    rw [hc] at lL
    cases lL
    omega)).1]
  exact hbound r c (by rw [PB hr ho];omega)
 ·intro i r cs hr hc;obtain ⟨ol,ho⟩:=hold hr;have gi:=hlen i cs ol hc ho;rw [((W (.r r)).1 (fun _ _ _ _ _ _ _ e=>by cases e)).1,PB hr ho,gi]
 ·intro k h1 h2;exact ((W k).1 (fun i r cs c hr _ _ e=>h1 r c e (fm hr))).1
 ·intro i r c hr aS;obtain ⟨ol,ho⟩:=hold hr;obtain ⟨cs,hc⟩:=Y7 hr;simp only [okF,ho,hc,Option.bind_some] at aS;cases hy:ol[c]? with
  | none=>simp [hy] at aS
  | some y=>
   cases hx:cs[c]? with
   | none=>simp [hy,hx] at aS
   | some x=>
    simp only [hy,hx,nA] at aS;exact ((W (.b r c)).2.2.1 i r cs ol c x y hr hc ho rfl hx hy aS).2
 ·intro i r c hr aS x hE;obtain ⟨ol,ho⟩:=hold hr;obtain ⟨cs,hc⟩:=Y7 hr;simp only [okF,ho,hc,Option.bind_some] at aS;have gi:=hlen i cs ol hc ho;cases hy:ol[c]? with
  | none=>
   have:=hbound r c (by rw [PB hr ho];exact UN.1 hy);rw [this] at hE;cases hE
  | some y=>
   have aR:c < cs.length:=by rw [gi];exact (cB.1 hy).1
   have hx:cs[c]? = some cs[c]:=ke aR;simp only [hy,hx,Bool.not_eq_false'] at aS;obtain ⟨h1,r',g',c',h2⟩:=Tn aS;rw [(hb i r ol hr ho).2 c y hy,←h1,h2] at hE;cases hE
 ·intro i r cs hr hc c x hx aS y;obtain ⟨ol,ho⟩:=hold hr;simp only [okF,ho,hc,Option.bind_some,hx] at aS;have gi:=hlen i cs ol hc ho;have aR:c < ol.length:=by rw [←gi];exact (cB.1 hx).1
  have hy:ol[c]? = some ol[c]:=ke aR;simp only [hy,Bool.not_eq_false'] at aS;obtain ⟨h1,r',g',c',h2⟩:=Tn aS;rw [h2];intro h;cases h
end
section
theorem aix {S0:St} {ws:List Wr} {rs:List aI} {bs cK:List (List C)} {dst:Nat} (jh:rs.Nodup) (hl:bs.length=rs.length) (dX:cK.length=rs.length+1) (he:sR (cK.take rs.length) bs=true)
  (lu:∀r∈rs,A3 S0 ws r) (aB:(aI.l dst)∉rs)
  (hb:∀(k:Nat) r cs,rs[k]? = some r→bs[k]? = some cs→cs.length=cm (S0.E (.r r))∧(∀(j:Nat) x,cs[j]? = some x→(S0.ah ws).E (.b r j) = .one x))
  (hbound:∀r c,cm ((S0.ah ws).E (.r r))≤c→(S0.ah ws).E (.b r c) = .one .dead)
  (hn:cm ((S0.ah ws).E (.r (.l dst)))=0∨cm ((S0.ah ws).E (.r (.l dst)))=(cK.getD rs.length []).length) {k0:Wr} (nI:k0 = { k:=.r (.l dst),v:=fw (cK.getD rs.length []).length }) :
  Nq (S0.ah ws) (S0.ah (gf (.l dst) 0 (cK.getD rs.length []) (k0::jG rs cK bs ws))) (rs++[.l dst]) cK
   (fun i c=>if i < rs.length then okF bs (cK.take rs.length) i c else decide (c < (cK.getD rs.length []).length))∧
  (S0.ah ws).γ (.r (.l dst)) < (S0.ah (gf (.l dst) 0 (cK.getD rs.length []) (k0::jG rs cK bs ws))).γ (.r (.l dst)):=by
 have sI:(cK.take rs.length).length=rs.length:=by simp [dX]
 have X:=XV (cK:=cK.take rs.length) jh hl sI he lu hb hbound;have hbw:jG rs cK bs ws=jG rs (cK.take rs.length) bs ws:=by
  clear X sI he hb lu jh aB hn nI hbound;induction rs generalizing bs cK ws with
  | nil=>cases cK<;>cases bs<;>simp [jG]
  | cons r rs ih=>
   cases cK with
   | nil=>simp at dX
   | cons b cK=>
    cases bs with
    | nil=>simp at hl
    | cons o bs=>
     simp only [jG,gp,List.take_succ_cons];exact ih (by simpa using hl) (by simpa using dX)
 rw [hbw];generalize hW:jG rs (cK.take rs.length) bs ws=W at X ⊢;generalize sF:cK.getD rs.length []=nb at hn nI ⊢;have JC:cK[rs.length]? = some nb:=by rw [←sF];exact getD_some (by omega)
 have K:=fun k=>Bm S0 (.l dst) nb 0 (k0::W) k
 simp only [dc] at K;have JW:∀k,k≠.r (.l dst)→(S0.ah (k0::W)).E k=(S0.ah W).E k∧(S0.ah (k0::W)).γ k=(S0.ah W).γ k:=by
  intro k hk;subst nI;simp only [St.ah,St.ig,St.jU,Ne.symm hk,dE];trivial
 have k0S:(S0.ah (k0::W)).E (.r (.l dst))=fw nb.length∧(S0.ah W).γ (.r (.l dst)) < (S0.ah (k0::W)).γ (.r (.l dst)):=by
  subst nI;simp [St.ah,St.ig,St.jU]
 have Kx:∀k,(∀c,k≠.b (.l dst) c)→k≠.r (.l dst)→(S0.ah (gf (.l dst) 0 nb (k0::W))).E k=(S0.ah W).E k∧(S0.ah (gf (.l dst) 0 nb (k0::W))).γ k=(S0.ah W).γ k:=by
  intro k h1 h2;obtain ⟨a1,a2⟩:=(K k).2.1 (fun c _=>h1 c);obtain ⟨b1,b2⟩:=JW k h2;exact ⟨a1.trans b1,a2.trans b2⟩
 have split:∀{i:Nat} {r},(rs++[aI.l dst])[i]? = some r→(i < rs.length∧rs[i]? = some r∧r≠.l dst)∨(i=rs.length∧r = .l dst):=by
  intro i r h;by_cases hi:i < rs.length
  ·rw [od hi] at h;exact .inl ⟨hi,h,fun e=>aB (e▸fm h)⟩
  ·rw [qI (by omega)] at h;cases hd:i - rs.length with
   | zero=>simp [hd] at h;exact .inr ⟨by omega,h.symm⟩
   | succ n=>simp [hd] at h
 have tk:∀{i:Nat} {cs},i < rs.length→cK[i]? = some cs→(cK.take rs.length)[i]? = some cs:=by
  intro i cs hi h;rw [M',aJ hi];exact h
 have aoa:∀c,(S0.ah W).E (.b (.l dst) c)=(S0.ah ws).E (.b (.l dst) c):=fun c=>X.other _ (by intro r c' e;cases e;exact aB) (by intro _ e;cases e)
 refine ⟨⟨by simp [dX],?_,?_,?_,?_,?_,?_,?_,?_⟩,?_⟩
 ·intro i r cs hr hc c x hx;rcases split hr with ⟨h1,h2,h3⟩ | ⟨rfl,rfl⟩
  ·rw [(Kx (.b r c) (by intro c' e;cases e;exact h3 rfl) (by intro e;cases e)).1];exact X.Om i r cs h2 (tk h1 hc) c x hx
  ·rw [JC] at hc;cases hc;exact (K (.b (.l dst) c)).1 c x rfl hx
 ·intro i r cs hr hc c hle;rcases split hr with ⟨h1,h2,h3⟩ | ⟨rfl,rfl⟩
  ·rw [(Kx (.b r c) (by intro c' e;cases e;exact h3 rfl) (by intro e;cases e)).1];exact X.out i r cs h2 (tk h1 hc) c hle
  ·rw [JC] at hc;cases hc;rw [((K (.b (.l dst) c)).2.1 (fun c' lL e=>by cases e;omega)).1,(JW _ (by intro e;cases e)).1,aoa];exact hbound _ _ (by omega)
 ·intro i r cs hr hc;rcases split hr with ⟨h1,h2,h3⟩ | ⟨rfl,rfl⟩
  ·rw [(Kx (.r r) (by intro c' e;cases e) (by intro e;cases e;exact h3 rfl)).1];exact X.size i r cs h2 (tk h1 hc)
  ·rw [JC] at hc;cases hc;rw [((K (.r (.l dst))).2.1 (fun c' lL e=>by cases e)).1,k0S.1,qN]
 ·intro k h1 h2;have m:aI.l dst∈rs++[aI.l dst]:=by simp
  rw [(Kx k (fun c e=>h1 _ c e m) (fun e=>h2 _ e m)).1];exact X.other k (fun r c e hr=>h1 r c e (by simp [hr])) (fun r e hr=>h2 r e (by simp [hr]))
 ·intro k;refine iQ (X.dQ k) (iQ ?_ (K k).2.2.2);by_cases hk:k = .r (.l dst)
  ·subst hk;omega
  ·rw [(JW k hk).2];exact bT _
 ·intro i r c hr aS;rcases split hr with ⟨h1,h2,h3⟩ | ⟨rfl,rfl⟩
  ·rw [aJ h1] at aS;rw [(Kx (.b r c) (by intro c' e;cases e;exact h3 rfl) (by intro e;cases e)).2];exact X.wr i r c h2 aS
  ·rw [az (by omega)] at aS;have:=(K (.b (.l dst) c)).2.2.1 c (by simpa using aS) rfl;rw [(JW _ (by intro e;cases e)).2] at this;have:=X.dQ (.b (.l dst) c);omega
 ·intro i r c hr aS x hE;rcases split hr with ⟨h1,h2,h3⟩ | ⟨rfl,rfl⟩
  ·rw [aJ h1] at aS;exact X.acW i r c h2 aS x hE
  ·rw [az (by omega)] at aS;have hc:nb.length≤c:=by simpa using aS
   rw [hbound (.l dst) c (by omega)] at hE;cases hE
 ·intro i r cs hr hc c x hx aS y;rcases split hr with ⟨h1,h2,h3⟩ | ⟨rfl,rfl⟩
  ·rw [aJ h1] at aS;exact X.same i r cs h2 (tk h1 hc) c x hx aS y
  ·rw [az (by omega)] at aS;rw [JC] at hc;cases hc;have:c < nb.length:=(cB.1 hx).1;simp at aS;omega
 ·rw [((K (.r (.l dst))).2.1 (fun c' lL e=>by cases e)).2];have:=X.dQ (.r (.l dst));omega
def jV (P:Program) (cH:FuncId) (args:Array Value) (w:World) (R:Value→World→Prop):Prop:=
 match (callFunc cH args).run P w with
 | .ok (.value v) w'=>R v w'
 | .ok .skip w'=>R undef w'
 | .ok (.enter f xs) w'=>Calls P f xs w' fun e tv=>∃v,e = .returned v∧R v tv
 | .ok (.row row xs) w'=>Rows P row xs w' R
 | _=>False
theorem jV.mono {P:Program} {cH:FuncId} {args:Array Value} {w:World} {R R':Value→World→Prop} (h:jV P cH args w R) (hr:∀v w',R v w'→R' v w'):jV P cH args w R':=by
 unfold jV at h ⊢;split at h
 ·exact hr _ _ h
 ·exact hr _ _ h
 ·exact Calls.mono h (fun e tv=>by rintro ⟨v,rfl,hR⟩;exact ⟨v,rfl,hr _ _ hR⟩)
 ·exact Rows.mono h hr
 ·exact h.elim
def Ea (P:Program) (nm:FuncId→Option Nat) (G:Nat→Option Obj) (Cl:bW):Prop:=
 ∀{f:Nat} {vs:List V} {bx:List (List C)} {r:V} {out:List (List C)} {cH:FuncId},Cl f vs bx=some (r,out)→nm cH=some f→
  ∀{args:Array Value} {w:World} {L:aw},Rel nm vs.length (ga 0 vs++dk 0 bx) ⟨args,[]⟩ w L→eI L→GI G w L→(∀B i o,L B=some (.box (.e i) o)→i < bx.length)→
   jV P cH args w fun v w'=>∃L',de w w' L L'∧Rel nm 0 (dk 0 out) ⟨#[],[]⟩ w' L'∧bD nm w' L' (fun _=>0) (.h 0) r v
section
variable {nm:FuncId→Option Nat} {N:Nat} {S:St} {a:Act} {w w':World} {L L':aw} {γ γ':Key→Nat}
theorem Rel.grown (h:Rel nm N S a w L) (hh:∀B l,L B=some l→w'.heap[B]? = w.heap[B]?):Rel nm N S a w' L:=by
 have bA:Step w w' L L S.γ S.γ:=⟨fun B hB=>⟨hB,hh B _ hB⟩,fun _=>bT _,fun B q o _ _ hB=>⟨hB,fun cur e fz hc=>⟨cur,(hh B _ hB).trans hc,rfl⟩⟩,fun B q o _ _ _ hB=>hh B _ hB,fun _ _ _ _ hB=>hB⟩
 refine ⟨h.size,h.defers,?_,?_,h.kf,h.bound,?_,?_,h.eM,h.fA⟩
 ·intro i;exact (h.slot i).step bA (fun B q o hq hB=>by rw [←hq,Place.l9];exact ⟨hB,hh B _ hB⟩)
 ·intro r c x hx gj;exact (h.cell r c x hx gj).step bA (fun B q o _ hB=>⟨hB,hh B _ hB⟩) (fun B o hB=>⟨hB,fun cur e fz hc=>⟨cur,(hh B _ hB).trans hc,rfl,rfl⟩⟩)
 ·intro r hg hr;obtain ⟨B,o,cur,e,fz,h1,h2,h3,h4⟩:=h.room r hg hr;exact ⟨B,o,cur,e,fz,h1,(hh B _ h1).trans h2,h3,h4⟩
 ·intro B l hB;exact xj (h.fq B l hB) (hh B _ hB)
theorem aF.flat {k k':Key} {j j':Nat} {c:C} {v:Value} (h:aF nm w L γ k j c v) (hf:c.flat=true):aF nm w' L' γ' k' j' c v:=by
 cases c with
 | d x=>
  cases h with
  | d h=>
   cases h with
   | plain h=>
    refine .d (.plain ?_);cases h<;>first | exact .int | exact .bool | exact .str | (simp [C.flat,D.flat] at hf)
   | jm=>simp [C.flat,D.flat] at hf
   | own=>simp [C.flat,D.flat] at hf
 | _=>simp [C.flat] at hf
theorem Yc:∀{l:List V} {i:Nat} {c:V},V.flat.go l=true→l[i]? = some c→c.flat=true
 | [],_,_,_,h=>by simp at h
 | x::t,0,c,h,hc=>by simp only [V.flat.go,bK] at h;simp at hc;subst hc;exact h.1
 | x::t,i+1,c,h,hc=>by simp only [V.flat.go,bK] at h;exact Yc h.2 (by simpa using hc)
theorem bD.flat {k k':Key} {x:V} {v:Value} (h:bD nm w L γ k x v):x.flat=true→bD nm w' L' γ' k' x v:=by
 induction h with
 | one h=>exact fun hf=>.one (h.flat hf)
 | agg hl h=>exact fun hf=>.agg hl (fun j c u hj hu=>(h j c u hj hu).flat (by simp only [V.flat,lH] at hf;exact hf c (fm hj)))
 | aq hl aR h ih=>exact fun hf=>.aq hl aR (fun i x u hj hu=>ih i x u hj hu (Yc hf hj))
end
end
section
section
variable {nm:FuncId→Option Nat} {G:Nat→Option Obj} {P:Program} {Cl:bW}
def yJ (nm:FuncId→Option Nat) (w:World) (L:aw) (γ:Key→Nat) (l:List V) (us:Array Value):Prop:=
 us.size=l.length∧iB l=true∧∀(j:Nat) x u,l[j]? = some x→us[j]? = some u→bD nm w L γ (.h 0) x u
theorem W0:∀{l m:List V},iB l=true→iB m=true→iB (l++m)=true
 | [],m,_,h=>h
 | x::t,m,h1,h2=>by
  simp only [iB,bK] at h1;simp only [qG,iB,bK];exact ⟨h1.1,W0 h1.2 h2⟩
theorem Ow:∀{l:List C},jo l=true→iB (l.map V.one)=true
 | [],_=>rfl
 | x::t,h=>by
  simp only [jo,bK] at h;simp only [fS,iB,V.clean,bK];exact ⟨h.1,Ow h.2⟩
theorem yJ.app {w:World} {L:aw} {γ:Key→Nat} {l m:List V} {us vs:Array Value} (h1:yJ nm w L γ l us) (h2:yJ nm w L γ m vs):yJ nm w L γ (l++m) (us++vs):=by
 refine ⟨by simp [h1.1,h2.1],W0 h1.2.1 h2.2.1,fun j x u hx hu=>?_⟩;by_cases hj:j < l.length
 ·rw [od hj] at hx;rw [AT (by rw [h1.1];exact hj)] at hu;exact h1.2.2 j x u hx hu
 ·rw [qI (by omega)] at hx;rw [Uy (by rw [h1.1];omega),h1.1] at hu;exact h2.2.2 _ x u hx hu
theorem aoh {a:Act} {w:World} {o:Oper} {cH:FuncId} {args:Array Value} {R:Value→World→Prop} (he:(execOp a.eval o).run P w=(callFunc cH args).run P w) (h:jV P cH args w R):dw P a w o R:=by
 unfold jV at h;unfold dw;rw [he];split at h
 ·rename_i hx;rw [hx];exact h
 ·rename_i hx;rw [hx];exact h
 ·rename_i hx;rw [hx];exact h
 ·rename_i hx;rw [hx];exact h
 ·exact h.elim
theorem afp (hO:Ea P nm G Cl):wQ P nm G Cl:=by
 intro N S a w L o d r c f F xs R hH hGi hd ho ajb hF aq' hlen q6 hr;simp only [bp] at hr;obtain ⟨vf,h1,h2⟩:=Q.aK hr;have hv:=rd_val R hF h1;split at h2;rotate_left
 ·cases h2
 rename_i n first cap
 clear hr;obtain ⟨jH,h2⟩:=Q.ek h2;have jH:=JT jH;obtain ⟨⟨vs,ws⟩,h3,h4⟩:=Q.aK h2;clear h2;have xm:=hv.cQ;generalize hfv:a.eval f=fv at xm;cases xm with
 | fns val hf=>exfalso;rcases hf with ⟨h,_⟩ | ⟨h,_⟩<;>omega
 | @fn _ _ _ cH fs cs _ hf g1 g2 aR g3 g4=>
 obtain ⟨L1,M,Yu,bA,jI,ajc,ajQ⟩:=acp R xs c.args.toList (ch.init R) hH hlen q6 h3;dsimp only at h4;have mv:∀{x:C} {u:Value},x.clean=true→aF nm w L S.γ (.h 0) 0 x u→aF nm w L1 (S.ah ws).γ (.h 0) 0 x u:=by
  intro x u hx h;exact h.step (k':=.h 0) (j':=0) bA (fun B q o hq _ hB=>by have:=hH B q o hB;rw [hq] at this;simp [Key.aT] at this)
 have rep:yJ nm w L1 (S.ah ws).γ (first.map .one++vs++cap.map .one) (fs++c.args.map a.eval++cs):=by
  refine yJ.app (yJ.app ⟨by simp [g1],Ow aR.1,?_⟩ ⟨by simp [jI],ajc,?_⟩) ⟨by simp [g2],Ow aR.2,?_⟩
  ·intro j x u hx hu;rw [bO] at hx;obtain ⟨y,hy,rfl⟩:=bG hx;exact .one (mv (kj aR.1 hy) (g3 j y u hy hu))
  ·intro j x u hx hu;rw [HA] at hu;obtain ⟨p,hp,rfl⟩:=bG hu;exact ajQ j x p hx (by simpa using hp)
  ·intro j x u hx hu;rw [bO] at hx;obtain ⟨y,hy,rfl⟩:=bG hx;exact .one (mv (kj aR.2 hy) (g4 j y u hy hu))
 generalize kV:first.map V.one++vs++cap.map V.one=ary at rep h4;generalize nN:fs++c.args.map a.eval++cs=aqh at rep;have he:(execOp a.eval o).run P w=(callFunc cH aqh).run P w:=by
  subst nN;simp [execOp,ho,resolve,ajb,Deferred.ofValue,hfv,invoke]
 refine aoh he ?_;simp only [yV] at h4;obtain ⟨_,k1,k2⟩:=Q.aK h4;clear h4;obtain ⟨⟨rs,bs⟩,k3,k4⟩:=Q.aK k2;clear k2;dsimp only at k4;obtain ⟨eR,k5,k6⟩:=Q.gA k4;clear k4;obtain ⟨dJ,k7,k8⟩:=Q.gA k6;clear k6;obtain ⟨⟨rv,out⟩,k9,Cw⟩:=Q.gA k8;clear k8;dsimp only at Cw;obtain ⟨e1,e2,e3,e4,e5,e6,e7⟩:=ahM M (Gu _ k1) k3 k5 k7 rep.1 rep.2.1 rep.2.2;have hEx:∀B i o,gu rs (S.ah ws).E L1 B=some (.box (.e i) o)→i < dJ.length:=by
  intro B i o hB;rcases pn hB with ⟨h,_⟩ | ⟨r,o',i',h,_,hi⟩ | ⟨_,_,_,_,_,_,_,h,_⟩
  ·cases h
  ·simp only [bQ.box.injEq,aI.e.injEq] at h;obtain ⟨rfl,rfl⟩:=h;rw [e6];have:=(qz rs hi).2;exact (cB.1 this).1
  ·cases h
 have hGe:GI G w (gu rs (S.ah ws).E L1):=by
  intro B c hB;obtain ⟨q1,q2⟩:=hGi B c hB;refine ⟨?_,q2⟩;exact va (M.mono.bh B q1).1
 refine (hO k9 hf e1 e2 hGe hEx).mono ?_;rintro v w' ⟨eS,m1,m2,m3⟩;have hG:∀r∈rs,r.iX=false:=fun r hr=>(e4 r hr).2
 rw [Q.run_ite] at Cw;split at Cw
 ·
  rename_i hc;simp only [bK,List.isEmpty_iff] at hc;obtain ⟨⟨zH,hfl⟩,Ze⟩:=hc;obtain rfl:=Q.aY Cw;subst zH;have p5:∀{B l},L B=some l→gu [] (S.ah ws).E L1 B=none∨gu [] (S.ah ws).E L1 B=some .bh:=by
   intro B l hB;cases hx:gu [] (S.ah ws).E L1 B with
   | none=>exact .inl rfl
   | some l2=>
    right;rcases pn hx with ⟨rfl,_⟩ | ⟨_,_,_,_,_,h⟩ | ⟨_,_,_,_,_,_,_,_,_,h,_⟩
    ·rfl
    ·simp [jn] at h
    ·simp [jn] at h
  have af:∀{B l},L B=some l→B < w.heap.size:=by
   intro B l hB;exact R.fq B l hB
  have ej:∀B l,L B=some l→w'.heap[B]? = w.heap[B]?:=by
   intro B l hB;rcases p5 hB with h | h
   ·exact (m1.none B (af hB) h).2
   ·exact (m1.bh B h).2
  have R':=R.grown ej;have hm:de w w' L L:=by
   refine ⟨m1.os,m1.tape,m1.output,m1.size,fun B hB=>⟨hB,ej B _ hB⟩,fun B hB hL=>⟨hL,?_⟩,fun _ _ _ h=>h⟩;have h1:=(M.mono.none B hB hL).1;exact (m1.none B hB (by simp [gu,h1])).2
  exact Rel.fZ (ws:=[]) R' hm hd (m:=0) (m3.flat hfl)
 obtain ⟨gs,k11,Cx⟩:=Q.aK Cw;clear Cw;have qe:=Yl k11;have hle:=fun k=>St.wO S ws k
 rw [Q.run_ite] at Cx;split at Cx
 ·
  rename_i Ze;obtain ⟨r',FT,Cy⟩:=Q.gA Cx;clear Cx;obtain ⟨cK,JX,JY⟩:=Q.gA Cy;clear Cy;obtain ⟨JZ,J0⟩:=Q.ek JY;obtain rfl:=Q.aY J0;have dX:cK.length=rs.length:=by rw [Sn JX,Ze]
  have X:=XV e3 e5 dX JZ e4 e7 M.rel.bound;obtain ⟨x1,x2,x3,x4⟩:=XW (gs:=gs) M.rel Yu e3 ⟨[],by simp⟩ hG (fun r h1 h2=>absurd h1 h2) rfl m1 m2 X
   (fun i=>by rw [qe,bO];cases rs[i]?<;>rfl)
   (fun i r g h => by
     rw [qe, bO] at h
     obtain ⟨r0, h1, h2⟩ := bG h
     simp only [fJ] at h2
     obtain ⟨rfl, rfl⟩ := h2
     exact St.wO S _ _) JX
  exact Rel.fZ x1 (M.mono.trans x2) hd (m:=0) (m3.back x3 FT x4)
 ·
  obtain ⟨e,FT,Cy⟩:=Q.aK Cx;clear Cx;rw [uZ] at FT;simp only [aj] at FT;subst FT;dsimp only at Cy;obtain ⟨r',JX,JY⟩:=Q.gA Cy;clear Cy;obtain ⟨cK,JZ,J0⟩:=Q.gA JY;clear JY;obtain ⟨ZS,k20⟩:=Q.ek J0;clear J0;obtain rfl:=Q.aY k20;simp only [bK,eV,wN,nA] at ZS;obtain ⟨⟨⟨q1,q2⟩,q3⟩,q4⟩:=ZS;have aB:(aI.l d)∉rs:=by simpa using q4
  have dX:cK.length=rs.length+1:=by rw [Sn JZ,q1]
  obtain ⟨X,hγ⟩:=aix e3 e5 dX q2 e4 aB e7 M.rel.bound q3 rfl;have gg:gs.length=rs.length:=by rw [qe];simp
  obtain ⟨x1, x2, x3, x4⟩ := XW (gs := gs ++ [(.l d, S.γ (.r (.l d)) + 1)]) M.rel Yu (by
      rw [HK]
      exact ⟨e3, by simp, fun x hx y hy h => by simp at hy; subst hy; subst h; exact aB hx⟩) ⟨[.l d], rfl⟩ (fun r hr => by
        rcases dC.1 hr with h | h
        · exact hG r h
        · simp at h; subst h; rfl) (fun r h1 h2 => by
        rcases dC.1 h1 with h | h
        · exact absurd h h2
        · simp at h; subst h; exact ⟨hγ, fun i e => by cases e⟩) rfl m1 m2 X
   (fun i => by
     by_cases hi : i < rs.length
     · rw [od (by omega), od hi, qe, bO]; cases rs[i]? <;> rfl
     · rw [qI (by omega), qI (by omega), gg]
       cases i - rs.length <;> rfl)
   (fun i r g h => by
     by_cases hi : i < rs.length
     · rw [od (by omega), qe, bO] at h
       obtain ⟨r0, h1, h2⟩ := bG h
       simp only [fJ] at h2
       obtain ⟨rfl, rfl⟩ := h2
       exact St.wO S _ _
     · rw [qI (by omega)] at h
       cases hx : i - gs.length with
       | zero =>
         simp [hx] at h
         obtain ⟨rfl, rfl⟩ := h
         exact UY (hle (.r (.l d))) hγ
       | succ n => simp [hx] at h) JZ
  exact Rel.fZ x1 (M.mono.trans x2) hd (m:=0) (m3.back x3 JX x4)
end
end
section
section
variable {nm:FuncId→Option Nat} {N:Nat} {S S0:St} {a:Act} {w:World} {L L0:aw} {P:Program} {ws:List Wr}
def ru (P:Program) (w:World) (tmps:Array Value) (rv:ResultVar) (v:Value):Prop:=
 (match rv with
   | .tmp t => (pure (tmps.getD t undef) : Sem Value)
   | .cell a t => do loadVar t (← asAddr (tmps.getD a undef))).run P w = .ok v w
theorem anG (R:Rel nm N S a w L) {r0:aI} {g c:Nat} {u:Value} {t:TypeId} {n:Nat} {agg:Bool} (ht:r4 P t=some (n,agg)) (hv:aF nm w L S.γ (.h 0) 0 (.ptr r0 g c) u)
 (hG:r0.iX=false) (hg:(S.get (.r r0)).g=g) (B3:c+n≤cm (S.get (.r r0)).v) {cs:List C} (h3:(wh r0 c n).run S=some cs) {x':V} (h4:(lQ agg cs).run S=some x') :
 ∃val,(∃ad,u = .pointer (some ad)∧(loadVar t ad).run P w = .ok val w)∧bD nm w L S.γ (.h 0) x' val:=by
 obtain ⟨hlen,E4⟩:=Mn n c h3;cases hv with
 | ptr iH gg hp=>
  obtain ⟨B,o',hB,cu⟩:=hp hg.symm;by_cases nL:n=0
  ·
   subst nL;have eE:cs=[]:=pS.1 hlen;subst eE;obtain ⟨hm,Ca⟩:=xP (nm:=nm) (w:=w) (L:=L) (γ:=S.γ) (k:=.h 0) (vs:=[]) h4 rfl (fun j c v h=>by simp at h);exact ⟨_,⟨_,cu,Tm ht rfl (fun h=>by have:=Ca h;simp at this) (fun j v h=>by simp at h)⟩,hm⟩
  obtain ⟨B',eX,cur,e,fz,k1,k2,k3,k4⟩:=R.room r0 hG (by have:c+n≤cm (S.E (.r r0)):=B3;omega);obtain rfl:=R.fA B' B r0 eX o' k1 hB;obtain rfl:eX=o':=by rw [k1] at hB;simpa using hB
  have aje:c+n≤cm (S.E (.r r0)):=B3;let vs:=(List.range n).map fun j=>cur.getD (eX+c+j) undef
  have kV:∀j v,vs[j]? = some v→j < n∧cur[eX+c+j]? = some v:=by
   intro j v jt;simp only [vs,bO] at jt;have hj:j < n:=by
    rcases yG j n with h | h
    ·exact h
    ·simp [pR,h] at jt
   have af:eX+c+j < cur.size:=by omega
   simp [hj,Array.getD,af] at jt;exact ⟨hj,by simp [af,jt]⟩
  have pz:vs.length=n:=by simp [vs]
  have hm := xP (nm := nm) (w := w) (L := L) (γ := S.γ) (k := .h 0) (vs := vs) h4 (by rw [hlen, pz]) (by
    intro j c1 v1 dF nO
    obtain ⟨hj, zv⟩ := kV j v1 nO
    obtain ⟨y, zL, xy⟩ := E4 j hj
    rw [dF] at xy
    simp only [aj] at xy
    subst xy
    by_cases ji : y = .dead
    · subst ji; exact .dead
    · have oB := R.cell r0 (c + j) y zL ji
      have : ∃ B o cur e fz v, L B = some (.box r0 o) ∧ w.heap[B]? = some (.cells cur e fz) ∧ jC cur.size fz ∧ cur[o + (c + j)]? = some v ∧ aF nm w L S.γ (.b r0 (c + j)) 0 y v := by
        cases r0 with
        | g i => simp [aI.iX] at hG
        | e i => obtain ⟨B, o, cur, e, fz, v, q1, q2, q3, q4, q5, _⟩ := oB; exact ⟨B, o, cur, e, fz, v, q1, q2, q3, q4, q5⟩
        | l i => obtain ⟨B, o, cur, e, fz, v, q1, q2, q3, q4, q5, _⟩ := oB; exact ⟨B, o, cur, e, fz, v, q1, q2, q3, q4, q5⟩
      obtain ⟨B2, o2, iD, e2, lq, v2, a1, a2, a3, a4, a5⟩ := this
      obtain rfl := R.fA B2 B' r0 o2 eX a1 k1
      obtain rfl : o2 = eX := by rw [a1] at k1; simpa using k1
      obtain ⟨rfl, rfl, rfl⟩ : iD = cur ∧ e2 = e ∧ lq = fz := by rw [a2] at k2; simpa using k2
      rw [← pU, zv] at a4
      simp only [aj] at a4
      subst a4
      exact a5.look rfl _ _)
  refine ⟨_,⟨_,cu,Tm ht pz (fun h=>by rw [←hlen];exact hm.2 h) (fun j v h=>?_)⟩,hm.1⟩;rw [qR k2];exact (kV j v h).2
theorem aoN {r:aI} {n c:Nat} {cs:List C} (h:(wh r c n).run S=some cs):cs.any C.own=false:=by
 obtain ⟨h1,h2⟩:=Mn n c h;rw [List.any_eq_false];intro x hx;obtain ⟨j,hj⟩:=uM hx;obtain ⟨y,_,h3⟩:=h2 j (by rw [←h1];exact (cB.1 hj).1);rw [hj] at h3;simp only [aj] at h3;rw [h3,Go.ax.C4];simp
theorem anQ {agg:Bool} {cs:List C} {x:V} (h:(lQ agg cs).run S=some x) (hc:cs.any C.own=false):x.own=false:=by
 unfold lQ at h;split at h
 ·obtain rfl:=Q.aY h;exact hc
 ·split at h
  ·obtain rfl:=Q.aY h;simpa [V.own,V.cells] using hc
  ·cases h
theorem acq (R0:Rel nm N S0 a w L0) (M:ch nm N S0 w L0 ws a w L) (hH:eI L) {rv:ResultVar} {R:RV} (hc:u5 P rv=some R) {r:V×List Wr} (hr:(G3 ws R).run S0=some r) :
  ∃v L',Out nm N S0 w L0 ws r.2 a w L L' (fun _=>True) 0∧mM nm w L0 S0.γ w L' (S0.ah r.2).γ 0 r.1 v∧ru P w a.tmps rv v:=by
 cases rv with
 | tmp t=>
  simp only [u5,aj] at hc;subst hc;simp only [G3] at hr;obtain ⟨L',h1,h2⟩:=wA M R0 (hH.free 0) (x:=.t t) (o:=.tmp t) rfl .t hr;exact ⟨_,L',h1,h2,rfl⟩
 | cell ad t=>
  simp only [u5] at hc;obtain ⟨⟨n,agg⟩,h1,h2⟩:=bind_some hc;cases h2;simp only [G3] at hr;obtain ⟨v,h3,h4⟩:=Q.aK hr;have hv:=rd_val R0 (x:=.tmp ad) .s h3;split at h4
  ·rename_i r0 g c;have h5:=Q.ni h4;obtain ⟨hg,h6⟩:=Q.ek h5;simp only [bK,nA,eV,fy] at hg;obtain ⟨cs,h7,h8⟩:=Q.aK h6;obtain ⟨x',h9,dj⟩:=Q.aK h8;obtain rfl:=Q.aY dj;obtain ⟨val,⟨ad',e1,e2⟩,rep⟩:=anG R0 h1 hv.cQ hg.1.1 hg.1.2 hg.2 h7 h9;refine ⟨val,L,Out.refl M _ 0,mM.Al M.di rep (anQ h9 (aoN h7)),?_⟩;have OO:a.tmps.getD ad undef = .pointer (some ad'):=e1;simp [ru,OO,asAddr,e2]
  ·cases h4
theorem adw:∀(cs:List C) {ws:List Wr} {L:aw} (M:ch nm N S0 w L0 ws a w L) (j0:Nat) (vs:Nat→Value)
  (hc:∀j c,cs[j]? = some c→iT nm w L0 S0.γ w L (S0.ah ws).γ 0 (j0+j) c (vs (j0+j))) {r:List C×List Wr} (hr:(Hh ws cs).run S0=some r),
  ∃L',Out nm N S0 w L0 ws r.2 a w L L' (fun q=>¬ (q.k = .h 0∧j0≤q.j)) 0∧r.1.length=cs.length∧
   ∀j c,r.1[j]? = some c→aF nm w L' (S0.ah r.2).γ (.h 0) (j0+j) c (vs (j0+j))
 | [],ws,L,M,j0,vs,hc,r,hr=>by
  simp only [Hh] at hr;obtain rfl:=Q.aY hr;exact ⟨L,Out.refl M _ 0,rfl,fun j c h=>by simp at h⟩
 | c::cs,ws,L,M,j0,vs,hc,r,hr=>by
  simp only [Hh] at hr;obtain ⟨⟨c1,fc⟩,h1,h2⟩:=Q.aK hr;clear hr;obtain ⟨⟨Br,fx⟩,h3,h4⟩:=Q.aK h2;clear h2;obtain rfl:=Q.aY h4;dsimp only at h3;obtain ⟨L1,O1,R1⟩:=TH M (by simpa using hc 0 c rfl) h1;dsimp only at O1 R1
  obtain ⟨L2, O2, hl, R2⟩ := adw cs O1.mid (j0 + 1) vs (fun j c h => by
    have := hc (j + 1) c (by simpa using h)
    have := this.keep O1.keep (fun p => by simp)
    rwa [show j0 + 1 + j = j0 + (j + 1) by omega]) h3
  refine ⟨L2,(O1.weaken ?_).trans (O2.weaken ?_),by simp [hl],?_⟩
  ·intro q hq h;exact hq ⟨h.1,by omega⟩
  ·intro q hq h;exact hq ⟨h.1,by omega⟩
  ·intro j c hj;cases j with
   | zero=>
    simp only [kD,aj] at hj;subst hj;exact R1.keep O2.keep (fun p=>by simp)
   | succ j=>
    have:=R2 j c (by simpa using hj);rwa [show j0+1+j=j0+(j+1) by omega] at this
def Eb (L:aw):Prop:=∀B q o,L B=some (.row q o)→q.k.aT=false→q.k = .h 0
theorem LZ {eZ:List Wr} {L':aw} {K:Place→Prop} (hH:eI L) (O:Out nm N S0 w L0 ws eZ a w L L' K 0):Eb L':=by
 intro B q o hB hq;by_cases hk:q.k = .h 0
 ·exact hk
 ·have:=hH B q o (O.xZ B q o hq hk hB);rw [hq] at this;cases this
theorem aoc (hH:eI L):Eb L:=fun B q o hB hq=>by have:=hH B q o hB;rw [hq] at this;cases this
theorem aoT (R0:Rel nm N S0 a w L0) (hH:eI L0) {rv:ResultVar} {R:RV} (hc:u5 P rv=some R) {r:V×List Wr} (hr:(S7 R).run S0=some r) :
  ∃v L',ch nm N S0 w L0 r.2 a w L'∧Eb L'∧bD nm w L' (S0.ah r.2).γ (.h 0) r.1 v∧ru P w a.tmps rv v:=by
 simp only [S7] at hr;obtain ⟨⟨x,fc⟩,h1,h2⟩:=Q.aK hr;clear hr;obtain ⟨v,L1,O1,V1,hv⟩:=acq R0 (ch.init R0) hH hc h1;dsimp only at h2 O1 V1;split at h2
 ·rename_i c;obtain ⟨⟨c',fx⟩,h3,h4⟩:=Q.aK h2;clear h2;obtain rfl:=Q.aY h4;obtain ⟨L2,O2,R2⟩:=TH (m:=0) (j:=0) (v:=v) O1.mid V1 h3;dsimp only at O2 R2 ⊢;exact ⟨v,L2,O2.mid,LZ hH ((O1.weaken (K':=fun q=>¬ (q.k = .h 0∧q.j=0)) (fun _ _=>trivial)).trans O2),.one R2,hv⟩
 ·rename_i cs;obtain ⟨⟨eA,fx⟩,h3,h4⟩:=Q.aK h2;clear h2;obtain rfl:=Q.aY h4;obtain ⟨us,rfl,hl,hV⟩:=V1
  obtain ⟨L2, O2, l2, R2⟩ := adw cs O1.mid 0 (fun j => us.getD j undef) (fun j c hc => by
    have hj : j < us.size := by rw [← hl]; exact (cB.1 hc).1
    have := hV j c _ hc (oc hj)
    simpa [Array.getD, hj] using this) h3
  dsimp only at O2 R2 l2 ⊢;refine ⟨_,L2,O2.mid,LZ hH ((O1.weaken (K':=fun q=>¬ (q.k = .h 0∧0≤q.j)) (fun _ _=>trivial)).trans O2),.agg (by simp [l2,hl]) (fun j c u hj hu=>?_),hv⟩;have:=R2 j c hj;rw [dc] at this;simp only [iw,hu,Option.getD_some] at this;exact this
 ·cases h2
theorem acz (R0:Rel nm N S0 a w L0):∀(j9:List ResultVar) {Rs:List RV} {ws:List Wr} {L:aw} (M:ch nm N S0 w L0 ws a w L) (hH:eI L) (hc:j9.mapM (u5 P)=some Rs) {rr:List V×List Wr} (hr:(wm ws Rs).run S0=some rr),
  ∃(vs:List Value) (L':aw),ch nm N S0 w L0 rr.2 a w L'∧eI L'∧Step w w L L' (S0.ah ws).γ (S0.ah rr.2).γ∧rr.1.length=vs.length∧iB rr.1=true∧(∀(j:Nat) x v,rr.1[j]? = some x→vs[j]? = some v→bD nm w L' (S0.ah rr.2).γ (.h 0) x v)∧
   vs.length=j9.length∧∀(j:Nat) rv v,j9[j]? = some rv→vs[j]? = some v→ru P w a.tmps rv v
 | [],Rs,ws,L,M,hH,hc,rr,hr=>by
  have:Rs=[]:=by simpa using hc.symm
  subst this;simp only [wm] at hr;obtain rfl:=Q.aY hr;exact ⟨[],L,M,hH,Step.same w L (fun _=>bT _),rfl,rfl,fun j x p h=>by simp at h,rfl,fun j x p h=>by simp at h⟩
 | rv::j9,Rs,ws,L,M,hH,hc,rr,hr=>by
  rw [mI] at hc;obtain ⟨R,dF,gC⟩:=bind_some hc;obtain ⟨Rt,xi,E2⟩:=bind_some gC;cases E2;simp only [wm] at hr;obtain ⟨⟨x,fc⟩,h1,h2⟩:=Q.aK hr;clear hr;obtain ⟨v,L1,O1,V1,hv⟩:=acq R0 M hH dF h1;dsimp only at h2 O1 V1;have fin:∀{fx:List Wr} {L2:aw} {x':V} {rest:List V×List Wr},ch nm N S0 w L0 fx a w L2→eI L2→Step w w L L2 (S0.ah ws).γ (S0.ah fx).γ→x'.clean=true→bD nm w L2 (S0.ah fx).γ (.h 0) x' v→(wm fx Rt).run S0=some rest→rr=(x'::rest.1,rest.2)→
    ∃(vs:List Value) (L':aw),ch nm N S0 w L0 rr.2 a w L'∧eI L'∧Step w w L L' (S0.ah ws).γ (S0.ah rr.2).γ∧rr.1.length=vs.length∧iB rr.1=true∧(∀(j:Nat) x v,rr.1[j]? = some x→vs[j]? = some v→bD nm w L' (S0.ah rr.2).γ (.h 0) x v)∧
     vs.length=(rv::j9).length∧∀(j:Nat) AA v,(rv::j9)[j]? = some AA→vs[j]? = some v→ru P w a.tmps AA v:=by
   intro fx L2 x' rest M2 Pw Hg aR rep h5 dM;obtain ⟨vs,L3,M3,Px,np,Jv,xi,R3,Jw,hv4⟩:=acz R0 j9 M2 Pw xi h5;subst dM;refine ⟨v::vs,L3,M3,Px,Hg.trans np,by simp [Jv],by simp [iB,aR,xi],?_,by simp [Jw],?_⟩
   ·intro j x v' hj gJ;cases j with
    | zero=>
     simp only [kD,aj] at hj gJ;subst hj;subst gJ;exact rep.rD np aR _
    | succ j=>exact R3 j x v' (by simpa using hj) (by simpa using gJ)
   ·intro j AA v' hj gJ;cases j with
    | zero=>
     simp only [kD,aj] at hj gJ;subst hj;subst gJ;exact hv
    | succ j=>exact hv4 j AA v' (by simpa using hj) (by simpa using gJ)
  split at h2
  ·rename_i c;obtain ⟨⟨c',fx⟩,h3,h4⟩:=Q.aK h2;clear h2;obtain ⟨⟨vs,wJ⟩,h5,h6⟩:=Q.aK h4;clear h4;have dM:=Q.aY h6;obtain ⟨L2,O2,R2⟩:=uG (m:=0) (j:=0) (c:=c) (v:=v) O1.mid V1 h3;dsimp only at O2 R2 h5;have rX:=(O1.weaken (K':=fun q=>¬ (q.k = .h 0∧q.j=0)) (fun _ _=>trivial)).trans O2;obtain ⟨M3,np⟩:=O2.mid.I7;obtain ⟨R3,aR⟩:=aF.Ma (k':=.h 0) (j':=0) np R2 (TI h3);exact fin M3 (LH O2.mid (LZ hH rX)) (rX.di.trans np) (x':=.one c'.plain) aR (.one R3) h5 dM
  ·rename_i cs;obtain ⟨⟨eA,fx⟩,h3,h4⟩:=Q.aK h2;clear h2;obtain ⟨⟨vs,wJ⟩,h5,h6⟩:=Q.aK h4;clear h4;have dM:=Q.aY h6;obtain ⟨us,nN,hl,hV⟩:=V1
   obtain ⟨L2, O2, l2, R2⟩ := MF (m := 0) cs O1.mid 0 (fun j => us.getD j undef) (fun j c hc => by
     have hj : j < us.size := by rw [← hl]; exact (cB.1 hc).1
     have := hV j c _ hc (oc hj)
     simpa [Array.getD, hj] using this) h3
   dsimp only at O2 R2 h5 l2;have rX:=(O1.weaken (K':=fun q=>¬ (q.k = .h 0∧0≤q.j)) (fun _ _=>trivial)).trans O2;obtain ⟨M3,np⟩:=O2.mid.I7;have each:∀(j:Nat) c,(eA.map C.plain)[j]? = some c→c.clean=true∧∀u,us[j]? = some u→aF nm w (kq L2) (S0.ah fx).γ (.h 0) j c u:=by
    intro j c hc;rw [bO] at hc;cases hj:eA[j]? with
    | none=>simp [hj] at hc
    | some c0=>
     simp only [hj,fe,aj] at hc;subst hc;have:=R2 j c0 hj;rw [dc] at this;have hp:=aF.Ma (k':=.h 0) (j':=j) np this (TF _ h3 c0 (fm hj));refine ⟨hp.2,fun u hu=>?_⟩;have h1:=hp.1;simp only [iw,hu,Option.getD_some] at h1;exact h1
   refine fin M3 (LH O2.mid (LZ hH rX)) (rX.di.trans np) (x':=.agg (eA.map C.plain)) (WZ (fun j c hc=>(each j c hc).1)) ?_ h5 dM;rw [nN];exact .agg (by simp [l2,hl]) (fun j c u hc hu=>(each j c hc).2 u hu)
  ·cases h2
def Hw (vs:List Value):Value:=match vs with | [v]=>v | vs=>.tuple vs.toArray
theorem aoS (R0:Rel nm N S0 a w L0) (hH:eI L0) {fg:Bool} {j9:List ResultVar} {Rs:List RV} (hc:j9.mapM (u5 P)=some Rs) {r:V×List Wr} (hr:(S6 fg Rs).run S0=some r) :
  ∃(vs:List Value) (L':aw),ch nm N S0 w L0 r.2 a w L'∧Eb L'∧bD nm w L' (S0.ah r.2).γ (.h 0) r.1 (Hw vs)∧vs.length=j9.length∧∀(j:Nat) rv v,j9[j]? = some rv→vs[j]? = some v→ru P w a.tmps rv v:=by
 have hl:Rs.length=j9.length:=by
  clear hr;induction j9 generalizing Rs with
  | nil=>
   have:Rs=[]:=by simpa using hc.symm
   subst this;rfl
  | cons x t ih=>
   rw [mI] at hc;obtain ⟨R,dF,gC⟩:=bind_some hc;obtain ⟨Rt,xi,E2⟩:=bind_some gC;cases E2;simp [ih xi]
 have many:∀{x:List V×List Wr},(wm [] Rs).run S0=some x→∃(vs:List Value) (L':aw),ch nm N S0 w L0 x.2 a w L'∧Eb L'∧x.1.length=vs.length∧iB x.1=true∧(∀(j:Nat) y v,x.1[j]? = some y→vs[j]? = some v→bD nm w L' (S0.ah x.2).γ (.h 0) y v)∧vs.length=j9.length∧∀(j:Nat) rv v,j9[j]? = some rv→vs[j]? = some v→ru P w a.tmps rv v:=by
  intro x hx;obtain ⟨vs,L',h1,h2,_,h3,h4,h5,h6,h7⟩:=acz R0 j9 (ch.init R0) hH hc hx;exact ⟨vs,L',h1,aoc h2,h3,h4,h5,h6,h7⟩
 unfold S6 at hr;split at hr
 ·rename_i R;have jI:j9.length=1:=by rw [←hl];rfl
  obtain ⟨rv,rfl⟩:=Nb.1 jI;split at hr
  ·obtain ⟨⟨vs,ws⟩,h1,h2⟩:=Q.aK hr;clear hr;obtain ⟨us,L',k1,k2,k3,k4,k5,k6,k7⟩:=many h1;dsimp only at h2 k1 k3 k4 k5;split at h2
   ·rename_i v;obtain rfl:=Q.aY h2;obtain ⟨u,rfl⟩:=Nb.1 k3.symm;exact ⟨[u],L',k1,k2,k5 0 v u rfl rfl,k6,k7⟩
   ·cases h2
  ·have dF:u5 P rv=some R:=by
    rw [mI] at hc;obtain ⟨R',dF,gC⟩:=bind_some hc;obtain ⟨Rt,xi,E2⟩:=bind_some gC;cases E2;exact dF
   obtain ⟨v,L',k1,k2,k3,k4⟩:=aoT R0 hH dF hr;refine ⟨[v],L',k1,k2,k3,rfl,?_⟩;intro j AA v' h1 h2;cases j with
   | zero=>simp at h1 h2;subst h1;subst h2;exact k4
   | succ j=>simp at h1
 ·rename_i aB;obtain ⟨⟨vs,ws⟩,h1,h2⟩:=Q.aK hr;clear hr;obtain rfl:=Q.aY h2;obtain ⟨us,L',k1,k2,k3,k4,k5,k6,k7⟩:=many h1;dsimp only at k1 k3 k4 k5 ⊢;refine ⟨us,L',k1,k2,?_,k6,k7⟩;have:Hw us = .tuple us.toArray:=by
   match us,k6 with
   | [],_=>rfl
   | [u],h=>exact absurd (by rw [←h] at hl;exact Nb.1 hl) (by rintro ⟨R,rfl⟩;exact aB R rfl)
   | _::_::_,_=>rfl
  rw [this];exact .aq (by simpa using k3) k4 (fun i x u h1 h2=>k5 i x u h1 (by simpa using h2))
theorem aph {fn:Func} {vs:List Value} (hl:vs.length=fn.results.toList.length) (h:∀(j:Nat) rv v,fn.results.toList[j]? = some rv→vs[j]? = some v→ru P w a.tmps rv v) :
  (results fn a.tmps).run P w = .ok (Hw vs) w:=by
 have hm:∀(l:List ResultVar) (us:List Value),us.length=l.length→(∀(j:Nat) rv v,l[j]? = some rv→us[j]? = some v→ru P w a.tmps rv v)→
   (l.mapM fun (rv:ResultVar)=>(match rv with | .tmp t=>(pure (a.tmps.getD t undef):Sem Value) | .cell ad t=>do loadVar t (←asAddr (a.tmps.getD ad undef)))).run P w=Result.ok us w:=by
  intro l;induction l with
  | nil=>
   intro us h1 _;have:us=[]:=by simpa using h1
   subst this;rfl
  | cons rv l ih=>
   intro us h1 h2;cases us with
   | nil=>simp at h1
   | cons u us=>
    rw [mI,Sem.run_bind];have e1:=h2 0 rv u rfl rfl;unfold ru at e1;rw [e1,Result.andThen_ok,Sem.run_bind,ih us (by simpa using h1) (fun j AA v' g1 g2=>h2 (j+1) AA v' (by simpa using g1) (by simpa using g2)),Result.andThen_ok];rfl
 have e:=hm fn.results.toList vs hl h;unfold results;rw [aeG];rw [Sem.run_bind,map_eq_pure_bind,Sem.run_bind];refine (fW (fun r=>Result.andThen (Result.andThen r _) _) e).trans ?_;simp only [Result.andThen_ok];match vs with
 | []=>rfl
 | [u]=>rfl
 | _::_::_=>rfl
end
end
section
section
variable {nm:FuncId→Option Nat} {N:Nat} {S S0:St} {a:Act} {w:World} {L L0:aw} {P:Program} {ws:List Wr} {γ:Key→Nat} {rs:List aI} {E:Key→V}
theorem anz (R:Rel nm N S a w L) {bs dJ:List (List C)} (jh:rs.Nodup) (tW:bs.length=rs.length)
  (hb:∀(k:Nat) r cs,rs[k]? = some r→bs[k]? = some cs→r.iX=false∧cs.length=cm (S.E (.r r))∧(∀(j:Nat) x,cs[j]? = some x→S.E (.b r j) = .one x)∧∀y∈kZ cs,y.2=S.γ (.r y.1))
  (p8:pB rs bs=some dJ):Rel nm 0 (dk 0 dJ) ⟨#[],[]⟩ w (gu rs S.E L):=by
 have box:∀j,j < dJ.length→∃r cs,rs[j]? = some r∧bs[j]? = some cs∧lO rs cs=some (dJ.getD j [])∧(dJ.getD j []).length=cm (S.E (.r r))∧r.iX=false∧jn rs r 0=some j∧
   (∀(i:Nat) x,cs[i]? = some x→S.E (.b r i) = .one x)∧∀x∈kZ cs,x.2=S.γ (.r x.1):=by
  intro j hj;have ua:dJ[j]? = some (dJ.getD j []):=getD_some hj;obtain ⟨cs,h1,h2⟩:=QX j p8 ua;have Qk:j < rs.length:=by rw [←tW,←QY p8];exact hj
  have hr:rs[j]? = some rs[j]:=ke Qk;obtain ⟨c0,c1,c2,c3⟩:=hb j rs[j] cs hr h1;refine ⟨rs[j],cs,hr,h1,h2,by rw [xC h2,c1],c0,?_,c2,c3⟩;have:=yk rs (i:=0) jh hr;rwa [dc] at this
 refine ⟨rfl,rfl,?_,?_,?_,?_,?_,?_,?_,?_⟩
 ·intro i;rw [pg];exact .one .dead
 ·intro r c x hx gj;have fG:(dk 0 dJ:St).E (.b r c) = .one x:=hx;rw [Il];rw [pg] at fG;cases r with
  | g i=>simp only [V.dead,V.one.injEq] at fG;exact absurd fG.symm gj
  | l i=>simp only [V.dead,V.one.injEq] at fG;exact absurd fG.symm gj
  | e j=>
   simp only at fG;split at fG
   ·rename_i Fh;obtain ⟨r0,cs,h1,h2,h3,h4,h5,h6,h7,h8⟩:=box j Fh.1;simp only [V.one.injEq] at fG;obtain ⟨y,k1,k2⟩:=xB c h3 (show (dJ.getD j [])[c]? = some x by rw [←fG];exact getD_some Fh.2);have FM:=h7 c y k1;have ji:y≠.dead:=by
     rintro rfl;simp only [C.dZ,aj] at k2;exact gj k2.symm
    have oB:=R.cell r0 c y FM ji;have ex:∃B o cur e fz v,L B=some (.box r0 o)∧w.heap[B]? = some (.cells cur e fz)∧jC cur.size fz∧cur[o+c]? = some v∧aF nm w L S.γ (.b r0 c) 0 y v∧lJ y B o c e cur.size v:=by
     cases r0 with
     | g i=>simp [aI.iX] at h5
     | e i=>exact oB
     | l i=>exact oB
    obtain ⟨B,o,cur,e,fz,v,m1,m2,m3,m4,m5,m6⟩:=ex;exact ⟨B,o,cur,e,fz,v,zc m1 h6,m2,m3,m4,m5.XB k2 (fun z hz=>h8 z (yc k1 hz)) FM h6,ZF k2 m6⟩
   ·simp only [V.dead,V.one.injEq] at fG;exact absurd fG.symm gj
 ·intro r c;rw [pg];cases r with
  | e j=>
   simp only;split
   ·exact ⟨(dJ.getD j []).getD c .dead,rfl⟩
   ·exact ⟨.dead,rfl⟩
  | g i=>exact ⟨.dead,rfl⟩
  | l i=>exact ⟨.dead,rfl⟩
 ·intro r c hc;rw [pg] at hc ⊢;cases r with
  | e j=>
   simp only at hc ⊢;by_cases hj:j < dJ.length
   ·rw [aJ hj,qN] at hc;rw [az (fun h=>by omega)];rfl
   ·rw [az (fun h=>hj h.1)];rfl
  | g i=>rfl
  | l i=>rfl
 ·intro r hg hr;rw [pg] at hr ⊢;cases r with
  | e j=>
   simp only at hr ⊢;by_cases hj:j < dJ.length
   ·rw [aJ hj,qN] at hr ⊢;obtain ⟨r0,cs,h1,h2,h3,h4,h5,h6,h7,h8⟩:=box j hj;rw [h4] at hr ⊢;obtain ⟨B,o,cur,e,fz,m1,m2,m3,m4⟩:=R.room r0 h5 hr;exact ⟨B,o,cur,e,fz,zc m1 h6,m2,m3,m4⟩
   ·rw [az hj] at hr;simp [V.dead,cm] at hr
  | g i=>simp [aI.iX] at hg
  | l i=>simp [V.dead,cm] at hr
 ·intro B l hB;rcases pn hB with ⟨_,h⟩ | ⟨_,_,_,_,h,_⟩ | ⟨_,_,_,_,_,_,_,_,h,_⟩<;>exact R.fq B _ h
 ·intro B B' pl o o' h1 h2;rcases pn h1 with ⟨h,_⟩ | ⟨_,_,_,h,_⟩ | ⟨r,c,j,p,o1,i,x,h,k1,k2,_⟩
  ·cases h
  ·cases h
  rcases pn h2 with ⟨h',_⟩ | ⟨_,_,_,h',_⟩ | ⟨r',c',j',p',mZ,i',x',h',zT,zU,_⟩
  ·cases h'
  ·cases h'
  simp only [bQ.row.injEq] at h h';obtain ⟨rfl,rfl⟩:=h;obtain ⟨h',rfl⟩:=h';simp only [Place.mk.injEq,Key.b.injEq,aI.e.injEq] at h';obtain ⟨⟨rfl,rfl⟩,rfl,rfl⟩:=h';have e1:=(qz rs k2).2;have e2:=(qz rs zU).2;rw [e1] at e2;simp only [aj] at e2;subst e2;exact R.eM B B' _ _ _ k1 zT
 ·intro B B' r o o' h1 h2;rcases pn h1 with ⟨h,_⟩ | ⟨r1,o1,i,h,k1,k2⟩ | ⟨_,_,_,_,_,_,_,h,_⟩
  ·cases h
  ·rcases pn h2 with ⟨h',_⟩ | ⟨GZ,mZ,i',h',zT,zU⟩ | ⟨_,_,_,_,_,_,_,h',_⟩
   ·cases h'
   ·simp only [bQ.box.injEq] at h h';obtain ⟨rfl,rfl⟩:=h;obtain ⟨h',rfl⟩:=h';simp only [aI.e.injEq] at h';subst h';have e1:=(qz rs k2).2;have e2:=(qz rs zU).2;rw [e1] at e2;simp only [aj] at e2;subst e2;exact R.fA B B' _ _ _ k1 zT
   ·cases h'
  ·cases h
end
end
section
def oJ (rs:List aI) (E:Key→V) (L:aw):aw:=fun B=>
 match L B with
 | some (.row ⟨.h 0,j,p⟩ o)=>some (.row ⟨.h 0,j,p⟩ o)
 | _=>gu rs E L B
section
variable {nm:FuncId→Option Nat} {N:Nat} {S S0:St} {a:Act} {w:World} {L L0 L':aw} {P:Program} {ws:List Wr} {γ:Key→Nat} {rs:List aI} {E:Key→V}
theorem sP {B:Nat} {l:bQ} (h:gu rs E L B=some l):oJ rs E L B=some l:=by
 unfold oJ;split
 ·rename_i j p o hL;simp [gu,hL] at h
 ·exact h
theorem anw {B j o:Nat} {p:List (Nat×Nat)} (h:L B=some (.row ⟨.h 0,j,p⟩ o)):oJ rs E L B=some (.row ⟨.h 0,j,p⟩ o):=by
 unfold oJ;simp [h]
theorem C3 {B:Nat} {l:bQ} (h:oJ rs E L B=some l):gu rs E L B=some l∨∃j p o,l = .row ⟨.h 0,j,p⟩ o∧L B=some l:=by
 unfold oJ at h;split at h
 ·rename_i j p o hL;simp only [aj] at h;subst h;exact .inr ⟨j,p,o,rfl,hL⟩
 ·exact .inl h
theorem aaB:Step w w (gu rs E L) (oJ rs E L) (fun _=>0) (fun _=>0):=
 ⟨fun B hB=>⟨sP hB,rfl⟩,fun _=>bT _,fun B q o _ _ hB=>⟨sP hB,fun cur e fz h=>⟨cur,h,rfl⟩⟩,fun _ _ _ _ _ _ _=>rfl,fun B r o _ hB=>sP hB⟩
theorem anA (R:Rel nm 0 S ⟨#[],[]⟩ w (gu rs E L)) (hS:S.γ=fun _=>0) (qX:lZ L) (E8:rV w L):Rel nm 0 S ⟨#[],[]⟩ w (oJ rs E L):=by
 have bA:Step w w (gu rs E L) (oJ rs E L) S.γ S.γ:=by rw [hS];exact aaB
 have noh:∀{B q o},gu rs E L B=some (.row q o)→q.k.aT=true:=by
  intro B q o hB;rcases pn hB with ⟨h,_⟩ | ⟨_,_,_,h,_⟩ | ⟨_,_,_,_,_,_,_,h,_⟩
  ·cases h
  ·cases h
  ·simp only [bQ.row.injEq] at h;rw [h.1];rfl
 refine ⟨R.size,R.defers,?_,?_,R.kf,R.bound,?_,?_,?_,?_⟩
 ·intro i;exact (R.slot i).step bA (fun B q o hq hB=>by rw [←hq,Place.l9];exact ⟨sP hB,rfl⟩)
 ·intro r c x hx gj;exact (R.cell r c x hx gj).step bA (fun B q o _ hB=>⟨sP hB,rfl⟩) (fun B o hB=>⟨sP hB,fun cur e fz hc=>⟨cur,hc,rfl,rfl⟩⟩)
 ·intro r hg hr;obtain ⟨B,o,cur,e,fz,h1,h2,h3,h4⟩:=R.room r hg hr;exact ⟨B,o,cur,e,fz,sP h1,h2,h3,h4⟩
 ·intro B l hB;rcases C3 hB with h | ⟨_,_,_,_,h⟩
  ·exact R.fq B l h
  ·exact E8 B l h
 ·intro B B' pl o o' h1 h2;rcases C3 h1 with g1 | ⟨j,p,o1,e1,g1⟩
  ·rcases C3 h2 with g2 | ⟨j',p',mZ,e2,g2⟩
   ·exact R.eM B B' pl o o' g1 g2
   ·have:=noh g1;simp only [bQ.row.injEq] at e2;rw [e2.1] at this;simp [Key.aT] at this
  ·rcases C3 h2 with g2 | ⟨j',p',mZ,e2,g2⟩
   ·have:=noh g2;simp only [bQ.row.injEq] at e1;rw [e1.1] at this;simp [Key.aT] at this
   ·exact qX B B' pl o o' g1 g2
 ·intro B B' r o o' h1 h2;rcases C3 h1 with g1 | ⟨_,_,_,e1,_⟩
  ·rcases C3 h2 with g2 | ⟨_,_,_,e2,_⟩
   ·exact R.fA B B' r o o' g1 g2
   ·cases e2
  ·cases e1
theorem aF.Lx {j:Nat} {c:C} {v:Value} (h:aF nm w L γ (.h 0) j c v) {c':C} (hi:c.dZ rs=some c') (hl:∀x∈c.wa,x.2=γ (.r x.1)):aF nm w (oJ rs E L) (fun _=>0) (.h 0) j c' v:=by
 have cl:c.clean=true→aF nm w (oJ rs E L) (fun _=>0) (.h 0) j c' v:=by
  intro hc;refine (h.enter (rs:=rs) (E:=E) hi hl hc (.h 0) j).step aaB (fun B q o h1 h2 hB=>?_);rw [←h1,←h2,Place.l9];exact ⟨sP hB,rfl⟩
 cases c with
 | d x=>
  simp only [C.dZ,aj] at hi;subst hi;cases h with
  | d h=>
   refine .d (br.move id (fun q=>q.k = .h 0) (fun _ _ _ h=>h) (fun _ _ _ _=>rfl) (fun B hB=>⟨sP (va hB),rfl⟩) (fun B q o hq hB=>⟨?_,rfl⟩) h rfl);obtain ⟨k,j,p⟩:=q;simp only at hq;subst hq;exact anw hB
 | c7=>simp [C.dZ] at hi
 | mp=>simp [C.dZ] at hi
 | bt t=>exact absurd rfl (h.LD t)
 | _=>exact cl (h.u4 rfl)
theorem aaC:∀{l l':List V} (j:Nat) {c':V},sQ rs l=some l'→l'[j]? = some c'→∃c,l[j]? = some c∧c.leave rs=some c'
 | [],l',j,c',h,hj=>by simp only [sQ,aj] at h;subst h;simp at hj
 | c::t,l',j,c',h,hj=>by
  simp only [sQ] at h;obtain ⟨c1,h1,h2⟩:=fp.1 h;obtain ⟨t1,h3,rfl⟩:=bG h2;cases j with
  | zero=>simp at hj;subst hj;exact ⟨c,rfl,h1⟩
  | succ j=>obtain ⟨c2,g1,g2⟩:=aaC j h3 (by simpa using hj);exact ⟨c2,by simpa using g1,g2⟩
theorem aaD:∀{l l':List V},sQ rs l=some l'→l'.length=l.length
 | [],l',h=>by simp only [sQ,aj] at h;subst h;rfl
 | c::t,l',h=>by
  simp only [sQ] at h;obtain ⟨c1,h1,h2⟩:=fp.1 h;obtain ⟨t1,h3,rfl⟩:=bG h2;simp [aaD h3]
mutual
theorem anx:∀{c c':V},c.clean=true→c.leave rs=some c'→c'.clean=true
 | .one c,c',h,hi=>by simp only [V.leave] at hi;obtain ⟨x,h1,rfl⟩:=bG hi;exact JR (c:=c) h h1
 | .agg cs,c',h,hi=>by simp only [V.leave] at hi;obtain ⟨x,h1,rfl⟩:=bG hi;exact JS (l:=cs) h h1
 | .aq vs,c',h,hi=>by simp only [V.leave] at hi;obtain ⟨x,h1,rfl⟩:=bG hi;exact RA (l:=vs) h h1
theorem RA:∀{l l':List V},iB l=true→sQ rs l=some l'→iB l'=true
 | [],l',h,hi=>by simp only [sQ,aj] at hi;subst hi;rfl
 | c::t,l',h,hi=>by
  simp only [sQ] at hi;obtain ⟨c1,h1,h2⟩:=fp.1 hi;obtain ⟨t1,h3,rfl⟩:=bG h2;simp only [iB,bK] at h ⊢;exact ⟨anx h.1 h1,RA h.2 h3⟩
end
theorem ab9:∀{l:List V} {i:Nat} {x:V} {y:aI×Nat},l[i]? = some x→y∈x.As→y∈GX l
 | [],_,_,_,h,_=>by simp at h
 | x::t,0,c,y,h,hy=>by simp at h;subst h;simp [GX,hy]
 | x::t,i+1,c,y,h,hy=>by simp only [GX,dC];exact .inr (ab9 (by simpa using h) hy)
theorem ab8:∀{l:List (List C)} {i:Nat} {x:List C} {y:aI×Nat},l[i]? = some x→y∈kZ x→y∈Ar l
 | [],_,_,_,h,_=>by simp at h
 | x::t,0,c,y,h,hy=>by simp at h;subst h;simp [Ar,hy]
 | x::t,i+1,c,y,h,hy=>by simp only [Ar,dC];exact .inr (ab8 (by simpa using h) hy)
theorem bD.Lx {x:V} {v:Value} (h:bD nm w L γ (.h 0) x v):∀{x':V},x.leave rs=some x'→(∀y∈x.As,y.2=γ (.r y.1))→bD nm w (oJ rs E L) (fun _=>0) (.h 0) x' v:=by
 induction h with
 | one h=>
  intro x' hi hl;simp only [V.leave] at hi;obtain ⟨c',h1,rfl⟩:=bG hi;exact .one (h.Lx h1 hl)
 | @agg cs vs hlen h=>
  intro x' hi hl;simp only [V.leave] at hi;obtain ⟨eA,h1,rfl⟩:=bG hi;refine .agg (by rw [xC h1];exact hlen) (fun j c u hj hu=>?_);obtain ⟨c0,g1,g2⟩:=xB j h1 hj;exact (h j c0 u g1 hu).Lx g2 (fun y hy=>hl y (yc g1 hy))
 | @aq vs us hlen aR h ih=>
  intro x' hi hl;simp only [V.leave] at hi;obtain ⟨eR,h1,rfl⟩:=bG hi;refine .aq (by rw [aaD h1];exact hlen) (RA aR h1) (fun i x u hj hu=>?_);obtain ⟨c0,g1,g2⟩:=aaC i h1 hj;exact ih i c0 u g1 hu g2 (fun y hy=>hl y (ab9 g1 hy))
theorem BD:∀(n i k:Nat),(ov i n)[k]? = if k < n then some (aI.e (i+k)) else none
 | 0,i,k=>by simp [ov]
 | n+1,i,0=>by simp [ov]
 | n+1,i,k+1=>by
  simp only [ov,yB];rw [BD n (i+1) k];simp only [Nat.add_lt_add_iff_right,show i+1+k=i+(k+1) by omega]
theorem zd:∀(n i:Nat),(ov i n).length=n
 | 0,i=>rfl
 | n+1,i=>by simp [ov,zd n (i+1)]
theorem XX {n i:Nat} {r:aI} (h:r∈ov i n):∃k,r = .e k∧i≤k:=by
 obtain ⟨k,hk⟩:=uM h;rw [BD] at hk;split at hk
 ·simp only [aj] at hk;exact ⟨i+k,hk.symm,by omega⟩
 ·cases hk
theorem IU:∀(n i:Nat),(ov i n).Nodup
 | 0,i=>List.nodup_nil
 | n+1,i=>by
  simp only [ov,Nf];refine ⟨fun h=>?_,IU n (i+1)⟩;obtain ⟨k,h1,h2⟩:=XX h;simp only [aI.e.injEq] at h1;omega
theorem abA:∀{bs:List (List C)} {i:Nat} {out:List (List C)},(GO ws i bs).run S0=some out→out.length=bs.length∧
  ∀(k:Nat) cs,out[k]? = some cs→cs.length=cm ((S0.ah ws).E (.r (.e (i+k))))∧∀(j:Nat) x,cs[j]? = some x→(S0.ah ws).E (.b (.e (i+k)) j) = .one x
 | [],i,out,h=>by
  simp only [GO] at h;obtain rfl:=Q.aY h;exact ⟨rfl,fun k cs h=>by simp at h⟩
 | b::bs,i,out,h=>by
  simp only [GO] at h;obtain ⟨e,h1,h2⟩:=Q.aK h;clear h;rw [uZ] at h1;simp only [aj] at h1;subst h1;obtain ⟨h3,h4⟩:=Q.ek h2;clear h2;obtain ⟨cs,h5,h6⟩:=Q.aK h4;clear h4;obtain ⟨Dh,h7,h8⟩:=Q.aK h6;clear h6;obtain rfl:=Q.aY h8;obtain ⟨g1,g2⟩:=Mk _ _ h5;obtain ⟨g3,g4⟩:=abA h7;refine ⟨by simp [g3],fun k eA hk=>?_⟩;cases k with
  | zero=>
   simp only [kD,aj] at hk;subst hk;simp only [eV] at h3;refine ⟨by rw [g1];exact h3.symm,fun j x hj=>?_⟩;have:=g2 j x hj;rwa [dc] at this
  | succ k=>
   have:=g4 k eA (by simpa using hk);rwa [show i+1+k=i+(k+1) by omega] at this
theorem RU:∀{l:List (aI×Nat)} {r:aI},sV l=some r→∃i,r = .l i
 | [],r,h=>by simp [sV] at h
 | (.l i,g)::t,r,h=>by simp only [sV,aj] at h;exact ⟨i,h.symm⟩
 | (.e i,g)::t,r,h=>by simp only [sV] at h;exact RU h
 | (.g i,g)::t,r,h=>by simp only [sV] at h;exact RU h
structure Nt (n:Nat) (L L':aw):Prop where
 bh:∀B,L B=some .bh→L' B=some .bh
 none:∀B,L B=none→L' B=none
 Bt:∀B i o,i < n→L B=some (.box (.e i) o)→L' B=some (.box (.e i) o)
theorem anv {n:Nat} (zH:∀i,i < n→jn rs (.e i) 0=some i):Nt n L (oJ rs E L):=by
 refine ⟨fun B hB=>sP (va hB),fun B hB=>?_,fun B i o hi hB=>sP (zc hB (zH i hi))⟩;unfold oJ;rw [hB];simp [gu,hB]
theorem ahU (R0:Rel nm N S0 a w L0) (hH:eI L0) {fn:ll} {bx:List (List C)} {j9:List ResultVar} (hc:j9.mapM (u5 P)=some fn.results) {r:V×List (List C)} (hr:(ve fn bx).run S0=some r) :
  ∃(vs:List Value) (L':aw),vs.length=j9.length∧(∀(j:Nat) rv v,j9[j]? = some rv→vs[j]? = some v→ru P w a.tmps rv v)∧
   (∃L1,de w w L0 L1∧Nt bx.length L1 L')∧Rel nm 0 (dk 0 r.2) ⟨#[],[]⟩ w L'∧bD nm w L' (fun _=>0) (.h 0) r.1 (Hw vs):=by
 simp only [ve] at hr;obtain ⟨⟨x,ws⟩,h1,h2⟩:=Q.aK hr;clear hr;obtain ⟨vs,L1,M,hO,rep,hl,hv⟩:=aoS R0 hH hc h1;dsimp only at h2 M rep;obtain ⟨out,h3,h4⟩:=Q.aK h2;clear h2;obtain ⟨o1,o2⟩:=abA h3;simp only [dc] at o2;have fin:∀{rs:List aI} {bs dJ:List (List C)} {x':V},rs.Nodup→bs.length=rs.length→(∀i,i < bx.length→jn rs (.e i) 0=some i)→
   (∀(k:Nat) r cs,rs[k]? = some r→bs[k]? = some cs→r.iX=false∧cs.length=cm ((S0.ah ws).E (.r r))∧(∀(j:Nat) x,cs[j]? = some x→(S0.ah ws).E (.b r j) = .one x))→
   (∀y∈x.As++Ar bs,wR S0 ws y)→x.leave rs=some x'→pB rs bs=some dJ→r=(x',dJ)→
   ∃(vs:List Value) (L':aw),vs.length=j9.length∧(∀(j:Nat) rv v,j9[j]? = some rv→vs[j]? = some v→ru P w a.tmps rv v)∧
   (∃L1,de w w L0 L1∧Nt bx.length L1 L')∧Rel nm 0 (dk 0 r.2) ⟨#[],[]⟩ w L'∧bD nm w L' (fun _=>0) (.h 0) r.1 (Hw vs):=by
  intro rs bs dJ x' jh tW zH hb lu hx p8 dM;subst dM;have hγ:∀{y:aI×Nat},wR S0 ws y→y.2=(S0.ah ws).γ (.r y.1):=fun h=>by rw [HS h.2.1];exact h.1
  have R1:=anz M.rel jh tW (fun k r cs h1 h2=>⟨(hb k r cs h1 h2).1,(hb k r cs h1 h2).2.1,(hb k r cs h1 h2).2.2,fun y hy=>hγ (lu y (aeJ _ (ab8 h2 hy)))⟩) p8;refine ⟨vs,oJ rs (S0.ah ws).E L1,hl,hv,⟨L1,M.mono,anv zH⟩,anA R1 (Il _) M.rel.eM M.rel.fq,?_⟩;exact rep.Lx hx (fun y hy=>hγ (lu y (HJ _ hy)))
 have acC:∀{rs:List aI},rs.Nodup→(∀i,i < bx.length→rs[i]? = some (.e i))→∀i,i < bx.length→jn rs (.e i) 0=some i:=by
  intro rs jh h i hi;have:=yk rs (i:=0) jh (h i hi);rwa [dc] at this
 split at h4
 ·obtain ⟨_,h5,h6⟩:=Q.aK h4;clear h4;obtain ⟨x',h7,h8⟩:=Q.gA h6;clear h6;obtain ⟨Dh,h9,dj⟩:=Q.gA h8;clear h8;have dM:=Q.aY dj;refine fin (IU _ _) (by rw [o1,zd]) (acC (IU _ _) (fun i hi=>by rw [BD,aJ hi,dc])) ?_ (Gu _ h5) h7 h9 dM;intro k r cs hk eE;rw [BD] at hk;split at hk
  ·simp only [dc,aj] at hk;subst hk;exact ⟨rfl,(o2 k cs eE).1,(o2 k cs eE).2⟩
  ·cases hk
 ·rename_i r0 sF;obtain ⟨i0,rfl⟩:=RU sF;obtain ⟨e,h5,h6⟩:=Q.aK h4;clear h4;rw [uZ] at h5;simp only [aj] at h5;subst h5;obtain ⟨gX,h7,h8⟩:=Q.aK h6;clear h6;obtain ⟨_,h9,dj⟩:=Q.aK h8;clear h8;obtain ⟨x',gO,iE⟩:=Q.gA dj;clear dj;obtain ⟨Dh,sq,sr⟩:=Q.gA iE;clear iE;have dM:=Q.aY sr;obtain ⟨g1,g2⟩:=Mk _ _ h7;have jh:(ov 0 bx.length++[aI.l i0]).Nodup:=by
   rw [HK];refine ⟨IU _ _,by simp,fun y hy z hz h=>?_⟩;simp at hz;subst hz;subst h;obtain ⟨k,h1,_⟩:=XX hy;cases h1
  refine fin jh (by simp [o1,zd]) (acC jh (fun i hi=>by rw [od (by rw [zd];exact hi),BD,aJ hi,dc])) ?_ (Gu _ h9) gO sq dM;intro k r1 cs hk eE;by_cases vx:k < bx.length
  ·rw [od (by rw [zd];exact vx),BD,aJ vx] at hk;simp only [dc,aj] at hk;subst hk;rw [od (by rw [o1];exact vx)] at eE;exact ⟨rfl,(o2 k cs eE).1,(o2 k cs eE).2⟩
  ·rw [qI (by rw [zd];omega),zd] at hk;rw [qI (by rw [o1];omega),o1] at eE;cases hd:k - bx.length with
   | zero=>
    simp [hd] at hk eE;subst hk;subst eE;refine ⟨rfl,g1,fun j x hj=>?_⟩;have:=g2 j x hj;rwa [dc] at this
   | succ n=>simp [hd] at hk
end
end
section
section
variable {nm:FuncId→Option Nat} {G:Nat→Option Obj} {N n:Nat} {S S0:St} {a:Act} {w:World} {L L0 L':aw} {P:Program} {Cl:bW}
theorem aiL {args:Array Value} {m:Nat} (R:Rel nm n S ⟨args,[]⟩ w L) (h:n≤m):Rel nm m S ⟨args++Array.replicate (m - args.size) undef,[]⟩ w L:=by
 have hs:args.size=n:=R.size;refine ⟨by simp [hs];omega,rfl,fun i=>?_,R.cell,R.kf,R.bound,R.room,R.fq,R.eM,R.fA⟩;have:=R.slot i;have e:(args++Array.replicate (m - args.size) undef).getD i undef=args.getD i undef:=by
  simp only [iw];by_cases hi:i < args.size
  ·rw [AT hi]
  ·rw [Uy (by omega),M7 (show args.size≤i by omega)];by_cases h2:i - args.size < m - args.size
   ·rw [aeF,aJ h2];rfl
   ·rw [aeF,az h2]
 show bD nm w L S.γ (.s i) (S.E (.s i)) ((args++Array.replicate (m - args.size) undef).getD i undef);rw [e];exact this
theorem afa (vA:P.follows .mixedOrders=true) (hc:wQ P nm G Cl) {hh:Hint} {fg:Bool} {f:Func} {cH:FuncId} {fn:ll} (hf:P.funcs[cH]? = some f) (mg:(f.name == "runtime.NumGoroutine")=false)
  (P1:Ey P nm hh f fg=some fn) {vs:List V} {bx:List (List C)} {r:V} {out:List (List C)} (he:vb Cl n fn vs bx=some (r,out))
  {args:Array Value} (R:Rel nm vs.length (ga 0 vs++dk 0 bx) ⟨args,[]⟩ w L) (hH:eI L) (hG:GI G w L) (hE:∀B i o,L B=some (.box (.e i) o)→i < bx.length) :
  jV P cH args w fun v w'=>∃L',de w w' L L'∧Rel nm 0 (dk 0 out) ⟨#[],[]⟩ w' L'∧bD nm w' L' (fun _=>0) (.h 0) r v:=by
 unfold Ey at P1;obtain ⟨c,hb,h1⟩:=bind_some P1;clear P1;split at h1
 ·cases h1
 rename_i qi;have qi:hh.nt=f.ntmps:=Classical.not_not.1 qi;obtain ⟨ic,h2,h3⟩:=bind_some h1;clear h1;obtain ⟨Rs,h4,h5⟩:=bind_some h3;clear h3;cases h5;unfold vb at he;split at he;rotate_left
 ·cases he
 rename_i sw;obtain ⟨⟨e,Sf⟩,h6,h7⟩:=fp.1 he;clear he;have iW:(callFunc cH args).run P w = .ok (.enter cH args) w:=by
  have Fw:¬ f.name = "runtime.NumGoroutine" := by simpa using mg
  simp [callFunc,hf,Fw,hb]
 unfold jV;rw [iW];refine calls_of_wp hf hb (afE vA hc qi n c h2 h6 (aiL R sw) hH hG ?_);intro a' w' L1 D;have fin:∀{rr:V×List (List C)},(ve ⟨f.ntmps,Rs,ic,fg⟩ bx).run Sf=some rr→rr=(r,out)→a'.defers=[]∧∃v,(results f a'.tmps).run P w' = .ok v w'∧∃v',Ending.returned v = .returned v'∧∃L',de w w' L L'∧Rel nm 0 (dk 0 out) ⟨#[],[]⟩ w' L'∧bD nm w' L' (fun _=>0) (.h 0) r v':=by
  intro rr dM heq;subst heq;obtain ⟨us,L2,k1,k2,⟨L3,k3,k4⟩,k5,k6⟩:=ahU D.rel D.xR h4 dM;refine ⟨D.rel.defers,_,aph k1 k2,_,rfl,L2,?_,k5,k6⟩;have m1:=D.mono.trans k3;refine ⟨m1.os,m1.tape,m1.output,m1.size,fun B hB=>⟨k4.bh B (m1.bh B hB).1,(m1.bh B hB).2⟩,fun B hl hB=>⟨k4.none B (m1.none B hl hB).1,(m1.none B hl hB).2⟩,fun B i o hB=>k4.Bt B i o (hE B i o hB) (m1.Bt B i o hB)⟩
 cases e with
 | norm=>exact fin h7 rfl
 | ret=>exact fin h7 rfl
 | exit id=>simp at h7
structure Nz (P:Program) (nm:FuncId→Option Nat) (T:Nat→Option ll):Prop where
 mixed:P.follows .mixedOrders=true
 fn:∀{f:Nat} {fn:ll} {cH:FuncId},T f=some fn→nm cH=some f→∃g hh fg,P.funcs[cH]? = some g∧(g.name == "runtime.NumGoroutine")=false∧Ey P nm hh g fg=some fn
def Vf (P:Program) (nm:FuncId→Option Nat) (G:Nat→Option Obj) (T:Nat→Option ll) (pH:bW):Prop:=
 ∀{f:Nat} {vs:List V} {bx:List (List C)} {r:V} {out:List (List C)} {cH:FuncId},T f=none→pH f vs bx=some (r,out)→nm cH=some f→
  ∀{args:Array Value} {w:World} {L:aw},Rel nm vs.length (ga 0 vs++dk 0 bx) ⟨args,[]⟩ w L→eI L→GI G w L→(∀B i o,L B=some (.box (.e i) o)→i < bx.length)→
   jV P cH args w fun v w'=>∃L',de w w' L L'∧Rel nm 0 (dk 0 out) ⟨#[],[]⟩ w' L'∧bD nm w' L' (fun _=>0) (.h 0) r v
theorem ahQ {T:Nat→Option ll} {pH:bW} (hT:Nz P nm T) (hp:Vf P nm G T pH) (n:Nat):Ea P nm G (nF T pH n):=by
 induction n with
 | zero=>intro f vs bx r out cH h;simp [nF] at h
 | succ n ih=>
  intro f vs bx r out cH h hn args w L R hH hG hE;simp only [nF] at h;split at h
  ·rename_i fn xm;obtain ⟨g,hh,fg,h1,h2,h3⟩:=hT.fn xm hn;exact afa hT.mixed (afp ih) h1 h2 h3 h R hH hG hE
  ·rename_i xm;exact hp xm h hn R hH hG hE
end
end
section
def mU:lY→Option (Option (List Nat)×Bool)
 | .ja k g _ _=>some (k,g)
 | .seq a _=>mU a
 | .block _ b=>mU b
 | _=>none
def wy:jE→jE
 | .ja _ _ o d=>.ja none false o d
 | .seq a b=>.seq (wy a) b
 | .join i k g a b=>.join i k g (wy a) b
 | .block i b=>.block i (wy b)
 | c=>c
def aod:oY→Bool
 | .app .. => true
 | .A8 .. => true
 | .A6 .. => true
 | _=>false
def jE.ways:jE→Nat×List Nat
 | .skip=>(1,[])
 | .ja _ _ ops _=>(if ops.any fun o=>aod o.op||o.guard.isSome then 2 else 1,[])
 | .seq a b=>match a.ways with
  | (0,l)=>(0,l)
  | (m+1,l)=>match b.ways with
   | (n,r)=>(min 99 ((m+1) * n),l++(List.replicate (min 9 (m+1)) r).flatten)
 | .cond _ a b=>match a.ways,b.ways with
  | (m,l),(n,r)=>(m+n,l++r)
 | .block i b=>match b.ways with
  | (m,l)=>(m+(l.filter fun j=>Nat.beq j i).length,l.filter fun j=>!(Nat.beq j i))
 | .loop _ _ _ b=>match b.ways with
  | (_,l)=>(0,l)
 | .join _ _ _ a b=>match a.ways with
  | (0,l)=>(0,l)
  | (_+1,l)=>match b.ways with
   | (n,r)=>(n,l++r)
 | .exit i=>(0,[i])
 | .ret=>(0,[])
def aoe:oY→Nat
 | .call .. => 6
 | .load .. => 2
 | .store .. => 2
 | _=>1
def jE.wt:jE→Nat
 | .ja _ _ ops _=>(ops.map fun o=>aoe o.op).foldl (· + ·) 0
 | .seq a b=>a.wt+b.wt
 | .cond _ a b=>2+a.wt+b.wt
 | .block _ b=>b.wt
 | .loop _ _ _ b=>4+b.wt
 | .join _ _ _ a _=>a.wt+4
 | _=>0
def rH (jL:Nat):lY→Nat→jE×Nat
 | .skip,n=>(.skip,n)
 | .ja k g o d,n=>(.ja k g o d,n)
 | .seq a b,n=>match rH jL b n with
  | (b',n1)=>match rH jL a n1 with
   | (a',n2)=>match mU b,Nat.ble jL ((a'.ways.1 - 1) * b'.wt) with
    | some (k,g),true=>(.join n2 k g a' (wy b'),n2+1)
    | _,_=>(.seq a' b',n2)
 | .cond c a b,n=>match rH jL a n with
  | (a',n1)=>match rH jL b n1 with
   | (b',n2)=>(.cond c a' b',n2)
 | .block i b,n=>match rH jL b n with
  | (b',n1)=>(.block i b',n1)
 | .loop b,n=>match rH jL b (n+1) with
  | (b',n1)=>match mU b with
   | some (k,g)=>(.loop n k g (wy b'),n1)
   | none=>(.loop n none false b',n1)
 | .exit i,n=>(.exit i,n)
 | .ret,n=>(.ret,n)
def Rd (jL:Nat) (f:Option ll):uW:=
 match f with
 | some g=>⟨g.C7,g.results,(rH jL g.body 0).1,g.forget⟩
 | none=>⟨0,[],.skip,false⟩
def jE.at_:jE→List Nat→jE
 | c,[]=>c
 | .seq a b,i::p=>match i with | 0=>a.at_ p | _=>b.at_ p
 | .join _ _ _ a b,i::p=>match i with | 0=>a.at_ p | _=>b.at_ p
 | .cond _ a b,i::p=>match i with | 0=>a.at_ p | _=>b.at_ p
 | .block _ b,_::p=>b.at_ p
 | .loop _ _ _ b,_::p=>b.at_ p
 | c,_::_=>c
end
section
open Go
def Gy (a:Nat):List Nat→Bool
 | []=>false
 | b::t=>match Nat.beq a b with | true=>true | false=>Gy a t
def wE:List Nat→List Nat→List Nat
 | a,[]=>a
 | a,x::t=>match Gy x a with | true=>wE a t | false=>wE (a++[x]) t
def OI (d:Nat):List Nat→List Nat
 | []=>[]
 | b::t=>match Nat.beq d b with | true=>OI d t | false=>b::OI d t
def Hn:List Operand→List Nat
 | []=>[]
 | .tmp t::l=>t::Hn l
 | _::l=>Hn l
def afT (ops:List Oper) (j:Nat):List Nat:=match ops[j]? with
 | some o=>match o.dst with | some d=>[d] | none=>[]
 | none=>[]
def NQ (all:List Oper):List Oper→List Nat→List Nat
 | [],l=>l
 | o::t,l=>
  let l:=NQ all t l
  let l:=match o.dst with | some d=>OI d l | none=>l
  let l:=wE l (Hn o.op.operands.toList)
  match o.guard with
  | some (j,_)=>wE l (afT all j)
  | none=>l
abbrev Rg:=List (Nat×List Nat)
def RC (i:Nat):Rg→Option (List Nat)
 | []=>none
 | (k,l)::t=>match Nat.beq i k with | true=>some l | false=>RC i t
def acX:List Nat→List Nat→Bool
 | [],[]=>true
 | _::a,_::b=>acX a b
 | _,_=>false
def Q8 (f:List Nat→List Nat):Nat→List Nat→List Nat
 | 0,x=>x
 | n+1,x=>
  let y:=wE x (f x)
  match acX x y with
  | true=>x
  | false=>Q8 f n y
def xN (res:List Nat):Code→Rg→List Nat→List Nat
 | .region _ ops _,_,out=>NQ ops.toList ops.toList out
 | .seq a b,ex,out=>xN res a ex (xN res b ex out)
 | .cond c a b,ex,out=>wE (wE (xN res a ex out) (xN res b ex out)) (Hn [c])
 | .block id b,ex,out=>xN res b ((id,out)::ex) out
 | .loop b,ex,_=>Q8 (fun x=>xN res b ex x) 20 []
 | .exit id,ex,_=>(RC id ex).getD []
 | .ret,_,_=>res
 | .scope b,ex,out=>xN res b ex out
 | _,_,out=>out
def yi (res:List Nat):Code→Rg→List Nat→Rg→List Nat×Rg
 | .region id ops _,_,out,m=>let l:=NQ ops.toList ops.toList out;(l,(id,l)::m)
 | .seq a b,ex,out,m=>match yi res b ex out m with
  | (l,m)=>yi res a ex l m
 | .cond c a b,ex,out,m=>match yi res a ex out m with
  | (x,m)=>match yi res b ex out m with
   | (y,m)=>(wE (wE x y) (Hn [c]),m)
 | .block id b,ex,out,m=>yi res b ((id,out)::ex) out m
 | .loop b,ex,_,m=>match Q8 (fun x=>xN res b ex x) 20 [] with
  | x=>(x,(yi res b ex x m).2)
 | .exit id,ex,_,m=>((RC id ex).getD [],m)
 | .ret,_,_,m=>(res,m)
 | .scope b,ex,out,m=>yi res b ex out m
 | _,_,out,m=>(out,m)
def EL:Code→List Nat
 | .region id _ _=>[id]
 | .seq a b=>match EL a with
  | []=>EL b
  | x=>x
 | .block _ b=>EL b
 | .loop b=>EL b
 | _=>[]
def zy:Code→List Nat
 | .seq a b=>zy a++zy b
 | .cond _ a b=>zy a++zy b
 | .block _ b=>zy b
 | .loop b=>EL b++zy b
 | _=>[]
def Mr:List ResultVar→List Nat
 | []=>[]
 | .tmp t::l=>t::Mr l
 | .cell t _::l=>t::Mr l
def On:List ResultVar→List Nat
 | []=>[]
 | .tmp _::l=>On l
 | .cell t _::l=>t::On l
def Qh (f:Func) (MN:Nat):Hint:=match f.body with
 | none=>⟨f.ntmps,MN,[],[],[]⟩
 | some c=>⟨f.ntmps,MN,On f.results.toList,[],(yi (Mr f.results.toList) c [] (Mr f.results.toList) []).2.map fun x=>(x.1,(some x.2,Gy x.1 (zy c)))⟩
end
section
open Go
def vq {R:Type} (an:iS) (Cl:bW) (n:Nat) (j:Nat):jE→List Nat→kG R→Option (St→Option R)
 | .seq a b,ms,K=>An (vq an Cl n j b ms K) (vq an Cl n j a ms (DB (kM an Cl n b) K))
 | .cond _ a b,ms,K=>An (vq an Cl n j a ms K) (vq an Cl n j b ms K)
 | .block id b,ms,K=>vq an Cl n j b ms (NU id K)
 | .join i kp g a b,ms,K=>match Nat.beq i j with
  | true=>some fun S=>Rb i (kM an Cl n b) (ms.headD 0) S K
  | false=>An (vq an Cl n j b ms K) (vq an Cl n j a ms (DB (Q9 i kp g n (kM an Cl n b)) K))
 | .loop i kp g b,ms,K=>match Nat.beq i j with
  | true=>some fun S=>Cu i (kM an Cl n b) kp g (ms.headD 0) S K
  | false=>vq an Cl n j b ms.tail (RX kp g (fun S=>Cu i (kM an Cl n b) kp g (ms.headD 0) S K) K)
 | _,_,_=>none
def hdF (an:iS) (k:uW) (Cl:bW) (n:Nat) (bx:List (List C)) (j:Nat) (ms:List Nat) (S:St):Option (V×List (List C)):=
 match vq an Cl n j k.body ms (S9 k.results k.forget bx) with
 | some f=>f S
 | none=>none
def IN (P:Program):Nat→TypeId→Option (List DS)
 | 0,_=>none
 | n+1,t=>match P.underlying t with
  | some (.int k)=>some [.int k]
  | some .bool=>some [.bool]
  | some .string=>some [.str]
  | some (.slice e)=>some [.im ((jQ P e).getD 0)]
  | some (.struct fs)=>fs.toList.foldr (fun f acc=>match IN P n f.type,acc with | some a,some b=>some (a++b) | _,_=>none) (some [])
  | some (.array k e)=>(IN P n e).map fun l=>(List.replicate k l).flatten
  | _=>none
def abh:Option (List DS)→Option (List DS)
 | some (x::t)=>some (x::t)
 | _=>none
def Dy (P:Program) (d:Nat):List Oper→Option (List DS)
 | []=>none
 | o::t=>match o.dst,o.op with
  | some e,.load ty _=>match Nat.beq e d with | true=>An (abh (IN P 12 ty)) (Dy P d t) | false=>Dy P d t
  | _,.store ty (.tmp i) _=>match Nat.beq i d with | true=>An (abh (IN P 12 ty)) (Dy P d t) | false=>Dy P d t
  | _,_=>Dy P d t
def yl (P:Program) (d:Nat):Code→Option (List DS)
 | .region _ ops _=>Dy P d ops.toList
 | .seq a b=>An (yl P d a) (yl P d b)
 | .cond _ a b=>An (yl P d a) (yl P d b)
 | .block _ b=>yl P d b
 | .loop b=>yl P d b
 | .scope b=>yl P d b
 | _=>none
def RF (f:Nat→DS):List DS→List DS
 | []=>[]
 | .im k::t=>f k::RF f t
 | x::t=>x::RF f t
structure jF where
 P:Program
 jL:Nat
 fns:List (Nat×Nat×Bool)
 ao3:List (Nat×Nat)
 ao2:List (Nat×List (Nat×Nat))
 res:Nat→Option RS
 imf:List Nat
 imB:Nat→Nat→Bool
 no:List Nat
def aa5 (a b:Nat):List (Nat×Nat)→Bool
 | []=>false
 | x::t=>match Nat.beq a x.1,Nat.beq b x.2 with | true,true=>true | _,_=>aa5 a b t
def aiD (s:jF) (n d:Nat) (k:Nat):DS:=match aa5 n k s.ao3 with
 | true=>.own k
 | false=>match (sS s.ao2 n).bind fun l=>sS l d with
  | some 0=>.own k
  | some 1=>.sl k
  | some 2=>.tg k
  | some 3=>.any
  | _=>.im k
def jF.fn (s:jF) (n:Nat):Func:=(s.P.funcs[n]?).getD default
def jF.an (s:jF) (n:Nat):iS:=
 ⟨fun d => match (s.fn n).body with | some c => (yl s.P d c).map (RF (aiD s n d)) | none => none, s.res,
  match Gy n s.imf with | true => fun _ _ => true | false => s.imB, fun k => Gy k s.no⟩
def jF.comp (s:jF) (n:Nat):Option ll:=match sS s.fns n with
 | some (t,fg)=>Ey s.P some (Qh (s.fn n) t) (s.fn n) fg
 | none=>none
def jF.k (s:jF) (n:Nat):uW:=Rd s.jL (s.comp n)
def jF.pM (s:jF) (n:Nat):Option ll:=match sS s.fns n with
 | some _=>some (s.k n).fn
 | none=>none
def jF.hd (s:jF) (f j:Nat) (Cl:bW) (n:Nat) (bx:List (List C)) (ms:List Nat) (S:St):Option (V×List (List C)):=hdF (s.an f) (s.k f) Cl n bx j ms S
def jF.ox (s:jF):Bool:=s.P.follows .mixedOrders&&s.fns.all fun x=>match s.P.funcs[x.1]? with
 | some g=>!(g.name == "runtime.NumGoroutine")&&(s.comp x.1).isSome
 | none=>false
theorem Ee:∀(c:jE) (k:Option (List Nat)) (g:Bool),kH k g (eL (wy c))=kH k g (eL c)
 | .ja ..,_,_=>rfl
 | .seq a b,k,g=>by simp only [wy,eL,kH,Ee a k g]
 | .join _ _ _ a b,k,g=>by simp only [wy,eL,kH,Ee a k g]
 | .block _ b,k,g=>by simp only [wy,eL,kH,Ee b k g]
 | .skip,_,_=>rfl
 | .cond ..,_,_=>rfl
 | .loop ..,_,_=>rfl
 | .exit _,_,_=>rfl
 | .ret,_,_=>rfl
theorem H8:∀(c:lY) {k:Option (List Nat)} {g:Bool},mU c=some (k,g)→kH k g c=c
 | .ja ..,k,g,h=>by simp only [mU,aj,fJ] at h;obtain ⟨rfl,rfl⟩:=h;rfl
 | .seq a b,k,g,h=>by simp only [mU] at h;simp only [kH,H8 a h]
 | .block _ b,k,g,h=>by simp only [mU] at h;simp only [kH,H8 b h]
 | .skip,_,_,h=>by simp [mU] at h
 | .cond ..,_,_,h=>by simp [mU] at h
 | .loop ..,_,_,h=>by simp [mU] at h
 | .exit _,_,_,h=>by simp [mU] at h
 | .ret,_,_,h=>by simp [mU] at h
theorem NB:∀(c:lY) {k:Option (List Nat)} {g:Bool},mU c=none→kH k g c=c
 | .ja ..,k,g,h=>by simp [mU] at h
 | .seq a b,k,g,h=>by simp only [mU] at h;simp only [kH,NB a h]
 | .block _ b,k,g,h=>by simp only [mU] at h;simp only [kH,NB b h]
 | .skip,_,_,h=>rfl
 | .cond ..,_,_,h=>rfl
 | .loop ..,_,_,h=>rfl
 | .exit _,_,_,h=>rfl
 | .ret,_,_,h=>rfl
theorem uv (jL:Nat):∀(c:lY) (n:Nat),eL (rH jL c n).1=c
 | .skip,n=>rfl
 | .ja ..,n=>rfl
 | .exit _,n=>rfl
 | .ret,n=>rfl
 | .block i b,n=>by simp only [rH,eL,uv jL b n]
 | .cond c a b,n=>by simp only [rH,eL,uv jL a,uv jL b]
 | .loop b,n=>by
  simp only [rH];split
  ·rename_i k g h;simp only [eL,Ee,uv jL b,H8 b h]
  ·rename_i h;simp only [eL,uv jL b,NB b h]
 | .seq a b,n=>by
  simp only [rH];split
  ·rename_i k g h _;simp only [eL,Ee,uv jL b,uv jL a,H8 b h]
  ·simp only [eL,uv jL b,uv jL a]
theorem akf {jL:Nat} {g:ll}:(Rd jL (some g)).fn=g:=by
 simp only [Rd,uW.fn,uv]
theorem aaL {α:Type}:∀{l:List (Nat×α)} {n:Nat} {x:α},sS l n=some x→(n,x)∈l
 | [],n,x,h=>by simp [sS] at h
 | y::t,n,x,h=>by
  simp only [sS] at h;split at h
  ·rename_i e;cases h;have:=mJ e;subst this;exact jT
  ·exact kE _ (aaL h)
theorem jF.ok (s:jF) (h:s.ox=true):Nz s.P some s.pM:=by
 simp only [jF.ox,bK] at h;refine ⟨h.1,?_⟩;intro f fn cH hf hn;simp only [aj] at hn;subst hn;simp only [jF.pM] at hf;split at hf
 ·rename_i x hx;have h1:=lH.1 h.2 _ (aaL hx);simp only [aj] at hf;split at h1
  ·rename_i g hg;simp only [bK,nA] at h1;obtain ⟨c,hc⟩:=yI.1 h1.2;subst hf;have e:s.fn cH=g:=by simp only [jF.fn];rw [show s.P.funcs[cH]? = some g from hg];rfl
   refine ⟨g,Qh g x.1,x.2,hg,h1.1,?_⟩;have lL:Ey s.P some (Qh g x.1) g x.2=some c:=by rw [←hc];simp only [jF.comp,hx,e]
   rw [lL];simp only [jF.k];rw [hc,akf]
  ·cases h1
 ·cases hf
end
end Go.ax
namespace Go.Proofs.YtfmpdgeiodnnfaaGreatDoor
section
open Go Go.ax
def nm:FuncId→Option Nat:=some
def iq:RS:=(.val (.one (.bool)) [])
def j7:RS:=(.val (.one (.str)) [])
def wg:RS:=(.val (.agg [.int .i64,.int .i64,.int .i64]) [])
def rT4:RS:=(.val (.agg [.str,.im 3]) [])
def rT8:RS:=(.val (.agg [.str,.im 3,.im 6,.im 10]) [])
def qx:RS:=(.aq [] [])
def wc:RS:=(.val (.one (.int .i64)) [])
def qy:RS:=(.val (.one (.im 1)) [])
def Mj:RS:=(.val (.agg [.str,.im 1,.im 3]) [])
def acj:RS:=(.val (.agg [.int .i64,.str,.str,.str,.str,.int .i64,.im 1,.im 3,.im 3,.int .i64]) [])
def Dp:RS:=(.val (.one (.int .i64)) [[.ptr 1 0,.im 3,.str,.tg 3,.own 6,.tg 10,.str,.im 2,.int .i64,.int .i64,.int .i64],[.tg 1,.int .i64]])
def ack:RS:=(.val (.one (.int .i64)) [[.ptr 1 0,.im 3,.str,.tg 3,.tg 6,.own 10,.str,.im 2,.int .i64,.int .i64,.int .i64],[.tg 1,.int .i64]])
def acm:RS:=(.val (.agg [.int .i64,.str]) [])
noncomputable def ST : jF := ⟨Tryz.prog, 8,
 [(3, 9, true), (4, 12, true), (7, 11, true), (9, 3, true), (10, 10, true), (11, 10, true), (12, 8, true), (15, 6, true), (17, 3, true), (19, 6, true), (21, 6, true), (25, 7, true), (26, 6, true), (27, 12, true), (28, 3, true), (31, 5, true), (32, 9, true), (33, 15, true), (34, 12, true), (35, 6, true), (36, 7, true), (37, 3, true), (38, 3, true), (39, 5, true), (40, 1, true), (41, 7, true), (42, 10, true), (43, 17, true), (44, 2, true), (45, 6, true), (46, 7, true), (47, 15, true), (48, 1, true), (49, 1, true), (50, 7, true), (53, 5, true), (54, 3, true), (55, 7, true), (56, 11, true), (57, 3, true), (58, 6, true), (62, 4, true), (64, 4, true), (67, 9, true), (68, 3, true), (69, 3, true), (70, 4, true), (71, 5, true), (72, 7, true), (73, 5, true), (74, 11, true), (80, 11, true), (81, 5, true), (82, 13, true), (83, 5, true), (84, 12, true), (85, 9, true), (86, 3, true), (87, 5, true), (88, 5, true), (89, 5, true), (90, 6, true), (92, 6, true), (93, 11, true), (94, 3, true), (95, 4, true), (96, 6, true), (97, 6, true), (98, 6, true), (99, 7, true), (100, 18, true), (101, 6, true), (102, 3, true), (103, 3, true), (104, 3, true), (108, 8, true), (109, 4, true), (110, 5, true), (111, 7, true), (113, 3, true), (114, 5, true), (115, 3, true), (116, 3, true), (117, 3, true), (118, 3, true), (119, 3, true), (120, 3, true), (127, 6, true), (128, 5, true), (132, 3, true), (137, 7, true), (138, 14, true), (139, 10, true), (140, 22, true), (141, 7, true), (142, 6, true), (143, 13, true), (144, 9, true), (145, 15, true), (146, 3, true), (147, 5, true), (149, 11, true), (150, 8, true), (151, 8, true), (152, 6, true), (153, 3, true), (154, 6, true), (155, 2, true), (156, 7, true), (157, 8, true), (158, 12, true), (160, 3, true), (161, 6, true), (165, 6, true), (167, 10, true), (184, 3, true), (188, 18, true), (189, 15, true), (190, 9, true), (191, 7, true), (192, 6, true), (193, 13, true), (194, 11, true), (195, 14, true), (196, 3, true), (197, 11, true), (198, 8, true), (199, 6, true), (200, 10, true), (201, 5, true), (202, 3, true), (203, 2, true), (204, 3, true), (205, 6, true), (206, 3, true), (207, 7, true), (209, 3, true), (210, 4, true), (218, 7, true), (223, 5, true), (224, 6, true), (226, 14, true), (227, 5, true), (228, 19, true), (229, 3, true), (230, 8, true), (231, 3, true), (232, 3, true), (236, 7, true), (237, 8, true), (247, 14, true)],
 [(188, 4)],
 [(47, [(34, 1), (39, 3), (55, 1), (79, 1), (81, 3), (92, 0), (99, 3)]), (84, [(169, 0), (175, 3)]), (142, [(74, 0), (80, 3)]), (143, [(100, 1), (105, 3), (144, 1), (149, 3)])],
 sS [(9, iq), (25, iq), (26, iq), (53, iq), (54, iq), (55, iq), (62, iq), (64, iq), (67, iq), (69, iq), (70, iq), (71, iq), (72, iq), (94, iq), (95, iq), (96, iq), (108, iq), (110, iq), (115, iq), (116, iq), (117, iq), (132, iq), (154, iq), (157, iq), (158, iq), (165, iq), (191, iq), (192, iq), (223, iq), (10, (.val (.agg [.im 3, .im 2, .im 4]) [])), (11, j7), (15, j7), (17, j7), (19, j7), (21, j7), (56, j7), (57, j7), (58, j7), (83, j7), (85, j7), (102, j7), (103, j7), (104, j7), (113, j7), (114, j7), (146, j7), (149, j7), (150, j7), (151, j7), (159, j7), (160, j7), (161, j7), (206, j7), (12, wg), (39, wg), (40, wg), (41, wg), (42, wg), (43, wg), (44, wg), (46, wg), (47, wg), (27, rT4), (111, rT4), (28, (.val (.one (.ptr 0 0)) [[.tg 1, .int .i64]])), (31, (.val (.one (.im 3)) [])), (32, (.aq [(.one (.im 2)), (.one (.int .i64)), (.one (.int .i64))] [])), (33, rT8), (34, rT8), (35, (.aq [(.one (.int .i64)), .fj] [])), (36, qx), (50, qx), (84, qx), (91, qx), (92, qx), (93, qx), (112, qx), (142, qx), (143, qx), (155, qx), (197, qx), (203, qx), (204, qx), (37, (.val (.one .str) [[.bt 82, .dead]])), (38, (.val (.one (.lp 39 [(0, 0), (1, 0)])) [[.im 3, .im 2, .im 4], [.lp 1000000000000 []]])), (45, wc), (68, wc), (73, wc), (100, wc), (127, wc), (141, wc), (145, wc), (152, wc), (224, wc), (48, qy), (49, qy), (81, qy), (97, qy), (98, qy), (99, qy), (101, qy), (156, qy), (189, qy), (190, qy), (205, qy), (218, qy), (236, qy), (74, (.val (.one (.im 4)) [])), (80, Mj), (137, Mj), (138, Mj), (188, Mj), (82, (.aq [(.agg [.str, .im 3]), (.one (.int .i64))] [])), (86, acj), (153, acj), (87, Dp), (88, Dp), (144, Dp), (147, Dp), (196, Dp), (199, Dp), (89, ack), (90, ack), (128, acm), (184, acm), (139, (.aq [(.one (.int .i64)), (.one (.int .i64))] [])), (140, (.aq [(.agg [.int .i64, .str, .im 4]), (.one (.int .i64))] [])), (193, (.aq [(.one (.int .i64)), (.one (.str)), (.one (.int .i64))] [])), (194, (.aq [(.one (.im 1)), (.one (.bool))] [])), (195, (.aq [(.agg [.int .i64, .str]), (.one (.im 1)), (.one (.bool))] [])), (198, (.aq [(.agg [.str, .im 1, .im 3]), (.one (.str))] []))],
 [11, 12, 19, 21, 36, 41, 42, 43, 47, 53, 55, 93, 96, 97, 98, 100, 101, 150, 151, 153, 154, 158], fun n c => (Nat.beq n 11 && Nat.beq c 1) || (Nat.beq n 11 && Nat.beq c 7), []⟩
noncomputable def pM:Nat→Option ll:=ST.pM
theorem apR:Nz Tryz.prog nm pM:=ST.ok (by kernel_rfl)
end
end Go.Proofs.YtfmpdgeiodnnfaaGreatDoor
namespace Go.Proofs
section
open Go.Shelf
def Tryz.ant:Go.Shelf.Ren:=⟨fun | 173=>159 | 246=>167 | 283=>209 | 284=>210 | 285=>211 | 286=>212 | 129=>232 | 317=>231 | 318=>233 | 319=>234 | 320=>235 | 337=>248 | 338=>249 | n=>n,fun | 2=>2 | 3=>3 | 9=>9 | 4=>4 | 171=>231 | 0=>0 | 53=>200 | 37=>80 | 5=>5 | 173=>234 | 212=>250 | 51=>243 | 20=>20 | 213=>251 | 46=>96 | 232=>269 | 233=>270 | n=>n,fun | 17=>1 | 18=>2 | 19=>3 | n=>n⟩
theorem Tryz.anr : Go.Proofs.LaysM.n173 Tryz.prog Tryz.ant := {
  mixed := by kernel_rfl
  f129 := Tryz.func232.trans (fW some (by kernel_rfl))
  f173 := Tryz.func159.trans (fW some (by kernel_rfl))
  f246 := Tryz.func167.trans (fW some (by kernel_rfl))
  f283 := Tryz.func209.trans (fW some (by kernel_rfl))
  f284 := Tryz.func210.trans (fW some (by kernel_rfl))
  f285 := Tryz.func211.trans (fW some (by kernel_rfl))
  f286 := Tryz.func212.trans (fW some (by kernel_rfl))
  f317 := Tryz.func231.trans (fW some (by kernel_rfl))
  f318 := Tryz.func233.trans (fW some (by kernel_rfl))
  f319 := Tryz.func234.trans (fW some (by kernel_rfl))
  f320 := Tryz.func235.trans (fW some (by kernel_rfl))
  f337 := Tryz.func248.trans (fW some (by kernel_rfl))
  f338 := Tryz.func249.trans (fW some (by kernel_rfl))
  t0 := Tryz.underlying0
  a0 := Tryz.isAgg0
  z0 := Tryz.sizeOf0
  v0 := Tryz.zeroValue0
  t2 := Tryz.underlying2
  a2 := Tryz.isAgg2
  z2 := Tryz.sizeOf2
  v2 := Tryz.zeroValue2
  t3 := Tryz.underlying3
  a3 := Tryz.isAgg3
  z3 := Tryz.sizeOf3
  v3 := Tryz.zeroValue3
  t4 := Tryz.underlying4
  a4 := Tryz.isAgg4
  z4 := Tryz.sizeOf4
  v4 := Tryz.zeroValue4
  t5 := Tryz.underlying5
  a5 := Tryz.isAgg5
  z5 := Tryz.sizeOf5
  v5 := Tryz.zeroValue5
  t9 := Tryz.underlying9
  a9 := Tryz.isAgg9
  z9 := Tryz.sizeOf9
  v9 := Tryz.zeroValue9
  t20 := Tryz.underlying20
  a20 := Tryz.isAgg20
  z20 := Tryz.sizeOf20
  v20 := Tryz.zeroValue20
  t37 := Tryz.underlying80
  a37 := Tryz.isAgg80
  z37 := Tryz.sizeOf80
  v37 := Tryz.zeroValue80
  t46 := Tryz.underlying96
  a46 := Tryz.isAgg96
  z46 := Tryz.sizeOf96
  v46 := Tryz.zeroValue96
  t51 := Tryz.underlying243
  a51 := Tryz.isAgg243
  z51 := Tryz.sizeOf243
  v51 := Tryz.zeroValue243
  t53 := Tryz.underlying200
  a53 := Tryz.isAgg200
  z53 := Tryz.sizeOf200
  v53 := Tryz.zeroValue200
  t171 := Tryz.underlying231
  a171 := Tryz.isAgg231
  z171 := Tryz.sizeOf231
  v171 := Tryz.zeroValue231
  t173 := Tryz.underlying234
  a173 := Tryz.isAgg234
  z173 := Tryz.sizeOf234
  v173 := Tryz.zeroValue234
  t212 := Tryz.underlying250
  a212 := Tryz.isAgg250
  z212 := Tryz.sizeOf250
  v212 := Tryz.zeroValue250
  t213 := Tryz.underlying251
  a213 := Tryz.isAgg251
  z213 := Tryz.sizeOf251
  t232 := Tryz.underlying269
  a232 := Tryz.isAgg269
  z232 := Tryz.sizeOf269
  v232 := Tryz.zeroValue269
  t233 := Tryz.underlying270
  a233 := Tryz.isAgg270
  z233 := Tryz.sizeOf270
  v233 := Tryz.zeroValue270
  g17 := by kernel_rfl
  g18 := by kernel_rfl
  g19 := by kernel_rfl
  i0 := by kernel_rfl
  i2 := by kernel_rfl
  i3 := by kernel_rfl
  i4 := by kernel_rfl
  i5 := by kernel_rfl
  i9 := by kernel_rfl
  i20 := by kernel_rfl
  i37 := by kernel_rfl
  i46 := by kernel_rfl
  i51 := by kernel_rfl
  i53 := by kernel_rfl
  i171 := by kernel_rfl
  i173 := by kernel_rfl
  i212 := by kernel_rfl
  i232 := by kernel_rfl
  i233 := by kernel_rfl
  m17 := by kernel_rfl
  m18 := by kernel_rfl
  m19 := by kernel_rfl }
def Tryz.anq:Go.Shelf.Ren:=⟨fun | 217=>256 | 266=>261 | n=>n,fun | 9=>9 | 5=>5 | 3=>3 | n=>n,fun | n=>n⟩
theorem Tryz.anp : Go.Proofs.Lays.n217 Tryz.prog Tryz.anq := {
  mixed := by kernel_rfl
  f217 := Tryz.func256.trans (fW some (by kernel_rfl))
  f266 := Tryz.func261.trans (fW some (by kernel_rfl))
  t3 := Tryz.underlying3
  a3 := Tryz.isAgg3
  z3 := Tryz.sizeOf3
  v3 := Tryz.zeroValue3
  t5 := Tryz.underlying5
  a5 := Tryz.isAgg5
  z5 := Tryz.sizeOf5
  v5 := Tryz.zeroValue5
  t9 := Tryz.underlying9
  a9 := Tryz.isAgg9
  z9 := Tryz.sizeOf9
  v9 := Tryz.zeroValue9 }
end
end Go.Proofs
namespace Go.ax
section
section
variable {nm:FuncId→Option Nat} {N:Nat} {S:St} {a:Act} {w:World} {L:aw}
theorem Rel.VL (h:Rel nm N S a w L) {r:aI} {t:TypeId} {B:Nat} (hr:r.iX=false) (hE:S.E (.b r 0) = .one (.bt t)) (hB:L B=some (.box r 0)) :
  Rel nm N S a (w.setCell ⟨B,0,none⟩ (.pointer (some ⟨B,0,none⟩))) L∧de w (w.setCell ⟨B,0,none⟩ (.pointer (some ⟨B,0,none⟩))) L L:=by
 have aB:∀{B2 l},L B2=some l→(∀r o,l≠.box r o)→(w.setCell ⟨B,0,none⟩ (.pointer (some ⟨B,0,none⟩))).heap[B2]? = w.heap[B2]?:=by
  intro B2 l hl sF;refine px _ _ _ _ ?_;rintro rfl;rw [hB] at hl;simp only [aj] at hl;exact sF _ _ hl.symm
 have bA:Step w (w.setCell ⟨B,0,none⟩ (.pointer (some ⟨B,0,none⟩))) L L S.γ S.γ:=
  ⟨fun B hB => ⟨hB, aB hB (by simp)⟩, fun _ => bT _, fun B q o hq _ hL => ⟨hL, fun cur e fz hB => ⟨cur, (aB hL (by simp)).trans hB, rfl⟩⟩,
    fun B q o _ _ _ hB => aB hB (by simp), fun B r o _ hB => hB⟩
 have ajT:∀i,bD nm (w.setCell ⟨B,0,none⟩ (.pointer (some ⟨B,0,none⟩))) L S.γ (.s i) (S.E (.s i)) (a.tmps.getD i undef):=fun i=>
  (h.slot i).step bA (fun B q o hq hB=>by rw [←hq,Place.l9];exact ⟨hB,aB hB (by simp)⟩)
 obtain ⟨B0,o0,afK,e0,Yi,v0,g1,g2,g3,g4,g5,g6⟩:∃B o cur e fz v,L B=some (.box r o)∧w.heap[B]? = some (.cells cur e fz)∧jC cur.size fz∧cur[o+0]? = some v∧aF nm w L S.γ (.b r 0) 0 (.bt t) v∧lJ (.bt t) B o 0 e cur.size v:=by
  have:=h.cell r 0 _ hE (by simp);cases r with
  | g i=>cases hr
  | e i=>exact this
  | l i=>exact this
 obtain rfl:=h.fA B0 B r o0 0 g1 hB;obtain ⟨rfl,_,rfl,hn,hv⟩:=g6;refine ⟨⟨h.size,h.defers,ajT,?_,h.kf,h.bound,?_,?_,h.eM,h.fA⟩,⟨rfl,rfl,rfl,by simp,fun B hB=>⟨hB,aB hB (by simp)⟩,?_,fun _ _ _ hB=>hB⟩⟩
 ·intro r2 c x hx gj;by_cases he:r2=r∧c=0
  ·obtain ⟨rfl,rfl⟩:=he;rw [hE] at hx;simp only [V.one.injEq] at hx;subst hx;have hex:∃B o cur e fz v,L B=some (.box r2 o)∧(w.setCell ⟨B0,0,none⟩ (.pointer (some ⟨B0,0,none⟩))).heap[B]? = some (.cells cur e fz)∧jC cur.size fz∧cur[o+0]? = some v∧
     aF nm (w.setCell ⟨B0,0,none⟩ (.pointer (some ⟨B0,0,none⟩))) L S.γ (.b r2 0) 0 (.bt e0) v∧lJ (.bt e0) B o 0 e cur.size v:=by
    refine ⟨B0,0,_,e0,Yi,.pointer (some ⟨B0,0,none⟩),hB,xk w B0 0 _ g2,by simpa using g3,?_,.bt ⟨_,_,rfl⟩ rfl,rfl,rfl,rfl,by simpa using hn,.inr rfl⟩;simp only [wM,bV];rw [aJ (by omega)]
   cases r2 with
   | g i=>cases hr
   | e i=>exact hex
   | l i=>exact hex
  ·refine (h.cell r2 c x hx gj).step bA (fun B q o _ hB=>⟨hB,aB hB (by simp)⟩) ?_;intro B2 o2 pw;refine ⟨pw,fun cur e fz hc=>?_⟩;by_cases hb:B2=B0
   ·subst hb;rw [hB] at pw;simp only [aj,bQ.box.injEq] at pw;obtain ⟨rfl,rfl⟩:=pw;refine ⟨cur.setIfInBounds 0 _,xk w B2 0 _ hc,by simp,?_⟩;rw [yA];intro e;exact he ⟨rfl,by omega⟩
   ·exact ⟨cur,(px _ _ _ _ hb).trans hc,rfl,rfl⟩
 ·intro r2 jX sH;obtain ⟨B2,o2,cur,e,fz,k1,k2,k3,k4⟩:=h.room r2 jX sH;by_cases hb:B2=B0
  ·subst hb;exact ⟨B2,o2,_,e,fz,k1,xk w B2 0 _ k2,by simpa using k3,by simpa using k4⟩
  ·exact ⟨B2,o2,cur,e,fz,k1,(px _ _ _ _ hb).trans k2,k3,k4⟩
 ·intro B2 l hl;have:=h.fq B2 l hl;simpa using this
 ·intro B2 _ vB;refine ⟨vB,px _ _ _ _ ?_⟩;rintro rfl;rw [hB] at vB;cases vB
theorem Rel.ON {vs:List V} {bs:List (List C)} (h:Rel nm N (ga 0 vs++dk 0 bs) a w L):Rel nm 0 (dk 0 bs) ⟨#[],[]⟩ w L:=by
 have hγ:(ga 0 vs++dk 0 bs:St).γ=(dk 0 bs:St).γ:=by rw [Bz,Il]
 have hE:∀k,(∀i,k≠.s i)→(ga 0 vs++dk 0 bs:St).E k=(dk 0 bs:St).E k:=by
  intro k hk;unfold St.E;rw [pd];cases k with
  | s i=>exact absurd rfl (hk i)
  | _=>rfl
 refine ⟨rfl,rfl,?_,?_,?_,?_,?_,h.fq,h.eM,h.fA⟩
 ·intro i;rw [pg];exact .one .dead
 ·intro r c x hx hd;rw [←hE _ (by intro i e;cases e)] at hx;rw [←hγ];exact h.cell r c x hx hd
 ·intro r c;rw [←hE _ (by intro i e;cases e)];exact h.kf r c
 ·intro r c hc;rw [←hE _ (by intro i e;cases e)] at hc ⊢;exact h.bound r c hc
 ·intro r hg hr;rw [←hE _ (by intro i e;cases e)] at hr ⊢;exact h.room r hg hr
theorem jV.eq {P:Program} {cH:FuncId} {args:Array Value} {w:World} {R:Value→World→Prop} {v0:Value} {w0:World} (h:jV P cH args w fun v w'=>v=v0∧w'=w0) (hr:R v0 w0):jV P cH args w R:=
 h.mono (fun v w' ⟨h1,h2⟩=>by rw [h1,h2];exact hr)
theorem afH {P:Program} {cH:FuncId} {t:TypeId} {x:C}
  (ajp : ∀ (b : Nat) (w : World), w.cell? ⟨b, 0, none⟩ = some (.pointer none) → w.shape? b = some (t, 2) → w.frozen? ⟨b, 0, none⟩ = false →
    jV P cH #[.pointer (some ⟨b, 0, none⟩)] w fun v w' => v = .tuple #[] ∧ w' = w.setCell ⟨b, 0, none⟩ (.pointer (some ⟨b, 0, none⟩)))
  (aj1:∀(b:Nat) (w:World),w.cell? ⟨b,0,none⟩=some (.pointer (some ⟨b,0,none⟩))→jV P cH #[.pointer (some ⟨b,0,none⟩)] w fun v w'=>v = .tuple #[]∧w'=w)
  {args:Array Value} (R:Rel nm 1 (ga 0 [.one (.ptr (.e 0) 0 0)]++dk 0 [[.bt t,x]]) ⟨args,[]⟩ w L) :
  jV P cH args w fun v w'=>∃L',de w w' L L'∧Rel nm 0 (dk 0 [[.bt t,x]]) ⟨#[],[]⟩ w' L'∧bD nm w' L' (fun _=>0) (.h 0) (.aq []) v:=by
 have hγ:=Bz [V.one (.ptr (.e 0) 0 0)] [[.bt t,x]];have EU:(ga 0 [V.one (.ptr (.e 0) 0 0)]++dk 0 [[.bt t,x]]:St).E (.b (.e 0) 0) = .one (.bt t):=rfl;have h0:=R.slot 0;have oH:(ga 0 [V.one (.ptr (.e 0) 0 0)]++dk 0 [[.bt t,x]]:St).E (.s 0) = .one (.ptr (.e 0) 0 0):=rfl;rw [oH] at h0;have aZ:args.size=1:=R.size;generalize hv:(⟨args,[]⟩:Act).tmps.getD 0 undef=v0 at h0;have sw:args = #[v0]:=by
  apply Array.ext
  ·simpa using aZ
  ·intro i h1 h2;have:i=0:=by omega
   subst this;rw [←hv];simp [Array.getD,aZ]
 cases h0 with
 | one h0=>
  cases h0 with
  | ptr iH hg hp=>
   obtain ⟨B,o,hB,rfl⟩:=hp (by rw [hγ]);have hc:=R.cell (.e 0) 0 _ EU (by simp);obtain ⟨B',o',cur,e,fz,v,k1,k2,k3,k4,k5,k6⟩:=hc;obtain rfl:=R.fA B' B (.e 0) o' o k1 hB;obtain ⟨rfl,_,rfl,hn,oI⟩:=k6;obtain rfl:o=0:=by rw [k1] at hB;simpa using hB.symm
   simp only [gW] at k4 sw;have fE:w.cell? ⟨B',0,none⟩=some v:=by rw [qR k2];exact k4
   rcases oI with rfl | rfl
   ·obtain ⟨R2,M2⟩:=R.VL rfl EU hB;rw [sw];refine (ajp B' w fE (by simp [World.shape?,k2,hn]) ?_).eq ⟨L,M2,R2.ON,.aq rfl rfl (by simp)⟩;have:=k3 0 (by omega);simp only [World.frozen?,k2];simpa using this
   ·rw [sw];exact (aj1 B' w fE).eq ⟨L,de.refl w L,R.ON,.aq rfl rfl (by simp)⟩
theorem Rel.below {w':World} (h:Rel nm N S a w L) (hb:RowKit.Below w.heap.size w w'):Rel nm N S a w' L∧de w w' L L:=by
 have af:∀{B l},L B=some l→B < w.heap.size:=by
  intro B l hl;exact h.fq B l hl
 exact ⟨h.grown (fun B l hl=>hb.block B (af hl)),hb.os,hb.tape,hb.output,hb.size,fun B hB=>⟨hB,hb.block B (af hB)⟩,fun B hl hn=>⟨hn,hb.block B hl⟩,fun _ _ _ hB=>hB⟩
def aiI:D→Value
 | .int k n=>.int k n
 | .bool b=>.bool b
 | .str s=>.string ⟨s.toArray⟩
 | _=>undef
theorem Vy {xs:List D} {bs:List (List C)} {args:Array Value} (hf:xs.all D.flat=true) (R:Rel nm (xs.map fun x=>V.one (.d x)).length (ga 0 (xs.map fun x=>V.one (.d x))++dk 0 bs) ⟨args,[]⟩ w L) :
  args=(xs.map aiI).toArray:=by
 have aZ:args.size=xs.length:=by have:=R.size;simpa using this
 apply Array.ext
 ·simpa using aZ
 ·intro i h1 h2;have hi:i < xs.length:=by omega
  have h0:=R.slot i;have hE:(ga 0 (xs.map fun x=>V.one (.d x))++dk 0 bs:St).E (.s i) = .one (.d xs[i]):=by
   unfold St.E;rw [pd];simp only [yH,lk,dc,cf,hi,bV,D0];simp [List.getD,hi]
  rw [hE] at h0;have hv:(⟨args,[]⟩:Act).tmps.getD i undef=args[i]:=by simp [Array.getD,h1]
  rw [hv] at h0;have hx:(xs[i]).flat=true:=lH.1 hf _ (bL hi);simp only [List.getElem_toArray,List.getElem_map];generalize xs[i]=x at h0 hx;generalize args[i]=v at h0;cases h0 with
  | one h0=>
   cases h0 with
   | d h0=>
    have:=aF.X9 (nm:=nm) (γ:=fun _=>0) (w:=w) (L:=L) (.d h0) hx;cases this<;>first | rfl | simp [D.flat] at hx
theorem BI {P:Program} {cH:FuncId} {args:Array Value} {g:Func} {c:Code} {R:Value→World→Prop} (hf:P.funcs[cH]? = some g) (mg:(g.name == "runtime.NumGoroutine")=false) (hb:g.body=some c)
  (h:Calls P cH args w fun e w'=>∃v,e = .returned v∧R v w'):jV P cH args w R:=by
 have Fw:¬ g.name = "runtime.NumGoroutine" := by simpa using mg
 have iW:(callFunc cH args).run P w = .ok (.enter cH args) w:=by simp [callFunc,hf,Fw,hb]
 unfold jV;rw [iW];exact h
theorem Xa {P:Program} {cH:FuncId} {vs:List V} {bs:List (List C)} {r:V} {Rv:Value→Prop} (hr:∀w L v,Rv v→bD nm w L (fun _=>0) (.h 0) r v)
  {args:Array Value} (R:Rel nm vs.length (ga 0 vs++dk 0 bs) ⟨args,[]⟩ w L)
  (h:jV P cH args w fun v w'=>Rv v∧RowKit.Below w.heap.size w w') :
  jV P cH args w fun v w'=>∃L',de w w' L L'∧Rel nm 0 (dk 0 bs) ⟨#[],[]⟩ w' L'∧bD nm w' L' (fun _=>0) (.h 0) r v:=
 h.mono (fun v w' ⟨h1,h2⟩=>⟨L,(R.below h2).2,(R.below h2).1.ON,hr w' L v h1⟩)
end
end
section
section
variable {nm:FuncId→Option Nat} {N:Nat} {S:St} {a:Act} {w:World} {L:aw}
theorem Rel.aor {S':St} (h:Rel nm N S a w L) (hE:∀k,(∀i,k≠.s i)→S'.E k=S.E k) (hs:∀i,S'.E (.s i)=V.dead)
  (hd:∀r c x,S.E (.b r c) = .one x→x = .dead∨(∃y,x = .d y)∨∃t,x = .bt t):Rel nm 0 S' ⟨#[],[]⟩ w L:=by
 refine ⟨rfl,rfl,?_,?_,?_,?_,?_,h.fq,h.eM,h.fA⟩
 ·intro i;rw [hs];exact .one .dead
 ·intro r c x hx gj;rw [hE _ (by intro i e;cases e)] at hx;have h1:=h.cell r c x hx gj;have xu:∀{v},aF nm w L S.γ (.b r c) 0 x v→aF nm w L S'.γ (.b r c) 0 x v:=by
   intro v hv;rcases hd r c x hx with rfl | ⟨y,rfl⟩ | ⟨t,rfl⟩
   ·exact .dead
   ·cases hv with | d h=>exact .d h
   ·cases hv with | bt hk hv=>exact .bt hk hv
  cases r with
  | g i=>obtain ⟨v,hv⟩:=h1;exact ⟨v,xu hv⟩
  | e i=>obtain ⟨B,o,cur,e,fz,v,g1,g2,g3,g4,g5,g6⟩:=h1;exact ⟨B,o,cur,e,fz,v,g1,g2,g3,g4,xu g5,g6⟩
  | l i=>obtain ⟨B,o,cur,e,fz,v,g1,g2,g3,g4,g5,g6⟩:=h1;exact ⟨B,o,cur,e,fz,v,g1,g2,g3,g4,xu g5,g6⟩
 ·intro r c;rw [hE _ (by intro i e;cases e)];exact h.kf r c
 ·intro r c hc;rw [hE _ (by intro i e;cases e)] at hc ⊢;exact h.bound r c hc
 ·intro r hg hr;rw [hE _ (by intro i e;cases e)] at hr ⊢;exact h.room r hg hr
theorem aiY {P:Program} {cH:FuncId} {t:TypeId} {n:Nat} (hn:1≤n)
  (hg : ∀ (b : Nat) (w : World) (p : Value) (fz : Nat × Nat), w.heap[b]? = some (.cells #[p, .slice none 0 0] t fz) → jC 2 fz →
    (p = .pointer none ∨ p = .pointer (some ⟨b, 0, none⟩)) →
    jV P cH #[.pointer (some ⟨b, 0, none⟩), .int .i64 n] w fun v w' => v = .tuple #[] ∧ ∃ cs : Array Value, n ≤ cs.size ∧ w'.os = w.os ∧ w'.tape = w.tape ∧ w'.output = w.output ∧
      w'.heap = ((w.setCell ⟨b, 0, none⟩ (.pointer (some ⟨b, 0, none⟩))).setCell ⟨b, 1, none⟩ (.slice (some ⟨w.heap.size, 0, none⟩) 0 cs.size)).heap.push (.cells cs 5))
  {args:Array Value} (hH:eI L) (R:Rel nm 2 (ga 0 [.one (.ptr (.e 0) 0 0),.one (.d (.int .i64 n))]++dk 0 [[.bt t,.d (.sl (.im true) 1 [])]]) ⟨args,[]⟩ w L) :
  jV P cH args w fun v w'=>∃L',de w w' L L'∧Rel nm 0 (dk 0 [[.bt t,.d (.sl .own 1 [])]]) ⟨#[],[]⟩ w' L'∧bD nm w' L' (fun _=>0) (.h 0) (.aq []) v:=by
 have hγ:=Bz [V.one (.ptr (.e 0) 0 0),.one (.d (.int .i64 n))] [[.bt t,.d (.sl (.im true) 1 [])]];generalize zq:(ga 0 [V.one (.ptr (.e 0) 0 0),.one (.d (.int .i64 n))]++dk 0 [[.bt t,.d (.sl (.im true) 1 [])]]:St)=S0 at R hγ;have EU:S0.E (.b (.e 0) 0) = .one (.bt t):=by subst zq;rfl
 have Ys:S0.E (.b (.e 0) 1) = .one (.d (.sl (.im true) 1 [])):=by subst zq;rfl
 have zn:S0.E (.r (.e 0))=fw 2:=by subst zq;rfl
 have aZ:args.size=2:=R.size;have h0:=R.slot 0;have h1:=R.slot 1;rw [show S0.E (.s 0) = .one (.ptr (.e 0) 0 0) by subst zq;rfl] at h0;rw [show S0.E (.s 1) = .one (.d (.int .i64 n)) by subst zq;rfl] at h1;have sw:args = #[args[0],args[1]]:=by
  apply Array.ext
  ·simpa using aZ
  ·intro i h1 h2;match i,h2 with
   | 0,_=>rfl
   | 1,_=>rfl
 rw [show (⟨args,[]⟩:Act).tmps.getD 0 undef=args[0] by simp [Array.getD,aZ]] at h0;rw [show (⟨args,[]⟩:Act).tmps.getD 1 undef=args[1] by simp [Array.getD,aZ]] at h1;generalize iH:args[0]=v0 at h0;generalize nO:args[1]=v1 at h1;rw [iH,nO] at sw;obtain rfl:v1 = .int .i64 n:=by
  cases h1 with
  | one h1=>cases h1 with
   | d h1=>cases h1 with
    | plain h1=>cases h1;rfl
 cases h0 with
 | one h0=>
  cases h0 with
  | ptr aro Jn hp=>
   obtain ⟨B,o,hB,rfl⟩:=hp (by rw [hγ]);obtain ⟨B',o',cur,e,fz,v,k1,k2,k3,k4,k5,k6⟩:=R.cell (.e 0) 0 _ EU (by simp);obtain rfl:=R.fA B' B (.e 0) o' o k1 hB;obtain ⟨rfl,_,rfl,aj0,oI⟩:=k6;obtain rfl:o=0:=by rw [k1] at hB;simpa using hB.symm
   obtain ⟨B2,o2,iD,e2,lq,u,j1,j2,j3,j4,j5,j6⟩:=R.cell (.e 0) 1 _ Ys (by simp);obtain rfl:=R.fA B2 B' (.e 0) o2 0 j1 hB;obtain rfl:o2=0:=by rw [hB] at j1;simpa using j1.symm
   rw [k2] at j2;simp only [aj,Obj.cells.injEq] at j2;obtain ⟨rfl,rfl,rfl⟩:=j2;obtain rfl:u = .slice none 0 0:=by
    cases j5 with
    | d h=>cases h with
     | plain h=>cases h;rfl
   have zv:cur = #[v,.slice none 0 0]:=by
    apply Array.ext
    ·simpa using aj0
    ·intro i h1 h2;match i,h2 with
     | 0,_=>
      have:=(lG.1 k4).2;simpa using this
     | 1,_=>
      have:=(lG.1 j4).2;simpa using this
   subst zv;simp only [gW] at sw;obtain ⟨R1,M1⟩:=R.VL rfl EU hB;have af:B2 < w.heap.size:=(lG.1 k2).1;rw [sw];refine (hg B2 w v fz k2 k3 oI).mono ?_;rintro _ w' ⟨rfl,cs,eE,ho,ht,hu,hh⟩;generalize Jf:w.setCell ⟨B2,0,none⟩ (.pointer (some ⟨B2,0,none⟩))=W1 at R1 M1 hh;have kx:W1.heap.size=w.heap.size:=by subst Jf;simp
   have Jm:∀B o,L B≠some (.row ⟨.h 0,0,[]⟩ o):=by
    intro B o hB;have:=hH B _ o hB;simp [Key.aT] at this
   obtain ⟨R2,M2,C2⟩:=R1.LG (m:=0) (j:=0) Jm (w':=W1.alloc (.cells cs 5)) (cur:=cs) (e:=5) (fz:=(0,0)) (rows:=[]) (val:=fun _ _=>undef) (sz:=1) (cap:=cs.size)
    (oD W1 _) (fun B hB=>mV W1 _ hB) (fun j _=>by simp) ⟨rfl,rfl,rfl,by simp⟩ Nat.one_pos (by simp) (by simp) (by simp) (by intro i c x hx;simp [cellOf] at hx)
    (by intro i c x hx;simp [cellOf] at hx) (fun _=>rfl)
   have pw:(L.put W1.heap.size (.row ⟨.h 0,0,[]⟩ 0)) B2=some (.box (.e 0) 0):=by
    rw [aw.gy (by omega)];exact hB
   obtain ⟨L3,R3,_,M3,_,_⟩:=R2.VU (m:=0) (j:=0) pw (c:=1) (by rw [zn];decide) rfl C2;have ej:w'.heap=((W1.alloc (.cells cs 5)).setCell ⟨B2,0+1,none⟩ (.slice (some ⟨W1.heap.size,0,none⟩) ([]:List (List D)).length cs.size)).heap:=by
    rw [hh,kx];have vk:(W1.alloc (.cells cs 5)).heap=W1.heap.push (.cells cs 5):=by rw [←World.alloc_eq]
    simp only [World.setCell,vk];apply Array.ext
    ·simp
    ·intro i h1 h2;simp only [Array.getElem_push,Array.getElem_modify,Array.size_modify];by_cases hi:i < W1.heap.size
     ·simp [hi,Array.getElem_push]
     ·have:i=W1.heap.size:=by simp at h1;omega
      subst this;simp [show ¬ B2=W1.heap.size by omega]
   obtain ⟨R4,M4⟩:=R3.below (w':=w') ⟨by rw [ho];subst Jf;rfl,by rw [ht];subst Jf;rfl,by rw [hu];subst Jf;rfl,by rw [ej];exact bT _,fun i _=>by rw [ej]⟩;refine ⟨L3,((M1.trans M2).trans M3).trans M4,R4.aor ?_ ?_ ?_,.aq rfl rfl (by simp)⟩
   ·intro k hk;rw [St.ig];subst zq;simp only;unfold St.E;rw [pd];split
    ·rename_i he;subst he;rfl
    ·rename_i he;rw [pf];cases k with
     | s i=>exact absurd rfl (hk i)
     | r x=>
      simp only;rw [pf];cases x with
      | e i=>
       match i with
       | 0=>rfl
       | i+1=>simp
      | _=>rfl
     | b x c=>
      simp only;rw [pf];cases x with
      | e i=>
       match i,c with
       | 0,0=>rfl
       | 0,1=>exact absurd rfl he
       | 0,c+2=>simp
       | i+1,c=>simp
      | _=>rfl
     | _=>simp only;rw [pf]
   ·intro i;rw [pg]
   ·intro r c x hx;rw [St.ig] at hx;simp only at hx;split at hx
    ·simp only [V.one.injEq] at hx;subst hx;exact .inr (.inl ⟨_,rfl⟩)
    ·subst zq;unfold St.E at hx;rw [pd] at hx;simp only at hx;rw [pf] at hx;cases r with
     | e i=>
      match i,c with
      | 0,0=>simp at hx;subst hx;exact .inr (.inr ⟨_,rfl⟩)
      | 0,1=>simp at hx;subst hx;exact .inr (.inl ⟨_,rfl⟩)
      | 0,c+2=>simp [V.dead] at hx;exact .inl hx.symm
      | i+1,c=>simp [V.dead] at hx;exact .inl hx.symm
     | g i=>simp [V.dead] at hx;exact .inl hx.symm
     | l i=>simp [V.dead] at hx;exact .inl hx.symm
end
end
end Go.ax
namespace Go.Proofs.YtfmpdgeiodnnfaaGreatDoor
section
open Go Go.ax Go.RowKit Go.Proofs Go.Sort
set_option maxHeartbeats 1000000 in
theorem WN (b:Nat) (w:World) (h0:w.cell? ⟨b,0,none⟩=some (.pointer (some ⟨b,0,none⟩))) :
  Calls Tryz.prog 91 #[.pointer (some ⟨b,0,none⟩)] w fun e w'=>e = .returned (.tuple #[])∧w'=w:=by
 obtain ⟨j,hj⟩:∃j,Tryz.prog.info? 82=some j:=yI.1 (by kernel_rfl);have hp:Tryz.prog.underlying 79=some (.pointer 82):=by kernel_rfl
 go_enter Tryz.func91,Tryz.ntmps91;go_wp2;rw [Lib.run_neq_ptr_same w _ hp hj];go_wp2;go_end0;exact ⟨rfl,rfl⟩
set_option maxHeartbeats 1000000 in
theorem WM (b:Nat) (w:World) (h0:w.cell? ⟨b,0,none⟩=some (.pointer none)) (Ck:w.shape? b=some (82,2)) (cX:w.frozen? ⟨b,0,none⟩=false) :
  Calls Tryz.prog 91 #[.pointer (some ⟨b,0,none⟩)] w fun e w'=>e = .returned (.tuple #[])∧w'=w.setCell ⟨b,0,none⟩ (.pointer (some ⟨b,0,none⟩)):=by
 obtain ⟨j,hj,hjs⟩:∃j,Tryz.prog.info? 82=some j∧j.size=2:=Option.map_eq_some_iff.1 (by kernel_rfl);have hp:Tryz.prog.underlying 79=some (.pointer 82):=by kernel_rfl
 have hu:Tryz.prog.underlying 187=some .unsafePointer:=by kernel_rfl
 go_enter Tryz.func91,Tryz.ntmps91;go_wp2;rw [Lib.run_to_unsafe w ⟨b,0,none⟩ hp hu hj (by rw [hjs];decide) Ck (Nat.zero_lt_succ 1)];simp only [Result.andThen];rw [Oper.upon_value];go_wp2;rw [run_callFunc_extern Tryz.func148 (by kernel_rfl) (by kernel_rfl) (by kernel_rfl) (e:=Extern.AbiNoEscape.same) (by kernel_rfl)];rw [Lib.run_noEscape];simp only [Result.andThen];rw [Oper.upon_value];go_wp2;rw [Lib.run_from_unsafe w ⟨b,0,none⟩ hu hp hj Ck (by kernel_rfl)];simp only [Result.andThen];rw [Oper.upon_value];go_wp2;go_end0;exact ⟨rfl,rfl⟩
set_option maxHeartbeats 1000000 in
theorem Yr (b:Nat) (w:World) (n:Nat) {T:TypeId} {p:Value} {fz:Nat×Nat} (mT:w.heap[b]? = some (.cells #[p,.slice none 0 0] T fz)) (cX:w.frozen? ⟨b,1,none⟩=false) (hn:n≤281474976710656) :
  Calls Tryz.prog 166 #[.pointer (some ⟨b,0,none⟩),.int .i64 n] w fun e w'=>e = .returned (.tuple #[])∧∃(k:Nat) (cs:Array Value),n≤cs.size∧w'=((w.setCell ⟨b,1,none⟩ (.slice (some ⟨w.heap.size,0,none⟩) 0 cs.size)).alloc (.cells cs 5)).drewN k:=by
 have af:b < w.heap.size:=(lG.1 mT).1;have Zv:Tryz.prog.underlying 80=some (.slice 5):=by kernel_rfl
 obtain ⟨cs,iW,hle,Jz⟩:=Lib.run_makeNoZero (P:=Tryz.prog) w.drew #[3] 80 5 Zv n hn;have hw:IntKind.i64.wrap (IntKind.i64.wrap 0+(n:Int))=n:=by
  rw [IntKind.wrap_i64,IntKind.wrap_i64];omega
 have ara:(callFunc 208 #[.int .i64 (IntKind.i64.wrap (IntKind.i64.wrap 0+(n:Int)))]).run Tryz.prog w.drew = .ok (.value (.slice (some ⟨w.drew.heap.size,0,none⟩) n cs.size)) (w.drew.drew.drew.alloc (.cells cs 5)):=by
  rw [hw,run_callFunc_extern Tryz.func208 (by kernel_rfl) (by kernel_rfl) (by kernel_rfl) (e:=Extern.BytealgMakeNoZero.makeNoZero #[3] #[80]) (by kernel_rfl),iW];rfl
 have c1:w.drew.cell? ⟨b,1,none⟩=some (.slice none 0 0):=by
  have:w.drew.heap[b]? = _:=mT;rw [Lib.cell_of_heap this];rfl
 have c2:(w.alloc (.cells cs 5)).cell? ⟨b,1,none⟩=some (.slice none 0 0):=by
  have:(w.alloc (.cells cs 5)).heap[b]? = _:=(Lib.alloc_old w _ b af).trans mT;rw [Lib.cell_of_heap this];rfl
 have f2:(w.alloc (.cells cs 5)).frozen? ⟨b,1,none⟩=false:=by
  rw [←cX];simp only [World.frozen?,Lib.alloc_old w _ b af]
 have aZ:(Tryz.prog.info? 5).map (·.size)=some 1:=by kernel_rfl
 have arb:∀W:World,(Builtin.copy_ #[80,80] 3 #[.slice (some ⟨w.heap.size,0,none⟩) 0 cs.size,.slice none 0 0]).run Tryz.prog W = .ok (goInt 0) W:=
  fun W=>run_copy_none W 80 80 3 5 _ _ 0 cs.size 0 0 Zv aZ rfl
 have mixed:Tryz.prog.follows Departure.mixedOrders=true:=by kernel_rfl
 clear hw;go_enter Tryz.func166,Tryz.ntmps166;go_wp2;go_region_o;all_goals (go_wp2;go_end0;first | exact ⟨rfl,3,cs,hle,rfl⟩ | exact ⟨rfl,2,cs,hle,rfl⟩ | exact ⟨rfl,4,cs,hle,rfl⟩ | exact ⟨rfl,5,cs,hle,rfl⟩)
theorem apn {w:World} {b:Nat} {p q:Value} {T:TypeId} {fz:Nat×Nat} (mT:w.heap[b]? = some (.cells #[p,q] T fz)):(w.setCell ⟨b,0,none⟩ p).heap=w.heap:=by
 have af:b < w.heap.size:=(lG.1 mT).1;simp only [World.setCell];apply Array.ext
 ·simp
 ·intro i h1 h2;simp only [Array.getElem_modify];split
  ·rename_i he;subst he;rw [(lG.1 mT).2];simp
  ·rfl
theorem YM {w W:World} {a:Addr} {v:Value} {o:Obj} (k:Nat) (h:W.heap=w.heap):(((w.setCell a v).alloc o).drewN k).heap=(W.setCell a v).heap.push o:=by
 have h2:((w.setCell a v).alloc o).heap=(w.setCell a v).heap.push o:=by rw [←World.alloc_eq]
 show ((w.setCell a v).alloc o).heap=_;rw [h2];show (w.heap.modify a.block _).push o=(W.heap.modify a.block _).push o;rw [h]
def Vc (b n:Nat) (w:World) (e:Ending) (w':World):Prop:=e = .returned (.tuple #[])∧∃cs:Array Value,n≤cs.size∧w'.os=w.os∧w'.tape=w.tape∧w'.output=w.output∧
 w'.heap=((w.setCell ⟨b,0,none⟩ (.pointer (some ⟨b,0,none⟩))).setCell ⟨b,1,none⟩ (.slice (some ⟨w.heap.size,0,none⟩) 0 cs.size)).heap.push (.cells cs 5)
set_option maxHeartbeats 1000000 in
theorem aeQ (b n:Nat) (w:World) {fz:Nat×Nat} (mT:w.heap[b]? = some (.cells #[.pointer (some ⟨b,0,none⟩),.slice none 0 0] 82 fz)) (cX:jC 2 fz) (mf:1≤n) (hn:n≤140737488355328) :
  Calls Tryz.prog 112 #[.pointer (some ⟨b,0,none⟩),.int .i64 n] w (Vc b n w):=by
 have c0:w.cell? ⟨b,0,none⟩=some (.pointer (some ⟨b,0,none⟩)):=by rw [Lib.cell_of_heap mT];rfl
 have c1:w.cell? ⟨b,1,none⟩=some (.slice none 0 0):=by rw [Lib.cell_of_heap mT];rfl
 have c1':w.drew.cell? ⟨b,1,none⟩=some (.slice none 0 0):=c1;have P9:w.frozen? ⟨b,1,none⟩=false:=by
  have:=cX 1 (by omega);simp only [World.frozen?,mT];simpa using this
 have mixed:Tryz.prog.follows Departure.mixedOrders=true:=by kernel_rfl
 have af:¬ (IntKind.i64.wrap (0 - 0)≥(n:Int)):=by rw [IntKind.wrap_i64];omega
 have e1:∀args w,(callFunc 91 args).run Tryz.prog w = .ok (.enter 91 args) w:=enters_of Tryz.func91 (by kernel_rfl) rfl;have e2:∀args w,(callFunc 166 args).run Tryz.prog w = .ok (.enter 166 args) w:=enters_of Tryz.func166 (by kernel_rfl) rfl;go_enter Tryz.func112,Tryz.ntmps112;go_wp2_with (go_at_fn 91;refine (WN b w c0).mono ?_;rintro e w' ⟨rfl,hw⟩;subst w');go_region_o;all_goals go_wp2_with (go_at_fn 166;refine (Yr b w.drew n mT P9 (by omega)).mono ?_;rintro e w' ⟨rfl,k,cs,eE,rfl⟩)
 all_goals first
  | (exfalso;omega)
  | (go_end0;exact ⟨rfl,cs,eE,rfl,rfl,rfl,YM (1+k) (apn mT)⟩)
set_option maxHeartbeats 1000000 in
theorem aeP (b n:Nat) (w:World) {fz:Nat×Nat} (mT:w.heap[b]? = some (.cells #[.pointer none,.slice none 0 0] 82 fz)) (cX:jC 2 fz) (mf:1≤n) (hn:n≤140737488355328) :
  Calls Tryz.prog 112 #[.pointer (some ⟨b,0,none⟩),.int .i64 n] w (Vc b n w):=by
 have PQ:(w.setCell ⟨b,0,none⟩ (.pointer (some ⟨b,0,none⟩))).heap[b]? = some (.cells #[.pointer (some ⟨b,0,none⟩),.slice none 0 0] 82 fz):=by
  simp [World.setCell,AU,mT]
 have c1:(w.setCell ⟨b,0,none⟩ (.pointer (some ⟨b,0,none⟩))).cell? ⟨b,1,none⟩=some (.slice none 0 0):=by rw [Lib.cell_of_heap PQ];rfl
 have c1':(w.setCell ⟨b,0,none⟩ (.pointer (some ⟨b,0,none⟩))).drew.cell? ⟨b,1,none⟩=some (.slice none 0 0):=c1;have P9:(w.setCell ⟨b,0,none⟩ (.pointer (some ⟨b,0,none⟩))).frozen? ⟨b,1,none⟩=false:=by
  have:=cX 1 (by omega);simp only [World.frozen?,PQ];simpa using this
 have P8:w.frozen? ⟨b,0,none⟩=false:=by
  have:=cX 0 (by omega);simp only [World.frozen?,mT];simpa using this
 have mixed:Tryz.prog.follows Departure.mixedOrders=true:=by kernel_rfl
 have af:¬ (IntKind.i64.wrap (0 - 0)≥(n:Int)):=by rw [IntKind.wrap_i64];omega
 have e1:∀args w,(callFunc 91 args).run Tryz.prog w = .ok (.enter 91 args) w:=enters_of Tryz.func91 (by kernel_rfl) rfl;have e2:∀args w,(callFunc 166 args).run Tryz.prog w = .ok (.enter 166 args) w:=enters_of Tryz.func166 (by kernel_rfl) rfl;go_enter Tryz.func112,Tryz.ntmps112;go_wp2_with (go_at_fn 91;refine (WM b w (by rw [Lib.cell_of_heap mT];rfl) (by simp [World.shape?,mT]) P8).mono ?_;rintro e w' ⟨rfl,hw⟩;subst w');go_region_o;all_goals go_wp2_with (go_at_fn 166;refine (Yr b (w.setCell ⟨b,0,none⟩ (.pointer (some ⟨b,0,none⟩))).drew n PQ P9 (by omega)).mono ?_;rintro e w' ⟨rfl,k,cs,eE,rfl⟩)
 all_goals first
  | (exfalso;omega)
  | (go_end0;exact ⟨rfl,cs,eE,rfl,rfl,rfl,YM (1+k) rfl⟩)
def Mc:String:=(Rows.printerLinesRow.laid.map (·.1)).getD 2 default
def oq:Nat→Nat→List UInt8
 | 0,u=>[UInt8.ofNat (48+u)]
 | f+1,u=>if u < 10 then [UInt8.ofNat (48+u)] else oq f (u / 10)++[UInt8.ofNat (48+u % 10)]
theorem OL:∀(f u:Nat),u < 10 ^ (f+1)→oq f u=Lib.decDigits u
 | 0,u,h=>by rw [Lib.decDigits,dif_pos (by simpa using h)];rfl
 | f+1,u,h=>by
  rw [Lib.decDigits];simp only [oq];by_cases h1:u < 10
  ·rw [aJ h1,dif_pos h1]
  ·rw [az h1,dif_neg h1,OL f (u / 10) (by rw [U0] at h;omega)]
def pC (n:Int):List UInt8:=if n < 0 then 45::oq 19 n.natAbs else oq 19 n.toNat
theorem aj' {n:Int} (h0 : -9223372036854775808≤n) (h1:n≤9223372036854775807):pC n=Lib.itoa n:=by
 unfold pC Lib.itoa;by_cases h:n < 0
 ·rw [aJ h,aJ h,OL _ _ (by simp;omega)]
 ·rw [az h,az h,OL _ _ (by simp;omega)]
def Ap:bW:=fun f vs bx=>match f with
 | 91=>match vs,bx with
  | [.one (.ptr (.e 0) 0 0)],[[.bt t,x]]=>match Nat.beq t 82 with
   | true=>some (.aq [],[[.bt 82,x]])
   | false=>none
  | _,_=>none
 | 159=>match vs,bx with
  | [.one (.d (.int .i64 n)),.one (.d (.int .i64 m))],[]=>if m=10∧-9223372036854775808≤n∧n≤9223372036854775807 then some (.one (.d (.str (pC n))),[]) else none
  | _,_=>none
 | 256=>match vs,bx with
  | [.one (.d (.str s)),.one (.d (.int .u8 c))],[]=>some (.one (.d (.int .i64 (Lib.indexByte s c.toNat.toUInt8))),[])
  | _,_=>none
 | 112=>match vs,bx with
  | [.one (.ptr (.e 0) 0 0),.one (.d (.int .i64 n))],[[.bt t,.d (.sl (.im true) 1 [])]]=>match Nat.beq t 82,decide (1≤n∧n≤140737488355328) with
   | true,true=>some (.aq [],[[.bt 82,.d (.sl .own 1 [])]])
   | _,_=>none
  | _,_=>none
 | _=>none
theorem ae4 (w:World) (k:Nat) (os:Array Obj):Below w.heap.size w (grow (w.drewN k) os):=by
 refine ⟨rfl,rfl,rfl,by simp [grow,World.drewN],fun i hi=>?_⟩;simp only [grow,World.drewN];rw [AT hi]
theorem aow (G:Nat→Option Obj)
  (QC:∀w L,GI G w L→Lib.TabIs Tryz.prog w Mc .u64 Lib.pow10Tab):Vf Tryz.prog nm G pM Ap:=by
 intro f vs bx r out cH hT hp hn args w L R hH hG hE;obtain rfl:cH=f:=by simpa [nm] using hn
 unfold Ap at hp;split at hp
 ·split at hp
  ·rename_i t x;split at hp
   ·rename_i ht;have ht:=mJ ht;subst ht;simp only [aj,fJ] at hp;obtain ⟨rfl,rfl⟩:=hp;exact afH (fun b w h1 h2 h3=>BI Tryz.func91 (by kernel_rfl) rfl ((WM b w h1 h2 h3).mono (fun e w' h=>⟨_,h.1,rfl,h.2⟩)))
     (fun b w h1=>BI Tryz.func91 (by kernel_rfl) rfl ((WN b w h1).mono (fun e w' h=>⟨_,h.1,rfl,h.2⟩))) R
   ·cases hp
  ·cases hp
 ·split at hp
  ·rename_i n m;split at hp
   ·rename_i hc;simp only [aj,fJ] at hp;obtain ⟨rfl,rfl⟩:=hp;obtain ⟨rfl,h0,h1⟩:=hc;have ha:=Vy (xs:=[.int .i64 n,.int .i64 10]) (bs:=[]) rfl R;refine Xa (Rv:=fun u=>u = .string ⟨(Lib.itoa n).toArray⟩) ?_ R ?_
    ·rintro w L u rfl;rw [aj' h0 h1];exact .one (.d (.plain .str))
    ·rw [ha];refine BI Tryz.func159 (by kernel_rfl) rfl ((Any.strconv_FormatInt_10 Tryz.anr n h0 h1 w (QC w L hG)).mono (fun e w' h=>⟨_,h.1,rfl,?_⟩));obtain ⟨k,os,rfl⟩:=h.2;exact ae4 w k os
   ·cases hp
  ·cases hp
 ·split at hp
  ·rename_i s c;simp only [aj,fJ] at hp;obtain ⟨rfl,rfl⟩:=hp;have ha:=Vy (xs:=[.str s,.int .u8 c]) (bs:=[]) rfl R;refine Xa (Rv:=fun u=>u = .int .i64 (Lib.indexByte s c.toNat.toUInt8)) ?_ R ?_
   ·rintro w L u rfl;exact .one (.d (.plain .int))
   ·rw [ha];refine BI Tryz.func256 (by kernel_rfl) rfl ((Any.stringslite_IndexByte Tryz.anp ⟨s.toArray⟩ c w).mono (fun e w' h=>⟨_,h.1,by simp,by rw [h.2];exact Below.refl _ _⟩))
  ·cases hp
 ·split at hp
  ·rename_i n t;split at hp
   ·rename_i ht hc;have ht:=mJ ht;subst ht;obtain ⟨h1,h2⟩:=rU hc;simp only [aj,fJ] at hp;obtain ⟨rfl,rfl⟩:=hp;obtain ⟨k,rfl⟩:=Int.eq_ofNat_of_zero_le (show 0≤n by omega);refine aiY (n:=k) (by omega) ?_ hH R;intro b w p fz g1 g2 g3;rcases g3 with rfl | rfl
    ·exact BI Tryz.func112 (by kernel_rfl) rfl ((aeP b k w g1 g2 (by omega) (by omega)).mono (fun e w' h=>⟨_,h.1,rfl,h.2⟩))
    ·exact BI Tryz.func112 (by kernel_rfl) rfl ((aeQ b k w g1 g2 (by omega) (by omega)).mono (fun e w' h=>⟨_,h.1,rfl,h.2⟩))
   ·cases hp
  ·cases hp
 ·cases hp
end
end Go.Proofs.YtfmpdgeiodnnfaaGreatDoor
