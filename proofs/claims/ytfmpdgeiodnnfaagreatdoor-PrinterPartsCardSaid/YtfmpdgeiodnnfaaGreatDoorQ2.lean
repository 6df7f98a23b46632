/- A part of the proof. -/
import Derived.Test.YtfmpdgeiodnnfaaGreatDoorQ1
import Derived.Laws.BytesString
import Derived.Laws.BytesArg
import Derived.Laws.MakeOwn
import Derived.Lib.UnsafeStr
import Derived.Orders
set_option linter.all false
namespace Go.ax
section
section
variable {nm:FuncId→Option Nat} {N:Nat} {S:St} {a:Act} {w:World} {L:aw} {P:Program} {o:Oper} {Cl:bX} {d:Nat} {r:V×List Wr}
theorem aiH (R:Rel nm N S a w L) (hd:∀d,o.dst=some d→d < N) {x:Operand} {X:ax.X} {op:UnOp} {t:TypeId} (hx:bT nm X x) (ho:o.op = .unOp op t x)
  (hr:(bp Cl d (.un op X)).run S=some r):dw P a w o (dR nm N S w L a o.dst r.1 r.2):=by
 simp only [bp] at hr;obtain ⟨v1,h1,eV⟩:=Q.aK hr;clear hr;obtain ⟨z,hz,h2⟩:=Q.gx eV;clear eV;obtain rfl:=Q.aZ h2;clear h2;have r1:=rd_val R hx h1;have ex:∀{v:Value},(Op.unary op (a.eval x)).run P w = .ok v w→fL w L z v→dw P a w o (dR nm N S w L a o.dst (.one (.d z)) []):=
  fun hb hp=>fk R hd (by simp [execOp,ho,hb]) (.one (.d (.plain hp)))
 unfold unV at hz;split at hz
 ·cases hz;refine ex ?_ .bool;rw [r1.cQ.sj];rfl
 ·cases hz;refine ex ?_ .int;rw [r1.cQ.rk];rfl
 ·cases hz;refine ex ?_ .int;rw [r1.cQ.rk];rfl
 ·cases hz
theorem aii (R:Rel nm N S a w L) (hd:∀d,o.dst=some d→d < N) {x:Operand} {X:ax.X} {k:IntKind} {t u:TypeId} {ds:TypeDesc} (hx:bT nm X x) (ho:o.op = .convert t u x) (ht:P.underlying t=some ds) (hu:P.underlying u=some (.int k))
  (hr:(bp Cl d (.conv (.int k) X)).run S=some r):dw P a w o (dR nm N S w L a o.dst r.1 r.2):=by
 simp only [bp] at hr;obtain ⟨v1,h1,h2⟩:=Q.aK hr;clear hr;have r1:=rd_val R hx h1;cases v1 with
 | one c=>
  cases c with
  | d z=>
   cases z with
   | int k' n=>
    obtain rfl:=Q.aZ h2;refine fk R hd (v:=.int k (k.wrap n)) ?_ (.one (.d (.plain .int)));have:(convert t u (a.eval x)).run P w = .ok (.int k (k.wrap n)) w:=by
     rw [r1.cQ.rk];simp [convert,run_underlying ht,run_underlying hu,Conv.intToInt]
    simp [execOp,ho,this]
   | _=>cases h2
  | _=>cases h2
 | _=>cases h2
theorem aij (R:Rel nm N S a w L) (hd:∀d,o.dst=some d→d < N) {x:Operand} {X:ax.X} {t u:TypeId} {ds:TypeDesc} (hx:bT nm X x) (ho:o.op = .convert t u x) (ht:P.underlying t=some ds) (hu:P.underlying u=some .string)
  (hr:(bp Cl d (.conv .same X)).run S=some r):dw P a w o (dR nm N S w L a o.dst r.1 r.2):=by
 simp only [bp] at hr;obtain ⟨v1,h1,h2⟩:=Q.aK hr;clear hr;have r1:=rd_val R hx h1;cases v1 with
 | one c=>
  cases c with
  | d z=>
   cases z with
   | str s=>
    obtain rfl:=Q.aZ h2;refine fk R hd (v:=.string ⟨s.toArray⟩) ?_ (.one (.d (.plain .str)));have:(convert t u (a.eval x)).run P w = .ok (.string ⟨s.toArray⟩) w:=by
     rw [r1.cQ.rQ];cases ds<;>simp [convert,run_underlying ht,run_underlying hu]
    simp [execOp,ho,this]
   | _=>cases h2
  | _=>cases h2
 | _=>cases h2
theorem apN (R:Rel nm N S a w L) {v:V} {u:Value} (hv:bD nm w L S.γ (.h 0) v u) (aS:v.own=false) {rows:List (List D)} (h:(shown v).run S=some rows) :
  ∃ (b : Option Addr) (cap : Nat), u = .slice b rows.length cap ∧ (rows = [] ∨ ∃ B o cur e fz sz, b = some ⟨B, o, none⟩ ∧ 0 < sz ∧ w.heap[B]? = some (.cells cur e fz) ∧ (∀ r ∈ rows, r.length = sz) ∧
    (∀ i c k n, cellOf rows i c = some (.int k n) → cur[o + i * sz + c]? = some (.int k n))) := by
 unfold shown at h;split at h
 ·cases h
 ·rename_i t sz uI sM;simp only [Q.run_pure,aj] at h;subst h;cases hv.cQ with
  | d hd=>
   cases hd with
   | plain hp=>
    cases hp with
    | nil=>exact ⟨none,0,rfl,.inl rfl⟩
    | mL=>exact ⟨_,_,rfl,.inl rfl⟩
    | @pl sz rows B o cap cur e fz val aA bf P4 hL hB hlen oQ dP=>
     refine ⟨_,_,rfl,.inr ⟨B,o,cur,e,fz,sz,rfl,bf,hB,hlen,fun i c k n hx=>?_⟩⟩;have h1:=oQ i c _ hx;have h2:=dP i c _ hx;generalize val i c=u at h1 h2;cases h2;exact h1
   | jl=>simp at sM
   | own=>simp at sM
 ·rename_i pl g sz off len;obtain ⟨res,h3,h4⟩:=Q.aK h;clear h;obtain ⟨hg,h5⟩:=Q.en h4;clear h4;simp only [fB] at hg;have qm:off+len≤res.2.2.length:=hg;obtain rfl:=Q.aZ h5;have hlen:(aV ((res.2.2.drop off).take len)).length=len:=by rw [Av,A1,Nf];omega
  cases hv.cQ with
  | view iJ hh gu hV=>
   obtain ⟨jW,u0,sN⟩:=SM R hh h3;rcases hV jW with ⟨h0,a0,rfl⟩ | ⟨B,o,cap,cur,e,fz,rfl,bf,hL,hB,cU,uk,dI,_⟩
   ·refine ⟨a0,0,by rw [hlen,h0],.inl ?_⟩;rw [h0];simp [aV]
   ·refine ⟨_,_,by rw [hlen],?_⟩;rcases sN.nX with ⟨mw,_⟩ | ⟨B',o',ze,dU,e',ub,val,_,_,fh,dD,_,fO,P3,QP,cr,hr,ec⟩
    ·left;rw [mw];simp [aV]
    ·right;obtain rfl:=R.eM B' B pl o' o fh hL;obtain rfl:o'=o:=by rw [fh] at hL;simpa using hL
     obtain ⟨rfl,rfl,rfl⟩:dU=cur∧e'=e∧ub=fz:=by rw [dD] at hB;simpa using hB
     refine ⟨B',_,_,_,_,sz,rfl,bf,dD,?_,?_⟩
     ·intro r1 jX;rw [Dm] at jX;obtain ⟨r2,h1,rfl⟩:=iD.1 jX;simpa using fO r2 (Ni (A4 h1))
     ·intro i c k n hx;rw [Br] at hx;cases hy:cellOf ((res.2.2.drop off).take len) i c with
      | none=>simp [hy] at hx
      | some y=>
       simp only [hy,ff,aj] at hx;obtain ⟨rr,k1,k2⟩:=kK.1 hy;have kP:i < len:=by
        have:=(cA.1 k1).1;rw [A1] at this;omega
       rw [yN kP,tH] at k1;have hc:cellOf res.2.2 (off+i) c=some y:=kK.2 ⟨rr,k1,k2⟩;have h1:=cr _ _ _ hc;have h2:=hr _ _ _ hc;have fQ:y = .int k n:=by
        cases y with
        | sl t _ _=>cases t<;>simp [kX] at hx
        | _=>simp [kX] at hx ⊢<;>exact hx
       subst fQ;generalize val (off+i) c=u at h1 h2;cases h2 with
       | plain h2=>
        cases h2;rw [lN] at h1;rw [show o'+off * sz+i * sz+c=o'+(off * sz+i * sz)+c by omega];exact h1
 ·cases h
theorem Ug:∀(rows:List (List D)) {s:List UInt8},kC rows=some s→rows.length=s.length∧∀i,i < rows.length→∃n,cellOf rows i 0=some (.int .u8 n)∧rows[i]? = some [.int .u8 n]∧s[i]? = some (UInt8.ofNat n.toNat)
 | [],s,h=>by simp only [kC,aj] at h;subst h;exact ⟨rfl,fun i hi=>by simp at hi⟩
 | r::rows,s,h=>by
  unfold kC at h;split at h
  ·rename_i heq;cases heq
  ·rename_i n t heq;simp only [qR] at heq;obtain ⟨rfl,rfl⟩:=heq;cases ht:kC rows with
   | none=>simp [ht] at h
   | some t'=>
    simp only [ht,ff,aj] at h;subst h;obtain ⟨h1,h2⟩:=Ug rows ht;refine ⟨by simp [h1],fun i hi=>?_⟩;cases i with
    | zero=>exact ⟨n,rfl,rfl,rfl⟩
    | succ i=>
     obtain ⟨m,g1,g2,g3⟩:=h2 i (by simpa using hi);exact ⟨m,by simpa [cellOf] using g1,by simpa using g2,by simpa using g3⟩
  ·cases h
theorem afw {w:World} {rows:List (List D)} {s:List UInt8} (hs:kC rows=some s) {b:Option Addr} {cap:Nat}
  (P5 : rows = [] ∨ ∃ B o cur e fz sz, b = some ⟨B, o, none⟩ ∧ 0 < sz ∧ w.heap[B]? = some (.cells cur e fz) ∧ (∀ r ∈ rows, r.length = sz) ∧
    (∀ i c k n, cellOf rows i c = some (.int k n) → cur[o + i * sz + c]? = some (.int k n))) :
  (Conv.bytesToString (.slice b rows.length cap)).run P w = .ok (.string ⟨s.toArray⟩) w:=by
 obtain ⟨hl,hb⟩:=Ug rows hs;rcases P5 with rfl | ⟨B,o',cur,e',fz,sz,rfl,bf,hB,fO,E6⟩
 ·have:s=[]:=pZ.1 (by rw [←hl];rfl);subst this;cases b with
  | none=>simp [Conv.bytesToString];rfl
  | some ad=>simp [Conv.bytesToString,loadCells,loadCellsFrom];rfl
 ·let ns:List Int:=rows.map fun r=>match r with | [.int _ n]=>n | _=>0
  have QF:ns.length=rows.length:=by simp [ns]
  have fG:∀i n,ns[i]? = some n→s[i]? = some (UInt8.ofNat n.toNat)∧w.cell? ⟨B,o'+i,none⟩=some (.int .u8 n):=by
   intro i n kQ;have hi:i < rows.length:=by rw [←QF];exact (cA.1 kQ).1
   obtain ⟨n',g1,g2,g3⟩:=hb i hi;have hnn:n=n':=by
    simp only [ns,bQ,g2,ff,aj] at kQ;exact kQ.symm
   subst hnn;have kx:sz=1:=by have:=fO _ (fp g2);simpa using this.symm
   subst kx;refine ⟨g3,?_⟩;rw [qZ hB];have:=E6 i 0 _ _ g1;rwa [uX,jn] at this
  have Fs:(loadCells ⟨B,o',none⟩ rows.length).run P w = .ok (ns.map (Value.int .u8)).toArray w:=by
   have := run_loadCells_list (P := P) w ⟨B, o', none⟩ (ns.map (Value.int .u8)) (fun j v hj => by
     simp only [bQ] at hj
     cases hn : ns[j]? with
     | none => simp [hn] at hj
     | some n =>
       simp only [hn, ff, aj] at hj
       subst hj
       rw [ov]; exact (fG j n hn).2)
   rwa [cf,QF] at this
  rw [run_bytesToString w _ _ _ ns Fs,foldl_push_bytes];congr 2;have jY:ns.map (fun n=>UInt8.ofNat n.toNat)=s:=by
   apply U2;intro i;rw [bQ];cases hn:ns[i]? with
   | none=>
    have:rows.length≤i:=by rw [←QF];exact U5.1 hn
    rw [Option.map_none,pY (by omega)]
   | some n=>rw [ff,(fG i n hn).1]
  rw [jY];apply ByteArray.ext;show ByteArray.empty.data++s.toArray=s.toArray;rw [show ByteArray.empty.data = #[] from rfl,Array.empty_append]
theorem apM (R:Rel nm N S a w L) {x:Operand} {X:ax.X} (hx:bT nm X x) {rows:List (List D)} (h:(TU X).run S=some rows) :
  ∃ (b : Option Addr) (cap : Nat), a.eval x = .slice b rows.length cap ∧ (rows = [] ∨ ∃ B o cur e fz sz, b = some ⟨B, o, none⟩ ∧ 0 < sz ∧ w.heap[B]? = some (.cells cur e fz) ∧ (∀ r ∈ rows, r.length = sz) ∧
    (∀ i c k n, cellOf rows i c = some (.int k n) → cur[o + i * sz + c]? = some (.int k n))) := by
 cases hx with
 | @s i=>
  unfold TU at h;have h1:=Q.ny h;clear h;have hv:=R.slot i;cases hE:S.E (.s i) with
  | one c=>
   cases c with
   | c8 pl g aa sz uI=>
    have uc:(S.get (.s i)).v = .one (.c8 pl g aa sz uI):=hE;rw [uc] at h1;have h2:=Q.ny h1;have h3:=Q.ny h2;obtain ⟨hg,h4⟩:=Q.en h3;obtain rfl:=Q.aZ h4;simp only [bK,eW] at hg;rw [hE] at hv;cases hv.cQ with
    | c8 iJ hh gu vr hV=>
     rcases hV hg.1.symm hg.2.symm with ⟨h0,ad,h5⟩ | ⟨B,o,cap,cur,e,fz,n0,val,h5,bf,hL,hB,cU,hlen,dN,dI,oQ,dP,ec⟩
     ·refine ⟨some ad,0,?_,.inl h0⟩;rw [h0];exact h5
     ·refine ⟨_,cap,h5,.inr ⟨B,o,cur,e,fz,sz,rfl,bf,hB,hlen,fun i c k n hx=>?_⟩⟩;have g1:=oQ i c _ hx;have g2:=dP i c _ hx;generalize val i c=u at g1 g2;cases g2 with
      | plain g2=>cases g2;exact g1
   | _=>
    have uc:(S.get (.s i)).v = .one _:=hE;rw [uc] at h1;cases h1
  | _=>
   have uc:(S.get (.s i)).v=_:=hE;rw [uc] at h1;cases h1
 | _=>cases h
theorem aih (R:Rel nm N S a w L) (hd:∀d,o.dst=some d→d < N) {x:Operand} {X:ax.X} {t u e:TypeId} (hx:bT nm X x) (aQ:X.iL=true) (ho:o.op = .convert t u x) (ht:P.underlying t=some (.slice e)) (hu:P.underlying u=some .string) (he:P.underlying e=some (.int .u8))
  (hr:(bp Cl d (.conv .Ij X)).run S=some r):dw P a w o (dR nm N S w L a o.dst r.1 r.2):=by
 have core : ∀ (rows : List (List D)) (s : List UInt8), kC rows = some s → (∃ (b : Option Addr) (cap : Nat), a.eval x = .slice b rows.length cap ∧ (rows = [] ∨ ∃ B o cur e fz sz, b = some ⟨B, o, none⟩ ∧ 0 < sz ∧ w.heap[B]? = some (.cells cur e fz) ∧ (∀ r ∈ rows, r.length = sz) ∧
     (∀ i c k n, cellOf rows i c = some (.int k n) → cur[o + i * sz + c]? = some (.int k n)))) → r = (.one (.d (.str s)), []) → dw P a w o (dR nm N S w L a o.dst r.1 r.2) := by
  rintro rows s hs ⟨b,cap,q9,P5⟩ rfl;refine fk R hd (v:=.string ⟨s.toArray⟩) ?_ (.one (.d (.plain .str)));have:(convert t u (a.eval x)).run P w = .ok (.string ⟨s.toArray⟩) w:=by
   rw [q9];have aju:(convert t u (.slice b rows.length cap)).run P w=(Conv.bytesToString (.slice b rows.length cap)).run P w:=by
    cases b<;>simp [convert,run_underlying ht,run_underlying hu,run_underlying he]
   rw [aju];exact afw hs P5
  simp [execOp,ho,this]
 simp only [bp] at hr;obtain ⟨v1,h1,h2⟩:=Q.aK hr;clear hr;have r1:=rd_val R hx h1;have aS:=Ml aQ h1;by_cases Y6:v1 = .one .dead
 ·subst Y6;obtain ⟨rows,h3,h4⟩:=Q.aK h2;obtain ⟨s,hs,h5⟩:=Q.gx h4;exact core rows s hs (apM R hx h3) (Q.aZ h5)
 ·obtain ⟨rows, h3, h4⟩ := Q.aK (x := shown v1) (f := fun rows => (Q.dr (kC rows) >>= fun s => pure (.one (.d (.str s)), []))) (r := r) (by
    cases v1 with
    | one c => cases c <;> (try exact h2) <;> (try exact absurd rfl Y6) <;> (rename_i z; cases z <;> exact h2)
    | _ => exact h2)
  obtain ⟨s,hs,h5⟩:=Q.gx h4;exact core rows s hs (apN R r1 aS h3) (Q.aZ h5)
theorem Dh (R:Rel nm N S a w L) {lo:Option Operand} {X:Option ax.X} (h:∀x,lo=some x→∃y,X=some y∧bT nm y x) (h0:lo=none→X=none) {XA n:Nat} (hr:(qF X XA).run S=some n) :
  (lo=none∧n=XA)∨∃x k,lo=some x∧a.eval x = .int k n:=by
 cases lo with
 | none=>
  rw [h0 rfl] at hr;simp only [qF,Q.run_pure,aj] at hr;exact .inl ⟨rfl,hr.symm⟩
 | some x=>
  obtain ⟨y,rfl,hy⟩:=h x rfl;simp only [qF] at hr;obtain ⟨v,h1,h2⟩:=Q.aK hr;rw [Q.yA] at h2;obtain ⟨k,hk⟩:=wY (rd_val R hy h1) h2;exact .inr ⟨x,k,rfl,hk⟩
theorem adA {b:Bool} {len cap l h:Nat} {lo hi:Option Value} (hl:(lo=none∧l=0)∨∃k,lo=some (.int k l)) (hh:(hi=none∧h=len)∨∃k,hi=some (.int k h)) (h1:l≤h) (h2:h≤len) (h3:len≤cap) :
  (Instr.sliceBounds b len cap lo hi none).run P w = .ok (l,h,cap) w:=by
 have e1:(h:Int)≤(cap:Int):=by omega
 have e2:(l:Int)≤(h:Int):=by omega
 rcases hl with ⟨rfl,rfl⟩ | ⟨k,rfl⟩<;>rcases hh with ⟨rfl,rfl⟩ | ⟨k',rfl⟩<;>
  simp [Instr.sliceBounds,Instr.sliceBound,asIntOf,e1,e2,je h2 h3,h1]
theorem aiE (R:Rel nm N S a w L) (hd:∀d,o.dst=some d→d < N) {x:Operand} {X:ax.X} {t:TypeId} {lo hi:Option Operand} {LO HI:Option ax.X} (hx:bT nm X x) (ho:o.op = .slice t x lo hi none) (ht:P.underlying t=some .string)
  (Ce:∀x,lo=some x→∃y,LO=some y∧bT nm y x) (Ju:lo=none→LO=none) (Jm:∀x,hi=some x→∃y,HI=some y∧bT nm y x) (Jn:hi=none→HI=none)
  (hr:(bp Cl d (.TV X LO HI)).run S=some r):dw P a w o (dR nm N S w L a o.dst r.1 r.2):=by
 simp only [bp] at hr;obtain ⟨v1,h1,h2⟩:=Q.aK hr;clear hr;have r1:=rd_val R hx h1;split at h2
 ·rename_i s;obtain ⟨l,h3,h4⟩:=Q.aK h2;clear h2;obtain ⟨h,h5,h6⟩:=Q.aK h4;clear h4;obtain ⟨hg,h7⟩:=Q.en h6;clear h6;simp only [bK,fB] at hg;obtain rfl:=Q.aZ h7;have e1:=r1.cQ.rQ;refine fk R hd (v:=.string ⟨((s.drop l).take (h - l)).toArray⟩) ?_ (.one (.d (.plain .str)));have hb:=adA (P:=P) (w:=w) (b:=false) (len:=s.length) (cap:=s.length) (l:=l) (h:=h) (lo:=lo.map a.eval) (hi:=hi.map a.eval)
   ((Dh R Ce Ju h3).imp (fun h=>⟨by rw [h.1];rfl,h.2⟩) (fun ⟨x,k,h1,h2⟩=>⟨k,by rw [h1];simp [h2]⟩))
   ((Dh R Jm Jn h5).imp (fun h=>⟨by rw [h.1];rfl,h.2⟩) (fun ⟨x,k,h1,h2⟩=>⟨k,by rw [h1];simp [h2]⟩)) hg.1 hg.2 (bV _)
  have hex:(⟨s.toArray⟩:ByteArray).extract l h=⟨((s.drop l).take (h - l)).toArray⟩:=by
   apply ByteArray.ext;rw [aeW];apply r5;simp [List.drop_take]
  have:(Instr.sliceAt t (a.eval x) (lo.map a.eval) (hi.map a.eval) none).run P w = .ok (.string ⟨((s.drop l).take (h - l)).toArray⟩) w:=by
   rw [e1];simp [Instr.sliceAt,Instr.slice,run_underlying ht,Bk,hb,hex]
  simp [execOp,ho,this]
 ·cases h2
theorem aiD (R:Rel nm N S a w L) (hd:∀d,o.dst=some d→d < N) {x:Operand} {X:ax.X} {t e:TypeId} {pS:Nat} {lo hi mx:Option Operand} {LO HI MX:Option ax.X} (hx:bT nm X x) (ho:o.op = .slice t x lo hi mx) (ht:P.underlying t=some (.slice e)) (hs:jP P e=some pS) (oP:pS≠0)
  (Ce:∀x,lo=some x→∃y,LO=some y∧bT nm y x) (Ju:lo=none→LO=none) (Jm:∀x,hi=some x→∃y,HI=some y∧bT nm y x) (Jn:hi=none→HI=none)
  (vF:∀x,mx=some x→∃y,MX=some y∧bT nm y x) (ajQ:mx=none→MX=none) (ajR:mx≠none→hi≠none)
  (hr:(bp Cl d (.slice pS X LO HI MX)).run S=some r):dw P a w o (dR nm N S w L a o.dst r.1 r.2):=by
 simp only [bp] at hr;obtain ⟨v1,h1,h2⟩:=Q.aK hr;clear hr;have r1:=rd_val R hx h1;have bnd:∀{l h len cap:Nat},(qF LO 0).run S=some l→(qF HI len).run S=some h→l≤h→h≤len→len≤cap→(Instr.sliceBounds true len cap (lo.map a.eval) (hi.map a.eval) none).run P w = .ok (l,h,cap) w:=
  fun h3 h5 g1 g2 g3=>adA ((Dh R Ce Ju h3).imp (fun h=>⟨by rw [h.1];rfl,h.2⟩) (fun ⟨x,k,h1,h2⟩=>⟨k,by rw [h1];simp [h2]⟩))
   ((Dh R Jm Jn h5).imp (fun h=>⟨by rw [h.1];rfl,h.2⟩) (fun ⟨x,k,h1,h2⟩=>⟨k,by rw [h1];simp [h2]⟩)) g1 g2 g3
 have ex:∀{b:Option Addr} {len cap l h:Nat},a.eval x = .slice b len cap→mx=none→(qF LO 0).run S=some l→(qF HI len).run S=some h→l≤h→h≤len→len≤cap→
   (execOp a.eval o).run P w = .ok (.value (.slice (if cap=l then b else b.map (·.add (l * pS))) (h - l) (cap - l))) w:=by
  intro b len cap l h hb hm h3 h5 g1 g2 g3;have hbd:=bnd h3 h5 g1 g2 g3;have:(Instr.sliceAt t (a.eval x) (lo.map a.eval) (hi.map a.eval) (mx.map a.eval)).run P w = .ok (.slice (if cap=l then b else b.map (·.add (l * pS))) (h - l) (cap - l)) w:=by
   rw [hb,hm];simp [Instr.sliceAt,Instr.slice,run_underlying ht,hbd,yB hs]
  simp [execOp,ho,this]
 split at h2
 ·cases h2
 ·rename_i t' sz rows sM;obtain ⟨l,h3,h4⟩:=Q.aK h2;clear h2;obtain ⟨h,h5,h6⟩:=Q.aK h4;clear h4;obtain ⟨hg,h7⟩:=Q.en h6;clear h6;simp only [bK,fB,wS,eW,List.isEmpty_iff] at hg;obtain ⟨⟨akc,zL⟩,jV⟩:=hg;have ZV:=r1.cQ;have aj2:∃u,a.eval x=u∧fL w L (.sl t' sz rows) u:=by
   refine ⟨_,rfl,?_⟩;generalize a.eval x=u at ZV;cases ZV with
   | d hd=>
    cases hd with
    | plain hp=>exact hp
    | jl=>simp at sM
    | own=>simp at sM
  obtain ⟨u,hu,hp⟩:=aj2;split at h7
  ·
   have hm:mx=none:=by
    cases mx with
    | none=>rfl
    | some m=>obtain ⟨y,hy,_⟩:=vF m rfl;cases hy
   obtain rfl:=Q.aZ h7;cases hp with
   | nil=>
    have nR:l=0:=by simp at jV;omega
    have Qn:h=0:=by simpa using jV
    subst nR;subst Qn;refine fk R hd (v:=.slice none 0 0) ?_ (.one (.d (.plain (by simpa using fL.nil))));have:=ex hu hm h3 h5 (bV _) (bV _) (bV _);simpa using this
   | @mL _ ad cap=>
    have nR:l=0:=by simp at jV;omega
    have Qn:h=0:=by simpa using jV
    subst nR;subst Qn;refine fk R hd (v:=.slice (if cap=0 then some ad else (some ad).map (·.add (0 * pS))) 0 (cap - 0)) ?_ (.one (.d (.plain (by split<;>simpa using fL.mL))));exact ex hu hm h3 h5 (bV _) (bV _) (yR _)
   | @pl sz rows B o' cap cur e' fz val aA bf P4 hL hB hlen oQ dP=>
    obtain rfl:sz=pS:=akc.resolve_right aA;refine fk R hd (ex hu hm h3 h5 zL jV P4) (.one (.d (.plain ?_)));by_cases hlh:h=l
    ·rw [hlh,Vj,HK];split<;>exact .mL
    ·have aS:cap≠l:=by omega
     have gg:((rows.drop l).take (h - l)).length=h - l:=by rw [A1,Nf];omega
     rw [aB aS];show fL w L _ (.slice (some ((⟨B,o',none⟩:Addr).add (l * sz))) (h - l) (cap - l));rw [ov];have fG:∀i c y,cellOf ((rows.drop l).take (h - l)) i c=some y→cellOf rows (l+i) c=some y:=by
      intro i c y hy;obtain ⟨rr,k1,k2⟩:=kK.1 hy;have kP:i < h - l:=by
       have:=(cA.1 k1).1;rw [gg] at this;exact this
      rw [yN kP,tH] at k1;exact kK.2 ⟨rr,k1,k2⟩
     suffices akb:fL w L (.sl (.im false) sz ((rows.drop l).take (h - l))) (.slice (some ⟨B,o'+l * sz,none⟩) ((rows.drop l).take (h - l)).length (cap - l)) by rwa [gg] at akb
     refine .pl (fun i c=>val (l+i) c) ?_ bf (by omega) hL hB ?_ ?_ ?_
     ·intro e0;rw [e0] at gg;simp at gg;omega
     ·intro r1 jX;exact hlen r1 (Ni (A4 jX))
     ·intro i c y hy;have:=oQ _ _ _ (fG i c y hy);rw [lN] at this;rw [show o'+l * sz+i * sz+c=o'+(l * sz+i * sz)+c by omega];exact this
     ·intro i c y hy;exact dP _ _ _ (fG i c y hy)
  ·
   rename_i mX;obtain ⟨vm,h8,h9⟩:=Q.aK h7;clear h7;obtain ⟨mm,dk,gO⟩:=Q.gx h9;clear h9;obtain ⟨Fe,iH⟩:=Q.en gO;clear gO;simp only [bK,eW] at Fe;obtain ⟨⟨rfl,rfl⟩,rfl⟩:=Fe;obtain rfl:=Q.aZ iH;cases Jw:mx with
   | none=>cases ajQ Jw
   | some m=>
    obtain ⟨y,hy,hym⟩:=vF m Jw;cases hy;obtain ⟨km,hkm⟩:=wY (rd_val R hym h8) dk;obtain ⟨ad,len,cap,FI,QN⟩:∃ad len cap,u = .slice ad len cap∧br w L ⟨.h 0,0,[]⟩ (.sl t'.XT sz []) (.slice ad 0 0):=by
     cases hp with
     | nil=>exact ⟨_,_,_,rfl,.plain .nil⟩
     | mL=>exact ⟨_,_,_,rfl,.jl⟩
     | pl=>exact ⟨_,_,_,rfl,.jl⟩
    have hiv:∃k,hi.map a.eval=some (.int k 0):=by
     rcases Dh R Jm Jn h5 with ⟨h,_⟩ | ⟨x,k,h1,h2⟩
     ·exact absurd h (ajR (by rw [Jw];simp))
     ·exact ⟨k,by rw [h1];simp [h2]⟩
    obtain ⟨kh,hkh⟩:=hiv;have mq:(lo.map a.eval=none)∨∃k,lo.map a.eval=some (.int k 0):=by
     rcases Dh R Ce Ju h3 with ⟨h,_⟩ | ⟨x,k,h1,h2⟩
     ·exact .inl (by rw [h];rfl)
     ·exact .inr ⟨k,by rw [h1];simp [h2]⟩
    refine fk R hd (v:=.slice ad 0 0) ?_ (.one (.d QN));have:(Instr.sliceAt t (a.eval x) (lo.map a.eval) (hi.map a.eval) (mx.map a.eval)).run P w = .ok (.slice ad 0 0) w:=by
     rw [hu,FI,hkh,Jw];rcases mq with mq | ⟨kl,mq⟩<;>rw [mq]<;>
      simp [Instr.sliceAt,Instr.slice,run_underlying ht,Instr.sliceBounds,Instr.sliceBound,asIntOf,hkm,yB hs]
    simp [execOp,ho,this]
 ·rename_i pl g sz off len;obtain ⟨l,h3,h4⟩:=Q.aK h2;clear h2;obtain ⟨h,h5,h6⟩:=Q.aK h4;clear h4;obtain ⟨hg,h7⟩:=Q.en h6;clear h6;simp only [bK,fB,eW,Vl] at hg;obtain ⟨⟨⟨⟨rfl,zL⟩,jV⟩,QC⟩,vy⟩:=hg;have hm:mx=none:=by
   cases mx with
   | none=>rfl
   | some m=>obtain ⟨y,hy,_⟩:=vF m rfl;rw [QC] at hy;cases hy
  obtain rfl:=Q.aZ h7;cases r1.cQ with
  | view iJ hh gu hV=>
   obtain ⟨b,cap,hb,uk,qi⟩:=iJ;refine fk R hd (ex hb hm h3 h5 zL jV uk) (.one (.view ?_ hh gu (fun he=>?_)))
   ·refine ⟨_,_,rfl,by omega,?_⟩;obtain ⟨ad,rfl⟩:=yS.1 qi;split<;>rfl
   ·rcases hV he with ⟨h0,a0,cr⟩ | ⟨B,o',ze,cur,e',fz,cr,bf,hL,hB,cU,aru,dI,PA⟩
    ·rw [hb] at cr;simp only [Value.slice.injEq] at cr;obtain ⟨rfl,_,rfl⟩:=cr;have:l=0:=by omega
     subst this;exact .inl ⟨by omega,a0,by simp;omega⟩
    ·rw [hb] at cr;simp only [Value.slice.injEq,ll] at cr;obtain ⟨rfl,rfl⟩:=cr;by_cases aS:cap=l
     ·subst aS;exact .inl ⟨by omega,_,by rw [aJ rfl,show h - cap=0 from by omega,Vj]⟩
     ·right;refine ⟨B,o',cap - l,cur,e',fz,?_,bf,hL,hB,cU,by omega,?_,fun q1 q2=>PA (by omega) (by simp only [wS,fB,eW] at vy;omega)⟩
      ·rw [aB aS];show Value.slice (some ((⟨B,o'+off * sz,none⟩:Addr).add (l * sz))) _ _=_;rw [ov,lN,p5]
      ·rw [lN];have:(cap - l) * sz+l * sz=cap * sz:=by rw [←lN,Nat.sub_add_cancel (by omega)]
       omega
 ·cases h2
end
end
section
section
variable {nm:FuncId→Option Nat} {N:Nat} {S S0:St} {a:Act} {w w0:World} {L L0:aw} {P:Program} {o:Oper} {Cl:bX} {d:Nat} {r:V×List Wr} {ws:List Wr}
theorem C9 {α β:Type} {f:α→Option β}:∀(l:List α) {r:List β},l.mapM f=some r→r.length=l.length∧∀(j:Nat) y,r[j]? = some y→∃x,l[j]? = some x∧f x=some y
 | [],r,h=>by
  have:r=[]:=by simpa using h.symm
  subst this;exact ⟨rfl,fun j y hy=>by simp at hy⟩
 | x::l,r,h=>by
  rw [mT] at h;cases hx:f x with
  | none=>simp [hx] at h
  | some y=>
   cases hl:l.mapM f with
   | none=>simp [hx,hl] at h
   | some r'=>
    simp [hx,hl] at h;subst h;obtain ⟨h1,h2⟩:=C9 l hl;refine ⟨by simp [h1],fun j z hz=>?_⟩;cases j with
    | zero=>simp at hz;subst hz;exact ⟨x,rfl,hx⟩
    | succ j=>obtain ⟨x',g1,g2⟩:=h2 j z (by simpa using hz);exact ⟨x',by simpa using g1,g2⟩
def uZ (c:C) (u:Value):Prop:=(∃sz,Bw sz u=some c)
theorem uZ.rep {c:C} {u:Value} (h:uZ c u) (w:World) (L:aw) (γ:Key→Nat) (k:Key) (j:Nat):aF nm w L γ k j c u:=by
 obtain ⟨sz,h⟩:=h;exact (IE h).1 w L γ k j
theorem uZ.own {c:C} {u:Value} (h:uZ c u):c.own=false:=by
 obtain ⟨sz,h⟩:=h;exact (IE (nm:=fun _=>none) h).2
theorem AY {t:TypeId} {zs:List C} (h:pW P t=some zs):∃i z,P.info? t=some i∧i.zero=some z∧z.cells.size=zs.length∧z.cells.size=i.size∧∀(j:Nat) c u,zs[j]? = some c→z.cells[j]? = some u→uZ c u:=by
 unfold pW at h;split at h
 ·rename_i i l h1 h2;split at h
  ·rename_i z hz;split at h
   ·rename_i hc;obtain ⟨g1,g2⟩:=C9 _ h;refine ⟨i,z,h1,hz,by rw [g1];simp [←hc.1],hc.2,?_⟩;intro j c u hj hu;obtain ⟨x,k1,k2⟩:=g2 j c hj;rw [aeY] at k1;have:x.2=u:=by
     have:=k1.2;rw [DW,hu] at this;simpa using this.symm
    rw [this] at k2;exact ⟨_,k2⟩
   ·cases h
  ·cases h
 ·cases h
theorem Wq (M:ch nm N S0 w0 L0 ws a w L) {m:Nat} {cs:List C} {vs:Array Value} {e:TypeId} (hl:cs.length=vs.size)
  (hx:∀(j:Nat) x v,cs[j]? = some x→vs[j]? = some v→aF nm w L (S0.ah ws).γ (.h m) j x v) (hr:(boxed d cs ws).run S0=some r) {dst:Option Nat} (hd:∀d,dst=some d→d < N) :
  dR nm N S0 w0 L0 a dst r.1 r.2 (.pointer (some ⟨w.heap.size,0,none⟩)) (w.alloc (.cells vs e)):=by
 unfold boxed at hr;rw [Q.run_bind,u7,Option.bind_some] at hr;obtain ⟨hg,h2⟩:=Q.en hr;clear hr;obtain rfl:=Q.aZ h2;have hn:cp ((S0.ah ws).E (.r (.l d)))=0∨cp ((S0.ah ws).E (.r (.l d)))=cs.length:=by
  simpa using hg
 obtain ⟨R,hm,_⟩:=M.rel.sY (r:=.l d) (cs:=cs) (vs:=vs) (e:=e) rfl (by simp) hl hn hx;have hγ:S0.γ (.r (.l d))+1≤(S0.ah (gf (.l d) 0 cs ({ k:=.r (.l d),v:=fy cs.length } :: ws))).γ (.r (.l d)):=by
  refine je ?_ (Bs S0 (.l d) cs 0 ({ k:=.r (.l d),v:=fy cs.length } :: ws) (.r (.l d))).2.2.2;simp only [St.ah,St.jS,bW];have:=St.wU S0 ws (.r (.l d));simp;exact this
 exact R.fZ (M.mono.trans hm) hd (.one (.ptr (k:=.h 0) ⟨_,rfl⟩ hγ (fun _=>⟨_,0,y9,rfl⟩)))
theorem ah8 (R:Rel nm N S a w L) (hd:∀d,o.dst=some d→d < N) {t:TypeId} {zs:List C} (ho:o.op = .alloc t) (hz:pW P t=some zs)
  (hr:(bp Cl d (.alloc zs)).run S=some r):dw P a w o (dR nm N S w L a o.dst r.1 r.2):=by
 simp only [bp] at hr;obtain ⟨i,z,h1,h2,h3,h4,h5⟩:=AY hz;refine .val (v:=.pointer (some ⟨w.heap.size,0,none⟩)) (w':=w.alloc (.cells z.cells t)) ?_ (Wq (ch.init R) (m:=0) h3.symm (fun j x v hx hv=>(h5 j x v hx hv).rep _ _ _ _ _) hr hd);have:(Instr.alloc t true (.tuple #[])).run P w = .ok (.pointer (some ⟨w.heap.size,0,none⟩)) (w.alloc (.cells z.cells t)):=by
  simp [Instr.alloc,zeroValue,typeInfo,h1,h2,newVar,newRow]
 simp [execOp,ho,this]
theorem apX {c:C} {r:C×List Wr} (h:(st ws c).run S=some r):c≠.dead:=by
 rintro rfl;simp [st] at h
theorem adK:∀(cs:List C) {ws:List Wr} {r:List C×List Wr},(lI ws cs).run S=some r→∀c∈cs,c≠.dead
 | [],_,_,_,c,hc=>by simp at hc
 | x::cs,ws,r,h,c,hc=>by
  simp only [lI] at h;obtain ⟨r1,h1,h2⟩:=Q.aK h;obtain ⟨r2,h3,_⟩:=Q.aK h2;rcases gU.1 hc with rfl | hc
  ·exact apX h1
  ·exact adK cs h3 c hc
theorem mW.cells {γ0 γ:Key→Nat} (hs:Step w0 w L0 L γ0 γ) {m:Nat} {x:V} {v:Value} (h:mW nm w0 L0 γ0 w L γ m x v) (hx:∀vs,x≠.aq vs) (hl:∀c∈x.cells,c≠.dead) :
  x.cells.length=v.cells.size∧∀(j:Nat) c u,x.cells[j]? = some c→v.cells[j]? = some u→iS nm w0 L0 γ0 w L γ m j c u:=by
 cases x with
 | one c=>
  have hc:iS nm w0 L0 γ0 w L γ m 0 c v:=h;have h1:=(hc.rep hs).wm (hl c (by simp [V.cells]));have hv:v.cells = #[v]:=by cases v<;>first | rfl | simp [Value.oneCell'] at h1
  rw [hv];refine ⟨rfl,fun j c' u h2 h3=>?_⟩;cases j with
  | zero=>simp [V.cells] at h2 h3;subst h2;subst h3;exact hc
  | succ j=>simp [V.cells] at h2
 | agg cs=>
  obtain ⟨vs,rfl,h1,h2⟩:=h;exact ⟨h1,h2⟩
 | aq vs=>exact absurd rfl (hx vs)
theorem aq5 {v:V} {n:Nat} (hn:n≠0) {cs:List C} (h:cs.length=n) (hv:cs.length=v.cells.length):∀vs,v≠.aq vs:=by
 rintro vs rfl;have:cs.length=0:=hv;omega
theorem L6 (M:ch nm N S0 w0 L0 ws a w L) (R0:Rel nm N S0 a w0 L0) {m:Nat} (hm:qT L m) {x:Operand} {X:ax.X} (hx:bT nm X x) (aQ:X.iL=true) {v:V} {fe:List Wr} (h1:(tk ws X).run S0=some (v,fe)) {cs:List C} {fA:List Wr}
  (h2:(lI fe v.cells).run S0=some (cs,fA)) (hn:cs.length≠0) :
  ∃L',Out nm N S0 w0 L0 ws fA a w L L' (fun q=>q.k≠.h m) m∧cs.length=(a.eval x).cells.size∧
   ∀(j:Nat) c u,cs[j]? = some c→(a.eval x).cells[j]? = some u→aF nm w L' (S0.ah fA).γ (.h m) j c u:=by
 obtain ⟨L1,O1,V1⟩:=wG M R0 hm aQ hx h1;have hlen:cs.length=v.cells.length:=by
  have:∀(l:List C) (ws:List Wr) (r:List C×List Wr),(lI ws l).run S0=some r→r.1.length=l.length:=by
   intro l;induction l with
   | nil=>intro ws r h;simp only [lI] at h;obtain rfl:=Q.aZ h;rfl
   | cons y l ih=>
    intro ws r h;simp only [lI] at h;obtain ⟨r1,g1,g2⟩:=Q.aK h;obtain ⟨r2,g3,g4⟩:=Q.aK g2;obtain rfl:=Q.aZ g4;simp [ih _ _ g3]
  exact this _ _ _ h2
 have qv:∀vs,v≠.aq vs:=aq5 hn rfl hlen;obtain ⟨c1,c2⟩:=V1.cells O1.mid.di qv (adK _ h2)
 obtain ⟨L2, O2, l2, R2⟩ := MF (m := m) v.cells O1.mid 0 (fun j => (a.eval x).cells.getD j undef) (fun j c hc => by
   have hj : j < (a.eval x).cells.size := by rw [← c1]; exact (cA.1 hc).1
   have := c2 j c _ hc (oj hj)
   simpa [Array.getD, hj] using this) h2
 refine ⟨L2,(O1.weaken (fun _ _=>trivial)).trans (O2.weaken (fun q hq h=>hq h.1)),by rw [←c1];exact l2,?_⟩;intro j c u hc hu;have:=R2 j c hc;simpa [iB,hu] using this
theorem aic (R:Rel nm N S a w L) (hH:eI L) (hd:∀d,o.dst=some d→d < N) {t:TypeId} {n:Nat} {x:Operand} {X:ax.X} (hx:bT nm X x) (aQ:X.iL=true) (ho:o.op = .box t x) (hn:n≠0)
  (hr:(bp Cl d (.box n X)).run S=some r):dw P a w o (dR nm N S w L a o.dst r.1 r.2):=by
 simp only [bp] at hr;obtain ⟨⟨v,fe⟩,h1,h2⟩:=Q.aK hr;clear hr;obtain ⟨⟨cs,fA⟩,h3,h4⟩:=Q.aK h2;clear h2;obtain ⟨hg,h5⟩:=Q.en h4;clear h4;simp only [eW] at hg;obtain ⟨L',O,hl,hc⟩:=L6 (ch.init R) R (m:=0) (fun B q o hB e=>by have:=hH B q o hB;rw [e] at this;simp [Key.aT] at this) hx aQ h1 h3 (by omega);refine .val (v:=.pointer (some ⟨w.heap.size,0,none⟩)) (w':=w.alloc (.cells (a.eval x).cells t)) ?_ (Wq O.mid hl hc h5 hd);have:(Instr.box t (a.eval x)).run P w = .ok (.pointer (some ⟨w.heap.size,0,none⟩)) (w.alloc (.cells (a.eval x).cells t)):=by
  simp [Instr.box,newVar,newRow]
 simp [execOp,ho,this]
end
end
section
section
variable {nm:FuncId→Option Nat} {N:Nat} {S S0:St} {a:Act} {w w0:World} {L L0:aw} {P:Program} {o:Oper} {Cl:bX} {d:Nat} {r:V×List Wr} {ws:List Wr}
theorem ch.wz (M:ch nm N S0 w0 L0 ws a w L) {f:Place→Option Place} (Ji:∀q:Place,q.k.aT=true→f q=some q) (vu:∀q t,f q=some t→t.k.aT=true→q=t) (re:∀q q' t,f q=some t→f q'=some t→q=q') :
  ch nm N S0 w0 L0 ws a w (cI f L)∧Step w w L (cI f L) (S0.ah ws).γ (S0.ah ws).γ:=by
 have bA:Step w w L (cI f L) (S0.ah ws).γ (S0.ah ws).γ:=
  ⟨fun B hB=>⟨jM.2 hB,rfl⟩,fun _=>bV _,fun B q o hq _ hB=>⟨gL hB (Ji q hq),fun cur e fz h=>⟨cur,h,rfl⟩⟩,fun _ _ _ _ _ _ _=>rfl,fun B r o _ hB=>jz.2 hB⟩
 refine ⟨⟨M.rel.wz Ji re,M.di.trans bA,M.mono.trans (G9 f),?_,M.heap,M.vT,fun B r o hB=>jz.2 (M.boxes B r o hB)⟩,bA⟩;intro B q o hq hB;obtain ⟨q0,h1,h2⟩:=oY hB;rw [vu q0 q h2 hq] at h1;exact M.rows B q o hq h1
theorem aF.acM {f:Place→Option Place} {k k':Key} {j j':Nat} {γ:Key→Nat} {c:C} {v:Value} (bA:Step w w L (cI f L) γ γ) (h:aF nm w L γ k j c v) (hf:∀p,f ⟨k,j,p⟩=some ⟨k',j',p⟩) (hkk:(∃r c,k = .b r c)→∃r c,k' = .b r c:=by first | exact fun h=>h | exact fun _=>⟨_,_,rfl⟩ | (rintro ⟨r,c,h⟩;cases h;done)):aF nm w (cI f L) γ k' j' c v:=by
 refine h.step bA ?_ (hkk:=hkk);intro B q o h1 h2 hL;refine ⟨gL hL ?_,rfl⟩;have:=hf q.p;rw [←h1,←h2] at this;exact this
def s9 (off n:Nat):Place→Option Place:=fun q=>
 if q.k = .h 1 then (if q.j < n then some ⟨.h 0,off+q.j,q.p⟩ else none)
 else if q.k = .h 0 then (if off≤q.j∧q.j < off+n then none else some q)
 else some q
theorem L4 {off n:Nat} {q t:Place} (h:s9 off n q=some t):(q.k = .h 1∧q.j < n∧t=⟨.h 0,off+q.j,q.p⟩)∨(q.k = .h 0∧¬ (off≤q.j∧q.j < off+n)∧t=q)∨(q.k≠.h 1∧q.k≠.h 0∧t=q):=by
 unfold s9 at h;split at h
 ·split at h
  ·simp only [aj] at h;exact .inl ⟨‹_›,‹_›,h.symm⟩
  ·cases h
 ·split at h
  ·split at h
   ·cases h
   ·simp only [aj] at h;exact .inr (.inl ⟨‹_›,‹_›,h.symm⟩)
  ·simp only [aj] at h;exact .inr (.inr ⟨‹_›,‹_›,h.symm⟩)
theorem aoz {off n:Nat} {q q' t:Place} (h1:s9 off n q=some t) (h2:s9 off n q'=some t):q=q':=by
 rcases L4 h1 with ⟨a1,a2,a3⟩ | ⟨a1,a2,a3⟩ | ⟨a1,a2,a3⟩<;>rcases L4 h2 with ⟨b1,b2,b3⟩ | ⟨b1,b2,b3⟩ | ⟨b1,b2,b3⟩
 ·rw [a3] at b3;simp only [Place.mk.injEq,ll] at b3;obtain ⟨k,j,p⟩:=q;obtain ⟨k',j',p'⟩:=q';simp only at *;rw [a1,b1,b3.2,show j=j' by omega]
 ·exact absurd (by rw [←b3,a3];simp;omega) b2
 ·exact absurd (by rw [←b3,a3]) b2
 ·exact absurd (by rw [←a3,b3];simp;omega) a2
 ·rw [←a3,←b3]
 ·exact absurd (by rw [←b3,a3];exact a1) b2
 ·exact absurd (by rw [←a3,b3]) a2
 ·exact absurd (by rw [←a3,b3];exact b1) a2
 ·rw [←a3,←b3]
theorem aoy {off n:Nat} {q:Place} (h:q.k.aT=true):s9 off n q=some q:=by
 unfold s9;rw [aB (fun e=>by rw [e] at h;simp [Key.aT] at h),aB (fun e=>by rw [e] at h;simp [Key.aT] at h)]
theorem aox {off n:Nat} {q t:Place} (h:s9 off n q=some t) (ht:t.k.aT=true):q=t:=by
 rcases L4 h with ⟨_,_,rfl⟩ | ⟨_,_,h⟩ | ⟨_,_,h⟩
 ·simp [Key.aT] at ht
 ·exact h.symm
 ·exact h.symm
def Hq (cells:Array Value) (off:Nat) (vs:Array Value):Array Value:=vs.zipIdx.foldl (fun cs (c,j)=>cs.setIfInBounds (off+j) c) cells
theorem aed (off:Nat):∀(l:List Value) (j0:Nat) (cells:Array Value),((l.zipIdx j0).foldl (fun cs (c,j)=>cs.setIfInBounds (off+j) c) cells).size=cells.size∧
  ∀k,k < cells.size→((l.zipIdx j0).foldl (fun cs (c,j)=>cs.setIfInBounds (off+j) c) cells)[k]? = if off+j0≤k∧k < off+j0+l.length then l[k - (off+j0)]? else cells[k]?
 | [],j0,cells=>⟨rfl,fun k hk=>by simp;intro h1 h2;omega⟩
 | v::l,j0,cells=>by
  obtain ⟨h1,h2⟩:=aed off l (j0+1) (cells.setIfInBounds (off+j0) v);simp only [List.zipIdx_cons,U4];refine ⟨by rw [h1];simp,fun k hk=>?_⟩;rw [h2 k (by simpa using hk)];by_cases ui:off+(j0+1)≤k∧k < off+(j0+1)+l.length
  ·rw [aJ ui,aJ ⟨by omega,by simp;omega⟩,show k - (off+j0)=(k - (off+(j0+1)))+1 by omega,yL]
  ·rw [aB ui];by_cases ku:k=off+j0
   ·subst ku;rw [aJ ⟨bV _,by simp⟩,Vj];simp [wR,hk]
   ·rw [yJ (fun e=>ku e.symm),aB (by simp;omega)]
theorem aee (cells:Array Value) (off:Nat) (vs:Array Value):(Hq cells off vs).size=cells.size∧∀k,k < cells.size→(Hq cells off vs)[k]? = if off≤k∧k < off+vs.size then vs[k - off]? else cells[k]?:=by
 have:=aed off vs.toList 0 cells;unfold Hq;rw [←UO,Array.toList_zipIdx];simpa using this
theorem apR {α:Type} {l:List α} {off:Nat} {cs:List α} (h:off+cs.length≤l.length) (k:Nat):(DI l off cs)[k]? = if off≤k∧k < off+cs.length then cs[k - off]? else l[k]?:=by
 unfold DI;have h1:(l.take off).length=off:=by rw [A1];omega
 by_cases hk:k < off
 ·rw [ej,mS (by omega),yN hk,aB (by omega)]
 ·by_cases ku:k < off+cs.length
  ·rw [ej,pX (by omega),h1,mS (by omega),aJ ⟨by omega,ku⟩]
  ·rw [pX (by rw [dL,h1];omega),dL,h1,tH,aB (by omega)];congr 1;omega
theorem apS {α:Type} {l:List α} {off:Nat} {cs:List α} (h:off+cs.length≤l.length):(DI l off cs).length=l.length:=by
 simp [DI];omega
def HS (nm:FuncId→Option Nat) (place:Nat→Option (Nat×Nat)):List (Nat×Nat×ax.X)→List (Nat×Operand)→Prop
 | [],[]=>True
 | (off,n,X)::t,(i,x)::t'=>place i=some (off,n)∧n≠0∧bT nm X x∧X.iL=true∧HS nm place t t'
 | _,_=>False
theorem Ya (R0:Rel nm N S0 a w0 L0) {place:Nat→Option (Nat×Nat)}:∀(parts:List (Nat×Nat×ax.X)) (ps:List (Nat×Operand)) {ws:List Wr} {L:aw} {cells:List C} {vs:Array Value} (M:ch nm N S0 w0 L0 ws a w L) (hf:qT L 1)
  (hl:cells.length=vs.size) (hc:∀(j:Nat) c u,cells[j]? = some c→vs[j]? = some u→aF nm w L (S0.ah ws).γ (.h 0) j c u) (hp:HS nm place parts ps) {r:List C×List Wr} (hr:(EI ws cells parts).run S0=some r),
  ∃L' eR,Instr.fill place vs (ps.map fun p=>(p.1,a.eval p.2))=some eR∧ch nm N S0 w0 L0 r.2 a w L'∧r.1.length=eR.size∧∀(j:Nat) c u,r.1[j]? = some c→eR[j]? = some u→aF nm w L' (S0.ah r.2).γ (.h 0) j c u
 | [],[],ws,L,cells,vs,M,hf,hl,hc,hp,r,hr=>by
  simp only [EI] at hr;obtain rfl:=Q.aZ hr;exact ⟨L,vs,rfl,M,hl,hc⟩
 | (off,n,X)::parts,(i,x)::ps,ws,L,cells,vs,M,hf,hl,hc,hp,r,hr=>by
  obtain ⟨cL,hn,hx,aQ,hp⟩:=hp;simp only [EI] at hr;obtain ⟨⟨v,fe⟩,h1,h2⟩:=Q.aK hr;clear hr;obtain ⟨⟨cs,fA⟩,h3,h4⟩:=Q.aK h2;clear h2;obtain ⟨hg,h5⟩:=Q.en h4;clear h4;simp only [bK,eW,fB] at hg;obtain ⟨aS,FA⟩:=hg;obtain ⟨L1,O1,jJ,dH⟩:=L6 M R0 hf hx aQ h1 h3 (by omega);obtain ⟨M2,bA⟩:=O1.mid.wz (f:=s9 off n) (fun q hq=>aoy hq) (fun q t h ht=>aox h ht) (fun q q' t a b=>aoz a b);have Qg:qT (cI (s9 off n) L1) 1:=by
   intro B q o hB e;obtain ⟨q0,_,h2⟩:=oY hB;rcases L4 h2 with ⟨_,_,h⟩ | ⟨h6,_,h⟩ | ⟨h6,_,h⟩
   ·rw [h] at e;simp at e
   ·rw [h,h6] at e;simp at e
   ·rw [h] at e;exact h6 e
  obtain ⟨u1,u2⟩:=aee vs off (a.eval x).cells;have hle:off+cs.length≤cells.length:=by omega
  obtain ⟨L', eR, g1, g2, g3, g4⟩ := Ya R0 parts ps (cells := DI cells off cs) (vs := Hq vs off (a.eval x).cells) M2 Qg (by rw [apS hle, u1]; exact hl) (by
    intro j c u hj hu
    rw [apR hle] at hj
    have Qu : j < vs.size := by rw [← u1]; exact (lL.1 hu).1
    rw [u2 j Qu, ← jJ] at hu
    by_cases kQ : off ≤ j ∧ j < off + cs.length
    · rw [aJ kQ] at hj hu
      have := aF.acM (k' := .h 0) (j' := j) bA (dH (j - off) c u hj hu) (fun p => by
        simp only [s9, bW]; rw [aJ (by omega), show off + (j - off) = j by omega])
      exact this
    · rw [aB kQ] at hj hu
      have h0 := (hc j c u hj hu).keep O1.keep (fun p => by simp)
      exact aF.acM bA h0 (fun p => by
        simp only [s9]; rw [aB (by simp), aJ trivial, aB (by omega)])) hp h5
  refine ⟨L',eR,?_,g2,g3,g4⟩;simp only [fY,Instr.fill,cL];rw [aB (by simp;omega)];exact g1
 | [],_::_,_,_,_,_,_,_,_,_,hp,_,_=>hp.elim
 | (_,_,_)::_,[],_,_,_,_,_,_,_,_,hp,_,_=>hp.elim
theorem ac8 {α β:Type} {f:α→Sem β} {g:α→β}:∀(l:List α),(∀x∈l,(f x).run P w = .ok (g x) w)→(l.mapM f).run P w = .ok (l.map g) w
 | [],_=>by simp
 | x::l,h=>by
  rw [mT];simp [h x (by simp),ac8 l (fun y hy=>h y (by simp [hy]))]
theorem aif (R:Rel nm N S a w L) (hH:eI L) (hd:∀d,o.dst=some d→d < N) {t:TypeId} {fs:Array Field} {parts:Array (Nat×Operand)} {zs:List C} {ps:List (Nat×Nat×ax.X)} (ho:o.op = .build t parts) (hz:pW P t=some zs) (ht:P.underlying t=some (.struct fs))
  (zD:∀f∈fs.toList,(jP P f.type).isSome=true) (hp:HS nm (fun i=>(fs.map fun f=>(f.offset,(jP P f.type).getD 0))[i]?) ps parts.toList)
  (hr:(bp Cl d (.build zs ps)).run S=some r):dw P a w o (dR nm N S w L a o.dst r.1 r.2):=by
 simp only [bp] at hr;obtain ⟨⟨cs,fe⟩,h1,h2⟩:=Q.aK hr;clear hr;obtain rfl:=Q.aZ h2;obtain ⟨i,z,k1,k2,k3,k4,k5⟩:=AY hz;obtain ⟨L',eR,g1,g2,g3,g4⟩:=Ya R ps parts.toList (ch.init R) (fun B q o hB e=>by have:=hH B q o hB;rw [e] at this;simp [Key.aT] at this) (cells:=zs) (vs:=z.cells) k3.symm
  (fun j c u hj hu=>(k5 j c u hj hu).rep _ _ _ _ _) hp h1
 refine .val (v:=.agg eR) (w':=w) ?_ (g2.rel.fZ g2.mono hd (.agg g3 g4));have hm:(fs.mapM fun f=>do pure (f.offset,←sizeOf f.type):Sem _).run P w = .ok (fs.map fun f=>(f.offset,(jP P f.type).getD 0)) w:=by
  rw [aeV]
  rw [Sem.run_map, ac8 (g := fun f => (f.offset, (jP P f.type).getD 0)) fs.toList (fun f hf => by
    obtain ⟨n, hn⟩ := yS.1 (zD f hf)
    simp [yB hn, hn])]
  simp only [Result.andThen_ok];congr 1;apply r5;simp
 have:(Instr.build t (parts.map fun (i,x)=>(i,a.eval x))).run P w = .ok (.agg eR) w:=by
  simp only [Instr.build,Sem.run_bind,zeroValue,typeInfo,run_program,k1,k2,Result.andThen_ok,Sem.run_pure,run_underlying ht,hm];have xC:(parts.map fun (i,x)=>(i,a.eval x)).toList=parts.toList.map fun p=>(p.1,a.eval p.2):=by simp
  rw [xC,g1];rfl
 simp [execOp,ho,this]
end
end
section
section
variable {nm:FuncId→Option Nat} {N:Nat} {S S0:St} {a:Act} {w w0:World} {L L0:aw} {P:Program} {o:Oper} {Cl:bX} {d:Nat} {r:V×List Wr} {ws:List Wr}
theorem Rel.LA {S:St} (h:Rel nm N S a w L) {m j:Nat} (hm:∀B o,L B≠some (.row ⟨.h m,j,[]⟩ o)) {w':World} {cur:Array Value} {e:TypeId} {fz:Nat×Nat} {rows:List (List D)} {val:Nat→Nat→Value} {sz cap:Nat}
  (hw:w'.heap[w.heap.size]? = some (.cells cur e fz)) (ho:∀B,B≠w.heap.size→w'.heap[B]? = w.heap[B]?) (cU:jD cur.size fz) (xy:w'.os=w.os∧w'.tape=w.tape∧w'.output=w.output∧w.heap.size≤w'.heap.size)
  (bf:0 < sz) (hlen:∀r∈rows,r.length=sz) (dN:rows.length≤cap) (dI:cap * sz≤cur.size) (hv:pn rows sz 0 cur val) (hc:ph w L ⟨.h m,j,[]⟩ rows val) (ec:tT rows e) :
  Rel nm N S a w' (L.put w.heap.size (.row ⟨.h m,j,[]⟩ 0))∧df w w' L (L.put w.heap.size (.row ⟨.h m,j,[]⟩ 0))∧
   aF nm w' (L.put w.heap.size (.row ⟨.h m,j,[]⟩ 0)) S.γ (.h m) j (.d (.sl .own sz rows)) (.slice (some ⟨w.heap.size,0,none⟩) rows.length cap):=by
 have aA:∀B l,L B=some l→B≠w.heap.size:=fun B l hB e=>by rw [e,h.ft.new] at hB;cases hB
 refine ⟨?_,⟨xy.1,xy.2.1,xy.2.2.1,xy.2.2.2,fun B hB=>⟨by rw [aw.gw (aA B _ hB)];exact hB,ho B (aA B _ hB)⟩,fun B af hB=>⟨by rw [aw.gw (by omega)];exact hB,ho B (by omega)⟩,fun B i o hB=>by rw [aw.gw (aA B _ hB)];exact hB⟩,?_⟩
 ·refine h.grow (fun B l hB=>ho B (aA B l hB)) (fun B l hB=>by rw [aw.gw (aA B l hB)];exact hB) ?_ ?_ ?_
  ·intro B l hB;by_cases he:B=w.heap.size
   ·subst he;exact (lL.1 hw).1
   ·rw [aw.gw he] at hB;exact xq (h.ft B l hB) (ho B he)
  ·intro B B' pl o o' h1 h2;by_cases he:B=w.heap.size
   ·by_cases cZ:B'=w.heap.size
    ·rw [he,cZ]
    ·subst he;rw [aw.kZ] at h1;rw [aw.gw cZ] at h2;simp only [aj,bS.row.injEq] at h1;rw [←h1.1] at h2;exact absurd h2 (hm B' o')
   ·rw [aw.gw he] at h1;by_cases cZ:B'=w.heap.size
    ·subst cZ;rw [aw.kZ] at h2;simp only [aj,bS.row.injEq] at h2;rw [←h2.1] at h1;exact absurd h1 (hm B o)
    ·rw [aw.gw cZ] at h2;exact h.eM B B' pl o o' h1 h2
  ·intro B B' r o o' h1 h2;by_cases he:B=w.heap.size
   ·subst he;rw [aw.kZ] at h1;simp at h1
   ·by_cases cZ:B'=w.heap.size
    ·subst cZ;rw [aw.kZ] at h2;simp at h2
    ·rw [aw.gw he] at h1;rw [aw.gw cZ] at h2;exact h.fE B B' r o o' h1 h2
 ·refine .d (.own val bf (aw.kZ _ _ _) hw cU hlen dN (by omega) (by simpa [pn] using hv) ?_ ec);intro i c x hx;exact br.move id (fun _=>True) (fun _ _ _ _=>trivial) (fun _ _ _ _=>rfl) (fun B hB=>⟨by rw [aw.gw (aA B _ hB)];exact hB,ho B (aA B _ hB)⟩)
   (fun B q o _ hB=>⟨by rw [aw.gw (aA B _ hB)];exact hB,ho B (aA B _ hB)⟩) (hc i c x hx) trivial
theorem OI:∀{l:List C} {r:List D},na l=some r→l=r.map .d
 | [],r,h=>by simp only [na,aj] at h;subst h;rfl
 | c::l,r,h=>by
  cases c with
  | d x=>
   simp only [na] at h;cases hl:na l with
   | none=>simp [hl] at h
   | some t=>simp only [hl,ff,aj] at h;subst h;rw [OI hl];rfl
  | _=>simp [na] at h
theorem uZ.plain {x:D} {u:Value} (h:uZ (.d x) u) (w:World) (L:aw):fL w L x u:=by
 have h1:=h.rep (nm:=fun _=>none) w L (fun _=>0) (.s 0) 0;have h2:=h.own;cases h1 with
 | d h1=>
  cases h1 with
  | plain h1=>exact h1
  | jl=>simp [C.own] at h2
  | own=>simp [C.own] at h2
theorem aeT {zs:List C} {row:List D} {z:Value} {n m:Nat} (hd:na zs=some row) (hz:z.cells.size=zs.length) (hc:∀(j:Nat) c u,zs[j]? = some c→z.cells[j]? = some u→uZ c u) (ju:n≤m) (xJ:zs.length≠0) :
  (∀r∈List.replicate n row,r.length=zs.length)∧∀i c x,cellOf (List.replicate n row) i c=some x→∃u,(madeCells z.cells (m * zs.length))[i * zs.length+c]? = some u∧uZ (.d x) u:=by
 have c6:=OI hd;have gC:row.length=zs.length:=by rw [c6];simp
 refine ⟨fun r hr=>by rw [aeX hr,gC],?_⟩;intro i c x hx;obtain ⟨r,h1,h2⟩:=kK.1 hx;have hi:i < n:=by have:=(cA.1 h1).1;simpa using this
 have hr:r=row:=by
  rw [U6,aJ hi] at h1;exact (tM h1).symm
 subst hr;have aS:c < zs.length:=by rw [←gC];exact (cA.1 h2).1
 have af:i * zs.length+c < m * zs.length:=vS (by omega) aS;have Fv:(i * zs.length+c) % zs.length=c:=by rw [HN,Nat.mul_add_mod];exact HM aS
 have Y5:c < z.cells.size:=by omega
 have hzc:zs[c]? = some (.d x):=by rw [c6,bQ,h2];rfl
 refine ⟨z.cells[c],?_,hc c (.d x) _ hzc (oj Y5)⟩;unfold madeCells;rw [HA,Array.getElem?_range,aJ af];simp only [ff,hz,Fv];rw [getElem!_pos z.cells c Y5]
def qL (i sz:Nat):Place→Option Place:=fun q=>
 if q.k = .h 1 then (if q.j < sz then some ⟨.h 0,0,(i,q.j)::q.p⟩ else none)
 else if q.k = .h 0∧q.j=0 then (match q.p with | (i',_)::_=>if i'=i then none else some q | []=>some q)
 else some q
theorem Ha {i sz:Nat} {q t:Place} (h:qL i sz q=some t):(q.k = .h 1∧q.j < sz∧t=⟨.h 0,0,(i,q.j)::q.p⟩)∨(q.k≠.h 1∧(∀c r,¬ (q.k = .h 0∧q.j=0∧q.p=(i,c)::r))∧t=q):=by
 unfold qL at h;split at h
 ·split at h
  ·simp only [aj] at h;exact .inl ⟨‹_›,‹_›,h.symm⟩
  ·cases h
 ·rename_i h1;split at h
  ·rename_i h2;split at h
   ·rename_i i' c' r' hp;split at h
    ·cases h
    ·rename_i aA;simp only [aj] at h;exact .inr ⟨h1,fun c r e=>aA (by have:=e.2.2;rw [hp] at this;simp only [qR,fK] at this;exact this.1.1),h.symm⟩
   ·rename_i hp;simp only [aj] at h;exact .inr ⟨h1,(fun c r e=>by have:=e.2.2;rw [hp] at this;cases this),h.symm⟩
  ·rename_i h2;simp only [aj] at h;exact .inr ⟨h1,fun c r e=>h2 ⟨e.1,e.2.1⟩,h.symm⟩
theorem apj {i sz:Nat} {q q' t:Place} (h1:qL i sz q=some t) (h2:qL i sz q'=some t):q=q':=by
 rcases Ha h1 with ⟨a1,a2,a3⟩ | ⟨a1,a2,a3⟩<;>rcases Ha h2 with ⟨b1,b2,b3⟩ | ⟨b1,b2,b3⟩
 ·rw [a3] at b3;simp only [Place.mk.injEq,qR,fK,ll] at b3;cases q;cases q';simp_all
 ·exact absurd (by rw [←b3,a3];exact ⟨rfl,rfl,rfl⟩) (b2 q.j q.p)
 ·exact absurd (by rw [←a3,b3];exact ⟨rfl,rfl,rfl⟩) (a2 q'.j q'.p)
 ·rw [←a3,←b3]
theorem aph {i sz:Nat} {q:Place} (h:q.k.aT=true):qL i sz q=some q:=by
 unfold qL;rw [aB (fun e=>by rw [e] at h;simp [Key.aT] at h),aB (fun e=>by rw [e.1] at h;simp [Key.aT] at h)]
theorem apg {i sz:Nat} {q t:Place} (h:qL i sz q=some t) (ht:t.k.aT=true):q=t:=by
 rcases Ha h with ⟨_,_,rfl⟩ | ⟨_,_,h⟩
 ·simp [Key.aT] at ht
 ·exact h.symm
def A8 (nm:FuncId→Option Nat):List (Nat×ax.X)→List (Nat×Operand)→Prop
 | [],[]=>True
 | (i,X)::t,(i',x)::t'=>i=i'∧bT nm X x∧X.iL=true∧A8 nm t t'
 | _,_=>False
theorem Yc (R0:Rel nm N S0 a w0 L0) {sz:Nat} (bf:0 < sz):∀(parts:List (Nat×ax.X)) (ps:List (Nat×Operand)) {ws:List Wr} {L:aw} {rows:List (List D)} {vs:Array Value} (M:ch nm N S0 w0 L0 ws a w L) (hf:qT L 1) (hm:∀B o,L B≠some (.row ⟨.h 0,0,[]⟩ o))
  (hl:rows.length * sz=vs.size) (hlen:∀r∈rows,r.length=sz) (hc:∀i c x,cellOf rows i c=some x→∃u,vs[i * sz+c]? = some u∧br w L ⟨.h 0,0,[(i,c)]⟩ x u) (hp:A8 nm parts ps) {r:List (List D)×List Wr} (hr:(EJ sz ws rows parts).run S0=some r),
  ∃L' eR,Instr.fill (fun i=>some (i * sz,sz)) vs (ps.map fun p=>(p.1,a.eval p.2))=some eR∧ch nm N S0 w0 L0 r.2 a w L'∧(∀B o,L' B≠some (.row ⟨.h 0,0,[]⟩ o))∧r.1.length=rows.length∧eR.size=vs.size∧(∀r'∈r.1,r'.length=sz)∧
   ∀i c x,cellOf r.1 i c=some x→∃u,eR[i * sz+c]? = some u∧br w L' ⟨.h 0,0,[(i,c)]⟩ x u
 | [],[],ws,L,rows,vs,M,hf,hm,hl,hlen,hc,hp,r,hr=>by
  simp only [EJ] at hr;obtain rfl:=Q.aZ hr;exact ⟨L,vs,rfl,M,hm,rfl,rfl,hlen,hc⟩
 | (i,X)::parts,(i',x)::ps,ws,L,rows,vs,M,hf,hm,hl,hlen,hc,hp,r,hr=>by
  obtain ⟨rfl,hx,aQ,hp⟩:=hp;simp only [EJ] at hr;obtain ⟨⟨v,fe⟩,h1,h2⟩:=Q.aK hr;clear hr;obtain ⟨⟨cs,fA⟩,h3,h4⟩:=Q.aK h2;clear h2;obtain ⟨row,h5,h6⟩:=Q.gx h4;clear h4;obtain ⟨hg,h7⟩:=Q.en h6;clear h6;simp only [bK,eW,fB] at hg;obtain ⟨gC,hi⟩:=hg;have eE:=OI h5;have aS:cs.length=sz:=by simp only at eE;rw [eE];simp [gC]
  obtain ⟨L1,O1,jJ,dH⟩:=L6 M R0 hf hx aQ h1 h3 (by omega);obtain ⟨M2,bA⟩:=O1.mid.wz (f:=qL i sz) (fun q hq=>aph hq) (fun q t h ht=>apg h ht) (fun q q' t a b=>apj a b);have Qg:qT (cI (qL i sz) L1) 1:=by
   intro B q o hB e;obtain ⟨q0,_,h2⟩:=oY hB;rcases Ha h2 with ⟨_,_,h⟩ | ⟨h6,_,h⟩
   ·rw [h] at e;simp at e
   ·rw [h] at e;exact h6 e
  have vE:∀B o,cI (qL i sz) L1 B≠some (.row ⟨.h 0,0,[]⟩ o):=by
   intro B o hB;obtain ⟨q0,h8,h2⟩:=oY hB;rcases Ha h2 with ⟨_,_,h⟩ | ⟨h6,_,h⟩
   ·simp at h
   ·rw [←h] at h8;exact hm B o (O1.yi B _ o rfl (by simp) h8)
  obtain ⟨u1,u2⟩:=aee vs (i * sz) (a.eval x).cells;have ars:i * sz+sz≤vs.size:=by
   have:(i+1) * sz≤rows.length * sz:=p6 _ hi;rw [lN] at this;omega
  have Zo:∀r∈rows.set i row,r.length=sz:=by
   intro r hr;rcases Va hr with h | h
   ·exact hlen r h
   ·rw [h];exact gC
  have fG:∀i' c y,cellOf (rows.set i row) i' c=some y→(i'=i∧row[c]? = some y)∨(i'≠i∧cellOf rows i' c=some y):=by
   intro i' c y hy;obtain ⟨rr,k1,k2⟩:=kK.1 hy;rw [Nc] at k1;by_cases he:i=i'
   ·subst he;rw [aJ rfl,aJ hi] at k1;simp only [aj] at k1;rw [k1];exact .inl ⟨rfl,k2⟩
   ·rw [aB he] at k1;exact .inr ⟨fun e=>he e.symm,kK.2 ⟨rr,k1,k2⟩⟩
  obtain ⟨L', eR, g1, g2, g3, g4, g5, g6, g7⟩ := Yc R0 bf parts ps (rows := rows.set i row) (vs := Hq vs (i * sz) (a.eval x).cells) M2 Qg vE (by rw [yO, u1]; exact hl) Zo (by
    intro i' c y hy
    have af := ox Zo hy
    rw [yO] at af
    have qq := vS af.1 af.2
    rw [hl] at qq
    rw [u2 _ qq, ← jJ, aS]
    rcases fG i' c y hy with ⟨rfl, c6⟩ | ⟨aA, hold⟩
    · have Jg : cs[c]? = some (.d y) := by simp only at eE; rw [eE]; simp [c6]
      have Y3 : c < (a.eval x).cells.size := by omega
      refine ⟨(a.eval x).cells[c], ?_, ?_⟩
      · rw [aJ ⟨by omega, by omega⟩, show i' * sz + c - i' * sz = c by omega]
        simp [Y3]
      · have h9 := dH c (.d y) _ Jg (oj Y3)
        cases h9 with
        | d h9 =>
          have := br.move (w' := w) (L' := cI (qL i' sz) L1) (fun q => ⟨.h 0, 0, (i', q.j) :: q.p⟩) (fun q => q.k = .h 1 ∧ q.j = c) (fun _ _ _ h => h) (fun _ _ _ _ => rfl) (fun B hB => ⟨jM.2 hB, rfl⟩)
            (fun B q o hq hL => ⟨gL hL (by unfold qL; rw [aJ hq.1, aJ (by rw [hq.2]; exact af.2)]), rfl⟩) h9 ⟨rfl, rfl⟩
          exact this
    · have ajW : ¬ (i * sz ≤ i' * sz + c ∧ i' * sz + c < i * sz + sz) := by
        rintro ⟨k1, k2⟩
        rcases Nat.lt_or_gt_of_ne aA with h | h
        · have : (i' + 1) * sz ≤ i * sz := p6 _ h
          rw [lN] at this; omega
        · have : (i + 1) * sz ≤ i' * sz := p6 _ h
          rw [lN] at this; omega
      rw [aB ajW]
      obtain ⟨u, k1, k2⟩ := hc i' c y hold
      refine ⟨u, k1, ?_⟩
      have k3 : br w L1 ⟨.h 0, 0, [(i', c)]⟩ y u := by
        refine br.move id (fun q => q.k = .h 0) (fun _ _ _ h => h) (fun _ _ _ _ => rfl) O1.di.bh (fun B q o hq hL => ⟨O1.CG B q o (by rw [hq]; rfl) (by rw [hq]; simp) hL, rfl⟩) k2 rfl
      refine br.move id (fun q => ∃ r, q = ⟨.h 0, 0, (i', c) :: r⟩) (by rintro q a b ⟨r, rfl⟩; exact ⟨r ++ [(a, b)], rfl⟩) (fun _ _ _ _ => rfl) (fun B hB => ⟨jM.2 hB, rfl⟩) ?_ k3 ⟨[], rfl⟩
      rintro B q o ⟨r, rfl⟩ hL
      refine ⟨gL hL ?_, rfl⟩
      unfold qL
      rw [aB (by simp), aJ ⟨rfl, rfl⟩]
      simp only [id, aA, dF]) hp h7
  refine ⟨L',eR,?_,g2,g3,by rw [g4,yO],by rw [g5,u1],g6,g7⟩;simp only [fY,Instr.fill];rw [aB (by simp;omega)];exact g1
 | [],_::_,_,_,_,_,_,_,_,_,_,_,hp,_,_=>hp.elim
 | (_,_)::_,[],_,_,_,_,_,_,_,_,_,_,hp,_,_=>hp.elim
theorem Yp {rows:List (List D)} {sz:Nat} {vs:Array Value} (hc:∀i c x,cellOf rows i c=some x→∃u,vs[i * sz+c]? = some u∧br w L ⟨.h 0,0,[(i,c)]⟩ x u) :
  ∃val,pn rows sz 0 vs val∧ph w L ⟨.h 0,0,[]⟩ rows val:=by
 refine ⟨fun i c=>vs.getD (i * sz+c) undef,?_,?_⟩
 ·intro i c x hx;obtain ⟨u,h1,_⟩:=hc i c x hx;rw [de,h1];simp [iB,h1]
 ·intro i c x hx;obtain ⟨u,h1,h2⟩:=hc i c x hx;simp only [iB,h1,Option.getD_some];exact h2
theorem Rel.Sh {S:St} (h:Rel nm N S a w L) (c:Array Value) (e:TypeId) :
  Rel nm N S a (w.alloc (.cells c e)) (L.put w.heap.size .bh)∧df w (w.alloc (.cells c e)) L (L.put w.heap.size .bh)∧Step w (w.alloc (.cells c e)) L (L.put w.heap.size .bh) S.γ S.γ:=by
 have aA:∀B l,L B=some l→B≠w.heap.size:=fun B l hB e=>by rw [e,h.ft.new] at hB;cases hB
 have ho:∀B,B≠w.heap.size→(w.alloc (.cells c e)).heap[B]? = w.heap[B]?:=fun B hB=>nk w _ hB
 have hw:(w.alloc (.cells c e)).heap[w.heap.size]? = _:=oL w (.cells c e);have hL:∀B l,L B=some l→(L.put w.heap.size .bh) B=some l:=fun B l hB=>by rw [aw.gw (aA B l hB)];exact hB
 refine ⟨h.grow (fun B l hB => ho B (aA B l hB)) hL ?_ ?_ ?_, ⟨rfl, rfl, rfl, by simp, fun B hB => ⟨hL B _ hB, ho B (aA B _ hB)⟩, fun B af hB => ⟨by rw [aw.gw (by omega)]; exact hB, ho B (by omega)⟩, fun B i o hB => hL B _ hB⟩,
   ⟨fun B hB => ⟨hL B _ hB, ho B (aA B _ hB)⟩, fun _ => bV _, fun B q o _ _ hB => ⟨hL B _ hB, fun cur e fz hc => ⟨cur, (ho B (aA B _ hB)).trans hc, rfl⟩⟩, fun B q o _ _ _ hB => ho B (aA B _ hB), fun B r o _ hB => hL B _ hB⟩⟩
 ·intro B l hB;by_cases he:B=w.heap.size
  ·subst he;exact (lL.1 hw).1
  ·rw [aw.gw he] at hB;exact xq (h.ft B l hB) (ho B he)
 ·intro B B' pl o o' h1 h2;by_cases he:B=w.heap.size
  ·subst he;rw [aw.kZ] at h1;simp at h1
  ·by_cases cZ:B'=w.heap.size
   ·subst cZ;rw [aw.kZ] at h2;simp at h2
   ·rw [aw.gw he] at h1;rw [aw.gw cZ] at h2;exact h.eM B B' pl o o' h1 h2
 ·intro B B' r o o' h1 h2;by_cases he:B=w.heap.size
  ·subst he;rw [aw.kZ] at h1;simp at h1
  ·by_cases cZ:B'=w.heap.size
   ·subst cZ;rw [aw.kZ] at h2;simp at h2
   ·rw [aw.gw he] at h1;rw [aw.gw cZ] at h2;exact h.fE B B' r o o' h1 h2
theorem aie (R:Rel nm N S a w L) (hH:eI L) (hd:∀d,o.dst=some d→d < N) {t e:TypeId} {len:Nat} {parts:Array (Nat×Operand)} {zs:List C} {row:List D} {ps:List (Nat×ax.X)} (ho:o.op = .buildSlice t len parts) (ht:P.underlying t=some (.slice e)) (hz:pW P e=some zs) (Qb:na zs=some row)
  (ZM:¬ (len * zs.length > 2 ^ 24)) (xJ:zs.length≠0) (hp:A8 nm ps parts.toList) (h8:tw row=true→e=5)
  (hr:(bp Cl d (.N1 zs.length (List.replicate len row) ps)).run S=some r):dw P a w o (dR nm N S w L a o.dst r.1 r.2):=by
 simp only [bp] at hr;obtain ⟨⟨rs,fe⟩,h1,h2⟩:=Q.aK hr;clear hr;obtain ⟨vy,h2⟩:=Q.en h2;obtain rfl:=Q.aZ h2;have ec:rs≠[]→tT rs e:=by
  intro aA hn;simp only [bK,wS,nJ] at vy;have hn:lZ rs=false:=hn.resolve_right aA;rcases vy.1 with vy | vy
  ·rw [hn] at vy;cases vy
  ·obtain ⟨q1,q2⟩:=vY.1 vy;cases len with
   | zero=>exact absurd rfl q1
   | succ n=>exact h8 (q2 row (by simp [Vc]))
 obtain ⟨i,z,k1,k2,k3,k4,k5⟩:=AY hz;have Jj:∀m,qT L m:=fun m B q o hB e=>by have:=hH B q o hB;rw [e] at this;simp [Key.aT] at this
 obtain ⟨z1,z2⟩:=aeT (n:=len) (m:=len) Qb k3 k5 (bV _) xJ;obtain ⟨L',eR,g1,g2,g3,g4,g5,g6,g7⟩:=Yc R (Np xJ) ps parts.toList (ch.init R) (Jj 1) (fun B o hB=>Jj 0 B _ o hB rfl) (rows:=List.replicate len row) (vs:=madeCells z.cells (len * zs.length))
  (by rw [size_madeCells, U8]) z1 (fun i c x hx => by
    obtain ⟨u, h3, h4⟩ := z2 i c x hx
    exact ⟨u, h3, .plain (h4.plain w L)⟩) hp h1
 obtain ⟨val,hv,zE⟩:=Yp g7;simp only [U8] at g4;have hi:i.size=zs.length:=by omega
 have:(Instr.buildSlice t len (parts.map fun (i,x)=>(i,a.eval x))).run P w = .ok (.slice (some ⟨w.heap.size,0,none⟩) len len) (w.alloc (.cells eR e)):=by
  have xC:(parts.map fun (i,x)=>(i,a.eval x)).toList=parts.toList.map fun p=>(p.1,a.eval p.2):=by simp
  have lS:¬ (16777216 < len * zs.length):=by omega
  unfold Instr.buildSlice;simp only [Sem.run_bind,run_underlying ht,Result.andThen_ok,sizeOf,typeInfo,run_program,k1,Sem.run_pure,hi];have sK:¬ (len * zs.length > 2 ^ 24):=ZM;by_cases h0:len * zs.length=0
  ·have Cf:madeCells z.cells (len * zs.length) = #[]:=by rw [h0];simp [madeCells]
   rw [Cf] at g1;simp only [sK,dF,h0,bW,Sem.run_pure,Result.andThen_ok,Sem.run_bind];simp only [Array.range_zero',xC];have:((Array.range 0).map fun x=>(#[]:Array Value)[x % (#[]:Array Value).size]!) = #[]:=by simp
   simp [g1,newRow]
  ·simp only [sK,dF,h0,Sem.run_bind,zeroValue,typeInfo,run_program,k1,k2,Result.andThen_ok,Sem.run_pure];have QB:((Array.range (len * zs.length)).map fun x=>z.cells[x % z.cells.size]!)=madeCells z.cells (len * zs.length):=rfl;simp [xC,QB,g1,newRow]
 by_cases aA:rs=[]
 ·subst aA;have nR:len=0:=by simpa using g4.symm
  subst nR;obtain ⟨hR,hM,_⟩:=g2.rel.Sh eR e;exact .val (v:=.slice (some ⟨w.heap.size,0,none⟩) 0 0) (w':=w.alloc (.cells eR e)) (by simp [execOp,ho,this]) (hR.fZ (g2.mono.trans hM) hd (m:=0) (.one (.d .jl)))
 obtain ⟨hR,hM,kR⟩:=g2.rel.LA (m:=0) (j:=0) (w':=w.alloc (.cells eR e)) (cap:=len) g3 (oL w _) (fun B hB=>nk w _ hB) (fun j _=>by simp) ⟨rfl,rfl,rfl,by simp⟩ (Np xJ) g6 (by rw [g4];exact bV _) (by rw [g5,size_madeCells];exact bV _) hv zE (ec aA);refine .val (v:=.slice (some ⟨w.heap.size,0,none⟩) len len) (w':=w.alloc (.cells eR e)) ?_ (hR.fZ (g2.mono.trans hM) hd (m:=0) (.one (by rw [←g4];rw [←g4] at kR;exact kR)));simp [execOp,ho,this]
end
end
section
section
variable {nm:FuncId→Option Nat} {N:Nat} {S S0:St} {a:Act} {w w0:World} {L L0:aw} {P:Program} {o:Oper} {Cl:bX} {d:Nat} {r:V×List Wr} {ws:List Wr}
theorem eI.free (h:eI L) (m:Nat):qT L m:=fun B q o hB e=>by have:=h B q o hB;rw [e] at this;simp [Key.aT] at this
theorem aiy (R:Rel nm N S a w L) (hH:eI L) (hd:∀d,o.dst=some d→d < N) {t e:TypeId} {l c:Operand} {LX CX:ax.X} {i:TypeInfo} {zs:List C} {row:List D} (hl:bT nm LX l) (hc:bT nm CX c) (ho:o.op = .makeSlice t l c) (ht:P.underlying t=some (.slice e)) (hi:P.info? e=some i) (hz:pW P e=some zs) (Qb:na zs=some row)
  (oP:i.size≠0) {bytes:Nat} (E3:i.bytes≤bytes∧(bytes=1→e=5)) (hr:(bp Cl d (.R9 i.size bytes row LX CX)).run S=some r):dw P a w o (dR nm N S w L a o.dst r.1 r.2):=by
 simp only [bp] at hr;obtain ⟨vl,h1,h2⟩:=Q.aK hr;clear hr;obtain ⟨vc,h3,h4⟩:=Q.aK h2;clear h2;obtain ⟨n,h5,h6⟩:=Q.gx h4;clear h4;obtain ⟨m,h7,h8⟩:=Q.gx h6;clear h6;obtain ⟨hg,h9⟩:=Q.en h8;clear h8;obtain rfl:=Q.aZ h9;simp only [bK,fB,eW] at hg;obtain ⟨⟨⟨⟨ju,B7⟩,h63⟩,_⟩,h8⟩:=hg;have hb:m * i.bytes≤140737488355328:=je (Nat.mul_le_mul_left _ E3.1) B7;obtain ⟨kl,mo⟩:=wY (rd_val R hl h1) h5;obtain ⟨kc,kO⟩:=wY (rd_val R hc h3) h7;obtain ⟨i',z,k1,k2,k3,k4,k5⟩:=AY hz;obtain rfl:i'=i:=by rw [hi] at k1;simpa using k1.symm
 have bf:i'.size=zs.length:=by omega
 obtain ⟨z1,z2⟩:=aeT (n:=n) (m:=m) Qb k3 k5 ju (by omega);rw [←bf] at z1 z2
 obtain ⟨val, hv, zE⟩ := Yp (w := w) (L := L) (rows := List.replicate n row) (sz := i'.size) (vs := madeCells z.cells (m * i'.size)) (fun i c x hx => by
   obtain ⟨u, h3, h4⟩ := z2 i c x hx
   exact ⟨u, h3, .plain (h4.plain w L)⟩)
 have iU:(Instr.makeSlice t (a.eval l) (a.eval c)).run P w = .ok (.slice (some ⟨w.heap.size,0,none⟩) n m) (w.alloc (.cells (madeCells z.cells (m * i'.size)) e)):=by
  rw [mo,kO];have PY:(i'.bytes:Int) * (m:Int)≤281474976710656:=by
   have h1:i'.bytes * m≤281474976710656:=by rw [HN];omega
   have h2:((i'.bytes * m:Nat):Int)≤281474976710656:=by omega
   rwa [Int.natCast_mul] at h2
  exact run_make w t e i' z ht hi k2 kl kc n m (by omega) (by omega) PY (by omega)
 by_cases Cf:n=0∧m=0
 ·obtain ⟨rfl,rfl⟩:=Cf;obtain ⟨hR,hM,_⟩:=R.Sh (madeCells z.cells (0 * i'.size)) e;exact .val (v:=.slice (some ⟨w.heap.size,0,none⟩) 0 0) (w':=w.alloc (.cells (madeCells z.cells (0 * i'.size)) e)) (by simp [execOp,ho,iU]) (Rel.fZ (ws:=[]) hR hM hd (m:=0) (.one (.d .jl)))
 obtain ⟨hR,hM,kR⟩:=R.LA (m:=0) (j:=0) (w':=w.alloc (.cells (madeCells z.cells (m * i'.size)) e)) (cap:=m) (fun B o hB=>hH.free 0 B _ o hB rfl) (oL w _) (fun B hB=>nk w _ hB) (fun j _=>by simp) ⟨rfl,rfl,rfl,by simp⟩ (Np oP) z1
  (by simpa using ju) (by rw [size_madeCells]; exact bV _) hv zE (by
    intro hn
    simp only [wS, eW, bK, nJ, oo] at h8
    rcases h8 with h8 | ⟨h8, dk⟩
    · exact E3.2 h8
    · exfalso
      have hn := hn.resolve_right fun e => (dk.elim (fun h => h (by simpa using e)) fun h => Cf ⟨by simpa using e, h⟩)
      obtain ⟨q1, q2⟩ := vY.1 hn
      cases n with
      | zero => exact absurd rfl q1
      | succ n =>
        have h9 := q2 row (by simp [Vc])
        rw [h9] at h8; cases h8)
 simp only [U8] at kR;exact .val (v:=.slice (some ⟨w.heap.size,0,none⟩) n m) (w':=w.alloc (.cells (madeCells z.cells (m * i'.size)) e)) (by simp [execOp,ho,iU]) (Rel.fZ (ws:=[]) hR hM hd (m:=0) (.one kR))
theorem MG {s:List UInt8} {i c:Nat} {x:D} (h:cellOf (D.dc s) i c=some x):∃b,s[i]? = some b∧c=0∧x = .int .u8 b.toNat:=by
 obtain ⟨r,h1,h2⟩:=kK.1 h;simp only [D.dc,bQ] at h1;cases hb:s[i]? with
 | none=>simp [hb] at h1
 | some b=>
  simp only [hb,ff,aj] at h1;subst h1;cases c with
  | zero=>simp at h2;exact ⟨b,rfl,rfl,h2.symm⟩
  | succ c=>simp at h2
theorem mO (s:List UInt8):(D.dc s).length=s.length:=by simp [D.dc]
theorem adU (s:List UInt8):∀r∈D.dc s,r.length=1:=by
 intro r hr;simp only [D.dc,iD] at hr;obtain ⟨b,_,rfl⟩:=hr;rfl
def strCells (s:List UInt8):Array Value:=(s.map fun b=>Value.int .u8 b.toNat).toArray
theorem aiG (R:Rel nm N S a w L) (hH:eI L) (hd:∀d,o.dst=some d→d < N) {t u e:TypeId} {x:Operand} {X:ax.X} (hx:bT nm X x) (ho:o.op = .convert t u x) (ht:P.underlying t=some .string) (hu:P.underlying u=some (.slice e)) (he:P.underlying e=some (.int .u8)) (Qc:e=5)
  (hr:(bp Cl d (.conv .Ub X)).run S=some r):dw P a w o (dR nm N S w L a o.dst r.1 r.2):=by
 simp only [bp] at hr;obtain ⟨v1,h1,h2⟩:=Q.aK hr;clear hr;have r1:=rd_val R hx h1;cases v1 with
 | one c=>
  cases c with
  | d z=>
   cases z with
   | str s=>
    obtain ⟨hg,h3⟩:=Q.en (b:=decide (s.length≤140737488355328)) (f:=fun _=>(pure (V.one (C.d (D.sl Tag.own 1 (D.dc s))),[]):Q (V×List Wr))) h2;obtain rfl:=Q.aZ h3;simp only [fB] at hg;have e1:=r1.cQ.rQ;let cap:=grownCap w s.length 0 e;have dN:s.length≤cap:=grownCap_ge w s.length 0 e;let cur:Array Value:=strCells s++Array.replicate (cap - s.length) (.int .u8 0);have eE:cur.size=cap:=by simp [cur,strCells];omega
    let w':=(w.drew.alloc (.cells cur e)).freeze ⟨w.heap.size,cur.size,none⟩ 1;have zU:w'.heap[w.heap.size]? = some (.cells cur e (cur.size,cur.size+1)):=by
     have h0:=oL w.drew (.cells cur e);simp only [World.size_drew] at h0;simp only [w',World.freeze,Nat.one_ne_zero,dF,A0,h0];simp
    have lA:∀B,B≠w.heap.size→w'.heap[B]? = w.heap[B]?:=by
     intro B hB;have h0:=nk w.drew (.cells cur e) (B:=B) hB;simp only [w',World.freeze,Nat.one_ne_zero,dF,A0];rw [aB (fun e=>hB e.symm)];exact h0
    have fG:∀(i:Nat) b,s[i]? = some b→cur[i]? = some (Value.int .u8 b.toNat):=by
     intro i b hb;have hi:=(cA.1 hb).1;simp only [cur];rw [AZ (by simp [strCells];exact hi)];simp [strCells,hb]
    obtain ⟨hR,hM,kR⟩:=R.LA (m:=0) (j:=0) (w':=w') (cap:=cap) (rows:=D.dc s) (sz:=1) (val:=fun i _=>Value.int .u8 (((s.getD i 0).toNat:Nat):Int)) (fun B o hB=>hH.free 0 B _ o hB rfl) zU lA (fun j hj h=>by simp at h;omega)
     ⟨rfl, rfl, rfl, by simp [w', World.freeze]⟩ (by omega) (adU s) (by rw [mO]; exact dN) (by omega) (fun i c x hx => by
       obtain ⟨b, g1, rfl, rfl⟩ := MG hx
       rw [de, uX, jn, fG i b g1]
       simp [kD, g1]) (fun i c x hx => by
       obtain ⟨b, g1, rfl, rfl⟩ := MG hx
       simp only [kD, g1, Option.getD_some]
       exact .plain .int) (fun _ => Qc)
    rw [mO] at kR;refine .val (v:=.slice (some ⟨w.heap.size,0,none⟩) s.length cap) (w':=w') ?_ (Rel.fZ (ws:=[]) hR hM hd (m:=0) (.one kR));have:(convert t u (a.eval x)).run P w = .ok (.slice (some ⟨w.heap.size,0,none⟩) s.length cap) w':=by
     rw [e1];have Cq:(w.drew.alloc (.cells cur e)).shape? w.heap.size=some (e,cur.size):=by
      have h0:=oL w.drew (.cells cur e);simp only [World.size_drew] at h0;unfold World.shape?;rw [h0]
     have uf:(⟨s.toArray⟩:ByteArray).data.map (fun b=>Value.int .u8 b.toNat)=strCells s:=by
      apply r5;simp [strCells]
     simp only [convert,Sem.run_bind,run_underlying ht,run_underlying hu,Result.andThen_ok,run_underlying he,Conv.stringToBytes,run_choose,Question.forced,Bk,uf,newRow,run_newObj,Sem.run_pure,markStringish,run_shape,run_freeze];simp only [r6,dF,Result.andThen_ok,World.drew_eq,World.alloc_eq,World.size_drew];rw [show (Question.cut (.appendCap s.length 0 e) (w.tape w.drawn (.appendCap s.length 0 e)))=cap from rfl];rw [show strCells s++Array.replicate (cap - s.length) (Value.int .u8 0)=cur from rfl,Cq];rfl
    simp [execOp,ho,this]
   | _=>cases h2
  | _=>cases h2
 | _=>cases h2
theorem acZ {sz B o cap:Nat} {rows:List (List D)} {cur:Array Value} {e:TypeId} {fz:Nat×Nat} {val:Nat→Nat→Value} (hB:w.heap[B]? = some (.cells cur e fz)) (hlen:∀r∈rows,r.length=sz)
  (hv:∀i c x,cellOf rows i c=some x→cur[o+i * sz+c]? = some (val i c)) (FB:∀i c x,cellOf rows i c=some x→(val i c).oneCell'=true) :
  ∃news,Src P sz w (.slice (some ⟨B,o,none⟩) rows.length cap) rows.length news∧pn rows sz 0 news val:=by
 have hk:∀k,k < rows.length * sz→∃i c x,cellOf rows i c=some x∧k=i * sz+c∧cur[o+k]? = some (val i c):=by
  intro k hk;obtain ⟨i,c,x,g1,g2,_,_⟩:=afG hlen hk;exact ⟨i,c,x,g1,g2,by rw [g2,←p5];exact hv i c x g1⟩
 have QR:o+rows.length * sz≤cur.size∨rows.length * sz=0:=by
  rcases Nn (rows.length * sz) with h | h
  ·exact .inr h
  ·obtain ⟨i,c,x,_,_,g⟩:=hk (rows.length * sz - 1) (by omega);have:=(lL.1 g).1;exact .inl (by omega)
 rcases QR with QR | h0
 ·refine ⟨cur.extract o (o+rows.length * sz),⟨fun w'=>by simp [Builtin.lenOf],fun w' hw=>?_,by simp;omega,?_⟩,?_⟩
  ·simp only [Builtin.firstCells];exact acJ (w:=w') (by rw [hw];exact hB) QR
  ·intro u hu;obtain ⟨k,ui,ku⟩:=Array.mem_iff_getElem.1 hu;simp only [Array.size_extract] at ui;obtain ⟨i,c,x,g1,g2,g3⟩:=hk k (by omega);have:u=val i c:=by
    rw [←ku,Array.getElem_extract];rw [oj (by omega)] at g3;simpa using g3
   rw [this];exact FB i c x g1
  ·intro i c x hx;obtain ⟨h1,h2⟩:=ox hlen hx;have:=vS h1 h2;rw [de,UQ,aJ (by omega),←p5];exact hv i c x hx
 ·refine ⟨#[],⟨fun w'=>by simp [Builtin.lenOf],fun w' hw=>?_,by simp [h0],by simp⟩,?_⟩
  ·simp [Builtin.firstCells,loadCells,loadCellsFrom,h0]
  ·intro i c x hx;obtain ⟨h1,h2⟩:=ox hlen hx;have:=vS h1 h2;omega
theorem aiW {w:World} {L L':aw} {pl ta:Place} {x:D} {v:Value} (h:br w L pl x v) (hf:x.flat=true):br w L' ta x v:=by
 cases h with
 | plain h=>cases h<;>first | exact .plain .int | exact .plain .bool | exact .plain .str | simp [D.flat] at hf
 | _=>simp [D.flat] at hf
theorem aiS {rows:List (List D)} (h:sw rows=true) {i c:Nat} {x:D} (hx:cellOf rows i c=some x):x.flat=true:=by
 obtain ⟨r,h1,h2⟩:=kK.1 hx;exact lM.1 (lM.1 h r (fp h1)) x (fp h2)
theorem aqy (R:Rel nm N S a w L) {pl:Place} {g sz off len:Nat} {u:Value} (hv:bD nm w L S.γ (.h 0) (.one (.view pl g sz off len)) u) {e0:mV} {x0:D} {rows:List (List D)} (h3:(jw [] pl g sz).run S=some (e0,x0,rows)) (hg:off+len≤rows.length) (hf:sw ((rows.drop off).take len)=true) :
  ∃news iO,Src P sz w u ((rows.drop off).take len).length news∧(∀r∈(rows.drop off).take len,r.length=sz)∧(∀L' ta,ph w L' ta ((rows.drop off).take len) iO)∧pn ((rows.drop off).take len) sz 0 news iO:=by
 have hlen:((rows.drop off).take len).length=len:=by rw [A1,Nf];omega
 have empty:len=0→(∃b cap,u = .slice b 0 cap)→∃news iO,Src P sz w u ((rows.drop off).take len).length news∧(∀r∈(rows.drop off).take len,r.length=sz)∧(∀L' ta,ph w L' ta ((rows.drop off).take len) iO)∧pn ((rows.drop off).take len) sz 0 news iO:=by
  rintro rfl ⟨b,cap,rfl⟩;rw [HK];refine ⟨#[],fun _ _=>undef,⟨fun w'=>by simp [Builtin.lenOf],fun w' _=>?_,by simp,by simp⟩,by simp,fun _ _ i c x hx=>by simp [cellOf] at hx,fun i c x hx=>by simp [cellOf] at hx⟩;cases b<;>simp [Builtin.firstCells,loadCells,loadCellsFrom]
 cases hv.cQ with
 | view iJ hh gu hV=>
  obtain ⟨jW,u0,sN⟩:=SM R hh h3;rcases hV jW with ⟨h0,a0,rfl⟩ | ⟨B,o,cap,cur,e,fz,rfl,bf,hL,hB,cU,uk,dI,_⟩
  ·exact empty h0 ⟨_,_,rfl⟩
  ·rcases sN.nX with ⟨mw,_⟩ | ⟨B',o',ze,dU,e',ub,val,_,_,fh,dD,_,fO,P3,QP,cr,hr,ec⟩
   ·have h0:len=0:=by
     have hn:rows=[]:=mw;rw [hn] at hg;simp at hg;omega
    exact empty h0 ⟨_,_,by rw [h0]⟩
   ·obtain rfl:=R.eM B' B pl o' o fh hL;obtain rfl:o'=o:=by rw [fh] at hL;simpa using hL
    obtain ⟨rfl,rfl,rfl⟩:dU=cur∧e'=e∧ub=fz:=by rw [dD] at hB;simpa using hB
    have fG:∀i c x,cellOf ((rows.drop off).take len) i c=some x→cellOf rows (off+i) c=some x:=by
     intro i c x hx;obtain ⟨rr,k1,k2⟩:=kK.1 hx;have kP:i < len:=by
      have:=(cA.1 k1).1;rw [A1] at this;omega
     rw [yN kP,tH] at k1;exact kK.2 ⟨rr,k1,k2⟩
    have dO:∀r∈(rows.drop off).take len,r.length=sz:=fun r jX=>fO r (Ni (A4 jX))
    have kR:∀i c x,cellOf ((rows.drop off).take len) i c=some x→∀L' ta,br w L' ta x (val (off+i) c):=fun i c x hx L' ta=>
     aiW (hr _ _ _ (fG i c x hx)) (aiS hf hx)
    obtain ⟨news,g1,g2⟩:=acZ (P:=P) (w:=w) (B:=B') (o:=o'+off * sz) (cap:=cap) (rows:=(rows.drop off).take len) (val:=fun i c=>val (off+i) c) dD dO
     (fun i c x hx => by
       have := cr _ _ _ (fG i c x hx)
       rw [lN] at this
       rw [show o' + off * sz + i * sz + c = o' + (off * sz + i * sz) + c by omega]
       exact this)
     (fun i c x hx=>(kR i c x hx L pl).wm)
    rw [hlen] at g1 ⊢;exact ⟨news,_,g1,dO,fun L' ta i c x hx=>kR i c x hx L' _,g2⟩
theorem apk {γ:Key→Nat} {m:Nat} {tg:Tag} {sz cu:Nat} {rows:List (List D)} {v:Value} (h:aF nm w L γ (.h m) 0 (.d (.sl tg cu rows)) v) (hs:cu=sz∨rows=[]) :
  ∃news iO,Src P sz w v rows.length news∧(∀r∈rows,r.length=sz)∧ph w L ⟨.h m,0,[]⟩ rows iO∧pn rows sz 0 news iO:=by
 have empty:rows=[]→(∃b cap,v = .slice b 0 cap)→∃news iO,Src P sz w v rows.length news∧(∀r∈rows,r.length=sz)∧ph w L ⟨.h m,0,[]⟩ rows iO∧pn rows sz 0 news iO:=by
  rintro rfl ⟨b,cap,rfl⟩;refine ⟨#[],fun _ _=>undef,⟨fun w'=>by simp [Builtin.lenOf],fun w' _=>?_,by simp,by simp⟩,by simp,fun i c x hx=>by simp [cellOf] at hx,fun i c x hx=>by simp [cellOf] at hx⟩;cases b<;>simp [Builtin.firstCells,loadCells,loadCellsFrom]
 have full:∀(B o cap:Nat) (cur:Array Value) (e:TypeId) (fz:Nat×Nat) (val:Nat→Nat→Value),v = .slice (some ⟨B,o,none⟩) rows.length cap→cu=sz→w.heap[B]? = some (.cells cur e fz)→(∀r∈rows,r.length=cu)→
   (∀i c x,cellOf rows i c=some x→cur[o+i * cu+c]? = some (val i c))→ph w L ⟨.h m,0,[]⟩ rows val→∃news iO,Src P sz w v rows.length news∧(∀r∈rows,r.length=sz)∧ph w L ⟨.h m,0,[]⟩ rows iO∧pn rows sz 0 news iO:=by
  rintro B o cap cur e fz val rfl rfl hB hlen hv hc;obtain ⟨news,g1,g2⟩:=acZ (P:=P) (cap:=cap) hB hlen hv (fun i c x hx=>(hc i c x hx).wm);exact ⟨news,val,g1,hlen,hc,g2⟩
 cases h with
 | d h=>
  cases h with
  | plain h=>
   cases h with
   | nil=>exact empty rfl ⟨_,_,rfl⟩
   | mL=>exact empty rfl ⟨_,_,rfl⟩
   | pl val aA bf dN hL hB hlen hv hr=>exact full _ _ _ _ _ _ val rfl (hs.resolve_right aA) hB hlen hv (fun i c x hx=>.plain (hr i c x hx))
  | jl=>exact empty rfl ⟨_,_,rfl⟩
  | own val bf hL hB cU hlen dN dI hv hr=>
   rcases hs with hs | hs
   ·exact full _ _ _ _ _ _ val rfl hs hB hlen hv (fun i c x hx=>by have:=hr i c x hx;simpa [Place.sub] using this)
   ·exact empty hs ⟨_,_,by rw [hs];rfl⟩
theorem p8.own {m sz:Nat} {rows:List (List D)} {v:Value} (h:p8 w L ⟨.h m,0,[]⟩ sz rows ⟨.h m,0,[]⟩ v):br w L ⟨.h m,0,[]⟩ (.sl .own sz rows) v:=by
 rcases h with ⟨rfl,a,rfl⟩ | ⟨B,o,cap,cur,e,fz,n0,val,rfl,bf,hL,hB,cU,fO,dN,dI,cr,hd,ec⟩
 ·exact .jl
 ·refine .own val bf (hL.elim id id) hB cU fO dN dI cr (fun i c x hx=>?_) ec;have:=hd i c x hx;simpa using this
theorem p8.aoe {m sz:Nat} {rows:List (List D)} {v:Value} (h:br w L ⟨.h m,0,[]⟩ (.sl .own sz rows) v):p8 w L ⟨.h m,0,[]⟩ sz rows ⟨.h m,0,[]⟩ v:=by
 rcases h.nX with ⟨rfl,a,rfl⟩ | ⟨B,o,cap,cur,e,fz,val,rfl,bf,hL,hB,cU,fO,dN,dI,cr,hd,ec⟩
 ·exact .inl ⟨rfl,a,rfl⟩
 ·exact .inr ⟨B,o,cap,cur,e,fz,0,val,rfl,bf,.inl hL,hB,cU,fO,dN,dI,cr,fun i c x hx=>by simpa using hd i c x hx,ec⟩
theorem NM (M:ch nm N S0 w0 L0 ws a w L) {sz bytes:Nat} {v:V} {u x:Value} {src:List (List D)} {t ut ty e:TypeId} {i:TypeInfo} {dd:TypeDesc} {z:Value} (T:A7 P sz bytes t ut e i dd z) (hv:mW nm w0 L0 S0.γ w L (S0.ah ws).γ 0 v u)
  {news:Array Value} {iO:Nat→Nat→Value} (hx:Src P sz w x src.length news) (lT:∀r∈src,r.length=sz) (gB:ph w L ⟨.h 1,0,[]⟩ src iO) (dO:pn src sz 0 news iO)
  (hr:(wX sz bytes v ws src).run S0=some r) {dst:Option Nat} (hd:∀d,dst=some d→d < N) :
  ∃v' w',(Builtin.append_ #[t,ut] ty #[u,x]).run P w = .ok v' w'∧dR nm N S0 w0 L0 a dst r.1 r.2 v' w':=by
 unfold wX at hr;split at hr
 ·
  rename_i cu rows;obtain ⟨hg,h2⟩:=Q.en hr;obtain rfl:=Q.aZ h2;simp only [bK,eW,fB] at hg;obtain ⟨h8,rfl,hb⟩:=hg;have gJ:aF nm w L (S0.ah ws).γ (.h 0) 0 (.d (.sl .own cu rows)) u:=hv;cases gJ with
  | d gJ=>
   obtain ⟨v',w',L',g1,g2,g3,g4,g5,_⟩:=H8 (ty:=ty) M.rel (by omega:(0:Nat)≠1) T (.inl (p8.aoe gJ)) (.inl rfl) hx lT gB dO hb (.inl h8);exact ⟨v',w',g1,(g5 rfl).fZ (M.mono.trans g2) hd (m:=0) (.one (.d g3.own))⟩
 ·
  rename_i bn cu rows;obtain ⟨hg,h2⟩:=Q.en hr;obtain rfl:=Q.aZ h2;simp only [bK,eW,fB] at hg;obtain ⟨h8,⟨rfl,rfl⟩,hb⟩:=hg;have gJ:aF nm w L (S0.ah ws).γ (.h 0) 0 (.d (.sl (.im true) cu rows)) u:=hv;cases gJ with
  | d gJ=>
   cases gJ with
   | plain gJ=>
    cases gJ;cases src with
    | nil=>
     obtain ⟨ht,hu,dy,hi,hz,kx,ZZ,bf,lS,B7,_⟩:=T;have iU:=ac6 (ty:=ty) (w:=w) (b:=none) (sLen:=0) (sCap:=0) ht hu dy hi (by rw [kx];exact hx) (bV _);exact ⟨_,w,iU,M.rel.fZ M.mono hd (m:=0) (.one (.d (.plain (by simpa using fL.nil))))⟩
    | cons r0 rs=>
     obtain ⟨v',w',L',g1,g2,g3,g4,g5,_⟩:=H8 (ty:=ty) (rows:=[]) (pl:=⟨.h 0,0,[]⟩) M.rel (by omega:(0:Nat)≠1) T (.inr ⟨rfl,by simp,rfl⟩) (.inl rfl) hx lT gB dO (by simpa using hb) (.inr ⟨h8,rfl⟩);exact ⟨v',w',g1,(g5 rfl).fZ (M.mono.trans g2) hd (m:=0) (.one (.d g3.own))⟩
 ·
  rename_i pl g cu off len;obtain ⟨res,h3,h4⟩:=Q.aK hr;obtain ⟨e',x',rows⟩:=res;obtain ⟨rfl,jW,hE,hn⟩:=uF h3;obtain ⟨hg,h5⟩:=Q.en h4;have h6:=Q.ny h5;obtain rfl:=Q.aZ h6;simp only [bK,eW,fB] at hg;obtain ⟨⟨⟨⟨⟨h8,rfl⟩,rfl⟩,rfl⟩,zK⟩,hb⟩:=hg;obtain ⟨f1,f2,f3⟩:=I2 (S:=S0) zK;have gJ:aF nm w0 L0 S0.γ (.h 0) 0 (.view pl g cu 0 rows.length) u:=hv;cases gJ with
  | view iJ hh gu hV=>
   obtain ⟨u0,sN⟩:=M.Bi hh hE hn;have hA:p8 w L pl cu rows ⟨.h 0,0,[]⟩ u:=by
    rcases hV jW with ⟨h0,a0,rfl⟩ | ⟨B,o,cap,cur,e',fz,rfl,bf,hL,hB,cU,hle,dI,PA⟩
    ·exact .inl ⟨pZ.1 h0,a0,rfl⟩
    ·have q8:=(M.di.view B pl o hh f1 hL).1;have PD:w.heap[B]? = some (.cells cur e' fz):=(M.heap B _ hL).trans hB;simp only [Vk,jn] at dI ⊢;rcases sN.nX with ⟨rfl,_⟩ | ⟨B',o',ze,dU,e2,ub,val,_,_,fh,dD,_,fO,P3,QP,cr,dP,ec⟩
     ·exact .inr ⟨B,o,cap,cur,e',fz,0,fun _ _=>undef,rfl,bf,.inl q8,PD,cU,by simp,by simp,dI,fun i c x hx=>by simp [cellOf] at hx,fun i c x hx=>by simp [cellOf] at hx,fun _=>PA rfl rfl⟩
     ·obtain rfl:=M.rel.eM B' B pl o' o fh q8;obtain rfl:o'=o:=by rw [fh] at q8;simpa using q8
      obtain ⟨rfl,rfl,rfl⟩:dU=cur∧e2=e'∧ub=fz:=by rw [dD] at PD;simpa using PD
      exact .inr ⟨B', o', cap, dU, e2, ub, rows.length, val, rfl, bf, .inl fh, dD, cU, fO, hle, dI, cr, fun i c x hx => by
        rw [aJ (ox fO hx).1]; exact dP i c x hx, ec⟩
   obtain ⟨v',w',L',g1,g2,g3,g4,_,g5⟩:=H8 (ty:=ty) M.rel (by omega:(0:Nat)≠1) T (.inl hA) (.inr ⟨hh,x',rows,hE,hn,bV _⟩) hx lT gB dO hb (.inl h8);refine ⟨v',w',g1,Rel.fZ (ws:={ k:=.a pl.k,v:=V.dead } :: ws) (g5 hh) (M.mono.trans g2) hd (m:=0) (.one (.c8 g4 hh ?_ ?_ (fun _ _=>g3)))⟩
   ·rw [jW];exact St.wU S0 _ _
   ·show (S0.γ (.a pl.k))+1≤((S0.ah ws).wr { k:=.a pl.k,v:=V.dead }).γ (.a pl.k);rw [St.jS,f2];simp
 ·
  rename_i pl g aa cu rows;obtain ⟨res,h3,h4⟩:=Q.aK hr;obtain ⟨e',x',dJ⟩:=res;obtain ⟨rfl,jW,hE,hn⟩:=uF h3;have h5:=Q.ny h4;obtain ⟨hg,h6⟩:=Q.en h5;obtain rfl:=Q.aZ h6;simp only [bK,eW,fB] at hg;obtain ⟨⟨⟨⟨⟨h8,rfl⟩,hold⟩,haa⟩,zK⟩,hb⟩:=hg;obtain ⟨f1,f2,f3⟩:=I2 (S:=S0) zK;have gJ:aF nm w L (S0.ah ws).γ (.h 0) 0 (.c8 pl g aa cu rows) u:=hv;cases gJ with
  | c8 iJ hh gu vr hV=>
   have hA:=hV (by rw [f1];exact jW) (by rw [f2];exact haa.symm);obtain ⟨v',w',L',g1,g2,g3,g4,_,g5⟩:=H8 (ty:=ty) M.rel (by omega:(0:Nat)≠1) T (.inl hA) (.inr ⟨hh,x',dJ,hE,hn,hold⟩) hx lT gB dO hb (.inl h8);refine ⟨v',w',g1,Rel.fZ (ws:={ k:=.a pl.k,v:=V.dead } :: ws) (g5 hh) (M.mono.trans g2) hd (m:=0) (.one (.c8 g4 hh ?_ ?_ (fun _ _=>g3)))⟩
   ·rw [jW];exact St.wU S0 _ _
   ·show (S0.γ (.a pl.k))+1≤((S0.ah ws).wr { k:=.a pl.k,v:=V.dead }).γ (.a pl.k);rw [St.jS,f2];simp
 ·cases hr
end
end
section
section
variable {nm:FuncId→Option Nat} {N:Nat} {S S0:St} {a:Act} {w w0:World} {L L0:aw} {P:Program} {o:Oper} {Cl:bX} {d:Nat} {r:V×List Wr} {ws:List Wr}
theorem Yd (R:Rel nm N S a w L) (hH:eI L) (hd:∀d,o.dst=some d→d < N) {x y:Operand} {X Y:ax.X} {t u e:TypeId} {sz bytes:Nat} {i:TypeInfo} {dd:TypeDesc} {z:Value} (hx:bT nm X x) (xH:X.iL=true) (hy:bT nm Y y) (Q6:Y.iL=true)
  (ho:o.op = .call ⟨.builtin .append,#[x,y],#[t,u]⟩) (T:A7 P sz bytes t u e i dd z) (hr:(bp Cl d (.app sz bytes X Y)).run S=some r):dw P a w o (dR nm N S w L a o.dst r.1 r.2):=by
 simp only [bp] at hr;obtain ⟨⟨av,fe⟩,h1,h2⟩:=Q.aK hr;clear hr;obtain ⟨⟨src,fA⟩,h3,h4⟩:=Q.aK h2;clear h2;obtain ⟨⟨v,wN⟩,h5,h6⟩:=Q.aK h4;clear h4;obtain ⟨L1,O1,V1⟩:=wG (ch.init R) R (hH.free 1) Q6 hy h1;dsimp only at h3 h5 h6 V1 O1;unfold rowsOf at h3;split at h3
 ·rename_i c;obtain ⟨⟨c',arL⟩,h7,h8⟩:=Q.aK h3;have hV:iS nm w L S.γ w L1 (S.ah fe).γ 1 0 c (a.eval y):=V1;obtain ⟨L2,O2,R2⟩:=uP O1.mid hV h7;dsimp only at h8;split at h8
  ·rename_i tg cu rows;obtain ⟨hg,h9⟩:=Q.en h8;have dk:=Q.aZ h9;simp only [fK] at dk;obtain ⟨rfl,rfl⟩:=dk;have bf:cu=sz∨src=[]:=by simpa using hg
   have Qe:qT L2 0:=O2.free (O1.free (hH.free 0) (by omega)) (by omega);obtain ⟨L3,O3,V3⟩:=wG O2.mid R Qe xH hx h5;have R3:=aF.keep (m:=1) (j:=0) O3.keep (fun _=>trivial) R2;obtain ⟨news,iO,g1,g2,g3,g4⟩:=apk (P:=P) (sz:=sz) R3 bf;obtain ⟨v',w',g5,g6⟩:=NM (ty:=o.type) O3.mid T V3 g1 g2 g3 g4 h6 hd;refine .val ?_ g6;rw [execOp_builtin ho,show (#[x,y]:Array Operand).map a.eval = #[a.eval x,a.eval y] from by simp];exact wD g5
  ·cases h8
 ·cases h3
theorem aia (R:Rel nm N S a w L) (hH:eI L) (hd:∀d,o.dst=some d→d < N) {x y:Operand} {X Y:ax.X} {t u e:TypeId} {sz bytes:Nat} {i:TypeInfo} {dd:TypeDesc} {z:Value} (hx:bT nm X x) (xH:X.iL=true) (hy:bT nm Y y) (Q6:Y.iL=true)
  (ho:o.op = .call ⟨.builtin .append,#[x,y],#[t,u]⟩) (T:A7 P sz bytes t u e i dd z) (hr:(bp Cl d (.Be sz bytes X Y)).run S=some r):dw P a w o (dR nm N S w L a o.dst r.1 r.2):=by
 simp only [bp] at hr;obtain ⟨av,h1,h2⟩:=Q.aK hr;clear hr;split at h2
 ·rename_i pl g cu off len;have r1:=rd_val R hy h1;obtain ⟨res,h3,h4⟩:=Q.aK h2;clear h2;obtain ⟨e0,x0,rows⟩:=res;obtain ⟨hg,h5⟩:=Q.en h4;clear h4;obtain ⟨⟨v,wN⟩,h6,h7⟩:=Q.aK h5;clear h5;simp only [bK,eW,fB] at hg;obtain ⟨⟨rfl,zL⟩,jV⟩:=hg;obtain ⟨L3,O3,V3⟩:=wG (ch.init R) R (hH.free 0) xH hx h6;obtain ⟨news,iO,g1,g2,g3,g4⟩:=aqy (P:=P) R r1 h3 zL jV;obtain ⟨v',w',g5,g6⟩:=NM (ty:=o.type) O3.mid T V3 g1 g2 (g3 _ _) g4 h7 hd;refine .val ?_ g6;rw [execOp_builtin ho,show (#[x,y]:Array Operand).map a.eval = #[a.eval x,a.eval y] from by simp];exact wD g5
 ·exact Yd (Cl:=Cl) (d:=d) R hH hd hx xH hy Q6 ho T h2
theorem ah' (R:Rel nm N S a w L) (hH:eI L) (hd:∀d,o.dst=some d→d < N) {x y:Operand} {X Y:ax.X} {t u e:TypeId} {i:TypeInfo} {dd:TypeDesc} {z:Value} (hx:bT nm X x) (xH:X.iL=true) (hy:bT nm Y y)
  (ho:o.op = .call ⟨.builtin .append,#[x,y],#[t,u]⟩) (T:A7 P 1 1 t u e i dd z) (hr:(bp Cl d (.Bb X Y)).run S=some r):dw P a w o (dR nm N S w L a o.dst r.1 r.2):=by
 simp only [bp] at hr;obtain ⟨av,h1,h2⟩:=Q.aK hr;clear hr;have r1:=rd_val R hy h1;split at h2
 ·rename_i s;obtain ⟨⟨v,wN⟩,h5,h6⟩:=Q.aK h2;clear h2;obtain ⟨L3,O3,V3⟩:=wG (ch.init R) R (hH.free 0) xH hx h5;have e1:=r1.cQ.rQ;have QS:Src P 1 w (.string ⟨s.toArray⟩) (D.dc s).length (strCells s):=by
   refine ⟨fun w'=>by simp [Builtin.lenOf,Bk,mO],fun w' _=>?_,by simp [strCells,mO],?_⟩
   ·simp only [Builtin.firstCells,mO];have hex:(⟨s.toArray⟩:ByteArray).extract 0 s.length=⟨s.toArray⟩:=by
     apply ByteArray.ext;rw [aeW];apply r5;simp
    rw [hex];have:(⟨s.toArray⟩:ByteArray).data.map (fun b=>Value.int .u8 b.toNat)=strCells s:=by
     apply r5;simp [strCells]
    rw [this];rfl
   ·intro u hu;simp only [strCells,List.mem_toArray,iD] at hu;obtain ⟨b,_,rfl⟩:=hu;rfl
  obtain ⟨v', w', g5, g6⟩ := NM (ty := o.type) O3.mid T V3 QS (adU s) (iO := fun i _ => Value.int .u8 (((s.getD i 0).toNat : Nat) : Int)) (fun i c x hx => by
      obtain ⟨b, g1, rfl, rfl⟩ := MG hx
      simp only [kD, g1, Option.getD_some]
      exact .plain .int) (fun i c x hx => by
      obtain ⟨b, g1, rfl, rfl⟩ := MG hx
      rw [de, uX, jn]
      simp [strCells, kD, g1]) h6 hd
  refine .val ?_ g6;rw [execOp_builtin ho,show (#[x,y]:Array Operand).map a.eval = #[a.eval x,a.eval y] from by simp,e1];exact wD g5
 ·cases h2
theorem Yf (R:Rel nm N S a w L) (hH:eI L) (hd:∀d,o.dst=some d→d < N) {x:Operand} {X:ax.X} (hx:bT nm X x) (xH:X.iL=true) (ho:o.op = .move x∨o.op = .assign x)
  (hr:(bp Cl d (.Ly X)).run S=some r):dw P a w o (dR nm N S w L a o.dst r.1 r.2):=by
 simp only [bp] at hr;obtain ⟨⟨v,fe⟩,h1,h2⟩:=Q.aK hr;clear hr;obtain ⟨L1,O1,V1⟩:=wG (ch.init R) R (hH.free 0) xH hx h1;have hex:(execOp a.eval o).run P w = .ok (.value (a.eval x)) w:=by rcases ho with ho | ho<;>simp [execOp,ho]
 refine .val hex ?_;have plain:∀{r:V×List Wr},(pure (v,fe):Q (V×List Wr)).run S=some r→dR nm N S w L a o.dst r.1 r.2 (a.eval x) w:=by
  intro r h;obtain rfl:=Q.aZ h;exact O1.mid.rel.fZ O1.mid.mono hd (V1.rep O1.mid.di)
 simp only at h2;unfold abo at h2;split at h2
 ·rename_i pl g aa sz rows;obtain ⟨⟨c,fA⟩,h3,h4⟩:=Q.aK h2;obtain rfl:=Q.aZ h4;obtain ⟨L2,O2,R2⟩:=TQ (m:=0) (j:=0) O1.mid V1 h3;exact O2.mid.rel.fZ O2.mid.mono hd (m:=0) (.one R2)
 ·rename_i pl g sz off len;split at h2
  ·obtain ⟨⟨c,fA⟩,h3,h4⟩:=Q.aK h2;obtain rfl:=Q.aZ h4;obtain ⟨L2,O2,R2⟩:=uP (m:=0) (j:=0) (c:=.view pl g sz off len) (v:=a.eval x) O1.mid V1 h3;exact O2.mid.rel.fZ O2.mid.mono hd (m:=0) (.one R2)
  ·exact plain h2
 ·exact plain h2
theorem acy {m:Nat} {mv:Bool} {r:aI}:∀(cs:List C) {ws:List Wr} {L:aw} (M:ch nm N S0 w0 L0 ws a w L) (j0 c0:Nat) (vs:Nat→Value)
  (hc:∀j c,cs[j]? = some c→iS nm w0 L0 S0.γ w L (S0.ah ws).γ m (j0+j) c (vs (j0+j))) {rr:List C×List Wr} (hr:(putCells mv r ws c0 cs).run S0=some rr),
  ∃L',Out nm N S0 w0 L0 ws rr.2 a w L L' (fun q=>¬ (q.k = .h m∧j0≤q.j)) m∧rr.1.length=cs.length∧(∀c∈cs,c≠.dead)∧
   ∀j c,rr.1[j]? = some c→aF nm w L' (S0.ah rr.2).γ (.h m) (j0+j) c (vs (j0+j))
 | [],ws,L,M,j0,c0,vs,hc,rr,hr=>by
  simp only [putCells] at hr;obtain rfl:=Q.aZ hr;exact ⟨L,Out.refl M _ m,rfl,fun c h=>by simp at h,fun j c h=>by simp at h⟩
 | c::cs,ws,L,M,j0,c0,vs,hc,rr,hr=>by
  simp only [putCells] at hr;obtain ⟨⟨c1,fe⟩,h1,h2⟩:=Q.aK hr;clear hr;obtain ⟨⟨Bx,fA⟩,h3,h4⟩:=Q.aK h2;clear h2;obtain rfl:=Q.aZ h4;have da:=hc 0 c rfl;have lx:c≠.dead:=by
   rintro rfl;cases mv<;>simp [Mc,tp,pa,st] at h1
  obtain ⟨L1,O1,R1⟩:∃L',Out nm N S0 w0 L0 ws fe a w L L' (fun q=>¬ (q.k = .h m∧q.j=j0)) m∧aF nm w L' (S0.ah fe).γ (.h m) j0 c1 (vs j0):=by
   cases mv with
   | true=>exact T7 M da h1
   | false=>exact T4 M da h1
  obtain ⟨L2, O2, hl, mq, R2⟩ := acy cs O1.mid (j0 + 1) (c0 + 1) vs (fun j c h => by
    have := hc (j + 1) c (by simpa using h)
    have := this.keep O1.keep (fun p => by simp)
    rwa [show j0 + 1 + j = j0 + (j + 1) by omega]) h3
  refine ⟨L2,(O1.weaken ?_).trans (O2.weaken ?_),by simp [hl],?_,?_⟩
  ·intro q hq h;exact hq ⟨h.1,by omega⟩
  ·intro q hq h;exact hq ⟨h.1,by omega⟩
  ·intro y hy;rcases gU.1 hy with rfl | hy
   ·exact lx
   ·exact mq y hy
  ·intro j y hj;cases j with
   | zero=>
    simp only [kE,aj] at hj;subst hj;exact R1.keep O2.keep (fun p=>by simp)
   | succ j=>
    have:=R2 j y (by simpa using hj);rwa [show j0+1+j=j0+(j+1) by omega] at this
theorem Ys {m:Nat} {Pl:Place} {i:Nat}:∀(cs:List C) {ws:List Wr} {L:aw} (M:ch nm N S0 w0 L0 ws a w L) (j0 c0:Nat) (vs:Nat→Value)
  (hc:∀j c,cs[j]? = some c→iS nm w0 L0 S0.γ w L (S0.ah ws).γ m (j0+j) c (vs (j0+j))) {rr:List D×List Wr} (hr:(vo Pl i ws c0 cs).run S0=some rr),
  ∃L',Out nm N S0 w0 L0 ws rr.2 a w L L' (fun q=>¬ (q.k = .h m∧j0≤q.j)) m∧rr.1.length=cs.length∧(∀c∈cs,c≠.dead)∧
   ∀j c,rr.1[j]? = some c→aF nm w L' (S0.ah rr.2).γ (.h m) (j0+j) (.d c) (vs (j0+j))
 | [],ws,L,M,j0,c0,vs,hc,rr,hr=>by
  simp only [vo] at hr;obtain rfl:=Q.aZ hr;exact ⟨L,Out.refl M _ m,rfl,fun c h=>by simp at h,fun j c h=>by simp at h⟩
 | c::cs,ws,L,M,j0,c0,vs,hc,rr,hr=>by
  simp only [vo] at hr;obtain ⟨⟨c1,fe⟩,h1,h2⟩:=Q.aK hr;clear hr;have da:=hc 0 c rfl;have lx:c≠.dead:=by
   rintro rfl;simp [pa,st] at h1
  obtain ⟨L1,O1,R1⟩:=T4 M da h1;simp only at h2;split at h2
  ·rename_i z;obtain ⟨⟨Bx,fA⟩,h3,h4⟩:=Q.aK h2;clear h2;obtain rfl:=Q.aZ h4
   obtain ⟨L2, O2, hl, mq, R2⟩ := Ys cs O1.mid (j0 + 1) (c0 + 1) vs (fun j c h => by
     have := hc (j + 1) c (by simpa using h)
     have := this.keep O1.keep (fun p => by simp)
     rwa [show j0 + 1 + j = j0 + (j + 1) by omega]) h3
   refine ⟨L2,(O1.weaken ?_).trans (O2.weaken ?_),by simp [hl],?_,?_⟩
   ·intro q hq h;exact hq ⟨h.1,by omega⟩
   ·intro q hq h;exact hq ⟨h.1,by omega⟩
   ·intro y hy;rcases gU.1 hy with rfl | hy
    ·exact lx
    ·exact mq y hy
   ·intro j y hj;cases j with
    | zero=>
     simp only [kE,aj] at hj;subst hj;exact R1.keep O2.keep (fun p=>by simp)
    | succ j=>
     have:=R2 j y (by simpa using hj);rwa [show j0+1+j=j0+(j+1) by omega] at this
  ·cases h2
theorem aiF (R:Rel nm N S a w L) (hH:eI L) (hd:∀d,o.dst=some d→d < N) {x v:Operand} {X V':ax.X} {t:TypeId} {mv:Bool} {n:Nat} (hx:bT nm X x) (hv:bT nm V' v) (hvo:V'.iL=true)
  (ho:o.op = .store t x v) (ht:jP P t=some n) (hn:n≠0) (hr:(bp Cl d (.store mv n X V')).run S=some r):dw P a w o (dR nm N S w L a o.dst r.1 r.2):=by
 simp only [bp] at hr;obtain ⟨p,h1,h2⟩:=Q.aK hr;clear hr;obtain ⟨⟨vv,fe⟩,h3,h4⟩:=Q.aK h2;clear h2;obtain ⟨hg,h5⟩:=Q.en h4;clear h4;simp only [eW] at hg;have rp:=rd_val R hx h1;obtain ⟨L1,O1,V1⟩:=wG (ch.init R) R (hH.free 0) hvo hv h3;dsimp only at V1 O1 hg h5;have qv:∀vs,vv≠.aq vs:=by rintro vs rfl;exact hn (by rw [←hg];rfl)
 have run:∀(B o':Nat),a.eval x = .pointer (some ⟨B,o',none⟩)→(a.eval v).cells.size=n→(∀j,j < n→(w.cell? ⟨B,o'+j,none⟩).isSome=true)→(∀j,j < n→w.frozen? ⟨B,o'+j,none⟩=false)→(∀u∈(a.eval v).cells.toList,u.oneCell'=true)→
   (execOp a.eval o).run P w = .ok .skip (w.setCells B o' (a.eval v).cells.toList):=by
  intro B o' hb hs hc hf h1;have bA:=run_storeCells_cells (P:=P) B o' (a.eval v).cells.toList 0 w (by simpa [hs] using hc) (by simpa [hs] using hf) h1;simp only [jn] at bA;have:(Instr.storeAt t (a.eval x) (a.eval v)).run P w = .ok () (w.setCells B o' (a.eval v).cells.toList):=by
   rw [hb];simp [Instr.storeAt,Instr.sureAddr,storeVar,yB ht,hs,bA]
  simp [execOp,ho,this]
 have aa1:∀(mq:∀c∈vv.cells,c≠.dead),(a.eval v).cells.size=n∧(∀j c,vv.cells[j]? = some c→iS nm w L S.γ w L1 (S.ah fe).γ 0 (0+j) c ((a.eval v).cells.getD (0+j) undef))∧(∀u∈(a.eval v).cells.toList,u.oneCell'=true):=by
  intro mq;obtain ⟨c1,c2⟩:=V1.cells O1.mid.di qv mq;refine ⟨by omega,fun j c hc=>?_,fun u hu=>?_⟩
  ·have hj:j < (a.eval v).cells.size:=by rw [←c1];exact (cA.1 hc).1
   have:=c2 j c _ hc (oj hj);simpa [Array.getD,hj] using this
  ·obtain ⟨j,hj,Qu⟩:=List.mem_iff_getElem.1 hu;have vA:j < (a.eval v).cells.size:=by simpa using hj
   have hcj:j < vv.cells.length:=by omega
   have:=c2 j vv.cells[j] u (by simp) (by rw [oj vA];simpa using Qu);exact (this.rep O1.mid.di).wm (mq _ (bM hcj))
 split at h5
 ·
  rename_i r0 g c;obtain ⟨⟨cs,fA⟩,h6,h7⟩:=Q.aK h5;clear h5;rw [Q.run_bind,u7,Option.bind_some] at h7;obtain ⟨jV,h8⟩:=Q.en h7;clear h7;obtain rfl:=Q.aZ h8;simp only [bK,nJ,eW,fB] at jV;obtain ⟨⟨hG,jW⟩,B9⟩:=jV;have lx:∀c∈vv.cells,c≠.dead:=by
   have aux:∀(l:List C) (ws:List Wr) (c0:Nat) (rr:List C×List Wr),(putCells mv r0 ws c0 l).run S=some rr→∀c∈l,c≠.dead:=by
    intro l;induction l with
    | nil=>intro ws c0 rr _ c hc;simp at hc
    | cons y l ih=>
     intro ws c0 rr h c hc;simp only [putCells] at h;obtain ⟨r1,g1,g2⟩:=Q.aK h;obtain ⟨r2,g3,_⟩:=Q.aK g2;rcases gU.1 hc with rfl | hc
     ·rintro rfl;cases mv<;>simp [Mc,tp,pa,st] at g1
     ·exact ih _ _ _ g3 c hc
   exact aux _ _ _ _ h6
  obtain ⟨hs,Fq,FB⟩:=aa1 lx;obtain ⟨L2,O2,dO,_,R2⟩:=acy (m:=0) vv.cells O1.mid 0 c (fun j=>(a.eval v).cells.getD j undef) Fq h6;have Zm:cs.length=vv.cells.length:=dO;dsimp only at O2 R2 dO;cases rp.cQ with
  | ptr iJ gu hp=>
   obtain ⟨B,o',hB,cr⟩:=hp jW.symm;have pC:=O2.mid.boxes B r0 o' hB;obtain ⟨B',eY,cur,e,fz,k1,k2,k3,k4⟩:=O2.mid.rel.room r0 hG (by omega);obtain rfl:=O2.mid.rel.fE B' B r0 eY o' k1 pC;obtain rfl:eY=o':=by rw [k1] at pC;simpa using pC
   obtain ⟨L3, hR, hM, _, _⟩ := Rel.Wm (m := 0) hG cs (a.eval v).cells.toList 0 c (S := S) (ws := fA) O2.mid.rel pC (by simp; omega) (by omega) (by
     intro j y u hy hu
     have := R2 j y hy
     rw [DW] at hu
     simpa [iB, hu] using this)
   refine .skip (run B' (eY+c) cr hs (fun j hj=>?_) (fun j hj=>?_) FB) (hR.fZ (O2.mid.mono.trans hM) hd (m:=0) (.aq (us:=#[]) rfl rfl (fun i x u h=>by simp at h)))
   ·rw [qZ k2];simp;omega
   ·exact Pq k2 k3 (by omega)
 ·
  rename_i pl g sz i c;obtain ⟨⟨zs,fA⟩,h6,h7⟩:=Q.aK h5;clear h5;obtain ⟨⟨e,x0,rows⟩,h8,h9⟩:=Q.aK h7;clear h7;obtain ⟨rfl,jW,hE,xB⟩:=uF h8;obtain ⟨row,c6,dk⟩:=Q.gx h9;clear h9;obtain ⟨jV,gO⟩:=Q.en dk;clear dk;simp only [fB] at jV;obtain ⟨wN,ur,iH⟩:=Q.gx gO;clear gO;obtain rfl:=Q.aZ iH;have lx:∀c∈vv.cells,c≠.dead:=by
   have aux:∀(l:List C) (ws:List Wr) (c0:Nat) (rr:List D×List Wr),(vo pl i ws c0 l).run S=some rr→∀c∈l,c≠.dead:=by
    intro l;induction l with
    | nil=>intro ws c0 rr _ c hc;simp at hc
    | cons y l ih=>
     intro ws c0 rr h c hc;simp only [vo] at h;obtain ⟨⟨y1,wsy⟩,g1,g2⟩:=Q.aK h;rcases gU.1 hc with rfl | hc
     ·rintro rfl;simp [pa,st] at g1
     ·simp only at g2;split at g2
      ·obtain ⟨r2,g3,_⟩:=Q.aK g2;exact ih _ _ _ g3 c hc
      ·cases g2
   exact aux _ _ _ _ h6
  obtain ⟨hs,Fq,FB⟩:=aa1 lx;obtain ⟨L2,O2,dO,_,R2⟩:=Ys (m:=0) vv.cells O1.mid 0 c (fun j=>(a.eval v).cells.getD j undef) Fq h6;have Zm:zs.length=vv.cells.length:=dO;dsimp only at O2 R2 dO;cases rp.cQ with
  | eD iJ hh gu hp=>
   obtain ⟨B,o',hB,cr⟩:=hp jW;obtain ⟨u0,sN⟩:=O2.mid.Bi hh hE xB;rcases sN.nX with ⟨mw,_⟩ | ⟨B',eY,cap,cur,e',fz,val,_,bf,fh,dD,cU,fO,dN,dI,Ct,dP,ec⟩
   ·rw [mw] at c6;simp at c6
   have qd:=O2.mid.rows B' pl eY hh fh;obtain rfl:=O2.mid.vT B' B pl eY o' qd hB;obtain rfl:eY=o':=by rw [qd] at hB;simpa using hB
   dsimp only at dN fO fh dD Ct xB hE c6 ur;have hi:i < rows.length:=(cA.1 c6).1;have gC:row.length=sz:=fO row (fp c6);have qq:i * sz+sz≤cap * sz:=by
    have:(i+1) * sz≤cap * sz:=p6 _ (by omega);rwa [lN,Nat.one_mul] at this
   obtain ⟨L3, hR, hM, _⟩ := Rel.XQ (m := 0) (sz := sz) (i := i) hh zs (a.eval v).cells.toList 0 c x0 (S0 := S) (ws := fA) (e8 := wN) O2.mid.rel hE ⟨rows, xB⟩ fh (by simp; omega) ur (by
     intro j y u hy hu
     have := R2 j y hy
     rw [DW] at hu
     simpa [iB, hu] using this)
   refine .skip (run B' (eY+i * sz+c) cr hs (fun j hj=>?_) (fun j hj=>?_) FB) (hR.fZ (O2.mid.mono.trans hM) hd (m:=0) (.aq (us:=#[]) rfl rfl (fun i x u h=>by simp at h)))
   ·rw [qZ dD];simp;omega
   ·exact Pq dD cU (by omega)
 ·cases h5
theorem apV {c:C} {k:Key} {j:Nat} {v:Value} {γ:Key→Nat} {rr:C×List Wr} (h:(st ws c).run S=some rr) (hc:c.clean=true):rr.1.clean=true:=by
 cases c with
 | view pl g sz off len=>
  simp only [st] at h;obtain ⟨res,h1,h2⟩:=Q.aK h;obtain ⟨_,h3⟩:=Q.en h2;obtain rfl:=Q.aZ h3;rfl
 | c8=>simp [C.clean] at hc
 | mp=>simp [C.clean] at hc
 | gj=>simp [st] at h
 | eD=>simp [st] at h
 | bt=>simp [st] at h
 | dead=>simp [st] at h
 | _=>simp only [st] at h;obtain rfl:=Q.aZ h;exact hc
theorem I0 (R0:Rel nm N S0 a w0 L0):∀(xs:List ax.X) (ps:List Operand) {ws:List Wr} {L:aw} (M:ch nm N S0 w0 L0 ws a w L) (hp:xs.length=ps.length) (hx:∀(j:Nat) X x,xs[j]? = some X→ps[j]? = some x→bT nm X x∧X.iL=true) {rr:List C×List Wr} (hr:(zq ws xs).run S0=some rr),
  ∃L',Out nm N S0 w0 L0 ws rr.2 a w L L' (fun q=>q.k≠.h 0) 0∧rr.1.length=xs.length∧jo rr.1=true∧∀(j:Nat) c x,rr.1[j]? = some c→ps[j]? = some x→aF nm w L' (S0.ah rr.2).γ (.h 0) 0 c (a.eval x)
 | [],[],ws,L,M,hp,hx,rr,hr=>by
  simp only [zq] at hr;obtain rfl:=Q.aZ hr;exact ⟨L,Out.refl M _ 0,rfl,rfl,fun j c x h=>by simp at h⟩
 | X::xs,x::ps,ws,L,M,hp,hx,rr,hr=>by
  simp only [zq] at hr;obtain ⟨v,h1,h2⟩:=Q.aK hr;clear hr;obtain ⟨hX,PO⟩:=hx 0 X x rfl rfl;have rv:=rd_val R0 hX h1;have aS:=Ml PO h1;split at h2
  ·rename_i c;obtain ⟨⟨c1,fe⟩,h3,h4⟩:=Q.aK h2;clear h2;obtain ⟨⟨cs,fA⟩,h5,h6⟩:=Q.aK h4;clear h4;obtain rfl:=Q.aZ h6;have Y2:c.own=false:=LZ (j:=0) aS rfl;have da:c.clean=true:=rv.cQ.va Y2;obtain ⟨L1,O1,R1⟩:=uP (m:=0) (j:=0) M (iS.Ar M.di rv.cQ Y2) h3;obtain ⟨L2,O2,hl,ajr,R2⟩:=I0 R0 xs ps O1.mid (by simpa using hp) (fun j X x h1 h2=>hx (j+1) X x (by simpa using h1) (by simpa using h2)) h5;have dH:c1.clean=true:=apV (k:=.h 0) (j:=0) (v:=undef) (γ:=S0.γ) h3 da;refine ⟨L2,(O1.weaken (fun q hq h=>hq h.1)).trans O2,by simp [hl],by simp [jo,dH,ajr],?_⟩;intro j y z hj hz;cases j with
   | zero=>
    simp only [kE,aj] at hj hz;subst hj;subst hz;exact R1.rP O2.di dH _ _
   | succ j=>exact R2 j y z (by simpa using hj) (by simpa using hz)
  ·cases h2
 | [],_::_,_,_,_,hp,_,_,_=>by simp at hp
 | _::_,[],_,_,_,hp,_,_,_=>by simp at hp
theorem aiv (R:Rel nm N S a w L) (hH:eI L) (hd:∀d,o.dst=some d→d < N) {cH f:Nat} {first cap:Array Operand} {xs ys:List ax.X} (jI:f < kM) (hf:nm cH=some f) (ZA:xs.length=first.toList.length) (vQ:∀(j:Nat) X x,xs[j]? = some X→first.toList[j]? = some x→bT nm X x∧X.iL=true)
  (vI:ys.length=cap.toList.length) (FL:∀(j:Nat) X x,ys[j]? = some X→cap.toList[j]? = some x→bT nm X x∧X.iL=true) (ho:o.op = .makeFunc (.func cH) first cap)
  (hr:(bp Cl d (.R6 f xs ys)).run S=some r):dw P a w o (dR nm N S w L a o.dst r.1 r.2):=by
 simp only [bp] at hr;obtain ⟨⟨fa,fe⟩,h1,h2⟩:=Q.aK hr;clear hr;obtain ⟨⟨fb,fA⟩,h3,h4⟩:=Q.aK h2;clear h2;obtain rfl:=Q.aZ h4;obtain ⟨L1,O1,jJ,dH,R1⟩:=I0 R xs first.toList (ch.init R) ZA vQ h1;obtain ⟨L2,O2,dO,gB,R2⟩:=I0 R ys cap.toList O1.mid vI FL h3;have Jq:fa.length=xs.length:=jJ;have Zm:fb.length=ys.length:=dO;refine .val (v:=.func (.func cH) (first.map a.eval) (cap.map a.eval)) (w':=w) ?_ (O2.mid.rel.fZ O2.mid.mono hd (m:=0) (.one (.fn jI hf (by simp;simp at ZA;omega) (by simp;simp at vI;omega) ⟨dH,gB⟩ ?_ ?_)))
 ·simp [execOp,ho,Instr.makeFunc]
 ·intro j x u h5 h6;rw [HA] at h6;cases hj:first[j]? with
  | none=>simp [hj] at h6
  | some y=>
   simp only [hj,ff,aj] at h6;subst h6;exact (R1 j x y h5 (by rw [DW];exact hj)).rP O2.di (ko dH h5) _ _
 ·intro j x u h5 h6;rw [HA] at h6;cases hj:cap[j]? with
  | none=>simp [hj] at h6
  | some y=>
   simp only [hj,ff,aj] at h6;subst h6;exact R2 j x y h5 (by rw [DW];exact hj)
end
end
section
section
variable {nm:FuncId→Option Nat} {N:Nat} {S S0:St} {a:Act} {w w0:World} {L L0:aw} {P:Program} {o:Oper} {Cl:bX} {d:Nat} {r:V×List Wr} {ws:List Wr}
theorem ah9 (R:Rel nm N S a w L) (hd:∀d,o.dst=some d→d < N) {t:TypeId} {z1:C} (ho:o.op = .alloc t) (hz:pW P t=some [.cE,z1])
  (hr:(bp Cl d (.NI t [.cE,z1])).run S=some r):dw P a w o (dR nm N S w L a o.dst r.1 r.2):=by
 simp only [bp] at hr;obtain ⟨⟨v,ws0⟩,h1,h2⟩:=Q.aK hr;clear hr;obtain rfl:=Q.aZ h2;obtain ⟨i,z,k1,k2,k3,k4,k5⟩:=AY hz;unfold boxed at h1;rw [Q.run_bind,u7,Option.bind_some] at h1;obtain ⟨hg,h3⟩:=Q.en h1;clear h1;have h4:=Q.aZ h3;simp only [fK] at h4;obtain ⟨rfl,rfl⟩:=h4;have hn:cp ((S.ah []).E (.r (.l d)))=0∨cp ((S.ah []).E (.r (.l d)))=[C.cE,z1].length:=by
  simpa using hg
 obtain ⟨R1,hm,_⟩:=Rel.sY (S:=S) (ws:=[]) (w:=w) R (m:=0) (r:=.l d) (cs:=[.cE,z1]) (vs:=z.cells) (e:=t) rfl (by simp) k3.symm hn
  (fun j x v hx hv=>(k5 j x v hx hv).rep _ _ _ _ _)
 have xJ:z.cells[0]? = some (.pointer none):=by
  have af:0 < z.cells.size:=by rw [k3];simp
  obtain ⟨u,hu⟩:∃u,z.cells[0]? = some u:=⟨_,oj af⟩
  have:=(k5 0 .cE u rfl hu).rep (nm:=fun _=>none) w L (fun _=>0) (.h 0) 0;cases this;exact hu
 have hγ:S.γ (.r (.l d))+1≤(S.ah ({ k:=.b (.l d) 0,v:=.one (.bt t) } :: gf (.l d) 0 [.cE,z1] [{ k:=.r (.l d),v:=fy [C.cE,z1].length }])).γ (.r (.l d)):=by
  simp only [St.ah,gf,St.jS];simp
 have R2:Rel nm N (S.ah ({ k:=.b (.l d) 0,v:=.one (.bt t) } :: gf (.l d) 0 [.cE,z1] [{ k:=.r (.l d),v:=fy [C.cE,z1].length }])) a (w.alloc (.cells z.cells t)) (kI (.l d) [C.cE,z1].length 0 w L):=by
  refine R1.Hx { k:=.b (.l d) 0,v:=.one (.bt t) } _ rfl (fun _ h=>h) (fun _ _ _ _ _ h=>h) (fun _ _ _ h=>h) ?_ (fun B l h=>⟨l,h⟩) R1.eM (fun _ _ _ h=>h);refine ⟨.bt t,rfl,fun _=>⟨?_,?_⟩⟩
  ·simp only [gf,St.ah,St.ij];simp [qW]
  ·exact ⟨w.heap.size,0,z.cells,t,(0,0),.pointer none,y9,oL w _,fun j _=>by simp,xJ,.bt ⟨_,_,rfl⟩ rfl,rfl,rfl,rfl,k3,.inl rfl⟩
 refine .val (v:=.pointer (some ⟨w.heap.size,0,none⟩)) (w':=w.alloc (.cells z.cells t)) ?_ (R2.fZ ((df.refl w L).trans hm) hd (m:=0) (.one (.ptr ⟨_,rfl⟩ hγ (fun _=>⟨_,0,y9,rfl⟩))));have:(Instr.alloc t true (.tuple #[])).run P w = .ok (.pointer (some ⟨w.heap.size,0,none⟩)) (w.alloc (.cells z.cells t)):=by
  simp [Instr.alloc,zeroValue,typeInfo,k1,k2,newVar,newRow]
 simp [execOp,ho,this]
theorem afs {S0:St} {w0:World} {L0:aw} {ws:List Wr} (M:ch nm N S0 w0 L0 ws a w L) {m:Nat} {z1:C} {vs:Array Value} {e:TypeId} (hl:[C.cE,z1].length=vs.size)
  (hx:∀(j:Nat) x v,[C.cE,z1][j]? = some x→vs[j]? = some v→aF nm w L (S0.ah ws).γ (.h m) j x v) {r:V×List Wr} (hr:(boxed d [C.cE,z1] ws).run S0=some r) {dst:Option Nat} (hd:∀d,dst=some d→d < N) :
  dR nm N S0 w0 L0 a dst r.1 ({ k:=.b (.l d) 0,v:=.one (.bt e) } :: r.2) (.pointer (some ⟨w.heap.size,0,none⟩)) (w.alloc (.cells vs e)):=by
 unfold boxed at hr;rw [Q.run_bind,u7,Option.bind_some] at hr;obtain ⟨hg,h2⟩:=Q.en hr;clear hr;obtain rfl:=Q.aZ h2;have hn:cp ((S0.ah ws).E (.r (.l d)))=0∨cp ((S0.ah ws).E (.r (.l d)))=[C.cE,z1].length:=by simpa using hg
 obtain ⟨R1,hm,_⟩:=M.rel.sY (r:=.l d) (cs:=[.cE,z1]) (vs:=vs) (e:=e) rfl (by simp) hl hn hx;have xJ:vs[0]? = some (.pointer none):=by
  have af:0 < vs.size:=by rw [←hl];simp
  obtain ⟨u,hu⟩:∃u,vs[0]? = some u:=⟨_,oj af⟩
  have:=hx 0 .cE u rfl hu;cases this;exact hu
 have hγ:S0.γ (.r (.l d))+1≤(S0.ah ({ k:=.b (.l d) 0,v:=.one (.bt e) } :: gf (.l d) 0 [.cE,z1] ({ k:=.r (.l d),v:=fy [C.cE,z1].length } :: ws))).γ (.r (.l d)):=by
  refine je (je ?_ (Bs S0 (.l d) [.cE,z1] 0 ({ k:=.r (.l d),v:=fy [C.cE,z1].length } :: ws) (.r (.l d))).2.2.2) (St.p7 _ _ _);simp only [St.ah,St.jS,bW];have:=St.wU S0 ws (.r (.l d));simp;exact this
 have uc:cp ((S0.ah (gf (.l d) 0 [.cE,z1] ({ k:=.r (.l d),v:=fy [C.cE,z1].length } :: ws))).E (.r (.l d)))=2:=by
  rw [((Bs S0 (.l d) [.cE,z1] 0 ({ k:=.r (.l d),v:=fy [C.cE,z1].length } :: ws) (.r (.l d))).2.1 (fun c hc e=>by cases e)).1];simp only [St.ah,St.ij,bW,qW];rfl
 have R2:Rel nm N (S0.ah ({ k:=.b (.l d) 0,v:=.one (.bt e) } :: gf (.l d) 0 [.cE,z1] ({ k:=.r (.l d),v:=fy [C.cE,z1].length } :: ws))) a (w.alloc (.cells vs e)) (kI (.l d) [C.cE,z1].length m w L):=by
  refine R1.Hx { k:=.b (.l d) 0,v:=.one (.bt e) } _ rfl (fun _ h=>h) (fun _ _ _ _ _ h=>h) (fun _ _ _ h=>h) ?_ (fun B l h=>⟨l,h⟩) R1.eM (fun _ _ _ h=>h);refine ⟨.bt e,rfl,fun _=>⟨?_,?_⟩⟩
  ·rw [uc];omega
  ·exact ⟨w.heap.size,0,vs,e,(0,0),.pointer none,y9,oL w _,fun j _=>by simp,xJ,.bt ⟨_,_,rfl⟩ rfl,rfl,rfl,rfl,hl.symm,.inl rfl⟩
 exact R2.fZ (M.mono.trans hm) hd (.one (.ptr (k:=.h 0) ⟨_,rfl⟩ hγ (fun _=>⟨_,0,y9,rfl⟩)))
theorem aid (R:Rel nm N S a w L) (hH:eI L) (hd:∀d,o.dst=some d→d < N) {t:TypeId} {n:Nat} {x:Operand} {X:ax.X} (hx:bT nm X x) (aQ:X.iL=true) (ho:o.op = .box t x) (hn:n≠0)
  (hr:(bp Cl d (.N0 t n X)).run S=some r):dw P a w o (dR nm N S w L a o.dst r.1 r.2):=by
 simp only [bp] at hr;obtain ⟨⟨v,fe⟩,h1,h2⟩:=Q.aK hr;clear hr;obtain ⟨⟨cs,fA⟩,h3,h4⟩:=Q.aK h2;clear h2;obtain ⟨hg,h5⟩:=Q.en h4;clear h4;simp only [eW] at hg;obtain ⟨L',O,hl,hc⟩:=L6 (ch.init R) R (m:=0) (fun B q o hB e=>by have:=hH B q o hB;rw [e] at this;simp [Key.aT] at this) hx aQ h1 h3 (by omega);dsimp only at h5;split at h5
 ·rename_i z eE;obtain ⟨⟨r1,wN⟩,h6,h7⟩:=Q.aK h5;clear h5;obtain rfl:=Q.aZ h7;refine .val (v:=.pointer (some ⟨w.heap.size,0,none⟩)) (w':=w.alloc (.cells (a.eval x).cells t)) ?_ (afs O.mid hl hc h6 hd);have:(Instr.box t (a.eval x)).run P w = .ok (.pointer (some ⟨w.heap.size,0,none⟩)) (w.alloc (.cells (a.eval x).cells t)):=by
   simp [Instr.box,newVar,newRow]
  simp [execOp,ho,this]
 ·cases h5
theorem aiC (R:Rel nm N S a w L) (hd:∀d,o.dst=some d→d < N) {x:Operand} {X:ax.X} {t:TypeId} (hx:bT nm X x)
  (ho:o.op = .call ⟨.builtin .unsafeSliceData,#[x],#[t]⟩) (hr:(bp Cl d (.TI X)).run S=some r):dw P a w o (dR nm N S w L a o.dst r.1 r.2):=by
 simp only [bp] at hr;obtain ⟨v,h1,h2⟩:=Q.aK hr;clear hr;have hv:=rd_val R hx h1;split at h2
 ·rename_i pl g sz off len;obtain ⟨hg,h3⟩:=Q.en h2;obtain rfl:=Q.aZ h3;simp only [bK,nJ,eW,oo] at hg;obtain ⟨nR,rfl⟩:=hg;cases hv.cQ with
  | view iJ hh gu hV=>
   obtain ⟨b,cap,q9,hle,hb⟩:=iJ;obtain ⟨ad,rfl⟩:=yS.1 hb;have xo:cap≠0:=by omega
   refine fk R hd (v:=.pointer (some ad)) ?_ (.one (.eD ⟨_,rfl⟩ hh gu ?_))
   ·rw [execOp_builtin ho,show (#[x]:Array Operand).map a.eval = #[a.eval x] from by simp,q9];exact wD (Lib.run_unsafeSliceData_row _ _ _ _ _ _ xo)
   ·intro jW;rcases hV jW with ⟨h0,_⟩ | ⟨B,o',ze,cur,e,fz,oG,_,hL,_⟩
    ·exact absurd h0 nR
    ·rw [q9] at oG;simp only [Value.slice.injEq,aj] at oG;refine ⟨B,o',hL,?_⟩;rw [oG.1];simp
 ·cases h2
theorem anQ {e:TypeId} (hc:P.cellsOf e=1) (count off n:Nat) (hn:off+n≤count):liesAt P P.depth e count off e n=true:=by
 have hd:P.depth=(2 * (P.types.size+Made.depth)+1)+1:=rfl;rw [hd];simp only [liesAt,wS];left;rw [hd];simp [rowAt,hc,hn,sameLayout];exact .inl (Nat.mod_one off)
theorem apx {pt it ty e:TypeId} (hp:P.underlying pt=some (.pointer e)) (hc:P.cellsOf e=1) {B off cells:Nat} (Cq:w.shape? B=some (e,cells)) {n:Nat} {k:IntKind} (h0:n≠0) (hn:off+n≤cells) (h63:n≤9223372036854775807) {s:ByteArray}
  (Fs:(loadBytes ⟨B,off,none⟩ .empty n).run P w = .ok s w) :
  (Builtin.unsafeString_ #[pt,it] ty #[.pointer (some ⟨B,off,none⟩),.int k n]).run P w = .ok (.string s) (w.freeze ⟨B,off,none⟩ n):=by
 have ajM:=anQ (P:=P) hc (cells / P.cellsOf e) off n (by rw [hc];simpa using hn);have aje:¬ (9223372036854775807:Int) < (n:Int):=by omega
 have Jv:IntKind.i64.max=9223372036854775807:=rfl;have ajV:¬ (n:Int) < 0:=by omega
 rw [show Builtin.unsafeString_ #[pt,it] ty #[.pointer (some ⟨B,off,none⟩),.int k n]=(asInt (.int k n) >>= _) from rfl];simp [asInt,asIntOf,Jv,aje,ajV,h0,variablesAt,Cq,elemOf,run_underlying hp,ajM,Fs]
theorem aa3 {B:Nat}:∀(n off:Nat) (acc:ByteArray) (l:List UInt8),l.length=n→(∀i b,l[i]? = some b→∃m,w.cell? ⟨B,off+i,none⟩=some (.int .u8 m)∧b=UInt8.ofNat m.toNat)→
  (loadBytes ⟨B,off,none⟩ acc n).run P w = .ok ⟨acc.data++l.toArray⟩ w
 | 0,off,acc,l,hl,h=>by
  have:l=[]:=pZ.1 hl;subst this;simp [loadBytes]
 | n+1,off,acc,[],hl,h=>by cases hl
 | n+1,off,acc,b::t,hl,h=>by
  obtain ⟨m,h1,rfl⟩:=h 0 b rfl;rw [jn] at h1
  have ih := aa3 (B := B) n (off + 1) (acc.push (UInt8.ofNat m.toNat)) t (by simpa using hl) (fun i b' hb => by
    obtain ⟨m', g1, g2⟩ := h (i + 1) b' (by simpa using hb)
    exact ⟨m', by rw [show off + 1 + i = off + (i + 1) by omega]; exact g1, g2⟩)
  simp only [loadBytes,Sem.run_bind,run_load,h1,Result.andThen];rw [ov];refine Eq.trans ih ?_;congr 1;apply ByteArray.ext;simp [ByteArray.push]
theorem I1 {B off n B':Nat} (h:B'≠B):(w.freeze ⟨B,off,none⟩ n).heap[B']? = w.heap[B']?:=by
 unfold World.freeze;split
 ·rfl
 ·simp only [A0];rw [aB (fun e=>h e.symm)]
theorem ai1 {B off n:Nat} {cur:Array Value} {e:TypeId} {fz:Nat×Nat} (h:w.heap[B]? = some (.cells cur e fz)):∃cur e fz,(w.freeze ⟨B,off,none⟩ n).heap[B]? = some (.cells cur e fz):=by
 unfold World.freeze;split
 ·exact ⟨_,_,_,h⟩
 ·simp only [A0,bW,h,ff];obtain ⟨lo,hi⟩:=fz;simp only;split<;>exact ⟨_,_,_,rfl⟩
theorem aiI (R:Rel nm N S a w L) (hd:∀d,o.dst=some d→d < N) {x y:Operand} {X Y:ax.X} {t u:TypeId} (hx:bT nm X x) (hy:bT nm Y y)
  (ho:o.op = .call ⟨.builtin .unsafeString,#[x,y],#[t,u]⟩) (ht:P.underlying t=some (.pointer 5)) (dH:P.cellsOf 5=1) (hr:(bp Cl d (.Um X Y)).run S=some r):dw P a w o (dR nm N S w L a o.dst r.1 r.2):=by
 simp only [bp] at hr;obtain ⟨v,h1,h2⟩:=Q.aK hr;clear hr;obtain ⟨vn,h3,h4⟩:=Q.aK h2;clear h2;obtain ⟨n,h5,h6⟩:=Q.gx h4;clear h4;have hv:=rd_val R hx h1;obtain ⟨kn,hn⟩:=wY (rd_val R hy h3) h5;split at h6
 ·rename_i pl g sz i c;obtain ⟨⟨e0,x0,rows⟩,h7,h8⟩:=Q.aK h6;clear h6;obtain ⟨rfl,jW,hE,xB⟩:=uF h7;obtain ⟨hg,h9⟩:=Q.en h8;clear h8;obtain ⟨s,hs,dk⟩:=Q.gx h9;clear h9;obtain rfl:=Q.aZ dk;simp only [bK,nJ,eW,oo,fB] at hg;obtain ⟨⟨⟨⟨⟨rfl,rfl⟩,rfl⟩,rfl⟩,nS⟩,Jv⟩:=hg;cases hv.cQ with
  | eD iJ hh gu hp=>
   obtain ⟨B,o',hB,cr⟩:=hp jW;have M:=ch.init R;obtain ⟨u0,sN⟩:=M.Bi hh hE xB;rcases sN.nX with ⟨mw,_⟩ | ⟨B',eY,cap,cur,e',fz,val,_,bf,fh,dD,cU,fO,dN,dI,Ct,dP,ec⟩
   ·dsimp only at mw;subst mw;simp at nS
   obtain rfl:=R.eM B' B pl eY o' fh hB;obtain rfl:eY=o':=by rw [fh] at hB;simpa using hB
   simp only [Vk,jn,uX] at cr dI;dsimp only at hs fh dD fO dN Ct ec nS Jv hn;obtain ⟨hl,hb⟩:=Ug rows hs
   have Qc : e' = 5 := ec (.inl (vY.2 ⟨fun e => nS (by rw [e]; rfl), fun q hq => by
     obtain ⟨i, hi⟩ := uU hq
     obtain ⟨m, g1, g2, _⟩ := hb i (cA.1 hi).1
     rw [hi] at g2
     simp only [aj] at g2
     subst g2
     rfl⟩))
   subst Qc;have Fs:(loadBytes ⟨B',eY,none⟩ .empty rows.length).run P w = .ok ⟨s.toArray⟩ w:=by
    have := aa3 (P := P) (w := w) (B := B') rows.length eY .empty s hl.symm (fun i b qf => by
      have hi : i < rows.length := by rw [hl]; exact (cA.1 qf).1
      obtain ⟨m, g1, g2, g3⟩ := hb i hi
      refine ⟨m, ?_, by rw [qf] at g3; simpa using g3⟩
      rw [qZ dD]
      have h := Ct i 0 _ g1
      have h2 := dP i 0 _ g1
      rw [uX, jn] at h
      rw [h]
      generalize val i 0 = vv at h2
      cases h2 with
      | plain h2 => cases h2; rfl)
    simpa using this
   have iU:=apx (P:=P) (w:=w) (ty:=o.type) (it:=u) (k:=kn) ht dH (B:=B') (off:=eY) (cells:=cur.size) (by simp [World.shape?,dD]) nS (by omega) (by omega) Fs;have O:=M.EZ (m:=0) (j:=0) hh (kz true rows.length) hE xB;have oI:cI (jf pl 0 0 (kz true rows.length)) L B'=some (.row ⟨.h 0,0,[]⟩ eY):=by
    have:=gL fh (Is (m:=0) (j:=0) (jN:=kz true rows.length) (bE.refl pl) (by rw [AF];rfl));rwa [AF] at this
   have PJ:Rel nm N (S.ah (nA [] pl.k (sR ((S.ah []).E pl.k) pl x0))) a (w.freeze ⟨B',eY,none⟩ rows.length) (cI (jf pl 0 0 (kz true rows.length)) L):=by
    refine O.mid.rel.I7 ?_ ?_ O.mid.rel.eM O.mid.rel.fE
    ·intro B2 l dO cL;refine ⟨I1 (fun e=>?_),dO⟩;rw [e,oI] at dO;simp only [aj] at dO;have:=cL _ _ dO.symm;simp [Key.aT] at this
    ·intro B2 l dO;by_cases he:B2=B'
     ·subst he;obtain ⟨_,_,_,h3⟩:=ai1 (off:=eY) (n:=rows.length) dD;exact (lL.1 h3).1
     ·exact xq (O.mid.rel.ft B2 l dO) (I1 he)
   have hM:df w (w.freeze ⟨B',eY,none⟩ rows.length) (cI (jf pl 0 0 (kz true rows.length)) L) (cI (jf pl 0 0 (kz true rows.length)) L):=by
    refine ⟨?_,?_,?_,?_,fun B2 oK=>⟨oK,I1 (fun e=>by rw [e,oI] at oK;cases oK)⟩,fun B2 _ oK=>⟨oK,I1 (fun e=>by rw [e,oI] at oK;cases oK)⟩,fun _ _ _ h=>h⟩<;>
     (unfold World.freeze;split<;>simp)
   refine .val (v:=.string ⟨s.toArray⟩) (w':=w.freeze ⟨B',eY,none⟩ rows.length) ?_ (PJ.fZ (O.mid.mono.trans hM) hd (m:=0) (.one (.d (.plain .str))));rw [execOp_builtin ho,show (#[x,y]:Array Operand).map a.eval = #[a.eval x,a.eval y] from by simp,cr,hn];exact wD iU
 ·cases h6
end
end
section
section
variable {nm:FuncId→Option Nat} {N:Nat} {S S0:St} {a:Act} {w w0:World} {L L0:aw} {P:Program} {o:Oper} {Cl:bX} {d:Nat} {r:V×List Wr} {ws:List Wr}
abbrev GD (i:Nat):Place:=⟨.b (.g i) 0,0,[]⟩
theorem Rel.ajb (h:Rel nm N S a w L) (i:Nat) (hn:cp (S.E (.r (.g i)))≤1):Rel nm N (S.wr { k:=.r (.g i),v:=fy 1 }) a w L:=by
 have bA:Step w w L L S.γ (S.wr { k:=.r (.g i),v:=fy 1 }).γ:=
  ⟨fun B hB=>⟨hB,rfl⟩,St.p7 S _,fun B q o _ _ hB=>⟨hB,fun cur e fz h=>⟨cur,h,rfl⟩⟩,fun _ _ _ _ _ _ _=>rfl,fun B r o _ hB=>hB⟩
 have hE:∀k,k≠.r (.g i)→(S.wr { k:=.r (.g i),v:=fy 1 }).E k=S.E k:=fun k hk=>by rw [St.ij];simp [Ne.symm hk]
 refine ⟨h.size,h.defers,fun j=>?_,fun r c x hx hd=>?_,fun r c=>?_,fun r c hc=>?_,fun r hg hr=>?_,h.ft,h.eM,h.fE⟩
 ·rw [hE _ (by simp)];exact (h.slot j).step bA (fun B q o hq hB=>by rw [←hq,Place.mh];exact ⟨hB,rfl⟩)
 ·rw [hE _ (by simp)] at hx;exact (h.cell r c x hx hd).step bA (fun B q o _ hB=>⟨hB,rfl⟩) (fun B o hB=>⟨hB,fun cur e fz hc=>⟨cur,hc,rfl,rfl⟩⟩)
 ·rw [hE _ (by simp)];exact h.kg r c
 ·rw [hE (.b r c) (by simp)];by_cases he:r = .g i
  ·subst he;rw [St.ij] at hc;simp only [bW,qW] at hc;exact h.bound _ c (by omega)
  ·rw [hE _ (by simpa using he)] at hc;exact h.bound r c hc
 ·have he:r≠.g i:=by rintro rfl;cases hg
  rw [hE _ (by simpa using he)] at hr ⊢;exact h.room r hg hr
def oT (n i:Nat) (L:aw):aw:=fun B=>if B=n then some (.row (GD i) 0) else match L B with
 | some (.row q o)=>if q.k = .b (.g i) 0 then none else some (.row q o)
 | x=>x
theorem Am {n i B:Nat} {l:bS} (h:oT n i L B=some l) (hn:B≠n):L B=some l∧∀q o,l = .row q o→q.k≠.b (.g i) 0:=by
 unfold oT at h;rw [aB hn] at h;split at h
 ·rename_i q o hq;split at h
  ·cases h
  ·rename_i hk;cases h;exact ⟨hq,fun q' o' e=>by cases e;exact hk⟩
 ·rename_i hx;exact ⟨h,fun q o e=>absurd (e▸h) (hx q o)⟩
theorem abh {n i B:Nat} {q:Place} {o':Nat} (h:L B=some (.row q o')) (hn:B≠n) (hk:q.k≠.b (.g i) 0):oT n i L B=some (.row q o'):=by
 unfold oT;rw [aB hn,h];simp [hk]
theorem RZ {n i B:Nat} {q:aI} {o':Nat} (h:L B=some (.box q o')) (hn:B≠n):oT n i L B=some (.box q o'):=by
 unfold oT;rw [aB hn,h]
theorem abg {n i B:Nat} (h:L B=some .bh) (hn:B≠n):oT n i L B=some .bh:=by
 unfold oT;rw [aB hn,h]
theorem anW {n i B:Nat} (h:L B=none) (hn:B≠n):oT n i L B=none:=by
 unfold oT;rw [aB hn,h]
theorem Rel.anX (h:Rel nm N S a w L) (i:Nat) (hn:0 < cp (S.E (.r (.g i)))) :
  Rel nm N (S.wr { k:=.b (.g i) 0,v:=.one (.mp (.sl (.im false) 2 [])) }) a (w.alloc (.map #[] 0)) (oT w.heap.size i L)∧df w (w.alloc (.map #[] 0)) L (oT w.heap.size i L):=by
 have af:∀{B l},L B=some l→B≠w.heap.size:=fun {B l} hB=>Nat.ne_of_lt (h.ft B l hB)
 have ek:∀{B l},L B=some l→(w.alloc (.map #[] 0)).heap[B]? = w.heap[B]?:=fun hB=>nk w _ (af hB)
 have hz:(w.alloc (.map #[] 0)).heap.size=w.heap.size+1:=by simp
 have zU:oT w.heap.size i L w.heap.size=some (.row (GD i) 0):=by unfold oT;rw [aJ rfl]
 refine ⟨h.write _ rfl h.defers (fun _ _ => rfl) ⟨fun B hB => ⟨abg hB (af hB), ek hB⟩, St.p7 S _, ?_, fun B q o _ _ _ hB => ek hB, fun B r o _ hB => RZ hB (af hB)⟩
   (fun B q o hk _ hB => ⟨abh hB (af hB) hk, ek hB⟩) (fun B r o _ hB => ⟨RZ hB (af hB), fun cur e fz hc => ⟨cur, (ek hB).trans hc, rfl, fun _ _ => rfl⟩⟩) ?_ ?_ ?_ ?_, ?_⟩
 ·intro B q o hq hγ hB;refine ⟨abh hB (af hB) (fun e=>?_),fun cur e fz hc=>⟨cur,(ek hB).trans hc,rfl⟩⟩;rw [St.jS,e] at hγ;simp at hγ
 ·exact ⟨_,rfl,fun _=>⟨hn,.map (some w.heap.size),.mp ⟨w.heap.size,#[],0,rfl,zU,oL w _,false,[],[],rfl,rfl,rfl⟩⟩⟩
 ·intro B l hB;rw [hz];by_cases he:B=w.heap.size
  ·omega
  ·exact Nat.lt_succ_of_lt (h.ft B l (Am hB he).1)
 ·intro B B' pl o o' h1 h2;by_cases he:B=w.heap.size
  ·by_cases cZ:B'=w.heap.size
   ·rw [he,cZ]
   ·rw [he,zU] at h1;simp only [aj,bS.row.injEq] at h1;exact absurd (by rw [←h1.1]) ((Am h2 cZ).2 _ _ rfl)
  ·by_cases cZ:B'=w.heap.size
   ·rw [cZ,zU] at h2;simp only [aj,bS.row.injEq] at h2;exact absurd (by rw [←h2.1]) ((Am h1 he).2 _ _ rfl)
   ·exact h.eM B B' pl o o' (Am h1 he).1 (Am h2 cZ).1
 ·intro B B' q o o' h1 h2;by_cases he:B=w.heap.size
  ·rw [he,zU] at h1;cases h1
  ·by_cases cZ:B'=w.heap.size
   ·rw [cZ,zU] at h2;cases h2
   ·exact h.fE B B' q o o' (Am h1 he).1 (Am h2 cZ).1
 ·exact ⟨rfl,rfl,rfl,by rw [hz];omega,fun B hB=>⟨abg hB (af hB),ek hB⟩,fun B hl hB=>⟨anW hB (by omega),nk w _ (by omega)⟩,fun B j o hB=>RZ hB (af hB)⟩
theorem aix (R:Rel nm N S a w L) (hd:∀d,o.dst=some d→d < N) {t:TypeId} (ho:o.op = .makeMap t none) (hr:(bp Cl d .R8).run S=some r):dw P a w o (dR nm N S w L a o.dst r.1 r.2):=by
 simp only [bp] at hr;obtain ⟨hg,h1⟩:=Q.en (Q.ny (Q.ny hr));obtain rfl:=Q.aZ h1;have R1:=R.ajb d (by simpa [St.E] using hg);obtain ⟨R2,hm⟩:=R1.anX d (by rw [St.ij];simp [qW])
 refine .val (v := .map (some w.heap.size)) (w' := w.alloc (.map #[] 0)) ?_ (Rel.fZ (ws := [{ k := .b (.g d) 0, v := .one (.mp (.sl (.im false) 2 [])) }, { k := .r (.g d), v := fy 1 }]) R2 hm hd (m := 0)
   (.one (.gj ⟨_, rfl⟩ ?_ (fun _ => ⟨w.heap.size, by unfold oT; rw [aJ rfl], rfl⟩))))
 ·have:(Instr.makeMap t none).run P w = .ok (.map (some w.heap.size)) (w.alloc (.map #[] 0)):=by
   simp [Instr.makeMap,newObj];rfl
  simp [execOp,ho,this]
 ·simp only [St.ah,St.jS];simp [St.γ]
theorem Rel.anY (h:Rel nm N S a w L) {i B:Nat} {es xi:Array MapEntry} {ck xb:Nat} {x':D} {w':World} (hL:L B=some (.row (GD i) 0)) (hB:w.heap[B]? = some (.map es ck)) (hb:0 < cp (S.E (.r (.g i)))) (hx:HR x' xi)
  (zV:w'.heap[B]? = some (.map xi xb)) (ho:∀B',B'≠B→w'.heap[B']? = w.heap[B']?) (bf:w.heap.size≤w'.heap.size) (xy:w'.os=w.os∧w'.tape=w.tape∧w'.output=w.output) :
  Rel nm N (S.ah [{ k:=.b (.g i) 0,v:=.one (.mp x'),keep:=true },{ k:=.a (.b (.g i) 0),v:=V.dead }]) a w' L∧df w w' L L:=by
 have aA:∀{B' l},L B'=some l→l≠.row (GD i) 0→w'.heap[B']? = w.heap[B']?:=by
  intro B' l hl hn;refine ho B' (fun e=>?_);rw [e,hL] at hl;exact hn (by simpa using hl.symm)
 have hE:∀k,(∀k',k≠.a k')→k≠.b (.g i) 0→(S.ah [{ k:=.b (.g i) 0,v:=.one (.mp x'),keep:=true },{ k:=.a (.b (.g i) 0),v:=V.dead }]).E k=S.E k:=by
  intro k h1 h2;simp only [St.ah,St.ij];rw [aB (Ne.symm h2),aB (Ne.symm (h1 _))]
 have YO:(S.ah [{ k:=.b (.g i) 0,v:=.one (.mp x'),keep:=true },{ k:=.a (.b (.g i) 0),v:=V.dead }]).E (.b (.g i) 0) = .one (.mp x'):=by
  simp only [St.ah,St.ij,bW]
 have hγ:∀k,(S.ah [{ k:=.b (.g i) 0,v:=.one (.mp x'),keep:=true },{ k:=.a (.b (.g i) 0),v:=V.dead }]).γ k=if k = .a (.b (.g i) 0) then S.γ k+1 else S.γ k:=by
  intro k;simp only [St.ah,St.jS];by_cases h1:Key.b (.g i) 0=k
  ·subst h1;simp
  ·by_cases h2:k = .a (.b (.g i) 0)
   ·subst h2;simp
   ·simp [h1,h2,Ne.symm h2]
 generalize St.ah S [{ k:=.b (.g i) 0,v:=.one (.mp x'),keep:=true },{ k:=.a (.b (.g i) 0),v:=V.dead }]=S' at *;have bA:Step w w' L L S.γ S'.γ:=by
  refine ⟨fun B' dD=>⟨dD,aA dD (by simp)⟩,fun k=>?_,?_,?_,fun _ _ _ _ dD=>dD⟩
  ·rw [hγ];split<;>omega
  ·intro B' q o hq _ hl;refine ⟨hl,fun cur e fz hc=>?_⟩;by_cases he:B'=B
   ·rw [he,hB] at hc;cases hc
   ·exact ⟨cur,(ho B' he).trans hc,rfl⟩
  ·intro B' q o hq _ Cw hl;refine aA hl (fun e=>?_);simp only [bS.row.injEq] at e;rw [hγ,e.1,aJ rfl] at Cw;omega
 have lA:∀{B' q o},q.k≠.b (.g i) 0→L B'=some (.row q o)→w'.heap[B']? = w.heap[B']?:=fun hq hl=>aA hl (fun e=>by simp only [bS.row.injEq] at e;exact hq (by rw [e.1]))
 refine ⟨⟨h.size,h.defers,fun j=>?_,fun r c y hy jh=>?_,fun r c=>?_,fun r c hc=>?_,fun r hg hr=>?_,fun B' l hl=>?_,h.eM,h.fE⟩,?_⟩
 ·rw [hE _ (by simp) (by simp)];exact (h.slot j).step bA (fun B' q o hq hl=>by rw [←hq,Place.mh];exact ⟨hl,lA (by rw [hq];simp) hl⟩)
 ·by_cases he:Key.b r c = .b (.g i) 0
  ·rw [he,YO] at hy;cases hy;simp only [Key.b.injEq] at he;obtain ⟨rfl,rfl⟩:=he;exact ⟨.map (some B),.mp ⟨B,xi,xb,rfl,hL,zV,hx⟩⟩
  ·rw [hE _ (by simp) he] at hy;exact (h.cell r c y hy jh).step bA (fun B' q o hq hl=>⟨hl,lA (by rw [hq];exact he) hl⟩) (fun B' o hl=>⟨hl,fun cur e fz hc=>⟨cur,(aA hl (by simp)).trans hc,rfl,rfl⟩⟩)
 ·by_cases he:Key.b r c = .b (.g i) 0
  ·rw [he,YO];exact ⟨_,rfl⟩
  ·rw [hE _ (by simp) he];exact h.kg r c
 ·rw [hE (.r r) (by simp) (by simp)] at hc;by_cases he:Key.b r c = .b (.g i) 0
  ·simp only [Key.b.injEq] at he;obtain ⟨rfl,rfl⟩:=he;omega
  ·rw [hE _ (by simp) he];exact h.bound r c hc
 ·rw [hE (.r r) (by simp) (by simp)] at hr ⊢;obtain ⟨B',o,cur,e,fz,h1,h2,h3,h4⟩:=h.room r hg hr;exact ⟨B',o,cur,e,fz,h1,(aA h1 (by simp)).trans h2,h3,h4⟩
 ·exact HL (h.ft B' l hl) bf
 ·exact ⟨xy.1,xy.2.1,xy.2.2,bf,fun B' dD=>⟨dD,aA dD (by simp)⟩,fun B' _ hl=>⟨hl,ho B' (fun e=>by rw [e,hL] at hl;cases hl)⟩,fun _ _ _ hl=>hl⟩
theorem Rel.abf (R:Rel nm N S a w L) {i g:Nat} {k:Key} {j:Nat} {v:Value} {x:D} (hv:aF nm w L S.γ k j (.gj i g) v) (hE:(S.get (.b (.g i) 0)).v = .one (.mp x)) (hg:(S.get (.b (.g i) 0)).g=g) :
  ∃B es ck,v = .map (some B)∧L B=some (.row (GD i) 0)∧w.heap[B]? = some (.map es ck)∧HR x es∧0 < cp (S.E (.r (.g i))):=by
 cases hv with
 | gj iJ gu h=>
  obtain ⟨B,h1,h2⟩:=h hg.symm;obtain ⟨u,hu⟩:=R.cell (.g i) 0 (.mp x) hE (by simp);cases hu with
  | mp h3=>
   obtain ⟨B',es,ck,_,g1,g2,g3⟩:=h3;have PY:=R.eM B B' _ _ _ h1 g1;subst PY;refine ⟨B,es,ck,h2,h1,g2,g3,?_⟩;rcases Nn (cp (S.E (.r (.g i)))) with h0 | h0
   ·have:=R.bound (.g i) 0 (by omega);unfold St.E at this;rw [hE] at this;cases this
   ·exact h0
theorem Z6 {t:Option TypeDesc} (h:FP t=true):t=some .string:=by
 unfold FP at h;split at h
 ·rfl
 ·cases h
theorem arf {e:TypeId} (h:M8 P e=true):∃i,P.info? e=some i∧i.zero=some (.bool false):=by
 unfold M8 at h;split at h
 ·rename_i i hi;split at h
  ·exact ⟨i,hi,by assumption⟩
  ·cases h
 ·cases h
theorem V7 {s t:List UInt8}:((⟨s.toArray⟩:ByteArray)==⟨t.toArray⟩)=(s==t):=by
 show (s.toArray==t.toArray)=_;simp
theorem Pn {s:List UInt8}:∀(l:List (List UInt8×Bool)) (es:List MapEntry) (n:Nat),es.map (fun e=>(e.key,e.val))=l.map (fun p=>(Value.string ⟨p.1.toArray⟩,Value.bool p.2))→
  ∃ x, Instr.findNow .string (.string ⟨s.toArray⟩) es n = some x ∧ (match x with
    | some (m, v) => n ≤ m ∧ v = .bool (qC (l.map fun p => [.str p.1, .bool p.2]) s) ∧ m - n < l.length ∧ (∃ e, es[m - n]? = some e ∧ e.key = .string ⟨s.toArray⟩) ∧
        ∀ b, qD (l.map fun p => [.str p.1, .bool p.2]) s b = (l.set (m - n) (s, b)).map fun p => [.str p.1, .bool p.2]
    | none => qC (l.map fun p => [.str p.1, .bool p.2]) s = false ∧ ∀ b, qD (l.map fun p => [.str p.1, .bool p.2]) s b = (l ++ [(s, b)]).map fun p => [.str p.1, .bool p.2])
 | [],es,n,h=>by
  have:es=[]:=by simpa using h
  subst this;exact ⟨none,rfl,rfl,fun b=>rfl⟩
 | p::l,es,n,h=>by
  cases es with
  | nil=>cases h
  | cons e es=>
   simp only [fY,qR,fK] at h;obtain ⟨⟨h1,h2⟩,h3⟩:=h;have ajX:Instr.findNow .string (.string ⟨s.toArray⟩) (e::es) n=if (s==p.1)=true then some (some (n,e.val)) else Instr.findNow .string (.string ⟨s.toArray⟩) es (n+1):=by
    simp only [Instr.findNow,h1,Instr.sameNow,V7];cases hb:s==p.1<;>rfl
   rw [ajX];by_cases he:s=p.1
   ·subst he;refine ⟨some (n,e.val),by simp,bV n,by rw [h2];simp [qC],by simp,⟨e,by simp,h1⟩,fun b=>by simp [qD]⟩
   ·have PZ:(s==p.1)=false:=oo.2 he;obtain ⟨x,g1,g2⟩:=Pn (s:=s) l es (n+1) h3;refine ⟨x,by simp [PZ,g1],?_⟩;have hg:qC ([D.str p.1,D.bool p.2]::l.map fun p=>[.str p.1,.bool p.2]) s=qC (l.map fun p=>[.str p.1,.bool p.2]) s:=by simp [qC,PZ]
    have hp:∀b,qD ([D.str p.1,D.bool p.2]::l.map fun p=>[.str p.1,.bool p.2]) s b=[D.str p.1,D.bool p.2]::qD (l.map fun p=>[.str p.1,.bool p.2]) s b:=fun b=>by simp [qD,PZ]
    simp only [fY];cases x with
    | none=>
     obtain ⟨k1,k2⟩:=g2;exact ⟨by rw [hg];exact k1,fun b=>by rw [hp,k2];rfl⟩
    | some y=>
     obtain ⟨m,v⟩:=y;obtain ⟨k1,k2,k3,⟨e',k4,k5⟩,k6⟩:=g2;have hm:m - n=(m - (n+1))+1:=by omega
     refine ⟨by omega,by rw [hg];exact k2,by simp only [fX];omega,⟨e',by rw [hm];simpa using k4,k5⟩,fun b=>?_⟩;rw [hp,k6,hm];rfl
theorem an1 {t:TypeId} {P:Program} {w:World} {b:Bool} {s:ByteArray} (n:Nat) (h:P.underlying t=some .string):(Instr.checkKey b (n+1) t (.string s)).run P w = .ok () w:=by
 simp [Instr.checkKey,run_underlying h]
theorem Lx {t:TypeId} {P:Program} {w:World} {b:Bool} {s:ByteArray} (h:P.underlying t=some .string):(Instr.checkKey b 10000 t (.string s)).run P w = .ok () w:=an1 9999 h
theorem ait (R:Rel nm N S a w L) (hd:∀d,o.dst=some d→d < N) {x y:Operand} {X Y:ax.X} {t kt e:TypeId} (hx:bT nm X x) (hy:bT nm Y y) (ho:o.op = .lookup t x y false)
  (ht:P.underlying t=some (.map kt e)) (hk:P.underlying kt=some .string) (hz:M8 P e=true) (hr:(bp Cl d (.R5 X Y)).run S=some r):dw P a w o (dR nm N S w L a o.dst r.1 r.2):=by
 simp only [bp] at hr;obtain ⟨v,h1,h2⟩:=Q.aK hr;obtain ⟨u,h3,h4⟩:=Q.aK h2;have hv:=rd_val R hx h1;have hu:=rd_val R hy h3;clear hr h2;split at h4
 ·rename_i i g s;have h5:=Q.ny h4;split at h5
  ·rename_i tg sz rows hE;obtain ⟨hg,h6⟩:=Q.en h5;obtain rfl:=Q.aZ h6;obtain ⟨B,es,ck,g1,g2,g3,⟨tb,uI,l,g4,g5,g6⟩,g7⟩:=R.abf hv.cQ hE (by simpa using hg);simp only [D.sl.injEq] at g4;obtain ⟨_,_,rfl⟩:=g4;subst g5;have hs:=hu.cQ.rQ;obtain ⟨f,k1,k2⟩:=Pn (s:=s) l es.toList 0 g6;have Fc:(Instr.findKey kt (.string ⟨s.toArray⟩) es.toList).run P w = .ok f w:=by
    simp [Instr.findKey,run_underlying hk,k1]
   refine fk R hd (v:=.bool (qC (l.map fun p=>[.str p.1,.bool p.2]) s)) ?_ (.one (.d (.plain .bool)));have:(Instr.lookup t (a.eval x) (a.eval y) false).run P w = .ok (.bool (qC (l.map fun p=>[.str p.1,.bool p.2]) s)) w:=by
    rw [g1,hs];simp only [Instr.lookup];cases f with
    | some f=>
     obtain ⟨m,fv⟩:=f;simp only at k2;simp [run_underlying ht,getObj,Sem.run,g3,Lx hk,Fc,k2.2.1]
    | none=>
     simp only at k2;obtain ⟨i,hi,Q7⟩:=arf hz;simp [run_underlying ht,getObj,Sem.run,g3,Lx hk,Fc,k2.1,zeroValue,typeInfo,hi,Q7]
   simp [execOp,ho,this]
  ·cases h5
 ·cases h4
theorem abk {α β:Type} {f:α→α} {g:α→β} {y:β}:∀(l:List α) (i:Nat),(∀x,g (f x)=y)→(l.modify i f).map g=(l.map g).set i y
 | [],i,h=>by simp
 | x::l,0,h=>by simp [h]
 | x::l,i+1,h=>by simp [abk l i h]
theorem aiz (R:Rel nm N S a w L) (hd:∀d,o.dst=some d→d < N) {x y z:Operand} {X Y Z:ax.X} {t kt e:TypeId} (hx:bT nm X x) (hy:bT nm Y y) (hz:bT nm Z z) (ho:o.op = .mapUpdate t x y z)
  (ht:P.underlying t=some (.map kt e)) (hk:P.underlying kt=some .string) (hr:(bp Cl d (.Sb X Y Z)).run S=some r):dw P a w o (dR nm N S w L a o.dst r.1 r.2):=by
 simp only [bp] at hr;obtain ⟨v,h1,h2⟩:=Q.aK hr;obtain ⟨u,h3,h4⟩:=Q.aK h2;obtain ⟨q,h5,h6⟩:=Q.aK h4;have hv:=rd_val R hx h1;have hu:=rd_val R hy h3;have hq:=rd_val R hz h5;clear hr h2 h4;split at h6
 ·rename_i i g s b;have h7:=Q.ny h6;split at h7
  ·rename_i tg sz rows hE;obtain ⟨hg,h8⟩:=Q.en h7;obtain rfl:=Q.aZ h8;obtain ⟨B,es,ck,g1,g2,g3,⟨tb,uI,l,g4,g5,g6⟩,g7⟩:=R.abf hv.cQ hE (by simpa using hg);simp only [D.sl.injEq] at g4;obtain ⟨_,_,rfl⟩:=g4;subst g5;have hs:=hu.cQ.rQ;have hb:=aF.sj hq.cQ;obtain ⟨f,k1,k2⟩:=Pn (s:=s) l es.toList 0 g6;have Fc:(Instr.findKey kt (.string ⟨s.toArray⟩) es.toList).run P w = .ok f w:=by
    simp [Instr.findKey,run_underlying hk,k1]
   have ajg:B < w.heap.size:=(lL.1 g3).1;have fin:∀xi xb,HR (.sl (.im false) 2 (qD (l.map fun p=>[.str p.1,.bool p.2]) s b)) xi→
     (Instr.mapUpdate t (a.eval x) (a.eval y) (a.eval z)).run P w = .ok () { w with heap:=w.heap.setIfInBounds B (.map xi xb) }→
     dw P a w o (dR nm N S w L a o.dst (.aq []) [{ k:=.b (.g i) 0,v:=.one (.mp (.sl (.im false) 2 (qD (l.map fun p=>[.str p.1,.bool p.2]) s b))),keep:=true },{ k:=.a (.b (.g i) 0),v:=V.dead }]):=by
    intro xi xb hm iU;obtain ⟨R',Zq⟩:=R.anY (w':={ w with heap:=w.heap.setIfInBounds B (.map xi xb) }) (xb:=xb) g2 g3 g7 hm (by simp [ajg]) (fun B' aA=>by simp [wR,Ne.symm aA]) (by simp) ⟨rfl,rfl,rfl⟩;refine .skip ?_ (R'.fZ Zq hd (m:=0) (.aq (us:=#[]) rfl rfl (fun i x u h=>by simp at h)));simp [execOp,ho,iU]
   cases f with
   | some f=>
    obtain ⟨m,fv⟩:=f;simp only [A6] at k2;obtain ⟨k3,k4,k5,⟨e',k6,k7⟩,k8⟩:=k2;have k6':es[m]? = some e':=by simpa using k6
    refine fin (es.modify m fun e=>{ e with key:=.string ⟨s.toArray⟩,val:=.bool b }) ck ⟨false,_,_,rfl,k8 b,?_⟩ ?_
    ·rw [Array.toList_modify,abk (g:=fun e:MapEntry=>(e.key,e.val)) (y:=(Value.string ⟨s.toArray⟩,Value.bool b)) _ _ (fun _=>rfl),g6,A3]
    ·have aj':(Instr.keyThatStays (.string ⟨s.toArray⟩) (.string ⟨s.toArray⟩)).run P w = .ok (.string ⟨s.toArray⟩) w:=by
      simp [Instr.keyThatStays,Instr.sameBits,V7]
     rw [g1,hs,hb];simp [Instr.mapUpdate,run_underlying ht,getObj,setObj,Sem.run,g3,Lx hk,Fc,k6',k7,aj']
   | none=>
    simp only at k2;refine fin (es.push { key:=.string ⟨s.toArray⟩,val:=.bool b,born:=ck }) (ck+1) ⟨false,_,_,rfl,k2.2 b,?_⟩ ?_
    ·simp [g6]
    ·rw [g1,hs,hb];simp [Instr.mapUpdate,run_underlying ht,getObj,setObj,Sem.run,g3,Lx hk,Fc]
  ·cases h7
 ·cases h6
end
end
section
section
variable {nm:FuncId→Option Nat} {N:Nat} {S S0:St} {a:Act} {w w0:World} {L L0:aw} {P:Program} {o:Oper} {Cl:bX} {d:Nat} {r:V×List Wr} {ws:List Wr}
theorem Yo:∀(vs:List (Nat×Value)) (cells:Array Value) (k:Nat),(∀(j:Nat) p,vs[j]? = some p→p.1=k+j∧p.2.cells = #[p.2])→k+vs.length=cells.size→
  ∃Iu,Instr.fill (fun i=>some (i * 1,1)) cells vs=some Iu∧Iu.size=cells.size∧(∀i,i < k→Iu[i]? = cells[i]?)∧∀(j:Nat) p,vs[j]? = some p→Iu[k+j]? = some p.2
 | [],cells,k,_,_=>⟨cells,rfl,rfl,fun i _=>rfl,fun j p h=>by simp at h⟩
 | (i,v)::t,cells,k,h,hl=>by
  obtain ⟨h1,h2⟩:=h 0 (i,v) rfl;simp only [jn] at h1;subst h1;simp only [fX] at hl;have h2:v.cells = #[v]:=h2
  obtain ⟨c', g1, g2, g3, g4⟩ := Yo t (cells.setIfInBounds (i * 1 + 0) v) (i + 1) (fun j p hj => by
    obtain ⟨q1, q2⟩ := h (j + 1) p (by simpa using hj)
    exact ⟨by omega, q2⟩) (by simp; omega)
  refine ⟨c',?_,by rw [g2];simp,fun j hj=>?_,fun j p hj=>?_⟩
  ·simp only [Instr.fill,h2];rw [aB (by simp;omega)];simpa using g1
  ·rw [g3 j (by omega),yJ (by omega)]
  ·cases j with
   | zero=>
    simp only [kE,aj] at hj;subst hj;rw [jn,g3 i (by omega),uX,jn,Array.getElem?_setIfInBounds_self_of_lt (by omega)]
   | succ j=>
    have:=g4 j p (by simpa using hj);rw [←this];congr 1;omega
theorem XS:∀{ps:List (Nat×ax.X)} {qs:List (Nat×Operand)},A8 nm ps qs→ps.length=qs.length∧∀(j:Nat) X x,ps[j]? = some X→qs[j]? = some x→X.1=x.1∧bT nm X.2 x.2∧X.2.iL=true
 | [],[],_=>⟨rfl,fun j X x h=>by simp at h⟩
 | (i,X)::t,(i',x)::t',h=>by
  obtain ⟨h1,h2,h3,h4⟩:=h;obtain ⟨g1,g2⟩:=XS h4;refine ⟨by simp [g1],fun j Y y hY hy=>?_⟩;cases j with
  | zero=>
   simp only [kE,aj] at hY hy;subst hY;subst hy;exact ⟨h1,h2,h3⟩
  | succ j=>exact g2 j Y y (by simpa using hY) (by simpa using hy)
 | [],_::_,h=>h.elim
 | (_,_)::_,[],h=>h.elim
theorem akj {γ:Key→Nat} {k:Key} {j:Nat} {c:C} {v:Value} (h:aF nm w L γ k j c v) (hf:c.Z4=true):v.cells = #[v]:=by
 cases h with
 | fn=>rfl
 | fns val hf'=>
  have:=JO hf;rcases hf' with ⟨h,_⟩ | ⟨h,_⟩<;>exact absurd this (by omega)
 | _=>cases hf
theorem ain (R:Rel nm N S a w L) (hH:eI L) (hd:∀d,o.dst=some d→d < N) {t e:TypeId} {len:Nat} {parts:Array (Nat×Operand)} {zs:List C} {ps:List (Nat×ax.X)} (ho:o.op = .buildSlice t len parts) (ht:P.underlying t=some (.slice e)) (hz:pW P e=some zs) (ZY:zs.length=1)
  (ZM:len≤2 ^ 24) (qq:ps.map (·.1)=List.range len) (hp:A8 nm ps parts.toList)
  (hr:(bp Cl d (.Pr (ps.map (·.2)))).run S=some r):dw P a w o (dR nm N S w L a o.dst r.1 r.2):=by
 simp only [bp] at hr;obtain ⟨⟨cs,fe⟩,h1,h2⟩:=Q.aK hr;clear hr;obtain ⟨hf,h2⟩:=Q.en h2;obtain rfl:=Q.aZ h2;obtain ⟨i,z,k1,k2,k3,k4,k5⟩:=AY hz;obtain ⟨e1,e2⟩:=XS hp;have cL:ps.length=len:=by have:=fU List.length qq;simpa using this
 obtain ⟨L1, O1, jJ, dH, R1⟩ := I0 R (ps.map (·.2)) (parts.toList.map (·.2)) (ch.init R) (by simpa using e1) (fun j X x hX hx => by
   rw [bQ] at hX hx
   cases B4 : ps[j]? with
   | none => simp [B4] at hX
   | some X' =>
     cases fI : parts.toList[j]? with
     | none => rw [fI] at hx; simp at hx
     | some x' =>
       rw [B4] at hX; rw [fI] at hx
       simp only [ff, aj] at hX hx
       subst hX; subst hx
       exact (e2 j X' x' B4 fI).2) h1
 have Jq:cs.length=len:=by have:cs.length=(ps.map (·.2)).length:=jJ;rw [this,cf,cL]
 have cr:∀(j:Nat) (p:Nat×Value),(parts.toList.map fun p=>(p.1,a.eval p.2))[j]? = some p→p.1=0+j∧p.2.cells = #[p.2]:=by
  intro j p hj;rw [bQ] at hj;cases fI:parts.toList[j]? with
  | none=>rw [fI] at hj;simp at hj
  | some x'=>
   rw [fI] at hj;simp only [ff,aj] at hj;subst hj;have Zk:j < ps.length:=by rw [e1];exact (cA.1 fI).1
   have B4:ps[j]? = some ps[j]:=ke Zk;have q1:=(e2 j _ x' B4 fI).1;have q2:(ps.map (·.1))[j]? = some ps[j].1:=by rw [bQ,B4];rfl
   rw [qq,HE (by omega)] at q2;simp only [aj] at q2;have hc:cs[j]? = some (cs[j]'(by omega)):=ke (by omega);have hr:=R1 j _ x'.2 hc (by rw [bQ,fI];rfl);exact ⟨by show x'.1=0+j;omega,akj hr (lM.1 hf _ (bM ..))⟩
 have arA:parts.toList.length=len:=by omega
 obtain ⟨c',g1,g2,g3,g4⟩:=Yo (parts.toList.map fun p=>(p.1,a.eval p.2)) (madeCells z.cells (len * 1)) 0 cr (by rw [size_madeCells,cf];omega);obtain ⟨hR,hM,bA⟩:=O1.mid.rel.Sh c' e;have hi:i.size=1:=by omega
 have run:(execOp a.eval o).run P w = .ok (.value (.slice (some ⟨w.heap.size,0,none⟩) len len)) (w.alloc (.cells c' e)):=by
  have:(Instr.buildSlice t len (parts.map fun (i,x)=>(i,a.eval x))).run P w = .ok (.slice (some ⟨w.heap.size,0,none⟩) len len) (w.alloc (.cells c' e)):=by
   have xC:(parts.map fun (i,x)=>(i,a.eval x)).toList=parts.toList.map fun p=>(p.1,a.eval p.2):=by simp
   simp only [uX] at g1;unfold Instr.buildSlice;simp only [Sem.run_bind,run_underlying ht,Result.andThen_ok,sizeOf,typeInfo,run_program,k1,Sem.run_pure,hi,uX];have sK:¬ (len > 2 ^ 24):=by omega
   by_cases h0:len=0
   ·have Cf:madeCells z.cells len = #[]:=by rw [h0];simp [madeCells]
    rw [Cf] at g1;simp only [sK,dF,h0,bW,Sem.run_pure,Result.andThen_ok,Sem.run_bind];simp only [Array.range_zero',xC];simp [g1,newRow]
   ·simp only [sK,dF,h0,Sem.run_bind,zeroValue,typeInfo,run_program,k1,k2,Result.andThen_ok,Sem.run_pure];have QB:((Array.range len).map fun x=>z.cells[x % z.cells.size]!)=madeCells z.cells len:=rfl;simp [xC,QB,g1,newRow]
  simp [execOp,ho,this]
 refine .val (v:=.slice (some ⟨w.heap.size,0,none⟩) len len) (w':=w.alloc (.cells c' e)) run (hR.fZ (O1.mid.mono.trans hM) hd (m:=0) (.one ?_));refine .fns (B:=w.heap.size) (o:=0) (cap:=len) (cur:=c') (e:=e) (fz:=(0,0)) (fun j=>c'.getD j undef) (.inl ⟨rfl,by rw [Jq],Nat.le_of_eq Jq⟩) (aw.kZ _ _ _) (oL w _) dH ?_ ?_
 ·intro j hj;have hj:j < cs.length:=hj;have vA:j < c'.size:=by rw [g2,size_madeCells];omega
  rw [de];simp [iB,vA]
 ·intro j x hx;have Zk:j < len:=by rw [←Jq];exact (cA.1 hx).1
  have fI:parts.toList[j]? = some (parts.toList[j]'(by omega)):=ke (by omega);have hr:=R1 j x _ hx (by rw [bQ,fI];rfl);have hv:=g4 j (_,a.eval (parts.toList[j]'(by omega)).2) (by rw [bQ,fI];rfl);rw [de] at hv;have:c'.getD j undef=a.eval (parts.toList[j]'(by omega)).2:=by simp [iB,hv]
  rw [this];exact hr.rP bA (ko dH hx) _ _
end
end
section
def GI (G:Nat→Option Obj) (w:World) (L:aw):Prop:=∀B c,G B=some c→L B=some .bh∧w.heap[B]? = some c
theorem GI.mono {G:Nat→Option Obj} {w w':World} {L L':aw} (h:GI G w L) (m:df w w' L L'):GI G w' L':=
 fun B c hB=>⟨(m.bh B (h B c hB).1).1,(m.bh B (h B c hB).1).2.trans (h B c hB).2⟩
theorem GI.none (w:World) (L:aw):GI (fun _=>Option.none) w L:=fun _ _ h=>by cases h
section
variable {nm:FuncId→Option Nat} {G:Nat→Option Obj} {N:Nat} {S:St} {a:Act} {w:World} {L:aw} {P:Program} {o:Oper} {Cl:bX} {d:Nat} {r:V×List Wr} {hh:Hint}
def wV (P:Program) (nm:FuncId→Option Nat) (G:Nat→Option Obj) (Cl:bX):Prop:=
 ∀{N:Nat} {S:St} {a:Act} {w:World} {L:aw} {o:Oper} {d:Nat} {r:V×List Wr} {c:Call} {f:Operand} {F:X} {xs:List (Bool×X)},Rel nm N S a w L→eI L→GI G w L→(∀d,o.dst=some d→d < N)→o.op = .call c→c.callee = .value f→bT nm F f→F.iL=true→
  xs.length=c.args.toList.length→(∀(j:Nat) x y,xs[j]? = some x→c.args.toList[j]? = some y→bT nm x.2 y∧x.2.iL=true)→(bp Cl d (.call F xs)).run S=some r→dw P a w o (dR nm N S w L a o.dst r.1 r.2)
theorem bind_some {α β:Type} {x:Option α} {f:α→Option β} {r:β} (h:(x >>= f)=some r):∃y,x=some y∧f y=some r:=by
 cases x with
 | none=>cases h
 | some y=>exact ⟨y,rfl,h⟩
theorem bH {α β:Type} {x:Option α} {f:α→β} {r:β} (h:x.map f=some r):∃y,x=some y∧r=f y:=by
 cases x with
 | none=>cases h
 | some y=>exact ⟨y,rfl,by simpa using h.symm⟩
theorem O7 {e:TypeId}:∀(ps:List (Nat×Operand)) {xs:List (Nat×X)},ps.mapM (IA P nm hh e)=some xs→A8 nm xs ps
 | [],xs,h=>by
  have:xs=[]:=by simpa using h.symm
  subst this;trivial
 | p::ps,xs,h=>by
  rw [mT] at h;obtain ⟨y,h1,h2⟩:=bind_some h;obtain ⟨ys,h3,h4⟩:=bind_some h2;have:xs=y::ys:=by simpa using h4.symm
  subst this;unfold IA at h1;obtain ⟨x,h5,rfl⟩:=bH h1;obtain ⟨g1,g2⟩:=vd h5;exact ⟨rfl,g1,g2,O7 ps h3⟩
theorem abY {fs:Array Field}:∀(ps:List (Nat×Operand)) {xs:List (Nat×Nat×X)},ps.mapM (OD P nm hh fs)=some xs→HS nm (fun i=>(fs.map fun f=>(f.offset,(jP P f.type).getD 0))[i]?) xs ps
 | [],xs,h=>by
  have:xs=[]:=by simpa using h.symm
  subst this;trivial
 | p::ps,xs,h=>by
  rw [mT] at h;obtain ⟨y,h1,h2⟩:=bind_some h;obtain ⟨ys,h3,h4⟩:=bind_some h2;have:xs=y::ys:=by simpa using h4.symm
  subst this;unfold OD at h1;split at h1
  ·rename_i f hf;split at h1
   ·rename_i n x hn hx;split at h1
    ·cases h1
    ·rename_i nS;cases h1;obtain ⟨g1,g2⟩:=vd hx;refine ⟨?_,nS,g1,g2,abY ps h3⟩;simp [HA,hf,hn]
   ·cases h1
  ·cases h1
theorem RW {t:TypeId} {lo:Option Operand} {LO:Option X} (h:(match lo with | none=>some none | some v=>(eg P nm t v).map some)=some LO) :
  (∀x,lo=some x→∃y,LO=some y∧bT nm y x)∧(lo=none→LO=none):=by
 cases lo with
 | none=>
  have:LO=none:=by simpa using h.symm
  exact ⟨(fun x hx=>by cases hx),fun _=>this⟩
 | some v=>
  obtain ⟨y,h1,rfl⟩:=bH h;exact ⟨fun x hx=>by cases hx;exact ⟨y,rfl,(eQ h1).1⟩,fun hx=>by cases hx⟩
theorem Z7 {t:TypeId} (h:FQ (P.underlying t)=true):P.underlying t=some (.int .u8):=by
 unfold FQ at h;split at h
 ·assumption
 ·cases h
theorem N3 {e:TypeId} {b:Nat}:b≤w5 e b∧(w5 e b=1→e=5):=by
 unfold w5;by_cases he:e=AP
 ·rw [aJ he];exact ⟨bV _,fun _=>he⟩
 ·rw [aB he];by_cases hb:b=1
  ·rw [aJ hb];exact ⟨by omega,fun h=>by cases h⟩
  ·rw [aB hb];exact ⟨bV _,fun h=>absurd h hb⟩
theorem VM {t u e:TypeId} {i:TypeInfo} {dd:TypeDesc} {zs:List C} (ht:P.underlying t=some (.slice e)) (hu:P.underlying u=some dd) (hd:∀k,dd≠.int k) (hi:P.info? e=some i) (hz:pW P e=some zs) (hs:i.size≠0) (hb:i.bytes≠0) :
  ∃z,A7 P i.size (w5 e i.bytes) t u e i dd z:=by
 obtain ⟨i',z,k1,k2,k3,k4,k5⟩:=AY hz;obtain rfl:i'=i:=by rw [hi] at k1;simpa using k1.symm
 exact ⟨z,ht,hu,hd,hi,k2,rfl,k4,Np hs,N3.1,hb,N3.2⟩
theorem ari {l1:List Operand} {l2:List TypeId} {xs:List X} (h:(l1.zip l2).mapM (fun x=>p9 P nm hh x.2 x.1)=some xs) (hl:l1.length=l2.length):xs.length=l1.length∧∀(j:Nat) x y,xs[j]? = some x→l1[j]? = some y→bT nm x y∧x.iL=true:=by
 obtain ⟨h1,h2⟩:=C9 _ h;refine ⟨by rw [h1,List.length_zip];omega,fun j x y hx hy=>?_⟩;obtain ⟨p,g1,g2⟩:=h2 j x hx;rw [aeY] at g1;have:p.1=y:=by rw [g1.1] at hy;simpa using hy
 rw [this] at g2;exact vd g2
theorem aoq (hc:wV P nm G Cl) (R:Rel nm N S a w L) (hH:eI L) (hG:GI G w L) (hd:∀d,o.dst=some d→d < N) {io:pj} (bw:zf P nm hh o=some io) (hr:(bp Cl d io).run S=some r) :
  dw P a w o (dR nm N S w L a o.dst r.1 r.2):=by
 have bad:∀{io:pj},(none:Option pj)=some io→False:=fun h=>by cases h
 unfold zf at bw;split at bw
 ·rename_i x ho;obtain ⟨X,h1,rfl⟩:=bH bw;obtain ⟨g1,g2⟩:=vd h1;exact Yf R hH hd g1 g2 (.inl ho) hr
 ·rename_i x ho;obtain ⟨X,h1,rfl⟩:=bH bw;obtain ⟨g1,g2⟩:=vd h1;exact Yf R hH hd g1 g2 (.inr ho) hr
 ·rename_i c x y ho;obtain ⟨C',h1,h2⟩:=bind_some bw;obtain ⟨X,h3,h4⟩:=bind_some h2;obtain ⟨Y,h5,h6⟩:=bind_some h4;cases h6;exact aiB R hd (eQ h1).1 (eQ h3).1 (eQ h5).1 ho hr
 ·rename_i e ho;obtain ⟨zs,h1,h2⟩:=bind_some bw;split at h2
  ·split at h2
   ·cases h2;exact ah9 R hd ho h1 hr
   ·cases h2
  ·cases h2;exact ah8 R hd ho h1 hr
 ·rename_i e v ho;obtain ⟨n,h1,h2⟩:=bind_some bw;obtain ⟨X,h3,h4⟩:=bind_some h2;split at h4
  ·cases h4
  ·rename_i hn;obtain ⟨g1,g2⟩:=vd h3;split at h4
   ·cases h4;exact aid R hH hd g1 g2 ho hn hr
   ·cases h4;exact aic R hH hd g1 g2 ho hn hr
 ·rename_i t parts ho;obtain ⟨zs,h1,h2⟩:=bind_some bw;split at h2
  ·rename_i fs ht;split at h2
   ·rename_i zD;obtain ⟨ps,h3,rfl⟩:=bH h2;exact aif R hH hd ho h1 ht (fun f hf=>by simpa using lM.1 zD f hf) (abY _ h3) hr
   ·cases h2
  ·cases h2
 ·rename_i t len parts ho;split at bw
  ·rename_i e ht;obtain ⟨zs,h1,h2⟩:=bind_some bw;split at h2
   ·rename_i row h3;split at h2
    ·cases h2
    ·rename_i iI;obtain ⟨ps,h5,rfl⟩:=bH h2;exact aie R hH hd ho ht h1 h3 (fun h=>iI (.inl h)) (fun h=>iI (.inr (.inl h))) (O7 _ h5) (fun h=>UW fun h8=>iI (.inr (.inr ⟨h,h8⟩))) hr
   ·obtain ⟨ps,h5,h6⟩:=bind_some h2;split at h6
    ·rename_i iI;cases h6;exact ain R hH hd ho ht h1 iI.1 iI.2.1 iI.2.2 (O7 _ h5) hr
    ·cases h6
  ·cases bw
 ·rename_i t x ho;obtain ⟨⟨n,agg⟩,h1,h2⟩:=bind_some bw;obtain ⟨X,h3,h4⟩:=bind_some h2;split at h4
  ·cases h4
  ·cases h4;exact air R hd (eQ h3).1 ho h1 hr
 ·rename_i t x v ho;obtain ⟨n,h1,h2⟩:=bind_some bw;obtain ⟨X,h3,h4⟩:=bind_some h2;obtain ⟨V',h5,h6⟩:=bind_some h4;split at h6
  ·cases h6
  ·rename_i hn;cases h6;obtain ⟨g1,g2⟩:=vd h5;exact aiF R hH hd (eQ h3).1 g1 g2 ho h1 hn hr
 ·rename_i x ho;obtain ⟨X,h1,rfl⟩:=bH bw;exact aiA R hd (eQ h1).1 ho hr
 ·rename_i op t x y yt ho;obtain ⟨tc,h1,h2⟩:=bind_some bw;obtain ⟨X,h3,h4⟩:=bind_some h2;obtain ⟨Y,h5,h6⟩:=bind_some h4;cases h6;exact aib R hd (eQ h3).1 (eQ h5).1 ho h1 hr
 ·rename_i op t x ho;obtain ⟨X,h1,rfl⟩:=bH bw;exact aiH R hd (eQ h1).1 ho hr
 ·rename_i s dt x ho;obtain ⟨X,h1,h2⟩:=bind_some bw;obtain ⟨g1,g2⟩:=eQ h1;split at h2
  ·rename_i k k' hs sJ;cases h2;exact aii R hd g1 ho hs sJ hr
  ·rename_i hs sJ;cases h2;exact aij R hd g1 ho hs sJ hr
  ·rename_i e hs sJ;split at h2
   ·rename_i hu;cases h2;exact aiG R hH hd g1 ho hs sJ (Z7 hu.1) hu.2 hr
   ·cases h2
  ·rename_i e hs sJ;split at h2
   ·rename_i hu;cases h2;exact aih R hd g1 g2 ho hs sJ (Z7 hu) hr
   ·cases h2
  ·cases h2
 ·rename_i f x y ho;obtain ⟨n,h1,h2⟩:=bind_some bw;obtain ⟨n',k0,oG⟩:=fq.1 h1;obtain ⟨ht,rfl⟩:n' < kM∧n'=n:=by
   split at oG
   ·rename_i ht;cases oG;exact ⟨ht,rfl⟩
   ·cases oG
  obtain ⟨xs,h3,h4⟩:=bind_some h2;obtain ⟨ys,h5,h6⟩:=bind_some h4;cases h6;obtain ⟨g1,g2⟩:=C9 _ h3;obtain ⟨g3,g4⟩:=C9 _ h5;refine aiv R hH hd ht k0 g1 (fun j X z hX hz=>?_) g3 (fun j X z hX hz=>?_) ho hr
  ·obtain ⟨z',k1,k2⟩:=g2 j X hX;rw [hz] at k1;cases k1;exact eQ k2
  ·obtain ⟨z',k1,k2⟩:=g4 j X hX;rw [hz] at k1;cases k1;exact eQ k2
 ·rename_i t l c ho;split at bw
  ·rename_i e ht;obtain ⟨i,h1,h2⟩:=bind_some bw;obtain ⟨zs,h3,h4⟩:=bind_some h2;obtain ⟨row,h5,h6⟩:=bind_some h4;obtain ⟨LX,h7,h8⟩:=bind_some h6;obtain ⟨CX,h9,dk⟩:=bind_some h8;split at dk
   ·cases dk
   ·rename_i hs;cases dk;exact aiy R hH hd (eQ h7).1 (eQ h9).1 ho ht h1 h3 h5 hs N3 hr
  ·cases bw
 ·rename_i t x lo hi mx ho;obtain ⟨X,h1,h2⟩:=bind_some bw;obtain ⟨LO,h3,h4⟩:=bind_some h2;obtain ⟨HI,h5,h6⟩:=bind_some h4;obtain ⟨MX,h7,h8⟩:=bind_some h6;obtain ⟨l1,l2⟩:=RW h3;obtain ⟨l3,l4⟩:=RW h5;obtain ⟨l5,l6⟩:=RW h7;split at h8
  ·rename_i ht;split at h8
   ·cases h8
   ·rename_i hm;cases h8;have QC:mx=none:=by
     cases mx with
     | none=>rfl
     | some m=>obtain ⟨y,hy,_⟩:=l5 m rfl;simp [hy] at hm
    subst QC;exact aiE R hd (eQ h1).1 ho ht l1 l2 l3 l4 hr
  ·rename_i e ht;obtain ⟨n,h9,dk⟩:=bind_some h8;split at dk
   ·cases dk
   ·rename_i iI;cases dk;refine aiD R hd (eQ h1).1 ho ht h9 (fun h=>iI (.inl h)) l1 l2 l3 l4 l5 l6 (fun hm hh=>?_) hr;apply iI;right;cases mx with
    | none=>exact absurd rfl hm
    | some m=>obtain ⟨y,hy,_⟩:=l5 m rfl;exact ⟨by rw [hy];rfl,by rw [l4 hh];rfl⟩
  ·cases h8
 ·rename_i s x fi ho;split at bw
  ·rename_i fs hs;obtain ⟨f,h1,h2⟩:=bind_some bw;obtain ⟨n,h3,h4⟩:=bind_some h2;obtain ⟨X,h5,h6⟩:=bind_some h4;split at h6
   ·cases h6
   ·rename_i hn;cases h6;exact aim R hd (eQ h5).1 ho hs h1 h3 hn hr
  ·cases bw
 ·rename_i t x fi ho;split at bw
  ·rename_i fs hs;obtain ⟨f,h1,h2⟩:=bind_some bw;obtain ⟨⟨n,agg⟩,h3,h4⟩:=bind_some h2;obtain ⟨X,h5,h6⟩:=bind_some h4;cases h6;obtain ⟨g1,g2⟩:=eQ h5;exact ail R hd g1 g2 ho hs h1 h3 hr
  ·cases bw
 ·rename_i t x i ho;split at bw
  ·rename_i e ht;obtain ⟨n,h1,h2⟩:=bind_some bw;obtain ⟨X,h3,h4⟩:=bind_some h2;obtain ⟨I,h5,h6⟩:=bind_some h4;split at h6
   ·cases h6
   ·cases h6;exact aip R hd (eQ h3).1 (eQ h5).1 ho ht h1 hr
  ·rename_i k e ht;obtain ⟨n,h1,h2⟩:=bind_some bw;obtain ⟨X,h3,h4⟩:=bind_some h2;obtain ⟨I,h5,h6⟩:=bind_some h4;split at h6
   ·cases h6
   ·cases h6;exact aiq R hd (eQ h3).1 (eQ h5).1 ho ht h1 hr
  ·cases bw
 ·rename_i t x i ho;split at bw
  ·rename_i ht;obtain ⟨X,h3,h4⟩:=bind_some bw;obtain ⟨I,h5,h6⟩:=bind_some h4;cases h6;exact aio R hd (eQ h3).1 (eQ h5).1 ho ht hr
  ·cases bw
 ·rename_i x j ho;obtain ⟨X,h1,rfl⟩:=bH bw;exact aik R hd (eQ h1).1 ho hr
 ·rename_i t x ho;split at bw
  ·cases bw
  ·rename_i dd jg ht;obtain ⟨X,h1,rfl⟩:=bH bw;exact aiw R hd ho ht (fun m e=>jg m e) hr
  ·cases bw
 ·rename_i t r ho;split at bw
  ·rename_i k e ht;split at bw
   ·rename_i hc;cases bw;cases r with
    | none=>exact aix R hd ho hr
    | some x=>cases hc.2.2.1
   ·cases bw
  ·cases bw
 ·rename_i t m k ok ho;split at bw
  ·rename_i kt e ht;obtain ⟨M,h1,h2⟩:=bind_some bw;obtain ⟨K,h3,h4⟩:=bind_some h2;split at h4
   ·rename_i hc;cases h4;obtain ⟨c1,c2,c3,rfl⟩:=hc;exact ait R hd (eQ h1).1 (eQ h3).1 ho ht (Z6 c1) c3 hr
   ·cases h4
  ·cases bw
 ·rename_i t m k x ho;split at bw
  ·rename_i kt e ht;obtain ⟨M,h1,h2⟩:=bind_some bw;obtain ⟨K,h3,h4⟩:=bind_some h2;obtain ⟨Z,h5,h6⟩:=bind_some h4;split at h6
   ·rename_i hc;cases h6;exact aiz R hd (eQ h1).1 (eQ h3).1 (eQ h5).1 ho ht (Z6 hc.1) hr
   ·cases h6
  ·cases bw
 ·rename_i c ho;unfold Xr at bw;split at bw
  ·rename_i f hf;obtain ⟨F,h1,h2⟩:=bind_some bw;split at h2
   ·rename_i bf;obtain ⟨xs,h3,h4⟩:=bind_some h2;cases h4;obtain ⟨g1,g2⟩:=eQ h1;obtain ⟨g3,g4⟩:=ari h3 (by simpa using bf);refine hc R hH hG hd ho hf g1 g2 (by simpa using g3) (fun j x y hx hy=>?_) hr;rw [bQ] at hx;cases hz:(xs.zipIdx)[j]? with
    | none=>simp [hz] at hx
    | some p=>
     simp only [hz,ff,aj] at hx;subst hx;rw [List.getElem?_zipIdx] at hz;cases Q0:xs[j]? with
     | none=>simp [Q0] at hz
     | some X=>
      simp only [Q0,ff,aj] at hz;subst hz;exact g4 j X y Q0 hy
   ·cases h2
  ·rename_i hb;split at bw
   ·rename_i x t hx ht;have da:c=⟨.builtin .len,#[x],#[t]⟩:=by obtain ⟨cl,ca,ct⟩:=c;simp only at hb hx ht;subst hb;congr<;>(apply r5;simpa using by assumption)
    subst da;split at bw
    ·rename_i hu;obtain ⟨X,h1,rfl⟩:=bH bw;exact Ye R hd (eQ h1).1 ho (by simpa using hu) hr
    ·rename_i e hu;obtain ⟨X,h1,rfl⟩:=bH bw;exact Ye R hd (eQ h1).1 ho (by simpa using ⟨e,hu⟩) hr
    ·cases bw
   ·cases bw
  ·rename_i hb;split at bw
   ·rename_i x y t u hx ht;have da:c=⟨.builtin .append,#[x,y],#[t,u]⟩:=by obtain ⟨cl,ca,ct⟩:=c;simp only at hb hx ht;subst hb;congr<;>(apply r5;simpa using by assumption)
    subst da;split at bw
    ·rename_i e Cs;obtain ⟨i,h1,h2⟩:=bind_some bw;obtain ⟨zs,h3,h4⟩:=bind_some h2;obtain ⟨X,h5,h6⟩:=bind_some h4;obtain ⟨g1,g2⟩:=vd h5;split at h6
     ·rename_i e' FI;obtain ⟨Y,h7,h8⟩:=bind_some h6;split at h8
      ·cases h8
      ·rename_i iI;cases h8;obtain ⟨g3,g4⟩:=vd h7;obtain ⟨z,T⟩:=VM Cs FI (by simp) h1 h3 (fun h=>iI (.inl h)) (fun h=>iI (.inr h));split at hr
       ·exact aia R hH hd g1 g2 g3 g4 ho T hr
       ·exact Yd R hH hd g1 g2 g3 g4 ho T hr
     ·rename_i FI;obtain ⟨Y,h7,h8⟩:=bind_some h6;split at h8
      ·rename_i iI;cases h8;obtain ⟨z,T⟩:=VM Cs FI (by simp) h1 h3 (by omega) (by omega);have B8:w5 e i.bytes=1:=by rw [iI.2.2.2,iI.2.1];rfl
       rw [iI.1,B8] at T;exact ah' R hH hd g1 g2 (eQ h7).1 ho T hr
      ·cases h8
     ·cases h6
    ·cases bw
   ·cases bw
  ·rename_i hb;split at bw
   ·rename_i x t hx ht;have da:c=⟨.builtin .unsafeSliceData,#[x],#[t]⟩:=by obtain ⟨cl,ca,ct⟩:=c;simp only at hb hx ht;subst hb;congr<;>(apply r5;simpa using by assumption)
    subst da;obtain ⟨X,h1,rfl⟩:=bH bw;exact aiC R hd (eQ h1).1 ho hr
   ·cases bw
  ·rename_i hb;split at bw
   ·rename_i x y t u hx ht;have da:c=⟨.builtin .unsafeString,#[x,y],#[t,u]⟩:=by obtain ⟨cl,ca,ct⟩:=c;simp only at hb hx ht;subst hb;congr<;>(apply r5;simpa using by assumption)
    subst da;split at bw
    ·rename_i e he;split at bw
     ·rename_i iI;obtain ⟨X,h3,h4⟩:=bind_some bw;obtain ⟨Y,h5,h6⟩:=bind_some h4;cases h6;obtain ⟨h7,h8⟩:=iI;have h9:e=5:=h7;subst h9;exact aiI R hd (eQ h3).1 (eQ h5).1 ho he h8 hr
     ·cases bw
    ·cases bw
   ·cases bw
  ·rename_i hb;split at bw
   ·rename_i x y t u hx ht;have da:c=⟨.builtin .min,#[x,y],#[t,u]⟩:=by obtain ⟨cl,ca,ct⟩:=c;simp only at hb hx ht;subst hb;congr<;>(apply r5;simpa using by assumption)
    subst da;obtain ⟨X,h3,h4⟩:=bind_some bw;obtain ⟨Y,h5,h6⟩:=bind_some h4;cases h6;exact aiu R hd (eQ h3).1 (eQ h5).1 ho hr
   ·cases bw
  ·rename_i hb;split at bw
   ·rename_i x y t u hx ht;have da:c=⟨.builtin .max,#[x,y],#[t,u]⟩:=by obtain ⟨cl,ca,ct⟩:=c;simp only at hb hx ht;subst hb;congr<;>(apply r5;simpa using by assumption)
    subst da;obtain ⟨X,h3,h4⟩:=bind_some bw;obtain ⟨Y,h5,h6⟩:=bind_some h4;cases h6;exact ais R hd (eQ h3).1 (eQ h5).1 ho hr
   ·cases bw
  ·cases bw
 ·cases bw
end
end
section
def St.same (S S':St):Prop:=∀k,S.get k=S'.get k
theorem St.same.refl (S:St):S.same S:=fun _=>rfl
theorem St.same.symm {S S':St} (h:S.same S'):S'.same S:=fun k=>(h k).symm
theorem St.same.trans {S S' VA:St} (h:S.same S') (k:S'.same VA):S.same VA:=fun x=>(h x).trans (k x)
theorem St.same.wr {S S':St} (h:S.same S') (x:Wr):(S.wr x).same (S'.wr x):=by
 intro k;rw [St.BV,St.BV,h x.k,h k]
theorem St.same.ah {S S':St} (h:S.same S'):∀ws:List Wr,(S.ah ws).same (S'.ah ws)
 | []=>h
 | x::t=>(St.same.ah h t).wr x
theorem Q.apw {α:Type} {S S':St} (h:S.same S') (x:Q α):x.run S'=x.run S∧x.reads S'=x.reads S:=Q.TF x (fun k _=>(h k).symm)
theorem AX (S:St):∀(ws:List Wr) (k:Key),(∀x∈ws,x.k≠k)→(S.ah ws).get k=S.get k
 | [],_,_=>rfl
 | x::t,k,h=>by
  simp only [St.ah,St.BV];rw [aB (h x (by simp))];exact AX S t k (fun y hy=>h y (by simp [hy]))
theorem aeR (ws:List Wr) {S S':St} {k:Key} (h:S.get k=S'.get k):(S.ah ws).get k=(S'.ah ws).get k:=by
 induction ws with
 | nil=>exact h
 | cons x t ih=>
  simp only [St.ah,St.BV];by_cases hk:x.k=k
  ·subst hk;rw [aJ rfl,aJ rfl,ih]
  ·rw [aB hk,aB hk];exact ih
theorem aq9 (S:St) (u v:List Wr) (h:∀x∈u,∀y∈v,x.k≠y.k):((S.ah u).ah v).same ((S.ah v).ah u):=by
 intro k;by_cases hu:∃x∈u,x.k=k
 ·obtain ⟨x,hx,rfl⟩:=hu;rw [AX _ v x.k (fun y hy e=>h x hx y hy e.symm)];exact aeR u (AX S v x.k (fun y hy e=>h x hx y hy e.symm)).symm
 ·have jv:∀x∈u,x.k≠k:=fun x hx e=>hu ⟨x,hx,e⟩
  rw [AX (S.ah v) u k jv];exact aeR v (AX S u k jv)
theorem lP.afa {x y:lP} (h:x.apart y=true):(∀k∈x.w,k∉y.r∧k∉y.w)∧∀k∈y.w,k∉x.r:=by
 unfold lP.apart at h;simp only [bK,lM,nJ,List.contains_eq_mem,Vo] at h;exact h
theorem X9 (Cl:bX):∀(l:List gy) {S S' Sf:St} {F:List lP},S.same S'→iq Cl l S=some (Sf,F)→∃yW,iq Cl l S'=some (yW,F)∧Sf.same yW
 | [],S,S',Sf,F,h,he=>by
  simp only [iq,aj,fK] at he;obtain ⟨rfl,rfl⟩:=he;exact ⟨S',rfl,h⟩
 | o::t,S,S',Sf,F,h,he=>by
  simp only [iq] at he ⊢;obtain ⟨h1,h2⟩:=Q.apw h (gq Cl o);rw [h1,h2];cases hw:(gq Cl o).run S with
  | none=>simp [hw] at he
  | some ws=>
   simp only [hw,Option.bind_some] at he ⊢;obtain ⟨⟨S1,F1⟩,h3,h4⟩:=bH he;simp only [fK] at h4;obtain ⟨rfl,rfl⟩:=h4;obtain ⟨S2,h5,h6⟩:=X9 Cl t (h.ah ws) h3;exact ⟨S2,by rw [h5];rfl,h6⟩
theorem Wu (Cl:bX) (o:gy) (f:lP) (l2:List gy) (F2:List lP):∀(l1:List gy) {S Sf:St} {F1:List lP},F1.length=l1.length→iq Cl (l1++o::l2) S=some (Sf,F1++f::F2)→(∀g∈F1,g.apart f=true)→
  ∃ws,(gq Cl o).run S=some ws∧f=⟨(gq Cl o).reads S,ws.map (·.k)⟩∧∃yW,iq Cl (l1++l2) (S.ah ws)=some (yW,F1++F2)∧Sf.same yW
 | [],S,Sf,F1,hl,he,ha=>by
  have:F1=[]:=pZ.1 hl;subst this;simp only [uV,iq] at he ⊢;cases hw:(gq Cl o).run S with
  | none=>simp [hw] at he
  | some ws=>
   simp only [hw,Option.bind_some] at he;obtain ⟨⟨S1,F1⟩,h3,h4⟩:=bH he;simp only [fK,qR] at h4;obtain ⟨rfl,rfl,rfl⟩:=h4;exact ⟨ws,rfl,rfl,Sf,h3,St.same.refl _⟩
 | x::t,S,Sf,F1,hl,he,ha=>by
  cases F1 with
  | nil=>simp at hl
  | cons g F1=>
   simp only [qQ,iq] at he;cases hw:(gq Cl x).run S with
   | none=>simp [hw] at he
   | some wx=>
    simp only [hw,Option.bind_some] at he;obtain ⟨⟨S1,F'⟩,h3,h4⟩:=bH he;simp only [fK,qR] at h4;obtain ⟨rfl,rfl,rfl⟩:=h4;obtain ⟨ws,h5,h6,yW,h7,h8⟩:=Wu Cl o f l2 F2 t (by simpa using hl) h3 (fun g hg=>ha g (by simp [hg]));obtain ⟨a1,a2⟩:=lP.afa (ha ⟨(gq Cl x).reads S,wx.map (·.k)⟩ (by simp));have zS:(gq Cl o).run S=some ws∧(gq Cl o).reads S=(gq Cl o).reads (S.ah wx):=by
     have := Q.TF (S := S.ah wx) (S' := S) (gq Cl o) (fun k hk => by
       refine (AX S wx k ?_).symm
       rintro y hy rfl
       have := (a1 y.k (iD.2 ⟨y, hy, rfl⟩)).1
       rw [h6] at this
       exact this hk)
     exact ⟨this.1.trans h5,this.2⟩
    have ZK:(gq Cl x).run (S.ah ws)=some wx∧(gq Cl x).reads (S.ah ws)=(gq Cl x).reads S:=by
     have := Q.TF (S := S) (S' := S.ah ws) (gq Cl x) (fun k hk => by
       refine AX S ws k ?_
       rintro y hy rfl
       exact a2 y.k (by rw [h6]; exact iD.2 ⟨y, hy, rfl⟩) hk)
     exact ⟨this.1.trans hw,this.2⟩
    have ajw:∀y∈wx,∀z∈ws,y.k≠z.k:=by
     intro y hy z hz e;have:=(a1 y.k (iD.2 ⟨y,hy,rfl⟩)).2;rw [h6,e] at this;exact this (iD.2 ⟨z,hz,rfl⟩)
    obtain ⟨ae9,h9,dk⟩:=X9 Cl (t++l2) (aq9 S wx ws ajw) h7;refine ⟨ws,zS.1,by rw [h6,zS.2],ae9,?_,h8.trans dk⟩;simp only [qQ,iq,ZK.1,ZK.2,Option.bind_some,h9,ff]
theorem afh (ops:Array Oper):(Region.before ops).size=ops.size∧∀i j,((Region.before ops).getD i 0).testBit j=true→∃o e,ops[i]? = some o∧e∈o.after∧Region.binds .any e=true∧(e.on=j∨(e.on < i∧((Region.before ops).getD e.on 0).testBit j=true)):=by
 have inner:∀(acc:Array Nat) (l:List Edge) (s j:Nat),(l.foldl (fun s e=>if Region.binds .any e then s ||| 2 ^ e.on ||| acc.getD e.on 0 else s) s).testBit j=true→
   s.testBit j=true∨∃e∈l,Region.binds .any e=true∧(e.on=j∨(acc.getD e.on 0).testBit j=true):=by
  intro acc l;induction l with
  | nil=>intro s j h;exact .inl h
  | cons e l ih=>
   intro s j h;simp only [U4] at h;rcases ih _ _ h with h | ⟨e',h1,h2,h3⟩
   ·split at h
    ·rename_i hb;rw [Nat.testBit_or,Nat.testBit_or,wS,wS] at h;rcases h with (h | h) | h
     ·exact .inl h
     ·rw [Nat.testBit_two_pow] at h;exact .inr ⟨e,by simp,hb,.inl (by simpa using h)⟩
     ·exact .inr ⟨e,by simp,hb,.inr h⟩
    ·exact .inl h
   ·exact .inr ⟨e',by simp [h1],h2,h3⟩
 have main:∀(n:Nat),n≤ops.size→∀(acc:Array Nat),acc=(ops.toList.take n).foldl (fun acc o=>acc.push (o.after.foldl (fun s e=>if Region.binds .any e then s ||| 2 ^ e.on ||| acc.getD e.on 0 else s) 0)) #[]→
   acc.size=n∧∀i j,(acc.getD i 0).testBit j=true→∃o e,ops[i]? = some o∧e∈o.after∧Region.binds .any e=true∧(e.on=j∨(e.on < i∧(acc.getD e.on 0).testBit j=true)):=by
  intro n;induction n with
  | zero=>
   intro _ acc h;subst h;exact ⟨rfl,fun i j h=>by simp at h⟩
  | succ n ih=>
   intro hn acc h;rw [List.take_succ_eq_append_getElem (by rw [US];omega),List.foldl_append] at h;obtain ⟨HX,PQ⟩:∃x,x=(ops.toList.take n).foldl (fun acc o=>acc.push (o.after.foldl (fun s e=>if Region.binds .any e then s ||| 2 ^ e.on ||| acc.getD e.on 0 else s) 0)) #[]:=⟨_,rfl⟩
   obtain ⟨g1,g2⟩:=ih (by omega) HX PQ;rw [←PQ] at h;clear PQ ih;simp only [U4,List.foldl_nil] at h;have Cn:∀k,k < n→acc.getD k 0=HX.getD k 0:=by
    intro k hk;subst h;simp only [iB];rw [UR,aB (by omega)]
   refine ⟨by rw [h];simp [g1],fun i j hb=>?_⟩;by_cases hi:i < n
   ·rw [Cn i hi] at hb;obtain ⟨o,e,k1,k2,k3,k4⟩:=g2 i j hb;refine ⟨o,e,k1,k2,k3,k4.imp id (fun ⟨k5,k6⟩=>⟨k5,by rw [Cn _ (by omega)];exact k6⟩)⟩
   ·by_cases kQ:i=n
    ·subst kQ;have hv:acc.getD i 0=(ops[i]'(by omega)).after.foldl (fun s e=>if Region.binds .any e then s ||| 2 ^ e.on ||| HX.getD e.on 0 else s) 0:=by
      rw [h];simp only [iB];rw [UR,aJ (by omega)];simp
     rw [hv,←UO] at hb;rcases inner HX _ 0 j hb with h0 | ⟨e,k1,k2,k3⟩
     ·simp at h0
     ·refine ⟨ops[i],e,by simp,by simpa using k1,k2,?_⟩;rcases k3 with k3 | k3
      ·exact .inl k3
      ·have Zy:e.on < i:=by
        rcases yQ e.on i with h | h
        ·exact h
        ·rw [iB,M9 (by omega)] at k3;simp at k3
       exact .inr ⟨Zy,by rw [Cn _ Zy];exact k3⟩
    ·rw [iB,M9 (by rw [h];simp [g1];omega)] at hb;simp at hb
 have := main ops.size (bV _) (Region.before ops) (by
   unfold Region.before
   rw [HJ (by rw [US]; exact bV _), UO])
 exact this
def Vr (ops:Array Oper) (listed:Array Bool):Prop:=∀(i:Nat) o,ops[i]? = some o→listed.getD i true=true→∀e∈o.after,Region.binds .any e=true→listed.getD e.on false=true
theorem V8 (ops:Array Oper) (listed:Array Bool) (hs:listed.size=ops.size) (hc:Vr ops listed):∀(n i:Nat),i < n→∀o,ops[i]? = some o→(∀e∈o.after,Region.binds .any e=true→listed.getD e.on false=true)→
  ∀j,((Region.before ops).getD i 0).testBit j=true→listed.getD j false=true
 | 0,i,hi,_,_,_,_,_=>by omega
 | n+1,i,hi,o,ho,hr,j,hb=>by
  obtain ⟨o',e,h1,h2,h3,h4⟩:=(afh ops).2 i j hb;rw [ho] at h1;cases h1;have hl:=hr e h2 h3;rcases h4 with rfl | ⟨h4,h5⟩
  ·exact hl
  ·have af:e.on < ops.size:=by
    rcases yQ e.on ops.size with h | h
    ·exact h
    ·rw [iB,M9 (by omega)] at hl;cases hl
   refine V8 ops listed hs hc n e.on (by omega) ops[e.on] (by simp [af]) (hc e.on _ (by simp [af]) ?_) j h5;rw [iB] at hl ⊢;cases hx:listed[e.on]? with
   | none=>rfl
   | some b=>simpa [hx] using hl
end
section
section
variable {nm:FuncId→Option Nat} {G:Nat→Option Obj} {N:Nat} {S:St} {a:Act} {w:World} {L:aw} {P:Program} {o:Oper} {Cl:bX} {hh:Hint} {ops:Array Oper}
theorem Rel.same {S S':St} (h:S.same S') (R:Rel nm N S a w L):Rel nm N S' a w L:=by
 have h1:S'.E=S.E:=funext fun k=>by unfold St.E;rw [h k]
 have h2:S'.γ=S.γ:=funext fun k=>by unfold St.γ;rw [h k]
 unfold Rel;rw [h1,h2];exact R
theorem oq.same {S S':St} {w0:World} {L0:aw} (h:S.same S') (D:oq nm N S w0 L0 a w L):oq nm N S' w0 L0 a w L:=⟨D.rel.same h,D.mono,D.ya⟩
theorem ara {j d:Nat} {g:Oper} (hg:ops[j]? = some g) (hd:g.dst=some d) (tmps:Array Value):yielded ops tmps j=match tmps[d]? with | some (.bool b)=>some b | _=>none:=by
 unfold yielded;rw [hg,Option.bind_some,hd,Option.bind_some];cases tmps[d]? with
 | none=>rfl
 | some v=>cases v<;>rfl
theorem abO (hc:wV P nm G Cl) (R:Rel nm N S a w L) (hH:eI L) (hG:GI G w L) (hN:hh.nt=N) {io:gy} {i:Nat} (hi:ops[i]? = some o) (bw:IB P nm hh ops o=some io) {ws:List Wr} (hr:(gq Cl io).run S=some ws)
  {K:Act→World→Prop} {Qx:Exit→Act→World→Prop} (hK:∀a' w' L',oq nm N (S.ah ws) w L a' w' L'→K a' w'):wpOp P ops Qx i K a w:=by
 unfold IB at bw;split at bw
 ·rename_i Y7;have hd:∀d,o.dst=some d→d < N:=by
   intro d hd;rw [hd] at Y7;simpa [hN] using Y7
  have wanted:∀{v:V} {fe:List Wr},Region.wanted o (yielded ops a.tmps)=true→(bp Cl (o.dst.getD 0) ((zf P nm hh o).getD .bad)).run S=some (v,fe)→ws=AW o.dst v fe→wpOp P ops Qx i K a w:=by
   intro v fe hw Cb ur;unfold wpOp;rw [hi];simp only [hw,bW];left;cases P9:zf P nm hh o with
   | none=>rw [P9] at Cb;simp [bp] at Cb
   | some io'=>
    rw [P9] at Cb;exact (aoq hc R hH hG hd P9 Cb).wp (fun v' w' ⟨L',D⟩=>hK _ _ _ (by rw [ur];exact D))
  have skip:Region.wanted o (yielded ops a.tmps)=false→ws=(match o.dst with | some d=>[{ k:=.s d,v:=.aq [] }] | none=>[])→wpOp P ops Qx i K a w:=by
   intro hw ur;unfold wpOp;rw [hi];simp only [hw,r6,dF];obtain ⟨L',D⟩:=Rel.fZ (ws:=[]) (dst:=o.dst) (m:=0) (x:=.aq []) (v:=undef) R (df.refl w L) hd (.aq (us:=#[]) rfl rfl (fun i x u h=>by simp at h));refine hK _ _ _ (by rw [ur];cases um:o.dst<;>simpa [AW,um] using D)
  have fin:∀{gd:Option (Nat×Bool)} {want:Bool} {f:Unit},io=⟨o.dst,(zf P nm hh o).getD .bad,gd⟩→True:=fun _=>trivial
  split at bw
  ·rename_i hg;cases bw;unfold gq at hr;obtain ⟨want,h1,h2⟩:=Q.aK hr;obtain rfl:=Q.aZ h1;simp only [bW] at h2;obtain ⟨⟨v,fe⟩,h3,h4⟩:=Q.aK h2;refine wanted (by unfold Region.wanted;rw [hg]) h3 ?_;cases um:o.dst with
   | none=>rw [um] at h4;simpa [AW] using Q.aZ h4
   | some d=>rw [um] at h4;simpa [AW] using Q.aZ h4
  ·rename_i j b hg;split at bw
   ·rename_i d Zi;cases bw;obtain ⟨g,hgj,qn⟩:∃g,ops[j]? = some g∧g.dst=some d:=by
     cases hx:ops[j]? with
     | none=>simp [hx] at Zi
     | some g=>exact ⟨g,rfl,by simpa [hx] using Zi⟩
    have hy:=ara hgj qn a.tmps;have lT:=R.slot d;unfold gq at hr;obtain ⟨want,h1,h2⟩:=Q.aK hr;have oG:=Q.ny h1;have ZW:Region.wanted o (yielded ops a.tmps)=want:=by
     unfold Region.wanted;rw [hg];simp only;rw [hy];split at oG
     ·rename_i x hx;obtain rfl:=Q.aZ oG;have hE:S.E (.s d) = .one (.d (.bool x)):=hx;rw [hE] at lT;have hv:=lT.cQ.sj;rw [iB] at hv;cases ht:a.tmps[d]? with
      | none=>rw [ht] at hv;simp [undef] at hv
      | some u=>
       rw [ht] at hv;simp only [Option.getD_some] at hv;subst hv;cases x<;>cases b<;>rfl
     ·rename_i hx;obtain rfl:=Q.aZ oG;have hE:S.E (.s d) = .aq []:=hx;rw [hE] at lT;rw [iB] at lT;cases ht:a.tmps[d]? with
      | none=>rfl
      | some u=>
       rw [ht] at lT;simp only [Option.getD_some] at lT;cases lT;rfl
     ·cases oG
    cases want with
    | true=>
     simp only [bW] at h2;obtain ⟨⟨v,fe⟩,h3,h4⟩:=Q.aK h2;refine wanted ZW h3 ?_;cases um:o.dst with
     | none=>rw [um] at h4;simpa [AW] using Q.aZ h4
     | some d=>rw [um] at h4;simpa [AW] using Q.aZ h4
    | false=>
     simp only [r6,dF] at h2;refine skip ZW ?_;cases um:o.dst with
     | none=>rw [um] at h2;simpa using Q.aZ h2
     | some d=>rw [um] at h2;simpa using Q.aZ h2
   ·cases bw
 ·cases bw
theorem IC {l:List gy} (h:EA P nm hh ops=some l):l.length=ops.size∧∀(i:Nat) io,l[i]? = some io→∃o,ops[i]? = some o∧IB P nm hh ops o=some io:=by
 obtain ⟨h1,h2⟩:=C9 _ h;refine ⟨by simpa using h1,fun i io hi=>?_⟩;obtain ⟨o,g1,g2⟩:=h2 i io hi;exact ⟨o,by rw [←DW];exact g1,g2⟩
theorem oq.trans {S S':St} {a a':Act} {w0 w w':World} {L0 L L':aw} (h:oq nm N S w0 L0 a w L) (k:oq nm N S' w L a' w' L'):oq nm N S' w0 L0 a' w' L':=⟨k.rel,h.mono.trans k.mono,k.ya⟩
theorem abP (hc:wV P nm G Cl) (hN:hh.nt=N) {l:List gy} (hl:EA P nm hh ops=some l) {Q:Exit→Act→World→Prop}:∀(m k:Nat),k+m=ops.size→∀{S Sf:St} {a:Act} {w:World} {L:aw},Rel nm N S a w L→eI L→GI G w L→mj Cl (l.drop k) S=some Sf→
  (∀a' w' L',oq nm N Sf w L a' w' L'→Q .normal a' w')→wpOps P ops Q (List.range' k m) a w
 | 0,k,hk,S,Sf,a,w,L,R,hH,hG,he,hQ=>by
  obtain ⟨h1,_⟩:=IC hl;rw [List.drop_of_length_le (by omega)] at he;simp only [mj,aj] at he;subst he;exact hQ a w L ⟨R,df.refl w L,hH⟩
 | m+1,k,hk,S,Sf,a,w,L,R,hH,hG,he,hQ=>by
  obtain ⟨h1,h2⟩:=IC hl;have vB:k < l.length:=by omega
  rw [tG vB] at he;simp only [mj] at he;cases hw:(gq Cl l[k]).run S with
  | none=>simp [hw] at he
  | some ws=>
   simp only [hw,Option.bind_some] at he;obtain ⟨o,g1,g2⟩:=h2 k l[k] (by simp);rw [List.range'_succ,wpOps_cons];exact abO hc R hH hG hN g1 g2 hw (fun a' w' L' D=>abP hc hN hl m (k+1) (by omega) D.rel D.ya (hG.mono D.mono) he (fun VD tE D9 D'=>hQ _ _ _ (D.trans D')))
theorem Tm {listed:Array Bool} {i:Nat}:i∈Region.ready .any ops listed↔i < ops.size∧listed.getD i true=false∧∃o,ops[i]? = some o∧∀e∈o.after,Region.binds .any e=true→listed.getD e.on false=true:=by
 unfold Region.ready;rw [List.mem_filter,tI];simp only [bK,nJ];constructor
 ·rintro ⟨h1,h2,h3⟩;refine ⟨h1,h2,ops[i],by simp [h1],?_⟩;simp only [oj h1,ff,Option.getD_some] at h3;intro e he hb;have:=UN.1 h3 e he;simpa [hb] using this
 ·rintro ⟨h1,h2,o,h3,h4⟩;refine ⟨h1,h2,?_⟩;rw [h3];simp only [ff,Option.getD_some];rw [UN];intro e he;cases hb:Region.binds .any e with
  | false=>rfl
  | true=>simpa [hb] using h4 e he hb
theorem VL (hc:wV P nm G Cl) (hN:hh.nt=N) {l:List gy} (hl:EA P nm hh ops=some l) (aQ:IK ops=true) {Q:Exit→Act→World→Prop} {φ:Nat→lP}
  (hφ:∀i j,i < j→j < ops.size→((Region.before ops).getD j 0).testBit i=false→(φ i).apart (φ j)=true) :
  ∀(fuel:Nat) (rem:List Nat) (listed:Array Bool),rem.length=fuel→listed.size=ops.size→rem.Pairwise (· < ·)→(∀i,i∈rem↔i < ops.size∧listed.getD i true=false)→Vr ops listed→
  ∀{S Sf:St} {a:Act} {w:World} {L:aw},Rel nm N S a w L→eI L→GI G w L→iq Cl (rem.map fun i=>l.getD i default) S=some (Sf,rem.map φ)→(∀a' w' L',oq nm N Sf w L a' w' L'→Q .normal a' w')→wpAny P .any ops Q fuel listed a w
 | 0,rem,listed,hlen,bf,FG,zQ,aS,S,Sf,a,w,L,R,hH,hG,he,hQ=>by
  have:rem=[]:=pZ.1 hlen;subst this;simp only [A2,iq,aj,fK,and_true] at he;subst he;refine ⟨?_,hQ a w L ⟨R,df.refl w L,hH⟩⟩;rw [List.eq_nil_iff_forall_not_mem];intro i hi;obtain ⟨h1,h2,_⟩:=Tm.1 hi;exact absurd ((zQ i).2 ⟨h1,h2⟩) (by simp)
 | fuel+1,rem,listed,hlen,bf,FG,zQ,aS,S,Sf,a,w,L,R,hH,hG,he,hQ=>by
  obtain ⟨g1,g2⟩:=IC hl;refine ⟨?_,?_⟩
  ·
   intro mw;exfalso;cases rem with
   | nil=>simp at hlen
   | cons r0 rest=>
    have uo:=(zQ r0).1 (by simp);have:r0∈Region.ready .any ops listed:=by
     refine Tm.2 ⟨uo.1,uo.2,ops[r0],by simp [uo.1],?_⟩;intro e he hb;have h3:=lM.1 aQ r0 (tI.2 uo.1);simp only [oj uo.1,ff,Option.getD_some] at h3;have h4:=UN.1 h3 e he;simp only [hb,UU,UT,fB] at h4;cases hx:listed.getD e.on true with
     | false=>
      have:e.on∈r0::rest:=(zQ e.on).2 ⟨by omega,hx⟩;rcases gU.1 this with h5 | h5
      ·omega
      ·have:=(Vb.1 FG).1 e.on h5;omega
     | true=>
      have af:e.on < listed.size:=by omega
      simp only [iB,oj af,Option.getD_some] at hx ⊢;exact hx
    rw [mw] at this;simp at this
  ·intro i hi;obtain ⟨h1,h2,o,h3,h4⟩:=Tm.1 hi;have ajG:i∈rem:=(zQ i).2 ⟨h1,h2⟩;obtain ⟨l1,l2,aj9⟩:=List.append_of_mem ajG;subst aj9;have af:∀r∈l1,r < i:=fun r hr=>(Nk.1 FG).2.2 r hr i (by simp)
   have B6:∀g∈l1.map φ,g.apart (φ i)=true:=by
    intro g hg;obtain ⟨r,hr,rfl⟩:=iD.1 hg;refine hφ r i (af r hr) h1 ?_;cases hb:((Region.before ops).getD i 0).testBit r with
    | false=>rfl
    | true=>
     have gC:=V8 ops listed bf aS (i+1) i (by omega) o h3 h4 r hb;have QO:=((zQ r).1 (by simp [hr]))
     have zT:r < listed.size:=by omega
     simp only [iB,oj zT,Option.getD_some] at gC QO;rw [gC] at QO;exact absurd QO.2 (by simp)
   simp only [ev,fY] at he;obtain ⟨ws,k1,_,yW,k3,k4⟩:=Wu Cl _ (φ i) _ _ (l1.map fun i=>l.getD i default) (by simp) he B6;have Zp:i < l.length:=by omega
   have ug:l.getD i default=l[i]:=by simp [kD,Zp]
   rw [ug] at k1;obtain ⟨o',m1,m2⟩:=g2 i l[i] (by simp);refine abO hc R hH hG hN m1 m2 k1 (fun a' w' L' D=>?_);rw [←ev,←ev] at k3;have JC:∀k b,(listed.setIfInBounds i true).getD k b=if k=i then true else listed.getD k b:=by
    intro k b;simp only [iB];by_cases qt:k=i
    ·subst qt;rw [wR];simp [show k < listed.size by omega]
    ·rw [yJ (fun e=>qt e.symm),aB qt]
   have aj8:(l1++l2).Pairwise (· < ·):=by
    have:=Nk.1 FG;refine Nk.2 ⟨this.1,(Vb.1 this.2.1).2,fun x hx y hy=>this.2.2 x hx y (by simp [hy])⟩
   have hni:i∉l1++l2:=by
    intro hm;rcases dA.1 hm with hm | hm
    ·exact Vf _ (af i hm)
    ·exact Vf _ ((Vb.1 (Nk.1 FG).2.1).1 i hm)
   refine VL hc hN hl aQ hφ fuel (l1++l2) (listed.setIfInBounds i true) (by simp at hlen ⊢;omega) (by simpa using bf) aj8 ?_ ?_ D.rel D.ya (hG.mono D.mono) k3 (fun VD tE D9 D'=>hQ _ _ _ ((D.trans D').same k4.symm))
   ·intro k;rw [JC];by_cases qt:k=i
    ·subst qt;simp only [bW];exact ⟨fun h=>absurd h hni,fun h=>by simp at h⟩
    ·rw [aB qt,←zQ k];simp [dA,gU,qt]
   ·intro k ok QG hk e he hb;rw [JC] at hk ⊢;by_cases qt:k=i
    ·subst qt;rw [h3] at QG;cases QG;have:=h4 e he hb;split
     ·rfl
     ·exact this
    ·rw [aB qt] at hk;have:=aS k ok QG hk e he hb;split
     ·rfl
     ·exact this
end
end
section
section
variable {nm:FuncId→Option Nat} {G:Nat→Option Obj} {N:Nat} {S:St} {a:Act} {w:World} {L:aw} {P:Program} {o:Oper} {Cl:bX} {hh:Hint} {ops:Array Oper}
mutual
def C.eA:C→List Key
 | .view pl .. => [pl.k]
 | .eD pl .. => [pl.k]
 | .c8 pl .. => [pl.k,.a pl.k]
 | .gj i _=>[.b (.g i) 0]
 | .ptr r _ _=>[.r r]
 | .fn _ a b=>qe a++qe b
 | _=>[]
def qe:List C→List Key
 | []=>[]
 | c::t=>c.eA++qe t
end
mutual
def V.eA:V→List Key
 | .one c=>c.eA
 | .agg cs=>qe cs
 | .aq vs=>sG vs
def sG:List V→List Key
 | []=>[]
 | v::t=>v.eA++sG t
end
theorem E0:∀{l:List C} {i:Nat} {c:C} {k:Key},l[i]? = some c→k∈c.eA→k∈qe l
 | [],_,_,_,h,_=>by simp at h
 | x::t,0,c,k,h,hk=>by simp at h;subst h;simp [qe,hk]
 | x::t,i+1,c,k,h,hk=>by simp only [qe,dA];exact .inr (E0 (by simpa using h) hk)
theorem YW:∀{l:List V} {i:Nat} {c:V} {k:Key},l[i]? = some c→k∈c.eA→k∈sG l
 | [],_,_,_,h,_=>by simp at h
 | x::t,0,c,k,h,hk=>by simp at h;subst h;simp [sG,hk]
 | x::t,i+1,c,k,h,hk=>by simp only [sG,dA];exact .inr (YW (by simpa using h) hk)
theorem aF.dT {γ γ':Key→Nat} {k:Key} {j:Nat} {c:C} {v:Value} (h:aF nm w L γ k j c v):(∀x∈c.eA,γ' x=γ x)→aF nm w L γ' k j c v:=by
 induction h with
 | d h=>exact fun _=>.d h
 | @ptr r g c v hv hg h=>intro hx;have:=hx (.r r) (by simp [C.eA]);exact .ptr hv (by rw [this];exact hg) (fun e=>h (by rw [e,this]))
 | @eD pl g sz i c v hv hh hg h=>intro hx;have:=hx pl.k (by simp [C.eA]);exact .eD hv hh (by rw [this];exact hg) (fun e=>h (by rw [e,this]))
 | pp hL hB h=>exact fun _=>.pp hL hB h
 | @view pl g sz off len v hv hh hg h=>intro hx;have:=hx pl.k (by simp [C.eA]);exact .view hv hh (by rw [this];exact hg) (fun e=>h (by rw [e,this]))
 | @c8 pl g a sz rows v hv hh hg ha h=>
  intro hx;have h1:=hx pl.k (by simp [C.eA]);have h2:=hx (.a pl.k) (by simp [C.eA]);exact .c8 hv hh (by rw [h1];exact hg) (by rw [h2];exact ha) (fun e e'=>h (by rw [e,h1]) (by rw [e',h2]))
 | fns val hf hL hB aS hv h ih=>
  intro hx;exact .fns val hf hL hB aS hv (fun i x hi=>ih i x hi (fun y hy=>hx y (by simp only [C.eA,dA];exact .inr (E0 hi hy))))
 | fn jI hf h1 h2 aS h3 h4 sP sQ=>
  intro hx;exact .fn jI hf h1 h2 aS (fun i x u hi hu=>sP i x u hi hu (fun y hy=>hx y (by simp only [C.eA,dA];exact .inl (E0 hi hy))))
   (fun i x u hi hu=>sQ i x u hi hu (fun y hy=>hx y (by simp only [C.eA,dA];exact .inr (E0 hi hy))))
 | cE=>exact fun _=>.cE
 | eX=>exact fun _=>.eX
 | fR=>exact fun _=>.fR
 | fj=>exact fun _=>.fj
 | bt hk hv=>exact fun _=>.bt hk hv
 | mp h=>exact fun _=>.mp h
 | @gj i g v hv hg h=>intro hx;have:=hx (.b (.g i) 0) (by simp [C.eA]);exact .gj hv (by rw [this];exact hg) (fun e=>h (by rw [e,this]))
 | dead=>exact fun _=>.dead
theorem bD.dT {γ γ':Key→Nat} {k:Key} {x:V} {v:Value} (h:bD nm w L γ k x v):(∀y∈x.eA,γ' y=γ y)→bD nm w L γ' k x v:=by
 induction h with
 | one h=>exact fun hx=>.one (h.dT hx)
 | agg hl h=>exact fun hx=>.agg hl (fun j c u h1 h2=>(h j c u h1 h2).dT (fun y hy=>hx y (E0 h1 hy)))
 | aq hl aS h ih=>exact fun hx=>.aq hl aS (fun i x u h1 h2=>ih i x u h1 h2 (fun y hy=>hx y (YW h1 hy)))
theorem Rel.forget {S S':St} (R:Rel nm N S a w L)
  (hE:∀k,(S'.E k=S.E k∨S'.E k=(S.E k).oS)∨(S'.E k=V.dead)) (hr:∀r,cp (S'.E (.r r))≠0→S'.E (.r r)=S.E (.r r))
  (hb:∀r c,S'.E (.b r c)≠V.dead→cp (S'.E (.r r))=cp (S.E (.r r)))
  (hγ:∀k y,k.aT=true→S'.E k≠V.dead→y∈(S.E k).eA→S'.γ y=S.γ y):Rel nm N S' a w L:=by
 have loose:∀{k:Key} {x:V} {v:Value},bD nm w L S.γ k x v→bD nm w L S.γ k x.oS v:=by
  intro k x v h;cases x with
  | one c=>
   cases c with
   | d y=>
    cases y with
    | sl t sz rows=>
     cases t with
     | _=>exact h
    | _=>exact h
   | _=>exact h
  | _=>exact h
 have ajm:∀x:V,∀y∈x.oS.eA,y∈x.eA:=by
  intro x y hy;cases x with
  | one c=>
   cases c with
   | d z=>cases z with
    | sl t sz rows=>cases t<;>exact hy
    | _=>exact hy
   | _=>exact hy
  | _=>exact hy
 have slot:∀k v,k.aT=true→bD nm w L S.γ k (S.E k) v→bD nm w L S'.γ k (S'.E k) v:=by
  intro k v hk h;by_cases hd:S'.E k=V.dead
  ·rw [hd];exact .one .dead
  ·rcases hE k with (h1 | h1) | h1
   ·rw [h1];exact h.dT (fun y hy=>hγ k y hk hd hy)
   ·rw [h1];exact (loose h).dT (fun y hy=>hγ k y hk hd (ajm _ y hy))
   ·exact absurd h1 hd
 refine ⟨R.size,R.defers,fun i=>slot (.s i) _ rfl (R.slot i),?_,?_,?_,?_,R.ft,R.eM,R.fE⟩
 ·intro r c x hx gi;have jg:S'.E (.b r c)≠V.dead:=by rw [hx];intro e;exact gi (by simpa [V.dead] using e)
  obtain ⟨x0,lU⟩:=R.kg r c;have akf:x0≠.dead:=by
   rintro rfl;apply jg;rcases hE (.b r c) with (h1 | h1) | h1
   ·rw [h1,lU];rfl
   ·rw [h1,lU];rfl
   ·exact h1
  have vR:x0=x:=by
   rcases hE (.b r c) with (h1 | h1) | h1
   ·rw [hx,lU] at h1;simpa using h1.symm
   ·rw [hx,lU] at h1;simpa [V.oS,C.oS] using h1.symm
   ·exact absurd h1 jg
  have oJ:=R.cell r c x0 lU akf;have tr:∀v,aF nm w L S.γ (.b r c) 0 x0 v→aF nm w L S'.γ (.b r c) 0 x v:=by
   intro v hv;have:=slot (.b r c) v rfl (by rw [lU];exact .one hv);rw [hx] at this;exact this.cQ
  have ex:(∃B o cur e fz v,L B=some (.box r o)∧w.heap[B]? = some (.cells cur e fz)∧jD cur.size fz∧cur[o+c]? = some v∧aF nm w L S.γ (.b r c) 0 x0 v∧lO x0 B o c e cur.size v)→
    ∃B o cur e fz v,L B=some (.box r o)∧w.heap[B]? = some (.cells cur e fz)∧jD cur.size fz∧cur[o+c]? = some v∧aF nm w L S'.γ (.b r c) 0 x v∧lO x B o c e cur.size v:=
   fun ⟨B,o,cur,e,fz,v,h1,h2,h3,h4,h5,h6⟩=>⟨B,o,cur,e,fz,v,h1,h2,h3,h4,tr v h5,vR▸h6⟩
  cases r with
  | g i=>obtain ⟨v,hv⟩:=oJ;exact ⟨v,tr v hv⟩
  | e i=>exact ex oJ
  | l i=>exact ex oJ
 ·intro r c;obtain ⟨x0,lU⟩:=R.kg r c;rcases hE (.b r c) with (h1 | h1) | h1
  ·exact ⟨x0,by rw [h1,lU]⟩
  ·exact ⟨x0.oS,by rw [h1,lU];rfl⟩
  ·exact ⟨.dead,h1⟩
 ·intro r c hc;by_cases hd:S'.E (.b r c)=V.dead
  ·exact hd
  ·rw [hb r c hd] at hc;have:=R.bound r c hc;rcases hE (.b r c) with (h1 | h1) | h1
   ·rw [h1];exact this
   ·rw [h1,this];rfl
   ·exact h1
 ·intro r hg dP;have:=hr r (by omega);rw [this] at dP ⊢;exact R.room r hg dP
theorem get_mem:∀(S:St) (k:Key),S.get k=⟨.one .dead,0⟩∨(k,S.get k)∈S
 | [],k=>.inl rfl
 | (k',e)::t,k=>by
  simp only [St.get];by_cases h:k'=k
  ·subst h;rw [aJ rfl];exact .inr (by simp)
  ·rw [aB h];exact (get_mem t k).imp id (fun h=>by simp [h])
theorem get_filter (p:Key→Bool):∀(S:St) (k:Key),St.get (S.filter fun x=>p x.1) k=if p k=true then S.get k else ⟨.one .dead,0⟩
 | [],k=>by simp [St.get]
 | (k',e)::t,k=>by
  have ih:=get_filter p t k;by_cases hp:p k'=true
  ·rw [List.filter_cons,aJ (by simpa using hp)];simp only [St.get];by_cases h:k'=k
   ·subst h;simp [hp]
   ·simp [h,ih]
  ·rw [List.filter_cons,aB (by simpa using hp)];simp only [St.get];by_cases h:k'=k
   ·subst h;rw [ih];simp [hp]
   ·simp [h,ih]
theorem Pw (refs:List Key):∀(S:St) (k:Key),(reset refs S).get k = { (S.get k) with g:=Mr refs k (S.get k).g }
 | [],k=>by
  simp only [reset,St.get,Mr];split
  ·rfl
  ·cases k<;>rfl
 | (k',e)::t,k=>by
  simp only [reset,St.get];by_cases h:k'=k
  ·subst h;simp
  ·simp only [h,dF];exact Pw refs t k
theorem YJ:∀(S:St) (k:Key),(Al S).get k = { (S.get k) with v:=(S.get k).v.oS }
 | [],k=>rfl
 | (k',e)::t,k=>by
  simp only [Al,St.get];by_cases h:k'=k
  ·subst h;simp
  ·simp only [h,dF];exact YJ t k
mutual
theorem C.E1:∀(c:C) (k:Key),k∈c.eA→k∈c.refs∨∃r,k = .r r
 | .view pl _ _ _ _,k,h=>.inl h
 | .eD pl _ _ _ _,k,h=>.inl h
 | .c8 pl _ _ _ _,k,h=>.inl h
 | .gj i _,k,h=>.inl h
 | .ptr r _ _,k,h=>.inr ⟨r,by simpa [C.eA] using h⟩
 | .fn _ a b,k,h=>by
  simp only [C.eA,dA] at h;simp only [C.refs,dA];rcases h with h | h
  ·exact (Jd a k h).imp .inl id
  ·exact (Jd b k h).imp .inr id
 | .d _,k,h=>by simp [C.eA] at h
 | .pp _,k,h=>by simp [C.eA] at h
 | .cE,k,h=>by simp [C.eA] at h
 | .eX,k,h=>by simp [C.eA] at h
 | .fR,k,h=>by simp [C.eA] at h
 | .fj,k,h=>by simp [C.eA] at h
 | .dead,k,h=>by simp [C.eA] at h
theorem Jd:∀(l:List C) (k:Key),k∈qe l→k∈Dt l∨∃r,k = .r r
 | [],k,h=>by simp [qe] at h
 | c::t,k,h=>by
  simp only [qe,dA] at h;simp only [Dt,dA];rcases h with h | h
  ·exact (C.E1 c k h).imp .inl id
  ·exact (Jd t k h).imp .inr id
end
mutual
theorem V.E1:∀(x:V) (k:Key),k∈x.eA→k∈x.refs∨∃r,k = .r r
 | .one c,k,h=>C.E1 c k h
 | .agg cs,k,h=>Jd cs k h
 | .aq vs,k,h=>YX vs k h
theorem YX:∀(l:List V) (k:Key),k∈sG l→k∈Mn l∨∃r,k = .r r
 | [],k,h=>by simp [sG] at h
 | c::t,k,h=>by
  simp only [sG,dA] at h;simp only [Mn,dA];rcases h with h | h
  ·exact (V.E1 c k h).imp .inl id
  ·exact (YX t k h).imp .inr id
end
theorem VF:∀(S:St) {k:Key} {e:mV},(k,e)∈S→∀x∈e.v.refs,x∈allRefs S
 | [],k,e,h,x,hx=>by simp at h
 | (k',e')::t,k,e,h,x,hx=>by
  simp only [allRefs,dA];rcases gU.1 h with h | h
  ·cases h;exact .inl hx
  ·exact .inr (VF t h x hx)
theorem YI (S:St) (k:Key):(EC S).get k=S.get k:=by
 unfold EC;rw [get_filter (fun k=>!OO S k) S k];split
 ·rfl
 ·rename_i h;simp only [nJ,Bool.not_eq_false] at h;unfold OO at h;split at h
  ·rename_i k;generalize S.get (.a k)=e at h ⊢;unfold Z3 at h;split at h
   ·rw [mU h]
   ·cases h
  ·cases h
theorem an9 {keep:List Nat} {S':St} (R:Rel nm N S a w L) (h:S.Sk keep=some S'):Rel nm N S' a w L:=by
 unfold St.Sk at h;dsimp only at h;split at h
 ·rename_i zD;simp only [aj] at h;have qy:Rel nm N (reset (allRefs (S.filter fun x=>kept keep x.1)) (S.filter fun x=>kept keep x.1)) a w L→Rel nm N S' a w L:=by
   subst h;intro hR;unfold Rel at hR ⊢;have e1:(EC (reset (allRefs (S.filter fun x=>kept keep x.1)) (S.filter fun x=>kept keep x.1))).E=(reset (allRefs (S.filter fun x=>kept keep x.1)) (S.filter fun x=>kept keep x.1)).E:=by
    funext k;unfold St.E;rw [YI]
   have e2:(EC (reset (allRefs (S.filter fun x=>kept keep x.1)) (S.filter fun x=>kept keep x.1))).γ=(reset (allRefs (S.filter fun x=>kept keep x.1)) (S.filter fun x=>kept keep x.1)).γ:=by
    funext k;unfold St.γ;rw [YI]
   rw [e1,e2];exact hR
  refine qy ?_;clear qy h;have hg:∀k,(reset (allRefs (S.filter fun x=>kept keep x.1)) (S.filter fun x=>kept keep x.1)).E k=if kept keep k=true then S.E k else V.dead:=by
   intro k;unfold St.E;rw [Pw,get_filter];split<;>rfl
  have hkb:∀r c,kept keep (.b r c)=true:=fun _ _=>rfl
  have uj:∀r,kept keep (.r r)=true:=fun _=>rfl
  refine R.forget ?_ ?_ ?_ ?_
  ·intro k;rw [hg];split
   ·exact .inl (.inl rfl)
   ·exact .inr rfl
  ·intro r _;rw [hg,aJ (uj r)]
  ·intro r c _;rw [hg,aJ (uj r)]
  ·intro k y hk hd hy;rw [hg] at hd;split at hd
   ·rename_i hkk;have hγ:∀z,(z∈allRefs (S.filter fun x=>kept keep x.1)∨∃r,z = .r r)→kept keep z=true→(reset (allRefs (S.filter fun x=>kept keep x.1)) (S.filter fun x=>kept keep x.1)).γ z=S.γ z:=by
     intro z hz hkz;unfold St.γ;rw [Pw,get_filter,aJ hkz];simp only [Mr];rcases hz with hz | ⟨r,rfl⟩
     ·rw [aJ (by simpa using hz)]
     ·split<;>rfl
    rcases V.E1 _ _ hy with hr | ⟨r,rfl⟩
    ·have hm:y∈allRefs (S.filter fun x=>kept keep x.1):=by
      have h0:=get_filter (kept keep) S k;rw [aJ hkk] at h0;rcases get_mem (List.filter (fun x=>kept keep x.1) S) k with h1 | h1
      ·rw [h0] at h1;have:S.E k = .one .dead:=by unfold St.E;rw [h1]
       rw [this] at hr;simp [V.refs,C.refs] at hr
      ·refine VF _ h1 y ?_;rw [h0];exact hr
     exact hγ y (.inl hm) (lM.1 zD y hm)
    ·exact hγ _ (.inr ⟨r,rfl⟩) (uj r)
   ·exact absurd rfl hd
 ·cases h
theorem an' {keep:List Nat} {S':St} (R:Rel nm N S a w L) (h:S.norm keep=some S'):Rel nm N S' a w L:=an9 R h
mutual
theorem C.E2:∀(c:C) (k:Key),k∈c.eA→(∀r,k.uH = some r→r∈c.wC)
 | .view pl _ _ _ _,k,h,r,hr=>by
  simp only [C.eA,tJ] at h;subst h;simp [C.wC,hr]
 | .eD pl _ _ _ _,k,h,r,hr=>by
  simp only [C.eA,tJ] at h;subst h;simp [C.wC,hr]
 | .c8 pl _ _ _ _,k,h,r,hr=>by
  simp only [C.eA,gU,nK,nL] at h;rcases h with rfl | rfl
  ·simp [C.wC,hr]
  ·cases hr
 | .gj i _,k,h,r,hr=>by
  simp only [C.eA,tJ] at h;subst h;simp only [Key.uH,aj] at hr;simp [C.wC,hr]
 | .ptr r0 _ _,k,h,r,hr=>by
  simp only [C.eA,tJ] at h;subst h;simp only [Key.uH,aj] at hr;simp [C.wC,hr]
 | .fn _ a b,k,h,r,hr=>by
  simp only [C.eA,dA] at h;simp only [C.wC,dA];rcases h with h | h
  ·exact .inl (Je a k h r hr)
  ·exact .inr (Je b k h r hr)
 | .d _,k,h,_,_=>by simp [C.eA] at h
 | .pp _,k,h,_,_=>by simp [C.eA] at h
 | .cE,k,h,_,_=>by simp [C.eA] at h
 | .eX,k,h,_,_=>by simp [C.eA] at h
 | .fR,k,h,_,_=>by simp [C.eA] at h
 | .fj,k,h,_,_=>by simp [C.eA] at h
 | .dead,k,h,_,_=>by simp [C.eA] at h
theorem Je:∀(l:List C) (k:Key),k∈qe l→(∀r,k.uH = some r→r∈Dx l)
 | [],k,h,_,_=>by simp [qe] at h
 | c::t,k,h,r,hr=>by
  simp only [qe,dA] at h;simp only [Dx,dA];rcases h with h | h
  ·exact .inl (C.E2 c k h r hr)
  ·exact .inr (Je t k h r hr)
end
mutual
theorem V.E2:∀(x:V) (k:Key),k∈x.eA→(∀r,k.uH = some r→r∈x.roots)
 | .one c,k,h,r,hr=>C.E2 c k h r hr
 | .agg cs,k,h,r,hr=>Je cs k h r hr
 | .aq vs,k,h,r,hr=>YY vs k h r hr
theorem YY:∀(l:List V) (k:Key),k∈sG l→(∀r,k.uH = some r→r∈Mu l)
 | [],k,h,_,_=>by simp [sG] at h
 | c::t,k,h,r,hr=>by
  simp only [sG,dA] at h;simp only [Mu,dA];rcases h with h | h
  ·exact .inl (V.E2 c k h r hr)
  ·exact .inr (YY t k h r hr)
end
theorem ai7 {S':St} (R:Rel nm N S a w L) (h:S.gc=some S'):Rel nm N S' a w L:=by
 unfold St.gc at h;dsimp only at h;generalize Px S 3 (TW S)=live at h;split at h
 ·rename_i zD;simp only [aj] at h;subst h;have ug:∀k,(Al (S.filter fun x=>qa live x.1)).get k=if qa live k=true then ⟨(S.get k).v.oS,(S.get k).g⟩ else ⟨.one .dead,0⟩:=by
   intro k;rw [YJ,get_filter];split<;>rfl
  have hg:∀k,(Al (S.filter fun x=>qa live x.1)).E k=if qa live k=true then (S.E k).oS else V.dead:=by
   intro k;unfold St.E;rw [ug];split<;>rfl
  have ajI:∀r c,qa live (.b r c)=qa live (.r r):=fun _ _=>rfl
  have bf:∀r,qa live (.r r)=true→(Al (S.filter fun x=>qa live x.1)).E (.r r)=(S.E (.r r)).oS:=fun r h=>by rw [hg,aJ h]
  have Y0:∀x:V,cp x.oS=cp x:=by
   intro x;cases x with
   | one c=>
    cases c with
    | d z=>cases z with
     | sl t sz rows=>cases t<;>rfl
     | _=>rfl
    | _=>rfl
   | _=>rfl
  have Qz:∀x:V,cp x≠0→x.oS=x:=by
   intro x hx;cases x with
   | one c=>
    cases c with
    | d z=>cases z with
     | sl t sz rows=>simp [cp] at hx
     | _=>rfl
    | _=>rfl
   | _=>rfl
  refine R.forget ?_ ?_ ?_ ?_
  ·intro k;rw [hg];split
   ·exact .inl (.inr rfl)
   ·exact .inr rfl
  ·intro r hr;rw [hg] at hr ⊢;split at hr
   ·rename_i hk;rw [aJ hk];rw [Y0] at hr;exact Qz _ hr
   ·exact absurd rfl hr
  ·intro r c hd;rw [hg] at hd;split at hd
   ·rename_i hk;rw [hg,aJ (by rw [←ajI r c];exact hk),Y0]
   ·exact absurd rfl hd
  ·intro k y hk hd hy;rw [hg] at hd;split at hd
   ·rename_i hkk;have zN:qa live y=true:=by
     unfold qa;split
     ·rename_i r hr;have hm:=V.E2 _ _ hy r hr;have h0:=get_filter (qa live) S k;rw [aJ hkk] at h0;rcases get_mem (List.filter (fun x=>qa live x.1) S) k with h1 | h1
      ·rw [h0] at h1;have:S.E k = .one .dead:=by unfold St.E;rw [h1]
       rw [this] at hy;simp [V.eA,C.eA] at hy
      ·rw [h0] at h1;have:=lM.1 zD _ h1;exact lM.1 this r hm
     ·rfl
    unfold St.γ;rw [ug,aJ zN]
   ·exact absurd rfl hd
 ·cases h
theorem ao3 (vF:P.follows .mixedOrders=true) (hc:wV P nm G Cl) (hN:hh.nt=N) {id:Nat} {draw:Bool} {keep:Option (List Nat)} {gc:Bool} {l:List gy} (hl:EA P nm hh ops=some l) (aQ:draw=true→IK ops=true) (R:Rel nm N S a w L) (hH:eI L) (hG:GI G w L) {Sf:St}
  (he:pA Cl keep gc l (if draw then some (unordered ops) else none) S=some Sf) {Q:Exit→Act→World→Prop} (hQ:∀a' w' L',oq nm N Sf w L a' w' L'→Q .normal a' w'):(Code.region id ops draw).wp P Q a w:=by
 unfold pA at he;obtain ⟨S1,h1,h2⟩:=fq.1 he;obtain ⟨S2,h3,h4⟩:=fq.1 h2;have R1:Rel nm N S1 a w L:=by
  cases keep with
  | none=>simp only [aj] at h1;subst h1;exact R
  | some kl=>exact an' R h1
 have R2:Rel nm N S2 a w L:=by
  cases gc with
  | false=>simp only [r6,dF,aj] at h3;subst h3;exact R1
  | true=>simp only [bW] at h3;exact ai7 R1 h3
 obtain ⟨g1,g2⟩:=IC hl;have arq:∀(l':List gy) {S Sf:St} {F:List lP},iq Cl l' S=some (Sf,F)→mj Cl l' S=some Sf:=by
  intro l';induction l' with
  | nil=>intro S Sf F h;simp only [iq,aj,fK] at h;simp [mj,h.1]
  | cons o t ih=>
   intro S Sf F h;simp only [iq] at h;simp only [mj];cases hw:(gq Cl o).run S with
   | none=>simp [hw] at h
   | some ws=>
    simp only [hw,Option.bind_some] at h ⊢;obtain ⟨⟨S1,F1⟩,k1,k2⟩:=bH h;simp only [fK] at k2;rw [k2.1];exact ih k1
 cases draw with
 | false=>
  simp only [r6,dF] at h4;refine wp_region ?_;rw [List.range_eq_range'];exact abP hc hN hl ops.size 0 (by omega) R2 hH hG (by simpa using h4) hQ
 | true=>
  have ajh:Rel nm N S2 a w.drew L:=R2.drew;have ajC:∃F,iq Cl l S2=some (Sf,F)∧SN F (unordered ops)=true:=by
   simp only [bW] at h4;split at h4
   ·rename_i heq;cases heq
   ·rename_i hun;have iU:∀(l':List gy) {S Sf:St},mj Cl l' S=some Sf→∃F,iq Cl l' S=some (Sf,F):=by
     intro l';induction l' with
     | nil=>intro S Sf h;simp only [mj,aj] at h;exact ⟨[],by simp [iq,h]⟩
     | cons o t ih=>
      intro S Sf h;simp only [mj] at h;simp only [iq];cases hw:(gq Cl o).run S with
      | none=>simp [hw] at h
      | some ws=>
       simp only [hw,Option.bind_some] at h ⊢;obtain ⟨F,k1⟩:=ih h;exact ⟨_,by rw [k1];rfl⟩
    obtain ⟨F,k1⟩:=iU l h4;refine ⟨F,k1,?_⟩;have:unordered ops=[]:=by simpa using hun
    rw [this];rfl
   ·rename_i ps _ e9;obtain ⟨⟨S3,F⟩,k1,k2⟩:=fq.1 h4;split at k2
    ·rename_i hp;simp only [aj] at k2;subst k2;have:unordered ops=ps:=by simpa using e9
     exact ⟨F,k1,by rw [this];exact hp⟩
    ·cases k2
  obtain ⟨F,hF,aj0⟩:=ajC;have hFl:F.length=l.length:=by
   have:∀(l':List gy) {S Sf:St} {F:List lP},iq Cl l' S=some (Sf,F)→F.length=l'.length:=by
    intro l';induction l' with
    | nil=>
     intro S Sf F h;simp only [iq,aj,fK] at h;rw [←h.2];rfl
    | cons o t ih=>
     intro S Sf F h;simp only [iq] at h;cases hw:(gq Cl o).run S with
     | none=>simp [hw] at h
     | some ws=>
      simp only [hw,Option.bind_some] at h;obtain ⟨⟨S1,F1⟩,k1,k2⟩:=bH h;simp only [fK] at k2;rw [k2.2];simp [ih k1]
   exact this l hF
  refine wp_region_any vF ?_;have ajO:(List.range ops.size).map (fun i=>l.getD i default)=l:=by
   apply U2;intro i;rw [bQ];by_cases hi:i < ops.size
   ·rw [HE hi];simp [kD,show i < l.length by omega]
   ·rw [pY (by simp;omega),pY (by omega)];rfl
  have ajP:(List.range ops.size).map (fun i=>F.getD i ⟨[],[]⟩)=F:=by
   apply U2;intro i;rw [bQ];by_cases hi:i < ops.size
   ·rw [HE hi];simp [kD,show i < F.length by omega]
   ·rw [pY (by simp;omega),pY (by omega)];rfl
  refine VL (S:=S2) (Sf:=Sf) (L:=L) hc hN hl (aQ rfl) (φ:=fun i=>F.getD i ⟨[],[]⟩) ?_ ops.size (List.range ops.size) _ (by simp) (by simp) ae0 ?_ ?_ ajh hH (show GI G w.drew L from hG) (by rw [ajO,ajP];exact hF) ?_
  ·intro i j hij hj hb;have hm:(i,j)∈unordered ops:=by
    unfold unordered;refine Nh.2 ⟨j,tI.2 hj,List.mem_filterMap.2 ⟨i,tI.2 hij,?_⟩⟩;rw [hb];rfl
   have:=lM.1 aj0 (i,j) hm;simp only at this;rw [ke (by omega),ke (by omega)] at this;simp only [kD,ke (show i < F.length by omega),ke (show j < F.length by omega),Option.getD_some];exact this
  ·intro i;rw [tI];constructor
   ·intro hi;exact ⟨hi,by simp [iB,hi]⟩
   ·exact fun h=>h.1
  ·intro i o ho hi;have:i < ops.size:=(lL.1 ho).1;simp [iB,this] at hi
  ·intro a' w' L' D;exact hQ a' w' L' ⟨D.rel,(df.drew w L).trans D.mono,D.ya⟩
end
end
section
section
variable {nm:FuncId→Option Nat} {G:Nat→Option Obj} {N:Nat} {P:Program} {Cl:bX} {hh:Hint}
def aiL:tQ→Exit
 | .norm=>.normal
 | .exit id=>.exit id
 | .ret=>.ret
theorem least {p:Nat→Prop} (h:∃n,p n):∃n,p n∧∀m,m < n→¬ p m:=by
 obtain ⟨n,hn⟩:=h;induction n using Nat.strongRecOn with
 | _ n ih=>
  by_cases hx:∃m,m < n∧p m
  ·obtain ⟨m,h1,h2⟩:=hx;exact ih m h1 h2
  ·exact ⟨n,hn,fun m hm hp=>hx ⟨m,hm,hp⟩⟩
theorem afR (vF:P.follows .mixedOrders=true) (hc:wV P nm G Cl) (hN:hh.nt=N) (n:Nat):∀(c:Code) {ic:mc},mZ P nm hh c=some ic→∀{S S':St} {e:tQ},dq Cl n ic S=some (e,S')→
  ∀{a:Act} {w:World} {L:aw},Rel nm N S a w L→eI L→GI G w L→∀{Q:Exit→Act→World→Prop},(∀a' w' L',oq nm N S' w L a' w' L'→Q (aiL e) a' w')→c.wp P Q a w:=by
 have bad:∀{S S':St} {e:tQ},dq Cl n (.iZ none false [⟨none,.bad,none⟩] none) S=some (e,S')→False:=by
  intro S S' e h;simp [dq,pA,mj,gq,BY,bp] at h
 intro c;induction c with
 | skip=>
  intro ic da S S' e he a w L R hH hG Q hQ;simp only [mZ,aj] at da;subst da;simp only [dq,aj,fK] at he;obtain ⟨rfl,rfl⟩:=he;exact wp_skip (hQ a w L ⟨R,df.refl w L,hH⟩)
 | region id ops draw=>
  intro ic da S S' e he a w L R hH hG Q hQ;simp only [mZ] at da;obtain ⟨l,h1,h2⟩:=bind_some da;split at h2
  ·cases h2
  ·rename_i iI;cases h2;simp only [dq] at he;obtain ⟨Sf,h3,h4⟩:=bH he;simp only [fK] at h4;obtain ⟨rfl,rfl⟩:=h4;refine ao3 vF hc hN h1 (fun hd=>?_) R hH hG h3 hQ;cases hx:IK ops with
   | true=>rfl
   | false=>exact absurd ⟨hd,hx⟩ iI
 | seq x y Q8 Q9=>
  intro ic da S S' e he a w L R hH hG Q hQ;simp only [mZ] at da;obtain ⟨ix,h1,h2⟩:=bind_some da;obtain ⟨iy,h3,h4⟩:=bind_some h2;cases h4;simp only [dq] at he;obtain ⟨⟨e1,S1⟩,h5,h6⟩:=fq.1 he;refine wp_seq (Q8 h1 h5 R hH hG (fun a' w' L' D=>?_));cases e1 with
  | norm=>
   simp only at h6;exact Q9 h3 h6 D.rel D.ya (hG.mono D.mono) (fun VD tE D9 D'=>hQ _ _ _ (D.trans D'))
  | exit id=>
   simp only [aj,fK] at h6;obtain ⟨rfl,rfl⟩:=h6;exact hQ _ _ _ D
  | ret=>
   simp only [aj,fK] at h6;obtain ⟨rfl,rfl⟩:=h6;exact hQ _ _ _ D
 | cond c x y Q8 Q9=>
  intro ic da S S' e he a w L R hH hG Q hQ;simp only [mZ] at da;obtain ⟨cx,h0,h1⟩:=bind_some da;obtain ⟨ix,h2,h3⟩:=bind_some h1;obtain ⟨iy,h4,h5⟩:=bind_some h3;cases h5;simp only [dq] at he;obtain ⟨t,h6,h7⟩:=fq.1 he;have hb:a.eval c = .bool t:=by
   unfold zg at h6;obtain ⟨v,g1,g2⟩:=fq.1 h6;have rv:=rd_val R (eQ h0).1 g1;split at g2
   ·simp only [aj] at g2;subst g2;exact rv.cQ.sj
   ·cases g2
  refine wp_cond hb ?_;cases t with
  | true=>exact Q8 h2 (by simpa using h7) R hH hG hQ
  | false=>exact Q9 h4 (by simpa using h7) R hH hG hQ
 | block id b ih=>
  intro ic da S S' e he a w L R hH hG Q hQ;simp only [mZ] at da;obtain ⟨ib,h1,rfl⟩:=bH da;simp only [dq] at he;obtain ⟨⟨e1,S1⟩,h2,h3⟩:=bH he;simp only [fK] at h3;obtain ⟨h3,rfl⟩:=h3;refine wp_block (ih h1 h2 R hH hG (fun a' w' L' D=>?_));cases e1 with
  | norm=>subst h3;exact hQ _ _ _ D
  | exit i=>
   show Exit.inBlock id Q (.exit i) a' w';simp only [Exit.inBlock];by_cases hi:i=id
   ·subst hi;simp only [bW] at h3 ⊢;subst h3;exact hQ _ _ _ D
   ·simp only [hi,dF] at h3 ⊢;subst h3;exact hQ _ _ _ D
  | ret=>subst h3;exact hQ _ _ _ D
 | loop b ih=>
  intro ic da S S' e he a w L R hH hG Q hQ;simp only [mZ] at da;obtain ⟨ib,h1,rfl⟩:=bH da;simp only [dq] at he;let Good:Nat→Act→World→Prop:=fun m a1 w1=>∃S1 L1,oq nm N S1 w L a1 w1 L1∧iter (dq Cl n ib) m S1=some (e,S')
  let μ:Act→World→Nat:=fun a1 w1=>open Classical in if h:∃m,Good m a1 w1 then Classical.choose (least h) else 0
  have hμ:∀{a1 w1} (h:∃m,Good m a1 w1),Good (μ a1 w1) a1 w1∧∀m,m < μ a1 w1→¬ Good m a1 w1:=by
   intro a1 w1 h;have:=Classical.choose_spec (least h);simp only [μ,dif_pos h];exact this
  refine wp_loop (fun a1 w1=>∃m,Good m a1 w1) μ ⟨n,S,L,⟨R,df.refl w L,hH⟩,he⟩ ?_;intro a1 w1 hI;obtain ⟨⟨S1,L1,D1,Fg⟩,arw⟩:=hμ hI;cases hm:μ a1 w1 with
  | zero=>rw [hm] at Fg;simp [iter] at Fg
  | succ m=>
   rw [hm] at Fg;simp only [iter] at Fg;obtain ⟨⟨e1,S2⟩,h2,h3⟩:=fq.1 Fg;refine ih h1 h2 D1.rel D1.ya (hG.mono D1.mono) (fun a' w' L' D=>?_);cases e1 with
   | norm=>
    simp only at h3;have hg:Good m a' w':=⟨S2,L',D1.trans D,h3⟩
    refine ⟨⟨m,hg⟩,?_⟩;rcases yQ m (μ a' w') with h | h
    ·exact absurd hg ((hμ ⟨m,hg⟩).2 m h)
    ·omega
   | exit id=>
    simp only [aj,fK] at h3;obtain ⟨rfl,rfl⟩:=h3;exact hQ _ _ _ (D1.trans D)
   | ret=>
    simp only [aj,fK] at h3;obtain ⟨rfl,rfl⟩:=h3;exact hQ _ _ _ (D1.trans D)
 | exit id=>
  intro ic da S S' e he a w L R hH hG Q hQ;simp only [mZ,aj] at da;subst da;simp only [dq,aj,fK] at he;obtain ⟨rfl,rfl⟩:=he;exact wp_exit (hQ a w L ⟨R,df.refl w L,hH⟩)
 | ret=>
  intro ic da S S' e he a w L R hH hG Q hQ;simp only [mZ,aj] at da;subst da;simp only [dq,aj,fK] at he;obtain ⟨rfl,rfl⟩:=he;exact wp_ret (hQ a w L ⟨R,df.refl w L,hH⟩)
 | _=>
  intros
  rename_i da S S' e he a w L R hH hG Q hQ;simp only [mZ,aj] at da;subst da;exact (bad he).elim
end
end
section
section
variable {nm:FuncId→Option Nat} {N:Nat} {S S0:St} {a:Act} {w w0:World} {L L0:aw} {P:Program} {o:Oper} {Cl:bX} {d:Nat} {ws:List Wr} {γ:Key→Nat}
def kr (L:aw):aw:=fun B=>
 match L B with
 | some (.row q o)=>if q.k = .h 0 then some .bh else some (.row q o)
 | x=>x
theorem I4 {B:Nat} (h:L B=some .bh):kr L B=some .bh:=by simp [kr,h]
theorem BR {B o:Nat} {r:aI}:kr L B=some (.box r o)↔L B=some (.box r o):=by
 unfold kr;split
 ·rename_i q o' hL;rw [hL];split<;>simp
 ·rfl
theorem ai4 {B:Nat} (h:L B=none):kr L B=none:=by simp [kr,h]
theorem YC {B o:Nat} {q:Place} (h:L B=some (.row q o)) (hq:q.k≠.h 0):kr L B=some (.row q o):=by simp [kr,h,hq]
theorem ai3 {B o:Nat} {q:Place} (h:L B=some (.row q o)) (hq:q.k = .h 0):kr L B=some .bh:=by simp [kr,h,hq]
theorem I5 {B o:Nat} {q:Place} (h:kr L B=some (.row q o)):L B=some (.row q o)∧q.k≠.h 0:=by
 unfold kr at h;split at h
 ·rename_i q0 o0 hL;split at h
  ·cases h
  ·rename_i hq;simp only [aj,bS.row.injEq] at h;obtain ⟨rfl,rfl⟩:=h;exact ⟨hL,hq⟩
 ·rename_i h1;exact absurd h (h1 q o)
theorem ai2 {B:Nat} {l:bS} (h:kr L B=some l):∃l0,L B=some l0:=by
 unfold kr at h;split at h
 ·rename_i q0 o0 hL;exact ⟨_,hL⟩
 ·exact ⟨_,h⟩
theorem ch.I3 (M:ch nm N S0 w0 L0 ws a w L):ch nm N S0 w0 L0 ws a w (kr L)∧Step w w L (kr L) (S0.ah ws).γ (S0.ah ws).γ:=by
 have cL:∀{q:Place},q.k.aT=true→q.k≠.h 0:=fun h e=>by rw [e] at h;simp [Key.aT] at h
 have bA:Step w w L (kr L) (S0.ah ws).γ (S0.ah ws).γ:=
  ⟨fun B hB=>⟨I4 hB,rfl⟩,fun _=>bV _,fun B q o hq _ hB=>⟨YC hB (cL hq),fun cur e fz h=>⟨cur,h,rfl⟩⟩,fun _ _ _ _ _ _ _=>rfl,fun B r o _ hB=>BR.2 hB⟩
 refine ⟨⟨M.rel.I7 ?_ ?_ ?_ ?_,M.di.trans bA,M.mono.trans ⟨rfl,rfl,rfl,bV _,fun B hB=>⟨I4 hB,rfl⟩,fun B _ hB=>⟨ai4 hB,rfl⟩,fun B i o hB=>BR.2 hB⟩,?_,M.heap,M.vT,fun B r o hB=>BR.2 (M.boxes B r o hB)⟩,bA⟩
 ·intro B l hB hl;refine ⟨rfl,?_⟩;cases l with
  | bh=>exact I4 hB
  | box r o=>exact BR.2 hB
  | row q o=>exact YC hB (cL (hl q o rfl))
 ·intro B l hB;obtain ⟨l0,h0⟩:=ai2 hB;exact M.rel.ft B l0 h0
 ·intro B B' pl o o' h1 h2;exact M.rel.eM B B' pl o o' (I5 h1).1 (I5 h2).1
 ·intro B B' r o o' h1 h2;exact M.rel.fE B B' r o o' (BR.1 h1) (BR.1 h2)
 ·intro B q o hq hB;exact M.rows B q o hq (I5 hB).1
theorem aoE (x:D):(C.d (kX x)).clean=true:=by
 cases x with
 | sl t sz rows=>cases t<;>rfl
 | _=>rfl
theorem aF.L7 {k':Key} {j j':Nat} {c:C} {v:Value} (bA:Step w w L (kr L) γ γ) (h:aF nm w L γ (.h 0) j c v) (hc:∀pl g a sz rows,c≠.c8 pl g a sz rows):aF nm w (kr L) γ k' j' c.plain v∧c.plain.clean=true:=by
 cases c with
 | d x=>
  cases h with
  | d h=>
   exact ⟨.d (.plain (br.freeze (fun q=>q.k = .h 0) (fun _ _ _ h=>h) (fun B hB=>⟨I4 hB,rfl⟩) (fun B q o hq hL=>⟨ai3 hL hq,rfl⟩) h rfl)),aoE x⟩
 | c8 pl g a sz rows=>exact absurd rfl (hc pl g a sz rows)
 | bt t=>exact absurd rfl (h.Lz t)
 | mp x=>exact ⟨.dead,rfl⟩
 | _=>exact ⟨h.rP bA (h.va rfl) _ _,h.va rfl⟩
theorem T8 {c:C} {rr:C×List Wr} (h:(st ws c).run S=some rr):∀pl g a sz rows,rr.1≠.c8 pl g a sz rows:=by
 intro pl g a sz rows e;cases c with
 | view ta g' cu off len=>
  simp only [st] at h;obtain ⟨res,h1,h2⟩:=Q.aK h;obtain ⟨_,h3⟩:=Q.en h2;obtain rfl:=Q.aZ h3;cases e
 | c8 ta g' a' cu uI=>
  simp only [st] at h;obtain ⟨res,h1,h2⟩:=Q.aK h;have h3:=Q.ny h2;obtain ⟨_,h4⟩:=Q.en h3;obtain rfl:=Q.aZ h4;cases e
 | eD=>simp [st] at h
 | bt=>simp [st] at h
 | mp=>simp [st] at h
 | gj=>simp [st] at h
 | dead=>simp [st] at h
 | _=>simp only [st] at h;obtain rfl:=Q.aZ h;cases e
theorem T5:∀(cs:List C) {ws:List Wr} {rr:List C×List Wr},(lI ws cs).run S=some rr→∀c∈rr.1,∀pl g a sz rows,c≠.c8 pl g a sz rows
 | [],ws,rr,h,c,hc=>by
  simp only [lI] at h;obtain rfl:=Q.aZ h;simp at hc
 | x::cs,ws,rr,h,c,hc=>by
  simp only [lI] at h;obtain ⟨r1,h1,h2⟩:=Q.aK h;obtain ⟨r2,h3,h4⟩:=Q.aK h2;obtain rfl:=Q.aZ h4;rcases gU.1 hc with rfl | hc
  ·exact T8 h1
  ·exact T5 cs h3 c hc
theorem LB (M:ch nm N S0 w0 L0 ws a w L) (h:∀B q o,L B=some (.row q o)→q.k.aT=false→q.k = .h 0):eI (kr L):=by
 intro B q o hB;obtain ⟨h1,h2⟩:=I5 hB;cases hq:q.k.aT with
 | true=>rfl
 | false=>exact absurd (h B q o h1 hq) h2
theorem Xk {cs:List C} (h:∀(j:Nat) c,cs[j]? = some c→c.clean=true):jo cs=true:=by
 induction cs with
 | nil=>rfl
 | cons c t ih=>
  simp only [jo,bK];exact ⟨h 0 c rfl,ih (fun j c' hj=>h (j+1) c' (by simpa using hj))⟩
theorem acG (R0:Rel nm N S0 a w0 L0):∀(xs:List (Bool×X)) (ps:List Operand) {ws:List Wr} {L:aw} (M:ch nm N S0 w0 L0 ws a w L) (hH:eI L) (hp:xs.length=ps.length) (hx:∀(j:Nat) X x,xs[j]? = some X→ps[j]? = some x→bT nm X.2 x∧X.2.iL=true) {rr:List V×List Wr} (hr:(yp ws xs).run S0=some rr),
  ∃L',ch nm N S0 w0 L0 rr.2 a w L'∧eI L'∧Step w w L L' (S0.ah ws).γ (S0.ah rr.2).γ∧rr.1.length=ps.length∧iF rr.1=true∧∀(j:Nat) x p,rr.1[j]? = some x→ps[j]? = some p→bD nm w L' (S0.ah rr.2).γ (.h 0) x (a.eval p)
 | [],[],ws,L,M,hH,hp,hx,rr,hr=>by
  simp only [yp] at hr;obtain rfl:=Q.aZ hr;exact ⟨L,M,hH,Step.same w L (fun _=>bV _),rfl,rfl,fun j x p h=>by simp at h⟩
 | (b,X)::xs,p::ps,ws,L,M,hH,hp,hx,rr,hr=>by
  simp only [yp] at hr;obtain ⟨⟨v,fe⟩,h1,h2⟩:=Q.aK hr;clear hr;dsimp only at h2;obtain ⟨hX,PO⟩:=hx 0 (b,X) p rfl rfl;obtain ⟨L1,O1,V1⟩:=wG M R0 (hH.free 0) PO hX h1;dsimp only at O1 V1;have fin:∀{fA:List Wr} {L2:aw} {x':V} {rest:List V×List Wr},ch nm N S0 w0 L0 fA a w L2→eI L2→Step w w L L2 (S0.ah ws).γ (S0.ah fA).γ→x'.clean=true→bD nm w L2 (S0.ah fA).γ (.h 0) x' (a.eval p)→(yp fA xs).run S0=some rest→rr=(x'::rest.1,rest.2)→
    ∃L',ch nm N S0 w0 L0 rr.2 a w L'∧eI L'∧Step w w L L' (S0.ah ws).γ (S0.ah rr.2).γ∧rr.1.length=(p::ps).length∧iF rr.1=true∧∀(j:Nat) x p',rr.1[j]? = some x→(p::ps)[j]? = some p'→bD nm w L' (S0.ah rr.2).γ (.h 0) x (a.eval p'):=by
   intro fA L2 x' rest M2 PE Hg aS rep h5 dP;obtain ⟨L3,M3,PF,nE,Jr,xp,R3⟩:=acG R0 xs ps M2 PE (by simpa using hp) (fun j X x h1 h2=>hx (j+1) X x (by simpa using h1) (by simpa using h2)) h5;subst dP;refine ⟨L3,M3,PF,Hg.trans nE,by simp [Jr],by simp [iF,aS,xp],?_⟩;intro j x p' hj mA;cases j with
   | zero=>
    simp only [kE,aj] at hj mA;subst hj;subst mA;exact rep.rP nE aS _
   | succ j=>exact R3 j x p' (by simpa using hj) (by simpa using mA)
  have aa0:∀{fe:List Wr} {L1:aw} {K:Place→Prop},Out nm N S0 w0 L0 ws fe a w L L1 K 0→∀B q o,L1 B=some (.row q o)→q.k.aT=false→q.k = .h 0:=by
   intro fe L1 K O B q o hB hq;by_cases hk:q.k = .h 0
   ·exact hk
   ·have:=hH B q o (O.yi B q o hq hk hB);rw [hq] at this;cases this
  split at h2
  ·rename_i c;obtain ⟨⟨c',fA⟩,h3,h4⟩:=Q.aK h2;clear h2;obtain ⟨⟨vs,wN⟩,h5,h6⟩:=Q.aK h4;clear h4;have dP:=Q.aZ h6;obtain ⟨L2,O2,R2⟩:=uP (m:=0) (j:=0) (c:=c) (v:=a.eval p) O1.mid V1 h3;dsimp only at O2 R2 h5;have r9:=(O1.weaken (K':=fun q=>¬ (q.k = .h 0∧q.j=0)) (fun _ _=>trivial)).trans O2;obtain ⟨M3,nE⟩:=O2.mid.I3;obtain ⟨R3,aS⟩:=aF.L7 (k':=.h 0) (j':=0) nE R2 (T8 h3);exact fin M3 (LB O2.mid (aa0 r9)) (r9.di.trans nE) (x':=.one c'.plain) aS (.one R3) h5 dP
  ·rename_i cs;obtain ⟨⟨ez,fA⟩,h3,h4⟩:=Q.aK h2;clear h2;obtain ⟨⟨vs,wN⟩,h5,h6⟩:=Q.aK h4;clear h4;have dP:=Q.aZ h6;obtain ⟨us,nT,hl,hV⟩:=V1
   obtain ⟨L2, O2, l2, R2⟩ := MF (m := 0) cs O1.mid 0 (fun j => us.getD j undef) (fun j c hc => by
     have hj : j < us.size := by rw [← hl]; exact (cA.1 hc).1
     have := hV j c _ hc (oj hj)
     simpa [Array.getD, hj] using this) h3
   dsimp only at O2 R2 h5 l2;have r9:=(O1.weaken (K':=fun q=>¬ (q.k = .h 0∧0≤q.j)) (fun _ _=>trivial)).trans O2;obtain ⟨M3,nE⟩:=O2.mid.I3;have each:∀(j:Nat) c,(ez.map C.plain)[j]? = some c→c.clean=true∧∀u,us[j]? = some u→aF nm w (kr L2) (S0.ah fA).γ (.h 0) j c u:=by
    intro j c hc;rw [bQ] at hc;cases hj:ez[j]? with
    | none=>simp [hj] at hc
    | some c0=>
     simp only [hj,ff,aj] at hc;subst hc;have:=R2 j c0 hj;rw [de] at this;have hp:=aF.L7 (k':=.h 0) (j':=j) nE this (T5 _ h3 c0 (fp hj));refine ⟨hp.2,fun u hu=>?_⟩;have h1:=hp.1;simp only [iB,hu,Option.getD_some] at h1;exact h1
   refine fin M3 (LB O2.mid (aa0 r9)) (r9.di.trans nE) (x':=.agg (ez.map C.plain)) (Xk (fun j c hc=>(each j c hc).1)) ?_ h5 dP;rw [nT];exact .agg (by simp [l2,hl]) (fun j c u hc hu=>(each j c hc).2 u hu)
  ·cases h2
 | [],_::_,_,_,_,_,hp,_,_,_=>by simp at hp
 | _::_,[],_,_,_,_,hp,_,_,_=>by simp at hp
end
end
end Go.ax
