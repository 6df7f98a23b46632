/- A part of the proof. -/
import Derived.Test.YtfmpdgeiodnnfaaGreatDoorB1
import Derived.Laws.BytesString
import Derived.Laws.BytesArg
import Derived.Laws.MakeOwn
import Derived.Lib.UnsafeStr
import Derived.Orders
set_option linter.all false
namespace Go.ax
section
section
variable {nm:FuncId→Option Nat} {N:Nat} {S:St} {a:Act} {w:World} {L:aw} {P:Program} {o:Oper} {Cl:bX} {d:Nat} {r:V×List Wr}
theorem aiw (R:Rel nm N S a w L) (hd:∀d,o.dst=some d→d < N) {x:Operand} {X:ax.X} {op:UnOp} {t:TypeId} (hx:bQ nm X x) (ho:o.op = .unOp op t x)
  (hr:(bq Cl d (.un op X)).run S=some r):dx P a w o (dO nm N S w L a o.dst r.1 r.2):=by
 simp only [bq] at hr;obtain ⟨v1,h1,en⟩:=Q.aK hr;clear hr;obtain ⟨z,hz,h2⟩:=Q.gw en;clear en;obtain rfl:=Q.aZ h2;clear h2;have r1:=rd_val R hx h1;have ex:∀{v:Value},(Op.unary op (a.eval x)).run P w = .ok v w→fM w L z v→dx P a w o (dO nm N S w L a o.dst (.one (.d z)) []):=
  fun hb hp=>fp R hd (by simp [execOp,ho,hb]) (.one (.d (.plain hp)))
 unfold unV at hz;split at hz
 ·cases hz;refine ex ?_ .bool;rw [r1.cL.r7];rfl
 ·cases hz;refine ex ?_ .int;rw [r1.cL.ra];rfl
 ·cases hz;refine ex ?_ .int;rw [r1.cL.ra];rfl
 ·cases hz
theorem ah7 (R:Rel nm N S a w L) (hd:∀d,o.dst=some d→d < N) {x:Operand} {X:ax.X} {k:IntKind} {t u:TypeId} {ds:TypeDesc} (hx:bQ nm X x) (ho:o.op = .convert t u x) (ht:P.underlying t=some ds) (hu:P.underlying u=some (.int k))
  (hr:(bq Cl d (.conv (.int k) X)).run S=some r):dx P a w o (dO nm N S w L a o.dst r.1 r.2):=by
 simp only [bq] at hr;obtain ⟨v1,h1,h2⟩:=Q.aK hr;clear hr;have r1:=rd_val R hx h1;cases v1 with
 | one c=>
  cases c with
  | d z=>
   cases z with
   | int k' n=>
    obtain rfl:=Q.aZ h2;refine fp R hd (v:=.int k (k.wrap n)) ?_ (.one (.d (.plain .int)));have:(convert t u (a.eval x)).run P w = .ok (.int k (k.wrap n)) w:=by
     rw [r1.cL.ra];simp [convert,run_underlying ht,run_underlying hu,Conv.intToInt]
    simp [execOp,ho,this]
   | _=>cases h2
  | _=>cases h2
 | _=>cases h2
theorem ah8 (R:Rel nm N S a w L) (hd:∀d,o.dst=some d→d < N) {x:Operand} {X:ax.X} {t u:TypeId} {ds:TypeDesc} (hx:bQ nm X x) (ho:o.op = .convert t u x) (ht:P.underlying t=some ds) (hu:P.underlying u=some .string)
  (hr:(bq Cl d (.conv .same X)).run S=some r):dx P a w o (dO nm N S w L a o.dst r.1 r.2):=by
 simp only [bq] at hr;obtain ⟨v1,h1,h2⟩:=Q.aK hr;clear hr;have r1:=rd_val R hx h1;cases v1 with
 | one c=>
  cases c with
  | d z=>
   cases z with
   | str s=>
    obtain rfl:=Q.aZ h2;refine fp R hd (v:=.string ⟨s.toArray⟩) ?_ (.one (.d (.plain .str)));have:(convert t u (a.eval x)).run P w = .ok (.string ⟨s.toArray⟩) w:=by
     rw [r1.cL.rH];cases ds<;>simp [convert,run_underlying ht,run_underlying hu]
    simp [execOp,ho,this]
   | _=>cases h2
  | _=>cases h2
 | _=>cases h2
theorem apG (R:Rel nm N S a w L) {v:V} {u:Value} (hv:bD nm w L S.γ (.h 0) v u) (aS:v.own=false) {rows:List (List D)} (h:(shown v).run S=some rows) :
  ∃ (b : Option Addr) (cap : Nat), u = .slice b rows.length cap ∧ (rows = [] ∨ ∃ B o cur e fz sz, b = some ⟨B, o, none⟩ ∧ 0 < sz ∧ w.heap[B]? = some (.cells cur e fz) ∧ (∀ r ∈ rows, r.length = sz) ∧
    (∀ i c k n, cellOf rows i c = some (.int k n) → cur[o + i * sz + c]? = some (.int k n))) := by
 unfold shown at h;split at h
 ·cases h
 ·rename_i t sz ux sH;simp only [Q.run_pure,ai] at h;subst h;cases hv.cL with
  | d hd=>
   cases hd with
   | plain hp=>
    cases hp with
    | nil=>exact ⟨none,0,rfl,.inl rfl⟩
    | mD=>exact ⟨_,_,rfl,.inl rfl⟩
    | @pl sz rows B o cap cur e fz val az bf P1 hL hB hlen oK dM=>
     refine ⟨_,_,rfl,.inr ⟨B,o,cur,e,fz,sz,rfl,bf,hB,hlen,fun i c k n hx=>?_⟩⟩;have h1:=oK i c _ hx;have h2:=dM i c _ hx;generalize val i c=u at h1 h2;cases h2;exact h1
   | jk=>simp at sH
   | own=>simp at sH
 ·rename_i pl g sz off len;obtain ⟨res,h3,h4⟩:=Q.aK h;clear h;obtain ⟨hg,h5⟩:=Q.ei h4;clear h4;simp only [fA] at hg;have sD:off+len≤res.2.2.length:=hg;obtain rfl:=Q.aZ h5;have hlen:(aW ((res.2.2.drop off).take len)).length=len:=by rw [An,AU,Nb];omega
  cases hv.cL with
  | view iH hh gA hV=>
   obtain ⟨jW,u0,sJ⟩:=Sv R hh h3;rcases hV jW with ⟨h0,a0,rfl⟩ | ⟨B,o,cap,cur,e,fz,rfl,bf,hL,hB,cU,ub,dG,_⟩
   ·refine ⟨a0,0,by rw [hlen,h0],.inl ?_⟩;rw [h0];simp [aW]
   ·refine ⟨_,_,by rw [hlen],?_⟩;rcases sJ.nU with ⟨ml,_⟩ | ⟨B',o',yT,dQ,e',tR,val,_,_,fj,dA,_,fQ,PZ,QK,cm,hr,dX⟩
    ·left;rw [ml];simp [aW]
    ·right;obtain rfl:=R.eN B' B pl o' o fj hL;obtain rfl:o'=o:=by rw [fj] at hL;simpa using hL
     obtain ⟨rfl,rfl,rfl⟩:dQ=cur∧e'=e∧tR=fz:=by rw [dA] at hB;simpa using hB
     refine ⟨B',_,_,_,_,sz,rfl,bf,dA,?_,?_⟩
     ·intro r1 jX;rw [Dg] at jX;obtain ⟨r2,h1,rfl⟩:=iz.1 jX;simpa using fQ r2 (Nf (DT h1))
     ·intro i c k n hx;rw [Bi] at hx;cases hy:cellOf ((res.2.2.drop off).take len) i c with
      | none=>simp [hy] at hx
      | some y=>
       simp only [hy,fh,ai] at hx;obtain ⟨rr,k1,k2⟩:=kJ.1 hy;have kN:i < len:=by
        have:=(cw.1 k1).1;rw [AU] at this;omega
       rw [yA kN,tC] at k1;have hc:cellOf res.2.2 (off+i) c=some y:=kJ.2 ⟨rr,k1,k2⟩;have h1:=cm _ _ _ hc;have h2:=hr _ _ _ hc;have fR:y = .int k n:=by
        cases y with
        | sl t _ _=>cases t<;>simp [kV] at hx
        | _=>simp [kV] at hx ⊢<;>exact hx
       subst fR;generalize val (off+i) c=u at h1 h2;cases h2 with
       | plain h2=>
        cases h2;rw [lJ] at h1;rw [show o'+off * sz+i * sz+c=o'+(off * sz+i * sz)+c by omega];exact h1
 ·cases h
theorem T3:∀(rows:List (List D)) {s:List UInt8},kA rows=some s→rows.length=s.length∧∀i,i < rows.length→∃n,cellOf rows i 0=some (.int .u8 n)∧rows[i]? = some [.int .u8 n]∧s[i]? = some (UInt8.ofNat n.toNat)
 | [],s,h=>by simp only [kA,ai] at h;subst h;exact ⟨rfl,fun i hi=>by simp at hi⟩
 | r::rows,s,h=>by
  unfold kA at h;split at h
  ·rename_i heq;cases heq
  ·rename_i n t heq;simp only [qK] at heq;obtain ⟨rfl,rfl⟩:=heq;cases ht:kA rows with
   | none=>simp [ht] at h
   | some t'=>
    simp only [ht,fh,ai] at h;subst h;obtain ⟨h1,h2⟩:=T3 rows ht;refine ⟨by simp [h1],fun i hi=>?_⟩;cases i with
    | zero=>exact ⟨n,rfl,rfl,rfl⟩
    | succ i=>
     obtain ⟨m,g1,g2,g3⟩:=h2 i (by simpa using hi);exact ⟨m,by simpa [cellOf] using g1,by simpa using g2,by simpa using g3⟩
  ·cases h
theorem afj {w:World} {rows:List (List D)} {s:List UInt8} (hs:kA rows=some s) {b:Option Addr} {cap:Nat}
  (P2 : rows = [] ∨ ∃ B o cur e fz sz, b = some ⟨B, o, none⟩ ∧ 0 < sz ∧ w.heap[B]? = some (.cells cur e fz) ∧ (∀ r ∈ rows, r.length = sz) ∧
    (∀ i c k n, cellOf rows i c = some (.int k n) → cur[o + i * sz + c]? = some (.int k n))) :
  (Conv.bytesToString (.slice b rows.length cap)).run P w = .ok (.string ⟨s.toArray⟩) w:=by
 obtain ⟨hl,hb⟩:=T3 rows hs;rcases P2 with rfl | ⟨B,o',cur,e',fz,sz,rfl,bf,hB,fQ,EZ⟩
 ·have:s=[]:=pW.1 (by rw [←hl];rfl);subst this;cases b with
  | none=>simp [Conv.bytesToString];rfl
  | some ad=>simp [Conv.bytesToString,loadCells,loadCellsFrom];rfl
 ·let ns:List Int:=rows.map fun r=>match r with | [.int _ n]=>n | _=>0
  have QA:ns.length=rows.length:=by simp [ns]
  have fF:∀i n,ns[i]? = some n→s[i]? = some (UInt8.ofNat n.toNat)∧w.cell? ⟨B,o'+i,none⟩=some (.int .u8 n):=by
   intro i n kO;have hi:i < rows.length:=by rw [←QA];exact (cw.1 kO).1
   obtain ⟨n',g1,g2,g3⟩:=hb i hi;have hnn:n=n':=by
    simp only [ns,bS,g2,fh,ai] at kO;exact kO.symm
   subst hnn;have kx:sz=1:=by have:=fQ _ (ft g2);simpa using this.symm
   subst kx;refine ⟨g3,?_⟩;rw [qT hB];have:=EZ i 0 _ _ g1;rwa [uO,jC] at this
  have Fj:(loadCells ⟨B,o',none⟩ rows.length).run P w = .ok (ns.map (Value.int .u8)).toArray w:=by
   have := run_loadCells_list (P := P) w ⟨B, o', none⟩ (ns.map (Value.int .u8)) (fun j v hj => by
     simp only [bS] at hj
     cases hn : ns[j]? with
     | none => simp [hn] at hj
     | some n =>
       simp only [hn, fh, ai] at hj
       subst hj
       rw [oj]; exact (fF j n hn).2)
   rwa [cy,QA] at this
  rw [run_bytesToString w _ _ _ ns Fj,foldl_push_bytes];congr 2;have jI:ns.map (fun n=>UInt8.ofNat n.toNat)=s:=by
   apply UP;intro i;rw [bS];cases hn:ns[i]? with
   | none=>
    have:rows.length≤i:=by rw [←QA];exact UR.1 hn
    rw [Option.map_none,pV (by omega)]
   | some n=>rw [fh,(fF i n hn).1]
  rw [jI];apply ByteArray.ext;show ByteArray.empty.data++s.toArray=s.toArray;rw [show ByteArray.empty.data = #[] from rfl,Array.empty_append]
theorem apF (R:Rel nm N S a w L) {x:Operand} {X:ax.X} (hx:bQ nm X x) {rows:List (List D)} (h:(Ty X).run S=some rows) :
  ∃ (b : Option Addr) (cap : Nat), a.eval x = .slice b rows.length cap ∧ (rows = [] ∨ ∃ B o cur e fz sz, b = some ⟨B, o, none⟩ ∧ 0 < sz ∧ w.heap[B]? = some (.cells cur e fz) ∧ (∀ r ∈ rows, r.length = sz) ∧
    (∀ i c k n, cellOf rows i c = some (.int k n) → cur[o + i * sz + c]? = some (.int k n))) := by
 cases hx with
 | @s i=>
  unfold Ty at h;have h1:=Q.ni h;clear h;have hv:=R.slot i;cases hE:S.E (.s i) with
  | one c=>
   cases c with
   | c6 pl g aa sz ux=>
    have tT:(S.get (.s i)).v = .one (.c6 pl g aa sz ux):=hE;rw [tT] at h1;have h2:=Q.ni h1;have h3:=Q.ni h2;obtain ⟨hg,h4⟩:=Q.ei h3;obtain rfl:=Q.aZ h4;simp only [bK,eU] at hg;rw [hE] at hv;cases hv.cL with
    | c6 iH hh gA ve hV=>
     rcases hV hg.1.symm hg.2.symm with ⟨h0,ad,h5⟩ | ⟨B,o,cap,cur,e,fz,n0,val,h5,bf,hL,hB,cU,hlen,dL,dG,oK,dM,dX⟩
     ·refine ⟨some ad,0,?_,.inl h0⟩;rw [h0];exact h5
     ·refine ⟨_,cap,h5,.inr ⟨B,o,cur,e,fz,sz,rfl,bf,hB,hlen,fun i c k n hx=>?_⟩⟩;have g1:=oK i c _ hx;have g2:=dM i c _ hx;generalize val i c=u at g1 g2;cases g2 with
      | plain g2=>cases g2;exact g1
   | _=>
    have tT:(S.get (.s i)).v = .one _:=hE;rw [tT] at h1;cases h1
  | _=>
   have tT:(S.get (.s i)).v=_:=hE;rw [tT] at h1;cases h1
 | _=>cases h
theorem ah6 (R:Rel nm N S a w L) (hd:∀d,o.dst=some d→d < N) {x:Operand} {X:ax.X} {t u e:TypeId} (hx:bQ nm X x) (aQ:X.iJ=true) (ho:o.op = .convert t u x) (ht:P.underlying t=some (.slice e)) (hu:P.underlying u=some .string) (he:P.underlying e=some (.int .u8))
  (hr:(bq Cl d (.conv .Ij X)).run S=some r):dx P a w o (dO nm N S w L a o.dst r.1 r.2):=by
 have core : ∀ (rows : List (List D)) (s : List UInt8), kA rows = some s → (∃ (b : Option Addr) (cap : Nat), a.eval x = .slice b rows.length cap ∧ (rows = [] ∨ ∃ B o cur e fz sz, b = some ⟨B, o, none⟩ ∧ 0 < sz ∧ w.heap[B]? = some (.cells cur e fz) ∧ (∀ r ∈ rows, r.length = sz) ∧
     (∀ i c k n, cellOf rows i c = some (.int k n) → cur[o + i * sz + c]? = some (.int k n)))) → r = (.one (.d (.str s)), []) → dx P a w o (dO nm N S w L a o.dst r.1 r.2) := by
  rintro rows s hs ⟨b,cap,qX,P2⟩ rfl;refine fp R hd (v:=.string ⟨s.toArray⟩) ?_ (.one (.d (.plain .str)));have:(convert t u (a.eval x)).run P w = .ok (.string ⟨s.toArray⟩) w:=by
   rw [qX];have aji:(convert t u (.slice b rows.length cap)).run P w=(Conv.bytesToString (.slice b rows.length cap)).run P w:=by
    cases b<;>simp [convert,run_underlying ht,run_underlying hu,run_underlying he]
   rw [aji];exact afj hs P2
  simp [execOp,ho,this]
 simp only [bq] at hr;obtain ⟨v1,h1,h2⟩:=Q.aK hr;clear hr;have r1:=rd_val R hx h1;have aS:=Mn aQ h1;by_cases YP:v1 = .one .dead
 ·subst YP;obtain ⟨rows,h3,h4⟩:=Q.aK h2;obtain ⟨s,hs,h5⟩:=Q.gw h4;exact core rows s hs (apF R hx h3) (Q.aZ h5)
 ·obtain ⟨rows, h3, h4⟩ := Q.aK (x := shown v1) (f := fun rows => (Q.dr (kA rows) >>= fun s => pure (.one (.d (.str s)), []))) (r := r) (by
    cases v1 with
    | one c => cases c <;> (try exact h2) <;> (try exact absurd rfl YP) <;> (rename_i z; cases z <;> exact h2)
    | _ => exact h2)
  obtain ⟨s,hs,h5⟩:=Q.gw h4;exact core rows s hs (apG R r1 aS h3) (Q.aZ h5)
theorem Da (R:Rel nm N S a w L) {lo:Option Operand} {X:Option ax.X} (h:∀x,lo=some x→∃y,X=some y∧bQ nm y x) (h0:lo=none→X=none) {Xk n:Nat} (hr:(qy X Xk).run S=some n) :
  (lo=none∧n=Xk)∨∃x k,lo=some x∧a.eval x = .int k n:=by
 cases lo with
 | none=>
  rw [h0 rfl] at hr;simp only [qy,Q.run_pure,ai] at hr;exact .inl ⟨rfl,hr.symm⟩
 | some x=>
  obtain ⟨y,rfl,hy⟩:=h x rfl;simp only [qy] at hr;obtain ⟨v,h1,h2⟩:=Q.aK hr;rw [Q.ym] at h2;obtain ⟨k,hk⟩:=wR (rd_val R hy h1) h2;exact .inr ⟨x,k,rfl,hk⟩
theorem adk {b:Bool} {len cap l h:Nat} {lo hi:Option Value} (hl:(lo=none∧l=0)∨∃k,lo=some (.int k l)) (hh:(hi=none∧h=len)∨∃k,hi=some (.int k h)) (h1:l≤h) (h2:h≤len) (h3:len≤cap) :
  (Instr.sliceBounds b len cap lo hi none).run P w = .ok (l,h,cap) w:=by
 have e1:(h:Int)≤(cap:Int):=by omega
 have e2:(l:Int)≤(h:Int):=by omega
 rcases hl with ⟨rfl,rfl⟩ | ⟨k,rfl⟩<;>rcases hh with ⟨rfl,rfl⟩ | ⟨k',rfl⟩<;>
  simp [Instr.sliceBounds,Instr.sliceBound,asIntOf,e1,e2,jd h2 h3,h1]
theorem ait (R:Rel nm N S a w L) (hd:∀d,o.dst=some d→d < N) {x:Operand} {X:ax.X} {t:TypeId} {lo hi:Option Operand} {LO HI:Option ax.X} (hx:bQ nm X x) (ho:o.op = .slice t x lo hi none) (ht:P.underlying t=some .string)
  (B4:∀x,lo=some x→∃y,LO=some y∧bQ nm y x) (Jv:lo=none→LO=none) (Jm:∀x,hi=some x→∃y,HI=some y∧bQ nm y x) (Jn:hi=none→HI=none)
  (hr:(bq Cl d (.Tz X LO HI)).run S=some r):dx P a w o (dO nm N S w L a o.dst r.1 r.2):=by
 simp only [bq] at hr;obtain ⟨v1,h1,h2⟩:=Q.aK hr;clear hr;have r1:=rd_val R hx h1;split at h2
 ·rename_i s;obtain ⟨l,h3,h4⟩:=Q.aK h2;clear h2;obtain ⟨h,h5,h6⟩:=Q.aK h4;clear h4;obtain ⟨hg,h7⟩:=Q.ei h6;clear h6;simp only [bK,fA] at hg;obtain rfl:=Q.aZ h7;have e1:=r1.cL.rH;refine fp R hd (v:=.string ⟨((s.drop l).take (h - l)).toArray⟩) ?_ (.one (.d (.plain .str)));have hb:=adk (P:=P) (w:=w) (b:=false) (len:=s.length) (cap:=s.length) (l:=l) (h:=h) (lo:=lo.map a.eval) (hi:=hi.map a.eval)
   ((Da R B4 Jv h3).imp (fun h=>⟨by rw [h.1];rfl,h.2⟩) (fun ⟨x,k,h1,h2⟩=>⟨k,by rw [h1];simp [h2]⟩))
   ((Da R Jm Jn h5).imp (fun h=>⟨by rw [h.1];rfl,h.2⟩) (fun ⟨x,k,h1,h2⟩=>⟨k,by rw [h1];simp [h2]⟩)) hg.1 hg.2 (bT _)
  have hex:(⟨s.toArray⟩:ByteArray).extract l h=⟨((s.drop l).take (h - l)).toArray⟩:=by
   apply ByteArray.ext;rw [aeG];apply rR;simp [List.drop_take]
  have:(Instr.sliceAt t (a.eval x) (lo.map a.eval) (hi.map a.eval) none).run P w = .ok (.string ⟨((s.drop l).take (h - l)).toArray⟩) w:=by
   rw [e1];simp [Instr.sliceAt,Instr.slice,run_underlying ht,Ba,hb,hex]
  simp [execOp,ho,this]
 ·cases h2
theorem ais (R:Rel nm N S a w L) (hd:∀d,o.dst=some d→d < N) {x:Operand} {X:ax.X} {t e:TypeId} {pP:Nat} {lo hi mx:Option Operand} {LO HI MX:Option ax.X} (hx:bQ nm X x) (ho:o.op = .slice t x lo hi mx) (ht:P.underlying t=some (.slice e)) (hs:jO P e=some pP) (oJ:pP≠0)
  (B4:∀x,lo=some x→∃y,LO=some y∧bQ nm y x) (Jv:lo=none→LO=none) (Jm:∀x,hi=some x→∃y,HI=some y∧bQ nm y x) (Jn:hi=none→HI=none)
  (vt:∀x,mx=some x→∃y,MX=some y∧bQ nm y x) (ajG:mx=none→MX=none) (ajH:mx≠none→hi≠none)
  (hr:(bq Cl d (.slice pP X LO HI MX)).run S=some r):dx P a w o (dO nm N S w L a o.dst r.1 r.2):=by
 simp only [bq] at hr;obtain ⟨v1,h1,h2⟩:=Q.aK hr;clear hr;have r1:=rd_val R hx h1;have bnd:∀{l h len cap:Nat},(qy LO 0).run S=some l→(qy HI len).run S=some h→l≤h→h≤len→len≤cap→(Instr.sliceBounds true len cap (lo.map a.eval) (hi.map a.eval) none).run P w = .ok (l,h,cap) w:=
  fun h3 h5 g1 g2 g3=>adk ((Da R B4 Jv h3).imp (fun h=>⟨by rw [h.1];rfl,h.2⟩) (fun ⟨x,k,h1,h2⟩=>⟨k,by rw [h1];simp [h2]⟩))
   ((Da R Jm Jn h5).imp (fun h=>⟨by rw [h.1];rfl,h.2⟩) (fun ⟨x,k,h1,h2⟩=>⟨k,by rw [h1];simp [h2]⟩)) g1 g2 g3
 have ex:∀{b:Option Addr} {len cap l h:Nat},a.eval x = .slice b len cap→mx=none→(qy LO 0).run S=some l→(qy HI len).run S=some h→l≤h→h≤len→len≤cap→
   (execOp a.eval o).run P w = .ok (.value (.slice (if cap=l then b else b.map (·.add (l * pP))) (h - l) (cap - l))) w:=by
  intro b len cap l h hb hm h3 h5 g1 g2 g3;have hbd:=bnd h3 h5 g1 g2 g3;have:(Instr.sliceAt t (a.eval x) (lo.map a.eval) (hi.map a.eval) (mx.map a.eval)).run P w = .ok (.slice (if cap=l then b else b.map (·.add (l * pP))) (h - l) (cap - l)) w:=by
   rw [hb,hm];simp [Instr.sliceAt,Instr.slice,run_underlying ht,hbd,yn hs]
  simp [execOp,ho,this]
 split at h2
 ·cases h2
 ·rename_i t' sz rows sH;obtain ⟨l,h3,h4⟩:=Q.aK h2;clear h2;obtain ⟨h,h5,h6⟩:=Q.aK h4;clear h4;obtain ⟨hg,h7⟩:=Q.ei h6;clear h6;simp only [bK,fA,wL,eU,List.isEmpty_iff] at hg;obtain ⟨⟨aj3,E7⟩,jV⟩:=hg;have ZD:=r1.cL;have ajS:∃u,a.eval x=u∧fM w L (.sl t' sz rows) u:=by
   refine ⟨_,rfl,?_⟩;generalize a.eval x=u at ZD;cases ZD with
   | d hd=>
    cases hd with
    | plain hp=>exact hp
    | jk=>simp at sH
    | own=>simp at sH
  obtain ⟨u,hu,hp⟩:=ajS;split at h7
  ·
   have hm:mx=none:=by
    cases mx with
    | none=>rfl
    | some m=>obtain ⟨y,hy,_⟩:=vt m rfl;cases hy
   obtain rfl:=Q.aZ h7;cases hp with
   | nil=>
    have nL:l=0:=by simp at jV;omega
    have Qj:h=0:=by simpa using jV
    subst nL;subst Qj;refine fp R hd (v:=.slice none 0 0) ?_ (.one (.d (.plain (by simpa using fM.nil))));have:=ex hu hm h3 h5 (bT _) (bT _) (bT _);simpa using this
   | @mD _ ad cap=>
    have nL:l=0:=by simp at jV;omega
    have Qj:h=0:=by simpa using jV
    subst nL;subst Qj;refine fp R hd (v:=.slice (if cap=0 then some ad else (some ad).map (·.add (0 * pP))) 0 (cap - 0)) ?_ (.one (.d (.plain (by split<;>simpa using fM.mD))));exact ex hu hm h3 h5 (bT _) (bT _) (yE _)
   | @pl sz rows B o' cap cur e' fz val az bf P1 hL hB hlen oK dM=>
    obtain rfl:sz=pP:=aj3.resolve_right az;refine fp R hd (ex hu hm h3 h5 E7 jV P1) (.one (.d (.plain ?_)));by_cases hlh:h=l
    ·rw [hlh,DV,HJ];split<;>exact .mD
    ·have aS:cap≠l:=by omega
     have fW:((rows.drop l).take (h - l)).length=h - l:=by rw [AU,Nb];omega
     rw [aB aS];show fM w L _ (.slice (some ((⟨B,o',none⟩:Addr).add (l * sz))) (h - l) (cap - l));rw [oj];have fF:∀i c y,cellOf ((rows.drop l).take (h - l)) i c=some y→cellOf rows (l+i) c=some y:=by
      intro i c y hy;obtain ⟨rr,k1,k2⟩:=kJ.1 hy;have kN:i < h - l:=by
       have:=(cw.1 k1).1;rw [fW] at this;exact this
      rw [yA kN,tC] at k1;exact kJ.2 ⟨rr,k1,k2⟩
     suffices aj2:fM w L (.sl (.im false) sz ((rows.drop l).take (h - l))) (.slice (some ⟨B,o'+l * sz,none⟩) ((rows.drop l).take (h - l)).length (cap - l)) by rwa [fW] at aj2
     refine .pl (fun i c=>val (l+i) c) ?_ bf (by omega) hL hB ?_ ?_ ?_
     ·intro e0;rw [e0] at fW;simp at fW;omega
     ·intro r1 jX;exact hlen r1 (Nf (DT jX))
     ·intro i c y hy;have:=oK _ _ _ (fF i c y hy);rw [lJ] at this;rw [show o'+l * sz+i * sz+c=o'+(l * sz+i * sz)+c by omega];exact this
     ·intro i c y hy;exact dM _ _ _ (fF i c y hy)
  ·
   rename_i mX;obtain ⟨vm,h8,h9⟩:=Q.aK h7;clear h7;obtain ⟨mm,dj,gO⟩:=Q.gw h9;clear h9;obtain ⟨E8,iE⟩:=Q.ei gO;clear gO;simp only [bK,eU] at E8;obtain ⟨⟨rfl,rfl⟩,rfl⟩:=E8;obtain rfl:=Q.aZ iE;cases Jx:mx with
   | none=>cases ajG Jx
   | some m=>
    obtain ⟨y,hy,hym⟩:=vt m Jx;cases hy;obtain ⟨km,hkm⟩:=wR (rd_val R hym h8) dj;obtain ⟨ad,len,cap,FE,QI⟩:∃ad len cap,u = .slice ad len cap∧bt w L ⟨.h 0,0,[]⟩ (.sl t'.XC sz []) (.slice ad 0 0):=by
     cases hp with
     | nil=>exact ⟨_,_,_,rfl,.plain .nil⟩
     | mD=>exact ⟨_,_,_,rfl,.jk⟩
     | pl=>exact ⟨_,_,_,rfl,.jk⟩
    have hiv:∃k,hi.map a.eval=some (.int k 0):=by
     rcases Da R Jm Jn h5 with ⟨h,_⟩ | ⟨x,k,h1,h2⟩
     ·exact absurd h (ajH (by rw [Jx];simp))
     ·exact ⟨k,by rw [h1];simp [h2]⟩
    obtain ⟨kh,hkh⟩:=hiv;have mg:(lo.map a.eval=none)∨∃k,lo.map a.eval=some (.int k 0):=by
     rcases Da R B4 Jv h3 with ⟨h,_⟩ | ⟨x,k,h1,h2⟩
     ·exact .inl (by rw [h];rfl)
     ·exact .inr ⟨k,by rw [h1];simp [h2]⟩
    refine fp R hd (v:=.slice ad 0 0) ?_ (.one (.d QI));have:(Instr.sliceAt t (a.eval x) (lo.map a.eval) (hi.map a.eval) (mx.map a.eval)).run P w = .ok (.slice ad 0 0) w:=by
     rw [hu,FE,hkh,Jx];rcases mg with mg | ⟨kl,mg⟩<;>rw [mg]<;>
      simp [Instr.sliceAt,Instr.slice,run_underlying ht,Instr.sliceBounds,Instr.sliceBound,asIntOf,hkm,yn hs]
    simp [execOp,ho,this]
 ·rename_i pl g sz off len;obtain ⟨l,h3,h4⟩:=Q.aK h2;clear h2;obtain ⟨h,h5,h6⟩:=Q.aK h4;clear h4;obtain ⟨hg,h7⟩:=Q.ei h6;clear h6;simp only [bK,fA,eU,U6] at hg;obtain ⟨⟨⟨⟨rfl,E7⟩,jV⟩,Qw⟩,vk⟩:=hg;have hm:mx=none:=by
   cases mx with
   | none=>rfl
   | some m=>obtain ⟨y,hy,_⟩:=vt m rfl;rw [Qw] at hy;cases hy
  obtain rfl:=Q.aZ h7;cases r1.cL with
  | view iH hh gA hV=>
   obtain ⟨b,cap,hb,ub,qd⟩:=iH;refine fp R hd (ex hb hm h3 h5 E7 jV ub) (.one (.view ?_ hh gA (fun he=>?_)))
   ·refine ⟨_,_,rfl,by omega,?_⟩;obtain ⟨ad,rfl⟩:=yF.1 qd;split<;>rfl
   ·rcases hV he with ⟨h0,a0,cm⟩ | ⟨B,o',yT,cur,e',fz,cm,bf,hL,hB,cU,arp,dG,Px⟩
    ·rw [hb] at cm;simp only [Value.slice.injEq] at cm;obtain ⟨rfl,_,rfl⟩:=cm;have:l=0:=by omega
     subst this;exact .inl ⟨by omega,a0,by simp;omega⟩
    ·rw [hb] at cm;simp only [Value.slice.injEq,lh] at cm;obtain ⟨rfl,rfl⟩:=cm;by_cases aS:cap=l
     ·subst aS;exact .inl ⟨by omega,_,by rw [aJ rfl,show h - cap=0 from by omega,DV]⟩
     ·right;refine ⟨B,o',cap - l,cur,e',fz,?_,bf,hL,hB,cU,by omega,?_,fun q1 q2=>Px (by omega) (by simp only [wL,fA,eU] at vk;omega)⟩
      ·rw [aB aS];show Value.slice (some ((⟨B,o'+off * sz,none⟩:Addr).add (l * sz))) _ _=_;rw [oj,lJ,pX]
      ·rw [lJ];have:(cap - l) * sz+l * sz=cap * sz:=by rw [←lJ,Nat.sub_add_cancel (by omega)]
       omega
 ·cases h2
end
end
section
section
variable {nm:FuncId→Option Nat} {N:Nat} {S S0:St} {a:Act} {w w0:World} {L L0:aw} {P:Program} {o:Oper} {Cl:bX} {d:Nat} {r:V×List Wr} {ws:List Wr}
theorem C1 {α β:Type} {f:α→Option β}:∀(l:List α) {r:List β},l.mapM f=some r→r.length=l.length∧∀(j:Nat) y,r[j]? = some y→∃x,l[j]? = some x∧f x=some y
 | [],r,h=>by
  have:r=[]:=by simpa using h.symm
  subst this;exact ⟨rfl,fun j y hy=>by simp at hy⟩
 | x::l,r,h=>by
  rw [mL] at h;cases hx:f x with
  | none=>simp [hx] at h
  | some y=>
   cases hl:l.mapM f with
   | none=>simp [hx,hl] at h
   | some r'=>
    simp [hx,hl] at h;subst h;obtain ⟨h1,h2⟩:=C1 l hl;refine ⟨by simp [h1],fun j z hz=>?_⟩;cases j with
    | zero=>simp at hz;subst hz;exact ⟨x,rfl,hx⟩
    | succ j=>obtain ⟨x',g1,g2⟩:=h2 j z (by simpa using hz);exact ⟨x',by simpa using g1,g2⟩
def uQ (c:C) (u:Value):Prop:=(∃sz,Bn sz u=some c)
theorem uQ.rep {c:C} {u:Value} (h:uQ c u) (w:World) (L:aw) (γ:Key→Nat) (k:Key) (j:Nat):aG nm w L γ k j c u:=by
 obtain ⟨sz,h⟩:=h;exact (IE h).1 w L γ k j
theorem uQ.own {c:C} {u:Value} (h:uQ c u):c.own=false:=by
 obtain ⟨sz,h⟩:=h;exact (IE (nm:=fun _=>none) h).2
theorem AP {t:TypeId} {zs:List C} (h:pU P t=some zs):∃i z,P.info? t=some i∧i.zero=some z∧z.cells.size=zs.length∧z.cells.size=i.size∧∀(j:Nat) c u,zs[j]? = some c→z.cells[j]? = some u→uQ c u:=by
 unfold pU at h;split at h
 ·rename_i i l h1 h2;split at h
  ·rename_i z hz;split at h
   ·rename_i hc;obtain ⟨g1,g2⟩:=C1 _ h;refine ⟨i,z,h1,hz,by rw [g1];simp [←hc.1],hc.2,?_⟩;intro j c u hj hu;obtain ⟨x,k1,k2⟩:=g2 j c hj;rw [aeI] at k1;have:x.2=u:=by
     have:=k1.2;rw [DO,hu] at this;simpa using this.symm
    rw [this] at k2;exact ⟨_,k2⟩
   ·cases h
  ·cases h
 ·cases h
theorem V6 (M:cg nm N S0 w0 L0 ws a w L) {m:Nat} {cs:List C} {vs:Array Value} {e:TypeId} (hl:cs.length=vs.size)
  (hx:∀(j:Nat) x v,cs[j]? = some x→vs[j]? = some v→aG nm w L (S0.ah ws).γ (.h m) j x v) (hr:(boxed d cs ws).run S0=some r) {dst:Option Nat} (hd:∀d,dst=some d→d < N) :
  dO nm N S0 w0 L0 a dst r.1 r.2 (.pointer (some ⟨w.heap.size,0,none⟩)) (w.alloc (.cells vs e)):=by
 unfold boxed at hr;rw [Q.run_bind,uV,Option.bind_some] at hr;obtain ⟨hg,h2⟩:=Q.ei hr;clear hr;obtain rfl:=Q.aZ h2;have hn:cj ((S0.ah ws).E (.r (.l d)))=0∨cj ((S0.ah ws).E (.r (.l d)))=cs.length:=by
  simpa using hg
 obtain ⟨R,hm,_⟩:=M.rel.sV (r:=.l d) (cs:=cs) (vs:=vs) (e:=e) rfl (by simp) hl hn hx;have hγ:S0.γ (.r (.l d))+1≤(S0.ah (gf (.l d) 0 cs ({ k:=.r (.l d),v:=fx cs.length } :: ws))).γ (.r (.l d)):=by
  refine jd ?_ (Bj S0 (.l d) cs 0 ({ k:=.r (.l d),v:=fx cs.length } :: ws) (.r (.l d))).2.2.2;simp only [St.ah,St.jS,bW];have:=St.wM S0 ws (.r (.l d));simp;exact this
 exact R.fZ (M.mono.trans hm) hd (.one (.ptr (k:=.h 0) ⟨_,rfl⟩ hγ (fun _=>⟨_,0,yO,rfl⟩)))
theorem ahX (R:Rel nm N S a w L) (hd:∀d,o.dst=some d→d < N) {t:TypeId} {zs:List C} (ho:o.op = .alloc t) (hz:pU P t=some zs)
  (hr:(bq Cl d (.alloc zs)).run S=some r):dx P a w o (dO nm N S w L a o.dst r.1 r.2):=by
 simp only [bq] at hr;obtain ⟨i,z,h1,h2,h3,h4,h5⟩:=AP hz;refine .val (v:=.pointer (some ⟨w.heap.size,0,none⟩)) (w':=w.alloc (.cells z.cells t)) ?_ (V6 (cg.init R) (m:=0) h3.symm (fun j x v hx hv=>(h5 j x v hx hv).rep _ _ _ _ _) hr hd);have:(Instr.alloc t true (.tuple #[])).run P w = .ok (.pointer (some ⟨w.heap.size,0,none⟩)) (w.alloc (.cells z.cells t)):=by
  simp [Instr.alloc,zeroValue,typeInfo,h1,h2,newVar,newRow]
 simp [execOp,ho,this]
theorem apQ {c:C} {r:C×List Wr} (h:(st ws c).run S=some r):c≠.dead:=by
 rintro rfl;simp [st] at h
theorem adv:∀(cs:List C) {ws:List Wr} {r:List C×List Wr},(lE ws cs).run S=some r→∀c∈cs,c≠.dead
 | [],_,_,_,c,hc=>by simp at hc
 | x::cs,ws,r,h,c,hc=>by
  simp only [lE] at h;obtain ⟨r1,h1,h2⟩:=Q.aK h;obtain ⟨r2,h3,_⟩:=Q.aK h2;rcases gT.1 hc with rfl | hc
  ·exact apQ h1
  ·exact adv cs h3 c hc
theorem mO.cells {γ0 γ:Key→Nat} (hs:Step w0 w L0 L γ0 γ) {m:Nat} {x:V} {v:Value} (h:mO nm w0 L0 γ0 w L γ m x v) (hx:∀vs,x≠.aq vs) (hl:∀c∈x.cells,c≠.dead) :
  x.cells.length=v.cells.size∧∀(j:Nat) c u,x.cells[j]? = some c→v.cells[j]? = some u→iQ nm w0 L0 γ0 w L γ m j c u:=by
 cases x with
 | one c=>
  have hc:iQ nm w0 L0 γ0 w L γ m 0 c v:=h;have h1:=(hc.rep hs).vV (hl c (by simp [V.cells]));have hv:v.cells = #[v]:=by cases v<;>first | rfl | simp [Value.oneCell'] at h1
  rw [hv];refine ⟨rfl,fun j c' u h2 h3=>?_⟩;cases j with
  | zero=>simp [V.cells] at h2 h3;subst h2;subst h3;exact hc
  | succ j=>simp [V.cells] at h2
 | agg cs=>
  obtain ⟨vs,rfl,h1,h2⟩:=h;exact ⟨h1,h2⟩
 | aq vs=>exact absurd rfl (hx vs)
theorem aq2 {v:V} {n:Nat} (hn:n≠0) {cs:List C} (h:cs.length=n) (hv:cs.length=v.cells.length):∀vs,v≠.aq vs:=by
 rintro vs rfl;have:cs.length=0:=hv;omega
theorem Ma (M:cg nm N S0 w0 L0 ws a w L) (R0:Rel nm N S0 a w0 L0) {m:Nat} (hm:qM L m) {x:Operand} {X:ax.X} (hx:bQ nm X x) (aQ:X.iJ=true) {v:V} {fe:List Wr} (h1:(tk ws X).run S0=some (v,fe)) {cs:List C} {fy:List Wr}
  (h2:(lE fe v.cells).run S0=some (cs,fy)) (hn:cs.length≠0) :
  ∃L',Out nm N S0 w0 L0 ws fy a w L L' (fun q=>q.k≠.h m) m∧cs.length=(a.eval x).cells.size∧
   ∀(j:Nat) c u,cs[j]? = some c→(a.eval x).cells[j]? = some u→aG nm w L' (S0.ah fy).γ (.h m) j c u:=by
 obtain ⟨L1,O1,V1⟩:=wv M R0 hm aQ hx h1;have hlen:cs.length=v.cells.length:=by
  have:∀(l:List C) (ws:List Wr) (r:List C×List Wr),(lE ws l).run S0=some r→r.1.length=l.length:=by
   intro l;induction l with
   | nil=>intro ws r h;simp only [lE] at h;obtain rfl:=Q.aZ h;rfl
   | cons y l ih=>
    intro ws r h;simp only [lE] at h;obtain ⟨r1,g1,g2⟩:=Q.aK h;obtain ⟨r2,g3,g4⟩:=Q.aK g2;obtain rfl:=Q.aZ g4;simp [ih _ _ g3]
  exact this _ _ _ h2
 have qm:∀vs,v≠.aq vs:=aq2 hn rfl hlen;obtain ⟨c1,c2⟩:=V1.cells O1.mid.dh qm (adv _ h2)
 obtain ⟨L2, O2, l2, R2⟩ := MG (m := m) v.cells O1.mid 0 (fun j => (a.eval x).cells.getD j undef) (fun j c hc => by
   have hj : j < (a.eval x).cells.size := by rw [← c1]; exact (cw.1 hc).1
   have := c2 j c _ hc (og hj)
   simpa [Array.getD, hj] using this) h2
 refine ⟨L2,(O1.weaken (fun _ _=>trivial)).trans (O2.weaken (fun q hq h=>hq h.1)),by rw [←c1];exact l2,?_⟩;intro j c u hc hu;have:=R2 j c hc;simpa [iw,hu] using this
theorem ah2 (R:Rel nm N S a w L) (hH:eJ L) (hd:∀d,o.dst=some d→d < N) {t:TypeId} {n:Nat} {x:Operand} {X:ax.X} (hx:bQ nm X x) (aQ:X.iJ=true) (ho:o.op = .box t x) (hn:n≠0)
  (hr:(bq Cl d (.box n X)).run S=some r):dx P a w o (dO nm N S w L a o.dst r.1 r.2):=by
 simp only [bq] at hr;obtain ⟨⟨v,fe⟩,h1,h2⟩:=Q.aK hr;clear hr;obtain ⟨⟨cs,fy⟩,h3,h4⟩:=Q.aK h2;clear h2;obtain ⟨hg,h5⟩:=Q.ei h4;clear h4;simp only [eU] at hg;obtain ⟨L',O,hl,hc⟩:=Ma (cg.init R) R (m:=0) (fun B q o hB e=>by have:=hH B q o hB;rw [e] at this;simp [Key.aT] at this) hx aQ h1 h3 (by omega);refine .val (v:=.pointer (some ⟨w.heap.size,0,none⟩)) (w':=w.alloc (.cells (a.eval x).cells t)) ?_ (V6 O.mid hl hc h5 hd);have:(Instr.box t (a.eval x)).run P w = .ok (.pointer (some ⟨w.heap.size,0,none⟩)) (w.alloc (.cells (a.eval x).cells t)):=by
  simp [Instr.box,newVar,newRow]
 simp [execOp,ho,this]
end
end
section
section
variable {nm:FuncId→Option Nat} {N:Nat} {S S0:St} {a:Act} {w w0:World} {L L0:aw} {P:Program} {o:Oper} {Cl:bX} {d:Nat} {r:V×List Wr} {ws:List Wr}
theorem cg.wh (M:cg nm N S0 w0 L0 ws a w L) {f:Place→Option Place} (Ji:∀q:Place,q.k.aT=true→f q=some q) (vg:∀q t,f q=some t→t.k.aT=true→q=t) (q6:∀q q' t,f q=some t→f q'=some t→q=q') :
  cg nm N S0 w0 L0 ws a w (cG f L)∧Step w w L (cG f L) (S0.ah ws).γ (S0.ah ws).γ:=by
 have bp:Step w w L (cG f L) (S0.ah ws).γ (S0.ah ws).γ:=
  ⟨fun B hB=>⟨jL.2 hB,rfl⟩,fun _=>bT _,fun B q o hq _ hB=>⟨gL hB (Ji q hq),fun cur e fz h=>⟨cur,h,rfl⟩⟩,fun _ _ _ _ _ _ _=>rfl,fun B r o _ hB=>jv.2 hB⟩
 refine ⟨⟨M.rel.wh Ji q6,M.dh.trans bp,M.mono.trans (G4 f),?_,M.heap,M.vH,fun B r o hB=>jv.2 (M.boxes B r o hB)⟩,bp⟩;intro B q o hq hB;obtain ⟨q0,h1,h2⟩:=oS hB;rw [vg q0 q h2 hq] at h1;exact M.rows B q o hq h1
theorem aG.acw {f:Place→Option Place} {k k':Key} {j j':Nat} {γ:Key→Nat} {c:C} {v:Value} (bp:Step w w L (cG f L) γ γ) (h:aG nm w L γ k j c v) (hf:∀p,f ⟨k,j,p⟩=some ⟨k',j',p⟩) (hkk:(∃r c,k = .b r c)→∃r c,k' = .b r c:=by first | exact fun h=>h | exact fun _=>⟨_,_,rfl⟩ | (rintro ⟨r,c,h⟩;cases h;done)):aG nm w (cG f L) γ k' j' c v:=by
 refine h.step bp ?_ (hkk:=hkk);intro B q o h1 h2 hL;refine ⟨gL hL ?_,rfl⟩;have:=hf q.p;rw [←h1,←h2] at this;exact this
def sZ (off n:Nat):Place→Option Place:=fun q=>
 if q.k = .h 1 then (if q.j < n then some ⟨.h 0,off+q.j,q.p⟩ else none)
 else if q.k = .h 0 then (if off≤q.j∧q.j < off+n then none else some q)
 else some q
theorem L8 {off n:Nat} {q t:Place} (h:sZ off n q=some t):(q.k = .h 1∧q.j < n∧t=⟨.h 0,off+q.j,q.p⟩)∨(q.k = .h 0∧¬ (off≤q.j∧q.j < off+n)∧t=q)∨(q.k≠.h 1∧q.k≠.h 0∧t=q):=by
 unfold sZ at h;split at h
 ·split at h
  ·simp only [ai] at h;exact .inl ⟨‹_›,‹_›,h.symm⟩
  ·cases h
 ·split at h
  ·split at h
   ·cases h
   ·simp only [ai] at h;exact .inr (.inl ⟨‹_›,‹_›,h.symm⟩)
  ·simp only [ai] at h;exact .inr (.inr ⟨‹_›,‹_›,h.symm⟩)
theorem aot {off n:Nat} {q q' t:Place} (h1:sZ off n q=some t) (h2:sZ off n q'=some t):q=q':=by
 rcases L8 h1 with ⟨a1,a2,a3⟩ | ⟨a1,a2,a3⟩ | ⟨a1,a2,a3⟩<;>rcases L8 h2 with ⟨b1,b2,b3⟩ | ⟨b1,b2,b3⟩ | ⟨b1,b2,b3⟩
 ·rw [a3] at b3;simp only [Place.mk.injEq,lh] at b3;obtain ⟨k,j,p⟩:=q;obtain ⟨k',j',p'⟩:=q';simp only at *;rw [a1,b1,b3.2,show j=j' by omega]
 ·exact absurd (by rw [←b3,a3];simp;omega) b2
 ·exact absurd (by rw [←b3,a3]) b2
 ·exact absurd (by rw [←a3,b3];simp;omega) a2
 ·rw [←a3,←b3]
 ·exact absurd (by rw [←b3,a3];exact a1) b2
 ·exact absurd (by rw [←a3,b3]) a2
 ·exact absurd (by rw [←a3,b3];exact b1) a2
 ·rw [←a3,←b3]
theorem aos {off n:Nat} {q:Place} (h:q.k.aT=true):sZ off n q=some q:=by
 unfold sZ;rw [aB (fun e=>by rw [e] at h;simp [Key.aT] at h),aB (fun e=>by rw [e] at h;simp [Key.aT] at h)]
theorem aor {off n:Nat} {q t:Place} (h:sZ off n q=some t) (ht:t.k.aT=true):q=t:=by
 rcases L8 h with ⟨_,_,rfl⟩ | ⟨_,_,h⟩ | ⟨_,_,h⟩
 ·simp [Key.aT] at ht
 ·exact h.symm
 ·exact h.symm
def Ho (cells:Array Value) (off:Nat) (vs:Array Value):Array Value:=vs.zipIdx.foldl (fun cs (c,j)=>cs.setIfInBounds (off+j) c) cells
theorem adZ (off:Nat):∀(l:List Value) (j0:Nat) (cells:Array Value),((l.zipIdx j0).foldl (fun cs (c,j)=>cs.setIfInBounds (off+j) c) cells).size=cells.size∧
  ∀k,k < cells.size→((l.zipIdx j0).foldl (fun cs (c,j)=>cs.setIfInBounds (off+j) c) cells)[k]? = if off+j0≤k∧k < off+j0+l.length then l[k - (off+j0)]? else cells[k]?
 | [],j0,cells=>⟨rfl,fun k hk=>by simp;intro h1 h2;omega⟩
 | v::l,j0,cells=>by
  obtain ⟨h1,h2⟩:=adZ off l (j0+1) (cells.setIfInBounds (off+j0) v);simp only [List.zipIdx_cons,UQ];refine ⟨by rw [h1];simp,fun k hk=>?_⟩;rw [h2 k (by simpa using hk)];by_cases tZ:off+(j0+1)≤k∧k < off+(j0+1)+l.length
  ·rw [aJ tZ,aJ ⟨by omega,by simp;omega⟩,show k - (off+j0)=(k - (off+(j0+1)))+1 by omega,yx]
  ·rw [aB tZ];by_cases ku:k=off+j0
   ·subst ku;rw [aJ ⟨bT _,by simp⟩,DV];simp [wK,hk]
   ·rw [yw (fun e=>ku e.symm),aB (by simp;omega)]
theorem ad0 (cells:Array Value) (off:Nat) (vs:Array Value):(Ho cells off vs).size=cells.size∧∀k,k < cells.size→(Ho cells off vs)[k]? = if off≤k∧k < off+vs.size then vs[k - off]? else cells[k]?:=by
 have:=adZ off vs.toList 0 cells;unfold Ho;rw [←UB,Array.toList_zipIdx];simpa using this
theorem apK {α:Type} {l:List α} {off:Nat} {cs:List α} (h:off+cs.length≤l.length) (k:Nat):(DA l off cs)[k]? = if off≤k∧k < off+cs.length then cs[k - off]? else l[k]?:=by
 unfold DA;have h1:(l.take off).length=off:=by rw [AU];omega
 by_cases hk:k < off
 ·rw [ek,nB (by omega),yA hk,aB (by omega)]
 ·by_cases ku:k < off+cs.length
  ·rw [ek,nC (by omega),h1,nB (by omega),aJ ⟨by omega,ku⟩]
  ·rw [nC (by rw [eu,h1];omega),eu,h1,tC,aB (by omega)];congr 1;omega
theorem apL {α:Type} {l:List α} {off:Nat} {cs:List α} (h:off+cs.length≤l.length):(DA l off cs).length=l.length:=by
 simp [DA];omega
def HR (nm:FuncId→Option Nat) (place:Nat→Option (Nat×Nat)):List (Nat×Nat×ax.X)→List (Nat×Operand)→Prop
 | [],[]=>True
 | (off,n,X)::t,(i,x)::t'=>place i=some (off,n)∧n≠0∧bQ nm X x∧X.iJ=true∧HR nm place t t'
 | _,_=>False
theorem XU (R0:Rel nm N S0 a w0 L0) {place:Nat→Option (Nat×Nat)}:∀(parts:List (Nat×Nat×ax.X)) (ps:List (Nat×Operand)) {ws:List Wr} {L:aw} {cells:List C} {vs:Array Value} (M:cg nm N S0 w0 L0 ws a w L) (hf:qM L 1)
  (hl:cells.length=vs.size) (hc:∀(j:Nat) c u,cells[j]? = some c→vs[j]? = some u→aG nm w L (S0.ah ws).γ (.h 0) j c u) (hp:HR nm place parts ps) {r:List C×List Wr} (hr:(EB ws cells parts).run S0=some r),
  ∃L' eR,Instr.fill place vs (ps.map fun p=>(p.1,a.eval p.2))=some eR∧cg nm N S0 w0 L0 r.2 a w L'∧r.1.length=eR.size∧∀(j:Nat) c u,r.1[j]? = some c→eR[j]? = some u→aG nm w L' (S0.ah r.2).γ (.h 0) j c u
 | [],[],ws,L,cells,vs,M,hf,hl,hc,hp,r,hr=>by
  simp only [EB] at hr;obtain rfl:=Q.aZ hr;exact ⟨L,vs,rfl,M,hl,hc⟩
 | (off,n,X)::parts,(i,x)::ps,ws,L,cells,vs,M,hf,hl,hc,hp,r,hr=>by
  obtain ⟨cK,hn,hx,aQ,hp⟩:=hp;simp only [EB] at hr;obtain ⟨⟨v,fe⟩,h1,h2⟩:=Q.aK hr;clear hr;obtain ⟨⟨cs,fy⟩,h3,h4⟩:=Q.aK h2;clear h2;obtain ⟨hg,h5⟩:=Q.ei h4;clear h4;simp only [bK,eU,fA] at hg;obtain ⟨aS,Fv⟩:=hg;obtain ⟨L1,O1,jH,dF⟩:=Ma M R0 hf hx aQ h1 h3 (by omega);obtain ⟨M2,bp⟩:=O1.mid.wh (f:=sZ off n) (fun q hq=>aos hq) (fun q t h ht=>aor h ht) (fun q q' t a b=>aot a b);have Qd:qM (cG (sZ off n) L1) 1:=by
   intro B q o hB e;obtain ⟨q0,_,h2⟩:=oS hB;rcases L8 h2 with ⟨_,_,h⟩ | ⟨h6,_,h⟩ | ⟨h6,_,h⟩
   ·rw [h] at e;simp at e
   ·rw [h,h6] at e;simp at e
   ·rw [h] at e;exact h6 e
  obtain ⟨u1,u2⟩:=ad0 vs off (a.eval x).cells;have hle:off+cs.length≤cells.length:=by omega
  obtain ⟨L', eR, g1, g2, g3, g4⟩ := XU R0 parts ps (cells := DA cells off cs) (vs := Ho vs off (a.eval x).cells) M2 Qd (by rw [apL hle, u1]; exact hl) (by
    intro j c u hj hu
    rw [apK hle] at hj
    have Qp : j < vs.size := by rw [← u1]; exact (lH.1 hu).1
    rw [u2 j Qp, ← jH] at hu
    by_cases kO : off ≤ j ∧ j < off + cs.length
    · rw [aJ kO] at hj hu
      have := aG.acw (k' := .h 0) (j' := j) bp (dF (j - off) c u hj hu) (fun p => by
        simp only [sZ, bW]; rw [aJ (by omega), show off + (j - off) = j by omega])
      exact this
    · rw [aB kO] at hj hu
      have h0 := (hc j c u hj hu).keep O1.keep (fun p => by simp)
      exact aG.acw bp h0 (fun p => by
        simp only [sZ]; rw [aB (by simp), aJ trivial, aB (by omega)])) hp h5
  refine ⟨L',eR,?_,g2,g3,g4⟩;simp only [gl,Instr.fill,cK];rw [aB (by simp;omega)];exact g1
 | [],_::_,_,_,_,_,_,_,_,_,hp,_,_=>hp.elim
 | (_,_,_)::_,[],_,_,_,_,_,_,_,_,hp,_,_=>hp.elim
theorem acT {α β:Type} {f:α→Sem β} {g:α→β}:∀(l:List α),(∀x∈l,(f x).run P w = .ok (g x) w)→(l.mapM f).run P w = .ok (l.map g) w
 | [],_=>by simp
 | x::l,h=>by
  rw [mL];simp [h x (by simp),acT l (fun y hy=>h y (by simp [hy]))]
theorem ah5 (R:Rel nm N S a w L) (hH:eJ L) (hd:∀d,o.dst=some d→d < N) {t:TypeId} {fs:Array Field} {parts:Array (Nat×Operand)} {zs:List C} {ps:List (Nat×Nat×ax.X)} (ho:o.op = .build t parts) (hz:pU P t=some zs) (ht:P.underlying t=some (.struct fs))
  (zq:∀f∈fs.toList,(jO P f.type).isSome=true) (hp:HR nm (fun i=>(fs.map fun f=>(f.offset,(jO P f.type).getD 0))[i]?) ps parts.toList)
  (hr:(bq Cl d (.build zs ps)).run S=some r):dx P a w o (dO nm N S w L a o.dst r.1 r.2):=by
 simp only [bq] at hr;obtain ⟨⟨cs,fe⟩,h1,h2⟩:=Q.aK hr;clear hr;obtain rfl:=Q.aZ h2;obtain ⟨i,z,k1,k2,k3,k4,k5⟩:=AP hz;obtain ⟨L',eR,g1,g2,g3,g4⟩:=XU R ps parts.toList (cg.init R) (fun B q o hB e=>by have:=hH B q o hB;rw [e] at this;simp [Key.aT] at this) (cells:=zs) (vs:=z.cells) k3.symm
  (fun j c u hj hu=>(k5 j c u hj hu).rep _ _ _ _ _) hp h1
 refine .val (v:=.agg eR) (w':=w) ?_ (g2.rel.fZ g2.mono hd (.agg g3 g4));have hm:(fs.mapM fun f=>do pure (f.offset,←sizeOf f.type):Sem _).run P w = .ok (fs.map fun f=>(f.offset,(jO P f.type).getD 0)) w:=by
  rw [aeF]
  rw [Sem.run_map, acT (g := fun f => (f.offset, (jO P f.type).getD 0)) fs.toList (fun f hf => by
    obtain ⟨n, hn⟩ := yF.1 (zq f hf)
    simp [yn hn, hn])]
  simp only [Result.andThen_ok];congr 1;apply rR;simp
 have:(Instr.build t (parts.map fun (i,x)=>(i,a.eval x))).run P w = .ok (.agg eR) w:=by
  simp only [Instr.build,Sem.run_bind,zeroValue,typeInfo,run_program,k1,k2,Result.andThen_ok,Sem.run_pure,run_underlying ht,hm];have zD:(parts.map fun (i,x)=>(i,a.eval x)).toList=parts.toList.map fun p=>(p.1,a.eval p.2):=by simp
  rw [zD,g1];rfl
 simp [execOp,ho,this]
end
end
section
section
variable {nm:FuncId→Option Nat} {N:Nat} {S S0:St} {a:Act} {w w0:World} {L L0:aw} {P:Program} {o:Oper} {Cl:bX} {d:Nat} {r:V×List Wr} {ws:List Wr}
theorem Rel.LD {S:St} (h:Rel nm N S a w L) {m j:Nat} (hm:∀B o,L B≠some (.row ⟨.h m,j,[]⟩ o)) {w':World} {cur:Array Value} {e:TypeId} {fz:Nat×Nat} {rows:List (List D)} {val:Nat→Nat→Value} {sz cap:Nat}
  (hw:w'.heap[w.heap.size]? = some (.cells cur e fz)) (ho:∀B,B≠w.heap.size→w'.heap[B]? = w.heap[B]?) (cU:jA cur.size fz) (xo:w'.os=w.os∧w'.tape=w.tape∧w'.output=w.output∧w.heap.size≤w'.heap.size)
  (bf:0 < sz) (hlen:∀r∈rows,r.length=sz) (dL:rows.length≤cap) (dG:cap * sz≤cur.size) (hv:pe rows sz 0 cur val) (hc:oZ w L ⟨.h m,j,[]⟩ rows val) (dX:tJ rows e) :
  Rel nm N S a w' (L.put w.heap.size (.row ⟨.h m,j,[]⟩ 0))∧dc w w' L (L.put w.heap.size (.row ⟨.h m,j,[]⟩ 0))∧
   aG nm w' (L.put w.heap.size (.row ⟨.h m,j,[]⟩ 0)) S.γ (.h m) j (.d (.sl .own sz rows)) (.slice (some ⟨w.heap.size,0,none⟩) rows.length cap):=by
 have az:∀B l,L B=some l→B≠w.heap.size:=fun B l hB e=>by rw [e,h.fu.new] at hB;cases hB
 refine ⟨?_,⟨xo.1,xo.2.1,xo.2.2.1,xo.2.2.2,fun B hB=>⟨by rw [aw.gu (az B _ hB)];exact hB,ho B (az B _ hB)⟩,fun B af hB=>⟨by rw [aw.gu (by omega)];exact hB,ho B (by omega)⟩,fun B i o hB=>by rw [aw.gu (az B _ hB)];exact hB⟩,?_⟩
 ·refine h.grow (fun B l hB=>ho B (az B l hB)) (fun B l hB=>by rw [aw.gu (az B l hB)];exact hB) ?_ ?_ ?_
  ·intro B l hB;by_cases he:B=w.heap.size
   ·subst he;exact (lH.1 hw).1
   ·rw [aw.gu he] at hB;exact xh (h.fu B l hB) (ho B he)
  ·intro B B' pl o o' h1 h2;by_cases he:B=w.heap.size
   ·by_cases cY:B'=w.heap.size
    ·rw [he,cY]
    ·subst he;rw [aw.kX] at h1;rw [aw.gu cY] at h2;simp only [ai,bO.row.injEq] at h1;rw [←h1.1] at h2;exact absurd h2 (hm B' o')
   ·rw [aw.gu he] at h1;by_cases cY:B'=w.heap.size
    ·subst cY;rw [aw.kX] at h2;simp only [ai,bO.row.injEq] at h2;rw [←h2.1] at h1;exact absurd h1 (hm B o)
    ·rw [aw.gu cY] at h2;exact h.eN B B' pl o o' h1 h2
  ·intro B B' r o o' h1 h2;by_cases he:B=w.heap.size
   ·subst he;rw [aw.kX] at h1;simp at h1
   ·by_cases cY:B'=w.heap.size
    ·subst cY;rw [aw.kX] at h2;simp at h2
    ·rw [aw.gu he] at h1;rw [aw.gu cY] at h2;exact h.fB B B' r o o' h1 h2
 ·refine .d (.own val bf (aw.kX _ _ _) hw cU hlen dL (by omega) (by simpa [pe] using hv) ?_ dX);intro i c x hx;exact bt.move id (fun _=>True) (fun _ _ _ _=>trivial) (fun _ _ _ _=>rfl) (fun B hB=>⟨by rw [aw.gu (az B _ hB)];exact hB,ho B (az B _ hB)⟩)
   (fun B q o _ hB=>⟨by rw [aw.gu (az B _ hB)];exact hB,ho B (az B _ hB)⟩) (hc i c x hx) trivial
theorem OG:∀{l:List C} {r:List D},mR l=some r→l=r.map .d
 | [],r,h=>by simp only [mR,ai] at h;subst h;rfl
 | c::l,r,h=>by
  cases c with
  | d x=>
   simp only [mR] at h;cases hl:mR l with
   | none=>simp [hl] at h
   | some t=>simp only [hl,fh,ai] at h;subst h;rw [OG hl];rfl
  | _=>simp [mR] at h
theorem uQ.plain {x:D} {u:Value} (h:uQ (.d x) u) (w:World) (L:aw):fM w L x u:=by
 have h1:=h.rep (nm:=fun _=>none) w L (fun _=>0) (.s 0) 0;have h2:=h.own;cases h1 with
 | d h1=>
  cases h1 with
  | plain h1=>exact h1
  | jk=>simp [C.own] at h2
  | own=>simp [C.own] at h2
theorem aeD {zs:List C} {row:List D} {z:Value} {n m:Nat} (hd:mR zs=some row) (hz:z.cells.size=zs.length) (hc:∀(j:Nat) c u,zs[j]? = some c→z.cells[j]? = some u→uQ c u) (jr:n≤m) (xx:zs.length≠0) :
  (∀r∈List.replicate n row,r.length=zs.length)∧∀i c x,cellOf (List.replicate n row) i c=some x→∃u,(madeCells z.cells (m * zs.length))[i * zs.length+c]? = some u∧uQ (.d x) u:=by
 have de:=OG hd;have gB:row.length=zs.length:=by rw [de];simp
 refine ⟨fun r hr=>by rw [aeH hr,gB],?_⟩;intro i c x hx;obtain ⟨r,h1,h2⟩:=kJ.1 hx;have hi:i < n:=by have:=(cw.1 h1).1;simpa using this
 have hr:r=row:=by
  rw [US,aJ hi] at h1;exact (oY h1).symm
 subst hr;have aS:c < zs.length:=by rw [←gB];exact (cw.1 h2).1
 have af:i * zs.length+c < m * zs.length:=vG (by omega) aS;have Fo:(i * zs.length+c) % zs.length=c:=by rw [HM,Nat.mul_add_mod];exact HL aS
 have YO:c < z.cells.size:=by omega
 have hzc:zs[c]? = some (.d x):=by rw [de,bS,h2];rfl
 refine ⟨z.cells[c],?_,hc c (.d x) _ hzc (og YO)⟩;unfold madeCells;rw [Hy,Array.getElem?_range,aJ af];simp only [fh,hz,Fo];rw [getElem!_pos z.cells c YO]
def qF (i sz:Nat):Place→Option Place:=fun q=>
 if q.k = .h 1 then (if q.j < sz then some ⟨.h 0,0,(i,q.j)::q.p⟩ else none)
 else if q.k = .h 0∧q.j=0 then (match q.p with | (i',_)::_=>if i'=i then none else some q | []=>some q)
 else some q
theorem G7 {i sz:Nat} {q t:Place} (h:qF i sz q=some t):(q.k = .h 1∧q.j < sz∧t=⟨.h 0,0,(i,q.j)::q.p⟩)∨(q.k≠.h 1∧(∀c r,¬ (q.k = .h 0∧q.j=0∧q.p=(i,c)::r))∧t=q):=by
 unfold qF at h;split at h
 ·split at h
  ·simp only [ai] at h;exact .inl ⟨‹_›,‹_›,h.symm⟩
  ·cases h
 ·rename_i h1;split at h
  ·rename_i h2;split at h
   ·rename_i i' c' r' hp;split at h
    ·cases h
    ·rename_i az;simp only [ai] at h;exact .inr ⟨h1,fun c r e=>az (by have:=e.2.2;rw [hp] at this;simp only [qK,fL] at this;exact this.1.1),h.symm⟩
   ·rename_i hp;simp only [ai] at h;exact .inr ⟨h1,(fun c r e=>by have:=e.2.2;rw [hp] at this;cases this),h.symm⟩
  ·rename_i h2;simp only [ai] at h;exact .inr ⟨h1,fun c r e=>h2 ⟨e.1,e.2.1⟩,h.symm⟩
theorem apa {i sz:Nat} {q q' t:Place} (h1:qF i sz q=some t) (h2:qF i sz q'=some t):q=q':=by
 rcases G7 h1 with ⟨a1,a2,a3⟩ | ⟨a1,a2,a3⟩<;>rcases G7 h2 with ⟨b1,b2,b3⟩ | ⟨b1,b2,b3⟩
 ·rw [a3] at b3;simp only [Place.mk.injEq,qK,fL,lh] at b3;cases q;cases q';simp_all
 ·exact absurd (by rw [←b3,a3];exact ⟨rfl,rfl,rfl⟩) (b2 q.j q.p)
 ·exact absurd (by rw [←a3,b3];exact ⟨rfl,rfl,rfl⟩) (a2 q'.j q'.p)
 ·rw [←a3,←b3]
theorem ao' {i sz:Nat} {q:Place} (h:q.k.aT=true):qF i sz q=some q:=by
 unfold qF;rw [aB (fun e=>by rw [e] at h;simp [Key.aT] at h),aB (fun e=>by rw [e.1] at h;simp [Key.aT] at h)]
theorem ao9 {i sz:Nat} {q t:Place} (h:qF i sz q=some t) (ht:t.k.aT=true):q=t:=by
 rcases G7 h with ⟨_,_,rfl⟩ | ⟨_,_,h⟩
 ·simp [Key.aT] at ht
 ·exact h.symm
def AZ (nm:FuncId→Option Nat):List (Nat×ax.X)→List (Nat×Operand)→Prop
 | [],[]=>True
 | (i,X)::t,(i',x)::t'=>i=i'∧bQ nm X x∧X.iJ=true∧AZ nm t t'
 | _,_=>False
theorem XW (R0:Rel nm N S0 a w0 L0) {sz:Nat} (bf:0 < sz):∀(parts:List (Nat×ax.X)) (ps:List (Nat×Operand)) {ws:List Wr} {L:aw} {rows:List (List D)} {vs:Array Value} (M:cg nm N S0 w0 L0 ws a w L) (hf:qM L 1) (hm:∀B o,L B≠some (.row ⟨.h 0,0,[]⟩ o))
  (hl:rows.length * sz=vs.size) (hlen:∀r∈rows,r.length=sz) (hc:∀i c x,cellOf rows i c=some x→∃u,vs[i * sz+c]? = some u∧bt w L ⟨.h 0,0,[(i,c)]⟩ x u) (hp:AZ nm parts ps) {r:List (List D)×List Wr} (hr:(EC sz ws rows parts).run S0=some r),
  ∃L' eR,Instr.fill (fun i=>some (i * sz,sz)) vs (ps.map fun p=>(p.1,a.eval p.2))=some eR∧cg nm N S0 w0 L0 r.2 a w L'∧(∀B o,L' B≠some (.row ⟨.h 0,0,[]⟩ o))∧r.1.length=rows.length∧eR.size=vs.size∧(∀r'∈r.1,r'.length=sz)∧
   ∀i c x,cellOf r.1 i c=some x→∃u,eR[i * sz+c]? = some u∧bt w L' ⟨.h 0,0,[(i,c)]⟩ x u
 | [],[],ws,L,rows,vs,M,hf,hm,hl,hlen,hc,hp,r,hr=>by
  simp only [EC] at hr;obtain rfl:=Q.aZ hr;exact ⟨L,vs,rfl,M,hm,rfl,rfl,hlen,hc⟩
 | (i,X)::parts,(i',x)::ps,ws,L,rows,vs,M,hf,hm,hl,hlen,hc,hp,r,hr=>by
  obtain ⟨rfl,hx,aQ,hp⟩:=hp;simp only [EC] at hr;obtain ⟨⟨v,fe⟩,h1,h2⟩:=Q.aK hr;clear hr;obtain ⟨⟨cs,fy⟩,h3,h4⟩:=Q.aK h2;clear h2;obtain ⟨row,h5,h6⟩:=Q.gw h4;clear h4;obtain ⟨hg,h7⟩:=Q.ei h6;clear h6;simp only [bK,eU,fA] at hg;obtain ⟨gB,hi⟩:=hg;have eF:=OG h5;have aS:cs.length=sz:=by simp only at eF;rw [eF];simp [gB]
  obtain ⟨L1,O1,jH,dF⟩:=Ma M R0 hf hx aQ h1 h3 (by omega);obtain ⟨M2,bp⟩:=O1.mid.wh (f:=qF i sz) (fun q hq=>ao' hq) (fun q t h ht=>ao9 h ht) (fun q q' t a b=>apa a b);have Qd:qM (cG (qF i sz) L1) 1:=by
   intro B q o hB e;obtain ⟨q0,_,h2⟩:=oS hB;rcases G7 h2 with ⟨_,_,h⟩ | ⟨h6,_,h⟩
   ·rw [h] at e;simp at e
   ·rw [h] at e;exact h6 e
  have vr:∀B o,cG (qF i sz) L1 B≠some (.row ⟨.h 0,0,[]⟩ o):=by
   intro B o hB;obtain ⟨q0,h8,h2⟩:=oS hB;rcases G7 h2 with ⟨_,_,h⟩ | ⟨h6,_,h⟩
   ·simp at h
   ·rw [←h] at h8;exact hm B o (O1.xW B _ o rfl (by simp) h8)
  obtain ⟨u1,u2⟩:=ad0 vs (i * sz) (a.eval x).cells;have aro:i * sz+sz≤vs.size:=by
   have:(i+1) * sz≤rows.length * sz:=pY _ hi;rw [lJ] at this;omega
  have Y8:∀r∈rows.set i row,r.length=sz:=by
   intro r hr;rcases UX hr with h | h
   ·exact hlen r h
   ·rw [h];exact gB
  have fF:∀i' c y,cellOf (rows.set i row) i' c=some y→(i'=i∧row[c]? = some y)∨(i'≠i∧cellOf rows i' c=some y):=by
   intro i' c y hy;obtain ⟨rr,k1,k2⟩:=kJ.1 hy;rw [M'] at k1;by_cases he:i=i'
   ·subst he;rw [aJ rfl,aJ hi] at k1;simp only [ai] at k1;rw [k1];exact .inl ⟨rfl,k2⟩
   ·rw [aB he] at k1;exact .inr ⟨fun e=>he e.symm,kJ.2 ⟨rr,k1,k2⟩⟩
  obtain ⟨L', eR, g1, g2, g3, g4, g5, g6, g7⟩ := XW R0 bf parts ps (rows := rows.set i row) (vs := Ho vs (i * sz) (a.eval x).cells) M2 Qd vr (by rw [yB, u1]; exact hl) Y8 (by
    intro i' c y hy
    have af := oq Y8 hy
    rw [yB] at af
    have qj := vG af.1 af.2
    rw [hl] at qj
    rw [u2 _ qj, ← jH, aS]
    rcases fF i' c y hy with ⟨rfl, de⟩ | ⟨az, hold⟩
    · have Jg : cs[c]? = some (.d y) := by simp only at eF; rw [eF]; simp [de]
      have YM : c < (a.eval x).cells.size := by omega
      refine ⟨(a.eval x).cells[c], ?_, ?_⟩
      · rw [aJ ⟨by omega, by omega⟩, show i' * sz + c - i' * sz = c by omega]
        simp [YM]
      · have h9 := dF c (.d y) _ Jg (og YM)
        cases h9 with
        | d h9 =>
          have := bt.move (w' := w) (L' := cG (qF i' sz) L1) (fun q => ⟨.h 0, 0, (i', q.j) :: q.p⟩) (fun q => q.k = .h 1 ∧ q.j = c) (fun _ _ _ h => h) (fun _ _ _ _ => rfl) (fun B hB => ⟨jL.2 hB, rfl⟩)
            (fun B q o hq hL => ⟨gL hL (by unfold qF; rw [aJ hq.1, aJ (by rw [hq.2]; exact af.2)]), rfl⟩) h9 ⟨rfl, rfl⟩
          exact this
    · have ajM : ¬ (i * sz ≤ i' * sz + c ∧ i' * sz + c < i * sz + sz) := by
        rintro ⟨k1, k2⟩
        rcases Nat.lt_or_gt_of_ne az with h | h
        · have : (i' + 1) * sz ≤ i * sz := pY _ h
          rw [lJ] at this; omega
        · have : (i + 1) * sz ≤ i' * sz := pY _ h
          rw [lJ] at this; omega
      rw [aB ajM]
      obtain ⟨u, k1, k2⟩ := hc i' c y hold
      refine ⟨u, k1, ?_⟩
      have k3 : bt w L1 ⟨.h 0, 0, [(i', c)]⟩ y u := by
        refine bt.move id (fun q => q.k = .h 0) (fun _ _ _ h => h) (fun _ _ _ _ => rfl) O1.dh.bh (fun B q o hq hL => ⟨O1.Cu B q o (by rw [hq]; rfl) (by rw [hq]; simp) hL, rfl⟩) k2 rfl
      refine bt.move id (fun q => ∃ r, q = ⟨.h 0, 0, (i', c) :: r⟩) (by rintro q a b ⟨r, rfl⟩; exact ⟨r ++ [(a, b)], rfl⟩) (fun _ _ _ _ => rfl) (fun B hB => ⟨jL.2 hB, rfl⟩) ?_ k3 ⟨[], rfl⟩
      rintro B q o ⟨r, rfl⟩ hL
      refine ⟨gL hL ?_, rfl⟩
      unfold qF
      rw [aB (by simp), aJ ⟨rfl, rfl⟩]
      simp only [id, az, dE]) hp h7
  refine ⟨L',eR,?_,g2,g3,by rw [g4,yB],by rw [g5,u1],g6,g7⟩;simp only [gl,Instr.fill];rw [aB (by simp;omega)];exact g1
 | [],_::_,_,_,_,_,_,_,_,_,_,_,hp,_,_=>hp.elim
 | (_,_)::_,[],_,_,_,_,_,_,_,_,_,_,hp,_,_=>hp.elim
theorem X9 {rows:List (List D)} {sz:Nat} {vs:Array Value} (hc:∀i c x,cellOf rows i c=some x→∃u,vs[i * sz+c]? = some u∧bt w L ⟨.h 0,0,[(i,c)]⟩ x u) :
  ∃val,pe rows sz 0 vs val∧oZ w L ⟨.h 0,0,[]⟩ rows val:=by
 refine ⟨fun i c=>vs.getD (i * sz+c) undef,?_,?_⟩
 ·intro i c x hx;obtain ⟨u,h1,_⟩:=hc i c x hx;rw [db,h1];simp [iw,h1]
 ·intro i c x hx;obtain ⟨u,h1,h2⟩:=hc i c x hx;simp only [iw,h1,Option.getD_some];exact h2
theorem Rel.RZ {S:St} (h:Rel nm N S a w L) (c:Array Value) (e:TypeId) :
  Rel nm N S a (w.alloc (.cells c e)) (L.put w.heap.size .bh)∧dc w (w.alloc (.cells c e)) L (L.put w.heap.size .bh)∧Step w (w.alloc (.cells c e)) L (L.put w.heap.size .bh) S.γ S.γ:=by
 have az:∀B l,L B=some l→B≠w.heap.size:=fun B l hB e=>by rw [e,h.fu.new] at hB;cases hB
 have ho:∀B,B≠w.heap.size→(w.alloc (.cells c e)).heap[B]? = w.heap[B]?:=fun B hB=>mW w _ hB
 have hw:(w.alloc (.cells c e)).heap[w.heap.size]? = _:=oF w (.cells c e);have hL:∀B l,L B=some l→(L.put w.heap.size .bh) B=some l:=fun B l hB=>by rw [aw.gu (az B l hB)];exact hB
 refine ⟨h.grow (fun B l hB => ho B (az B l hB)) hL ?_ ?_ ?_, ⟨rfl, rfl, rfl, by simp, fun B hB => ⟨hL B _ hB, ho B (az B _ hB)⟩, fun B af hB => ⟨by rw [aw.gu (by omega)]; exact hB, ho B (by omega)⟩, fun B i o hB => hL B _ hB⟩,
   ⟨fun B hB => ⟨hL B _ hB, ho B (az B _ hB)⟩, fun _ => bT _, fun B q o _ _ hB => ⟨hL B _ hB, fun cur e fz hc => ⟨cur, (ho B (az B _ hB)).trans hc, rfl⟩⟩, fun B q o _ _ _ hB => ho B (az B _ hB), fun B r o _ hB => hL B _ hB⟩⟩
 ·intro B l hB;by_cases he:B=w.heap.size
  ·subst he;exact (lH.1 hw).1
  ·rw [aw.gu he] at hB;exact xh (h.fu B l hB) (ho B he)
 ·intro B B' pl o o' h1 h2;by_cases he:B=w.heap.size
  ·subst he;rw [aw.kX] at h1;simp at h1
  ·by_cases cY:B'=w.heap.size
   ·subst cY;rw [aw.kX] at h2;simp at h2
   ·rw [aw.gu he] at h1;rw [aw.gu cY] at h2;exact h.eN B B' pl o o' h1 h2
 ·intro B B' r o o' h1 h2;by_cases he:B=w.heap.size
  ·subst he;rw [aw.kX] at h1;simp at h1
  ·by_cases cY:B'=w.heap.size
   ·subst cY;rw [aw.kX] at h2;simp at h2
   ·rw [aw.gu he] at h1;rw [aw.gu cY] at h2;exact h.fB B B' r o o' h1 h2
theorem ah4 (R:Rel nm N S a w L) (hH:eJ L) (hd:∀d,o.dst=some d→d < N) {t e:TypeId} {len:Nat} {parts:Array (Nat×Operand)} {zs:List C} {row:List D} {ps:List (Nat×ax.X)} (ho:o.op = .buildSlice t len parts) (ht:P.underlying t=some (.slice e)) (hz:pU P e=some zs) (P9:mR zs=some row)
  (Zu:¬ (len * zs.length > 2 ^ 24)) (xx:zs.length≠0) (hp:AZ nm ps parts.toList) (h8:tj row=true→e=5)
  (hr:(bq Cl d (.N0 zs.length (List.replicate len row) ps)).run S=some r):dx P a w o (dO nm N S w L a o.dst r.1 r.2):=by
 simp only [bq] at hr;obtain ⟨⟨rs,fe⟩,h1,h2⟩:=Q.aK hr;clear hr;obtain ⟨vk,h2⟩:=Q.ei h2;obtain rfl:=Q.aZ h2;have dX:rs≠[]→tJ rs e:=by
  intro az hn;simp only [bK,wL,nA] at vk;have hn:lS rs=false:=hn.resolve_right az;rcases vk.1 with vk | vk
  ·rw [hn] at vk;cases vk
  ·obtain ⟨q1,q2⟩:=vM.1 vk;cases len with
   | zero=>exact absurd rfl q1
   | succ n=>exact h8 (q2 row (by simp [List.replicate_succ]))
 obtain ⟨i,z,k1,k2,k3,k4,k5⟩:=AP hz;have Jj:∀m,qM L m:=fun m B q o hB e=>by have:=hH B q o hB;rw [e] at this;simp [Key.aT] at this
 obtain ⟨z1,z2⟩:=aeD (n:=len) (m:=len) P9 k3 k5 (bT _) xx;obtain ⟨L',eR,g1,g2,g3,g4,g5,g6,g7⟩:=XW R (Nl xx) ps parts.toList (cg.init R) (Jj 1) (fun B o hB=>Jj 0 B _ o hB rfl) (rows:=List.replicate len row) (vs:=madeCells z.cells (len * zs.length))
  (by rw [size_madeCells, HE]) z1 (fun i c x hx => by
    obtain ⟨u, h3, h4⟩ := z2 i c x hx
    exact ⟨u, h3, .plain (h4.plain w L)⟩) hp h1
 obtain ⟨val,hv,zr⟩:=X9 g7;simp only [HE] at g4;have hi:i.size=zs.length:=by omega
 have:(Instr.buildSlice t len (parts.map fun (i,x)=>(i,a.eval x))).run P w = .ok (.slice (some ⟨w.heap.size,0,none⟩) len len) (w.alloc (.cells eR e)):=by
  have zD:(parts.map fun (i,x)=>(i,a.eval x)).toList=parts.toList.map fun p=>(p.1,a.eval p.2):=by simp
  have lu:¬ (16777216 < len * zs.length):=by omega
  unfold Instr.buildSlice;simp only [Sem.run_bind,run_underlying ht,Result.andThen_ok,sizeOf,typeInfo,run_program,k1,Sem.run_pure,hi];have sF:¬ (len * zs.length > 2 ^ 24):=Zu;by_cases h0:len * zs.length=0
  ·have B5:madeCells z.cells (len * zs.length) = #[]:=by rw [h0];simp [madeCells]
   rw [B5] at g1;simp only [sF,dE,h0,bW,Sem.run_pure,Result.andThen_ok,Sem.run_bind];simp only [Array.range_zero',zD];have:((Array.range 0).map fun x=>(#[]:Array Value)[x % (#[]:Array Value).size]!) = #[]:=by simp
   simp [g1,newRow]
  ·simp only [sF,dE,h0,Sem.run_bind,zeroValue,typeInfo,run_program,k1,k2,Result.andThen_ok,Sem.run_pure];have Qv:((Array.range (len * zs.length)).map fun x=>z.cells[x % z.cells.size]!)=madeCells z.cells (len * zs.length):=rfl;simp [zD,Qv,g1,newRow]
 by_cases az:rs=[]
 ·subst az;have nL:len=0:=by simpa using g4.symm
  subst nL;obtain ⟨hR,hM,_⟩:=g2.rel.RZ eR e;exact .val (v:=.slice (some ⟨w.heap.size,0,none⟩) 0 0) (w':=w.alloc (.cells eR e)) (by simp [execOp,ho,this]) (hR.fZ (g2.mono.trans hM) hd (m:=0) (.one (.d .jk)))
 obtain ⟨hR,hM,kP⟩:=g2.rel.LD (m:=0) (j:=0) (w':=w.alloc (.cells eR e)) (cap:=len) g3 (oF w _) (fun B hB=>mW w _ hB) (fun j _=>by simp) ⟨rfl,rfl,rfl,by simp⟩ (Nl xx) g6 (by rw [g4];exact bT _) (by rw [g5,size_madeCells];exact bT _) hv zr (dX az);refine .val (v:=.slice (some ⟨w.heap.size,0,none⟩) len len) (w':=w.alloc (.cells eR e)) ?_ (hR.fZ (g2.mono.trans hM) hd (m:=0) (.one (by rw [←g4];rw [←g4] at kP;exact kP)));simp [execOp,ho,this]
end
end
section
section
variable {nm:FuncId→Option Nat} {N:Nat} {S S0:St} {a:Act} {w w0:World} {L L0:aw} {P:Program} {o:Oper} {Cl:bX} {d:Nat} {r:V×List Wr} {ws:List Wr}
theorem eJ.free (h:eJ L) (m:Nat):qM L m:=fun B q o hB e=>by have:=h B q o hB;rw [e] at this;simp [Key.aT] at this
theorem ain (R:Rel nm N S a w L) (hH:eJ L) (hd:∀d,o.dst=some d→d < N) {t e:TypeId} {l c:Operand} {LX CX:ax.X} {i:TypeInfo} {zs:List C} {row:List D} (hl:bQ nm LX l) (hc:bQ nm CX c) (ho:o.op = .makeSlice t l c) (ht:P.underlying t=some (.slice e)) (hi:P.info? e=some i) (hz:pU P e=some zs) (P9:mR zs=some row)
  (oJ:i.size≠0) {bytes:Nat} (EW:i.bytes≤bytes∧(bytes=1→e=5)) (hr:(bq Cl d (.RQ i.size bytes row LX CX)).run S=some r):dx P a w o (dO nm N S w L a o.dst r.1 r.2):=by
 simp only [bq] at hr;obtain ⟨vl,h1,h2⟩:=Q.aK hr;clear hr;obtain ⟨vc,h3,h4⟩:=Q.aK h2;clear h2;obtain ⟨n,h5,h6⟩:=Q.gw h4;clear h4;obtain ⟨m,h7,h8⟩:=Q.gw h6;clear h6;obtain ⟨hg,h9⟩:=Q.ei h8;clear h8;obtain rfl:=Q.aZ h9;simp only [bK,fA,eU] at hg;obtain ⟨⟨⟨⟨jr,BU⟩,h63⟩,_⟩,h8⟩:=hg;have hb:m * i.bytes≤140737488355328:=jd (Nat.mul_le_mul_left _ EW.1) BU;obtain ⟨kl,mf⟩:=wR (rd_val R hl h1) h5;obtain ⟨kc,lM⟩:=wR (rd_val R hc h3) h7;obtain ⟨i',z,k1,k2,k3,k4,k5⟩:=AP hz;obtain rfl:i'=i:=by rw [hi] at k1;simpa using k1.symm
 have bf:i'.size=zs.length:=by omega
 obtain ⟨z1,z2⟩:=aeD (n:=n) (m:=m) P9 k3 k5 jr (by omega);rw [←bf] at z1 z2
 obtain ⟨val, hv, zr⟩ := X9 (w := w) (L := L) (rows := List.replicate n row) (sz := i'.size) (vs := madeCells z.cells (m * i'.size)) (fun i c x hx => by
   obtain ⟨u, h3, h4⟩ := z2 i c x hx
   exact ⟨u, h3, .plain (h4.plain w L)⟩)
 have iT:(Instr.makeSlice t (a.eval l) (a.eval c)).run P w = .ok (.slice (some ⟨w.heap.size,0,none⟩) n m) (w.alloc (.cells (madeCells z.cells (m * i'.size)) e)):=by
  rw [mf,lM];have PV:(i'.bytes:Int) * (m:Int)≤281474976710656:=by
   have h1:i'.bytes * m≤281474976710656:=by rw [HM];omega
   have h2:((i'.bytes * m:Nat):Int)≤281474976710656:=by omega
   rwa [Int.natCast_mul] at h2
  exact run_make w t e i' z ht hi k2 kl kc n m (by omega) (by omega) PV (by omega)
 by_cases B5:n=0∧m=0
 ·obtain ⟨rfl,rfl⟩:=B5;obtain ⟨hR,hM,_⟩:=R.RZ (madeCells z.cells (0 * i'.size)) e;exact .val (v:=.slice (some ⟨w.heap.size,0,none⟩) 0 0) (w':=w.alloc (.cells (madeCells z.cells (0 * i'.size)) e)) (by simp [execOp,ho,iT]) (Rel.fZ (ws:=[]) hR hM hd (m:=0) (.one (.d .jk)))
 obtain ⟨hR,hM,kP⟩:=R.LD (m:=0) (j:=0) (w':=w.alloc (.cells (madeCells z.cells (m * i'.size)) e)) (cap:=m) (fun B o hB=>hH.free 0 B _ o hB rfl) (oF w _) (fun B hB=>mW w _ hB) (fun j _=>by simp) ⟨rfl,rfl,rfl,by simp⟩ (Nl oJ) z1
  (by simpa using jr) (by rw [size_madeCells]; exact bT _) hv zr (by
    intro hn
    simp only [wL, eU, bK, nA, nE] at h8
    rcases h8 with h8 | ⟨h8, dj⟩
    · exact EW.2 h8
    · exfalso
      have hn := hn.resolve_right fun e => (dj.elim (fun h => h (by simpa using e)) fun h => B5 ⟨by simpa using e, h⟩)
      obtain ⟨q1, q2⟩ := vM.1 hn
      cases n with
      | zero => exact absurd rfl q1
      | succ n =>
        have h9 := q2 row (by simp [List.replicate_succ])
        rw [h9] at h8; cases h8)
 simp only [HE] at kP;exact .val (v:=.slice (some ⟨w.heap.size,0,none⟩) n m) (w':=w.alloc (.cells (madeCells z.cells (m * i'.size)) e)) (by simp [execOp,ho,iT]) (Rel.fZ (ws:=[]) hR hM hd (m:=0) (.one kP))
theorem MH {s:List UInt8} {i c:Nat} {x:D} (h:cellOf (D.da s) i c=some x):∃b,s[i]? = some b∧c=0∧x = .int .u8 b.toNat:=by
 obtain ⟨r,h1,h2⟩:=kJ.1 h;simp only [D.da,bS] at h1;cases hb:s[i]? with
 | none=>simp [hb] at h1
 | some b=>
  simp only [hb,fh,ai] at h1;subst h1;cases c with
  | zero=>simp at h2;exact ⟨b,rfl,rfl,h2.symm⟩
  | succ c=>simp at h2
theorem mF (s:List UInt8):(D.da s).length=s.length:=by simp [D.da]
theorem adF (s:List UInt8):∀r∈D.da s,r.length=1:=by
 intro r hr;simp only [D.da,iz] at hr;obtain ⟨b,_,rfl⟩:=hr;rfl
def strCells (s:List UInt8):Array Value:=(s.map fun b=>Value.int .u8 b.toNat).toArray
theorem aiv (R:Rel nm N S a w L) (hH:eJ L) (hd:∀d,o.dst=some d→d < N) {t u e:TypeId} {x:Operand} {X:ax.X} (hx:bQ nm X x) (ho:o.op = .convert t u x) (ht:P.underlying t=some .string) (hu:P.underlying u=some (.slice e)) (he:P.underlying e=some (.int .u8)) (P':e=5)
  (hr:(bq Cl d (.conv .TX X)).run S=some r):dx P a w o (dO nm N S w L a o.dst r.1 r.2):=by
 simp only [bq] at hr;obtain ⟨v1,h1,h2⟩:=Q.aK hr;clear hr;have r1:=rd_val R hx h1;cases v1 with
 | one c=>
  cases c with
  | d z=>
   cases z with
   | str s=>
    obtain ⟨hg,h3⟩:=Q.ei (b:=decide (s.length≤140737488355328)) (f:=fun _=>(pure (V.one (C.d (D.sl Tag.own 1 (D.da s))),[]):Q (V×List Wr))) h2;obtain rfl:=Q.aZ h3;simp only [fA] at hg;have e1:=r1.cL.rH;let cap:=grownCap w s.length 0 e;have dL:s.length≤cap:=grownCap_ge w s.length 0 e;let cur:Array Value:=strCells s++Array.replicate (cap - s.length) (.int .u8 0);have eF:cur.size=cap:=by simp [cur,strCells];omega
    let w':=(w.drew.alloc (.cells cur e)).freeze ⟨w.heap.size,cur.size,none⟩ 1;have zH:w'.heap[w.heap.size]? = some (.cells cur e (cur.size,cur.size+1)):=by
     have h0:=oF w.drew (.cells cur e);simp only [World.size_drew] at h0;simp only [w',World.freeze,Nat.one_ne_zero,dE,AS,h0];simp
    have lr:∀B,B≠w.heap.size→w'.heap[B]? = w.heap[B]?:=by
     intro B hB;have h0:=mW w.drew (.cells cur e) (B:=B) hB;simp only [w',World.freeze,Nat.one_ne_zero,dE,AS];rw [aB (fun e=>hB e.symm)];exact h0
    have fF:∀(i:Nat) b,s[i]? = some b→cur[i]? = some (Value.int .u8 b.toNat):=by
     intro i b hb;have hi:=(cw.1 hb).1;simp only [cur];rw [AQ (by simp [strCells];exact hi)];simp [strCells,hb]
    obtain ⟨hR,hM,kP⟩:=R.LD (m:=0) (j:=0) (w':=w') (cap:=cap) (rows:=D.da s) (sz:=1) (val:=fun i _=>Value.int .u8 (((s.getD i 0).toNat:Nat):Int)) (fun B o hB=>hH.free 0 B _ o hB rfl) zH lr (fun j hj h=>by simp at h;omega)
     ⟨rfl, rfl, rfl, by simp [w', World.freeze]⟩ (by omega) (adF s) (by rw [mF]; exact dL) (by omega) (fun i c x hx => by
       obtain ⟨b, g1, rfl, rfl⟩ := MH hx
       rw [db, uO, jC, fF i b g1]
       simp [kB, g1]) (fun i c x hx => by
       obtain ⟨b, g1, rfl, rfl⟩ := MH hx
       simp only [kB, g1, Option.getD_some]
       exact .plain .int) (fun _ => P')
    rw [mF] at kP;refine .val (v:=.slice (some ⟨w.heap.size,0,none⟩) s.length cap) (w':=w') ?_ (Rel.fZ (ws:=[]) hR hM hd (m:=0) (.one kP));have:(convert t u (a.eval x)).run P w = .ok (.slice (some ⟨w.heap.size,0,none⟩) s.length cap) w':=by
     rw [e1];have Cg:(w.drew.alloc (.cells cur e)).shape? w.heap.size=some (e,cur.size):=by
      have h0:=oF w.drew (.cells cur e);simp only [World.size_drew] at h0;unfold World.shape?;rw [h0]
     have tW:(⟨s.toArray⟩:ByteArray).data.map (fun b=>Value.int .u8 b.toNat)=strCells s:=by
      apply rR;simp [strCells]
     simp only [convert,Sem.run_bind,run_underlying ht,run_underlying hu,Result.andThen_ok,run_underlying he,Conv.stringToBytes,run_choose,Question.forced,Ba,tW,newRow,run_newObj,Sem.run_pure,markStringish,run_shape,run_freeze];simp only [rU,dE,Result.andThen_ok,World.drew_eq,World.alloc_eq,World.size_drew];rw [show (Question.cut (.appendCap s.length 0 e) (w.tape w.drawn (.appendCap s.length 0 e)))=cap from rfl];rw [show strCells s++Array.replicate (cap - s.length) (Value.int .u8 0)=cur from rfl,Cg];rfl
    simp [execOp,ho,this]
   | _=>cases h2
  | _=>cases h2
 | _=>cases h2
theorem acJ {sz B o cap:Nat} {rows:List (List D)} {cur:Array Value} {e:TypeId} {fz:Nat×Nat} {val:Nat→Nat→Value} (hB:w.heap[B]? = some (.cells cur e fz)) (hlen:∀r∈rows,r.length=sz)
  (hv:∀i c x,cellOf rows i c=some x→cur[o+i * sz+c]? = some (val i c)) (Fw:∀i c x,cellOf rows i c=some x→(val i c).oneCell'=true) :
  ∃news,Src P sz w (.slice (some ⟨B,o,none⟩) rows.length cap) rows.length news∧pe rows sz 0 news val:=by
 have hk:∀k,k < rows.length * sz→∃i c x,cellOf rows i c=some x∧k=i * sz+c∧cur[o+k]? = some (val i c):=by
  intro k hk;obtain ⟨i,c,x,g1,g2,_,_⟩:=afu hlen hk;exact ⟨i,c,x,g1,g2,by rw [g2,←pX];exact hv i c x g1⟩
 have QL:o+rows.length * sz≤cur.size∨rows.length * sz=0:=by
  rcases Nk (rows.length * sz) with h | h
  ·exact .inr h
  ·obtain ⟨i,c,x,_,_,g⟩:=hk (rows.length * sz - 1) (by omega);have:=(lH.1 g).1;exact .inl (by omega)
 rcases QL with QL | h0
 ·refine ⟨cur.extract o (o+rows.length * sz),⟨fun w'=>by simp [Builtin.lenOf],fun w' hw=>?_,by simp;omega,?_⟩,?_⟩
  ·simp only [Builtin.firstCells];exact acs (w:=w') (by rw [hw];exact hB) QL
  ·intro u hu;obtain ⟨k,tZ,ku⟩:=Array.mem_iff_getElem.1 hu;simp only [Array.size_extract] at tZ;obtain ⟨i,c,x,g1,g2,g3⟩:=hk k (by omega);have:u=val i c:=by
    rw [←ku,Array.getElem_extract];rw [og (by omega)] at g3;simpa using g3
   rw [this];exact Fw i c x g1
  ·intro i c x hx;obtain ⟨h1,h2⟩:=oq hlen hx;have:=vG h1 h2;rw [db,UD,aJ (by omega),←pX];exact hv i c x hx
 ·refine ⟨#[],⟨fun w'=>by simp [Builtin.lenOf],fun w' hw=>?_,by simp [h0],by simp⟩,?_⟩
  ·simp [Builtin.firstCells,loadCells,loadCellsFrom,h0]
  ·intro i c x hx;obtain ⟨h1,h2⟩:=oq hlen hx;have:=vG h1 h2;omega
theorem aiL {w:World} {L L':aw} {pl s5:Place} {x:D} {v:Value} (h:bt w L pl x v) (hf:x.flat=true):bt w L' s5 x v:=by
 cases h with
 | plain h=>cases h<;>first | exact .plain .int | exact .plain .bool | exact .plain .str | simp [D.flat] at hf
 | _=>simp [D.flat] at hf
theorem aiH {rows:List (List D)} (h:sj rows=true) {i c:Nat} {x:D} (hx:cellOf rows i c=some x):x.flat=true:=by
 obtain ⟨r,h1,h2⟩:=kJ.1 hx;exact lI.1 (lI.1 h r (ft h1)) x (ft h2)
theorem aqs (R:Rel nm N S a w L) {pl:Place} {g sz off len:Nat} {u:Value} (hv:bD nm w L S.γ (.h 0) (.one (.view pl g sz off len)) u) {e0:mN} {x0:D} {rows:List (List D)} (h3:(ju [] pl g sz).run S=some (e0,x0,rows)) (hg:off+len≤rows.length) (hf:sj ((rows.drop off).take len)=true) :
  ∃news iM,Src P sz w u ((rows.drop off).take len).length news∧(∀r∈(rows.drop off).take len,r.length=sz)∧(∀L' s5,oZ w L' s5 ((rows.drop off).take len) iM)∧pe ((rows.drop off).take len) sz 0 news iM:=by
 have hlen:((rows.drop off).take len).length=len:=by rw [AU,Nb];omega
 have empty:len=0→(∃b cap,u = .slice b 0 cap)→∃news iM,Src P sz w u ((rows.drop off).take len).length news∧(∀r∈(rows.drop off).take len,r.length=sz)∧(∀L' s5,oZ w L' s5 ((rows.drop off).take len) iM)∧pe ((rows.drop off).take len) sz 0 news iM:=by
  rintro rfl ⟨b,cap,rfl⟩;rw [HJ];refine ⟨#[],fun _ _=>undef,⟨fun w'=>by simp [Builtin.lenOf],fun w' _=>?_,by simp,by simp⟩,by simp,fun _ _ i c x hx=>by simp [cellOf] at hx,fun i c x hx=>by simp [cellOf] at hx⟩;cases b<;>simp [Builtin.firstCells,loadCells,loadCellsFrom]
 cases hv.cL with
 | view iH hh gA hV=>
  obtain ⟨jW,u0,sJ⟩:=Sv R hh h3;rcases hV jW with ⟨h0,a0,rfl⟩ | ⟨B,o,cap,cur,e,fz,rfl,bf,hL,hB,cU,ub,dG,_⟩
  ·exact empty h0 ⟨_,_,rfl⟩
  ·rcases sJ.nU with ⟨ml,_⟩ | ⟨B',o',yT,dQ,e',tR,val,_,_,fj,dA,_,fQ,PZ,QK,cm,hr,dX⟩
   ·have h0:len=0:=by
     have hn:rows=[]:=ml;rw [hn] at hg;simp at hg;omega
    exact empty h0 ⟨_,_,by rw [h0]⟩
   ·obtain rfl:=R.eN B' B pl o' o fj hL;obtain rfl:o'=o:=by rw [fj] at hL;simpa using hL
    obtain ⟨rfl,rfl,rfl⟩:dQ=cur∧e'=e∧tR=fz:=by rw [dA] at hB;simpa using hB
    have fF:∀i c x,cellOf ((rows.drop off).take len) i c=some x→cellOf rows (off+i) c=some x:=by
     intro i c x hx;obtain ⟨rr,k1,k2⟩:=kJ.1 hx;have kN:i < len:=by
      have:=(cw.1 k1).1;rw [AU] at this;omega
     rw [yA kN,tC] at k1;exact kJ.2 ⟨rr,k1,k2⟩
    have dW:∀r∈(rows.drop off).take len,r.length=sz:=fun r jX=>fQ r (Nf (DT jX))
    have kP:∀i c x,cellOf ((rows.drop off).take len) i c=some x→∀L' s5,bt w L' s5 x (val (off+i) c):=fun i c x hx L' s5=>
     aiL (hr _ _ _ (fF i c x hx)) (aiH hf hx)
    obtain ⟨news,g1,g2⟩:=acJ (P:=P) (w:=w) (B:=B') (o:=o'+off * sz) (cap:=cap) (rows:=(rows.drop off).take len) (val:=fun i c=>val (off+i) c) dA dW
     (fun i c x hx => by
       have := cm _ _ _ (fF i c x hx)
       rw [lJ] at this
       rw [show o' + off * sz + i * sz + c = o' + (off * sz + i * sz) + c by omega]
       exact this)
     (fun i c x hx=>(kP i c x hx L pl).vV)
    rw [hlen] at g1 ⊢;exact ⟨news,_,g1,dW,fun L' s5 i c x hx=>kP i c x hx L' _,g2⟩
theorem apc {γ:Key→Nat} {m:Nat} {tg:Tag} {sz cp:Nat} {rows:List (List D)} {v:Value} (h:aG nm w L γ (.h m) 0 (.d (.sl tg cp rows)) v) (hs:cp=sz∨rows=[]) :
  ∃news iM,Src P sz w v rows.length news∧(∀r∈rows,r.length=sz)∧oZ w L ⟨.h m,0,[]⟩ rows iM∧pe rows sz 0 news iM:=by
 have empty:rows=[]→(∃b cap,v = .slice b 0 cap)→∃news iM,Src P sz w v rows.length news∧(∀r∈rows,r.length=sz)∧oZ w L ⟨.h m,0,[]⟩ rows iM∧pe rows sz 0 news iM:=by
  rintro rfl ⟨b,cap,rfl⟩;refine ⟨#[],fun _ _=>undef,⟨fun w'=>by simp [Builtin.lenOf],fun w' _=>?_,by simp,by simp⟩,by simp,fun i c x hx=>by simp [cellOf] at hx,fun i c x hx=>by simp [cellOf] at hx⟩;cases b<;>simp [Builtin.firstCells,loadCells,loadCellsFrom]
 have full:∀(B o cap:Nat) (cur:Array Value) (e:TypeId) (fz:Nat×Nat) (val:Nat→Nat→Value),v = .slice (some ⟨B,o,none⟩) rows.length cap→cp=sz→w.heap[B]? = some (.cells cur e fz)→(∀r∈rows,r.length=cp)→
   (∀i c x,cellOf rows i c=some x→cur[o+i * cp+c]? = some (val i c))→oZ w L ⟨.h m,0,[]⟩ rows val→∃news iM,Src P sz w v rows.length news∧(∀r∈rows,r.length=sz)∧oZ w L ⟨.h m,0,[]⟩ rows iM∧pe rows sz 0 news iM:=by
  rintro B o cap cur e fz val rfl rfl hB hlen hv hc;obtain ⟨news,g1,g2⟩:=acJ (P:=P) (cap:=cap) hB hlen hv (fun i c x hx=>(hc i c x hx).vV);exact ⟨news,val,g1,hlen,hc,g2⟩
 cases h with
 | d h=>
  cases h with
  | plain h=>
   cases h with
   | nil=>exact empty rfl ⟨_,_,rfl⟩
   | mD=>exact empty rfl ⟨_,_,rfl⟩
   | pl val az bf dL hL hB hlen hv hr=>exact full _ _ _ _ _ _ val rfl (hs.resolve_right az) hB hlen hv (fun i c x hx=>.plain (hr i c x hx))
  | jk=>exact empty rfl ⟨_,_,rfl⟩
  | own val bf hL hB cU hlen dL dG hv hr=>
   rcases hs with hs | hs
   ·exact full _ _ _ _ _ _ val rfl hs hB hlen hv (fun i c x hx=>by have:=hr i c x hx;simpa [Place.sub] using this)
   ·exact empty hs ⟨_,_,by rw [hs];rfl⟩
theorem p5.own {m sz:Nat} {rows:List (List D)} {v:Value} (h:p5 w L ⟨.h m,0,[]⟩ sz rows ⟨.h m,0,[]⟩ v):bt w L ⟨.h m,0,[]⟩ (.sl .own sz rows) v:=by
 rcases h with ⟨rfl,a,rfl⟩ | ⟨B,o,cap,cur,e,fz,n0,val,rfl,bf,hL,hB,cU,fQ,dL,dG,cm,hd,dX⟩
 ·exact .jk
 ·refine .own val bf (hL.elim id id) hB cU fQ dL dG cm (fun i c x hx=>?_) dX;have:=hd i c x hx;simpa using this
theorem p5.an8 {m sz:Nat} {rows:List (List D)} {v:Value} (h:bt w L ⟨.h m,0,[]⟩ (.sl .own sz rows) v):p5 w L ⟨.h m,0,[]⟩ sz rows ⟨.h m,0,[]⟩ v:=by
 rcases h.nU with ⟨rfl,a,rfl⟩ | ⟨B,o,cap,cur,e,fz,val,rfl,bf,hL,hB,cU,fQ,dL,dG,cm,hd,dX⟩
 ·exact .inl ⟨rfl,a,rfl⟩
 ·exact .inr ⟨B,o,cap,cur,e,fz,0,val,rfl,bf,.inl hL,hB,cU,fQ,dL,dG,cm,fun i c x hx=>by simpa using hd i c x hx,dX⟩
theorem NK (M:cg nm N S0 w0 L0 ws a w L) {sz bytes:Nat} {v:V} {u x:Value} {src:List (List D)} {t ut ty e:TypeId} {i:TypeInfo} {dd:TypeDesc} {z:Value} (T:AY P sz bytes t ut e i dd z) (hv:mO nm w0 L0 S0.γ w L (S0.ah ws).γ 0 v u)
  {news:Array Value} {iM:Nat→Nat→Value} (hx:Src P sz w x src.length news) (lx:∀r∈src,r.length=sz) (gy:oZ w L ⟨.h 1,0,[]⟩ src iM) (dW:pe src sz 0 news iM)
  (hr:(wQ sz bytes v ws src).run S0=some r) {dst:Option Nat} (hd:∀d,dst=some d→d < N) :
  ∃v' w',(Builtin.append_ #[t,ut] ty #[u,x]).run P w = .ok v' w'∧dO nm N S0 w0 L0 a dst r.1 r.2 v' w':=by
 unfold wQ at hr;split at hr
 ·
  rename_i cp rows;obtain ⟨hg,h2⟩:=Q.ei hr;obtain rfl:=Q.aZ h2;simp only [bK,eU,fA] at hg;obtain ⟨h8,rfl,hb⟩:=hg;have gI:aG nm w L (S0.ah ws).γ (.h 0) 0 (.d (.sl .own cp rows)) u:=hv;cases gI with
  | d gI=>
   obtain ⟨v',w',L',g1,g2,g3,g4,g5,_⟩:=H0 (ty:=ty) M.rel (by omega:(0:Nat)≠1) T (.inl (p5.an8 gI)) (.inl rfl) hx lx gy dW hb (.inl h8);exact ⟨v',w',g1,(g5 rfl).fZ (M.mono.trans g2) hd (m:=0) (.one (.d g3.own))⟩
 ·
  rename_i bn cp rows;obtain ⟨hg,h2⟩:=Q.ei hr;obtain rfl:=Q.aZ h2;simp only [bK,eU,fA] at hg;obtain ⟨h8,⟨rfl,rfl⟩,hb⟩:=hg;have gI:aG nm w L (S0.ah ws).γ (.h 0) 0 (.d (.sl (.im true) cp rows)) u:=hv;cases gI with
  | d gI=>
   cases gI with
   | plain gI=>
    cases gI;cases src with
    | nil=>
     obtain ⟨ht,hu,dq,hi,hz,kx,ZH,bf,lu,BU,_⟩:=T;have iT:=acR (ty:=ty) (w:=w) (b:=none) (sLen:=0) (sCap:=0) ht hu dq hi (by rw [kx];exact hx) (bT _);exact ⟨_,w,iT,M.rel.fZ M.mono hd (m:=0) (.one (.d (.plain (by simpa using fM.nil))))⟩
    | cons r0 rs=>
     obtain ⟨v',w',L',g1,g2,g3,g4,g5,_⟩:=H0 (ty:=ty) (rows:=[]) (pl:=⟨.h 0,0,[]⟩) M.rel (by omega:(0:Nat)≠1) T (.inr ⟨rfl,by simp,rfl⟩) (.inl rfl) hx lx gy dW (by simpa using hb) (.inr ⟨h8,rfl⟩);exact ⟨v',w',g1,(g5 rfl).fZ (M.mono.trans g2) hd (m:=0) (.one (.d g3.own))⟩
 ·
  rename_i pl g cp off len;obtain ⟨res,h3,h4⟩:=Q.aK hr;obtain ⟨e',x',rows⟩:=res;obtain ⟨rfl,jW,hE,hn⟩:=uu h3;obtain ⟨hg,h5⟩:=Q.ei h4;have h6:=Q.ni h5;obtain rfl:=Q.aZ h6;simp only [bK,eU,fA] at hg;obtain ⟨⟨⟨⟨⟨h8,rfl⟩,rfl⟩,rfl⟩,zx⟩,hb⟩:=hg;obtain ⟨f1,f2,f3⟩:=I3 (S:=S0) zx;have gI:aG nm w0 L0 S0.γ (.h 0) 0 (.view pl g cp 0 rows.length) u:=hv;cases gI with
  | view iH hh gA hV=>
   obtain ⟨u0,sJ⟩:=M.A9 hh hE hn;have hA:p5 w L pl cp rows ⟨.h 0,0,[]⟩ u:=by
    rcases hV jW with ⟨h0,a0,rfl⟩ | ⟨B,o,cap,cur,e',fz,rfl,bf,hL,hB,cU,hle,dG,Px⟩
    ·exact .inl ⟨pW.1 h0,a0,rfl⟩
    ·have qW:=(M.dh.view B pl o hh f1 hL).1;have Pz:w.heap[B]? = some (.cells cur e' fz):=(M.heap B _ hL).trans hB;simp only [U5,jC] at dG ⊢;rcases sJ.nU with ⟨rfl,_⟩ | ⟨B',o',yT,dQ,e2,tR,val,_,_,fj,dA,_,fQ,PZ,QK,cm,dM,dX⟩
     ·exact .inr ⟨B,o,cap,cur,e',fz,0,fun _ _=>undef,rfl,bf,.inl qW,Pz,cU,by simp,by simp,dG,fun i c x hx=>by simp [cellOf] at hx,fun i c x hx=>by simp [cellOf] at hx,fun _=>Px rfl rfl⟩
     ·obtain rfl:=M.rel.eN B' B pl o' o fj qW;obtain rfl:o'=o:=by rw [fj] at qW;simpa using qW
      obtain ⟨rfl,rfl,rfl⟩:dQ=cur∧e2=e'∧tR=fz:=by rw [dA] at Pz;simpa using Pz
      exact .inr ⟨B', o', cap, dQ, e2, tR, rows.length, val, rfl, bf, .inl fj, dA, cU, fQ, hle, dG, cm, fun i c x hx => by
        rw [aJ (oq fQ hx).1]; exact dM i c x hx, dX⟩
   obtain ⟨v',w',L',g1,g2,g3,g4,_,g5⟩:=H0 (ty:=ty) M.rel (by omega:(0:Nat)≠1) T (.inl hA) (.inr ⟨hh,x',rows,hE,hn,bT _⟩) hx lx gy dW hb (.inl h8);refine ⟨v',w',g1,Rel.fZ (ws:={ k:=.a pl.k,v:=V.dead } :: ws) (g5 hh) (M.mono.trans g2) hd (m:=0) (.one (.c6 g4 hh ?_ ?_ (fun _ _=>g3)))⟩
   ·rw [jW];exact St.wM S0 _ _
   ·show (S0.γ (.a pl.k))+1≤((S0.ah ws).wr { k:=.a pl.k,v:=V.dead }).γ (.a pl.k);rw [St.jS,f2];simp
 ·
  rename_i pl g aa cp rows;obtain ⟨res,h3,h4⟩:=Q.aK hr;obtain ⟨e',x',dH⟩:=res;obtain ⟨rfl,jW,hE,hn⟩:=uu h3;have h5:=Q.ni h4;obtain ⟨hg,h6⟩:=Q.ei h5;obtain rfl:=Q.aZ h6;simp only [bK,eU,fA] at hg;obtain ⟨⟨⟨⟨⟨h8,rfl⟩,hold⟩,haa⟩,zx⟩,hb⟩:=hg;obtain ⟨f1,f2,f3⟩:=I3 (S:=S0) zx;have gI:aG nm w L (S0.ah ws).γ (.h 0) 0 (.c6 pl g aa cp rows) u:=hv;cases gI with
  | c6 iH hh gA ve hV=>
   have hA:=hV (by rw [f1];exact jW) (by rw [f2];exact haa.symm);obtain ⟨v',w',L',g1,g2,g3,g4,_,g5⟩:=H0 (ty:=ty) M.rel (by omega:(0:Nat)≠1) T (.inl hA) (.inr ⟨hh,x',dH,hE,hn,hold⟩) hx lx gy dW hb (.inl h8);refine ⟨v',w',g1,Rel.fZ (ws:={ k:=.a pl.k,v:=V.dead } :: ws) (g5 hh) (M.mono.trans g2) hd (m:=0) (.one (.c6 g4 hh ?_ ?_ (fun _ _=>g3)))⟩
   ·rw [jW];exact St.wM S0 _ _
   ·show (S0.γ (.a pl.k))+1≤((S0.ah ws).wr { k:=.a pl.k,v:=V.dead }).γ (.a pl.k);rw [St.jS,f2];simp
 ·cases hr
end
end
section
section
variable {nm:FuncId→Option Nat} {N:Nat} {S S0:St} {a:Act} {w w0:World} {L L0:aw} {P:Program} {o:Oper} {Cl:bX} {d:Nat} {r:V×List Wr} {ws:List Wr}
theorem XX (R:Rel nm N S a w L) (hH:eJ L) (hd:∀d,o.dst=some d→d < N) {x y:Operand} {X Y:ax.X} {t u e:TypeId} {sz bytes:Nat} {i:TypeInfo} {dd:TypeDesc} {z:Value} (hx:bQ nm X x) (xv:X.iJ=true) (hy:bQ nm Y y) (QW:Y.iJ=true)
  (ho:o.op = .call ⟨.builtin .append,#[x,y],#[t,u]⟩) (T:AY P sz bytes t u e i dd z) (hr:(bq Cl d (.app sz bytes X Y)).run S=some r):dx P a w o (dO nm N S w L a o.dst r.1 r.2):=by
 simp only [bq] at hr;obtain ⟨⟨av,fe⟩,h1,h2⟩:=Q.aK hr;clear hr;obtain ⟨⟨src,fy⟩,h3,h4⟩:=Q.aK h2;clear h2;obtain ⟨⟨v,wF⟩,h5,h6⟩:=Q.aK h4;clear h4;obtain ⟨L1,O1,V1⟩:=wv (cg.init R) R (hH.free 1) QW hy h1;dsimp only at h3 h5 h6 V1 O1;unfold rowsOf at h3;split at h3
 ·rename_i c;obtain ⟨⟨c',arH⟩,h7,h8⟩:=Q.aK h3;have hV:iQ nm w L S.γ w L1 (S.ah fe).γ 1 0 c (a.eval y):=V1;obtain ⟨L2,O2,R2⟩:=uD O1.mid hV h7;dsimp only at h8;split at h8
  ·rename_i tg cp rows;obtain ⟨hg,h9⟩:=Q.ei h8;have dj:=Q.aZ h9;simp only [fL] at dj;obtain ⟨rfl,rfl⟩:=dj;have bf:cp=sz∨src=[]:=by simpa using hg
   have Qb:qM L2 0:=O2.free (O1.free (hH.free 0) (by omega)) (by omega);obtain ⟨L3,O3,V3⟩:=wv O2.mid R Qb xv hx h5;have R3:=aG.keep (m:=1) (j:=0) O3.keep (fun _=>trivial) R2;obtain ⟨news,iM,g1,g2,g3,g4⟩:=apc (P:=P) (sz:=sz) R3 bf;obtain ⟨v',w',g5,g6⟩:=NK (ty:=o.type) O3.mid T V3 g1 g2 g3 g4 h6 hd;refine .val ?_ g6;rw [execOp_builtin ho,show (#[x,y]:Array Operand).map a.eval = #[a.eval x,a.eval y] from by simp];exact wo g5
  ·cases h8
 ·cases h3
theorem ah0 (R:Rel nm N S a w L) (hH:eJ L) (hd:∀d,o.dst=some d→d < N) {x y:Operand} {X Y:ax.X} {t u e:TypeId} {sz bytes:Nat} {i:TypeInfo} {dd:TypeDesc} {z:Value} (hx:bQ nm X x) (xv:X.iJ=true) (hy:bQ nm Y y) (QW:Y.iJ=true)
  (ho:o.op = .call ⟨.builtin .append,#[x,y],#[t,u]⟩) (T:AY P sz bytes t u e i dd z) (hr:(bq Cl d (.A5 sz bytes X Y)).run S=some r):dx P a w o (dO nm N S w L a o.dst r.1 r.2):=by
 simp only [bq] at hr;obtain ⟨av,h1,h2⟩:=Q.aK hr;clear hr;split at h2
 ·rename_i pl g cp off len;have r1:=rd_val R hy h1;obtain ⟨res,h3,h4⟩:=Q.aK h2;clear h2;obtain ⟨e0,x0,rows⟩:=res;obtain ⟨hg,h5⟩:=Q.ei h4;clear h4;obtain ⟨⟨v,wF⟩,h6,h7⟩:=Q.aK h5;clear h5;simp only [bK,eU,fA] at hg;obtain ⟨⟨rfl,E7⟩,jV⟩:=hg;obtain ⟨L3,O3,V3⟩:=wv (cg.init R) R (hH.free 0) xv hx h6;obtain ⟨news,iM,g1,g2,g3,g4⟩:=aqs (P:=P) R r1 h3 E7 jV;obtain ⟨v',w',g5,g6⟩:=NK (ty:=o.type) O3.mid T V3 g1 g2 (g3 _ _) g4 h7 hd;refine .val ?_ g6;rw [execOp_builtin ho,show (#[x,y]:Array Operand).map a.eval = #[a.eval x,a.eval y] from by simp];exact wo g5
 ·exact XX (Cl:=Cl) (d:=d) R hH hd hx xv hy QW ho T h2
theorem ahZ (R:Rel nm N S a w L) (hH:eJ L) (hd:∀d,o.dst=some d→d < N) {x y:Operand} {X Y:ax.X} {t u e:TypeId} {i:TypeInfo} {dd:TypeDesc} {z:Value} (hx:bQ nm X x) (xv:X.iJ=true) (hy:bQ nm Y y)
  (ho:o.op = .call ⟨.builtin .append,#[x,y],#[t,u]⟩) (T:AY P 1 1 t u e i dd z) (hr:(bq Cl d (.A3 X Y)).run S=some r):dx P a w o (dO nm N S w L a o.dst r.1 r.2):=by
 simp only [bq] at hr;obtain ⟨av,h1,h2⟩:=Q.aK hr;clear hr;have r1:=rd_val R hy h1;split at h2
 ·rename_i s;obtain ⟨⟨v,wF⟩,h5,h6⟩:=Q.aK h2;clear h2;obtain ⟨L3,O3,V3⟩:=wv (cg.init R) R (hH.free 0) xv hx h5;have e1:=r1.cL.rH;have QM:Src P 1 w (.string ⟨s.toArray⟩) (D.da s).length (strCells s):=by
   refine ⟨fun w'=>by simp [Builtin.lenOf,Ba,mF],fun w' _=>?_,by simp [strCells,mF],?_⟩
   ·simp only [Builtin.firstCells,mF];have hex:(⟨s.toArray⟩:ByteArray).extract 0 s.length=⟨s.toArray⟩:=by
     apply ByteArray.ext;rw [aeG];apply rR;simp
    rw [hex];have:(⟨s.toArray⟩:ByteArray).data.map (fun b=>Value.int .u8 b.toNat)=strCells s:=by
     apply rR;simp [strCells]
    rw [this];rfl
   ·intro u hu;simp only [strCells,List.mem_toArray,iz] at hu;obtain ⟨b,_,rfl⟩:=hu;rfl
  obtain ⟨v', w', g5, g6⟩ := NK (ty := o.type) O3.mid T V3 QM (adF s) (iM := fun i _ => Value.int .u8 (((s.getD i 0).toNat : Nat) : Int)) (fun i c x hx => by
      obtain ⟨b, g1, rfl, rfl⟩ := MH hx
      simp only [kB, g1, Option.getD_some]
      exact .plain .int) (fun i c x hx => by
      obtain ⟨b, g1, rfl, rfl⟩ := MH hx
      rw [db, uO, jC]
      simp [strCells, kB, g1]) h6 hd
  refine .val ?_ g6;rw [execOp_builtin ho,show (#[x,y]:Array Operand).map a.eval = #[a.eval x,a.eval y] from by simp,e1];exact wo g5
 ·cases h2
theorem XZ (R:Rel nm N S a w L) (hH:eJ L) (hd:∀d,o.dst=some d→d < N) {x:Operand} {X:ax.X} (hx:bQ nm X x) (xv:X.iJ=true) (ho:o.op = .move x∨o.op = .assign x)
  (hr:(bq Cl d (.LB X)).run S=some r):dx P a w o (dO nm N S w L a o.dst r.1 r.2):=by
 simp only [bq] at hr;obtain ⟨⟨v,fe⟩,h1,h2⟩:=Q.aK hr;clear hr;obtain ⟨L1,O1,V1⟩:=wv (cg.init R) R (hH.free 0) xv hx h1;have hex:(execOp a.eval o).run P w = .ok (.value (a.eval x)) w:=by rcases ho with ho | ho<;>simp [execOp,ho]
 refine .val hex ?_;have plain:∀{r:V×List Wr},(pure (v,fe):Q (V×List Wr)).run S=some r→dO nm N S w L a o.dst r.1 r.2 (a.eval x) w:=by
  intro r h;obtain rfl:=Q.aZ h;exact O1.mid.rel.fZ O1.mid.mono hd (V1.rep O1.mid.dh)
 simp only at h2;unfold aa6 at h2;split at h2
 ·rename_i pl g aa sz rows;obtain ⟨⟨c,fy⟩,h3,h4⟩:=Q.aK h2;obtain rfl:=Q.aZ h4;obtain ⟨L2,O2,R2⟩:=Tx (m:=0) (j:=0) O1.mid V1 h3;exact O2.mid.rel.fZ O2.mid.mono hd (m:=0) (.one R2)
 ·rename_i pl g sz off len;split at h2
  ·obtain ⟨⟨c,fy⟩,h3,h4⟩:=Q.aK h2;obtain rfl:=Q.aZ h4;obtain ⟨L2,O2,R2⟩:=uD (m:=0) (j:=0) (c:=.view pl g sz off len) (v:=a.eval x) O1.mid V1 h3;exact O2.mid.rel.fZ O2.mid.mono hd (m:=0) (.one R2)
  ·exact plain h2
 ·exact plain h2
theorem acg {m:Nat} {mv:Bool} {r:aI}:∀(cs:List C) {ws:List Wr} {L:aw} (M:cg nm N S0 w0 L0 ws a w L) (j0 c0:Nat) (vs:Nat→Value)
  (hc:∀j c,cs[j]? = some c→iQ nm w0 L0 S0.γ w L (S0.ah ws).γ m (j0+j) c (vs (j0+j))) {rr:List C×List Wr} (hr:(putCells mv r ws c0 cs).run S0=some rr),
  ∃L',Out nm N S0 w0 L0 ws rr.2 a w L L' (fun q=>¬ (q.k = .h m∧j0≤q.j)) m∧rr.1.length=cs.length∧(∀c∈cs,c≠.dead)∧
   ∀j c,rr.1[j]? = some c→aG nm w L' (S0.ah rr.2).γ (.h m) (j0+j) c (vs (j0+j))
 | [],ws,L,M,j0,c0,vs,hc,rr,hr=>by
  simp only [putCells] at hr;obtain rfl:=Q.aZ hr;exact ⟨L,Out.refl M _ m,rfl,fun c h=>by simp at h,fun j c h=>by simp at h⟩
 | c::cs,ws,L,M,j0,c0,vs,hc,rr,hr=>by
  simp only [putCells] at hr;obtain ⟨⟨c1,fe⟩,h1,h2⟩:=Q.aK hr;clear hr;obtain ⟨⟨Bo,fy⟩,h3,h4⟩:=Q.aK h2;clear h2;obtain rfl:=Q.aZ h4;have c7:=hc 0 c rfl;have lq:c≠.dead:=by
   rintro rfl;cases mv<;>simp [Mf,ta,oV,st] at h1
  obtain ⟨L1,O1,R1⟩:∃L',Out nm N S0 w0 L0 ws fe a w L L' (fun q=>¬ (q.k = .h m∧q.j=j0)) m∧aG nm w L' (S0.ah fe).γ (.h m) j0 c1 (vs j0):=by
   cases mv with
   | true=>exact TP M c7 h1
   | false=>exact TI M c7 h1
  obtain ⟨L2, O2, hl, mg, R2⟩ := acg cs O1.mid (j0 + 1) (c0 + 1) vs (fun j c h => by
    have := hc (j + 1) c (by simpa using h)
    have := this.keep O1.keep (fun p => by simp)
    rwa [show j0 + 1 + j = j0 + (j + 1) by omega]) h3
  refine ⟨L2,(O1.weaken ?_).trans (O2.weaken ?_),by simp [hl],?_,?_⟩
  ·intro q hq h;exact hq ⟨h.1,by omega⟩
  ·intro q hq h;exact hq ⟨h.1,by omega⟩
  ·intro y hy;rcases gT.1 hy with rfl | hy
   ·exact lq
   ·exact mg y hy
  ·intro j y hj;cases j with
   | zero=>
    simp only [kC,ai] at hj;subst hj;exact R1.keep O2.keep (fun p=>by simp)
   | succ j=>
    have:=R2 j y (by simpa using hj);rwa [show j0+1+j=j0+(j+1) by omega] at this
theorem Yc {m:Nat} {Pl:Place} {i:Nat}:∀(cs:List C) {ws:List Wr} {L:aw} (M:cg nm N S0 w0 L0 ws a w L) (j0 c0:Nat) (vs:Nat→Value)
  (hc:∀j c,cs[j]? = some c→iQ nm w0 L0 S0.γ w L (S0.ah ws).γ m (j0+j) c (vs (j0+j))) {rr:List D×List Wr} (hr:(va Pl i ws c0 cs).run S0=some rr),
  ∃L',Out nm N S0 w0 L0 ws rr.2 a w L L' (fun q=>¬ (q.k = .h m∧j0≤q.j)) m∧rr.1.length=cs.length∧(∀c∈cs,c≠.dead)∧
   ∀j c,rr.1[j]? = some c→aG nm w L' (S0.ah rr.2).γ (.h m) (j0+j) (.d c) (vs (j0+j))
 | [],ws,L,M,j0,c0,vs,hc,rr,hr=>by
  simp only [va] at hr;obtain rfl:=Q.aZ hr;exact ⟨L,Out.refl M _ m,rfl,fun c h=>by simp at h,fun j c h=>by simp at h⟩
 | c::cs,ws,L,M,j0,c0,vs,hc,rr,hr=>by
  simp only [va] at hr;obtain ⟨⟨c1,fe⟩,h1,h2⟩:=Q.aK hr;clear hr;have c7:=hc 0 c rfl;have lq:c≠.dead:=by
   rintro rfl;simp [oV,st] at h1
  obtain ⟨L1,O1,R1⟩:=TI M c7 h1;simp only at h2;split at h2
  ·rename_i z;obtain ⟨⟨Bo,fy⟩,h3,h4⟩:=Q.aK h2;clear h2;obtain rfl:=Q.aZ h4
   obtain ⟨L2, O2, hl, mg, R2⟩ := Yc cs O1.mid (j0 + 1) (c0 + 1) vs (fun j c h => by
     have := hc (j + 1) c (by simpa using h)
     have := this.keep O1.keep (fun p => by simp)
     rwa [show j0 + 1 + j = j0 + (j + 1) by omega]) h3
   refine ⟨L2,(O1.weaken ?_).trans (O2.weaken ?_),by simp [hl],?_,?_⟩
   ·intro q hq h;exact hq ⟨h.1,by omega⟩
   ·intro q hq h;exact hq ⟨h.1,by omega⟩
   ·intro y hy;rcases gT.1 hy with rfl | hy
    ·exact lq
    ·exact mg y hy
   ·intro j y hj;cases j with
    | zero=>
     simp only [kC,ai] at hj;subst hj;exact R1.keep O2.keep (fun p=>by simp)
    | succ j=>
     have:=R2 j y (by simpa using hj);rwa [show j0+1+j=j0+(j+1) by omega] at this
  ·cases h2
theorem aiu (R:Rel nm N S a w L) (hH:eJ L) (hd:∀d,o.dst=some d→d < N) {x v:Operand} {X V':ax.X} {t:TypeId} {mv:Bool} {n:Nat} (hx:bQ nm X x) (hv:bQ nm V' v) (hvo:V'.iJ=true)
  (ho:o.op = .store t x v) (ht:jO P t=some n) (hn:n≠0) (hr:(bq Cl d (.store mv n X V')).run S=some r):dx P a w o (dO nm N S w L a o.dst r.1 r.2):=by
 simp only [bq] at hr;obtain ⟨p,h1,h2⟩:=Q.aK hr;clear hr;obtain ⟨⟨vv,fe⟩,h3,h4⟩:=Q.aK h2;clear h2;obtain ⟨hg,h5⟩:=Q.ei h4;clear h4;simp only [eU] at hg;have rp:=rd_val R hx h1;obtain ⟨L1,O1,V1⟩:=wv (cg.init R) R (hH.free 0) hvo hv h3;dsimp only at V1 O1 hg h5;have qm:∀vs,vv≠.aq vs:=by rintro vs rfl;exact hn (by rw [←hg];rfl)
 have run:∀(B o':Nat),a.eval x = .pointer (some ⟨B,o',none⟩)→(a.eval v).cells.size=n→(∀j,j < n→(w.cell? ⟨B,o'+j,none⟩).isSome=true)→(∀j,j < n→w.frozen? ⟨B,o'+j,none⟩=false)→(∀u∈(a.eval v).cells.toList,u.oneCell'=true)→
   (execOp a.eval o).run P w = .ok .skip (w.setCells B o' (a.eval v).cells.toList):=by
  intro B o' hb hs hc hf h1;have bp:=run_storeCells_cells (P:=P) B o' (a.eval v).cells.toList 0 w (by simpa [hs] using hc) (by simpa [hs] using hf) h1;simp only [jC] at bp;have:(Instr.storeAt t (a.eval x) (a.eval v)).run P w = .ok () (w.setCells B o' (a.eval v).cells.toList):=by
   rw [hb];simp [Instr.storeAt,Instr.sureAddr,storeVar,yn ht,hs,bp]
  simp [execOp,ho,this]
 have aaK:∀(mg:∀c∈vv.cells,c≠.dead),(a.eval v).cells.size=n∧(∀j c,vv.cells[j]? = some c→iQ nm w L S.γ w L1 (S.ah fe).γ 0 (0+j) c ((a.eval v).cells.getD (0+j) undef))∧(∀u∈(a.eval v).cells.toList,u.oneCell'=true):=by
  intro mg;obtain ⟨c1,c2⟩:=V1.cells O1.mid.dh qm mg;refine ⟨by omega,fun j c hc=>?_,fun u hu=>?_⟩
  ·have hj:j < (a.eval v).cells.size:=by rw [←c1];exact (cw.1 hc).1
   have:=c2 j c _ hc (og hj);simpa [Array.getD,hj] using this
  ·obtain ⟨j,hj,Qp⟩:=List.mem_iff_getElem.1 hu;have vp:j < (a.eval v).cells.size:=by simpa using hj
   have hcj:j < vv.cells.length:=by omega
   have:=c2 j vv.cells[j] u (by simp) (by rw [og vp];simpa using Qp);exact (this.rep O1.mid.dh).vV (mg _ (bM hcj))
 split at h5
 ·
  rename_i r0 g c;obtain ⟨⟨cs,fy⟩,h6,h7⟩:=Q.aK h5;clear h5;rw [Q.run_bind,uV,Option.bind_some] at h7;obtain ⟨jV,h8⟩:=Q.ei h7;clear h7;obtain rfl:=Q.aZ h8;simp only [bK,nA,eU,fA] at jV;obtain ⟨⟨hG,jW⟩,BX⟩:=jV;have lq:∀c∈vv.cells,c≠.dead:=by
   have aux:∀(l:List C) (ws:List Wr) (c0:Nat) (rr:List C×List Wr),(putCells mv r0 ws c0 l).run S=some rr→∀c∈l,c≠.dead:=by
    intro l;induction l with
    | nil=>intro ws c0 rr _ c hc;simp at hc
    | cons y l ih=>
     intro ws c0 rr h c hc;simp only [putCells] at h;obtain ⟨r1,g1,g2⟩:=Q.aK h;obtain ⟨r2,g3,_⟩:=Q.aK g2;rcases gT.1 hc with rfl | hc
     ·rintro rfl;cases mv<;>simp [Mf,ta,oV,st] at g1
     ·exact ih _ _ _ g3 c hc
   exact aux _ _ _ _ h6
  obtain ⟨hs,Fi,Fw⟩:=aaK lq;obtain ⟨L2,O2,dW,_,R2⟩:=acg (m:=0) vv.cells O1.mid 0 c (fun j=>(a.eval v).cells.getD j undef) Fi h6;have Y6:cs.length=vv.cells.length:=dW;dsimp only at O2 R2 dW;cases rp.cL with
  | ptr iH gA hp=>
   obtain ⟨B,o',hB,cm⟩:=hp jW.symm;have py:=O2.mid.boxes B r0 o' hB;obtain ⟨B',eY,cur,e,fz,k1,k2,k3,k4⟩:=O2.mid.rel.room r0 hG (by omega);obtain rfl:=O2.mid.rel.fB B' B r0 eY o' k1 py;obtain rfl:eY=o':=by rw [k1] at py;simpa using py
   obtain ⟨L3, hR, hM, _, _⟩ := Rel.V4 (m := 0) hG cs (a.eval v).cells.toList 0 c (S := S) (ws := fy) O2.mid.rel py (by simp; omega) (by omega) (by
     intro j y u hy hu
     have := R2 j y hy
     rw [DO] at hu
     simpa [iw, hu] using this)
   refine .skip (run B' (eY+c) cm hs (fun j hj=>?_) (fun j hj=>?_) Fw) (hR.fZ (O2.mid.mono.trans hM) hd (m:=0) (.aq (us:=#[]) rfl rfl (fun i x u h=>by simp at h)))
   ·rw [qT k2];simp;omega
   ·exact Po k2 k3 (by omega)
 ·
  rename_i pl g sz i c;obtain ⟨⟨zs,fy⟩,h6,h7⟩:=Q.aK h5;clear h5;obtain ⟨⟨e,x0,rows⟩,h8,h9⟩:=Q.aK h7;clear h7;obtain ⟨rfl,jW,hE,xp⟩:=uu h8;obtain ⟨row,de,dj⟩:=Q.gw h9;clear h9;obtain ⟨jV,gO⟩:=Q.ei dj;clear dj;simp only [fA] at jV;obtain ⟨wF,uf,iE⟩:=Q.gw gO;clear gO;obtain rfl:=Q.aZ iE;have lq:∀c∈vv.cells,c≠.dead:=by
   have aux:∀(l:List C) (ws:List Wr) (c0:Nat) (rr:List D×List Wr),(va pl i ws c0 l).run S=some rr→∀c∈l,c≠.dead:=by
    intro l;induction l with
    | nil=>intro ws c0 rr _ c hc;simp at hc
    | cons y l ih=>
     intro ws c0 rr h c hc;simp only [va] at h;obtain ⟨⟨y1,wsy⟩,g1,g2⟩:=Q.aK h;rcases gT.1 hc with rfl | hc
     ·rintro rfl;simp [oV,st] at g1
     ·simp only at g2;split at g2
      ·obtain ⟨r2,g3,_⟩:=Q.aK g2;exact ih _ _ _ g3 c hc
      ·cases g2
   exact aux _ _ _ _ h6
  obtain ⟨hs,Fi,Fw⟩:=aaK lq;obtain ⟨L2,O2,dW,_,R2⟩:=Yc (m:=0) vv.cells O1.mid 0 c (fun j=>(a.eval v).cells.getD j undef) Fi h6;have Y6:zs.length=vv.cells.length:=dW;dsimp only at O2 R2 dW;cases rp.cL with
  | eE iH hh gA hp=>
   obtain ⟨B,o',hB,cm⟩:=hp jW;obtain ⟨u0,sJ⟩:=O2.mid.A9 hh hE xp;rcases sJ.nU with ⟨ml,_⟩ | ⟨B',eY,cap,cur,e',fz,val,_,bf,fj,dA,cU,fQ,dL,dG,Cj,dM,dX⟩
   ·rw [ml] at de;simp at de
   have p9:=O2.mid.rows B' pl eY hh fj;obtain rfl:=O2.mid.vH B' B pl eY o' p9 hB;obtain rfl:eY=o':=by rw [p9] at hB;simpa using hB
   dsimp only at dL fQ fj dA Cj xp hE de uf;have hi:i < rows.length:=(cw.1 de).1;have gB:row.length=sz:=fQ row (ft de);have qj:i * sz+sz≤cap * sz:=by
    have:(i+1) * sz≤cap * sz:=pY _ (by omega);rwa [lJ,Nat.one_mul] at this
   obtain ⟨L3, hR, hM, _⟩ := Rel.Xz (m := 0) (sz := sz) (i := i) hh zs (a.eval v).cells.toList 0 c x0 (S0 := S) (ws := fy) (e8 := wF) O2.mid.rel hE ⟨rows, xp⟩ fj (by simp; omega) uf (by
     intro j y u hy hu
     have := R2 j y hy
     rw [DO] at hu
     simpa [iw, hu] using this)
   refine .skip (run B' (eY+i * sz+c) cm hs (fun j hj=>?_) (fun j hj=>?_) Fw) (hR.fZ (O2.mid.mono.trans hM) hd (m:=0) (.aq (us:=#[]) rfl rfl (fun i x u h=>by simp at h)))
   ·rw [qT dA];simp;omega
   ·exact Po dA cU (by omega)
 ·cases h5
theorem apO {c:C} {k:Key} {j:Nat} {v:Value} {γ:Key→Nat} {rr:C×List Wr} (h:(st ws c).run S=some rr) (hc:c.clean=true):rr.1.clean=true:=by
 cases c with
 | view pl g sz off len=>
  simp only [st] at h;obtain ⟨res,h1,h2⟩:=Q.aK h;obtain ⟨_,h3⟩:=Q.ei h2;obtain rfl:=Q.aZ h3;rfl
 | c6=>simp [C.clean] at hc
 | mp=>simp [C.clean] at hc
 | gi=>simp [st] at h
 | eE=>simp [st] at h
 | bu=>simp [st] at h
 | dead=>simp [st] at h
 | _=>simp only [st] at h;obtain rfl:=Q.aZ h;exact hc
theorem I1 (R0:Rel nm N S0 a w0 L0):∀(xs:List ax.X) (ps:List Operand) {ws:List Wr} {L:aw} (M:cg nm N S0 w0 L0 ws a w L) (hp:xs.length=ps.length) (hx:∀(j:Nat) X x,xs[j]? = some X→ps[j]? = some x→bQ nm X x∧X.iJ=true) {rr:List C×List Wr} (hr:(zd ws xs).run S0=some rr),
  ∃L',Out nm N S0 w0 L0 ws rr.2 a w L L' (fun q=>q.k≠.h 0) 0∧rr.1.length=xs.length∧jm rr.1=true∧∀(j:Nat) c x,rr.1[j]? = some c→ps[j]? = some x→aG nm w L' (S0.ah rr.2).γ (.h 0) 0 c (a.eval x)
 | [],[],ws,L,M,hp,hx,rr,hr=>by
  simp only [zd] at hr;obtain rfl:=Q.aZ hr;exact ⟨L,Out.refl M _ 0,rfl,rfl,fun j c x h=>by simp at h⟩
 | X::xs,x::ps,ws,L,M,hp,hx,rr,hr=>by
  simp only [zd] at hr;obtain ⟨v,h1,h2⟩:=Q.aK hr;clear hr;obtain ⟨hX,PJ⟩:=hx 0 X x rfl rfl;have rv:=rd_val R0 hX h1;have aS:=Mn PJ h1;split at h2
  ·rename_i c;obtain ⟨⟨c1,fe⟩,h3,h4⟩:=Q.aK h2;clear h2;obtain ⟨⟨cs,fy⟩,h5,h6⟩:=Q.aK h4;clear h4;obtain rfl:=Q.aZ h6;have YL:c.own=false:=L7 (j:=0) aS rfl;have c7:c.clean=true:=rv.cL.uX YL;obtain ⟨L1,O1,R1⟩:=uD (m:=0) (j:=0) M (iQ.Aj M.dh rv.cL YL) h3;obtain ⟨L2,O2,hl,ajf,R2⟩:=I1 R0 xs ps O1.mid (by simpa using hp) (fun j X x h1 h2=>hx (j+1) X x (by simpa using h1) (by simpa using h2)) h5;have dF:c1.clean=true:=apO (k:=.h 0) (j:=0) (v:=undef) (γ:=S0.γ) h3 c7;refine ⟨L2,(O1.weaken (fun q hq h=>hq h.1)).trans O2,by simp [hl],by simp [jm,dF,ajf],?_⟩;intro j y z hj hz;cases j with
   | zero=>
    simp only [kC,ai] at hj hz;subst hj;subst hz;exact R1.rG O2.dh dF _ _
   | succ j=>exact R2 j y z (by simpa using hj) (by simpa using hz)
  ·cases h2
 | [],_::_,_,_,_,hp,_,_,_=>by simp at hp
 | _::_,[],_,_,_,hp,_,_,_=>by simp at hp
theorem aik (R:Rel nm N S a w L) (hH:eJ L) (hd:∀d,o.dst=some d→d < N) {cF f:Nat} {first cap:Array Operand} {xs ys:List ax.X} (jG:f < kL) (hf:nm cF=some f) (Zj:xs.length=first.toList.length) (vE:∀(j:Nat) X x,xs[j]? = some X→first.toList[j]? = some x→bQ nm X x∧X.iJ=true)
  (Cb:ys.length=cap.toList.length) (FH:∀(j:Nat) X x,ys[j]? = some X→cap.toList[j]? = some x→bQ nm X x∧X.iJ=true) (ho:o.op = .makeFunc (.func cF) first cap)
  (hr:(bq Cl d (.RN f xs ys)).run S=some r):dx P a w o (dO nm N S w L a o.dst r.1 r.2):=by
 simp only [bq] at hr;obtain ⟨⟨fa,fe⟩,h1,h2⟩:=Q.aK hr;clear hr;obtain ⟨⟨fb,fy⟩,h3,h4⟩:=Q.aK h2;clear h2;obtain rfl:=Q.aZ h4;obtain ⟨L1,O1,jH,dF,R1⟩:=I1 R xs first.toList (cg.init R) Zj vE h1;obtain ⟨L2,O2,dW,gy,R2⟩:=I1 R ys cap.toList O1.mid Cb FH h3;have Jr:fa.length=xs.length:=jH;have Y6:fb.length=ys.length:=dW;refine .val (v:=.func (.func cF) (first.map a.eval) (cap.map a.eval)) (w':=w) ?_ (O2.mid.rel.fZ O2.mid.mono hd (m:=0) (.one (.fn jG hf (by simp;simp at Zj;omega) (by simp;simp at Cb;omega) ⟨dF,gy⟩ ?_ ?_)))
 ·simp [execOp,ho,Instr.makeFunc]
 ·intro j x u h5 h6;rw [Hy] at h6;cases hj:first[j]? with
  | none=>simp [hj] at h6
  | some y=>
   simp only [hj,fh,ai] at h6;subst h6;exact (R1 j x y h5 (by rw [DO];exact hj)).rG O2.dh (ko dF h5) _ _
 ·intro j x u h5 h6;rw [Hy] at h6;cases hj:cap[j]? with
  | none=>simp [hj] at h6
  | some y=>
   simp only [hj,fh,ai] at h6;subst h6;exact R2 j x y h5 (by rw [DO];exact hj)
end
end
section
section
variable {nm:FuncId→Option Nat} {N:Nat} {S S0:St} {a:Act} {w w0:World} {L L0:aw} {P:Program} {o:Oper} {Cl:bX} {d:Nat} {r:V×List Wr} {ws:List Wr}
theorem ahY (R:Rel nm N S a w L) (hd:∀d,o.dst=some d→d < N) {t:TypeId} {z1:C} (ho:o.op = .alloc t) (hz:pU P t=some [.cz,z1])
  (hr:(bq Cl d (.NH t [.cz,z1])).run S=some r):dx P a w o (dO nm N S w L a o.dst r.1 r.2):=by
 simp only [bq] at hr;obtain ⟨⟨v,ws0⟩,h1,h2⟩:=Q.aK hr;clear hr;obtain rfl:=Q.aZ h2;obtain ⟨i,z,k1,k2,k3,k4,k5⟩:=AP hz;unfold boxed at h1;rw [Q.run_bind,uV,Option.bind_some] at h1;obtain ⟨hg,h3⟩:=Q.ei h1;clear h1;have h4:=Q.aZ h3;simp only [fL] at h4;obtain ⟨rfl,rfl⟩:=h4;have hn:cj ((S.ah []).E (.r (.l d)))=0∨cj ((S.ah []).E (.r (.l d)))=[C.cz,z1].length:=by
  simpa using hg
 obtain ⟨R1,hm,_⟩:=Rel.sV (S:=S) (ws:=[]) (w:=w) R (m:=0) (r:=.l d) (cs:=[.cz,z1]) (vs:=z.cells) (e:=t) rfl (by simp) k3.symm hn
  (fun j x v hx hv=>(k5 j x v hx hv).rep _ _ _ _ _)
 have xx:z.cells[0]? = some (.pointer none):=by
  have af:0 < z.cells.size:=by rw [k3];simp
  obtain ⟨u,hu⟩:∃u,z.cells[0]? = some u:=⟨_,og af⟩
  have:=(k5 0 .cz u rfl hu).rep (nm:=fun _=>none) w L (fun _=>0) (.h 0) 0;cases this;exact hu
 have hγ:S.γ (.r (.l d))+1≤(S.ah ({ k:=.b (.l d) 0,v:=.one (.bu t) } :: gf (.l d) 0 [.cz,z1] [{ k:=.r (.l d),v:=fx [C.cz,z1].length }])).γ (.r (.l d)):=by
  simp only [St.ah,gf,St.jS];simp
 have R2:Rel nm N (S.ah ({ k:=.b (.l d) 0,v:=.one (.bu t) } :: gf (.l d) 0 [.cz,z1] [{ k:=.r (.l d),v:=fx [C.cz,z1].length }])) a (w.alloc (.cells z.cells t)) (kG (.l d) [C.cz,z1].length 0 w L):=by
  refine R1.Hv { k:=.b (.l d) 0,v:=.one (.bu t) } _ rfl (fun _ h=>h) (fun _ _ _ _ _ h=>h) (fun _ _ _ h=>h) ?_ (fun B l h=>⟨l,h⟩) R1.eN (fun _ _ _ h=>h);refine ⟨.bu t,rfl,fun _=>⟨?_,?_⟩⟩
  ·simp only [gf,St.ah,St.ia];simp [qQ]
  ·exact ⟨w.heap.size,0,z.cells,t,(0,0),.pointer none,yO,oF w _,fun j _=>by simp,xx,.bu ⟨_,_,rfl⟩ rfl,rfl,rfl,rfl,k3,.inl rfl⟩
 refine .val (v:=.pointer (some ⟨w.heap.size,0,none⟩)) (w':=w.alloc (.cells z.cells t)) ?_ (R2.fZ ((dc.refl w L).trans hm) hd (m:=0) (.one (.ptr ⟨_,rfl⟩ hγ (fun _=>⟨_,0,yO,rfl⟩))));have:(Instr.alloc t true (.tuple #[])).run P w = .ok (.pointer (some ⟨w.heap.size,0,none⟩)) (w.alloc (.cells z.cells t)):=by
  simp [Instr.alloc,zeroValue,typeInfo,k1,k2,newVar,newRow]
 simp [execOp,ho,this]
theorem afg {S0:St} {w0:World} {L0:aw} {ws:List Wr} (M:cg nm N S0 w0 L0 ws a w L) {m:Nat} {z1:C} {vs:Array Value} {e:TypeId} (hl:[C.cz,z1].length=vs.size)
  (hx:∀(j:Nat) x v,[C.cz,z1][j]? = some x→vs[j]? = some v→aG nm w L (S0.ah ws).γ (.h m) j x v) {r:V×List Wr} (hr:(boxed d [C.cz,z1] ws).run S0=some r) {dst:Option Nat} (hd:∀d,dst=some d→d < N) :
  dO nm N S0 w0 L0 a dst r.1 ({ k:=.b (.l d) 0,v:=.one (.bu e) } :: r.2) (.pointer (some ⟨w.heap.size,0,none⟩)) (w.alloc (.cells vs e)):=by
 unfold boxed at hr;rw [Q.run_bind,uV,Option.bind_some] at hr;obtain ⟨hg,h2⟩:=Q.ei hr;clear hr;obtain rfl:=Q.aZ h2;have hn:cj ((S0.ah ws).E (.r (.l d)))=0∨cj ((S0.ah ws).E (.r (.l d)))=[C.cz,z1].length:=by simpa using hg
 obtain ⟨R1,hm,_⟩:=M.rel.sV (r:=.l d) (cs:=[.cz,z1]) (vs:=vs) (e:=e) rfl (by simp) hl hn hx;have xx:vs[0]? = some (.pointer none):=by
  have af:0 < vs.size:=by rw [←hl];simp
  obtain ⟨u,hu⟩:∃u,vs[0]? = some u:=⟨_,og af⟩
  have:=hx 0 .cz u rfl hu;cases this;exact hu
 have hγ:S0.γ (.r (.l d))+1≤(S0.ah ({ k:=.b (.l d) 0,v:=.one (.bu e) } :: gf (.l d) 0 [.cz,z1] ({ k:=.r (.l d),v:=fx [C.cz,z1].length } :: ws))).γ (.r (.l d)):=by
  refine jd (jd ?_ (Bj S0 (.l d) [.cz,z1] 0 ({ k:=.r (.l d),v:=fx [C.cz,z1].length } :: ws) (.r (.l d))).2.2.2) (St.pZ _ _ _);simp only [St.ah,St.jS,bW];have:=St.wM S0 ws (.r (.l d));simp;exact this
 have tT:cj ((S0.ah (gf (.l d) 0 [.cz,z1] ({ k:=.r (.l d),v:=fx [C.cz,z1].length } :: ws))).E (.r (.l d)))=2:=by
  rw [((Bj S0 (.l d) [.cz,z1] 0 ({ k:=.r (.l d),v:=fx [C.cz,z1].length } :: ws) (.r (.l d))).2.1 (fun c hc e=>by cases e)).1];simp only [St.ah,St.ia,bW,qQ];rfl
 have R2:Rel nm N (S0.ah ({ k:=.b (.l d) 0,v:=.one (.bu e) } :: gf (.l d) 0 [.cz,z1] ({ k:=.r (.l d),v:=fx [C.cz,z1].length } :: ws))) a (w.alloc (.cells vs e)) (kG (.l d) [C.cz,z1].length m w L):=by
  refine R1.Hv { k:=.b (.l d) 0,v:=.one (.bu e) } _ rfl (fun _ h=>h) (fun _ _ _ _ _ h=>h) (fun _ _ _ h=>h) ?_ (fun B l h=>⟨l,h⟩) R1.eN (fun _ _ _ h=>h);refine ⟨.bu e,rfl,fun _=>⟨?_,?_⟩⟩
  ·rw [tT];omega
  ·exact ⟨w.heap.size,0,vs,e,(0,0),.pointer none,yO,oF w _,fun j _=>by simp,xx,.bu ⟨_,_,rfl⟩ rfl,rfl,rfl,rfl,hl.symm,.inl rfl⟩
 exact R2.fZ (M.mono.trans hm) hd (.one (.ptr (k:=.h 0) ⟨_,rfl⟩ hγ (fun _=>⟨_,0,yO,rfl⟩)))
theorem ah3 (R:Rel nm N S a w L) (hH:eJ L) (hd:∀d,o.dst=some d→d < N) {t:TypeId} {n:Nat} {x:Operand} {X:ax.X} (hx:bQ nm X x) (aQ:X.iJ=true) (ho:o.op = .box t x) (hn:n≠0)
  (hr:(bq Cl d (.NZ t n X)).run S=some r):dx P a w o (dO nm N S w L a o.dst r.1 r.2):=by
 simp only [bq] at hr;obtain ⟨⟨v,fe⟩,h1,h2⟩:=Q.aK hr;clear hr;obtain ⟨⟨cs,fy⟩,h3,h4⟩:=Q.aK h2;clear h2;obtain ⟨hg,h5⟩:=Q.ei h4;clear h4;simp only [eU] at hg;obtain ⟨L',O,hl,hc⟩:=Ma (cg.init R) R (m:=0) (fun B q o hB e=>by have:=hH B q o hB;rw [e] at this;simp [Key.aT] at this) hx aQ h1 h3 (by omega);dsimp only at h5;split at h5
 ·rename_i z eF;obtain ⟨⟨r1,wF⟩,h6,h7⟩:=Q.aK h5;clear h5;obtain rfl:=Q.aZ h7;refine .val (v:=.pointer (some ⟨w.heap.size,0,none⟩)) (w':=w.alloc (.cells (a.eval x).cells t)) ?_ (afg O.mid hl hc h6 hd);have:(Instr.box t (a.eval x)).run P w = .ok (.pointer (some ⟨w.heap.size,0,none⟩)) (w.alloc (.cells (a.eval x).cells t)):=by
   simp [Instr.box,newVar,newRow]
  simp [execOp,ho,this]
 ·cases h5
theorem air (R:Rel nm N S a w L) (hd:∀d,o.dst=some d→d < N) {x:Operand} {X:ax.X} {t:TypeId} (hx:bQ nm X x)
  (ho:o.op = .call ⟨.builtin .unsafeSliceData,#[x],#[t]⟩) (hr:(bq Cl d (.Ts X)).run S=some r):dx P a w o (dO nm N S w L a o.dst r.1 r.2):=by
 simp only [bq] at hr;obtain ⟨v,h1,h2⟩:=Q.aK hr;clear hr;have hv:=rd_val R hx h1;split at h2
 ·rename_i pl g sz off len;obtain ⟨hg,h3⟩:=Q.ei h2;obtain rfl:=Q.aZ h3;simp only [bK,nA,eU,nE] at hg;obtain ⟨nL,rfl⟩:=hg;cases hv.cL with
  | view iH hh gA hV=>
   obtain ⟨b,cap,qX,hle,hb⟩:=iH;obtain ⟨ad,rfl⟩:=yF.1 hb;have xe:cap≠0:=by omega
   refine fp R hd (v:=.pointer (some ad)) ?_ (.one (.eE ⟨_,rfl⟩ hh gA ?_))
   ·rw [execOp_builtin ho,show (#[x]:Array Operand).map a.eval = #[a.eval x] from by simp,qX];exact wo (Lib.run_unsafeSliceData_row _ _ _ _ _ _ xe)
   ·intro jW;rcases hV jW with ⟨h0,_⟩ | ⟨B,o',yT,cur,e,fz,oA,_,hL,_⟩
    ·exact absurd h0 nL
    ·rw [qX] at oA;simp only [Value.slice.injEq,ai] at oA;refine ⟨B,o',hL,?_⟩;rw [oA.1];simp
 ·cases h2
theorem anK {e:TypeId} (hc:P.cellsOf e=1) (count off n:Nat) (hn:off+n≤count):liesAt P P.depth e count off e n=true:=by
 have hd:P.depth=(2 * (P.types.size+Made.depth)+1)+1:=rfl;rw [hd];simp only [liesAt,wL];left;rw [hd];simp [rowAt,hc,hn,sameLayout];exact .inl (Nat.mod_one off)
theorem apq {pt it ty e:TypeId} (hp:P.underlying pt=some (.pointer e)) (hc:P.cellsOf e=1) {B off cells:Nat} (Cg:w.shape? B=some (e,cells)) {n:Nat} {k:IntKind} (h0:n≠0) (hn:off+n≤cells) (h63:n≤9223372036854775807) {s:ByteArray}
  (Fj:(loadBytes ⟨B,off,none⟩ .empty n).run P w = .ok s w) :
  (Builtin.unsafeString_ #[pt,it] ty #[.pointer (some ⟨B,off,none⟩),.int k n]).run P w = .ok (.string s) (w.freeze ⟨B,off,none⟩ n):=by
 have ajC:=anK (P:=P) hc (cells / P.cellsOf e) off n (by rw [hc];simpa using hn);have ai4:¬ (9223372036854775807:Int) < (n:Int):=by omega
 have Jw:IntKind.i64.max=9223372036854775807:=rfl;have ajL:¬ (n:Int) < 0:=by omega
 rw [show Builtin.unsafeString_ #[pt,it] ty #[.pointer (some ⟨B,off,none⟩),.int k n]=(asInt (.int k n) >>= _) from rfl];simp [asInt,asIntOf,Jw,ai4,ajL,h0,variablesAt,Cg,elemOf,run_underlying hp,ajC,Fj]
theorem aaM {B:Nat}:∀(n off:Nat) (acc:ByteArray) (l:List UInt8),l.length=n→(∀i b,l[i]? = some b→∃m,w.cell? ⟨B,off+i,none⟩=some (.int .u8 m)∧b=UInt8.ofNat m.toNat)→
  (loadBytes ⟨B,off,none⟩ acc n).run P w = .ok ⟨acc.data++l.toArray⟩ w
 | 0,off,acc,l,hl,h=>by
  have:l=[]:=pW.1 hl;subst this;simp [loadBytes]
 | n+1,off,acc,[],hl,h=>by cases hl
 | n+1,off,acc,b::t,hl,h=>by
  obtain ⟨m,h1,rfl⟩:=h 0 b rfl;rw [jC] at h1
  have ih := aaM (B := B) n (off + 1) (acc.push (UInt8.ofNat m.toNat)) t (by simpa using hl) (fun i b' hb => by
    obtain ⟨m', g1, g2⟩ := h (i + 1) b' (by simpa using hb)
    exact ⟨m', by rw [show off + 1 + i = off + (i + 1) by omega]; exact g1, g2⟩)
  simp only [loadBytes,Sem.run_bind,run_load,h1,Result.andThen];rw [oj];refine Eq.trans ih ?_;congr 1;apply ByteArray.ext;simp [ByteArray.push]
theorem I2 {B off n B':Nat} (h:B'≠B):(w.freeze ⟨B,off,none⟩ n).heap[B']? = w.heap[B']?:=by
 unfold World.freeze;split
 ·rfl
 ·simp only [AS];rw [aB (fun e=>h e.symm)]
theorem aiQ {B off n:Nat} {cur:Array Value} {e:TypeId} {fz:Nat×Nat} (h:w.heap[B]? = some (.cells cur e fz)):∃cur e fz,(w.freeze ⟨B,off,none⟩ n).heap[B]? = some (.cells cur e fz):=by
 unfold World.freeze;split
 ·exact ⟨_,_,_,h⟩
 ·simp only [AS,bW,h,fh];obtain ⟨lo,hi⟩:=fz;simp only;split<;>exact ⟨_,_,_,rfl⟩
theorem aix (R:Rel nm N S a w L) (hd:∀d,o.dst=some d→d < N) {x y:Operand} {X Y:ax.X} {t u:TypeId} (hx:bQ nm X x) (hy:bQ nm Y y)
  (ho:o.op = .call ⟨.builtin .unsafeString,#[x,y],#[t,u]⟩) (ht:P.underlying t=some (.pointer 5)) (dF:P.cellsOf 5=1) (hr:(bq Cl d (.T' X Y)).run S=some r):dx P a w o (dO nm N S w L a o.dst r.1 r.2):=by
 simp only [bq] at hr;obtain ⟨v,h1,h2⟩:=Q.aK hr;clear hr;obtain ⟨vn,h3,h4⟩:=Q.aK h2;clear h2;obtain ⟨n,h5,h6⟩:=Q.gw h4;clear h4;have hv:=rd_val R hx h1;obtain ⟨kn,hn⟩:=wR (rd_val R hy h3) h5;split at h6
 ·rename_i pl g sz i c;obtain ⟨⟨e0,x0,rows⟩,h7,h8⟩:=Q.aK h6;clear h6;obtain ⟨rfl,jW,hE,xp⟩:=uu h7;obtain ⟨hg,h9⟩:=Q.ei h8;clear h8;obtain ⟨s,hs,dj⟩:=Q.gw h9;clear h9;obtain rfl:=Q.aZ dj;simp only [bK,nA,eU,nE,fA] at hg;obtain ⟨⟨⟨⟨⟨rfl,rfl⟩,rfl⟩,rfl⟩,nN⟩,Jw⟩:=hg;cases hv.cL with
  | eE iH hh gA hp=>
   obtain ⟨B,o',hB,cm⟩:=hp jW;have M:=cg.init R;obtain ⟨u0,sJ⟩:=M.A9 hh hE xp;rcases sJ.nU with ⟨ml,_⟩ | ⟨B',eY,cap,cur,e',fz,val,_,bf,fj,dA,cU,fQ,dL,dG,Cj,dM,dX⟩
   ·dsimp only at ml;subst ml;simp at nN
   obtain rfl:=R.eN B' B pl eY o' fj hB;obtain rfl:eY=o':=by rw [fj] at hB;simpa using hB
   simp only [U5,jC,uO] at cm dG;dsimp only at hs fj dA fQ dL Cj dX nN Jw hn;obtain ⟨hl,hb⟩:=T3 rows hs
   have P' : e' = 5 := dX (.inl (vM.2 ⟨fun e => nN (by rw [e]; rfl), fun q hq => by
     obtain ⟨i, hi⟩ := uJ hq
     obtain ⟨m, g1, g2, _⟩ := hb i (cw.1 hi).1
     rw [hi] at g2
     simp only [ai] at g2
     subst g2
     rfl⟩))
   subst P';have Fj:(loadBytes ⟨B',eY,none⟩ .empty rows.length).run P w = .ok ⟨s.toArray⟩ w:=by
    have := aaM (P := P) (w := w) (B := B') rows.length eY .empty s hl.symm (fun i b qb => by
      have hi : i < rows.length := by rw [hl]; exact (cw.1 qb).1
      obtain ⟨m, g1, g2, g3⟩ := hb i hi
      refine ⟨m, ?_, by rw [qb] at g3; simpa using g3⟩
      rw [qT dA]
      have h := Cj i 0 _ g1
      have h2 := dM i 0 _ g1
      rw [uO, jC] at h
      rw [h]
      generalize val i 0 = vv at h2
      cases h2 with
      | plain h2 => cases h2; rfl)
    simpa using this
   have iT:=apq (P:=P) (w:=w) (ty:=o.type) (it:=u) (k:=kn) ht dF (B:=B') (off:=eY) (cells:=cur.size) (by simp [World.shape?,dA]) nN (by omega) (by omega) Fj;have O:=M.ES (m:=0) (j:=0) hh (ky true rows.length) hE xp;have oC:cG (je pl 0 0 (ky true rows.length)) L B'=some (.row ⟨.h 0,0,[]⟩ eY):=by
    have:=gL fj (Is (m:=0) (j:=0) (jM:=ky true rows.length) (bE.refl pl) (by rw [Aw];rfl));rwa [Aw] at this
   have PF:Rel nm N (S.ah (nj [] pl.k (sN ((S.ah []).E pl.k) pl x0))) a (w.freeze ⟨B',eY,none⟩ rows.length) (cG (je pl 0 0 (ky true rows.length)) L):=by
    refine O.mid.rel.I8 ?_ ?_ O.mid.rel.eN O.mid.rel.fB
    ·intro B2 l dW cK;refine ⟨I2 (fun e=>?_),dW⟩;rw [e,oC] at dW;simp only [ai] at dW;have:=cK _ _ dW.symm;simp [Key.aT] at this
    ·intro B2 l dW;by_cases he:B2=B'
     ·subst he;obtain ⟨_,_,_,h3⟩:=aiQ (off:=eY) (n:=rows.length) dA;exact (lH.1 h3).1
     ·exact xh (O.mid.rel.fu B2 l dW) (I2 he)
   have hM:dc w (w.freeze ⟨B',eY,none⟩ rows.length) (cG (je pl 0 0 (ky true rows.length)) L) (cG (je pl 0 0 (ky true rows.length)) L):=by
    refine ⟨?_,?_,?_,?_,fun B2 oE=>⟨oE,I2 (fun e=>by rw [e,oC] at oE;cases oE)⟩,fun B2 _ oE=>⟨oE,I2 (fun e=>by rw [e,oC] at oE;cases oE)⟩,fun _ _ _ h=>h⟩<;>
     (unfold World.freeze;split<;>simp)
   refine .val (v:=.string ⟨s.toArray⟩) (w':=w.freeze ⟨B',eY,none⟩ rows.length) ?_ (PF.fZ (O.mid.mono.trans hM) hd (m:=0) (.one (.d (.plain .str))));rw [execOp_builtin ho,show (#[x,y]:Array Operand).map a.eval = #[a.eval x,a.eval y] from by simp,cm,hn];exact wo iT
 ·cases h6
end
end
section
section
variable {nm:FuncId→Option Nat} {N:Nat} {S S0:St} {a:Act} {w w0:World} {L L0:aw} {P:Program} {o:Oper} {Cl:bX} {d:Nat} {r:V×List Wr} {ws:List Wr}
abbrev Gx (i:Nat):Place:=⟨.b (.g i) 0,0,[]⟩
theorem Rel.ai1 (h:Rel nm N S a w L) (i:Nat) (hn:cj (S.E (.r (.g i)))≤1):Rel nm N (S.wr { k:=.r (.g i),v:=fx 1 }) a w L:=by
 have bp:Step w w L L S.γ (S.wr { k:=.r (.g i),v:=fx 1 }).γ:=
  ⟨fun B hB=>⟨hB,rfl⟩,St.pZ S _,fun B q o _ _ hB=>⟨hB,fun cur e fz h=>⟨cur,h,rfl⟩⟩,fun _ _ _ _ _ _ _=>rfl,fun B r o _ hB=>hB⟩
 have hE:∀k,k≠.r (.g i)→(S.wr { k:=.r (.g i),v:=fx 1 }).E k=S.E k:=fun k hk=>by rw [St.ia];simp [Ne.symm hk]
 refine ⟨h.size,h.defers,fun j=>?_,fun r c x hx hd=>?_,fun r c=>?_,fun r c hc=>?_,fun r hg hr=>?_,h.fu,h.eN,h.fB⟩
 ·rw [hE _ (by simp)];exact (h.slot j).step bp (fun B q o hq hB=>by rw [←hq,Place.l9];exact ⟨hB,rfl⟩)
 ·rw [hE _ (by simp)] at hx;exact (h.cell r c x hx hd).step bp (fun B q o _ hB=>⟨hB,rfl⟩) (fun B o hB=>⟨hB,fun cur e fz hc=>⟨cur,hc,rfl,rfl⟩⟩)
 ·rw [hE _ (by simp)];exact h.kg r c
 ·rw [hE (.b r c) (by simp)];by_cases he:r = .g i
  ·subst he;rw [St.ia] at hc;simp only [bW,qQ] at hc;exact h.bound _ c (by omega)
  ·rw [hE _ (by simpa using he)] at hc;exact h.bound r c hc
 ·have he:r≠.g i:=by rintro rfl;cases hg
  rw [hE _ (by simpa using he)] at hr ⊢;exact h.room r hg hr
def oN (n i:Nat) (L:aw):aw:=fun B=>if B=n then some (.row (Gx i) 0) else match L B with
 | some (.row q o)=>if q.k = .b (.g i) 0 then none else some (.row q o)
 | x=>x
theorem Ae {n i B:Nat} {l:bO} (h:oN n i L B=some l) (hn:B≠n):L B=some l∧∀q o,l = .row q o→q.k≠.b (.g i) 0:=by
 unfold oN at h;rw [aB hn] at h;split at h
 ·rename_i q o hq;split at h
  ·cases h
  ·rename_i hk;cases h;exact ⟨hq,fun q' o' e=>by cases e;exact hk⟩
 ·rename_i hx;exact ⟨h,fun q o e=>absurd (e▸h) (hx q o)⟩
theorem aaZ {n i B:Nat} {q:Place} {o':Nat} (h:L B=some (.row q o')) (hn:B≠n) (hk:q.k≠.b (.g i) 0):oN n i L B=some (.row q o'):=by
 unfold oN;rw [aB hn,h];simp [hk]
theorem RJ {n i B:Nat} {q:aI} {o':Nat} (h:L B=some (.box q o')) (hn:B≠n):oN n i L B=some (.box q o'):=by
 unfold oN;rw [aB hn,h]
theorem aaY {n i B:Nat} (h:L B=some .bh) (hn:B≠n):oN n i L B=some .bh:=by
 unfold oN;rw [aB hn,h]
theorem anP {n i B:Nat} (h:L B=none) (hn:B≠n):oN n i L B=none:=by
 unfold oN;rw [aB hn,h]
theorem Rel.anQ (h:Rel nm N S a w L) (i:Nat) (hn:0 < cj (S.E (.r (.g i)))) :
  Rel nm N (S.wr { k:=.b (.g i) 0,v:=.one (.mp (.sl (.im false) 2 [])) }) a (w.alloc (.map #[] 0)) (oN w.heap.size i L)∧dc w (w.alloc (.map #[] 0)) L (oN w.heap.size i L):=by
 have af:∀{B l},L B=some l→B≠w.heap.size:=fun {B l} hB=>Nat.ne_of_lt (h.fu B l hB)
 have eh:∀{B l},L B=some l→(w.alloc (.map #[] 0)).heap[B]? = w.heap[B]?:=fun hB=>mW w _ (af hB)
 have hz:(w.alloc (.map #[] 0)).heap.size=w.heap.size+1:=by simp
 have zH:oN w.heap.size i L w.heap.size=some (.row (Gx i) 0):=by unfold oN;rw [aJ rfl]
 refine ⟨h.write _ rfl h.defers (fun _ _ => rfl) ⟨fun B hB => ⟨aaY hB (af hB), eh hB⟩, St.pZ S _, ?_, fun B q o _ _ _ hB => eh hB, fun B r o _ hB => RJ hB (af hB)⟩
   (fun B q o hk _ hB => ⟨aaZ hB (af hB) hk, eh hB⟩) (fun B r o _ hB => ⟨RJ hB (af hB), fun cur e fz hc => ⟨cur, (eh hB).trans hc, rfl, fun _ _ => rfl⟩⟩) ?_ ?_ ?_ ?_, ?_⟩
 ·intro B q o hq hγ hB;refine ⟨aaZ hB (af hB) (fun e=>?_),fun cur e fz hc=>⟨cur,(eh hB).trans hc,rfl⟩⟩;rw [St.jS,e] at hγ;simp at hγ
 ·exact ⟨_,rfl,fun _=>⟨hn,.map (some w.heap.size),.mp ⟨w.heap.size,#[],0,rfl,zH,oF w _,false,[],[],rfl,rfl,rfl⟩⟩⟩
 ·intro B l hB;rw [hz];by_cases he:B=w.heap.size
  ·omega
  ·exact Nat.lt_succ_of_lt (h.fu B l (Ae hB he).1)
 ·intro B B' pl o o' h1 h2;by_cases he:B=w.heap.size
  ·by_cases cY:B'=w.heap.size
   ·rw [he,cY]
   ·rw [he,zH] at h1;simp only [ai,bO.row.injEq] at h1;exact absurd (by rw [←h1.1]) ((Ae h2 cY).2 _ _ rfl)
  ·by_cases cY:B'=w.heap.size
   ·rw [cY,zH] at h2;simp only [ai,bO.row.injEq] at h2;exact absurd (by rw [←h2.1]) ((Ae h1 he).2 _ _ rfl)
   ·exact h.eN B B' pl o o' (Ae h1 he).1 (Ae h2 cY).1
 ·intro B B' q o o' h1 h2;by_cases he:B=w.heap.size
  ·rw [he,zH] at h1;cases h1
  ·by_cases cY:B'=w.heap.size
   ·rw [cY,zH] at h2;cases h2
   ·exact h.fB B B' q o o' (Ae h1 he).1 (Ae h2 cY).1
 ·exact ⟨rfl,rfl,rfl,by rw [hz];omega,fun B hB=>⟨aaY hB (af hB),eh hB⟩,fun B hl hB=>⟨anP hB (by omega),mW w _ (by omega)⟩,fun B j o hB=>RJ hB (af hB)⟩
theorem aim (R:Rel nm N S a w L) (hd:∀d,o.dst=some d→d < N) {t:TypeId} (ho:o.op = .makeMap t none) (hr:(bq Cl d .RP).run S=some r):dx P a w o (dO nm N S w L a o.dst r.1 r.2):=by
 simp only [bq] at hr;obtain ⟨hg,h1⟩:=Q.ei (Q.ni (Q.ni hr));obtain rfl:=Q.aZ h1;have R1:=R.ai1 d (by simpa [St.E] using hg);obtain ⟨R2,hm⟩:=R1.anQ d (by rw [St.ia];simp [qQ])
 refine .val (v := .map (some w.heap.size)) (w' := w.alloc (.map #[] 0)) ?_ (Rel.fZ (ws := [{ k := .b (.g d) 0, v := .one (.mp (.sl (.im false) 2 [])) }, { k := .r (.g d), v := fx 1 }]) R2 hm hd (m := 0)
   (.one (.gi ⟨_, rfl⟩ ?_ (fun _ => ⟨w.heap.size, by unfold oN; rw [aJ rfl], rfl⟩))))
 ·have:(Instr.makeMap t none).run P w = .ok (.map (some w.heap.size)) (w.alloc (.map #[] 0)):=by
   simp [Instr.makeMap,newObj];rfl
  simp [execOp,ho,this]
 ·simp only [St.ah,St.jS];simp [St.γ]
theorem Rel.anR (h:Rel nm N S a w L) {i B:Nat} {es w9:Array MapEntry} {ck wZ:Nat} {x':D} {w':World} (hL:L B=some (.row (Gx i) 0)) (hB:w.heap[B]? = some (.map es ck)) (hb:0 < cj (S.E (.r (.g i)))) (hx:HQ x' w9)
  (zJ:w'.heap[B]? = some (.map w9 wZ)) (ho:∀B',B'≠B→w'.heap[B']? = w.heap[B']?) (bf:w.heap.size≤w'.heap.size) (xo:w'.os=w.os∧w'.tape=w.tape∧w'.output=w.output) :
  Rel nm N (S.ah [{ k:=.b (.g i) 0,v:=.one (.mp x'),keep:=true },{ k:=.a (.b (.g i) 0),v:=V.dead }]) a w' L∧dc w w' L L:=by
 have az:∀{B' l},L B'=some l→l≠.row (Gx i) 0→w'.heap[B']? = w.heap[B']?:=by
  intro B' l hl hn;refine ho B' (fun e=>?_);rw [e,hL] at hl;exact hn (by simpa using hl.symm)
 have hE:∀k,(∀k',k≠.a k')→k≠.b (.g i) 0→(S.ah [{ k:=.b (.g i) 0,v:=.one (.mp x'),keep:=true },{ k:=.a (.b (.g i) 0),v:=V.dead }]).E k=S.E k:=by
  intro k h1 h2;simp only [St.ah,St.ia];rw [aB (Ne.symm h2),aB (Ne.symm (h1 _))]
 have Yy:(S.ah [{ k:=.b (.g i) 0,v:=.one (.mp x'),keep:=true },{ k:=.a (.b (.g i) 0),v:=V.dead }]).E (.b (.g i) 0) = .one (.mp x'):=by
  simp only [St.ah,St.ia,bW]
 have hγ:∀k,(S.ah [{ k:=.b (.g i) 0,v:=.one (.mp x'),keep:=true },{ k:=.a (.b (.g i) 0),v:=V.dead }]).γ k=if k = .a (.b (.g i) 0) then S.γ k+1 else S.γ k:=by
  intro k;simp only [St.ah,St.jS];by_cases h1:Key.b (.g i) 0=k
  ·subst h1;simp
  ·by_cases h2:k = .a (.b (.g i) 0)
   ·subst h2;simp
   ·simp [h1,h2,Ne.symm h2]
 generalize St.ah S [{ k:=.b (.g i) 0,v:=.one (.mp x'),keep:=true },{ k:=.a (.b (.g i) 0),v:=V.dead }]=S' at *;have bp:Step w w' L L S.γ S'.γ:=by
  refine ⟨fun B' dA=>⟨dA,az dA (by simp)⟩,fun k=>?_,?_,?_,fun _ _ _ _ dA=>dA⟩
  ·rw [hγ];split<;>omega
  ·intro B' q o hq _ hl;refine ⟨hl,fun cur e fz hc=>?_⟩;by_cases he:B'=B
   ·rw [he,hB] at hc;cases hc
   ·exact ⟨cur,(ho B' he).trans hc,rfl⟩
  ·intro B' q o hq _ Cm hl;refine az hl (fun e=>?_);simp only [bO.row.injEq] at e;rw [hγ,e.1,aJ rfl] at Cm;omega
 have lr:∀{B' q o},q.k≠.b (.g i) 0→L B'=some (.row q o)→w'.heap[B']? = w.heap[B']?:=fun hq hl=>az hl (fun e=>by simp only [bO.row.injEq] at e;exact hq (by rw [e.1]))
 refine ⟨⟨h.size,h.defers,fun j=>?_,fun r c y hy jg=>?_,fun r c=>?_,fun r c hc=>?_,fun r hg hr=>?_,fun B' l hl=>?_,h.eN,h.fB⟩,?_⟩
 ·rw [hE _ (by simp) (by simp)];exact (h.slot j).step bp (fun B' q o hq hl=>by rw [←hq,Place.l9];exact ⟨hl,lr (by rw [hq];simp) hl⟩)
 ·by_cases he:Key.b r c = .b (.g i) 0
  ·rw [he,Yy] at hy;cases hy;simp only [Key.b.injEq] at he;obtain ⟨rfl,rfl⟩:=he;exact ⟨.map (some B),.mp ⟨B,w9,wZ,rfl,hL,zJ,hx⟩⟩
  ·rw [hE _ (by simp) he] at hy;exact (h.cell r c y hy jg).step bp (fun B' q o hq hl=>⟨hl,lr (by rw [hq];exact he) hl⟩) (fun B' o hl=>⟨hl,fun cur e fz hc=>⟨cur,(az hl (by simp)).trans hc,rfl,rfl⟩⟩)
 ·by_cases he:Key.b r c = .b (.g i) 0
  ·rw [he,Yy];exact ⟨_,rfl⟩
  ·rw [hE _ (by simp) he];exact h.kg r c
 ·rw [hE (.r r) (by simp) (by simp)] at hc;by_cases he:Key.b r c = .b (.g i) 0
  ·simp only [Key.b.injEq] at he;obtain ⟨rfl,rfl⟩:=he;omega
  ·rw [hE _ (by simp) he];exact h.bound r c hc
 ·rw [hE (.r r) (by simp) (by simp)] at hr ⊢;obtain ⟨B',o,cur,e,fz,h1,h2,h3,h4⟩:=h.room r hg hr;exact ⟨B',o,cur,e,fz,h1,(az h1 (by simp)).trans h2,h3,h4⟩
 ·exact HK (h.fu B' l hl) bf
 ·exact ⟨xo.1,xo.2.1,xo.2.2,bf,fun B' dA=>⟨dA,az dA (by simp)⟩,fun B' _ hl=>⟨hl,ho B' (fun e=>by rw [e,hL] at hl;cases hl)⟩,fun _ _ _ hl=>hl⟩
theorem Rel.aaX (R:Rel nm N S a w L) {i g:Nat} {k:Key} {j:Nat} {v:Value} {x:D} (hv:aG nm w L S.γ k j (.gi i g) v) (hE:(S.get (.b (.g i) 0)).v = .one (.mp x)) (hg:(S.get (.b (.g i) 0)).g=g) :
  ∃B es ck,v = .map (some B)∧L B=some (.row (Gx i) 0)∧w.heap[B]? = some (.map es ck)∧HQ x es∧0 < cj (S.E (.r (.g i))):=by
 cases hv with
 | gi iH gA h=>
  obtain ⟨B,h1,h2⟩:=h hg.symm;obtain ⟨u,hu⟩:=R.cell (.g i) 0 (.mp x) hE (by simp);cases hu with
  | mp h3=>
   obtain ⟨B',es,ck,_,g1,g2,g3⟩:=h3;have PV:=R.eN B B' _ _ _ h1 g1;subst PV;refine ⟨B,es,ck,h2,h1,g2,g3,?_⟩;rcases Nk (cj (S.E (.r (.g i)))) with h0 | h0
   ·have:=R.bound (.g i) 0 (by omega);unfold St.E at this;rw [hE] at this;cases this
   ·exact h0
theorem ZO {t:Option TypeDesc} (h:FL t=true):t=some .string:=by
 unfold FL at h;split at h
 ·rfl
 ·cases h
theorem arb {e:TypeId} (h:M6 P e=true):∃i,P.info? e=some i∧i.zero=some (.bool false):=by
 unfold M6 at h;split at h
 ·rename_i i hi;split at h
  ·exact ⟨i,hi,by assumption⟩
  ·cases h
 ·cases h
theorem VL {s t:List UInt8}:((⟨s.toArray⟩:ByteArray)==⟨t.toArray⟩)=(s==t):=by
 show (s.toArray==t.toArray)=_;simp
theorem Pk {s:List UInt8}:∀(l:List (List UInt8×Bool)) (es:List MapEntry) (n:Nat),es.map (fun e=>(e.key,e.val))=l.map (fun p=>(Value.string ⟨p.1.toArray⟩,Value.bool p.2))→
  ∃ x, Instr.findNow .string (.string ⟨s.toArray⟩) es n = some x ∧ (match x with
    | some (m, v) => n ≤ m ∧ v = .bool (qv (l.map fun p => [.str p.1, .bool p.2]) s) ∧ m - n < l.length ∧ (∃ e, es[m - n]? = some e ∧ e.key = .string ⟨s.toArray⟩) ∧
        ∀ b, qw (l.map fun p => [.str p.1, .bool p.2]) s b = (l.set (m - n) (s, b)).map fun p => [.str p.1, .bool p.2]
    | none => qv (l.map fun p => [.str p.1, .bool p.2]) s = false ∧ ∀ b, qw (l.map fun p => [.str p.1, .bool p.2]) s b = (l ++ [(s, b)]).map fun p => [.str p.1, .bool p.2])
 | [],es,n,h=>by
  have:es=[]:=by simpa using h
  subst this;exact ⟨none,rfl,rfl,fun b=>rfl⟩
 | p::l,es,n,h=>by
  cases es with
  | nil=>cases h
  | cons e es=>
   simp only [gl,qK,fL] at h;obtain ⟨⟨h1,h2⟩,h3⟩:=h;have ajN:Instr.findNow .string (.string ⟨s.toArray⟩) (e::es) n=if (s==p.1)=true then some (some (n,e.val)) else Instr.findNow .string (.string ⟨s.toArray⟩) es (n+1):=by
    simp only [Instr.findNow,h1,Instr.sameNow,VL];cases hb:s==p.1<;>rfl
   rw [ajN];by_cases he:s=p.1
   ·subst he;refine ⟨some (n,e.val),by simp,bT n,by rw [h2];simp [qv],by simp,⟨e,by simp,h1⟩,fun b=>by simp [qw]⟩
   ·have PW:(s==p.1)=false:=nE.2 he;obtain ⟨x,g1,g2⟩:=Pk (s:=s) l es (n+1) h3;refine ⟨x,by simp [PW,g1],?_⟩;have hg:qv ([D.str p.1,D.bool p.2]::l.map fun p=>[.str p.1,.bool p.2]) s=qv (l.map fun p=>[.str p.1,.bool p.2]) s:=by simp [qv,PW]
    have hp:∀b,qw ([D.str p.1,D.bool p.2]::l.map fun p=>[.str p.1,.bool p.2]) s b=[D.str p.1,D.bool p.2]::qw (l.map fun p=>[.str p.1,.bool p.2]) s b:=fun b=>by simp [qw,PW]
    simp only [gl];cases x with
    | none=>
     obtain ⟨k1,k2⟩:=g2;exact ⟨by rw [hg];exact k1,fun b=>by rw [hp,k2];rfl⟩
    | some y=>
     obtain ⟨m,v⟩:=y;obtain ⟨k1,k2,k3,⟨e',k4,k5⟩,k6⟩:=g2;have hm:m - n=(m - (n+1))+1:=by omega
     refine ⟨by omega,by rw [hg];exact k2,by simp only [gk];omega,⟨e',by rw [hm];simpa using k4,k5⟩,fun b=>?_⟩;rw [hp,k6,hm];rfl
theorem anU {t:TypeId} {P:Program} {w:World} {b:Bool} {s:ByteArray} (n:Nat) (h:P.underlying t=some .string):(Instr.checkKey b (n+1) t (.string s)).run P w = .ok () w:=by
 simp [Instr.checkKey,run_underlying h]
theorem LA {t:TypeId} {P:Program} {w:World} {b:Bool} {s:ByteArray} (h:P.underlying t=some .string):(Instr.checkKey b 10000 t (.string s)).run P w = .ok () w:=anU 9999 h
theorem aii (R:Rel nm N S a w L) (hd:∀d,o.dst=some d→d < N) {x y:Operand} {X Y:ax.X} {t kt e:TypeId} (hx:bQ nm X x) (hy:bQ nm Y y) (ho:o.op = .lookup t x y false)
  (ht:P.underlying t=some (.map kt e)) (hk:P.underlying kt=some .string) (hz:M6 P e=true) (hr:(bq Cl d (.RM X Y)).run S=some r):dx P a w o (dO nm N S w L a o.dst r.1 r.2):=by
 simp only [bq] at hr;obtain ⟨v,h1,h2⟩:=Q.aK hr;obtain ⟨u,h3,h4⟩:=Q.aK h2;have hv:=rd_val R hx h1;have hu:=rd_val R hy h3;clear hr h2;split at h4
 ·rename_i i g s;have h5:=Q.ni h4;split at h5
  ·rename_i tg sz rows hE;obtain ⟨hg,h6⟩:=Q.ei h5;obtain rfl:=Q.aZ h6;obtain ⟨B,es,ck,g1,g2,g3,⟨tb,ux,l,g4,g5,g6⟩,g7⟩:=R.aaX hv.cL hE (by simpa using hg);simp only [D.sl.injEq] at g4;obtain ⟨_,_,rfl⟩:=g4;subst g5;have hs:=hu.cL.rH;obtain ⟨f,k1,k2⟩:=Pk (s:=s) l es.toList 0 g6;have E6:(Instr.findKey kt (.string ⟨s.toArray⟩) es.toList).run P w = .ok f w:=by
    simp [Instr.findKey,run_underlying hk,k1]
   refine fp R hd (v:=.bool (qv (l.map fun p=>[.str p.1,.bool p.2]) s)) ?_ (.one (.d (.plain .bool)));have:(Instr.lookup t (a.eval x) (a.eval y) false).run P w = .ok (.bool (qv (l.map fun p=>[.str p.1,.bool p.2]) s)) w:=by
    rw [g1,hs];simp only [Instr.lookup];cases f with
    | some f=>
     obtain ⟨m,fv⟩:=f;simp only at k2;simp [run_underlying ht,getObj,Sem.run,g3,LA hk,E6,k2.2.1]
    | none=>
     simp only at k2;obtain ⟨i,hi,QX⟩:=arb hz;simp [run_underlying ht,getObj,Sem.run,g3,LA hk,E6,k2.1,zeroValue,typeInfo,hi,QX]
   simp [execOp,ho,this]
  ·cases h5
 ·cases h4
theorem aa2 {α β:Type} {f:α→α} {g:α→β} {y:β}:∀(l:List α) (i:Nat),(∀x,g (f x)=y)→(l.modify i f).map g=(l.map g).set i y
 | [],i,h=>by simp
 | x::l,0,h=>by simp [h]
 | x::l,i+1,h=>by simp [aa2 l i h]
theorem aio (R:Rel nm N S a w L) (hd:∀d,o.dst=some d→d < N) {x y z:Operand} {X Y Z:ax.X} {t kt e:TypeId} (hx:bQ nm X x) (hy:bQ nm Y y) (hz:bQ nm Z z) (ho:o.op = .mapUpdate t x y z)
  (ht:P.underlying t=some (.map kt e)) (hk:P.underlying kt=some .string) (hr:(bq Cl d (.RT X Y Z)).run S=some r):dx P a w o (dO nm N S w L a o.dst r.1 r.2):=by
 simp only [bq] at hr;obtain ⟨v,h1,h2⟩:=Q.aK hr;obtain ⟨u,h3,h4⟩:=Q.aK h2;obtain ⟨q,h5,h6⟩:=Q.aK h4;have hv:=rd_val R hx h1;have hu:=rd_val R hy h3;have hq:=rd_val R hz h5;clear hr h2 h4;split at h6
 ·rename_i i g s b;have h7:=Q.ni h6;split at h7
  ·rename_i tg sz rows hE;obtain ⟨hg,h8⟩:=Q.ei h7;obtain rfl:=Q.aZ h8;obtain ⟨B,es,ck,g1,g2,g3,⟨tb,ux,l,g4,g5,g6⟩,g7⟩:=R.aaX hv.cL hE (by simpa using hg);simp only [D.sl.injEq] at g4;obtain ⟨_,_,rfl⟩:=g4;subst g5;have hs:=hu.cL.rH;have hb:=aG.r7 hq.cL;obtain ⟨f,k1,k2⟩:=Pk (s:=s) l es.toList 0 g6;have E6:(Instr.findKey kt (.string ⟨s.toArray⟩) es.toList).run P w = .ok f w:=by
    simp [Instr.findKey,run_underlying hk,k1]
   have ai6:B < w.heap.size:=(lH.1 g3).1;have fin:∀w9 wZ,HQ (.sl (.im false) 2 (qw (l.map fun p=>[.str p.1,.bool p.2]) s b)) w9→
     (Instr.mapUpdate t (a.eval x) (a.eval y) (a.eval z)).run P w = .ok () { w with heap:=w.heap.setIfInBounds B (.map w9 wZ) }→
     dx P a w o (dO nm N S w L a o.dst (.aq []) [{ k:=.b (.g i) 0,v:=.one (.mp (.sl (.im false) 2 (qw (l.map fun p=>[.str p.1,.bool p.2]) s b))),keep:=true },{ k:=.a (.b (.g i) 0),v:=V.dead }]):=by
    intro w9 wZ hm iT;obtain ⟨R',Y'⟩:=R.anR (w':={ w with heap:=w.heap.setIfInBounds B (.map w9 wZ) }) (wZ:=wZ) g2 g3 g7 hm (by simp [ai6]) (fun B' az=>by simp [wK,Ne.symm az]) (by simp) ⟨rfl,rfl,rfl⟩;refine .skip ?_ (R'.fZ Y' hd (m:=0) (.aq (us:=#[]) rfl rfl (fun i x u h=>by simp at h)));simp [execOp,ho,iT]
   cases f with
   | some f=>
    obtain ⟨m,fv⟩:=f;simp only [DW] at k2;obtain ⟨k3,k4,k5,⟨e',k6,k7⟩,k8⟩:=k2;have k6':es[m]? = some e':=by simpa using k6
    refine fin (es.modify m fun e=>{ e with key:=.string ⟨s.toArray⟩,val:=.bool b }) ck ⟨false,_,_,rfl,k8 b,?_⟩ ?_
    ·rw [Array.toList_modify,aa2 (g:=fun e:MapEntry=>(e.key,e.val)) (y:=(Value.string ⟨s.toArray⟩,Value.bool b)) _ _ (fun _=>rfl),g6,AW]
    ·have aj0:(Instr.keyThatStays (.string ⟨s.toArray⟩) (.string ⟨s.toArray⟩)).run P w = .ok (.string ⟨s.toArray⟩) w:=by
      simp [Instr.keyThatStays,Instr.sameBits,VL]
     rw [g1,hs,hb];simp [Instr.mapUpdate,run_underlying ht,getObj,setObj,Sem.run,g3,LA hk,E6,k6',k7,aj0]
   | none=>
    simp only at k2;refine fin (es.push { key:=.string ⟨s.toArray⟩,val:=.bool b,born:=ck }) (ck+1) ⟨false,_,_,rfl,k2.2 b,?_⟩ ?_
    ·simp [g6]
    ·rw [g1,hs,hb];simp [Instr.mapUpdate,run_underlying ht,getObj,setObj,Sem.run,g3,LA hk,E6]
  ·cases h7
 ·cases h6
end
end
section
section
variable {nm:FuncId→Option Nat} {N:Nat} {S S0:St} {a:Act} {w w0:World} {L L0:aw} {P:Program} {o:Oper} {Cl:bX} {d:Nat} {r:V×List Wr} {ws:List Wr}
theorem X8:∀(vs:List (Nat×Value)) (cells:Array Value) (k:Nat),(∀(j:Nat) p,vs[j]? = some p→p.1=k+j∧p.2.cells = #[p.2])→k+vs.length=cells.size→
  ∃Iu,Instr.fill (fun i=>some (i * 1,1)) cells vs=some Iu∧Iu.size=cells.size∧(∀i,i < k→Iu[i]? = cells[i]?)∧∀(j:Nat) p,vs[j]? = some p→Iu[k+j]? = some p.2
 | [],cells,k,_,_=>⟨cells,rfl,rfl,fun i _=>rfl,fun j p h=>by simp at h⟩
 | (i,v)::t,cells,k,h,hl=>by
  obtain ⟨h1,h2⟩:=h 0 (i,v) rfl;simp only [jC] at h1;subst h1;simp only [gk] at hl;have h2:v.cells = #[v]:=h2
  obtain ⟨c', g1, g2, g3, g4⟩ := X8 t (cells.setIfInBounds (i * 1 + 0) v) (i + 1) (fun j p hj => by
    obtain ⟨q1, q2⟩ := h (j + 1) p (by simpa using hj)
    exact ⟨by omega, q2⟩) (by simp; omega)
  refine ⟨c',?_,by rw [g2];simp,fun j hj=>?_,fun j p hj=>?_⟩
  ·simp only [Instr.fill,h2];rw [aB (by simp;omega)];simpa using g1
  ·rw [g3 j (by omega),yw (by omega)]
  ·cases j with
   | zero=>
    simp only [kC,ai] at hj;subst hj;rw [jC,g3 i (by omega),uO,jC,Array.getElem?_setIfInBounds_self_of_lt (by omega)]
   | succ j=>
    have:=g4 j p (by simpa using hj);rw [←this];congr 1;omega
theorem XB:∀{ps:List (Nat×ax.X)} {qs:List (Nat×Operand)},AZ nm ps qs→ps.length=qs.length∧∀(j:Nat) X x,ps[j]? = some X→qs[j]? = some x→X.1=x.1∧bQ nm X.2 x.2∧X.2.iJ=true
 | [],[],_=>⟨rfl,fun j X x h=>by simp at h⟩
 | (i,X)::t,(i',x)::t',h=>by
  obtain ⟨h1,h2,h3,h4⟩:=h;obtain ⟨g1,g2⟩:=XB h4;refine ⟨by simp [g1],fun j Y y hY hy=>?_⟩;cases j with
  | zero=>
   simp only [kC,ai] at hY hy;subst hY;subst hy;exact ⟨h1,h2,h3⟩
  | succ j=>exact g2 j Y y (by simpa using hY) (by simpa using hy)
 | [],_::_,h=>h.elim
 | (_,_)::_,[],h=>h.elim
theorem aj' {γ:Key→Nat} {k:Key} {j:Nat} {c:C} {v:Value} (h:aG nm w L γ k j c v) (hf:c.ZM=true):v.cells = #[v]:=by
 cases h with
 | fn=>rfl
 | fns val hf'=>
  have:=JR hf;rcases hf' with ⟨h,_⟩ | ⟨h,_⟩<;>exact absurd this (by omega)
 | _=>cases hf
theorem aib (R:Rel nm N S a w L) (hH:eJ L) (hd:∀d,o.dst=some d→d < N) {t e:TypeId} {len:Nat} {parts:Array (Nat×Operand)} {zs:List C} {ps:List (Nat×ax.X)} (ho:o.op = .buildSlice t len parts) (ht:P.underlying t=some (.slice e)) (hz:pU P e=some zs) (ZG:zs.length=1)
  (Zu:len≤2 ^ 24) (qj:ps.map (·.1)=List.range len) (hp:AZ nm ps parts.toList)
  (hr:(bq Cl d (.Pp (ps.map (·.2)))).run S=some r):dx P a w o (dO nm N S w L a o.dst r.1 r.2):=by
 simp only [bq] at hr;obtain ⟨⟨cs,fe⟩,h1,h2⟩:=Q.aK hr;clear hr;obtain ⟨hf,h2⟩:=Q.ei h2;obtain rfl:=Q.aZ h2;obtain ⟨i,z,k1,k2,k3,k4,k5⟩:=AP hz;obtain ⟨e1,e2⟩:=XB hp;have cK:ps.length=len:=by have:=fX List.length qj;simpa using this
 obtain ⟨L1, O1, jH, dF, R1⟩ := I1 R (ps.map (·.2)) (parts.toList.map (·.2)) (cg.init R) (by simpa using e1) (fun j X x hX hx => by
   rw [bS] at hX hx
   cases BR : ps[j]? with
   | none => simp [BR] at hX
   | some X' =>
     cases fH : parts.toList[j]? with
     | none => rw [fH] at hx; simp at hx
     | some x' =>
       rw [BR] at hX; rw [fH] at hx
       simp only [fh, ai] at hX hx
       subst hX; subst hx
       exact (e2 j X' x' BR fH).2) h1
 have Jr:cs.length=len:=by have:cs.length=(ps.map (·.2)).length:=jH;rw [this,cy,cK]
 have cm:∀(j:Nat) (p:Nat×Value),(parts.toList.map fun p=>(p.1,a.eval p.2))[j]? = some p→p.1=0+j∧p.2.cells = #[p.2]:=by
  intro j p hj;rw [bS] at hj;cases fH:parts.toList[j]? with
  | none=>rw [fH] at hj;simp at hj
  | some x'=>
   rw [fH] at hj;simp only [fh,ai] at hj;subst hj;have Y4:j < ps.length:=by rw [e1];exact (cw.1 fH).1
   have BR:ps[j]? = some ps[j]:=kf Y4;have q1:=(e2 j _ x' BR fH).1;have q2:(ps.map (·.1))[j]? = some ps[j].1:=by rw [bS,BR];rfl
   rw [qj,HC (by omega)] at q2;simp only [ai] at q2;have hc:cs[j]? = some (cs[j]'(by omega)):=kf (by omega);have hr:=R1 j _ x'.2 hc (by rw [bS,fH];rfl);exact ⟨by show x'.1=0+j;omega,aj' hr (lI.1 hf _ (bM ..))⟩
 have arx:parts.toList.length=len:=by omega
 obtain ⟨c',g1,g2,g3,g4⟩:=X8 (parts.toList.map fun p=>(p.1,a.eval p.2)) (madeCells z.cells (len * 1)) 0 cm (by rw [size_madeCells,cy];omega);obtain ⟨hR,hM,bp⟩:=O1.mid.rel.RZ c' e;have hi:i.size=1:=by omega
 have run:(execOp a.eval o).run P w = .ok (.value (.slice (some ⟨w.heap.size,0,none⟩) len len)) (w.alloc (.cells c' e)):=by
  have:(Instr.buildSlice t len (parts.map fun (i,x)=>(i,a.eval x))).run P w = .ok (.slice (some ⟨w.heap.size,0,none⟩) len len) (w.alloc (.cells c' e)):=by
   have zD:(parts.map fun (i,x)=>(i,a.eval x)).toList=parts.toList.map fun p=>(p.1,a.eval p.2):=by simp
   simp only [uO] at g1;unfold Instr.buildSlice;simp only [Sem.run_bind,run_underlying ht,Result.andThen_ok,sizeOf,typeInfo,run_program,k1,Sem.run_pure,hi,uO];have sF:¬ (len > 2 ^ 24):=by omega
   by_cases h0:len=0
   ·have B5:madeCells z.cells len = #[]:=by rw [h0];simp [madeCells]
    rw [B5] at g1;simp only [sF,dE,h0,bW,Sem.run_pure,Result.andThen_ok,Sem.run_bind];simp only [Array.range_zero',zD];simp [g1,newRow]
   ·simp only [sF,dE,h0,Sem.run_bind,zeroValue,typeInfo,run_program,k1,k2,Result.andThen_ok,Sem.run_pure];have Qv:((Array.range len).map fun x=>z.cells[x % z.cells.size]!)=madeCells z.cells len:=rfl;simp [zD,Qv,g1,newRow]
  simp [execOp,ho,this]
 refine .val (v:=.slice (some ⟨w.heap.size,0,none⟩) len len) (w':=w.alloc (.cells c' e)) run (hR.fZ (O1.mid.mono.trans hM) hd (m:=0) (.one ?_));refine .fns (B:=w.heap.size) (o:=0) (cap:=len) (cur:=c') (e:=e) (fz:=(0,0)) (fun j=>c'.getD j undef) (.inl ⟨rfl,by rw [Jr],Nat.le_of_eq Jr⟩) (aw.kX _ _ _) (oF w _) dF ?_ ?_
 ·intro j hj;have hj:j < cs.length:=hj;have vp:j < c'.size:=by rw [g2,size_madeCells];omega
  rw [db];simp [iw,vp]
 ·intro j x hx;have Y4:j < len:=by rw [←Jr];exact (cw.1 hx).1
  have fH:parts.toList[j]? = some (parts.toList[j]'(by omega)):=kf (by omega);have hr:=R1 j x _ hx (by rw [bS,fH];rfl);have hv:=g4 j (_,a.eval (parts.toList[j]'(by omega)).2) (by rw [bS,fH];rfl);rw [db] at hv;have:c'.getD j undef=a.eval (parts.toList[j]'(by omega)).2:=by simp [iw,hv]
  rw [this];exact hr.rG bp (ko dF hx) _ _
end
end
section
def GI (G:Nat→Option Obj) (w:World) (L:aw):Prop:=∀B c,G B=some c→L B=some .bh∧w.heap[B]? = some c
theorem GI.mono {G:Nat→Option Obj} {w w':World} {L L':aw} (h:GI G w L) (m:dc w w' L L'):GI G w' L':=
 fun B c hB=>⟨(m.bh B (h B c hB).1).1,(m.bh B (h B c hB).1).2.trans (h B c hB).2⟩
theorem GI.none (w:World) (L:aw):GI (fun _=>Option.none) w L:=fun _ _ h=>by cases h
section
variable {nm:FuncId→Option Nat} {G:Nat→Option Obj} {N:Nat} {S:St} {a:Act} {w:World} {L:aw} {P:Program} {o:Oper} {Cl:bX} {d:Nat} {r:V×List Wr} {hh:Hint}
def wN (P:Program) (nm:FuncId→Option Nat) (G:Nat→Option Obj) (Cl:bX):Prop:=
 ∀{N:Nat} {S:St} {a:Act} {w:World} {L:aw} {o:Oper} {d:Nat} {r:V×List Wr} {c:Call} {f:Operand} {F:X} {xs:List (Bool×X)},Rel nm N S a w L→eJ L→GI G w L→(∀d,o.dst=some d→d < N)→o.op = .call c→c.callee = .value f→bQ nm F f→F.iJ=true→
  xs.length=c.args.toList.length→(∀(j:Nat) x y,xs[j]? = some x→c.args.toList[j]? = some y→bQ nm x.2 y∧x.2.iJ=true)→(bq Cl d (.call F xs)).run S=some r→dx P a w o (dO nm N S w L a o.dst r.1 r.2)
theorem bind_some {α β:Type} {x:Option α} {f:α→Option β} {r:β} (h:(x >>= f)=some r):∃y,x=some y∧f y=some r:=by
 cases x with
 | none=>cases h
 | some y=>exact ⟨y,rfl,h⟩
theorem bG {α β:Type} {x:Option α} {f:α→β} {r:β} (h:x.map f=some r):∃y,x=some y∧r=f y:=by
 cases x with
 | none=>cases h
 | some y=>exact ⟨y,rfl,by simpa using h.symm⟩
theorem O5 {e:TypeId}:∀(ps:List (Nat×Operand)) {xs:List (Nat×X)},ps.mapM (IA P nm hh e)=some xs→AZ nm xs ps
 | [],xs,h=>by
  have:xs=[]:=by simpa using h.symm
  subst this;trivial
 | p::ps,xs,h=>by
  rw [mL] at h;obtain ⟨y,h1,h2⟩:=bind_some h;obtain ⟨ys,h3,h4⟩:=bind_some h2;have:xs=y::ys:=by simpa using h4.symm
  subst this;unfold IA at h1;obtain ⟨x,h5,rfl⟩:=bG h1;obtain ⟨g1,g2⟩:=uZ h5;exact ⟨rfl,g1,g2,O5 ps h3⟩
theorem abI {fs:Array Field}:∀(ps:List (Nat×Operand)) {xs:List (Nat×Nat×X)},ps.mapM (OB P nm hh fs)=some xs→HR nm (fun i=>(fs.map fun f=>(f.offset,(jO P f.type).getD 0))[i]?) xs ps
 | [],xs,h=>by
  have:xs=[]:=by simpa using h.symm
  subst this;trivial
 | p::ps,xs,h=>by
  rw [mL] at h;obtain ⟨y,h1,h2⟩:=bind_some h;obtain ⟨ys,h3,h4⟩:=bind_some h2;have:xs=y::ys:=by simpa using h4.symm
  subst this;unfold OB at h1;split at h1
  ·rename_i f hf;split at h1
   ·rename_i n x hn hx;split at h1
    ·cases h1
    ·rename_i nN;cases h1;obtain ⟨g1,g2⟩:=uZ hx;refine ⟨?_,nN,g1,g2,abI ps h3⟩;simp [Hy,hf,hn]
   ·cases h1
  ·cases h1
theorem RG {t:TypeId} {lo:Option Operand} {LO:Option X} (h:(match lo with | none=>some none | some v=>(dZ P nm t v).map some)=some LO) :
  (∀x,lo=some x→∃y,LO=some y∧bQ nm y x)∧(lo=none→LO=none):=by
 cases lo with
 | none=>
  have:LO=none:=by simpa using h.symm
  exact ⟨(fun x hx=>by cases hx),fun _=>this⟩
 | some v=>
  obtain ⟨y,h1,rfl⟩:=bG h;exact ⟨fun x hx=>by cases hx;exact ⟨y,rfl,(eP h1).1⟩,fun hx=>by cases hx⟩
theorem ZP {t:TypeId} (h:FM (P.underlying t)=true):P.underlying t=some (.int .u8):=by
 unfold FM at h;split at h
 ·assumption
 ·cases h
theorem N2 {e:TypeId} {b:Nat}:b≤wU e b∧(wU e b=1→e=5):=by
 unfold wU;by_cases he:e=AH
 ·rw [aJ he];exact ⟨bT _,fun _=>he⟩
 ·rw [aB he];by_cases hb:b=1
  ·rw [aJ hb];exact ⟨by omega,fun h=>by cases h⟩
  ·rw [aB hb];exact ⟨bT _,fun h=>absurd h hb⟩
theorem Vv {t u e:TypeId} {i:TypeInfo} {dd:TypeDesc} {zs:List C} (ht:P.underlying t=some (.slice e)) (hu:P.underlying u=some dd) (hd:∀k,dd≠.int k) (hi:P.info? e=some i) (hz:pU P e=some zs) (hs:i.size≠0) (hb:i.bytes≠0) :
  ∃z,AY P i.size (wU e i.bytes) t u e i dd z:=by
 obtain ⟨i',z,k1,k2,k3,k4,k5⟩:=AP hz;obtain rfl:i'=i:=by rw [hi] at k1;simpa using k1.symm
 exact ⟨z,ht,hu,hd,hi,k2,rfl,k4,Nl hs,N2.1,hb,N2.2⟩
theorem ard {l1:List Operand} {l2:List TypeId} {xs:List X} (h:(l1.zip l2).mapM (fun x=>p6 P nm hh x.2 x.1)=some xs) (hl:l1.length=l2.length):xs.length=l1.length∧∀(j:Nat) x y,xs[j]? = some x→l1[j]? = some y→bQ nm x y∧x.iJ=true:=by
 obtain ⟨h1,h2⟩:=C1 _ h;refine ⟨by rw [h1,List.length_zip];omega,fun j x y hx hy=>?_⟩;obtain ⟨p,g1,g2⟩:=h2 j x hx;rw [aeI] at g1;have:p.1=y:=by rw [g1.1] at hy;simpa using hy
 rw [this] at g2;exact uZ g2
theorem aok (hc:wN P nm G Cl) (R:Rel nm N S a w L) (hH:eJ L) (hG:GI G w L) (hd:∀d,o.dst=some d→d < N) {io:pa} (bz:yU P nm hh o=some io) (hr:(bq Cl d io).run S=some r) :
  dx P a w o (dO nm N S w L a o.dst r.1 r.2):=by
 have bad:∀{io:pa},(none:Option pa)=some io→False:=fun h=>by cases h
 unfold yU at bz;split at bz
 ·rename_i x ho;obtain ⟨X,h1,rfl⟩:=bG bz;obtain ⟨g1,g2⟩:=uZ h1;exact XZ R hH hd g1 g2 (.inl ho) hr
 ·rename_i x ho;obtain ⟨X,h1,rfl⟩:=bG bz;obtain ⟨g1,g2⟩:=uZ h1;exact XZ R hH hd g1 g2 (.inr ho) hr
 ·rename_i c x y ho;obtain ⟨C',h1,h2⟩:=bind_some bz;obtain ⟨X,h3,h4⟩:=bind_some h2;obtain ⟨Y,h5,h6⟩:=bind_some h4;cases h6;exact aiq R hd (eP h1).1 (eP h3).1 (eP h5).1 ho hr
 ·rename_i e ho;obtain ⟨zs,h1,h2⟩:=bind_some bz;split at h2
  ·split at h2
   ·cases h2;exact ahY R hd ho h1 hr
   ·cases h2
  ·cases h2;exact ahX R hd ho h1 hr
 ·rename_i e v ho;obtain ⟨n,h1,h2⟩:=bind_some bz;obtain ⟨X,h3,h4⟩:=bind_some h2;split at h4
  ·cases h4
  ·rename_i hn;obtain ⟨g1,g2⟩:=uZ h3;split at h4
   ·cases h4;exact ah3 R hH hd g1 g2 ho hn hr
   ·cases h4;exact ah2 R hH hd g1 g2 ho hn hr
 ·rename_i t parts ho;obtain ⟨zs,h1,h2⟩:=bind_some bz;split at h2
  ·rename_i fs ht;split at h2
   ·rename_i zq;obtain ⟨ps,h3,rfl⟩:=bG h2;exact ah5 R hH hd ho h1 ht (fun f hf=>by simpa using lI.1 zq f hf) (abI _ h3) hr
   ·cases h2
  ·cases h2
 ·rename_i t len parts ho;split at bz
  ·rename_i e ht;obtain ⟨zs,h1,h2⟩:=bind_some bz;split at h2
   ·rename_i row h3;split at h2
    ·cases h2
    ·rename_i iF;obtain ⟨ps,h5,rfl⟩:=bG h2;exact ah4 R hH hd ho ht h1 h3 (fun h=>iF (.inl h)) (fun h=>iF (.inr (.inl h))) (O5 _ h5) (fun h=>UI fun h8=>iF (.inr (.inr ⟨h,h8⟩))) hr
   ·obtain ⟨ps,h5,h6⟩:=bind_some h2;split at h6
    ·rename_i iF;cases h6;exact aib R hH hd ho ht h1 iF.1 iF.2.1 iF.2.2 (O5 _ h5) hr
    ·cases h6
  ·cases bz
 ·rename_i t x ho;obtain ⟨⟨n,agg⟩,h1,h2⟩:=bind_some bz;obtain ⟨X,h3,h4⟩:=bind_some h2;split at h4
  ·cases h4
  ·cases h4;exact aif R hd (eP h3).1 ho h1 hr
 ·rename_i t x v ho;obtain ⟨n,h1,h2⟩:=bind_some bz;obtain ⟨X,h3,h4⟩:=bind_some h2;obtain ⟨V',h5,h6⟩:=bind_some h4;split at h6
  ·cases h6
  ·rename_i hn;cases h6;obtain ⟨g1,g2⟩:=uZ h5;exact aiu R hH hd (eP h3).1 g1 g2 ho h1 hn hr
 ·rename_i x ho;obtain ⟨X,h1,rfl⟩:=bG bz;exact aip R hd (eP h1).1 ho hr
 ·rename_i op t x y yt ho;obtain ⟨tc,h1,h2⟩:=bind_some bz;obtain ⟨X,h3,h4⟩:=bind_some h2;obtain ⟨Y,h5,h6⟩:=bind_some h4;cases h6;exact ah1 R hd (eP h3).1 (eP h5).1 ho h1 hr
 ·rename_i op t x ho;obtain ⟨X,h1,rfl⟩:=bG bz;exact aiw R hd (eP h1).1 ho hr
 ·rename_i s dt x ho;obtain ⟨X,h1,h2⟩:=bind_some bz;obtain ⟨g1,g2⟩:=eP h1;split at h2
  ·rename_i k k' hs sB;cases h2;exact ah7 R hd g1 ho hs sB hr
  ·rename_i hs sB;cases h2;exact ah8 R hd g1 ho hs sB hr
  ·rename_i e hs sB;split at h2
   ·rename_i hu;cases h2;exact aiv R hH hd g1 ho hs sB (ZP hu.1) hu.2 hr
   ·cases h2
  ·rename_i e hs sB;split at h2
   ·rename_i hu;cases h2;exact ah6 R hd g1 g2 ho hs sB (ZP hu) hr
   ·cases h2
  ·cases h2
 ·rename_i f x y ho;obtain ⟨n,h1,h2⟩:=bind_some bz;obtain ⟨n',k0,oA⟩:=ff.1 h1;obtain ⟨ht,rfl⟩:n' < kL∧n'=n:=by
   split at oA
   ·rename_i ht;cases oA;exact ⟨ht,rfl⟩
   ·cases oA
  obtain ⟨xs,h3,h4⟩:=bind_some h2;obtain ⟨ys,h5,h6⟩:=bind_some h4;cases h6;obtain ⟨g1,g2⟩:=C1 _ h3;obtain ⟨g3,g4⟩:=C1 _ h5;refine aik R hH hd ht k0 g1 (fun j X z hX hz=>?_) g3 (fun j X z hX hz=>?_) ho hr
  ·obtain ⟨z',k1,k2⟩:=g2 j X hX;rw [hz] at k1;cases k1;exact eP k2
  ·obtain ⟨z',k1,k2⟩:=g4 j X hX;rw [hz] at k1;cases k1;exact eP k2
 ·rename_i t l c ho;split at bz
  ·rename_i e ht;obtain ⟨i,h1,h2⟩:=bind_some bz;obtain ⟨zs,h3,h4⟩:=bind_some h2;obtain ⟨row,h5,h6⟩:=bind_some h4;obtain ⟨LX,h7,h8⟩:=bind_some h6;obtain ⟨CX,h9,dj⟩:=bind_some h8;split at dj
   ·cases dj
   ·rename_i hs;cases dj;exact ain R hH hd (eP h7).1 (eP h9).1 ho ht h1 h3 h5 hs N2 hr
  ·cases bz
 ·rename_i t x lo hi mx ho;obtain ⟨X,h1,h2⟩:=bind_some bz;obtain ⟨LO,h3,h4⟩:=bind_some h2;obtain ⟨HI,h5,h6⟩:=bind_some h4;obtain ⟨MX,h7,h8⟩:=bind_some h6;obtain ⟨l1,l2⟩:=RG h3;obtain ⟨l3,l4⟩:=RG h5;obtain ⟨l5,l6⟩:=RG h7;split at h8
  ·rename_i ht;split at h8
   ·cases h8
   ·rename_i hm;cases h8;have Qw:mx=none:=by
     cases mx with
     | none=>rfl
     | some m=>obtain ⟨y,hy,_⟩:=l5 m rfl;simp [hy] at hm
    subst Qw;exact ait R hd (eP h1).1 ho ht l1 l2 l3 l4 hr
  ·rename_i e ht;obtain ⟨n,h9,dj⟩:=bind_some h8;split at dj
   ·cases dj
   ·rename_i iF;cases dj;refine ais R hd (eP h1).1 ho ht h9 (fun h=>iF (.inl h)) l1 l2 l3 l4 l5 l6 (fun hm hh=>?_) hr;apply iF;right;cases mx with
    | none=>exact absurd rfl hm
    | some m=>obtain ⟨y,hy,_⟩:=l5 m rfl;exact ⟨by rw [hy];rfl,by rw [l4 hh];rfl⟩
  ·cases h8
 ·rename_i s x fi ho;split at bz
  ·rename_i fs hs;obtain ⟨f,h1,h2⟩:=bind_some bz;obtain ⟨n,h3,h4⟩:=bind_some h2;obtain ⟨X,h5,h6⟩:=bind_some h4;split at h6
   ·cases h6
   ·rename_i hn;cases h6;exact aia R hd (eP h5).1 ho hs h1 h3 hn hr
  ·cases bz
 ·rename_i t x fi ho;split at bz
  ·rename_i fs hs;obtain ⟨f,h1,h2⟩:=bind_some bz;obtain ⟨⟨n,agg⟩,h3,h4⟩:=bind_some h2;obtain ⟨X,h5,h6⟩:=bind_some h4;cases h6;obtain ⟨g1,g2⟩:=eP h5;exact ah' R hd g1 g2 ho hs h1 h3 hr
  ·cases bz
 ·rename_i t x i ho;split at bz
  ·rename_i e ht;obtain ⟨n,h1,h2⟩:=bind_some bz;obtain ⟨X,h3,h4⟩:=bind_some h2;obtain ⟨I,h5,h6⟩:=bind_some h4;split at h6
   ·cases h6
   ·cases h6;exact aid R hd (eP h3).1 (eP h5).1 ho ht h1 hr
  ·rename_i k e ht;obtain ⟨n,h1,h2⟩:=bind_some bz;obtain ⟨X,h3,h4⟩:=bind_some h2;obtain ⟨I,h5,h6⟩:=bind_some h4;split at h6
   ·cases h6
   ·cases h6;exact aie R hd (eP h3).1 (eP h5).1 ho ht h1 hr
  ·cases bz
 ·rename_i t x i ho;split at bz
  ·rename_i ht;obtain ⟨X,h3,h4⟩:=bind_some bz;obtain ⟨I,h5,h6⟩:=bind_some h4;cases h6;exact aic R hd (eP h3).1 (eP h5).1 ho ht hr
  ·cases bz
 ·rename_i x j ho;obtain ⟨X,h1,rfl⟩:=bG bz;exact ah9 R hd (eP h1).1 ho hr
 ·rename_i t x ho;split at bz
  ·cases bz
  ·rename_i dd jf ht;obtain ⟨X,h1,rfl⟩:=bG bz;exact ail R hd ho ht (fun m e=>jf m e) hr
  ·cases bz
 ·rename_i t r ho;split at bz
  ·rename_i k e ht;split at bz
   ·rename_i hc;cases bz;cases r with
    | none=>exact aim R hd ho hr
    | some x=>cases hc.2.2.1
   ·cases bz
  ·cases bz
 ·rename_i t m k ok ho;split at bz
  ·rename_i kt e ht;obtain ⟨M,h1,h2⟩:=bind_some bz;obtain ⟨K,h3,h4⟩:=bind_some h2;split at h4
   ·rename_i hc;cases h4;obtain ⟨c1,c2,c3,rfl⟩:=hc;exact aii R hd (eP h1).1 (eP h3).1 ho ht (ZO c1) c3 hr
   ·cases h4
  ·cases bz
 ·rename_i t m k x ho;split at bz
  ·rename_i kt e ht;obtain ⟨M,h1,h2⟩:=bind_some bz;obtain ⟨K,h3,h4⟩:=bind_some h2;obtain ⟨Z,h5,h6⟩:=bind_some h4;split at h6
   ·rename_i hc;cases h6;exact aio R hd (eP h1).1 (eP h3).1 (eP h5).1 ho ht (ZO hc.1) hr
   ·cases h6
  ·cases bz
 ·rename_i c ho;unfold Xc at bz;split at bz
  ·rename_i f hf;obtain ⟨F,h1,h2⟩:=bind_some bz;split at h2
   ·rename_i bf;obtain ⟨xs,h3,h4⟩:=bind_some h2;cases h4;obtain ⟨g1,g2⟩:=eP h1;obtain ⟨g3,g4⟩:=ard h3 (by simpa using bf);refine hc R hH hG hd ho hf g1 g2 (by simpa using g3) (fun j x y hx hy=>?_) hr;rw [bS] at hx;cases hz:(xs.zipIdx)[j]? with
    | none=>simp [hz] at hx
    | some p=>
     simp only [hz,fh,ai] at hx;subst hx;rw [List.getElem?_zipIdx] at hz;cases QU:xs[j]? with
     | none=>simp [QU] at hz
     | some X=>
      simp only [QU,fh,ai] at hz;subst hz;exact g4 j X y QU hy
   ·cases h2
  ·rename_i hb;split at bz
   ·rename_i x t hx ht;have c7:c=⟨.builtin .len,#[x],#[t]⟩:=by obtain ⟨cl,ca,ct⟩:=c;simp only at hb hx ht;subst hb;congr<;>(apply rR;simpa using by assumption)
    subst c7;split at bz
    ·rename_i hu;obtain ⟨X,h1,rfl⟩:=bG bz;exact XY R hd (eP h1).1 ho (by simpa using hu) hr
    ·rename_i e hu;obtain ⟨X,h1,rfl⟩:=bG bz;exact XY R hd (eP h1).1 ho (by simpa using ⟨e,hu⟩) hr
    ·cases bz
   ·cases bz
  ·rename_i hb;split at bz
   ·rename_i x y t u hx ht;have c7:c=⟨.builtin .append,#[x,y],#[t,u]⟩:=by obtain ⟨cl,ca,ct⟩:=c;simp only at hb hx ht;subst hb;congr<;>(apply rR;simpa using by assumption)
    subst c7;split at bz
    ·rename_i e Ci;obtain ⟨i,h1,h2⟩:=bind_some bz;obtain ⟨zs,h3,h4⟩:=bind_some h2;obtain ⟨X,h5,h6⟩:=bind_some h4;obtain ⟨g1,g2⟩:=uZ h5;split at h6
     ·rename_i e' FE;obtain ⟨Y,h7,h8⟩:=bind_some h6;split at h8
      ·cases h8
      ·rename_i iF;cases h8;obtain ⟨g3,g4⟩:=uZ h7;obtain ⟨z,T⟩:=Vv Ci FE (by simp) h1 h3 (fun h=>iF (.inl h)) (fun h=>iF (.inr h));split at hr
       ·exact ah0 R hH hd g1 g2 g3 g4 ho T hr
       ·exact XX R hH hd g1 g2 g3 g4 ho T hr
     ·rename_i FE;obtain ⟨Y,h7,h8⟩:=bind_some h6;split at h8
      ·rename_i iF;cases h8;obtain ⟨z,T⟩:=Vv Ci FE (by simp) h1 h3 (by omega) (by omega);have BV:wU e i.bytes=1:=by rw [iF.2.2.2,iF.2.1];rfl
       rw [iF.1,BV] at T;exact ahZ R hH hd g1 g2 (eP h7).1 ho T hr
      ·cases h8
     ·cases h6
    ·cases bz
   ·cases bz
  ·rename_i hb;split at bz
   ·rename_i x t hx ht;have c7:c=⟨.builtin .unsafeSliceData,#[x],#[t]⟩:=by obtain ⟨cl,ca,ct⟩:=c;simp only at hb hx ht;subst hb;congr<;>(apply rR;simpa using by assumption)
    subst c7;obtain ⟨X,h1,rfl⟩:=bG bz;exact air R hd (eP h1).1 ho hr
   ·cases bz
  ·rename_i hb;split at bz
   ·rename_i x y t u hx ht;have c7:c=⟨.builtin .unsafeString,#[x,y],#[t,u]⟩:=by obtain ⟨cl,ca,ct⟩:=c;simp only at hb hx ht;subst hb;congr<;>(apply rR;simpa using by assumption)
    subst c7;split at bz
    ·rename_i e he;split at bz
     ·rename_i iF;obtain ⟨X,h3,h4⟩:=bind_some bz;obtain ⟨Y,h5,h6⟩:=bind_some h4;cases h6;obtain ⟨h7,h8⟩:=iF;have h9:e=5:=h7;subst h9;exact aix R hd (eP h3).1 (eP h5).1 ho he h8 hr
     ·cases bz
    ·cases bz
   ·cases bz
  ·rename_i hb;split at bz
   ·rename_i x y t u hx ht;have c7:c=⟨.builtin .min,#[x,y],#[t,u]⟩:=by obtain ⟨cl,ca,ct⟩:=c;simp only at hb hx ht;subst hb;congr<;>(apply rR;simpa using by assumption)
    subst c7;obtain ⟨X,h3,h4⟩:=bind_some bz;obtain ⟨Y,h5,h6⟩:=bind_some h4;cases h6;exact aij R hd (eP h3).1 (eP h5).1 ho hr
   ·cases bz
  ·rename_i hb;split at bz
   ·rename_i x y t u hx ht;have c7:c=⟨.builtin .max,#[x,y],#[t,u]⟩:=by obtain ⟨cl,ca,ct⟩:=c;simp only at hb hx ht;subst hb;congr<;>(apply rR;simpa using by assumption)
    subst c7;obtain ⟨X,h3,h4⟩:=bind_some bz;obtain ⟨Y,h5,h6⟩:=bind_some h4;cases h6;exact aih R hd (eP h3).1 (eP h5).1 ho hr
   ·cases bz
  ·cases bz
 ·cases bz
end
end
section
def St.same (S S':St):Prop:=∀k,S.get k=S'.get k
theorem St.same.refl (S:St):S.same S:=fun _=>rfl
theorem St.same.symm {S S':St} (h:S.same S'):S'.same S:=fun k=>(h k).symm
theorem St.same.trans {S S' Vk:St} (h:S.same S') (k:S'.same Vk):S.same Vk:=fun x=>(h x).trans (k x)
theorem St.same.wr {S S':St} (h:S.same S') (x:Wr):(S.wr x).same (S'.wr x):=by
 intro k;rw [St.BM,St.BM,h x.k,h k]
theorem St.same.ah {S S':St} (h:S.same S'):∀ws:List Wr,(S.ah ws).same (S'.ah ws)
 | []=>h
 | x::t=>(St.same.ah h t).wr x
theorem Q.apo {α:Type} {S S':St} (h:S.same S') (x:Q α):x.run S'=x.run S∧x.reads S'=x.reads S:=Q.Tp x (fun k _=>(h k).symm)
theorem AO (S:St):∀(ws:List Wr) (k:Key),(∀x∈ws,x.k≠k)→(S.ah ws).get k=S.get k
 | [],_,_=>rfl
 | x::t,k,h=>by
  simp only [St.ah,St.BM];rw [aB (h x (by simp))];exact AO S t k (fun y hy=>h y (by simp [hy]))
theorem aeB (ws:List Wr) {S S':St} {k:Key} (h:S.get k=S'.get k):(S.ah ws).get k=(S'.ah ws).get k:=by
 induction ws with
 | nil=>exact h
 | cons x t ih=>
  simp only [St.ah,St.BM];by_cases hk:x.k=k
  ·subst hk;rw [aJ rfl,aJ rfl,ih]
  ·rw [aB hk,aB hk];exact ih
theorem aq6 (S:St) (u v:List Wr) (h:∀x∈u,∀y∈v,x.k≠y.k):((S.ah u).ah v).same ((S.ah v).ah u):=by
 intro k;by_cases hu:∃x∈u,x.k=k
 ·obtain ⟨x,hx,rfl⟩:=hu;rw [AO _ v x.k (fun y hy e=>h x hx y hy e.symm)];exact aeB u (AO S v x.k (fun y hy e=>h x hx y hy e.symm)).symm
 ·have jt:∀x∈u,x.k≠k:=fun x hx e=>hu ⟨x,hx,e⟩
  rw [AO (S.ah v) u k jt];exact aeB v (AO S u k jt)
theorem lL.aeX {x y:lL} (h:x.apart y=true):(∀k∈x.w,k∉y.r∧k∉y.w)∧∀k∈y.w,k∉x.r:=by
 unfold lL.apart at h;simp only [bK,lI,nA,List.contains_eq_mem,U9] at h;exact h
theorem XT (Cl:bX):∀(l:List gx) {S S' Sf:St} {F:List lL},S.same S'→ij Cl l S=some (Sf,F)→∃yJ,ij Cl l S'=some (yJ,F)∧Sf.same yJ
 | [],S,S',Sf,F,h,he=>by
  simp only [ij,ai,fL] at he;obtain ⟨rfl,rfl⟩:=he;exact ⟨S',rfl,h⟩
 | o::t,S,S',Sf,F,h,he=>by
  simp only [ij] at he ⊢;obtain ⟨h1,h2⟩:=Q.apo h (gq Cl o);rw [h1,h2];cases hw:(gq Cl o).run S with
  | none=>simp [hw] at he
  | some ws=>
   simp only [hw,Option.bind_some] at he ⊢;obtain ⟨⟨S1,F1⟩,h3,h4⟩:=bG he;simp only [fL] at h4;obtain ⟨rfl,rfl⟩:=h4;obtain ⟨S2,h5,h6⟩:=XT Cl t (h.ah ws) h3;exact ⟨S2,by rw [h5];rfl,h6⟩
theorem V7 (Cl:bX) (o:gx) (f:lL) (l2:List gx) (F2:List lL):∀(l1:List gx) {S Sf:St} {F1:List lL},F1.length=l1.length→ij Cl (l1++o::l2) S=some (Sf,F1++f::F2)→(∀g∈F1,g.apart f=true)→
  ∃ws,(gq Cl o).run S=some ws∧f=⟨(gq Cl o).reads S,ws.map (·.k)⟩∧∃yJ,ij Cl (l1++l2) (S.ah ws)=some (yJ,F1++F2)∧Sf.same yJ
 | [],S,Sf,F1,hl,he,ha=>by
  have:F1=[]:=pW.1 hl;subst this;simp only [uL,ij] at he ⊢;cases hw:(gq Cl o).run S with
  | none=>simp [hw] at he
  | some ws=>
   simp only [hw,Option.bind_some] at he;obtain ⟨⟨S1,F1⟩,h3,h4⟩:=bG he;simp only [fL,qK] at h4;obtain ⟨rfl,rfl,rfl⟩:=h4;exact ⟨ws,rfl,rfl,Sf,h3,St.same.refl _⟩
 | x::t,S,Sf,F1,hl,he,ha=>by
  cases F1 with
  | nil=>simp at hl
  | cons g F1=>
   simp only [qJ,ij] at he;cases hw:(gq Cl x).run S with
   | none=>simp [hw] at he
   | some wx=>
    simp only [hw,Option.bind_some] at he;obtain ⟨⟨S1,F'⟩,h3,h4⟩:=bG he;simp only [fL,qK] at h4;obtain ⟨rfl,rfl,rfl⟩:=h4;obtain ⟨ws,h5,h6,yJ,h7,h8⟩:=V7 Cl o f l2 F2 t (by simpa using hl) h3 (fun g hg=>ha g (by simp [hg]));obtain ⟨a1,a2⟩:=lL.aeX (ha ⟨(gq Cl x).reads S,wx.map (·.k)⟩ (by simp));have zF:(gq Cl o).run S=some ws∧(gq Cl o).reads S=(gq Cl o).reads (S.ah wx):=by
     have := Q.Tp (S := S.ah wx) (S' := S) (gq Cl o) (fun k hk => by
       refine (AO S wx k ?_).symm
       rintro y hy rfl
       have := (a1 y.k (iz.2 ⟨y, hy, rfl⟩)).1
       rw [h6] at this
       exact this hk)
     exact ⟨this.1.trans h5,this.2⟩
    have Zs:(gq Cl x).run (S.ah ws)=some wx∧(gq Cl x).reads (S.ah ws)=(gq Cl x).reads S:=by
     have := Q.Tp (S := S) (S' := S.ah ws) (gq Cl x) (fun k hk => by
       refine AO S ws k ?_
       rintro y hy rfl
       exact a2 y.k (by rw [h6]; exact iz.2 ⟨y, hy, rfl⟩) hk)
     exact ⟨this.1.trans hw,this.2⟩
    have ajk:∀y∈wx,∀z∈ws,y.k≠z.k:=by
     intro y hy z hz e;have:=(a1 y.k (iz.2 ⟨y,hy,rfl⟩)).2;rw [h6,e] at this;exact this (iz.2 ⟨z,hz,rfl⟩)
    obtain ⟨aeV,h9,dj⟩:=XT Cl (t++l2) (aq6 S wx ws ajk) h7;refine ⟨ws,zF.1,by rw [h6,zF.2],aeV,?_,h8.trans dj⟩;simp only [qJ,ij,Zs.1,Zs.2,Option.bind_some,h9,fh]
theorem ae5 (ops:Array Oper):(Region.before ops).size=ops.size∧∀i j,((Region.before ops).getD i 0).testBit j=true→∃o e,ops[i]? = some o∧e∈o.after∧Region.binds .any e=true∧(e.on=j∨(e.on < i∧((Region.before ops).getD e.on 0).testBit j=true)):=by
 have inner:∀(acc:Array Nat) (l:List Edge) (s j:Nat),(l.foldl (fun s e=>if Region.binds .any e then s ||| 2 ^ e.on ||| acc.getD e.on 0 else s) s).testBit j=true→
   s.testBit j=true∨∃e∈l,Region.binds .any e=true∧(e.on=j∨(acc.getD e.on 0).testBit j=true):=by
  intro acc l;induction l with
  | nil=>intro s j h;exact .inl h
  | cons e l ih=>
   intro s j h;simp only [UQ] at h;rcases ih _ _ h with h | ⟨e',h1,h2,h3⟩
   ·split at h
    ·rename_i hb;rw [Nat.testBit_or,Nat.testBit_or,wL,wL] at h;rcases h with (h | h) | h
     ·exact .inl h
     ·rw [Nat.testBit_two_pow] at h;exact .inr ⟨e,by simp,hb,.inl (by simpa using h)⟩
     ·exact .inr ⟨e,by simp,hb,.inr h⟩
    ·exact .inl h
   ·exact .inr ⟨e',by simp [h1],h2,h3⟩
 have main:∀(n:Nat),n≤ops.size→∀(acc:Array Nat),acc=(ops.toList.take n).foldl (fun acc o=>acc.push (o.after.foldl (fun s e=>if Region.binds .any e then s ||| 2 ^ e.on ||| acc.getD e.on 0 else s) 0)) #[]→
   acc.size=n∧∀i j,(acc.getD i 0).testBit j=true→∃o e,ops[i]? = some o∧e∈o.after∧Region.binds .any e=true∧(e.on=j∨(e.on < i∧(acc.getD e.on 0).testBit j=true)):=by
  intro n;induction n with
  | zero=>
   intro _ acc h;subst h;exact ⟨rfl,fun i j h=>by simp at h⟩
  | succ n ih=>
   intro hn acc h;rw [List.take_succ_eq_append_getElem (by rw [UF];omega),List.foldl_append] at h;obtain ⟨HW,PL⟩:∃x,x=(ops.toList.take n).foldl (fun acc o=>acc.push (o.after.foldl (fun s e=>if Region.binds .any e then s ||| 2 ^ e.on ||| acc.getD e.on 0 else s) 0)) #[]:=⟨_,rfl⟩
   obtain ⟨g1,g2⟩:=ih (by omega) HW PL;rw [←PL] at h;clear PL ih;simp only [UQ,List.foldl_nil] at h;have Fx:∀k,k < n→acc.getD k 0=HW.getD k 0:=by
    intro k hk;subst h;simp only [iw];rw [UE,aB (by omega)]
   refine ⟨by rw [h];simp [g1],fun i j hb=>?_⟩;by_cases hi:i < n
   ·rw [Fx i hi] at hb;obtain ⟨o,e,k1,k2,k3,k4⟩:=g2 i j hb;refine ⟨o,e,k1,k2,k3,k4.imp id (fun ⟨k5,k6⟩=>⟨k5,by rw [Fx _ (by omega)];exact k6⟩)⟩
   ·by_cases kO:i=n
    ·subst kO;have hv:acc.getD i 0=(ops[i]'(by omega)).after.foldl (fun s e=>if Region.binds .any e then s ||| 2 ^ e.on ||| HW.getD e.on 0 else s) 0:=by
      rw [h];simp only [iw];rw [UE,aJ (by omega)];simp
     rw [hv,←UB] at hb;rcases inner HW _ 0 j hb with h0 | ⟨e,k1,k2,k3⟩
     ·simp at h0
     ·refine ⟨ops[i],e,by simp,by simpa using k1,k2,?_⟩;rcases k3 with k3 | k3
      ·exact .inl k3
      ·have Zh:e.on < i:=by
        rcases yD e.on i with h | h
        ·exact h
        ·rw [iw,M7 (by omega)] at k3;simp at k3
       exact .inr ⟨Zh,by rw [Fx _ Zh];exact k3⟩
    ·rw [iw,M7 (by rw [h];simp [g1];omega)] at hb;simp at hb
 have := main ops.size (bT _) (Region.before ops) (by
   unfold Region.before
   rw [Nj (by rw [UF]; exact bT _), UB])
 exact this
def Vb (ops:Array Oper) (listed:Array Bool):Prop:=∀(i:Nat) o,ops[i]? = some o→listed.getD i true=true→∀e∈o.after,Region.binds .any e=true→listed.getD e.on false=true
theorem VM (ops:Array Oper) (listed:Array Bool) (hs:listed.size=ops.size) (hc:Vb ops listed):∀(n i:Nat),i < n→∀o,ops[i]? = some o→(∀e∈o.after,Region.binds .any e=true→listed.getD e.on false=true)→
  ∀j,((Region.before ops).getD i 0).testBit j=true→listed.getD j false=true
 | 0,i,hi,_,_,_,_,_=>by omega
 | n+1,i,hi,o,ho,hr,j,hb=>by
  obtain ⟨o',e,h1,h2,h3,h4⟩:=(ae5 ops).2 i j hb;rw [ho] at h1;cases h1;have hl:=hr e h2 h3;rcases h4 with rfl | ⟨h4,h5⟩
  ·exact hl
  ·have af:e.on < ops.size:=by
    rcases yD e.on ops.size with h | h
    ·exact h
    ·rw [iw,M7 (by omega)] at hl;cases hl
   refine VM ops listed hs hc n e.on (by omega) ops[e.on] (by simp [af]) (hc e.on _ (by simp [af]) ?_) j h5;rw [iw] at hl ⊢;cases hx:listed[e.on]? with
   | none=>rfl
   | some b=>simpa [hx] using hl
end
section
section
variable {nm:FuncId→Option Nat} {G:Nat→Option Obj} {N:Nat} {S:St} {a:Act} {w:World} {L:aw} {P:Program} {o:Oper} {Cl:bX} {hh:Hint} {ops:Array Oper}
theorem Rel.same {S S':St} (h:S.same S') (R:Rel nm N S a w L):Rel nm N S' a w L:=by
 have h1:S'.E=S.E:=funext fun k=>by unfold St.E;rw [h k]
 have h2:S'.γ=S.γ:=funext fun k=>by unfold St.γ;rw [h k]
 unfold Rel;rw [h1,h2];exact R
theorem oh.same {S S':St} {w0:World} {L0:aw} (h:S.same S') (D:oh nm N S w0 L0 a w L):oh nm N S' w0 L0 a w L:=⟨D.rel.same h,D.mono,D.xO⟩
theorem aq8 {j d:Nat} {g:Oper} (hg:ops[j]? = some g) (hd:g.dst=some d) (tmps:Array Value):yielded ops tmps j=match tmps[d]? with | some (.bool b)=>some b | _=>none:=by
 unfold yielded;rw [hg,Option.bind_some,hd,Option.bind_some];cases tmps[d]? with
 | none=>rfl
 | some v=>cases v<;>rfl
theorem aby (hc:wN P nm G Cl) (R:Rel nm N S a w L) (hH:eJ L) (hG:GI G w L) (hN:hh.nt=N) {io:gx} {i:Nat} (hi:ops[i]? = some o) (bz:IB P nm hh ops o=some io) {ws:List Wr} (hr:(gq Cl io).run S=some ws)
  {K:Act→World→Prop} {Qx:Exit→Act→World→Prop} (hK:∀a' w' L',oh nm N (S.ah ws) w L a' w' L'→K a' w'):wpOp P ops Qx i K a w:=by
 unfold IB at bz;split at bz
 ·rename_i YQ;have hd:∀d,o.dst=some d→d < N:=by
   intro d hd;rw [hd] at YQ;simpa [hN] using YQ
  have wanted:∀{v:V} {fe:List Wr},Region.wanted o (yielded ops a.tmps)=true→(bq Cl (o.dst.getD 0) ((yU P nm hh o).getD .bad)).run S=some (v,fe)→ws=AN o.dst v fe→wpOp P ops Qx i K a w:=by
   intro v fe hw BZ uf;unfold wpOp;rw [hi];simp only [hw,bW];left;cases P6:yU P nm hh o with
   | none=>rw [P6] at BZ;simp [bq] at BZ
   | some io'=>
    rw [P6] at BZ;exact (aok hc R hH hG hd P6 BZ).wp (fun v' w' ⟨L',D⟩=>hK _ _ _ (by rw [uf];exact D))
  have skip:Region.wanted o (yielded ops a.tmps)=false→ws=(match o.dst with | some d=>[{ k:=.s d,v:=.aq [] }] | none=>[])→wpOp P ops Qx i K a w:=by
   intro hw uf;unfold wpOp;rw [hi];simp only [hw,rU,dE];obtain ⟨L',D⟩:=Rel.fZ (ws:=[]) (dst:=o.dst) (m:=0) (x:=.aq []) (v:=undef) R (dc.refl w L) hd (.aq (us:=#[]) rfl rfl (fun i x u h=>by simp at h));refine hK _ _ _ (by rw [uf];cases uc:o.dst<;>simpa [AN,uc] using D)
  have fin:∀{gd:Option (Nat×Bool)} {want:Bool} {f:Unit},io=⟨o.dst,(yU P nm hh o).getD .bad,gd⟩→True:=fun _=>trivial
  split at bz
  ·rename_i hg;cases bz;unfold gq at hr;obtain ⟨want,h1,h2⟩:=Q.aK hr;obtain rfl:=Q.aZ h1;simp only [bW] at h2;obtain ⟨⟨v,fe⟩,h3,h4⟩:=Q.aK h2;refine wanted (by unfold Region.wanted;rw [hg]) h3 ?_;cases uc:o.dst with
   | none=>rw [uc] at h4;simpa [AN] using Q.aZ h4
   | some d=>rw [uc] at h4;simpa [AN] using Q.aZ h4
  ·rename_i j b hg;split at bz
   ·rename_i d Y2;cases bz;obtain ⟨g,hgj,qh⟩:∃g,ops[j]? = some g∧g.dst=some d:=by
     cases hx:ops[j]? with
     | none=>simp [hx] at Y2
     | some g=>exact ⟨g,rfl,by simpa [hx] using Y2⟩
    have hy:=aq8 hgj qh a.tmps;have lx:=R.slot d;unfold gq at hr;obtain ⟨want,h1,h2⟩:=Q.aK hr;have oA:=Q.ni h1;have ZE:Region.wanted o (yielded ops a.tmps)=want:=by
     unfold Region.wanted;rw [hg];simp only;rw [hy];split at oA
     ·rename_i x hx;obtain rfl:=Q.aZ oA;have hE:S.E (.s d) = .one (.d (.bool x)):=hx;rw [hE] at lx;have hv:=lx.cL.r7;rw [iw] at hv;cases ht:a.tmps[d]? with
      | none=>rw [ht] at hv;simp [undef] at hv
      | some u=>
       rw [ht] at hv;simp only [Option.getD_some] at hv;subst hv;cases x<;>cases b<;>rfl
     ·rename_i hx;obtain rfl:=Q.aZ oA;have hE:S.E (.s d) = .aq []:=hx;rw [hE] at lx;rw [iw] at lx;cases ht:a.tmps[d]? with
      | none=>rfl
      | some u=>
       rw [ht] at lx;simp only [Option.getD_some] at lx;cases lx;rfl
     ·cases oA
    cases want with
    | true=>
     simp only [bW] at h2;obtain ⟨⟨v,fe⟩,h3,h4⟩:=Q.aK h2;refine wanted ZE h3 ?_;cases uc:o.dst with
     | none=>rw [uc] at h4;simpa [AN] using Q.aZ h4
     | some d=>rw [uc] at h4;simpa [AN] using Q.aZ h4
    | false=>
     simp only [rU,dE] at h2;refine skip ZE ?_;cases uc:o.dst with
     | none=>rw [uc] at h2;simpa using Q.aZ h2
     | some d=>rw [uc] at h2;simpa using Q.aZ h2
   ·cases bz
 ·cases bz
theorem IC {l:List gx} (h:Et P nm hh ops=some l):l.length=ops.size∧∀(i:Nat) io,l[i]? = some io→∃o,ops[i]? = some o∧IB P nm hh ops o=some io:=by
 obtain ⟨h1,h2⟩:=C1 _ h;refine ⟨by simpa using h1,fun i io hi=>?_⟩;obtain ⟨o,g1,g2⟩:=h2 i io hi;exact ⟨o,by rw [←DO];exact g1,g2⟩
theorem oh.trans {S S':St} {a a':Act} {w0 w w':World} {L0 L L':aw} (h:oh nm N S w0 L0 a w L) (k:oh nm N S' w L a' w' L'):oh nm N S' w0 L0 a' w' L':=⟨k.rel,h.mono.trans k.mono,k.xO⟩
theorem abz (hc:wN P nm G Cl) (hN:hh.nt=N) {l:List gx} (hl:Et P nm hh ops=some l) {Q:Exit→Act→World→Prop}:∀(m k:Nat),k+m=ops.size→∀{S Sf:St} {a:Act} {w:World} {L:aw},Rel nm N S a w L→eJ L→GI G w L→mc Cl (l.drop k) S=some Sf→
  (∀a' w' L',oh nm N Sf w L a' w' L'→Q .normal a' w')→wpOps P ops Q (List.range' k m) a w
 | 0,k,hk,S,Sf,a,w,L,R,hH,hG,he,hQ=>by
  obtain ⟨h1,_⟩:=IC hl;rw [List.drop_of_length_le (by omega)] at he;simp only [mc,ai] at he;subst he;exact hQ a w L ⟨R,dc.refl w L,hH⟩
 | m+1,k,hk,S,Sf,a,w,L,R,hH,hG,he,hQ=>by
  obtain ⟨h1,h2⟩:=IC hl;have vq:k < l.length:=by omega
  rw [tA vq] at he;simp only [mc] at he;cases hw:(gq Cl l[k]).run S with
  | none=>simp [hw] at he
  | some ws=>
   simp only [hw,Option.bind_some] at he;obtain ⟨o,g1,g2⟩:=h2 k l[k] (by simp);rw [List.range'_succ,wpOps_cons];exact aby hc R hH hG hN g1 g2 hw (fun a' w' L' D=>abz hc hN hl m (k+1) (by omega) D.rel D.xO (hG.mono D.mono) he (fun Vn tv D4 D'=>hQ _ _ _ (D.trans D')))
theorem S8 {listed:Array Bool} {i:Nat}:i∈Region.ready .any ops listed↔i < ops.size∧listed.getD i true=false∧∃o,ops[i]? = some o∧∀e∈o.after,Region.binds .any e=true→listed.getD e.on false=true:=by
 unfold Region.ready;rw [List.mem_filter,tD];simp only [bK,nA];constructor
 ·rintro ⟨h1,h2,h3⟩;refine ⟨h1,h2,ops[i],by simp [h1],?_⟩;simp only [og h1,fh,Option.getD_some] at h3;intro e he hb;have:=UA.1 h3 e he;simpa [hb] using this
 ·rintro ⟨h1,h2,o,h3,h4⟩;refine ⟨h1,h2,?_⟩;rw [h3];simp only [fh,Option.getD_some];rw [UA];intro e he;cases hb:Region.binds .any e with
  | false=>rfl
  | true=>simpa [hb] using h4 e he hb
theorem Vu (hc:wN P nm G Cl) (hN:hh.nt=N) {l:List gx} (hl:Et P nm hh ops=some l) (aQ:IL ops=true) {Q:Exit→Act→World→Prop} {φ:Nat→lL}
  (hφ:∀i j,i < j→j < ops.size→((Region.before ops).getD j 0).testBit i=false→(φ i).apart (φ j)=true) :
  ∀(fuel:Nat) (rem:List Nat) (listed:Array Bool),rem.length=fuel→listed.size=ops.size→rem.Pairwise (· < ·)→(∀i,i∈rem↔i < ops.size∧listed.getD i true=false)→Vb ops listed→
  ∀{S Sf:St} {a:Act} {w:World} {L:aw},Rel nm N S a w L→eJ L→GI G w L→ij Cl (rem.map fun i=>l.getD i default) S=some (Sf,rem.map φ)→(∀a' w' L',oh nm N Sf w L a' w' L'→Q .normal a' w')→wpAny P .any ops Q fuel listed a w
 | 0,rem,listed,hlen,bf,FC,zE,aS,S,Sf,a,w,L,R,hH,hG,he,hQ=>by
  have:rem=[]:=pW.1 hlen;subst this;simp only [AV,ij,ai,fL,and_true] at he;subst he;refine ⟨?_,hQ a w L ⟨R,dc.refl w L,hH⟩⟩;rw [List.eq_nil_iff_forall_not_mem];intro i hi;obtain ⟨h1,h2,_⟩:=S8.1 hi;exact absurd ((zE i).2 ⟨h1,h2⟩) (by simp)
 | fuel+1,rem,listed,hlen,bf,FC,zE,aS,S,Sf,a,w,L,R,hH,hG,he,hQ=>by
  obtain ⟨g1,g2⟩:=IC hl;refine ⟨?_,?_⟩
  ·
   intro ml;exfalso;cases rem with
   | nil=>simp at hlen
   | cons r0 rest=>
    have ud:=(zE r0).1 (by simp);have:r0∈Region.ready .any ops listed:=by
     refine S8.2 ⟨ud.1,ud.2,ops[r0],by simp [ud.1],?_⟩;intro e he hb;have h3:=lI.1 aQ r0 (tD.2 ud.1);simp only [og ud.1,fh,Option.getD_some] at h3;have h4:=UA.1 h3 e he;simp only [hb,UH,UG,fA] at h4;cases hx:listed.getD e.on true with
     | false=>
      have:e.on∈r0::rest:=(zE e.on).2 ⟨by omega,hx⟩;rcases gT.1 this with h5 | h5
      ·omega
      ·have:=(UY.1 FC).1 e.on h5;omega
     | true=>
      have af:e.on < listed.size:=by omega
      simp only [iw,og af,Option.getD_some] at hx ⊢;exact hx
    rw [ml] at this;simp at this
  ·intro i hi;obtain ⟨h1,h2,o,h3,h4⟩:=S8.1 hi;have ajv:i∈rem:=(zE i).2 ⟨h1,h2⟩;obtain ⟨l1,l2,ajZ⟩:=List.append_of_mem ajv;subst ajZ;have af:∀r∈l1,r < i:=fun r hr=>(Nh.1 FC).2.2 r hr i (by simp)
   have BT:∀g∈l1.map φ,g.apart (φ i)=true:=by
    intro g hg;obtain ⟨r,hr,rfl⟩:=iz.1 hg;refine hφ r i (af r hr) h1 ?_;cases hb:((Region.before ops).getD i 0).testBit r with
    | false=>rfl
    | true=>
     have gB:=VM ops listed bf aS (i+1) i (by omega) o h3 h4 r hb;have QJ:=((zE r).1 (by simp [hr]))
     have zG:r < listed.size:=by omega
     simp only [iw,og zG,Option.getD_some] at gB QJ;rw [gB] at QJ;exact absurd QJ.2 (by simp)
   simp only [eB,gl] at he;obtain ⟨ws,k1,_,yJ,k3,k4⟩:=V7 Cl _ (φ i) _ _ (l1.map fun i=>l.getD i default) (by simp) he BT;have Y9:i < l.length:=by omega
   have tX:l.getD i default=l[i]:=by simp [kB,Y9]
   rw [tX] at k1;obtain ⟨o',m1,m2⟩:=g2 i l[i] (by simp);refine aby hc R hH hG hN m1 m2 k1 (fun a' w' L' D=>?_);rw [←eB,←eB] at k3;have JE:∀k b,(listed.setIfInBounds i true).getD k b=if k=i then true else listed.getD k b:=by
    intro k b;simp only [iw];by_cases qk:k=i
    ·subst qk;rw [wK];simp [show k < listed.size by omega]
    ·rw [yw (fun e=>qk e.symm),aB qk]
   have ajY:(l1++l2).Pairwise (· < ·):=by
    have:=Nh.1 FC;refine Nh.2 ⟨this.1,(UY.1 this.2.1).2,fun x hx y hy=>this.2.2 x hx y (by simp [hy])⟩
   have hni:i∉l1++l2:=by
    intro hm;rcases dC.1 hm with hm | hm
    ·exact U1 _ (af i hm)
    ·exact U1 _ ((UY.1 (Nh.1 FC).2.1).1 i hm)
   refine Vu hc hN hl aQ hφ fuel (l1++l2) (listed.setIfInBounds i true) (by simp at hlen ⊢;omega) (by simpa using bf) ajY ?_ ?_ D.rel D.xO (hG.mono D.mono) k3 (fun Vn tv D4 D'=>hQ _ _ _ ((D.trans D').same k4.symm))
   ·intro k;rw [JE];by_cases qk:k=i
    ·subst qk;simp only [bW];exact ⟨fun h=>absurd h hni,fun h=>by simp at h⟩
    ·rw [aB qk,←zE k];simp [dC,gT,qk]
   ·intro k ok QB hk e he hb;rw [JE] at hk ⊢;by_cases qk:k=i
    ·subst qk;rw [h3] at QB;cases QB;have:=h4 e he hb;split
     ·rfl
     ·exact this
    ·rw [aB qk] at hk;have:=aS k ok QB hk e he hb;split
     ·rfl
     ·exact this
end
end
section
section
variable {nm:FuncId→Option Nat} {G:Nat→Option Obj} {N:Nat} {S:St} {a:Act} {w:World} {L:aw} {P:Program} {o:Oper} {Cl:bX} {hh:Hint} {ops:Array Oper}
mutual
def C.ez:C→List Key
 | .view pl .. => [pl.k]
 | .eE pl .. => [pl.k]
 | .c6 pl .. => [pl.k,.a pl.k]
 | .gi i _=>[.b (.g i) 0]
 | .ptr r _ _=>[.r r]
 | .fn _ a b=>qa a++qa b
 | _=>[]
def qa:List C→List Key
 | []=>[]
 | c::t=>c.ez++qa t
end
mutual
def V.ez:V→List Key
 | .one c=>c.ez
 | .agg cs=>qa cs
 | .aq vs=>sv vs
def sv:List V→List Key
 | []=>[]
 | v::t=>v.ez++sv t
end
theorem ET:∀{l:List C} {i:Nat} {c:C} {k:Key},l[i]? = some c→k∈c.ez→k∈qa l
 | [],_,_,_,h,_=>by simp at h
 | x::t,0,c,k,h,hk=>by simp at h;subst h;simp [qa,hk]
 | x::t,i+1,c,k,h,hk=>by simp only [qa,dC];exact .inr (ET (by simpa using h) hk)
theorem YF:∀{l:List V} {i:Nat} {c:V} {k:Key},l[i]? = some c→k∈c.ez→k∈sv l
 | [],_,_,_,h,_=>by simp at h
 | x::t,0,c,k,h,hk=>by simp at h;subst h;simp [sv,hk]
 | x::t,i+1,c,k,h,hk=>by simp only [sv,dC];exact .inr (YF (by simpa using h) hk)
theorem aG.dP {γ γ':Key→Nat} {k:Key} {j:Nat} {c:C} {v:Value} (h:aG nm w L γ k j c v):(∀x∈c.ez,γ' x=γ x)→aG nm w L γ' k j c v:=by
 induction h with
 | d h=>exact fun _=>.d h
 | @ptr r g c v hv hg h=>intro hx;have:=hx (.r r) (by simp [C.ez]);exact .ptr hv (by rw [this];exact hg) (fun e=>h (by rw [e,this]))
 | @eE pl g sz i c v hv hh hg h=>intro hx;have:=hx pl.k (by simp [C.ez]);exact .eE hv hh (by rw [this];exact hg) (fun e=>h (by rw [e,this]))
 | pp hL hB h=>exact fun _=>.pp hL hB h
 | @view pl g sz off len v hv hh hg h=>intro hx;have:=hx pl.k (by simp [C.ez]);exact .view hv hh (by rw [this];exact hg) (fun e=>h (by rw [e,this]))
 | @c6 pl g a sz rows v hv hh hg ha h=>
  intro hx;have h1:=hx pl.k (by simp [C.ez]);have h2:=hx (.a pl.k) (by simp [C.ez]);exact .c6 hv hh (by rw [h1];exact hg) (by rw [h2];exact ha) (fun e e'=>h (by rw [e,h1]) (by rw [e',h2]))
 | fns val hf hL hB aS hv h ih=>
  intro hx;exact .fns val hf hL hB aS hv (fun i x hi=>ih i x hi (fun y hy=>hx y (by simp only [C.ez,dC];exact .inr (ET hi hy))))
 | fn jG hf h1 h2 aS h3 h4 sL sM=>
  intro hx;exact .fn jG hf h1 h2 aS (fun i x u hi hu=>sL i x u hi hu (fun y hy=>hx y (by simp only [C.ez,dC];exact .inl (ET hi hy))))
   (fun i x u hi hu=>sM i x u hi hu (fun y hy=>hx y (by simp only [C.ez,dC];exact .inr (ET hi hy))))
 | cz=>exact fun _=>.cz
 | eX=>exact fun _=>.eX
 | fS=>exact fun _=>.fS
 | fm=>exact fun _=>.fm
 | bu hk hv=>exact fun _=>.bu hk hv
 | mp h=>exact fun _=>.mp h
 | @gi i g v hv hg h=>intro hx;have:=hx (.b (.g i) 0) (by simp [C.ez]);exact .gi hv (by rw [this];exact hg) (fun e=>h (by rw [e,this]))
 | dead=>exact fun _=>.dead
theorem bD.dP {γ γ':Key→Nat} {k:Key} {x:V} {v:Value} (h:bD nm w L γ k x v):(∀y∈x.ez,γ' y=γ y)→bD nm w L γ' k x v:=by
 induction h with
 | one h=>exact fun hx=>.one (h.dP hx)
 | agg hl h=>exact fun hx=>.agg hl (fun j c u h1 h2=>(h j c u h1 h2).dP (fun y hy=>hx y (ET h1 hy)))
 | aq hl aS h ih=>exact fun hx=>.aq hl aS (fun i x u h1 h2=>ih i x u h1 h2 (fun y hy=>hx y (YF h1 hy)))
theorem Rel.forget {S S':St} (R:Rel nm N S a w L)
  (hE:∀k,(S'.E k=S.E k∨S'.E k=(S.E k).oM)∨(S'.E k=V.dead)) (hr:∀r,cj (S'.E (.r r))≠0→S'.E (.r r)=S.E (.r r))
  (hb:∀r c,S'.E (.b r c)≠V.dead→cj (S'.E (.r r))=cj (S.E (.r r)))
  (hγ:∀k y,k.aT=true→S'.E k≠V.dead→y∈(S.E k).ez→S'.γ y=S.γ y):Rel nm N S' a w L:=by
 have loose:∀{k:Key} {x:V} {v:Value},bD nm w L S.γ k x v→bD nm w L S.γ k x.oM v:=by
  intro k x v h;cases x with
  | one c=>
   cases c with
   | d y=>
    cases y with
    | sl t sz rows=>
     cases t with
     | _=>exact h
    | _=>exact h
   | _=>exact h
  | _=>exact h
 have aja:∀x:V,∀y∈x.oM.ez,y∈x.ez:=by
  intro x y hy;cases x with
  | one c=>
   cases c with
   | d z=>cases z with
    | sl t sz rows=>cases t<;>exact hy
    | _=>exact hy
   | _=>exact hy
  | _=>exact hy
 have slot:∀k v,k.aT=true→bD nm w L S.γ k (S.E k) v→bD nm w L S'.γ k (S'.E k) v:=by
  intro k v hk h;by_cases hd:S'.E k=V.dead
  ·rw [hd];exact .one .dead
  ·rcases hE k with (h1 | h1) | h1
   ·rw [h1];exact h.dP (fun y hy=>hγ k y hk hd hy)
   ·rw [h1];exact (loose h).dP (fun y hy=>hγ k y hk hd (aja _ y hy))
   ·exact absurd h1 hd
 refine ⟨R.size,R.defers,fun i=>slot (.s i) _ rfl (R.slot i),?_,?_,?_,?_,R.fu,R.eN,R.fB⟩
 ·intro r c x hx gg;have jf:S'.E (.b r c)≠V.dead:=by rw [hx];intro e;exact gg (by simpa [V.dead] using e)
  obtain ⟨x0,jY⟩:=R.kg r c;have aj6:x0≠.dead:=by
   rintro rfl;apply jf;rcases hE (.b r c) with (h1 | h1) | h1
   ·rw [h1,jY];rfl
   ·rw [h1,jY];rfl
   ·exact h1
  have vF:x0=x:=by
   rcases hE (.b r c) with (h1 | h1) | h1
   ·rw [hx,jY] at h1;simpa using h1.symm
   ·rw [hx,jY] at h1;simpa [V.oM,C.oM] using h1.symm
   ·exact absurd h1 jf
  have oD:=R.cell r c x0 jY aj6;have tr:∀v,aG nm w L S.γ (.b r c) 0 x0 v→aG nm w L S'.γ (.b r c) 0 x v:=by
   intro v hv;have:=slot (.b r c) v rfl (by rw [jY];exact .one hv);rw [hx] at this;exact this.cL
  have ex:(∃B o cur e fz v,L B=some (.box r o)∧w.heap[B]? = some (.cells cur e fz)∧jA cur.size fz∧cur[o+c]? = some v∧aG nm w L S.γ (.b r c) 0 x0 v∧lK x0 B o c e cur.size v)→
    ∃B o cur e fz v,L B=some (.box r o)∧w.heap[B]? = some (.cells cur e fz)∧jA cur.size fz∧cur[o+c]? = some v∧aG nm w L S'.γ (.b r c) 0 x v∧lK x B o c e cur.size v:=
   fun ⟨B,o,cur,e,fz,v,h1,h2,h3,h4,h5,h6⟩=>⟨B,o,cur,e,fz,v,h1,h2,h3,h4,tr v h5,vF▸h6⟩
  cases r with
  | g i=>obtain ⟨v,hv⟩:=oD;exact ⟨v,tr v hv⟩
  | e i=>exact ex oD
  | l i=>exact ex oD
 ·intro r c;obtain ⟨x0,jY⟩:=R.kg r c;rcases hE (.b r c) with (h1 | h1) | h1
  ·exact ⟨x0,by rw [h1,jY]⟩
  ·exact ⟨x0.oM,by rw [h1,jY];rfl⟩
  ·exact ⟨.dead,h1⟩
 ·intro r c hc;by_cases hd:S'.E (.b r c)=V.dead
  ·exact hd
  ·rw [hb r c hd] at hc;have:=R.bound r c hc;rcases hE (.b r c) with (h1 | h1) | h1
   ·rw [h1];exact this
   ·rw [h1,this];rfl
   ·exact h1
 ·intro r hg dM;have:=hr r (by omega);rw [this] at dM ⊢;exact R.room r hg dM
theorem get_mem:∀(S:St) (k:Key),S.get k=⟨.one .dead,0⟩∨(k,S.get k)∈S
 | [],k=>.inl rfl
 | (k',e)::t,k=>by
  simp only [St.get];by_cases h:k'=k
  ·subst h;rw [aJ rfl];exact .inr (by simp)
  ·rw [aB h];exact (get_mem t k).imp id (fun h=>by simp [h])
theorem get_filter (p:Key→Bool):∀(S:St) (k:Key),St.get (S.filter fun x=>p x.1) k=if p k=true then S.get k else ⟨.one .dead,0⟩
 | [],k=>by simp [St.get]
 | (k',e)::t,k=>by
  have ih:=get_filter p t k;by_cases hp:p k'=true
  ·rw [List.filter_cons,aJ (by simpa using hp)];simp only [St.get];by_cases h:k'=k
   ·subst h;simp [hp]
   ·simp [h,ih]
  ·rw [List.filter_cons,aB (by simpa using hp)];simp only [St.get];by_cases h:k'=k
   ·subst h;rw [ih];simp [hp]
   ·simp [h,ih]
theorem Pu (refs:List Key):∀(S:St) (k:Key),(reset refs S).get k = { (S.get k) with g:=Mt refs k (S.get k).g }
 | [],k=>by
  simp only [reset,St.get,Mt];split
  ·rfl
  ·cases k<;>rfl
 | (k',e)::t,k=>by
  simp only [reset,St.get];by_cases h:k'=k
  ·subst h;simp
  ·simp only [h,dE];exact Pu refs t k
theorem Yt:∀(S:St) (k:Key),(Ad S).get k = { (S.get k) with v:=(S.get k).v.oM }
 | [],k=>rfl
 | (k',e)::t,k=>by
  simp only [Ad,St.get];by_cases h:k'=k
  ·subst h;simp
  ·simp only [h,dE];exact Yt t k
mutual
theorem C.EU:∀(c:C) (k:Key),k∈c.ez→k∈c.refs∨∃r,k = .r r
 | .view pl _ _ _ _,k,h=>.inl h
 | .eE pl _ _ _ _,k,h=>.inl h
 | .c6 pl _ _ _ _,k,h=>.inl h
 | .gi i _,k,h=>.inl h
 | .ptr r _ _,k,h=>.inr ⟨r,by simpa [C.ez] using h⟩
 | .fn _ a b,k,h=>by
  simp only [C.ez,dC] at h;simp only [C.refs,dC];rcases h with h | h
  ·exact (Jd a k h).imp .inl id
  ·exact (Jd b k h).imp .inr id
 | .d _,k,h=>by simp [C.ez] at h
 | .pp _,k,h=>by simp [C.ez] at h
 | .cz,k,h=>by simp [C.ez] at h
 | .eX,k,h=>by simp [C.ez] at h
 | .fS,k,h=>by simp [C.ez] at h
 | .fm,k,h=>by simp [C.ez] at h
 | .dead,k,h=>by simp [C.ez] at h
theorem Jd:∀(l:List C) (k:Key),k∈qa l→k∈Dn l∨∃r,k = .r r
 | [],k,h=>by simp [qa] at h
 | c::t,k,h=>by
  simp only [qa,dC] at h;simp only [Dn,dC];rcases h with h | h
  ·exact (C.EU c k h).imp .inl id
  ·exact (Jd t k h).imp .inr id
end
mutual
theorem V.EU:∀(x:V) (k:Key),k∈x.ez→k∈x.refs∨∃r,k = .r r
 | .one c,k,h=>C.EU c k h
 | .agg cs,k,h=>Jd cs k h
 | .aq vs,k,h=>YG vs k h
theorem YG:∀(l:List V) (k:Key),k∈sv l→k∈Mq l∨∃r,k = .r r
 | [],k,h=>by simp [sv] at h
 | c::t,k,h=>by
  simp only [sv,dC] at h;simp only [Mq,dC];rcases h with h | h
  ·exact (V.EU c k h).imp .inl id
  ·exact (YG t k h).imp .inr id
end
theorem Vp:∀(S:St) {k:Key} {e:mN},(k,e)∈S→∀x∈e.v.refs,x∈allRefs S
 | [],k,e,h,x,hx=>by simp at h
 | (k',e')::t,k,e,h,x,hx=>by
  simp only [allRefs,dC];rcases gT.1 h with h | h
  ·cases h;exact .inl hx
  ·exact .inr (Vp t h x hx)
theorem Ys (S:St) (k:Key):(Eu S).get k=S.get k:=by
 unfold Eu;rw [get_filter (fun k=>!OM S k) S k];split
 ·rfl
 ·rename_i h;simp only [nA,Bool.not_eq_false] at h;unfold OM at h;split at h
  ·rename_i k;generalize S.get (.a k)=e at h ⊢;unfold ZL at h;split at h
   ·rw [mM h]
   ·cases h
  ·cases h
theorem an2 {keep:List Nat} {S':St} (R:Rel nm N S a w L) (h:S.R7 keep=some S'):Rel nm N S' a w L:=by
 unfold St.R7 at h;dsimp only at h;split at h
 ·rename_i zq;simp only [ai] at h;have qp:Rel nm N (reset (allRefs (S.filter fun x=>kept keep x.1)) (S.filter fun x=>kept keep x.1)) a w L→Rel nm N S' a w L:=by
   subst h;intro hR;unfold Rel at hR ⊢;have e1:(Eu (reset (allRefs (S.filter fun x=>kept keep x.1)) (S.filter fun x=>kept keep x.1))).E=(reset (allRefs (S.filter fun x=>kept keep x.1)) (S.filter fun x=>kept keep x.1)).E:=by
    funext k;unfold St.E;rw [Ys]
   have e2:(Eu (reset (allRefs (S.filter fun x=>kept keep x.1)) (S.filter fun x=>kept keep x.1))).γ=(reset (allRefs (S.filter fun x=>kept keep x.1)) (S.filter fun x=>kept keep x.1)).γ:=by
    funext k;unfold St.γ;rw [Ys]
   rw [e1,e2];exact hR
  refine qp ?_;clear qp h;have hg:∀k,(reset (allRefs (S.filter fun x=>kept keep x.1)) (S.filter fun x=>kept keep x.1)).E k=if kept keep k=true then S.E k else V.dead:=by
   intro k;unfold St.E;rw [Pu,get_filter];split<;>rfl
  have hkb:∀r c,kept keep (.b r c)=true:=fun _ _=>rfl
  have ua:∀r,kept keep (.r r)=true:=fun _=>rfl
  refine R.forget ?_ ?_ ?_ ?_
  ·intro k;rw [hg];split
   ·exact .inl (.inl rfl)
   ·exact .inr rfl
  ·intro r _;rw [hg,aJ (ua r)]
  ·intro r c _;rw [hg,aJ (ua r)]
  ·intro k y hk hd hy;rw [hg] at hd;split at hd
   ·rename_i hkk;have hγ:∀z,(z∈allRefs (S.filter fun x=>kept keep x.1)∨∃r,z = .r r)→kept keep z=true→(reset (allRefs (S.filter fun x=>kept keep x.1)) (S.filter fun x=>kept keep x.1)).γ z=S.γ z:=by
     intro z hz hkz;unfold St.γ;rw [Pu,get_filter,aJ hkz];simp only [Mt];rcases hz with hz | ⟨r,rfl⟩
     ·rw [aJ (by simpa using hz)]
     ·split<;>rfl
    rcases V.EU _ _ hy with hr | ⟨r,rfl⟩
    ·have hm:y∈allRefs (S.filter fun x=>kept keep x.1):=by
      have h0:=get_filter (kept keep) S k;rw [aJ hkk] at h0;rcases get_mem (List.filter (fun x=>kept keep x.1) S) k with h1 | h1
      ·rw [h0] at h1;have:S.E k = .one .dead:=by unfold St.E;rw [h1]
       rw [this] at hr;simp [V.refs,C.refs] at hr
      ·refine Vp _ h1 y ?_;rw [h0];exact hr
     exact hγ y (.inl hm) (lI.1 zq y hm)
    ·exact hγ _ (.inr ⟨r,rfl⟩) (ua r)
   ·exact absurd rfl hd
 ·cases h
theorem an3 {keep:List Nat} {S':St} (R:Rel nm N S a w L) (h:S.norm keep=some S'):Rel nm N S' a w L:=an2 R h
mutual
theorem C.EV:∀(c:C) (k:Key),k∈c.ez→(∀r,k.uw = some r→r∈c.wm)
 | .view pl _ _ _ _,k,h,r,hr=>by
  simp only [C.ez,uK] at h;subst h;simp [C.wm,hr]
 | .eE pl _ _ _ _,k,h,r,hr=>by
  simp only [C.ez,uK] at h;subst h;simp [C.wm,hr]
 | .c6 pl _ _ _ _,k,h,r,hr=>by
  simp only [C.ez,gT,nD,nF] at h;rcases h with rfl | rfl
  ·simp [C.wm,hr]
  ·cases hr
 | .gi i _,k,h,r,hr=>by
  simp only [C.ez,uK] at h;subst h;simp only [Key.uw,ai] at hr;simp [C.wm,hr]
 | .ptr r0 _ _,k,h,r,hr=>by
  simp only [C.ez,uK] at h;subst h;simp only [Key.uw,ai] at hr;simp [C.wm,hr]
 | .fn _ a b,k,h,r,hr=>by
  simp only [C.ez,dC] at h;simp only [C.wm,dC];rcases h with h | h
  ·exact .inl (Je a k h r hr)
  ·exact .inr (Je b k h r hr)
 | .d _,k,h,_,_=>by simp [C.ez] at h
 | .pp _,k,h,_,_=>by simp [C.ez] at h
 | .cz,k,h,_,_=>by simp [C.ez] at h
 | .eX,k,h,_,_=>by simp [C.ez] at h
 | .fS,k,h,_,_=>by simp [C.ez] at h
 | .fm,k,h,_,_=>by simp [C.ez] at h
 | .dead,k,h,_,_=>by simp [C.ez] at h
theorem Je:∀(l:List C) (k:Key),k∈qa l→(∀r,k.uw = some r→r∈Dr l)
 | [],k,h,_,_=>by simp [qa] at h
 | c::t,k,h,r,hr=>by
  simp only [qa,dC] at h;simp only [Dr,dC];rcases h with h | h
  ·exact .inl (C.EV c k h r hr)
  ·exact .inr (Je t k h r hr)
end
mutual
theorem V.EV:∀(x:V) (k:Key),k∈x.ez→(∀r,k.uw = some r→r∈x.roots)
 | .one c,k,h,r,hr=>C.EV c k h r hr
 | .agg cs,k,h,r,hr=>Je cs k h r hr
 | .aq vs,k,h,r,hr=>YH vs k h r hr
theorem YH:∀(l:List V) (k:Key),k∈sv l→(∀r,k.uw = some r→r∈Mv l)
 | [],k,h,_,_=>by simp [sv] at h
 | c::t,k,h,r,hr=>by
  simp only [sv,dC] at h;simp only [Mv,dC];rcases h with h | h
  ·exact .inl (V.EV c k h r hr)
  ·exact .inr (YH t k h r hr)
end
theorem aiW {S':St} (R:Rel nm N S a w L) (h:S.gc=some S'):Rel nm N S' a w L:=by
 unfold St.gc at h;dsimp only at h;generalize Pv S 3 (TA S)=live at h;split at h
 ·rename_i zq;simp only [ai] at h;subst h;have tX:∀k,(Ad (S.filter fun x=>p7 live x.1)).get k=if p7 live k=true then ⟨(S.get k).v.oM,(S.get k).g⟩ else ⟨.one .dead,0⟩:=by
   intro k;rw [Yt,get_filter];split<;>rfl
  have hg:∀k,(Ad (S.filter fun x=>p7 live x.1)).E k=if p7 live k=true then (S.E k).oM else V.dead:=by
   intro k;unfold St.E;rw [tX];split<;>rfl
  have ajx:∀r c,p7 live (.b r c)=p7 live (.r r):=fun _ _=>rfl
  have bf:∀r,p7 live (.r r)=true→(Ad (S.filter fun x=>p7 live x.1)).E (.r r)=(S.E (.r r)).oM:=fun r h=>by rw [hg,aJ h]
  have YJ:∀x:V,cj x.oM=cj x:=by
   intro x;cases x with
   | one c=>
    cases c with
    | d z=>cases z with
     | sl t sz rows=>cases t<;>rfl
     | _=>rfl
    | _=>rfl
   | _=>rfl
  have Qt:∀x:V,cj x≠0→x.oM=x:=by
   intro x hx;cases x with
   | one c=>
    cases c with
    | d z=>cases z with
     | sl t sz rows=>simp [cj] at hx
     | _=>rfl
    | _=>rfl
   | _=>rfl
  refine R.forget ?_ ?_ ?_ ?_
  ·intro k;rw [hg];split
   ·exact .inl (.inr rfl)
   ·exact .inr rfl
  ·intro r hr;rw [hg] at hr ⊢;split at hr
   ·rename_i hk;rw [aJ hk];rw [YJ] at hr;exact Qt _ hr
   ·exact absurd rfl hr
  ·intro r c hd;rw [hg] at hd;split at hd
   ·rename_i hk;rw [hg,aJ (by rw [←ajx r c];exact hk),YJ]
   ·exact absurd rfl hd
  ·intro k y hk hd hy;rw [hg] at hd;split at hd
   ·rename_i hkk;have zy:p7 live y=true:=by
     unfold p7;split
     ·rename_i r hr;have hm:=V.EV _ _ hy r hr;have h0:=get_filter (p7 live) S k;rw [aJ hkk] at h0;rcases get_mem (List.filter (fun x=>p7 live x.1) S) k with h1 | h1
      ·rw [h0] at h1;have:S.E k = .one .dead:=by unfold St.E;rw [h1]
       rw [this] at hy;simp [V.ez,C.ez] at hy
      ·rw [h0] at h1;have:=lI.1 zq _ h1;exact lI.1 this r hm
     ·rfl
    unfold St.γ;rw [tX,aJ zy]
   ·exact absurd rfl hd
 ·cases h
theorem aoV (vt:P.follows .mixedOrders=true) (hc:wN P nm G Cl) (hN:hh.nt=N) {id:Nat} {draw:Bool} {keep:Option (List Nat)} {gc:Bool} {l:List gx} (hl:Et P nm hh ops=some l) (aQ:draw=true→IL ops=true) (R:Rel nm N S a w L) (hH:eJ L) (hG:GI G w L) {Sf:St}
  (he:pv Cl keep gc l (if draw then some (unordered ops) else none) S=some Sf) {Q:Exit→Act→World→Prop} (hQ:∀a' w' L',oh nm N Sf w L a' w' L'→Q .normal a' w'):(Code.region id ops draw).wp P Q a w:=by
 unfold pv at he;obtain ⟨S1,h1,h2⟩:=ff.1 he;obtain ⟨S2,h3,h4⟩:=ff.1 h2;have R1:Rel nm N S1 a w L:=by
  cases keep with
  | none=>simp only [ai] at h1;subst h1;exact R
  | some kl=>exact an3 R h1
 have R2:Rel nm N S2 a w L:=by
  cases gc with
  | false=>simp only [rU,dE,ai] at h3;subst h3;exact R1
  | true=>simp only [bW] at h3;exact aiW R1 h3
 obtain ⟨g1,g2⟩:=IC hl;have arn:∀(l':List gx) {S Sf:St} {F:List lL},ij Cl l' S=some (Sf,F)→mc Cl l' S=some Sf:=by
  intro l';induction l' with
  | nil=>intro S Sf F h;simp only [ij,ai,fL] at h;simp [mc,h.1]
  | cons o t ih=>
   intro S Sf F h;simp only [ij] at h;simp only [mc];cases hw:(gq Cl o).run S with
   | none=>simp [hw] at h
   | some ws=>
    simp only [hw,Option.bind_some] at h ⊢;obtain ⟨⟨S1,F1⟩,k1,k2⟩:=bG h;simp only [fL] at k2;rw [k2.1];exact ih k1
 cases draw with
 | false=>
  simp only [rU,dE] at h4;refine wp_region ?_;rw [List.range_eq_range'];exact abz hc hN hl ops.size 0 (by omega) R2 hH hG (by simpa using h4) hQ
 | true=>
  have ai7:Rel nm N S2 a w.drew L:=R2.drew;have ajq:∃F,ij Cl l S2=some (Sf,F)∧Sw F (unordered ops)=true:=by
   simp only [bW] at h4;split at h4
   ·rename_i heq;cases heq
   ·rename_i hun;have iT:∀(l':List gx) {S Sf:St},mc Cl l' S=some Sf→∃F,ij Cl l' S=some (Sf,F):=by
     intro l';induction l' with
     | nil=>intro S Sf h;simp only [mc,ai] at h;exact ⟨[],by simp [ij,h]⟩
     | cons o t ih=>
      intro S Sf h;simp only [mc] at h;simp only [ij];cases hw:(gq Cl o).run S with
      | none=>simp [hw] at h
      | some ws=>
       simp only [hw,Option.bind_some] at h ⊢;obtain ⟨F,k1⟩:=ih h;exact ⟨_,by rw [k1];rfl⟩
    obtain ⟨F,k1⟩:=iT l h4;refine ⟨F,k1,?_⟩;have:unordered ops=[]:=by simpa using hun
    rw [this];rfl
   ·rename_i ps _ e9;obtain ⟨⟨S3,F⟩,k1,k2⟩:=ff.1 h4;split at k2
    ·rename_i hp;simp only [ai] at k2;subst k2;have:unordered ops=ps:=by simpa using e9
     exact ⟨F,k1,by rw [this];exact hp⟩
    ·cases k2
  obtain ⟨F,hF,ajQ⟩:=ajq;have hFl:F.length=l.length:=by
   have:∀(l':List gx) {S Sf:St} {F:List lL},ij Cl l' S=some (Sf,F)→F.length=l'.length:=by
    intro l';induction l' with
    | nil=>
     intro S Sf F h;simp only [ij,ai,fL] at h;rw [←h.2];rfl
    | cons o t ih=>
     intro S Sf F h;simp only [ij] at h;cases hw:(gq Cl o).run S with
     | none=>simp [hw] at h
     | some ws=>
      simp only [hw,Option.bind_some] at h;obtain ⟨⟨S1,F1⟩,k1,k2⟩:=bG h;simp only [fL] at k2;rw [k2.2];simp [ih k1]
   exact this l hF
  refine wp_region_any vt ?_;have ajE:(List.range ops.size).map (fun i=>l.getD i default)=l:=by
   apply UP;intro i;rw [bS];by_cases hi:i < ops.size
   ·rw [HC hi];simp [kB,show i < l.length by omega]
   ·rw [pV (by simp;omega),pV (by omega)];rfl
  have ajF:(List.range ops.size).map (fun i=>F.getD i ⟨[],[]⟩)=F:=by
   apply UP;intro i;rw [bS];by_cases hi:i < ops.size
   ·rw [HC hi];simp [kB,show i < F.length by omega]
   ·rw [pV (by simp;omega),pV (by omega)];rfl
  refine Vu (S:=S2) (Sf:=Sf) (L:=L) hc hN hl (aQ rfl) (φ:=fun i=>F.getD i ⟨[],[]⟩) ?_ ops.size (List.range ops.size) _ (by simp) (by simp) aeL ?_ ?_ ai7 hH (show GI G w.drew L from hG) (by rw [ajE,ajF];exact hF) ?_
  ·intro i j hij hj hb;have hm:(i,j)∈unordered ops:=by
    unfold unordered;refine Nd.2 ⟨j,tD.2 hj,List.mem_filterMap.2 ⟨i,tD.2 hij,?_⟩⟩;rw [hb];rfl
   have:=lI.1 ajQ (i,j) hm;simp only at this;rw [kf (by omega),kf (by omega)] at this;simp only [kB,kf (show i < F.length by omega),kf (show j < F.length by omega),Option.getD_some];exact this
  ·intro i;rw [tD];constructor
   ·intro hi;exact ⟨hi,by simp [iw,hi]⟩
   ·exact fun h=>h.1
  ·intro i o ho hi;have:i < ops.size:=(lH.1 ho).1;simp [iw,this] at hi
  ·intro a' w' L' D;exact hQ a' w' L' ⟨D.rel,(dc.drew w L).trans D.mono,D.xO⟩
end
end
section
section
variable {nm:FuncId→Option Nat} {G:Nat→Option Obj} {N:Nat} {P:Program} {Cl:bX} {hh:Hint}
def aiA:tH→Exit
 | .norm=>.normal
 | .exit id=>.exit id
 | .ret=>.ret
theorem least {p:Nat→Prop} (h:∃n,p n):∃n,p n∧∀m,m < n→¬ p m:=by
 obtain ⟨n,hn⟩:=h;induction n using Nat.strongRecOn with
 | _ n ih=>
  by_cases hx:∃m,m < n∧p m
  ·obtain ⟨m,h1,h2⟩:=hx;exact ih m h1 h2
  ·exact ⟨n,hn,fun m hm hp=>hx ⟨m,hm,hp⟩⟩
theorem afG (vt:P.follows .mixedOrders=true) (hc:wN P nm G Cl) (hN:hh.nt=N) (n:Nat):∀(c:Code) {ic:lY},mQ P nm hh c=some ic→∀{S S':St} {e:tH},dm Cl n ic S=some (e,S')→
  ∀{a:Act} {w:World} {L:aw},Rel nm N S a w L→eJ L→GI G w L→∀{Q:Exit→Act→World→Prop},(∀a' w' L',oh nm N S' w L a' w' L'→Q (aiA e) a' w')→c.wp P Q a w:=by
 have bad:∀{S S':St} {e:tH},dm Cl n (.iY none false [⟨none,.bad,none⟩] none) S=some (e,S')→False:=by
  intro S S' e h;simp [dm,pv,mc,gq,BO,bq] at h
 intro c;induction c with
 | skip=>
  intro ic c7 S S' e he a w L R hH hG Q hQ;simp only [mQ,ai] at c7;subst c7;simp only [dm,ai,fL] at he;obtain ⟨rfl,rfl⟩:=he;exact wp_skip (hQ a w L ⟨R,dc.refl w L,hH⟩)
 | region id ops draw=>
  intro ic c7 S S' e he a w L R hH hG Q hQ;simp only [mQ] at c7;obtain ⟨l,h1,h2⟩:=bind_some c7;split at h2
  ·cases h2
  ·rename_i iF;cases h2;simp only [dm] at he;obtain ⟨Sf,h3,h4⟩:=bG he;simp only [fL] at h4;obtain ⟨rfl,rfl⟩:=h4;refine aoV vt hc hN h1 (fun hd=>?_) R hH hG h3 hQ;cases hx:IL ops with
   | true=>rfl
   | false=>exact absurd ⟨hd,hx⟩ iF
 | seq x y QY QZ=>
  intro ic c7 S S' e he a w L R hH hG Q hQ;simp only [mQ] at c7;obtain ⟨ix,h1,h2⟩:=bind_some c7;obtain ⟨iy,h3,h4⟩:=bind_some h2;cases h4;simp only [dm] at he;obtain ⟨⟨e1,S1⟩,h5,h6⟩:=ff.1 he;refine wp_seq (QY h1 h5 R hH hG (fun a' w' L' D=>?_));cases e1 with
  | norm=>
   simp only at h6;exact QZ h3 h6 D.rel D.xO (hG.mono D.mono) (fun Vn tv D4 D'=>hQ _ _ _ (D.trans D'))
  | exit id=>
   simp only [ai,fL] at h6;obtain ⟨rfl,rfl⟩:=h6;exact hQ _ _ _ D
  | ret=>
   simp only [ai,fL] at h6;obtain ⟨rfl,rfl⟩:=h6;exact hQ _ _ _ D
 | cond c x y QY QZ=>
  intro ic c7 S S' e he a w L R hH hG Q hQ;simp only [mQ] at c7;obtain ⟨cx,h0,h1⟩:=bind_some c7;obtain ⟨ix,h2,h3⟩:=bind_some h1;obtain ⟨iy,h4,h5⟩:=bind_some h3;cases h5;simp only [dm] at he;obtain ⟨t,h6,h7⟩:=ff.1 he;have hb:a.eval c = .bool t:=by
   unfold yV at h6;obtain ⟨v,g1,g2⟩:=ff.1 h6;have rv:=rd_val R (eP h0).1 g1;split at g2
   ·simp only [ai] at g2;subst g2;exact rv.cL.r7
   ·cases g2
  refine wp_cond hb ?_;cases t with
  | true=>exact QY h2 (by simpa using h7) R hH hG hQ
  | false=>exact QZ h4 (by simpa using h7) R hH hG hQ
 | block id b ih=>
  intro ic c7 S S' e he a w L R hH hG Q hQ;simp only [mQ] at c7;obtain ⟨ib,h1,rfl⟩:=bG c7;simp only [dm] at he;obtain ⟨⟨e1,S1⟩,h2,h3⟩:=bG he;simp only [fL] at h3;obtain ⟨h3,rfl⟩:=h3;refine wp_block (ih h1 h2 R hH hG (fun a' w' L' D=>?_));cases e1 with
  | norm=>subst h3;exact hQ _ _ _ D
  | exit i=>
   show Exit.inBlock id Q (.exit i) a' w';simp only [Exit.inBlock];by_cases hi:i=id
   ·subst hi;simp only [bW] at h3 ⊢;subst h3;exact hQ _ _ _ D
   ·simp only [hi,dE] at h3 ⊢;subst h3;exact hQ _ _ _ D
  | ret=>subst h3;exact hQ _ _ _ D
 | loop b ih=>
  intro ic c7 S S' e he a w L R hH hG Q hQ;simp only [mQ] at c7;obtain ⟨ib,h1,rfl⟩:=bG c7;simp only [dm] at he;let Good:Nat→Act→World→Prop:=fun m a1 w1=>∃S1 L1,oh nm N S1 w L a1 w1 L1∧iter (dm Cl n ib) m S1=some (e,S')
  let μ:Act→World→Nat:=fun a1 w1=>open Classical in if h:∃m,Good m a1 w1 then Classical.choose (least h) else 0
  have hμ:∀{a1 w1} (h:∃m,Good m a1 w1),Good (μ a1 w1) a1 w1∧∀m,m < μ a1 w1→¬ Good m a1 w1:=by
   intro a1 w1 h;have:=Classical.choose_spec (least h);simp only [μ,dif_pos h];exact this
  refine wp_loop (fun a1 w1=>∃m,Good m a1 w1) μ ⟨n,S,L,⟨R,dc.refl w L,hH⟩,he⟩ ?_;intro a1 w1 hI;obtain ⟨⟨S1,L1,D1,E'⟩,ars⟩:=hμ hI;cases hm:μ a1 w1 with
  | zero=>rw [hm] at E';simp [iter] at E'
  | succ m=>
   rw [hm] at E';simp only [iter] at E';obtain ⟨⟨e1,S2⟩,h2,h3⟩:=ff.1 E';refine ih h1 h2 D1.rel D1.xO (hG.mono D1.mono) (fun a' w' L' D=>?_);cases e1 with
   | norm=>
    simp only at h3;have hg:Good m a' w':=⟨S2,L',D1.trans D,h3⟩
    refine ⟨⟨m,hg⟩,?_⟩;rcases yD m (μ a' w') with h | h
    ·exact absurd hg ((hμ ⟨m,hg⟩).2 m h)
    ·omega
   | exit id=>
    simp only [ai,fL] at h3;obtain ⟨rfl,rfl⟩:=h3;exact hQ _ _ _ (D1.trans D)
   | ret=>
    simp only [ai,fL] at h3;obtain ⟨rfl,rfl⟩:=h3;exact hQ _ _ _ (D1.trans D)
 | exit id=>
  intro ic c7 S S' e he a w L R hH hG Q hQ;simp only [mQ,ai] at c7;subst c7;simp only [dm,ai,fL] at he;obtain ⟨rfl,rfl⟩:=he;exact wp_exit (hQ a w L ⟨R,dc.refl w L,hH⟩)
 | ret=>
  intro ic c7 S S' e he a w L R hH hG Q hQ;simp only [mQ,ai] at c7;subst c7;simp only [dm,ai,fL] at he;obtain ⟨rfl,rfl⟩:=he;exact wp_ret (hQ a w L ⟨R,dc.refl w L,hH⟩)
 | _=>
  intros
  rename_i c7 S S' e he a w L R hH hG Q hQ;simp only [mQ,ai] at c7;subst c7;exact (bad he).elim
end
end
section
section
variable {nm:FuncId→Option Nat} {N:Nat} {S S0:St} {a:Act} {w w0:World} {L L0:aw} {P:Program} {o:Oper} {Cl:bX} {d:Nat} {ws:List Wr} {γ:Key→Nat}
def kr (L:aw):aw:=fun B=>
 match L B with
 | some (.row q o)=>if q.k = .h 0 then some .bh else some (.row q o)
 | x=>x
theorem I5 {B:Nat} (h:L B=some .bh):kr L B=some .bh:=by simp [kr,h]
theorem BI {B o:Nat} {r:aI}:kr L B=some (.box r o)↔L B=some (.box r o):=by
 unfold kr;split
 ·rename_i q o' hL;rw [hL];split<;>simp
 ·rfl
theorem aiT {B:Nat} (h:L B=none):kr L B=none:=by simp [kr,h]
theorem Ym {B o:Nat} {q:Place} (h:L B=some (.row q o)) (hq:q.k≠.h 0):kr L B=some (.row q o):=by simp [kr,h,hq]
theorem aiS {B o:Nat} {q:Place} (h:L B=some (.row q o)) (hq:q.k = .h 0):kr L B=some .bh:=by simp [kr,h,hq]
theorem I6 {B o:Nat} {q:Place} (h:kr L B=some (.row q o)):L B=some (.row q o)∧q.k≠.h 0:=by
 unfold kr at h;split at h
 ·rename_i q0 o0 hL;split at h
  ·cases h
  ·rename_i hq;simp only [ai,bO.row.injEq] at h;obtain ⟨rfl,rfl⟩:=h;exact ⟨hL,hq⟩
 ·rename_i h1;exact absurd h (h1 q o)
theorem aiR {B:Nat} {l:bO} (h:kr L B=some l):∃l0,L B=some l0:=by
 unfold kr at h;split at h
 ·rename_i q0 o0 hL;exact ⟨_,hL⟩
 ·exact ⟨_,h⟩
theorem cg.I4 (M:cg nm N S0 w0 L0 ws a w L):cg nm N S0 w0 L0 ws a w (kr L)∧Step w w L (kr L) (S0.ah ws).γ (S0.ah ws).γ:=by
 have cK:∀{q:Place},q.k.aT=true→q.k≠.h 0:=fun h e=>by rw [e] at h;simp [Key.aT] at h
 have bp:Step w w L (kr L) (S0.ah ws).γ (S0.ah ws).γ:=
  ⟨fun B hB=>⟨I5 hB,rfl⟩,fun _=>bT _,fun B q o hq _ hB=>⟨Ym hB (cK hq),fun cur e fz h=>⟨cur,h,rfl⟩⟩,fun _ _ _ _ _ _ _=>rfl,fun B r o _ hB=>BI.2 hB⟩
 refine ⟨⟨M.rel.I8 ?_ ?_ ?_ ?_,M.dh.trans bp,M.mono.trans ⟨rfl,rfl,rfl,bT _,fun B hB=>⟨I5 hB,rfl⟩,fun B _ hB=>⟨aiT hB,rfl⟩,fun B i o hB=>BI.2 hB⟩,?_,M.heap,M.vH,fun B r o hB=>BI.2 (M.boxes B r o hB)⟩,bp⟩
 ·intro B l hB hl;refine ⟨rfl,?_⟩;cases l with
  | bh=>exact I5 hB
  | box r o=>exact BI.2 hB
  | row q o=>exact Ym hB (cK (hl q o rfl))
 ·intro B l hB;obtain ⟨l0,h0⟩:=aiR hB;exact M.rel.fu B l0 h0
 ·intro B B' pl o o' h1 h2;exact M.rel.eN B B' pl o o' (I6 h1).1 (I6 h2).1
 ·intro B B' r o o' h1 h2;exact M.rel.fB B B' r o o' (BI.1 h1) (BI.1 h2)
 ·intro B q o hq hB;exact M.rows B q o hq (I6 hB).1
theorem aox (x:D):(C.d (kV x)).clean=true:=by
 cases x with
 | sl t sz rows=>cases t<;>rfl
 | _=>rfl
theorem aG.Mb {k':Key} {j j':Nat} {c:C} {v:Value} (bp:Step w w L (kr L) γ γ) (h:aG nm w L γ (.h 0) j c v) (hc:∀pl g a sz rows,c≠.c6 pl g a sz rows):aG nm w (kr L) γ k' j' c.plain v∧c.plain.clean=true:=by
 cases c with
 | d x=>
  cases h with
  | d h=>
   exact ⟨.d (.plain (bt.freeze (fun q=>q.k = .h 0) (fun _ _ _ h=>h) (fun B hB=>⟨I5 hB,rfl⟩) (fun B q o hq hL=>⟨aiS hL hq,rfl⟩) h rfl)),aox x⟩
 | c6 pl g a sz rows=>exact absurd rfl (hc pl g a sz rows)
 | bu t=>exact absurd rfl (h.LC t)
 | mp x=>exact ⟨.dead,rfl⟩
 | _=>exact ⟨h.rG bp (h.uX rfl) _ _,h.uX rfl⟩
theorem TQ {c:C} {rr:C×List Wr} (h:(st ws c).run S=some rr):∀pl g a sz rows,rr.1≠.c6 pl g a sz rows:=by
 intro pl g a sz rows e;cases c with
 | view s5 g' cp off len=>
  simp only [st] at h;obtain ⟨res,h1,h2⟩:=Q.aK h;obtain ⟨_,h3⟩:=Q.ei h2;obtain rfl:=Q.aZ h3;cases e
 | c6 s5 g' a' cp ux=>
  simp only [st] at h;obtain ⟨res,h1,h2⟩:=Q.aK h;have h3:=Q.ni h2;obtain ⟨_,h4⟩:=Q.ei h3;obtain rfl:=Q.aZ h4;cases e
 | eE=>simp [st] at h
 | bu=>simp [st] at h
 | mp=>simp [st] at h
 | gi=>simp [st] at h
 | dead=>simp [st] at h
 | _=>simp only [st] at h;obtain rfl:=Q.aZ h;cases e
theorem TJ:∀(cs:List C) {ws:List Wr} {rr:List C×List Wr},(lE ws cs).run S=some rr→∀c∈rr.1,∀pl g a sz rows,c≠.c6 pl g a sz rows
 | [],ws,rr,h,c,hc=>by
  simp only [lE] at h;obtain rfl:=Q.aZ h;simp at hc
 | x::cs,ws,rr,h,c,hc=>by
  simp only [lE] at h;obtain ⟨r1,h1,h2⟩:=Q.aK h;obtain ⟨r2,h3,h4⟩:=Q.aK h2;obtain rfl:=Q.aZ h4;rcases gT.1 hc with rfl | hc
  ·exact TQ h1
  ·exact TJ cs h3 c hc
theorem LG (M:cg nm N S0 w0 L0 ws a w L) (h:∀B q o,L B=some (.row q o)→q.k.aT=false→q.k = .h 0):eJ (kr L):=by
 intro B q o hB;obtain ⟨h1,h2⟩:=I6 hB;cases hq:q.k.aT with
 | true=>rfl
 | false=>exact absurd (h B q o h1 hq) h2
theorem W6 {cs:List C} (h:∀(j:Nat) c,cs[j]? = some c→c.clean=true):jm cs=true:=by
 induction cs with
 | nil=>rfl
 | cons c t ih=>
  simp only [jm,bK];exact ⟨h 0 c rfl,ih (fun j c' hj=>h (j+1) c' (by simpa using hj))⟩
theorem acp (R0:Rel nm N S0 a w0 L0):∀(xs:List (Bool×X)) (ps:List Operand) {ws:List Wr} {L:aw} (M:cg nm N S0 w0 L0 ws a w L) (hH:eJ L) (hp:xs.length=ps.length) (hx:∀(j:Nat) X x,xs[j]? = some X→ps[j]? = some x→bQ nm X.2 x∧X.2.iJ=true) {rr:List V×List Wr} (hr:(ye ws xs).run S0=some rr),
  ∃L',cg nm N S0 w0 L0 rr.2 a w L'∧eJ L'∧Step w w L L' (S0.ah ws).γ (S0.ah rr.2).γ∧rr.1.length=ps.length∧iB rr.1=true∧∀(j:Nat) x p,rr.1[j]? = some x→ps[j]? = some p→bD nm w L' (S0.ah rr.2).γ (.h 0) x (a.eval p)
 | [],[],ws,L,M,hH,hp,hx,rr,hr=>by
  simp only [ye] at hr;obtain rfl:=Q.aZ hr;exact ⟨L,M,hH,Step.same w L (fun _=>bT _),rfl,rfl,fun j x p h=>by simp at h⟩
 | (b,X)::xs,p::ps,ws,L,M,hH,hp,hx,rr,hr=>by
  simp only [ye] at hr;obtain ⟨⟨v,fe⟩,h1,h2⟩:=Q.aK hr;clear hr;dsimp only at h2;obtain ⟨hX,PJ⟩:=hx 0 (b,X) p rfl rfl;obtain ⟨L1,O1,V1⟩:=wv M R0 (hH.free 0) PJ hX h1;dsimp only at O1 V1;have fin:∀{fy:List Wr} {L2:aw} {x':V} {rest:List V×List Wr},cg nm N S0 w0 L0 fy a w L2→eJ L2→Step w w L L2 (S0.ah ws).γ (S0.ah fy).γ→x'.clean=true→bD nm w L2 (S0.ah fy).γ (.h 0) x' (a.eval p)→(ye fy xs).run S0=some rest→rr=(x'::rest.1,rest.2)→
    ∃L',cg nm N S0 w0 L0 rr.2 a w L'∧eJ L'∧Step w w L L' (S0.ah ws).γ (S0.ah rr.2).γ∧rr.1.length=(p::ps).length∧iB rr.1=true∧∀(j:Nat) x p',rr.1[j]? = some x→(p::ps)[j]? = some p'→bD nm w L' (S0.ah rr.2).γ (.h 0) x (a.eval p'):=by
   intro fy L2 x' rest M2 PA Hd aS rep h5 dM;obtain ⟨L3,M3,PB,np,Js,xg,R3⟩:=acp R0 xs ps M2 PA (by simpa using hp) (fun j X x h1 h2=>hx (j+1) X x (by simpa using h1) (by simpa using h2)) h5;subst dM;refine ⟨L3,M3,PB,Hd.trans np,by simp [Js],by simp [iB,aS,xg],?_⟩;intro j x p' hj mn;cases j with
   | zero=>
    simp only [kC,ai] at hj mn;subst hj;subst mn;exact rep.rG np aS _
   | succ j=>exact R3 j x p' (by simpa using hj) (by simpa using mn)
  have aaJ:∀{fe:List Wr} {L1:aw} {K:Place→Prop},Out nm N S0 w0 L0 ws fe a w L L1 K 0→∀B q o,L1 B=some (.row q o)→q.k.aT=false→q.k = .h 0:=by
   intro fe L1 K O B q o hB hq;by_cases hk:q.k = .h 0
   ·exact hk
   ·have:=hH B q o (O.xW B q o hq hk hB);rw [hq] at this;cases this
  split at h2
  ·rename_i c;obtain ⟨⟨c',fy⟩,h3,h4⟩:=Q.aK h2;clear h2;obtain ⟨⟨vs,wF⟩,h5,h6⟩:=Q.aK h4;clear h4;have dM:=Q.aZ h6;obtain ⟨L2,O2,R2⟩:=uD (m:=0) (j:=0) (c:=c) (v:=a.eval p) O1.mid V1 h3;dsimp only at O2 R2 h5;have rX:=(O1.weaken (K':=fun q=>¬ (q.k = .h 0∧q.j=0)) (fun _ _=>trivial)).trans O2;obtain ⟨M3,np⟩:=O2.mid.I4;obtain ⟨R3,aS⟩:=aG.Mb (k':=.h 0) (j':=0) np R2 (TQ h3);exact fin M3 (LG O2.mid (aaJ rX)) (rX.dh.trans np) (x':=.one c'.plain) aS (.one R3) h5 dM
  ·rename_i cs;obtain ⟨⟨ey,fy⟩,h3,h4⟩:=Q.aK h2;clear h2;obtain ⟨⟨vs,wF⟩,h5,h6⟩:=Q.aK h4;clear h4;have dM:=Q.aZ h6;obtain ⟨us,nP,hl,hV⟩:=V1
   obtain ⟨L2, O2, l2, R2⟩ := MG (m := 0) cs O1.mid 0 (fun j => us.getD j undef) (fun j c hc => by
     have hj : j < us.size := by rw [← hl]; exact (cw.1 hc).1
     have := hV j c _ hc (og hj)
     simpa [Array.getD, hj] using this) h3
   dsimp only at O2 R2 h5 l2;have rX:=(O1.weaken (K':=fun q=>¬ (q.k = .h 0∧0≤q.j)) (fun _ _=>trivial)).trans O2;obtain ⟨M3,np⟩:=O2.mid.I4;have each:∀(j:Nat) c,(ey.map C.plain)[j]? = some c→c.clean=true∧∀u,us[j]? = some u→aG nm w (kr L2) (S0.ah fy).γ (.h 0) j c u:=by
    intro j c hc;rw [bS] at hc;cases hj:ey[j]? with
    | none=>simp [hj] at hc
    | some c0=>
     simp only [hj,fh,ai] at hc;subst hc;have:=R2 j c0 hj;rw [db] at this;have hp:=aG.Mb (k':=.h 0) (j':=j) np this (TJ _ h3 c0 (ft hj));refine ⟨hp.2,fun u hu=>?_⟩;have h1:=hp.1;simp only [iw,hu,Option.getD_some] at h1;exact h1
   refine fin M3 (LG O2.mid (aaJ rX)) (rX.dh.trans np) (x':=.agg (ey.map C.plain)) (W6 (fun j c hc=>(each j c hc).1)) ?_ h5 dM;rw [nP];exact .agg (by simp [l2,hl]) (fun j c u hc hu=>(each j c hc).2 u hu)
  ·cases h2
 | [],_::_,_,_,_,_,hp,_,_,_=>by simp at hp
 | _::_,[],_,_,_,_,hp,_,_,_=>by simp at hp
end
end
end Go.ax
