/- A part of the proof. -/
import Derived.Test.YtfmpdgeiodnnfaaGreatDoorL1
import Derived.Laws.BytesString
import Derived.Laws.BytesArg
import Derived.Laws.MakeOwn
import Derived.Lib.UnsafeStr
import Derived.Orders
set_option linter.all false
namespace Go.ax
section
section
variable {nm:FuncId→Option Nat} {N:Nat} {S:St} {a:Act} {w:World} {L:aw} {P:Program} {o:Oper} {Cl:bW} {d:Nat} {r:V×List Wr}
theorem aiu (R:Rel nm N S a w L) (hd:∀d,o.dst=some d→d < N) {x:Operand} {X:ax.X} {op:UnOp} {t:TypeId} (hx:bR nm X x) (ho:o.op = .unOp op t x)
  (hr:(bp Cl d (.un op X)).run S=some r):dw P a w o (dP nm N S w L a o.dst r.1 r.2):=by
 simp only [bp] at hr;obtain ⟨v1,h1,eU⟩:=Q.aK hr;clear hr;obtain ⟨z,hz,h2⟩:=Q.gA eU;clear eU;obtain rfl:=Q.aY h2;clear h2;have r1:=rd_val R hx h1;have ex:∀{v:Value},(Op.unary op (a.eval x)).run P w = .ok v w→fK w L z v→dw P a w o (dP nm N S w L a o.dst (.one (.d z)) []):=
  fun hb hp=>fk R hd (by simp [execOp,ho,hb]) (.one (.d (.plain hp)))
 unfold unV at hz;split at hz
 ·cases hz;refine ex ?_ .bool;rw [r1.cQ.r7];rfl
 ·cases hz;refine ex ?_ .int;rw [r1.cQ.q7];rfl
 ·cases hz;refine ex ?_ .int;rw [r1.cQ.q7];rfl
 ·cases hz
theorem ah5 (R:Rel nm N S a w L) (hd:∀d,o.dst=some d→d < N) {x:Operand} {X:ax.X} {k:IntKind} {t u:TypeId} {ds:TypeDesc} (hx:bR nm X x) (ho:o.op = .convert t u x) (ht:P.underlying t=some ds) (hu:P.underlying u=some (.int k))
  (hr:(bp Cl d (.conv (.int k) X)).run S=some r):dw P a w o (dP nm N S w L a o.dst r.1 r.2):=by
 simp only [bp] at hr;obtain ⟨v1,h1,h2⟩:=Q.aK hr;clear hr;have r1:=rd_val R hx h1;cases v1 with
 | one c=>
  cases c with
  | d z=>
   cases z with
   | int k' n=>
    obtain rfl:=Q.aY h2;refine fk R hd (v:=.int k (k.wrap n)) ?_ (.one (.d (.plain .int)));have:(convert t u (a.eval x)).run P w = .ok (.int k (k.wrap n)) w:=by
     rw [r1.cQ.q7];simp [convert,run_underlying ht,run_underlying hu,Conv.intToInt]
    simp [execOp,ho,this]
   | _=>cases h2
  | _=>cases h2
 | _=>cases h2
theorem ah6 (R:Rel nm N S a w L) (hd:∀d,o.dst=some d→d < N) {x:Operand} {X:ax.X} {t u:TypeId} {ds:TypeDesc} (hx:bR nm X x) (ho:o.op = .convert t u x) (ht:P.underlying t=some ds) (hu:P.underlying u=some .string)
  (hr:(bp Cl d (.conv .same X)).run S=some r):dw P a w o (dP nm N S w L a o.dst r.1 r.2):=by
 simp only [bp] at hr;obtain ⟨v1,h1,h2⟩:=Q.aK hr;clear hr;have r1:=rd_val R hx h1;cases v1 with
 | one c=>
  cases c with
  | d z=>
   cases z with
   | str s=>
    obtain rfl:=Q.aY h2;refine fk R hd (v:=.string ⟨s.toArray⟩) ?_ (.one (.d (.plain .str)));have:(convert t u (a.eval x)).run P w = .ok (.string ⟨s.toArray⟩) w:=by
     rw [r1.cQ.rE];cases ds<;>simp [convert,run_underlying ht,run_underlying hu]
    simp [execOp,ho,this]
   | _=>cases h2
  | _=>cases h2
 | _=>cases h2
theorem apB (R:Rel nm N S a w L) {v:V} {u:Value} (hv:bD nm w L S.γ (.h 0) v u) (aR:v.own=false) {rows:List (List D)} (h:(shown v).run S=some rows) :
  ∃ (b : Option Addr) (cap : Nat), u = .slice b rows.length cap ∧ (rows = [] ∨ ∃ B o cur e fz sz, b = some ⟨B, o, none⟩ ∧ 0 < sz ∧ w.heap[B]? = some (.cells cur e fz) ∧ (∀ r ∈ rows, r.length = sz) ∧
    (∀ i c k n, cellOf rows i c = some (.int k n) → cur[o + i * sz + c]? = some (.int k n))) := by
 unfold shown at h;split at h
 ·cases h
 ·rename_i t sz uA sG;simp only [Q.run_pure,aj] at h;subst h;cases hv.cQ with
  | d hd=>
   cases hd with
   | plain hp=>
    cases hp with
    | nil=>exact ⟨none,0,rfl,.inl rfl⟩
    | mB=>exact ⟨_,_,rfl,.inl rfl⟩
    | @pl sz rows B o cap cur e fz val aB aZ PW hL hB hlen oI dM=>
     refine ⟨_,_,rfl,.inr ⟨B,o,cur,e,fz,sz,rfl,aZ,hB,hlen,fun i c k n hx=>?_⟩⟩;have h1:=oI i c _ hx;have h2:=dM i c _ hx;generalize val i c=u at h1 h2;cases h2;exact h1
   | jm=>simp at sG
   | own=>simp at sG
 ·rename_i pl g sz off len;obtain ⟨res,h3,h4⟩:=Q.aK h;clear h;obtain ⟨hg,h5⟩:=Q.ek h4;clear h4;simp only [fy] at hg;have qb:off+len≤res.2.2.length:=hg;obtain rfl:=Q.aY h5;have hlen:(aW ((res.2.2.drop off).take len)).length=len:=by rw [Ao,AX,Na];omega
  cases hv.cQ with
  | view iH hh gg hV=>
   obtain ⟨jY,u0,sJ⟩:=Sp R hh h3;rcases hV jY with ⟨h0,a0,rfl⟩ | ⟨B,o,cap,cur,e,fz,rfl,aZ,hL,hB,cX,ue,dG,_⟩
   ·refine ⟨a0,0,by rw [hlen,h0],.inl ?_⟩;rw [h0];simp [aW]
   ·refine ⟨_,_,by rw [hlen],?_⟩;rcases sJ.nS with ⟨mh,_⟩ | ⟨B',o',yW,dR,e',tT,val,_,_,ff,dA,_,fM,PV,QH,cu,hr,dY⟩
    ·left;rw [mh];simp [aW]
    ·right;obtain rfl:=R.eM B' B pl o' o ff hL;obtain rfl:o'=o:=by rw [ff] at hL;simpa using hL
     obtain ⟨rfl,rfl,rfl⟩:dR=cur∧e'=e∧tT=fz:=by rw [dA] at hB;simpa using hB
     refine ⟨B',_,_,_,_,sz,rfl,aZ,dA,?_,?_⟩
     ·intro r1 jZ;rw [Dl] at jZ;obtain ⟨r2,h1,rfl⟩:=iz.1 jZ;simpa using fM r2 (Nd (tD h1))
     ·intro i c k n hx;rw [Bl] at hx;cases hy:cellOf ((res.2.2.drop off).take len) i c with
      | none=>simp [hy] at hx
      | some y=>
       simp only [hy,fe,aj] at hx;obtain ⟨rr,k1,k2⟩:=kL.1 hy;have kP:i < len:=by
        have:=(cB.1 k1).1;rw [AX] at this;omega
       rw [yD kP,tC] at k1;have hc:cellOf res.2.2 (off+i) c=some y:=kL.2 ⟨rr,k1,k2⟩;have h1:=cu _ _ _ hc;have h2:=hr _ _ _ hc;have fO:y = .int k n:=by
        cases y with
        | sl t _ _=>cases t<;>simp [kY] at hx
        | _=>simp [kY] at hx ⊢<;>exact hx
       subst fO;generalize val (off+i) c=u at h1 h2;cases h2 with
       | plain h2=>
        cases h2;rw [lI] at h1;rw [show o'+off * sz+i * sz+c=o'+(off * sz+i * sz)+c by omega];exact h1
 ·cases h
theorem TY:∀(rows:List (List D)) {s:List UInt8},kA rows=some s→rows.length=s.length∧∀i,i < rows.length→∃n,cellOf rows i 0=some (.int .u8 n)∧rows[i]? = some [.int .u8 n]∧s[i]? = some (UInt8.ofNat n.toNat)
 | [],s,h=>by simp only [kA,aj] at h;subst h;exact ⟨rfl,fun i hi=>by simp at hi⟩
 | r::rows,s,h=>by
  unfold kA at h;split at h
  ·rename_i heq;cases heq
  ·rename_i n t heq;simp only [qH] at heq;obtain ⟨rfl,rfl⟩:=heq;cases ht:kA rows with
   | none=>simp [ht] at h
   | some t'=>
    simp only [ht,fe,aj] at h;subst h;obtain ⟨h1,h2⟩:=TY rows ht;refine ⟨by simp [h1],fun i hi=>?_⟩;cases i with
    | zero=>exact ⟨n,rfl,rfl,rfl⟩
    | succ i=>
     obtain ⟨m,g1,g2,g3⟩:=h2 i (by simpa using hi);exact ⟨m,by simpa [cellOf] using g1,by simpa using g2,by simpa using g3⟩
  ·cases h
theorem afg {w:World} {rows:List (List D)} {s:List UInt8} (hs:kA rows=some s) {b:Option Addr} {cap:Nat}
  (PX : rows = [] ∨ ∃ B o cur e fz sz, b = some ⟨B, o, none⟩ ∧ 0 < sz ∧ w.heap[B]? = some (.cells cur e fz) ∧ (∀ r ∈ rows, r.length = sz) ∧
    (∀ i c k n, cellOf rows i c = some (.int k n) → cur[o + i * sz + c]? = some (.int k n))) :
  (Conv.bytesToString (.slice b rows.length cap)).run P w = .ok (.string ⟨s.toArray⟩) w:=by
 obtain ⟨hl,hb⟩:=TY rows hs;rcases PX with rfl | ⟨B,o',cur,e',fz,sz,rfl,aZ,hB,fM,E4⟩
 ·have:s=[]:=pS.1 (by rw [←hl];rfl);subst this;cases b with
  | none=>simp [Conv.bytesToString];rfl
  | some ad=>simp [Conv.bytesToString,loadCells,loadCellsFrom];rfl
 ·let ns:List Int:=rows.map fun r=>match r with | [.int _ n]=>n | _=>0
  have Qv:ns.length=rows.length:=by simp [ns]
  have fE:∀i n,ns[i]? = some n→s[i]? = some (UInt8.ofNat n.toNat)∧w.cell? ⟨B,o'+i,none⟩=some (.int .u8 n):=by
   intro i n kQ;have hi:i < rows.length:=by rw [←Qv];exact (cB.1 kQ).1
   obtain ⟨n',g1,g2,g3⟩:=hb i hi;have hnn:n=n':=by
    simp only [ns,bO,g2,fe,aj] at kQ;exact kQ.symm
   subst hnn;have kx:sz=1:=by have:=fM _ (fm g2);simpa using this.symm
   subst kx;refine ⟨g3,?_⟩;rw [qR hB];have:=E4 i 0 _ _ g1;rwa [uR,gW] at this
  have Fq:(loadCells ⟨B,o',none⟩ rows.length).run P w = .ok (ns.map (Value.int .u8)).toArray w:=by
   have := run_loadCells_list (P := P) w ⟨B, o', none⟩ (ns.map (Value.int .u8)) (fun j v hj => by
     simp only [bO] at hj
     cases hn : ns[j]? with
     | none => simp [hn] at hj
     | some n =>
       simp only [hn, fe, aj] at hj
       subst hj
       rw [oh]; exact (fE j n hn).2)
   rwa [cf,Qv] at this
  rw [run_bytesToString w _ _ _ ns Fq,foldl_push_bytes];congr 2;have lN:ns.map (fun n=>UInt8.ofNat n.toNat)=s:=by
   apply UL;intro i;rw [bO];cases hn:ns[i]? with
   | none=>
    have:rows.length≤i:=by rw [←Qv];exact UN.1 hn
    rw [Option.map_none,pR (by omega)]
   | some n=>rw [fe,(fE i n hn).1]
  rw [lN];apply ByteArray.ext;show ByteArray.empty.data++s.toArray=s.toArray;rw [show ByteArray.empty.data = #[] from rfl,Array.empty_append]
theorem apA (R:Rel nm N S a w L) {x:Operand} {X:ax.X} (hx:bR nm X x) {rows:List (List D)} (h:(Tt X).run S=some rows) :
  ∃ (b : Option Addr) (cap : Nat), a.eval x = .slice b rows.length cap ∧ (rows = [] ∨ ∃ B o cur e fz sz, b = some ⟨B, o, none⟩ ∧ 0 < sz ∧ w.heap[B]? = some (.cells cur e fz) ∧ (∀ r ∈ rows, r.length = sz) ∧
    (∀ i c k n, cellOf rows i c = some (.int k n) → cur[o + i * sz + c]? = some (.int k n))) := by
 cases hx with
 | @s i=>
  unfold Tt at h;have h1:=Q.ni h;clear h;have hv:=R.slot i;cases hE:S.E (.s i) with
  | one c=>
   cases c with
   | c7 pl g aa sz uA=>
    have tV:(S.get (.s i)).v = .one (.c7 pl g aa sz uA):=hE;rw [tV] at h1;have h2:=Q.ni h1;have h3:=Q.ni h2;obtain ⟨hg,h4⟩:=Q.ek h3;obtain rfl:=Q.aY h4;simp only [bK,eV] at hg;rw [hE] at hv;cases hv.cQ with
    | c7 iH hh gg vk hV=>
     rcases hV hg.1.symm hg.2.symm with ⟨h0,ad,h5⟩ | ⟨B,o,cap,cur,e,fz,n0,val,h5,aZ,hL,hB,cX,hlen,dL,dG,oI,dM,dY⟩
     ·refine ⟨some ad,0,?_,.inl h0⟩;rw [h0];exact h5
     ·refine ⟨_,cap,h5,.inr ⟨B,o,cur,e,fz,sz,rfl,aZ,hB,hlen,fun i c k n hx=>?_⟩⟩;have g1:=oI i c _ hx;have g2:=dM i c _ hx;generalize val i c=u at g1 g2;cases g2 with
      | plain g2=>cases g2;exact g1
   | _=>
    have tV:(S.get (.s i)).v = .one _:=hE;rw [tV] at h1;cases h1
  | _=>
   have tV:(S.get (.s i)).v=_:=hE;rw [tV] at h1;cases h1
 | _=>cases h
theorem ah4 (R:Rel nm N S a w L) (hd:∀d,o.dst=some d→d < N) {x:Operand} {X:ax.X} {t u e:TypeId} (hx:bR nm X x) (aS:X.iK=true) (ho:o.op = .convert t u x) (ht:P.underlying t=some (.slice e)) (hu:P.underlying u=some .string) (he:P.underlying e=some (.int .u8))
  (hr:(bp Cl d (.conv .Im X)).run S=some r):dw P a w o (dP nm N S w L a o.dst r.1 r.2):=by
 have core : ∀ (rows : List (List D)) (s : List UInt8), kA rows = some s → (∃ (b : Option Addr) (cap : Nat), a.eval x = .slice b rows.length cap ∧ (rows = [] ∨ ∃ B o cur e fz sz, b = some ⟨B, o, none⟩ ∧ 0 < sz ∧ w.heap[B]? = some (.cells cur e fz) ∧ (∀ r ∈ rows, r.length = sz) ∧
     (∀ i c k n, cellOf rows i c = some (.int k n) → cur[o + i * sz + c]? = some (.int k n)))) → r = (.one (.d (.str s)), []) → dw P a w o (dP nm N S w L a o.dst r.1 r.2) := by
  rintro rows s hs ⟨b,cap,qV,PX⟩ rfl;refine fk R hd (v:=.string ⟨s.toArray⟩) ?_ (.one (.d (.plain .str)));have:(convert t u (a.eval x)).run P w = .ok (.string ⟨s.toArray⟩) w:=by
   rw [qV];have ajg:(convert t u (.slice b rows.length cap)).run P w=(Conv.bytesToString (.slice b rows.length cap)).run P w:=by
    cases b<;>simp [convert,run_underlying ht,run_underlying hu,run_underlying he]
   rw [ajg];exact afg hs PX
  simp [execOp,ho,this]
 simp only [bp] at hr;obtain ⟨v1,h1,h2⟩:=Q.aK hr;clear hr;have r1:=rd_val R hx h1;have aR:=Mm aS h1;by_cases YK:v1 = .one .dead
 ·subst YK;obtain ⟨rows,h3,h4⟩:=Q.aK h2;obtain ⟨s,hs,h5⟩:=Q.gA h4;exact core rows s hs (apA R hx h3) (Q.aY h5)
 ·obtain ⟨rows, h3, h4⟩ := Q.aK (x := shown v1) (f := fun rows => (Q.dq (kA rows) >>= fun s => pure (.one (.d (.str s)), []))) (r := r) (by
    cases v1 with
    | one c => cases c <;> (try exact h2) <;> (try exact absurd rfl YK) <;> (rename_i z; cases z <;> exact h2)
    | _ => exact h2)
  obtain ⟨s,hs,h5⟩:=Q.gA h4;exact core rows s hs (apB R r1 aR h3) (Q.aY h5)
theorem Dg (R:Rel nm N S a w L) {lo:Option Operand} {X:Option ax.X} (h:∀x,lo=some x→∃y,X=some y∧bR nm y x) (h0:lo=none→X=none) {Xf n:Nat} (hr:(qu X Xf).run S=some n) :
  (lo=none∧n=Xf)∨∃x k,lo=some x∧a.eval x = .int k n:=by
 cases lo with
 | none=>
  rw [h0 rfl] at hr;simp only [qu,Q.run_pure,aj] at hr;exact .inl ⟨rfl,hr.symm⟩
 | some x=>
  obtain ⟨y,rfl,hy⟩:=h x rfl;simp only [qu] at hr;obtain ⟨v,h1,h2⟩:=Q.aK hr;rw [Q.yp] at h2;obtain ⟨k,hk⟩:=wT (rd_val R hy h1) h2;exact .inr ⟨x,k,rfl,hk⟩
theorem adk {b:Bool} {len cap l h:Nat} {lo hi:Option Value} (hl:(lo=none∧l=0)∨∃k,lo=some (.int k l)) (hh:(hi=none∧h=len)∨∃k,hi=some (.int k h)) (h1:l≤h) (h2:h≤len) (h3:len≤cap) :
  (Instr.sliceBounds b len cap lo hi none).run P w = .ok (l,h,cap) w:=by
 have e1:(h:Int)≤(cap:Int):=by omega
 have e2:(l:Int)≤(h:Int):=by omega
 rcases hl with ⟨rfl,rfl⟩ | ⟨k,rfl⟩<;>rcases hh with ⟨rfl,rfl⟩ | ⟨k',rfl⟩<;>
  simp [Instr.sliceBounds,Instr.sliceBound,asIntOf,e1,e2,iQ h2 h3,h1]
theorem air (R:Rel nm N S a w L) (hd:∀d,o.dst=some d→d < N) {x:Operand} {X:ax.X} {t:TypeId} {lo hi:Option Operand} {LO HI:Option ax.X} (hx:bR nm X x) (ho:o.op = .slice t x lo hi none) (ht:P.underlying t=some .string)
  (B8:∀x,lo=some x→∃y,LO=some y∧bR nm y x) (Jy:lo=none→LO=none) (Jp:∀x,hi=some x→∃y,HI=some y∧bR nm y x) (Jq:hi=none→HI=none)
  (hr:(bp Cl d (.Tv X LO HI)).run S=some r):dw P a w o (dP nm N S w L a o.dst r.1 r.2):=by
 simp only [bp] at hr;obtain ⟨v1,h1,h2⟩:=Q.aK hr;clear hr;have r1:=rd_val R hx h1;split at h2
 ·rename_i s;obtain ⟨l,h3,h4⟩:=Q.aK h2;clear h2;obtain ⟨h,h5,h6⟩:=Q.aK h4;clear h4;obtain ⟨hg,h7⟩:=Q.ek h6;clear h6;simp only [bK,fy] at hg;obtain rfl:=Q.aY h7;have e1:=r1.cQ.rE;refine fk R hd (v:=.string ⟨((s.drop l).take (h - l)).toArray⟩) ?_ (.one (.d (.plain .str)));have hb:=adk (P:=P) (w:=w) (b:=false) (len:=s.length) (cap:=s.length) (l:=l) (h:=h) (lo:=lo.map a.eval) (hi:=hi.map a.eval)
   ((Dg R B8 Jy h3).imp (fun h=>⟨by rw [h.1];rfl,h.2⟩) (fun ⟨x,k,h1,h2⟩=>⟨k,by rw [h1];simp [h2]⟩))
   ((Dg R Jp Jq h5).imp (fun h=>⟨by rw [h.1];rfl,h.2⟩) (fun ⟨x,k,h1,h2⟩=>⟨k,by rw [h1];simp [h2]⟩)) hg.1 hg.2 (bT _)
  have hex:(⟨s.toArray⟩:ByteArray).extract l h=⟨((s.drop l).take (h - l)).toArray⟩:=by
   apply ByteArray.ext;rw [aeH];apply rP;simp [List.drop_take]
  have:(Instr.sliceAt t (a.eval x) (lo.map a.eval) (hi.map a.eval) none).run P w = .ok (.string ⟨((s.drop l).take (h - l)).toArray⟩) w:=by
   rw [e1];simp [Instr.sliceAt,Instr.slice,run_underlying ht,Be,hb,hex]
  simp [execOp,ho,this]
 ·cases h2
theorem aiq (R:Rel nm N S a w L) (hd:∀d,o.dst=some d→d < N) {x:Operand} {X:ax.X} {t e:TypeId} {pL:Nat} {lo hi mx:Option Operand} {LO HI MX:Option ax.X} (hx:bR nm X x) (ho:o.op = .slice t x lo hi mx) (ht:P.underlying t=some (.slice e)) (hs:jQ P e=some pL) (oH:pL≠0)
  (B8:∀x,lo=some x→∃y,LO=some y∧bR nm y x) (Jy:lo=none→LO=none) (Jp:∀x,hi=some x→∃y,HI=some y∧bR nm y x) (Jq:hi=none→HI=none)
  (vA:∀x,mx=some x→∃y,MX=some y∧bR nm y x) (ajC:mx=none→MX=none) (ajD:mx≠none→hi≠none)
  (hr:(bp Cl d (.slice pL X LO HI MX)).run S=some r):dw P a w o (dP nm N S w L a o.dst r.1 r.2):=by
 simp only [bp] at hr;obtain ⟨v1,h1,h2⟩:=Q.aK hr;clear hr;have r1:=rd_val R hx h1;have bnd:∀{l h len cap:Nat},(qu LO 0).run S=some l→(qu HI len).run S=some h→l≤h→h≤len→len≤cap→(Instr.sliceBounds true len cap (lo.map a.eval) (hi.map a.eval) none).run P w = .ok (l,h,cap) w:=
  fun h3 h5 g1 g2 g3=>adk ((Dg R B8 Jy h3).imp (fun h=>⟨by rw [h.1];rfl,h.2⟩) (fun ⟨x,k,h1,h2⟩=>⟨k,by rw [h1];simp [h2]⟩))
   ((Dg R Jp Jq h5).imp (fun h=>⟨by rw [h.1];rfl,h.2⟩) (fun ⟨x,k,h1,h2⟩=>⟨k,by rw [h1];simp [h2]⟩)) g1 g2 g3
 have ex:∀{b:Option Addr} {len cap l h:Nat},a.eval x = .slice b len cap→mx=none→(qu LO 0).run S=some l→(qu HI len).run S=some h→l≤h→h≤len→len≤cap→
   (execOp a.eval o).run P w = .ok (.value (.slice (if cap=l then b else b.map (·.add (l * pL))) (h - l) (cap - l))) w:=by
  intro b len cap l h hb hm h3 h5 g1 g2 g3;have hbd:=bnd h3 h5 g1 g2 g3;have:(Instr.sliceAt t (a.eval x) (lo.map a.eval) (hi.map a.eval) (mx.map a.eval)).run P w = .ok (.slice (if cap=l then b else b.map (·.add (l * pL))) (h - l) (cap - l)) w:=by
   rw [hb,hm];simp [Instr.sliceAt,Instr.slice,run_underlying ht,hbd,yq hs]
  simp [execOp,ho,this]
 split at h2
 ·cases h2
 ·rename_i t' sz rows sG;obtain ⟨l,h3,h4⟩:=Q.aK h2;clear h2;obtain ⟨h,h5,h6⟩:=Q.aK h4;clear h4;obtain ⟨hg,h7⟩:=Q.ek h6;clear h6;simp only [bK,fy,wN,eV,List.isEmpty_iff] at hg;obtain ⟨⟨ajZ,Fb⟩,jX⟩:=hg;have Zz:=r1.cQ;have ajO:∃u,a.eval x=u∧fK w L (.sl t' sz rows) u:=by
   refine ⟨_,rfl,?_⟩;generalize a.eval x=u at Zz;cases Zz with
   | d hd=>
    cases hd with
    | plain hp=>exact hp
    | jm=>simp at sG
    | own=>simp at sG
  obtain ⟨u,hu,hp⟩:=ajO;split at h7
  ·
   have hm:mx=none:=by
    cases mx with
    | none=>rfl
    | some m=>obtain ⟨y,hy,_⟩:=vA m rfl;cases hy
   obtain rfl:=Q.aY h7;cases hp with
   | nil=>
    have nJ:l=0:=by simp at jX;omega
    have Qf:h=0:=by simpa using jX
    subst nJ;subst Qf;refine fk R hd (v:=.slice none 0 0) ?_ (.one (.d (.plain (by simpa using fK.nil))));have:=ex hu hm h3 h5 (bT _) (bT _) (bT _);simpa using this
   | @mB _ ad cap=>
    have nJ:l=0:=by simp at jX;omega
    have Qf:h=0:=by simpa using jX
    subst nJ;subst Qf;refine fk R hd (v:=.slice (if cap=0 then some ad else (some ad).map (·.add (0 * pL))) 0 (cap - 0)) ?_ (.one (.d (.plain (by split<;>simpa using fK.mB))));exact ex hu hm h3 h5 (bT _) (bT _) (yH _)
   | @pl sz rows B o' cap cur e' fz val aB aZ PW hL hB hlen oI dM=>
    obtain rfl:sz=pL:=ajZ.resolve_right aB;refine fk R hd (ex hu hm h3 h5 Fb jX PW) (.one (.d (.plain ?_)));by_cases hlh:h=l
    ·rw [hlh,U1,A0];split<;>exact .mB
    ·have aR:cap≠l:=by omega
     have gi:((rows.drop l).take (h - l)).length=h - l:=by rw [AX,Na];omega
     rw [az aR];show fK w L _ (.slice (some ((⟨B,o',none⟩:Addr).add (l * sz))) (h - l) (cap - l));rw [oh];have fE:∀i c y,cellOf ((rows.drop l).take (h - l)) i c=some y→cellOf rows (l+i) c=some y:=by
      intro i c y hy;obtain ⟨rr,k1,k2⟩:=kL.1 hy;have kP:i < h - l:=by
       have:=(cB.1 k1).1;rw [gi] at this;exact this
      rw [yD kP,tC] at k1;exact kL.2 ⟨rr,k1,k2⟩
     suffices ajY:fK w L (.sl (.im false) sz ((rows.drop l).take (h - l))) (.slice (some ⟨B,o'+l * sz,none⟩) ((rows.drop l).take (h - l)).length (cap - l)) by rwa [gi] at ajY
     refine .pl (fun i c=>val (l+i) c) ?_ aZ (by omega) hL hB ?_ ?_ ?_
     ·intro e0;rw [e0] at gi;simp at gi;omega
     ·intro r1 jZ;exact hlen r1 (Nd (tD jZ))
     ·intro i c y hy;have:=oI _ _ _ (fE i c y hy);rw [lI] at this;rw [show o'+l * sz+i * sz+c=o'+(l * sz+i * sz)+c by omega];exact this
     ·intro i c y hy;exact dM _ _ _ (fE i c y hy)
  ·
   rename_i mX;obtain ⟨vm,h8,h9⟩:=Q.aK h7;clear h7;obtain ⟨mm,dj,gO⟩:=Q.gA h9;clear h9;obtain ⟨Fc,iE⟩:=Q.ek gO;clear gO;simp only [bK,eV] at Fc;obtain ⟨⟨rfl,rfl⟩,rfl⟩:=Fc;obtain rfl:=Q.aY iE;cases JA:mx with
   | none=>cases ajC JA
   | some m=>
    obtain ⟨y,hy,hym⟩:=vA m JA;cases hy;obtain ⟨km,hkm⟩:=wT (rd_val R hym h8) dj;obtain ⟨ad,len,cap,FH,QF⟩:∃ad len cap,u = .slice ad len cap∧br w L ⟨.h 0,0,[]⟩ (.sl t'.Xx sz []) (.slice ad 0 0):=by
     cases hp with
     | nil=>exact ⟨_,_,_,rfl,.plain .nil⟩
     | mB=>exact ⟨_,_,_,rfl,.jm⟩
     | pl=>exact ⟨_,_,_,rfl,.jm⟩
    have hiv:∃k,hi.map a.eval=some (.int k 0):=by
     rcases Dg R Jp Jq h5 with ⟨h,_⟩ | ⟨x,k,h1,h2⟩
     ·exact absurd h (ajD (by rw [JA];simp))
     ·exact ⟨k,by rw [h1];simp [h2]⟩
    obtain ⟨kh,hkh⟩:=hiv;have me:(lo.map a.eval=none)∨∃k,lo.map a.eval=some (.int k 0):=by
     rcases Dg R B8 Jy h3 with ⟨h,_⟩ | ⟨x,k,h1,h2⟩
     ·exact .inl (by rw [h];rfl)
     ·exact .inr ⟨k,by rw [h1];simp [h2]⟩
    refine fk R hd (v:=.slice ad 0 0) ?_ (.one (.d QF));have:(Instr.sliceAt t (a.eval x) (lo.map a.eval) (hi.map a.eval) (mx.map a.eval)).run P w = .ok (.slice ad 0 0) w:=by
     rw [hu,FH,hkh,JA];rcases me with me | ⟨kl,me⟩<;>rw [me]<;>
      simp [Instr.sliceAt,Instr.slice,run_underlying ht,Instr.sliceBounds,Instr.sliceBound,asIntOf,hkm,yq hs]
    simp [execOp,ho,this]
 ·rename_i pl g sz off len;obtain ⟨l,h3,h4⟩:=Q.aK h2;clear h2;obtain ⟨h,h5,h6⟩:=Q.aK h4;clear h4;obtain ⟨hg,h7⟩:=Q.ek h6;clear h6;simp only [bK,fy,eV,U3] at hg;obtain ⟨⟨⟨⟨rfl,Fb⟩,jX⟩,Qs⟩,vt⟩:=hg;have hm:mx=none:=by
   cases mx with
   | none=>rfl
   | some m=>obtain ⟨y,hy,_⟩:=vA m rfl;rw [Qs] at hy;cases hy
  obtain rfl:=Q.aY h7;cases r1.cQ with
  | view iH hh gg hV=>
   obtain ⟨b,cap,hb,ue,p8⟩:=iH;refine fk R hd (ex hb hm h3 h5 Fb jX ue) (.one (.view ?_ hh gg (fun he=>?_)))
   ·refine ⟨_,_,rfl,by omega,?_⟩;obtain ⟨ad,rfl⟩:=yI.1 p8;split<;>rfl
   ·rcases hV he with ⟨h0,a0,cu⟩ | ⟨B,o',yW,cur,e',fz,cu,aZ,hL,hB,cX,arf,dG,Pt⟩
    ·rw [hb] at cu;simp only [Value.slice.injEq] at cu;obtain ⟨rfl,_,rfl⟩:=cu;have:l=0:=by omega
     subst this;exact .inl ⟨by omega,a0,by simp;omega⟩
    ·rw [hb] at cu;simp only [Value.slice.injEq,lk] at cu;obtain ⟨rfl,rfl⟩:=cu;by_cases aR:cap=l
     ·subst aR;exact .inl ⟨by omega,_,by rw [aJ rfl,show h - cap=0 from by omega,U1]⟩
     ·right;refine ⟨B,o',cap - l,cur,e',fz,?_,aZ,hL,hB,cX,by omega,?_,fun q1 q2=>Pt (by omega) (by simp only [wN,fy,eV] at vt;omega)⟩
      ·rw [az aR];show Value.slice (some ((⟨B,o'+off * sz,none⟩:Addr).add (l * sz))) _ _=_;rw [oh,lI,pU]
      ·rw [lI];have:(cap - l) * sz+l * sz=cap * sz:=by rw [←lI,Nat.sub_add_cancel (by omega)]
       omega
 ·cases h2
end
end
section
section
variable {nm:FuncId→Option Nat} {N:Nat} {S S0:St} {a:Act} {w w0:World} {L L0:aw} {P:Program} {o:Oper} {Cl:bW} {d:Nat} {r:V×List Wr} {ws:List Wr}
theorem C5 {α β:Type} {f:α→Option β}:∀(l:List α) {r:List β},l.mapM f=some r→r.length=l.length∧∀(j:Nat) y,r[j]? = some y→∃x,l[j]? = some x∧f x=some y
 | [],r,h=>by
  have:r=[]:=by simpa using h.symm
  subst this;exact ⟨rfl,fun j y hy=>by simp at hy⟩
 | x::l,r,h=>by
  rw [mI] at h;cases hx:f x with
  | none=>simp [hx] at h
  | some y=>
   cases hl:l.mapM f with
   | none=>simp [hx,hl] at h
   | some r'=>
    simp [hx,hl] at h;subst h;obtain ⟨h1,h2⟩:=C5 l hl;refine ⟨by simp [h1],fun j z hz=>?_⟩;cases j with
    | zero=>simp at hz;subst hz;exact ⟨x,rfl,hx⟩
    | succ j=>obtain ⟨x',g1,g2⟩:=h2 j z (by simpa using hz);exact ⟨x',by simpa using g1,g2⟩
def uU (c:C) (u:Value):Prop:=(∃sz,Bq sz u=some c)
theorem uU.rep {c:C} {u:Value} (h:uU c u) (w:World) (L:aw) (γ:Key→Nat) (k:Key) (j:Nat):aF nm w L γ k j c u:=by
 obtain ⟨sz,h⟩:=h;exact (IH h).1 w L γ k j
theorem uU.own {c:C} {u:Value} (h:uU c u):c.own=false:=by
 obtain ⟨sz,h⟩:=h;exact (IH (nm:=fun _=>none) h).2
theorem AS {t:TypeId} {zs:List C} (h:pQ P t=some zs):∃i z,P.info? t=some i∧i.zero=some z∧z.cells.size=zs.length∧z.cells.size=i.size∧∀(j:Nat) c u,zs[j]? = some c→z.cells[j]? = some u→uU c u:=by
 unfold pQ at h;split at h
 ·rename_i i l h1 h2;split at h
  ·rename_i z hz;split at h
   ·rename_i hc;obtain ⟨g1,g2⟩:=C5 _ h;refine ⟨i,z,h1,hz,by rw [g1];simp [←hc.1],hc.2,?_⟩;intro j c u hj hu;obtain ⟨x,k1,k2⟩:=g2 j c hj;rw [aeI] at k1;have:x.2=u:=by
     have:=k1.2;rw [DU,hu] at this;simpa using this.symm
    rw [this] at k2;exact ⟨_,k2⟩
   ·cases h
  ·cases h
 ·cases h
theorem VY (M:ch nm N S0 w0 L0 ws a w L) {m:Nat} {cs:List C} {vs:Array Value} {e:TypeId} (hl:cs.length=vs.size)
  (hx:∀(j:Nat) x v,cs[j]? = some x→vs[j]? = some v→aF nm w L (S0.ah ws).γ (.h m) j x v) (hr:(boxed d cs ws).run S0=some r) {dst:Option Nat} (hd:∀d,dst=some d→d < N) :
  dP nm N S0 w0 L0 a dst r.1 r.2 (.pointer (some ⟨w.heap.size,0,none⟩)) (w.alloc (.cells vs e)):=by
 unfold boxed at hr;rw [Q.run_bind,uZ,Option.bind_some] at hr;obtain ⟨hg,h2⟩:=Q.ek hr;clear hr;obtain rfl:=Q.aY h2;have hn:cm ((S0.ah ws).E (.r (.l d)))=0∨cm ((S0.ah ws).E (.r (.l d)))=cs.length:=by
  simpa using hg
 obtain ⟨R,hm,_⟩:=M.rel.sV (r:=.l d) (cs:=cs) (vs:=vs) (e:=e) rfl (by simp) hl hn hx;have hγ:S0.γ (.r (.l d))+1≤(S0.ah (gf (.l d) 0 cs ({ k:=.r (.l d),v:=fw cs.length } :: ws))).γ (.r (.l d)):=by
  refine iQ ?_ (Bm S0 (.l d) cs 0 ({ k:=.r (.l d),v:=fw cs.length } :: ws) (.r (.l d))).2.2.2;simp only [St.ah,St.jU,bV];have:=St.wO S0 ws (.r (.l d));simp;exact this
 exact R.fZ (M.mono.trans hm) hd (.one (.ptr (k:=.h 0) ⟨_,rfl⟩ hγ (fun _=>⟨_,0,yR,rfl⟩)))
theorem ahV (R:Rel nm N S a w L) (hd:∀d,o.dst=some d→d < N) {t:TypeId} {zs:List C} (ho:o.op = .alloc t) (hz:pQ P t=some zs)
  (hr:(bp Cl d (.alloc zs)).run S=some r):dw P a w o (dP nm N S w L a o.dst r.1 r.2):=by
 simp only [bp] at hr;obtain ⟨i,z,h1,h2,h3,h4,h5⟩:=AS hz;refine .val (v:=.pointer (some ⟨w.heap.size,0,none⟩)) (w':=w.alloc (.cells z.cells t)) ?_ (VY (ch.init R) (m:=0) h3.symm (fun j x v hx hv=>(h5 j x v hx hv).rep _ _ _ _ _) hr hd);have:(Instr.alloc t true (.tuple #[])).run P w = .ok (.pointer (some ⟨w.heap.size,0,none⟩)) (w.alloc (.cells z.cells t)):=by
  simp [Instr.alloc,zeroValue,typeInfo,h1,h2,newVar,newRow]
 simp [execOp,ho,this]
theorem apL {c:C} {r:C×List Wr} (h:(st ws c).run S=some r):c≠.dead:=by
 rintro rfl;simp [st] at h
theorem adv:∀(cs:List C) {ws:List Wr} {r:List C×List Wr},(lD ws cs).run S=some r→∀c∈cs,c≠.dead
 | [],_,_,_,c,hc=>by simp at hc
 | x::cs,ws,r,h,c,hc=>by
  simp only [lD] at h;obtain ⟨r1,h1,h2⟩:=Q.aK h;obtain ⟨r2,h3,_⟩:=Q.aK h2;rcases gV.1 hc with rfl | hc
  ·exact apL h1
  ·exact adv cs h3 c hc
theorem mM.cells {γ0 γ:Key→Nat} (hs:Step w0 w L0 L γ0 γ) {m:Nat} {x:V} {v:Value} (h:mM nm w0 L0 γ0 w L γ m x v) (hx:∀vs,x≠.aq vs) (hl:∀c∈x.cells,c≠.dead) :
  x.cells.length=v.cells.size∧∀(j:Nat) c u,x.cells[j]? = some c→v.cells[j]? = some u→iT nm w0 L0 γ0 w L γ m j c u:=by
 cases x with
 | one c=>
  have hc:iT nm w0 L0 γ0 w L γ m 0 c v:=h;have h1:=(hc.rep hs).vZ (hl c (by simp [V.cells]));have hv:v.cells = #[v]:=by cases v<;>first | rfl | simp [Value.oneCell'] at h1
  rw [hv];refine ⟨rfl,fun j c' u h2 h3=>?_⟩;cases j with
  | zero=>simp [V.cells] at h2 h3;subst h2;subst h3;exact hc
  | succ j=>simp [V.cells] at h2
 | agg cs=>
  obtain ⟨vs,rfl,h1,h2⟩:=h;exact ⟨h1,h2⟩
 | aq vs=>exact absurd rfl (hx vs)
theorem aqU {v:V} {n:Nat} (hn:n≠0) {cs:List C} (h:cs.length=n) (hv:cs.length=v.cells.length):∀vs,v≠.aq vs:=by
 rintro vs rfl;have:cs.length=0:=hv;omega
theorem L9 (M:ch nm N S0 w0 L0 ws a w L) (R0:Rel nm N S0 a w0 L0) {m:Nat} (hm:qK L m) {x:Operand} {X:ax.X} (hx:bR nm X x) (aS:X.iK=true) {v:V} {fc:List Wr} (h1:(tk ws X).run S0=some (v,fc)) {cs:List C} {fx:List Wr}
  (h2:(lD fc v.cells).run S0=some (cs,fx)) (hn:cs.length≠0) :
  ∃L',Out nm N S0 w0 L0 ws fx a w L L' (fun q=>q.k≠.h m) m∧cs.length=(a.eval x).cells.size∧
   ∀(j:Nat) c u,cs[j]? = some c→(a.eval x).cells[j]? = some u→aF nm w L' (S0.ah fx).γ (.h m) j c u:=by
 obtain ⟨L1,O1,V1⟩:=wA M R0 hm aS hx h1;have hlen:cs.length=v.cells.length:=by
  have:∀(l:List C) (ws:List Wr) (r:List C×List Wr),(lD ws l).run S0=some r→r.1.length=l.length:=by
   intro l;induction l with
   | nil=>intro ws r h;simp only [lD] at h;obtain rfl:=Q.aY h;rfl
   | cons y l ih=>
    intro ws r h;simp only [lD] at h;obtain ⟨r1,g1,g2⟩:=Q.aK h;obtain ⟨r2,g3,g4⟩:=Q.aK g2;obtain rfl:=Q.aY g4;simp [ih _ _ g3]
  exact this _ _ _ h2
 have qi:∀vs,v≠.aq vs:=aqU hn rfl hlen;obtain ⟨c1,c2⟩:=V1.cells O1.mid.di qi (adv _ h2)
 obtain ⟨L2, O2, l2, R2⟩ := MF (m := m) v.cells O1.mid 0 (fun j => (a.eval x).cells.getD j undef) (fun j c hc => by
   have hj : j < (a.eval x).cells.size := by rw [← c1]; exact (cB.1 hc).1
   have := c2 j c _ hc (oc hj)
   simpa [Array.getD, hj] using this) h2
 refine ⟨L2,(O1.weaken (fun _ _=>trivial)).trans (O2.weaken (fun q hq h=>hq h.1)),by rw [←c1];exact l2,?_⟩;intro j c u hc hu;have:=R2 j c hc;simpa [iw,hu] using this
theorem ah0 (R:Rel nm N S a w L) (hH:eI L) (hd:∀d,o.dst=some d→d < N) {t:TypeId} {n:Nat} {x:Operand} {X:ax.X} (hx:bR nm X x) (aS:X.iK=true) (ho:o.op = .box t x) (hn:n≠0)
  (hr:(bp Cl d (.box n X)).run S=some r):dw P a w o (dP nm N S w L a o.dst r.1 r.2):=by
 simp only [bp] at hr;obtain ⟨⟨v,fc⟩,h1,h2⟩:=Q.aK hr;clear hr;obtain ⟨⟨cs,fx⟩,h3,h4⟩:=Q.aK h2;clear h2;obtain ⟨hg,h5⟩:=Q.ek h4;clear h4;simp only [eV] at hg;obtain ⟨L',O,hl,hc⟩:=L9 (ch.init R) R (m:=0) (fun B q o hB e=>by have:=hH B q o hB;rw [e] at this;simp [Key.aT] at this) hx aS h1 h3 (by omega);refine .val (v:=.pointer (some ⟨w.heap.size,0,none⟩)) (w':=w.alloc (.cells (a.eval x).cells t)) ?_ (VY O.mid hl hc h5 hd);have:(Instr.box t (a.eval x)).run P w = .ok (.pointer (some ⟨w.heap.size,0,none⟩)) (w.alloc (.cells (a.eval x).cells t)):=by
  simp [Instr.box,newVar,newRow]
 simp [execOp,ho,this]
end
end
section
section
variable {nm:FuncId→Option Nat} {N:Nat} {S S0:St} {a:Act} {w w0:World} {L L0:aw} {P:Program} {o:Oper} {Cl:bW} {d:Nat} {r:V×List Wr} {ws:List Wr}
theorem ch.wj (M:ch nm N S0 w0 L0 ws a w L) {f:Place→Option Place} (Jl:∀q:Place,q.k.aT=true→f q=some q) (vp:∀q t,f q=some t→t.k.aT=true→q=t) (qX:∀q q' t,f q=some t→f q'=some t→q=q') :
  ch nm N S0 w0 L0 ws a w (cI f L)∧Step w w L (cI f L) (S0.ah ws).γ (S0.ah ws).γ:=by
 have bA:Step w w L (cI f L) (S0.ah ws).γ (S0.ah ws).γ:=
  ⟨fun B hB=>⟨jN.2 hB,rfl⟩,fun _=>bT _,fun B q o hq _ hB=>⟨gL hB (Jl q hq),fun cur e fz h=>⟨cur,h,rfl⟩⟩,fun _ _ _ _ _ _ _=>rfl,fun B r o _ hB=>jz.2 hB⟩
 refine ⟨⟨M.rel.wj Jl qX,M.di.trans bA,M.mono.trans (G7 f),?_,M.heap,M.vM,fun B r o hB=>jz.2 (M.boxes B r o hB)⟩,bA⟩;intro B q o hq hB;obtain ⟨q0,h1,h2⟩:=oR hB;rw [vp q0 q h2 hq] at h1;exact M.rows B q o hq h1
theorem aF.acw {f:Place→Option Place} {k k':Key} {j j':Nat} {γ:Key→Nat} {c:C} {v:Value} (bA:Step w w L (cI f L) γ γ) (h:aF nm w L γ k j c v) (hf:∀p,f ⟨k,j,p⟩=some ⟨k',j',p⟩) (hkk:(∃r c,k = .b r c)→∃r c,k' = .b r c:=by first | exact fun h=>h | exact fun _=>⟨_,_,rfl⟩ | (rintro ⟨r,c,h⟩;cases h;done)):aF nm w (cI f L) γ k' j' c v:=by
 refine h.step bA ?_ (hkk:=hkk);intro B q o h1 h2 hL;refine ⟨gL hL ?_,rfl⟩;have:=hf q.p;rw [←h1,←h2] at this;exact this
def sZ (off n:Nat):Place→Option Place:=fun q=>
 if q.k = .h 1 then (if q.j < n then some ⟨.h 0,off+q.j,q.p⟩ else none)
 else if q.k = .h 0 then (if off≤q.j∧q.j < off+n then none else some q)
 else some q
theorem L7 {off n:Nat} {q t:Place} (h:sZ off n q=some t):(q.k = .h 1∧q.j < n∧t=⟨.h 0,off+q.j,q.p⟩)∨(q.k = .h 0∧¬ (off≤q.j∧q.j < off+n)∧t=q)∨(q.k≠.h 1∧q.k≠.h 0∧t=q):=by
 unfold sZ at h;split at h
 ·split at h
  ·simp only [aj] at h;exact .inl ⟨‹_›,‹_›,h.symm⟩
  ·cases h
 ·split at h
  ·split at h
   ·cases h
   ·simp only [aj] at h;exact .inr (.inl ⟨‹_›,‹_›,h.symm⟩)
  ·simp only [aj] at h;exact .inr (.inr ⟨‹_›,‹_›,h.symm⟩)
theorem aoo {off n:Nat} {q q' t:Place} (h1:sZ off n q=some t) (h2:sZ off n q'=some t):q=q':=by
 rcases L7 h1 with ⟨a1,a2,a3⟩ | ⟨a1,a2,a3⟩ | ⟨a1,a2,a3⟩<;>rcases L7 h2 with ⟨b1,b2,b3⟩ | ⟨b1,b2,b3⟩ | ⟨b1,b2,b3⟩
 ·rw [a3] at b3;simp only [Place.mk.injEq,lk] at b3;obtain ⟨k,j,p⟩:=q;obtain ⟨k',j',p'⟩:=q';simp only at *;rw [a1,b1,b3.2,show j=j' by omega]
 ·exact absurd (by rw [←b3,a3];simp;omega) b2
 ·exact absurd (by rw [←b3,a3]) b2
 ·exact absurd (by rw [←a3,b3];simp;omega) a2
 ·rw [←a3,←b3]
 ·exact absurd (by rw [←b3,a3];exact a1) b2
 ·exact absurd (by rw [←a3,b3]) a2
 ·exact absurd (by rw [←a3,b3];exact b1) a2
 ·rw [←a3,←b3]
theorem aon {off n:Nat} {q:Place} (h:q.k.aT=true):sZ off n q=some q:=by
 unfold sZ;rw [az (fun e=>by rw [e] at h;simp [Key.aT] at h),az (fun e=>by rw [e] at h;simp [Key.aT] at h)]
theorem aom {off n:Nat} {q t:Place} (h:sZ off n q=some t) (ht:t.k.aT=true):q=t:=by
 rcases L7 h with ⟨_,_,rfl⟩ | ⟨_,_,h⟩ | ⟨_,_,h⟩
 ·simp [Key.aT] at ht
 ·exact h.symm
 ·exact h.symm
def Hq (cells:Array Value) (off:Nat) (vs:Array Value):Array Value:=vs.zipIdx.foldl (fun cs (c,j)=>cs.setIfInBounds (off+j) c) cells
theorem adZ (off:Nat):∀(l:List Value) (j0:Nat) (cells:Array Value),((l.zipIdx j0).foldl (fun cs (c,j)=>cs.setIfInBounds (off+j) c) cells).size=cells.size∧
  ∀k,k < cells.size→((l.zipIdx j0).foldl (fun cs (c,j)=>cs.setIfInBounds (off+j) c) cells)[k]? = if off+j0≤k∧k < off+j0+l.length then l[k - (off+j0)]? else cells[k]?
 | [],j0,cells=>⟨rfl,fun k hk=>by simp;intro h1 h2;omega⟩
 | v::l,j0,cells=>by
  obtain ⟨h1,h2⟩:=adZ off l (j0+1) (cells.setIfInBounds (off+j0) v);simp only [List.zipIdx_cons,UM];refine ⟨by rw [h1];simp,fun k hk=>?_⟩;rw [h2 k (by simpa using hk)];by_cases uc:off+(j0+1)≤k∧k < off+(j0+1)+l.length
  ·rw [aJ uc,aJ ⟨by omega,by simp;omega⟩,show k - (off+j0)=(k - (off+(j0+1)))+1 by omega,yB]
  ·rw [az uc];by_cases ku:k=off+j0
   ·subst ku;rw [aJ ⟨bT _,by simp⟩,U1];simp [wM,hk]
   ·rw [yA (fun e=>ku e.symm),az (by simp;omega)]
theorem ad0 (cells:Array Value) (off:Nat) (vs:Array Value):(Hq cells off vs).size=cells.size∧∀k,k < cells.size→(Hq cells off vs)[k]? = if off≤k∧k < off+vs.size then vs[k - off]? else cells[k]?:=by
 have:=adZ off vs.toList 0 cells;unfold Hq;rw [←Ux,Array.toList_zipIdx];simpa using this
theorem apF {α:Type} {l:List α} {off:Nat} {cs:List α} (h:off+cs.length≤l.length) (k:Nat):(DG l off cs)[k]? = if off≤k∧k < off+cs.length then cs[k - off]? else l[k]?:=by
 unfold DG;have h1:(l.take off).length=off:=by rw [AX];omega
 by_cases hk:k < off
 ·rw [eo,od (by omega),yD hk,az (by omega)]
 ·by_cases ku:k < off+cs.length
  ·rw [eo,qI (by omega),h1,od (by omega),aJ ⟨by omega,ku⟩]
  ·rw [qI (by rw [ew,h1];omega),ew,h1,tC,az (by omega)];congr 1;omega
theorem apG {α:Type} {l:List α} {off:Nat} {cs:List α} (h:off+cs.length≤l.length):(DG l off cs).length=l.length:=by
 simp [DG];omega
def HV (nm:FuncId→Option Nat) (place:Nat→Option (Nat×Nat)):List (Nat×Nat×ax.X)→List (Nat×Operand)→Prop
 | [],[]=>True
 | (off,n,X)::t,(i,x)::t'=>place i=some (off,n)∧n≠0∧bR nm X x∧X.iK=true∧HV nm place t t'
 | _,_=>False
theorem XP (R0:Rel nm N S0 a w0 L0) {place:Nat→Option (Nat×Nat)}:∀(parts:List (Nat×Nat×ax.X)) (ps:List (Nat×Operand)) {ws:List Wr} {L:aw} {cells:List C} {vs:Array Value} (M:ch nm N S0 w0 L0 ws a w L) (hf:qK L 1)
  (hl:cells.length=vs.size) (hc:∀(j:Nat) c u,cells[j]? = some c→vs[j]? = some u→aF nm w L (S0.ah ws).γ (.h 0) j c u) (hp:HV nm place parts ps) {r:List C×List Wr} (hr:(EG ws cells parts).run S0=some r),
  ∃L' eR,Instr.fill place vs (ps.map fun p=>(p.1,a.eval p.2))=some eR∧ch nm N S0 w0 L0 r.2 a w L'∧r.1.length=eR.size∧∀(j:Nat) c u,r.1[j]? = some c→eR[j]? = some u→aF nm w L' (S0.ah r.2).γ (.h 0) j c u
 | [],[],ws,L,cells,vs,M,hf,hl,hc,hp,r,hr=>by
  simp only [EG] at hr;obtain rfl:=Q.aY hr;exact ⟨L,vs,rfl,M,hl,hc⟩
 | (off,n,X)::parts,(i,x)::ps,ws,L,cells,vs,M,hf,hl,hc,hp,r,hr=>by
  obtain ⟨cr,hn,hx,aS,hp⟩:=hp;simp only [EG] at hr;obtain ⟨⟨v,fc⟩,h1,h2⟩:=Q.aK hr;clear hr;obtain ⟨⟨cs,fx⟩,h3,h4⟩:=Q.aK h2;clear h2;obtain ⟨hg,h5⟩:=Q.ek h4;clear h4;simp only [bK,eV,fy] at hg;obtain ⟨aR,Fz⟩:=hg;obtain ⟨L1,O1,jI,dF⟩:=L9 M R0 hf hx aS h1 h3 (by omega);obtain ⟨M2,bA⟩:=O1.mid.wj (f:=sZ off n) (fun q hq=>aon hq) (fun q t h ht=>aom h ht) (fun q q' t a b=>aoo a b);have P':qK (cI (sZ off n) L1) 1:=by
   intro B q o hB e;obtain ⟨q0,_,h2⟩:=oR hB;rcases L7 h2 with ⟨_,_,h⟩ | ⟨h6,_,h⟩ | ⟨h6,_,h⟩
   ·rw [h] at e;simp at e
   ·rw [h,h6] at e;simp at e
   ·rw [h] at e;exact h6 e
  obtain ⟨u1,u2⟩:=ad0 vs off (a.eval x).cells;have hle:off+cs.length≤cells.length:=by omega
  obtain ⟨L', eR, g1, g2, g3, g4⟩ := XP R0 parts ps (cells := DG cells off cs) (vs := Hq vs off (a.eval x).cells) M2 P' (by rw [apG hle, u1]; exact hl) (by
    intro j c u hj hu
    rw [apF hle] at hj
    have Ql : j < vs.size := by rw [← u1]; exact (lG.1 hu).1
    rw [u2 j Ql, ← jI] at hu
    by_cases kQ : off ≤ j ∧ j < off + cs.length
    · rw [aJ kQ] at hj hu
      have := aF.acw (k' := .h 0) (j' := j) bA (dF (j - off) c u hj hu) (fun p => by
        simp only [sZ, bV]; rw [aJ (by omega), show off + (j - off) = j by omega])
      exact this
    · rw [az kQ] at hj hu
      have h0 := (hc j c u hj hu).keep O1.keep (fun p => by simp)
      exact aF.acw bA h0 (fun p => by
        simp only [sZ]; rw [az (by simp), aJ trivial, az (by omega)])) hp h5
  refine ⟨L',eR,?_,g2,g3,g4⟩;simp only [fS,Instr.fill,cr];rw [az (by simp;omega)];exact g1
 | [],_::_,_,_,_,_,_,_,_,_,hp,_,_=>hp.elim
 | (_,_,_)::_,[],_,_,_,_,_,_,_,_,hp,_,_=>hp.elim
theorem acT {α β:Type} {f:α→Sem β} {g:α→β}:∀(l:List α),(∀x∈l,(f x).run P w = .ok (g x) w)→(l.mapM f).run P w = .ok (l.map g) w
 | [],_=>by simp
 | x::l,h=>by
  rw [mI];simp [h x (by simp),acT l (fun y hy=>h y (by simp [hy]))]
theorem ah3 (R:Rel nm N S a w L) (hH:eI L) (hd:∀d,o.dst=some d→d < N) {t:TypeId} {fs:Array Field} {parts:Array (Nat×Operand)} {zs:List C} {ps:List (Nat×Nat×ax.X)} (ho:o.op = .build t parts) (hz:pQ P t=some zs) (ht:P.underlying t=some (.struct fs))
  (zt:∀f∈fs.toList,(jQ P f.type).isSome=true) (hp:HV nm (fun i=>(fs.map fun f=>(f.offset,(jQ P f.type).getD 0))[i]?) ps parts.toList)
  (hr:(bp Cl d (.build zs ps)).run S=some r):dw P a w o (dP nm N S w L a o.dst r.1 r.2):=by
 simp only [bp] at hr;obtain ⟨⟨cs,fc⟩,h1,h2⟩:=Q.aK hr;clear hr;obtain rfl:=Q.aY h2;obtain ⟨i,z,k1,k2,k3,k4,k5⟩:=AS hz;obtain ⟨L',eR,g1,g2,g3,g4⟩:=XP R ps parts.toList (ch.init R) (fun B q o hB e=>by have:=hH B q o hB;rw [e] at this;simp [Key.aT] at this) (cells:=zs) (vs:=z.cells) k3.symm
  (fun j c u hj hu=>(k5 j c u hj hu).rep _ _ _ _ _) hp h1
 refine .val (v:=.agg eR) (w':=w) ?_ (g2.rel.fZ g2.mono hd (.agg g3 g4));have hm:(fs.mapM fun f=>do pure (f.offset,←sizeOf f.type):Sem _).run P w = .ok (fs.map fun f=>(f.offset,(jQ P f.type).getD 0)) w:=by
  rw [aeG]
  rw [Sem.run_map, acT (g := fun f => (f.offset, (jQ P f.type).getD 0)) fs.toList (fun f hf => by
    obtain ⟨n, hn⟩ := yI.1 (zt f hf)
    simp [yq hn, hn])]
  simp only [Result.andThen_ok];congr 1;apply rP;simp
 have:(Instr.build t (parts.map fun (i,x)=>(i,a.eval x))).run P w = .ok (.agg eR) w:=by
  simp only [Instr.build,Sem.run_bind,zeroValue,typeInfo,run_program,k1,k2,Result.andThen_ok,Sem.run_pure,run_underlying ht,hm];have zE:(parts.map fun (i,x)=>(i,a.eval x)).toList=parts.toList.map fun p=>(p.1,a.eval p.2):=by simp
  rw [zE,g1];rfl
 simp [execOp,ho,this]
end
end
section
section
variable {nm:FuncId→Option Nat} {N:Nat} {S S0:St} {a:Act} {w w0:World} {L L0:aw} {P:Program} {o:Oper} {Cl:bW} {d:Nat} {r:V×List Wr} {ws:List Wr}
theorem Rel.LG {S:St} (h:Rel nm N S a w L) {m j:Nat} (hm:∀B o,L B≠some (.row ⟨.h m,j,[]⟩ o)) {w':World} {cur:Array Value} {e:TypeId} {fz:Nat×Nat} {rows:List (List D)} {val:Nat→Nat→Value} {sz cap:Nat}
  (hw:w'.heap[w.heap.size]? = some (.cells cur e fz)) (ho:∀B,B≠w.heap.size→w'.heap[B]? = w.heap[B]?) (cX:jC cur.size fz) (xq:w'.os=w.os∧w'.tape=w.tape∧w'.output=w.output∧w.heap.size≤w'.heap.size)
  (aZ:0 < sz) (hlen:∀r∈rows,r.length=sz) (dL:rows.length≤cap) (dG:cap * sz≤cur.size) (hv:pa rows sz 0 cur val) (hc:oX w L ⟨.h m,j,[]⟩ rows val) (dY:tK rows e) :
  Rel nm N S a w' (L.put w.heap.size (.row ⟨.h m,j,[]⟩ 0))∧de w w' L (L.put w.heap.size (.row ⟨.h m,j,[]⟩ 0))∧
   aF nm w' (L.put w.heap.size (.row ⟨.h m,j,[]⟩ 0)) S.γ (.h m) j (.d (.sl .own sz rows)) (.slice (some ⟨w.heap.size,0,none⟩) rows.length cap):=by
 have aB:∀B l,L B=some l→B≠w.heap.size:=fun B l hB e=>by rw [e,h.fq.new] at hB;cases hB
 refine ⟨?_,⟨xq.1,xq.2.1,xq.2.2.1,xq.2.2.2,fun B hB=>⟨by rw [aw.gy (aB B _ hB)];exact hB,ho B (aB B _ hB)⟩,fun B af hB=>⟨by rw [aw.gy (by omega)];exact hB,ho B (by omega)⟩,fun B i o hB=>by rw [aw.gy (aB B _ hB)];exact hB⟩,?_⟩
 ·refine h.grow (fun B l hB=>ho B (aB B l hB)) (fun B l hB=>by rw [aw.gy (aB B l hB)];exact hB) ?_ ?_ ?_
  ·intro B l hB;by_cases he:B=w.heap.size
   ·subst he;exact (lG.1 hw).1
   ·rw [aw.gy he] at hB;exact xj (h.fq B l hB) (ho B he)
  ·intro B B' pl o o' h1 h2;by_cases he:B=w.heap.size
   ·by_cases c6:B'=w.heap.size
    ·rw [he,c6]
    ·subst he;rw [aw.la] at h1;rw [aw.gy c6] at h2;simp only [aj,bQ.row.injEq] at h1;rw [←h1.1] at h2;exact absurd h2 (hm B' o')
   ·rw [aw.gy he] at h1;by_cases c6:B'=w.heap.size
    ·subst c6;rw [aw.la] at h2;simp only [aj,bQ.row.injEq] at h2;rw [←h2.1] at h1;exact absurd h1 (hm B o)
    ·rw [aw.gy c6] at h2;exact h.eM B B' pl o o' h1 h2
  ·intro B B' r o o' h1 h2;by_cases he:B=w.heap.size
   ·subst he;rw [aw.la] at h1;simp at h1
   ·by_cases c6:B'=w.heap.size
    ·subst c6;rw [aw.la] at h2;simp at h2
    ·rw [aw.gy he] at h1;rw [aw.gy c6] at h2;exact h.fA B B' r o o' h1 h2
 ·refine .d (.own val aZ (aw.la _ _ _) hw cX hlen dL (by omega) (by simpa [pa] using hv) ?_ dY);intro i c x hx;exact br.move id (fun _=>True) (fun _ _ _ _=>trivial) (fun _ _ _ _=>rfl) (fun B hB=>⟨by rw [aw.gy (aB B _ hB)];exact hB,ho B (aB B _ hB)⟩)
   (fun B q o _ hB=>⟨by rw [aw.gy (aB B _ hB)];exact hB,ho B (aB B _ hB)⟩) (hc i c x hx) trivial
theorem OC:∀{l:List C} {r:List D},mQ l=some r→l=r.map .d
 | [],r,h=>by simp only [mQ,aj] at h;subst h;rfl
 | c::l,r,h=>by
  cases c with
  | d x=>
   simp only [mQ] at h;cases hl:mQ l with
   | none=>simp [hl] at h
   | some t=>simp only [hl,fe,aj] at h;subst h;rw [OC hl];rfl
  | _=>simp [mQ] at h
theorem uU.plain {x:D} {u:Value} (h:uU (.d x) u) (w:World) (L:aw):fK w L x u:=by
 have h1:=h.rep (nm:=fun _=>none) w L (fun _=>0) (.s 0) 0;have h2:=h.own;cases h1 with
 | d h1=>
  cases h1 with
  | plain h1=>exact h1
  | jm=>simp [C.own] at h2
  | own=>simp [C.own] at h2
theorem aeE {zs:List C} {row:List D} {z:Value} {n m:Nat} (hd:mQ zs=some row) (hz:z.cells.size=zs.length) (hc:∀(j:Nat) c u,zs[j]? = some c→z.cells[j]? = some u→uU c u) (ju:n≤m) (xA:zs.length≠0) :
  (∀r∈List.replicate n row,r.length=zs.length)∧∀i c x,cellOf (List.replicate n row) i c=some x→∃u,(madeCells z.cells (m * zs.length))[i * zs.length+c]? = some u∧uU (.d x) u:=by
 have df:=OC hd;have gF:row.length=zs.length:=by rw [df];simp
 refine ⟨fun r hr=>by rw [List.eq_of_mem_replicate hr,gF],?_⟩;intro i c x hx;obtain ⟨r,h1,h2⟩:=kL.1 hx;have hi:i < n:=by have:=(cB.1 h1).1;simpa using this
 have hr:r=row:=by
  rw [UO,aJ hi] at h1;exact (uS h1).symm
 subst hr;have aR:c < zs.length:=by rw [←gF];exact (cB.1 h2).1
 have af:i * zs.length+c < m * zs.length:=vL (by omega) aR;have Fu:(i * zs.length+c) % zs.length=c:=by rw [HO,Nat.mul_add_mod];exact HN aR
 have YJ:c < z.cells.size:=by omega
 have hzc:zs[c]? = some (.d x):=by rw [df,bO,h2];rfl
 refine ⟨z.cells[c],?_,hc c (.d x) _ hzc (oc YJ)⟩;unfold madeCells;rw [HA,Array.getElem?_range,aJ af];simp only [fe,hz,Fu];rw [getElem!_pos z.cells c YJ]
def qC (i sz:Nat):Place→Option Place:=fun q=>
 if q.k = .h 1 then (if q.j < sz then some ⟨.h 0,0,(i,q.j)::q.p⟩ else none)
 else if q.k = .h 0∧q.j=0 then (match q.p with | (i',_)::_=>if i'=i then none else some q | []=>some q)
 else some q
theorem G' {i sz:Nat} {q t:Place} (h:qC i sz q=some t):(q.k = .h 1∧q.j < sz∧t=⟨.h 0,0,(i,q.j)::q.p⟩)∨(q.k≠.h 1∧(∀c r,¬ (q.k = .h 0∧q.j=0∧q.p=(i,c)::r))∧t=q):=by
 unfold qC at h;split at h
 ·split at h
  ·simp only [aj] at h;exact .inl ⟨‹_›,‹_›,h.symm⟩
  ·cases h
 ·rename_i h1;split at h
  ·rename_i h2;split at h
   ·rename_i i' c' r' hp;split at h
    ·cases h
    ·rename_i aB;simp only [aj] at h;exact .inr ⟨h1,fun c r e=>aB (by have:=e.2.2;rw [hp] at this;simp only [qH,fJ] at this;exact this.1.1),h.symm⟩
   ·rename_i hp;simp only [aj] at h;exact .inr ⟨h1,(fun c r e=>by have:=e.2.2;rw [hp] at this;cases this),h.symm⟩
  ·rename_i h2;simp only [aj] at h;exact .inr ⟨h1,fun c r e=>h2 ⟨e.1,e.2.1⟩,h.symm⟩
theorem ao6 {i sz:Nat} {q q' t:Place} (h1:qC i sz q=some t) (h2:qC i sz q'=some t):q=q':=by
 rcases G' h1 with ⟨a1,a2,a3⟩ | ⟨a1,a2,a3⟩<;>rcases G' h2 with ⟨b1,b2,b3⟩ | ⟨b1,b2,b3⟩
 ·rw [a3] at b3;simp only [Place.mk.injEq,qH,fJ,lk] at b3;cases q;cases q';simp_all
 ·exact absurd (by rw [←b3,a3];exact ⟨rfl,rfl,rfl⟩) (b2 q.j q.p)
 ·exact absurd (by rw [←a3,b3];exact ⟨rfl,rfl,rfl⟩) (a2 q'.j q'.p)
 ·rw [←a3,←b3]
theorem ao5 {i sz:Nat} {q:Place} (h:q.k.aT=true):qC i sz q=some q:=by
 unfold qC;rw [az (fun e=>by rw [e] at h;simp [Key.aT] at h),az (fun e=>by rw [e.1] at h;simp [Key.aT] at h)]
theorem ao4 {i sz:Nat} {q t:Place} (h:qC i sz q=some t) (ht:t.k.aT=true):q=t:=by
 rcases G' h with ⟨_,_,rfl⟩ | ⟨_,_,h⟩
 ·simp [Key.aT] at ht
 ·exact h.symm
def A2 (nm:FuncId→Option Nat):List (Nat×ax.X)→List (Nat×Operand)→Prop
 | [],[]=>True
 | (i,X)::t,(i',x)::t'=>i=i'∧bR nm X x∧X.iK=true∧A2 nm t t'
 | _,_=>False
theorem XR (R0:Rel nm N S0 a w0 L0) {sz:Nat} (aZ:0 < sz):∀(parts:List (Nat×ax.X)) (ps:List (Nat×Operand)) {ws:List Wr} {L:aw} {rows:List (List D)} {vs:Array Value} (M:ch nm N S0 w0 L0 ws a w L) (hf:qK L 1) (hm:∀B o,L B≠some (.row ⟨.h 0,0,[]⟩ o))
  (hl:rows.length * sz=vs.size) (hlen:∀r∈rows,r.length=sz) (hc:∀i c x,cellOf rows i c=some x→∃u,vs[i * sz+c]? = some u∧br w L ⟨.h 0,0,[(i,c)]⟩ x u) (hp:A2 nm parts ps) {r:List (List D)×List Wr} (hr:(EH sz ws rows parts).run S0=some r),
  ∃L' eR,Instr.fill (fun i=>some (i * sz,sz)) vs (ps.map fun p=>(p.1,a.eval p.2))=some eR∧ch nm N S0 w0 L0 r.2 a w L'∧(∀B o,L' B≠some (.row ⟨.h 0,0,[]⟩ o))∧r.1.length=rows.length∧eR.size=vs.size∧(∀r'∈r.1,r'.length=sz)∧
   ∀i c x,cellOf r.1 i c=some x→∃u,eR[i * sz+c]? = some u∧br w L' ⟨.h 0,0,[(i,c)]⟩ x u
 | [],[],ws,L,rows,vs,M,hf,hm,hl,hlen,hc,hp,r,hr=>by
  simp only [EH] at hr;obtain rfl:=Q.aY hr;exact ⟨L,vs,rfl,M,hm,rfl,rfl,hlen,hc⟩
 | (i,X)::parts,(i',x)::ps,ws,L,rows,vs,M,hf,hm,hl,hlen,hc,hp,r,hr=>by
  obtain ⟨rfl,hx,aS,hp⟩:=hp;simp only [EH] at hr;obtain ⟨⟨v,fc⟩,h1,h2⟩:=Q.aK hr;clear hr;obtain ⟨⟨cs,fx⟩,h3,h4⟩:=Q.aK h2;clear h2;obtain ⟨row,h5,h6⟩:=Q.gA h4;clear h4;obtain ⟨hg,h7⟩:=Q.ek h6;clear h6;simp only [bK,eV,fy] at hg;obtain ⟨gF,hi⟩:=hg;have eE:=OC h5;have aR:cs.length=sz:=by simp only at eE;rw [eE];simp [gF]
  obtain ⟨L1,O1,jI,dF⟩:=L9 M R0 hf hx aS h1 h3 (by omega);obtain ⟨M2,bA⟩:=O1.mid.wj (f:=qC i sz) (fun q hq=>ao5 hq) (fun q t h ht=>ao4 h ht) (fun q q' t a b=>ao6 a b);have P':qK (cI (qC i sz) L1) 1:=by
   intro B q o hB e;obtain ⟨q0,_,h2⟩:=oR hB;rcases G' h2 with ⟨_,_,h⟩ | ⟨h6,_,h⟩
   ·rw [h] at e;simp at e
   ·rw [h] at e;exact h6 e
  have vz:∀B o,cI (qC i sz) L1 B≠some (.row ⟨.h 0,0,[]⟩ o):=by
   intro B o hB;obtain ⟨q0,h8,h2⟩:=oR hB;rcases G' h2 with ⟨_,_,h⟩ | ⟨h6,_,h⟩
   ·simp at h
   ·rw [←h] at h8;exact hm B o (O1.xZ B _ o rfl (by simp) h8)
  obtain ⟨u1,u2⟩:=ad0 vs (i * sz) (a.eval x).cells;have ard:i * sz+sz≤vs.size:=by
   have:(i+1) * sz≤rows.length * sz:=nC _ hi;rw [lI] at this;omega
  have Y4:∀r∈rows.set i row,r.length=sz:=by
   intro r hr;rcases UT hr with h | h
   ·exact hlen r h
   ·rw [h];exact gF
  have fE:∀i' c y,cellOf (rows.set i row) i' c=some y→(i'=i∧row[c]? = some y)∨(i'≠i∧cellOf rows i' c=some y):=by
   intro i' c y hy;obtain ⟨rr,k1,k2⟩:=kL.1 hy;rw [M9] at k1;by_cases he:i=i'
   ·subst he;rw [aJ rfl,aJ hi] at k1;simp only [aj] at k1;rw [k1];exact .inl ⟨rfl,k2⟩
   ·rw [az he] at k1;exact .inr ⟨fun e=>he e.symm,kL.2 ⟨rr,k1,k2⟩⟩
  obtain ⟨L', eR, g1, g2, g3, g4, g5, g6, g7⟩ := XR R0 aZ parts ps (rows := rows.set i row) (vs := Hq vs (i * sz) (a.eval x).cells) M2 P' vz (by rw [yE, u1]; exact hl) Y4 (by
    intro i' c y hy
    have af := oj Y4 hy
    rw [yE] at af
    have qf := vL af.1 af.2
    rw [hl] at qf
    rw [u2 _ qf, ← jI, aR]
    rcases fE i' c y hy with ⟨rfl, df⟩ | ⟨aB, hold⟩
    · have Jj : cs[c]? = some (.d y) := by simp only at eE; rw [eE]; simp [df]
      have YH : c < (a.eval x).cells.size := by omega
      refine ⟨(a.eval x).cells[c], ?_, ?_⟩
      · rw [aJ ⟨by omega, by omega⟩, show i' * sz + c - i' * sz = c by omega]
        simp [YH]
      · have h9 := dF c (.d y) _ Jj (oc YH)
        cases h9 with
        | d h9 =>
          have := br.move (w' := w) (L' := cI (qC i' sz) L1) (fun q => ⟨.h 0, 0, (i', q.j) :: q.p⟩) (fun q => q.k = .h 1 ∧ q.j = c) (fun _ _ _ h => h) (fun _ _ _ _ => rfl) (fun B hB => ⟨jN.2 hB, rfl⟩)
            (fun B q o hq hL => ⟨gL hL (by unfold qC; rw [aJ hq.1, aJ (by rw [hq.2]; exact af.2)]), rfl⟩) h9 ⟨rfl, rfl⟩
          exact this
    · have ajI : ¬ (i * sz ≤ i' * sz + c ∧ i' * sz + c < i * sz + sz) := by
        rintro ⟨k1, k2⟩
        rcases Nat.lt_or_gt_of_ne aB with h | h
        · have : (i' + 1) * sz ≤ i * sz := nC _ h
          rw [lI] at this; omega
        · have : (i + 1) * sz ≤ i' * sz := nC _ h
          rw [lI] at this; omega
      rw [az ajI]
      obtain ⟨u, k1, k2⟩ := hc i' c y hold
      refine ⟨u, k1, ?_⟩
      have k3 : br w L1 ⟨.h 0, 0, [(i', c)]⟩ y u := by
        refine br.move id (fun q => q.k = .h 0) (fun _ _ _ h => h) (fun _ _ _ _ => rfl) O1.di.bh (fun B q o hq hL => ⟨O1.Cz B q o (by rw [hq]; rfl) (by rw [hq]; simp) hL, rfl⟩) k2 rfl
      refine br.move id (fun q => ∃ r, q = ⟨.h 0, 0, (i', c) :: r⟩) (by rintro q a b ⟨r, rfl⟩; exact ⟨r ++ [(a, b)], rfl⟩) (fun _ _ _ _ => rfl) (fun B hB => ⟨jN.2 hB, rfl⟩) ?_ k3 ⟨[], rfl⟩
      rintro B q o ⟨r, rfl⟩ hL
      refine ⟨gL hL ?_, rfl⟩
      unfold qC
      rw [az (by simp), aJ ⟨rfl, rfl⟩]
      simp only [id, aB, dE]) hp h7
  refine ⟨L',eR,?_,g2,g3,by rw [g4,yE],by rw [g5,u1],g6,g7⟩;simp only [fS,Instr.fill];rw [az (by simp;omega)];exact g1
 | [],_::_,_,_,_,_,_,_,_,_,_,_,hp,_,_=>hp.elim
 | (_,_)::_,[],_,_,_,_,_,_,_,_,_,_,hp,_,_=>hp.elim
theorem X4 {rows:List (List D)} {sz:Nat} {vs:Array Value} (hc:∀i c x,cellOf rows i c=some x→∃u,vs[i * sz+c]? = some u∧br w L ⟨.h 0,0,[(i,c)]⟩ x u) :
  ∃val,pa rows sz 0 vs val∧oX w L ⟨.h 0,0,[]⟩ rows val:=by
 refine ⟨fun i c=>vs.getD (i * sz+c) undef,?_,?_⟩
 ·intro i c x hx;obtain ⟨u,h1,_⟩:=hc i c x hx;rw [dc,h1];simp [iw,h1]
 ·intro i c x hx;obtain ⟨u,h1,h2⟩:=hc i c x hx;simp only [iw,h1,Option.getD_some];exact h2
theorem Rel.RW {S:St} (h:Rel nm N S a w L) (c:Array Value) (e:TypeId) :
  Rel nm N S a (w.alloc (.cells c e)) (L.put w.heap.size .bh)∧de w (w.alloc (.cells c e)) L (L.put w.heap.size .bh)∧Step w (w.alloc (.cells c e)) L (L.put w.heap.size .bh) S.γ S.γ:=by
 have aB:∀B l,L B=some l→B≠w.heap.size:=fun B l hB e=>by rw [e,h.fq.new] at hB;cases hB
 have ho:∀B,B≠w.heap.size→(w.alloc (.cells c e)).heap[B]? = w.heap[B]?:=fun B hB=>mV w _ hB
 have hw:(w.alloc (.cells c e)).heap[w.heap.size]? = _:=oD w (.cells c e);have hL:∀B l,L B=some l→(L.put w.heap.size .bh) B=some l:=fun B l hB=>by rw [aw.gy (aB B l hB)];exact hB
 refine ⟨h.grow (fun B l hB => ho B (aB B l hB)) hL ?_ ?_ ?_, ⟨rfl, rfl, rfl, by simp, fun B hB => ⟨hL B _ hB, ho B (aB B _ hB)⟩, fun B af hB => ⟨by rw [aw.gy (by omega)]; exact hB, ho B (by omega)⟩, fun B i o hB => hL B _ hB⟩,
   ⟨fun B hB => ⟨hL B _ hB, ho B (aB B _ hB)⟩, fun _ => bT _, fun B q o _ _ hB => ⟨hL B _ hB, fun cur e fz hc => ⟨cur, (ho B (aB B _ hB)).trans hc, rfl⟩⟩, fun B q o _ _ _ hB => ho B (aB B _ hB), fun B r o _ hB => hL B _ hB⟩⟩
 ·intro B l hB;by_cases he:B=w.heap.size
  ·subst he;exact (lG.1 hw).1
  ·rw [aw.gy he] at hB;exact xj (h.fq B l hB) (ho B he)
 ·intro B B' pl o o' h1 h2;by_cases he:B=w.heap.size
  ·subst he;rw [aw.la] at h1;simp at h1
  ·by_cases c6:B'=w.heap.size
   ·subst c6;rw [aw.la] at h2;simp at h2
   ·rw [aw.gy he] at h1;rw [aw.gy c6] at h2;exact h.eM B B' pl o o' h1 h2
 ·intro B B' r o o' h1 h2;by_cases he:B=w.heap.size
  ·subst he;rw [aw.la] at h1;simp at h1
  ·by_cases c6:B'=w.heap.size
   ·subst c6;rw [aw.la] at h2;simp at h2
   ·rw [aw.gy he] at h1;rw [aw.gy c6] at h2;exact h.fA B B' r o o' h1 h2
theorem ah2 (R:Rel nm N S a w L) (hH:eI L) (hd:∀d,o.dst=some d→d < N) {t e:TypeId} {len:Nat} {parts:Array (Nat×Operand)} {zs:List C} {row:List D} {ps:List (Nat×ax.X)} (ho:o.op = .buildSlice t len parts) (ht:P.underlying t=some (.slice e)) (hz:pQ P e=some zs) (P5:mQ zs=some row)
  (Zq:¬ (len * zs.length > 2 ^ 24)) (xA:zs.length≠0) (hp:A2 nm ps parts.toList) (h8:tj row=true→e=5)
  (hr:(bp Cl d (.NW zs.length (List.replicate len row) ps)).run S=some r):dw P a w o (dP nm N S w L a o.dst r.1 r.2):=by
 simp only [bp] at hr;obtain ⟨⟨rs,fc⟩,h1,h2⟩:=Q.aK hr;clear hr;obtain ⟨vt,h2⟩:=Q.ek h2;obtain rfl:=Q.aY h2;have dY:rs≠[]→tK rs e:=by
  intro aB hn;simp only [bK,wN,nA] at vt;have hn:lS rs=false:=hn.resolve_right aB;rcases vt.1 with vt | vt
  ·rw [hn] at vt;cases vt
  ·obtain ⟨q1,q2⟩:=vQ.1 vt;cases len with
   | zero=>exact absurd rfl q1
   | succ n=>exact h8 (q2 row (by simp [List.replicate_succ]))
 obtain ⟨i,z,k1,k2,k3,k4,k5⟩:=AS hz;have Jm:∀m,qK L m:=fun m B q o hB e=>by have:=hH B q o hB;rw [e] at this;simp [Key.aT] at this
 obtain ⟨z1,z2⟩:=aeE (n:=len) (m:=len) P5 k3 k5 (bT _) xA;obtain ⟨L',eR,g1,g2,g3,g4,g5,g6,g7⟩:=XR R (Nj xA) ps parts.toList (ch.init R) (Jm 1) (fun B o hB=>Jm 0 B _ o hB rfl) (rows:=List.replicate len row) (vs:=madeCells z.cells (len * zs.length))
  (by rw [size_madeCells, UQ]) z1 (fun i c x hx => by
    obtain ⟨u, h3, h4⟩ := z2 i c x hx
    exact ⟨u, h3, .plain (h4.plain w L)⟩) hp h1
 obtain ⟨val,hv,zu⟩:=X4 g7;simp only [UQ] at g4;have hi:i.size=zs.length:=by omega
 have:(Instr.buildSlice t len (parts.map fun (i,x)=>(i,a.eval x))).run P w = .ok (.slice (some ⟨w.heap.size,0,none⟩) len len) (w.alloc (.cells eR e)):=by
  have zE:(parts.map fun (i,x)=>(i,a.eval x)).toList=parts.toList.map fun p=>(p.1,a.eval p.2):=by simp
  have kU:¬ (16777216 < len * zs.length):=by omega
  unfold Instr.buildSlice;simp only [Sem.run_bind,run_underlying ht,Result.andThen_ok,sizeOf,typeInfo,run_program,k1,Sem.run_pure,hi];have sB:¬ (len * zs.length > 2 ^ 24):=Zq;by_cases h0:len * zs.length=0
  ·have B9:madeCells z.cells (len * zs.length) = #[]:=by rw [h0];simp [madeCells]
   rw [B9] at g1;simp only [sB,dE,h0,bV,Sem.run_pure,Result.andThen_ok,Sem.run_bind];simp only [Array.range_zero',zE];have:((Array.range 0).map fun x=>(#[]:Array Value)[x % (#[]:Array Value).size]!) = #[]:=by simp
   simp [g1,newRow]
  ·simp only [sB,dE,h0,Sem.run_bind,zeroValue,typeInfo,run_program,k1,k2,Result.andThen_ok,Sem.run_pure];have Qr:((Array.range (len * zs.length)).map fun x=>z.cells[x % z.cells.size]!)=madeCells z.cells (len * zs.length):=rfl;simp [zE,Qr,g1,newRow]
 by_cases aB:rs=[]
 ·subst aB;have nJ:len=0:=by simpa using g4.symm
  subst nJ;obtain ⟨hR,hM,_⟩:=g2.rel.RW eR e;exact .val (v:=.slice (some ⟨w.heap.size,0,none⟩) 0 0) (w':=w.alloc (.cells eR e)) (by simp [execOp,ho,this]) (hR.fZ (g2.mono.trans hM) hd (m:=0) (.one (.d .jm)))
 obtain ⟨hR,hM,kR⟩:=g2.rel.LG (m:=0) (j:=0) (w':=w.alloc (.cells eR e)) (cap:=len) g3 (oD w _) (fun B hB=>mV w _ hB) (fun j _=>by simp) ⟨rfl,rfl,rfl,by simp⟩ (Nj xA) g6 (by rw [g4];exact bT _) (by rw [g5,size_madeCells];exact bT _) hv zu (dY aB);refine .val (v:=.slice (some ⟨w.heap.size,0,none⟩) len len) (w':=w.alloc (.cells eR e)) ?_ (hR.fZ (g2.mono.trans hM) hd (m:=0) (.one (by rw [←g4];rw [←g4] at kR;exact kR)));simp [execOp,ho,this]
end
end
section
section
variable {nm:FuncId→Option Nat} {N:Nat} {S S0:St} {a:Act} {w w0:World} {L L0:aw} {P:Program} {o:Oper} {Cl:bW} {d:Nat} {r:V×List Wr} {ws:List Wr}
theorem eI.free (h:eI L) (m:Nat):qK L m:=fun B q o hB e=>by have:=h B q o hB;rw [e] at this;simp [Key.aT] at this
theorem ail (R:Rel nm N S a w L) (hH:eI L) (hd:∀d,o.dst=some d→d < N) {t e:TypeId} {l c:Operand} {LX CX:ax.X} {i:TypeInfo} {zs:List C} {row:List D} (hl:bR nm LX l) (hc:bR nm CX c) (ho:o.op = .makeSlice t l c) (ht:P.underlying t=some (.slice e)) (hi:P.info? e=some i) (hz:pQ P e=some zs) (P5:mQ zs=some row)
  (oH:i.size≠0) {bytes:Nat} (E1:i.bytes≤bytes∧(bytes=1→e=5)) (hr:(bp Cl d (.RN i.size bytes row LX CX)).run S=some r):dw P a w o (dP nm N S w L a o.dst r.1 r.2):=by
 simp only [bp] at hr;obtain ⟨vl,h1,h2⟩:=Q.aK hr;clear hr;obtain ⟨vc,h3,h4⟩:=Q.aK h2;clear h2;obtain ⟨n,h5,h6⟩:=Q.gA h4;clear h4;obtain ⟨m,h7,h8⟩:=Q.gA h6;clear h6;obtain ⟨hg,h9⟩:=Q.ek h8;clear h8;obtain rfl:=Q.aY h9;simp only [bK,fy,eV] at hg;obtain ⟨⟨⟨⟨ju,BY⟩,h63⟩,_⟩,h8⟩:=hg;have hb:m * i.bytes≤140737488355328:=iQ (Nat.mul_le_mul_left _ E1.1) BY;obtain ⟨kl,mc⟩:=wT (rd_val R hl h1) h5;obtain ⟨kc,lL⟩:=wT (rd_val R hc h3) h7;obtain ⟨i',z,k1,k2,k3,k4,k5⟩:=AS hz;obtain rfl:i'=i:=by rw [hi] at k1;simpa using k1.symm
 have aZ:i'.size=zs.length:=by omega
 obtain ⟨z1,z2⟩:=aeE (n:=n) (m:=m) P5 k3 k5 ju (by omega);rw [←aZ] at z1 z2
 obtain ⟨val, hv, zu⟩ := X4 (w := w) (L := L) (rows := List.replicate n row) (sz := i'.size) (vs := madeCells z.cells (m * i'.size)) (fun i c x hx => by
   obtain ⟨u, h3, h4⟩ := z2 i c x hx
   exact ⟨u, h3, .plain (h4.plain w L)⟩)
 have iW:(Instr.makeSlice t (a.eval l) (a.eval c)).run P w = .ok (.slice (some ⟨w.heap.size,0,none⟩) n m) (w.alloc (.cells (madeCells z.cells (m * i'.size)) e)):=by
  rw [mc,lL];have PN:(i'.bytes:Int) * (m:Int)≤281474976710656:=by
   have h1:i'.bytes * m≤281474976710656:=by rw [HO];omega
   have h2:((i'.bytes * m:Nat):Int)≤281474976710656:=by omega
   rwa [Int.natCast_mul] at h2
  exact run_make w t e i' z ht hi k2 kl kc n m (by omega) (by omega) PN (by omega)
 by_cases B9:n=0∧m=0
 ·obtain ⟨rfl,rfl⟩:=B9;obtain ⟨hR,hM,_⟩:=R.RW (madeCells z.cells (0 * i'.size)) e;exact .val (v:=.slice (some ⟨w.heap.size,0,none⟩) 0 0) (w':=w.alloc (.cells (madeCells z.cells (0 * i'.size)) e)) (by simp [execOp,ho,iW]) (Rel.fZ (ws:=[]) hR hM hd (m:=0) (.one (.d .jm)))
 obtain ⟨hR,hM,kR⟩:=R.LG (m:=0) (j:=0) (w':=w.alloc (.cells (madeCells z.cells (m * i'.size)) e)) (cap:=m) (fun B o hB=>hH.free 0 B _ o hB rfl) (oD w _) (fun B hB=>mV w _ hB) (fun j _=>by simp) ⟨rfl,rfl,rfl,by simp⟩ (Nj oH) z1
  (by simpa using ju) (by rw [size_madeCells]; exact bT _) hv zu (by
    intro hn
    simp only [wN, eV, bK, nA, rR] at h8
    rcases h8 with h8 | ⟨h8, dj⟩
    · exact E1.2 h8
    · exfalso
      have hn := hn.resolve_right fun e => (dj.elim (fun h => h (by simpa using e)) fun h => B9 ⟨by simpa using e, h⟩)
      obtain ⟨q1, q2⟩ := vQ.1 hn
      cases n with
      | zero => exact absurd rfl q1
      | succ n =>
        have h9 := q2 row (by simp [List.replicate_succ])
        rw [h9] at h8; cases h8)
 simp only [UQ] at kR;exact .val (v:=.slice (some ⟨w.heap.size,0,none⟩) n m) (w':=w.alloc (.cells (madeCells z.cells (m * i'.size)) e)) (by simp [execOp,ho,iW]) (Rel.fZ (ws:=[]) hR hM hd (m:=0) (.one kR))
theorem MG {s:List UInt8} {i c:Nat} {x:D} (h:cellOf (D.db s) i c=some x):∃b,s[i]? = some b∧c=0∧x = .int .u8 b.toNat:=by
 obtain ⟨r,h1,h2⟩:=kL.1 h;simp only [D.db,bO] at h1;cases hb:s[i]? with
 | none=>simp [hb] at h1
 | some b=>
  simp only [hb,fe,aj] at h1;subst h1;cases c with
  | zero=>simp at h2;exact ⟨b,rfl,rfl,h2.symm⟩
  | succ c=>simp at h2
theorem mD (s:List UInt8):(D.db s).length=s.length:=by simp [D.db]
theorem adF (s:List UInt8):∀r∈D.db s,r.length=1:=by
 intro r hr;simp only [D.db,iz] at hr;obtain ⟨b,_,rfl⟩:=hr;rfl
def strCells (s:List UInt8):Array Value:=(s.map fun b=>Value.int .u8 b.toNat).toArray
theorem ait (R:Rel nm N S a w L) (hH:eI L) (hd:∀d,o.dst=some d→d < N) {t u e:TypeId} {x:Operand} {X:ax.X} (hx:bR nm X x) (ho:o.op = .convert t u x) (ht:P.underlying t=some .string) (hu:P.underlying u=some (.slice e)) (he:P.underlying e=some (.int .u8)) (P6:e=5)
  (hr:(bp Cl d (.conv .TQ X)).run S=some r):dw P a w o (dP nm N S w L a o.dst r.1 r.2):=by
 simp only [bp] at hr;obtain ⟨v1,h1,h2⟩:=Q.aK hr;clear hr;have r1:=rd_val R hx h1;cases v1 with
 | one c=>
  cases c with
  | d z=>
   cases z with
   | str s=>
    obtain ⟨hg,h3⟩:=Q.ek (b:=decide (s.length≤140737488355328)) (f:=fun _=>(pure (V.one (C.d (D.sl Tag.own 1 (D.db s))),[]):Q (V×List Wr))) h2;obtain rfl:=Q.aY h3;simp only [fy] at hg;have e1:=r1.cQ.rE;let cap:=grownCap w s.length 0 e;have dL:s.length≤cap:=grownCap_ge w s.length 0 e;let cur:Array Value:=strCells s++Array.replicate (cap - s.length) (.int .u8 0);have eE:cur.size=cap:=by simp [cur,strCells];omega
    let w':=(w.drew.alloc (.cells cur e)).freeze ⟨w.heap.size,cur.size,none⟩ 1;have zJ:w'.heap[w.heap.size]? = some (.cells cur e (cur.size,cur.size+1)):=by
     have h0:=oD w.drew (.cells cur e);simp only [World.size_drew] at h0;simp only [w',World.freeze,Nat.one_ne_zero,dE,AU,h0];simp
    have lx:∀B,B≠w.heap.size→w'.heap[B]? = w.heap[B]?:=by
     intro B hB;have h0:=mV w.drew (.cells cur e) (B:=B) hB;simp only [w',World.freeze,Nat.one_ne_zero,dE,AU];rw [az (fun e=>hB e.symm)];exact h0
    have fE:∀(i:Nat) b,s[i]? = some b→cur[i]? = some (Value.int .u8 b.toNat):=by
     intro i b hb;have hi:=(cB.1 hb).1;simp only [cur];rw [AT (by simp [strCells];exact hi)];simp [strCells,hb]
    obtain ⟨hR,hM,kR⟩:=R.LG (m:=0) (j:=0) (w':=w') (cap:=cap) (rows:=D.db s) (sz:=1) (val:=fun i _=>Value.int .u8 (((s.getD i 0).toNat:Nat):Int)) (fun B o hB=>hH.free 0 B _ o hB rfl) zJ lx (fun j hj h=>by simp at h;omega)
     ⟨rfl, rfl, rfl, by simp [w', World.freeze]⟩ (by omega) (adF s) (by rw [mD]; exact dL) (by omega) (fun i c x hx => by
       obtain ⟨b, g1, rfl, rfl⟩ := MG hx
       rw [dc, uR, gW, fE i b g1]
       simp [kC, g1]) (fun i c x hx => by
       obtain ⟨b, g1, rfl, rfl⟩ := MG hx
       simp only [kC, g1, Option.getD_some]
       exact .plain .int) (fun _ => P6)
    rw [mD] at kR;refine .val (v:=.slice (some ⟨w.heap.size,0,none⟩) s.length cap) (w':=w') ?_ (Rel.fZ (ws:=[]) hR hM hd (m:=0) (.one kR));have:(convert t u (a.eval x)).run P w = .ok (.slice (some ⟨w.heap.size,0,none⟩) s.length cap) w':=by
     rw [e1];have Ck:(w.drew.alloc (.cells cur e)).shape? w.heap.size=some (e,cur.size):=by
      have h0:=oD w.drew (.cells cur e);simp only [World.size_drew] at h0;unfold World.shape?;rw [h0]
     have tZ:(⟨s.toArray⟩:ByteArray).data.map (fun b=>Value.int .u8 b.toNat)=strCells s:=by
      apply rP;simp [strCells]
     simp only [convert,Sem.run_bind,run_underlying ht,run_underlying hu,Result.andThen_ok,run_underlying he,Conv.stringToBytes,run_choose,Question.forced,Be,tZ,newRow,run_newObj,Sem.run_pure,markStringish,run_shape,run_freeze];simp only [rQ,dE,Result.andThen_ok,World.drew_eq,World.alloc_eq,World.size_drew];rw [show (Question.cut (.appendCap s.length 0 e) (w.tape w.drawn (.appendCap s.length 0 e)))=cap from rfl];rw [show strCells s++Array.replicate (cap - s.length) (Value.int .u8 0)=cur from rfl,Ck];rfl
    simp [execOp,ho,this]
   | _=>cases h2
  | _=>cases h2
 | _=>cases h2
theorem acJ {sz B o cap:Nat} {rows:List (List D)} {cur:Array Value} {e:TypeId} {fz:Nat×Nat} {val:Nat→Nat→Value} (hB:w.heap[B]? = some (.cells cur e fz)) (hlen:∀r∈rows,r.length=sz)
  (hv:∀i c x,cellOf rows i c=some x→cur[o+i * sz+c]? = some (val i c)) (FA:∀i c x,cellOf rows i c=some x→(val i c).oneCell'=true) :
  ∃news,Src P sz w (.slice (some ⟨B,o,none⟩) rows.length cap) rows.length news∧pa rows sz 0 news val:=by
 have hk:∀k,k < rows.length * sz→∃i c x,cellOf rows i c=some x∧k=i * sz+c∧cur[o+k]? = some (val i c):=by
  intro k hk;obtain ⟨i,c,x,g1,g2,_,_⟩:=afq hlen hk;exact ⟨i,c,x,g1,g2,by rw [g2,←pU];exact hv i c x g1⟩
 have QI:o+rows.length * sz≤cur.size∨rows.length * sz=0:=by
  rcases Ni (rows.length * sz) with h | h
  ·exact .inr h
  ·obtain ⟨i,c,x,_,_,g⟩:=hk (rows.length * sz - 1) (by omega);have:=(lG.1 g).1;exact .inl (by omega)
 rcases QI with QI | h0
 ·refine ⟨cur.extract o (o+rows.length * sz),⟨fun w'=>by simp [Builtin.lenOf],fun w' hw=>?_,by simp;omega,?_⟩,?_⟩
  ·simp only [Builtin.firstCells];exact acs (w:=w') (by rw [hw];exact hB) QI
  ·intro u hu;obtain ⟨k,uc,ku⟩:=Array.mem_iff_getElem.1 hu;simp only [Array.size_extract] at uc;obtain ⟨i,c,x,g1,g2,g3⟩:=hk k (by omega);have:u=val i c:=by
    rw [←ku,Array.getElem_extract];rw [oc (by omega)] at g3;simpa using g3
   rw [this];exact FA i c x g1
  ·intro i c x hx;obtain ⟨h1,h2⟩:=oj hlen hx;have:=vL h1 h2;rw [dc,Uz,aJ (by omega),←pU];exact hv i c x hx
 ·refine ⟨#[],⟨fun w'=>by simp [Builtin.lenOf],fun w' hw=>?_,by simp [h0],by simp⟩,?_⟩
  ·simp [Builtin.firstCells,loadCells,loadCellsFrom,h0]
  ·intro i c x hx;obtain ⟨h1,h2⟩:=oj hlen hx;have:=vL h1 h2;omega
theorem aiJ {w:World} {L L':aw} {pl s5:Place} {x:D} {v:Value} (h:br w L pl x v) (hf:x.flat=true):br w L' s5 x v:=by
 cases h with
 | plain h=>cases h<;>first | exact .plain .int | exact .plain .bool | exact .plain .str | simp [D.flat] at hf
 | _=>simp [D.flat] at hf
theorem aiF {rows:List (List D)} (h:sj rows=true) {i c:Nat} {x:D} (hx:cellOf rows i c=some x):x.flat=true:=by
 obtain ⟨r,h1,h2⟩:=kL.1 hx;exact lH.1 (lH.1 h r (fm h1)) x (fm h2)
theorem aqn (R:Rel nm N S a w L) {pl:Place} {g sz off len:Nat} {u:Value} (hv:bD nm w L S.γ (.h 0) (.one (.view pl g sz off len)) u) {e0:mL} {x0:D} {rows:List (List D)} (h3:(jw [] pl g sz).run S=some (e0,x0,rows)) (hg:off+len≤rows.length) (hf:sj ((rows.drop off).take len)=true) :
  ∃news iN,Src P sz w u ((rows.drop off).take len).length news∧(∀r∈(rows.drop off).take len,r.length=sz)∧(∀L' s5,oX w L' s5 ((rows.drop off).take len) iN)∧pa ((rows.drop off).take len) sz 0 news iN:=by
 have hlen:((rows.drop off).take len).length=len:=by rw [AX,Na];omega
 have empty:len=0→(∃b cap,u = .slice b 0 cap)→∃news iN,Src P sz w u ((rows.drop off).take len).length news∧(∀r∈(rows.drop off).take len,r.length=sz)∧(∀L' s5,oX w L' s5 ((rows.drop off).take len) iN)∧pa ((rows.drop off).take len) sz 0 news iN:=by
  rintro rfl ⟨b,cap,rfl⟩;rw [A0];refine ⟨#[],fun _ _=>undef,⟨fun w'=>by simp [Builtin.lenOf],fun w' _=>?_,by simp,by simp⟩,by simp,fun _ _ i c x hx=>by simp [cellOf] at hx,fun i c x hx=>by simp [cellOf] at hx⟩;cases b<;>simp [Builtin.firstCells,loadCells,loadCellsFrom]
 cases hv.cQ with
 | view iH hh gg hV=>
  obtain ⟨jY,u0,sJ⟩:=Sp R hh h3;rcases hV jY with ⟨h0,a0,rfl⟩ | ⟨B,o,cap,cur,e,fz,rfl,aZ,hL,hB,cX,ue,dG,_⟩
  ·exact empty h0 ⟨_,_,rfl⟩
  ·rcases sJ.nS with ⟨mh,_⟩ | ⟨B',o',yW,dR,e',tT,val,_,_,ff,dA,_,fM,PV,QH,cu,hr,dY⟩
   ·have h0:len=0:=by
     have hn:rows=[]:=mh;rw [hn] at hg;simp at hg;omega
    exact empty h0 ⟨_,_,by rw [h0]⟩
   ·obtain rfl:=R.eM B' B pl o' o ff hL;obtain rfl:o'=o:=by rw [ff] at hL;simpa using hL
    obtain ⟨rfl,rfl,rfl⟩:dR=cur∧e'=e∧tT=fz:=by rw [dA] at hB;simpa using hB
    have fE:∀i c x,cellOf ((rows.drop off).take len) i c=some x→cellOf rows (off+i) c=some x:=by
     intro i c x hx;obtain ⟨rr,k1,k2⟩:=kL.1 hx;have kP:i < len:=by
      have:=(cB.1 k1).1;rw [AX] at this;omega
     rw [yD kP,tC] at k1;exact kL.2 ⟨rr,k1,k2⟩
    have dX:∀r∈(rows.drop off).take len,r.length=sz:=fun r jZ=>fM r (Nd (tD jZ))
    have kR:∀i c x,cellOf ((rows.drop off).take len) i c=some x→∀L' s5,br w L' s5 x (val (off+i) c):=fun i c x hx L' s5=>
     aiJ (hr _ _ _ (fE i c x hx)) (aiF hf hx)
    obtain ⟨news,g1,g2⟩:=acJ (P:=P) (w:=w) (B:=B') (o:=o'+off * sz) (cap:=cap) (rows:=(rows.drop off).take len) (val:=fun i c=>val (off+i) c) dA dX
     (fun i c x hx => by
       have := cu _ _ _ (fE i c x hx)
       rw [lI] at this
       rw [show o' + off * sz + i * sz + c = o' + (off * sz + i * sz) + c by omega]
       exact this)
     (fun i c x hx=>(kR i c x hx L pl).vZ)
    rw [hlen] at g1 ⊢;exact ⟨news,_,g1,dX,fun L' s5 i c x hx=>kR i c x hx L' _,g2⟩
theorem ao8 {γ:Key→Nat} {m:Nat} {tg:Tag} {sz cw:Nat} {rows:List (List D)} {v:Value} (h:aF nm w L γ (.h m) 0 (.d (.sl tg cw rows)) v) (hs:cw=sz∨rows=[]) :
  ∃news iN,Src P sz w v rows.length news∧(∀r∈rows,r.length=sz)∧oX w L ⟨.h m,0,[]⟩ rows iN∧pa rows sz 0 news iN:=by
 have empty:rows=[]→(∃b cap,v = .slice b 0 cap)→∃news iN,Src P sz w v rows.length news∧(∀r∈rows,r.length=sz)∧oX w L ⟨.h m,0,[]⟩ rows iN∧pa rows sz 0 news iN:=by
  rintro rfl ⟨b,cap,rfl⟩;refine ⟨#[],fun _ _=>undef,⟨fun w'=>by simp [Builtin.lenOf],fun w' _=>?_,by simp,by simp⟩,by simp,fun i c x hx=>by simp [cellOf] at hx,fun i c x hx=>by simp [cellOf] at hx⟩;cases b<;>simp [Builtin.firstCells,loadCells,loadCellsFrom]
 have full:∀(B o cap:Nat) (cur:Array Value) (e:TypeId) (fz:Nat×Nat) (val:Nat→Nat→Value),v = .slice (some ⟨B,o,none⟩) rows.length cap→cw=sz→w.heap[B]? = some (.cells cur e fz)→(∀r∈rows,r.length=cw)→
   (∀i c x,cellOf rows i c=some x→cur[o+i * cw+c]? = some (val i c))→oX w L ⟨.h m,0,[]⟩ rows val→∃news iN,Src P sz w v rows.length news∧(∀r∈rows,r.length=sz)∧oX w L ⟨.h m,0,[]⟩ rows iN∧pa rows sz 0 news iN:=by
  rintro B o cap cur e fz val rfl rfl hB hlen hv hc;obtain ⟨news,g1,g2⟩:=acJ (P:=P) (cap:=cap) hB hlen hv (fun i c x hx=>(hc i c x hx).vZ);exact ⟨news,val,g1,hlen,hc,g2⟩
 cases h with
 | d h=>
  cases h with
  | plain h=>
   cases h with
   | nil=>exact empty rfl ⟨_,_,rfl⟩
   | mB=>exact empty rfl ⟨_,_,rfl⟩
   | pl val aB aZ dL hL hB hlen hv hr=>exact full _ _ _ _ _ _ val rfl (hs.resolve_right aB) hB hlen hv (fun i c x hx=>.plain (hr i c x hx))
  | jm=>exact empty rfl ⟨_,_,rfl⟩
  | own val aZ hL hB cX hlen dL dG hv hr=>
   rcases hs with hs | hs
   ·exact full _ _ _ _ _ _ val rfl hs hB hlen hv (fun i c x hx=>by have:=hr i c x hx;simpa [Place.sub] using this)
   ·exact empty hs ⟨_,_,by rw [hs];rfl⟩
theorem pW.own {m sz:Nat} {rows:List (List D)} {v:Value} (h:pW w L ⟨.h m,0,[]⟩ sz rows ⟨.h m,0,[]⟩ v):br w L ⟨.h m,0,[]⟩ (.sl .own sz rows) v:=by
 rcases h with ⟨rfl,a,rfl⟩ | ⟨B,o,cap,cur,e,fz,n0,val,rfl,aZ,hL,hB,cX,fM,dL,dG,cu,hd,dY⟩
 ·exact .jm
 ·refine .own val aZ (hL.elim id id) hB cX fM dL dG cu (fun i c x hx=>?_) dY;have:=hd i c x hx;simpa using this
theorem pW.an3 {m sz:Nat} {rows:List (List D)} {v:Value} (h:br w L ⟨.h m,0,[]⟩ (.sl .own sz rows) v):pW w L ⟨.h m,0,[]⟩ sz rows ⟨.h m,0,[]⟩ v:=by
 rcases h.nS with ⟨rfl,a,rfl⟩ | ⟨B,o,cap,cur,e,fz,val,rfl,aZ,hL,hB,cX,fM,dL,dG,cu,hd,dY⟩
 ·exact .inl ⟨rfl,a,rfl⟩
 ·exact .inr ⟨B,o,cap,cur,e,fz,0,val,rfl,aZ,.inl hL,hB,cX,fM,dL,dG,cu,fun i c x hx=>by simpa using hd i c x hx,dY⟩
theorem NH (M:ch nm N S0 w0 L0 ws a w L) {sz bytes:Nat} {v:V} {u x:Value} {src:List (List D)} {t ut ty e:TypeId} {i:TypeInfo} {dd:TypeDesc} {z:Value} (T:A1 P sz bytes t ut e i dd z) (hv:mM nm w0 L0 S0.γ w L (S0.ah ws).γ 0 v u)
  {news:Array Value} {iN:Nat→Nat→Value} (hx:Src P sz w x src.length news) (mY:∀r∈src,r.length=sz) (gC:oX w L ⟨.h 1,0,[]⟩ src iN) (dX:pa src sz 0 news iN)
  (hr:(wS sz bytes v ws src).run S0=some r) {dst:Option Nat} (hd:∀d,dst=some d→d < N) :
  ∃v' w',(Builtin.append_ #[t,ut] ty #[u,x]).run P w = .ok v' w'∧dP nm N S0 w0 L0 a dst r.1 r.2 v' w':=by
 unfold wS at hr;split at hr
 ·
  rename_i cw rows;obtain ⟨hg,h2⟩:=Q.ek hr;obtain rfl:=Q.aY h2;simp only [bK,eV,fy] at hg;obtain ⟨h8,rfl,hb⟩:=hg;have gJ:aF nm w L (S0.ah ws).γ (.h 0) 0 (.d (.sl .own cw rows)) u:=hv;cases gJ with
  | d gJ=>
   obtain ⟨v',w',L',g1,g2,g3,g4,g5,_⟩:=Ib (ty:=ty) M.rel (by omega:(0:Nat)≠1) T (.inl (pW.an3 gJ)) (.inl rfl) hx mY gC dX hb (.inl h8);exact ⟨v',w',g1,(g5 rfl).fZ (M.mono.trans g2) hd (m:=0) (.one (.d g3.own))⟩
 ·
  rename_i bn cw rows;obtain ⟨hg,h2⟩:=Q.ek hr;obtain rfl:=Q.aY h2;simp only [bK,eV,fy] at hg;obtain ⟨h8,⟨rfl,rfl⟩,hb⟩:=hg;have gJ:aF nm w L (S0.ah ws).γ (.h 0) 0 (.d (.sl (.im true) cw rows)) u:=hv;cases gJ with
  | d gJ=>
   cases gJ with
   | plain gJ=>
    cases gJ;cases src with
    | nil=>
     obtain ⟨ht,hu,dz,hi,hz,kx,ZE,aZ,kU,BY,_⟩:=T;have iW:=acR (ty:=ty) (w:=w) (b:=none) (sLen:=0) (sCap:=0) ht hu dz hi (by rw [kx];exact hx) (bT _);exact ⟨_,w,iW,M.rel.fZ M.mono hd (m:=0) (.one (.d (.plain (by simpa using fK.nil))))⟩
    | cons r0 rs=>
     obtain ⟨v',w',L',g1,g2,g3,g4,g5,_⟩:=Ib (ty:=ty) (rows:=[]) (pl:=⟨.h 0,0,[]⟩) M.rel (by omega:(0:Nat)≠1) T (.inr ⟨rfl,by simp,rfl⟩) (.inl rfl) hx mY gC dX (by simpa using hb) (.inr ⟨h8,rfl⟩);exact ⟨v',w',g1,(g5 rfl).fZ (M.mono.trans g2) hd (m:=0) (.one (.d g3.own))⟩
 ·
  rename_i pl g cw off len;obtain ⟨res,h3,h4⟩:=Q.aK hr;obtain ⟨e',x',rows⟩:=res;obtain ⟨rfl,jY,hE,hn⟩:=ux h3;obtain ⟨hg,h5⟩:=Q.ek h4;have h6:=Q.ni h5;obtain rfl:=Q.aY h6;simp only [bK,eV,fy] at hg;obtain ⟨⟨⟨⟨⟨h8,rfl⟩,rfl⟩,rfl⟩,zA⟩,hb⟩:=hg;obtain ⟨f1,f2,f3⟩:=I6 (S:=S0) zA;have gJ:aF nm w0 L0 S0.γ (.h 0) 0 (.view pl g cw 0 rows.length) u:=hv;cases gJ with
  | view iH hh gg hV=>
   obtain ⟨u0,sJ⟩:=M.Bb hh hE hn;have hA:pW w L pl cw rows ⟨.h 0,0,[]⟩ u:=by
    rcases hV jY with ⟨h0,a0,rfl⟩ | ⟨B,o,cap,cur,e',fz,rfl,aZ,hL,hB,cX,hle,dG,Pt⟩
    ·exact .inl ⟨pS.1 h0,a0,rfl⟩
    ·have qU:=(M.di.view B pl o hh f1 hL).1;have Pv:w.heap[B]? = some (.cells cur e' fz):=(M.heap B _ hL).trans hB;simp only [U2,gW] at dG ⊢;rcases sJ.nS with ⟨rfl,_⟩ | ⟨B',o',yW,dR,e2,tT,val,_,_,ff,dA,_,fM,PV,QH,cu,dM,dY⟩
     ·exact .inr ⟨B,o,cap,cur,e',fz,0,fun _ _=>undef,rfl,aZ,.inl qU,Pv,cX,by simp,by simp,dG,fun i c x hx=>by simp [cellOf] at hx,fun i c x hx=>by simp [cellOf] at hx,fun _=>Pt rfl rfl⟩
     ·obtain rfl:=M.rel.eM B' B pl o' o ff qU;obtain rfl:o'=o:=by rw [ff] at qU;simpa using qU
      obtain ⟨rfl,rfl,rfl⟩:dR=cur∧e2=e'∧tT=fz:=by rw [dA] at Pv;simpa using Pv
      exact .inr ⟨B', o', cap, dR, e2, tT, rows.length, val, rfl, aZ, .inl ff, dA, cX, fM, hle, dG, cu, fun i c x hx => by
        rw [aJ (oj fM hx).1]; exact dM i c x hx, dY⟩
   obtain ⟨v',w',L',g1,g2,g3,g4,_,g5⟩:=Ib (ty:=ty) M.rel (by omega:(0:Nat)≠1) T (.inl hA) (.inr ⟨hh,x',rows,hE,hn,bT _⟩) hx mY gC dX hb (.inl h8);refine ⟨v',w',g1,Rel.fZ (ws:={ k:=.a pl.k,v:=V.dead } :: ws) (g5 hh) (M.mono.trans g2) hd (m:=0) (.one (.c7 g4 hh ?_ ?_ (fun _ _=>g3)))⟩
   ·rw [jY];exact St.wO S0 _ _
   ·show (S0.γ (.a pl.k))+1≤((S0.ah ws).wr { k:=.a pl.k,v:=V.dead }).γ (.a pl.k);rw [St.jU,f2];simp
 ·
  rename_i pl g aa cw rows;obtain ⟨res,h3,h4⟩:=Q.aK hr;obtain ⟨e',x',dH⟩:=res;obtain ⟨rfl,jY,hE,hn⟩:=ux h3;have h5:=Q.ni h4;obtain ⟨hg,h6⟩:=Q.ek h5;obtain rfl:=Q.aY h6;simp only [bK,eV,fy] at hg;obtain ⟨⟨⟨⟨⟨h8,rfl⟩,hold⟩,haa⟩,zA⟩,hb⟩:=hg;obtain ⟨f1,f2,f3⟩:=I6 (S:=S0) zA;have gJ:aF nm w L (S0.ah ws).γ (.h 0) 0 (.c7 pl g aa cw rows) u:=hv;cases gJ with
  | c7 iH hh gg vk hV=>
   have hA:=hV (by rw [f1];exact jY) (by rw [f2];exact haa.symm);obtain ⟨v',w',L',g1,g2,g3,g4,_,g5⟩:=Ib (ty:=ty) M.rel (by omega:(0:Nat)≠1) T (.inl hA) (.inr ⟨hh,x',dH,hE,hn,hold⟩) hx mY gC dX hb (.inl h8);refine ⟨v',w',g1,Rel.fZ (ws:={ k:=.a pl.k,v:=V.dead } :: ws) (g5 hh) (M.mono.trans g2) hd (m:=0) (.one (.c7 g4 hh ?_ ?_ (fun _ _=>g3)))⟩
   ·rw [jY];exact St.wO S0 _ _
   ·show (S0.γ (.a pl.k))+1≤((S0.ah ws).wr { k:=.a pl.k,v:=V.dead }).γ (.a pl.k);rw [St.jU,f2];simp
 ·cases hr
end
end
section
section
variable {nm:FuncId→Option Nat} {N:Nat} {S S0:St} {a:Act} {w w0:World} {L L0:aw} {P:Program} {o:Oper} {Cl:bW} {d:Nat} {r:V×List Wr} {ws:List Wr}
theorem XS (R:Rel nm N S a w L) (hH:eI L) (hd:∀d,o.dst=some d→d < N) {x y:Operand} {X Y:ax.X} {t u e:TypeId} {sz bytes:Nat} {i:TypeInfo} {dd:TypeDesc} {z:Value} (hx:bR nm X x) (xx:X.iK=true) (hy:bR nm Y y) (QT:Y.iK=true)
  (ho:o.op = .call ⟨.builtin .append,#[x,y],#[t,u]⟩) (T:A1 P sz bytes t u e i dd z) (hr:(bp Cl d (.app sz bytes X Y)).run S=some r):dw P a w o (dP nm N S w L a o.dst r.1 r.2):=by
 simp only [bp] at hr;obtain ⟨⟨av,fc⟩,h1,h2⟩:=Q.aK hr;clear hr;obtain ⟨⟨src,fx⟩,h3,h4⟩:=Q.aK h2;clear h2;obtain ⟨⟨v,wJ⟩,h5,h6⟩:=Q.aK h4;clear h4;obtain ⟨L1,O1,V1⟩:=wA (ch.init R) R (hH.free 1) QT hy h1;dsimp only at h3 h5 h6 V1 O1;unfold rowsOf at h3;split at h3
 ·rename_i c;obtain ⟨⟨c',arz⟩,h7,h8⟩:=Q.aK h3;have hV:iT nm w L S.γ w L1 (S.ah fc).γ 1 0 c (a.eval y):=V1;obtain ⟨L2,O2,R2⟩:=uG O1.mid hV h7;dsimp only at h8;split at h8
  ·rename_i tg cw rows;obtain ⟨hg,h9⟩:=Q.ek h8;have dj:=Q.aY h9;simp only [fJ] at dj;obtain ⟨rfl,rfl⟩:=dj;have aZ:cw=sz∨src=[]:=by simpa using hg
   have P8:qK L2 0:=O2.free (O1.free (hH.free 0) (by omega)) (by omega);obtain ⟨L3,O3,V3⟩:=wA O2.mid R P8 xx hx h5;have R3:=aF.keep (m:=1) (j:=0) O3.keep (fun _=>trivial) R2;obtain ⟨news,iN,g1,g2,g3,g4⟩:=ao8 (P:=P) (sz:=sz) R3 aZ;obtain ⟨v',w',g5,g6⟩:=NH (ty:=o.type) O3.mid T V3 g1 g2 g3 g4 h6 hd;refine .val ?_ g6;rw [execOp_builtin ho,show (#[x,y]:Array Operand).map a.eval = #[a.eval x,a.eval y] from by simp];exact wu g5
  ·cases h8
 ·cases h3
theorem ahY (R:Rel nm N S a w L) (hH:eI L) (hd:∀d,o.dst=some d→d < N) {x y:Operand} {X Y:ax.X} {t u e:TypeId} {sz bytes:Nat} {i:TypeInfo} {dd:TypeDesc} {z:Value} (hx:bR nm X x) (xx:X.iK=true) (hy:bR nm Y y) (QT:Y.iK=true)
  (ho:o.op = .call ⟨.builtin .append,#[x,y],#[t,u]⟩) (T:A1 P sz bytes t u e i dd z) (hr:(bp Cl d (.A8 sz bytes X Y)).run S=some r):dw P a w o (dP nm N S w L a o.dst r.1 r.2):=by
 simp only [bp] at hr;obtain ⟨av,h1,h2⟩:=Q.aK hr;clear hr;split at h2
 ·rename_i pl g cw off len;have r1:=rd_val R hy h1;obtain ⟨res,h3,h4⟩:=Q.aK h2;clear h2;obtain ⟨e0,x0,rows⟩:=res;obtain ⟨hg,h5⟩:=Q.ek h4;clear h4;obtain ⟨⟨v,wJ⟩,h6,h7⟩:=Q.aK h5;clear h5;simp only [bK,eV,fy] at hg;obtain ⟨⟨rfl,Fb⟩,jX⟩:=hg;obtain ⟨L3,O3,V3⟩:=wA (ch.init R) R (hH.free 0) xx hx h6;obtain ⟨news,iN,g1,g2,g3,g4⟩:=aqn (P:=P) R r1 h3 Fb jX;obtain ⟨v',w',g5,g6⟩:=NH (ty:=o.type) O3.mid T V3 g1 g2 (g3 _ _) g4 h7 hd;refine .val ?_ g6;rw [execOp_builtin ho,show (#[x,y]:Array Operand).map a.eval = #[a.eval x,a.eval y] from by simp];exact wu g5
 ·exact XS (Cl:=Cl) (d:=d) R hH hd hx xx hy QT ho T h2
theorem ahX (R:Rel nm N S a w L) (hH:eI L) (hd:∀d,o.dst=some d→d < N) {x y:Operand} {X Y:ax.X} {t u e:TypeId} {i:TypeInfo} {dd:TypeDesc} {z:Value} (hx:bR nm X x) (xx:X.iK=true) (hy:bR nm Y y)
  (ho:o.op = .call ⟨.builtin .append,#[x,y],#[t,u]⟩) (T:A1 P 1 1 t u e i dd z) (hr:(bp Cl d (.A6 X Y)).run S=some r):dw P a w o (dP nm N S w L a o.dst r.1 r.2):=by
 simp only [bp] at hr;obtain ⟨av,h1,h2⟩:=Q.aK hr;clear hr;have r1:=rd_val R hy h1;split at h2
 ·rename_i s;obtain ⟨⟨v,wJ⟩,h5,h6⟩:=Q.aK h2;clear h2;obtain ⟨L3,O3,V3⟩:=wA (ch.init R) R (hH.free 0) xx hx h5;have e1:=r1.cQ.rE;have QJ:Src P 1 w (.string ⟨s.toArray⟩) (D.db s).length (strCells s):=by
   refine ⟨fun w'=>by simp [Builtin.lenOf,Be,mD],fun w' _=>?_,by simp [strCells,mD],?_⟩
   ·simp only [Builtin.firstCells,mD];have hex:(⟨s.toArray⟩:ByteArray).extract 0 s.length=⟨s.toArray⟩:=by
     apply ByteArray.ext;rw [aeH];apply rP;simp
    rw [hex];have:(⟨s.toArray⟩:ByteArray).data.map (fun b=>Value.int .u8 b.toNat)=strCells s:=by
     apply rP;simp [strCells]
    rw [this];rfl
   ·intro u hu;simp only [strCells,List.mem_toArray,iz] at hu;obtain ⟨b,_,rfl⟩:=hu;rfl
  obtain ⟨v', w', g5, g6⟩ := NH (ty := o.type) O3.mid T V3 QJ (adF s) (iN := fun i _ => Value.int .u8 (((s.getD i 0).toNat : Nat) : Int)) (fun i c x hx => by
      obtain ⟨b, g1, rfl, rfl⟩ := MG hx
      simp only [kC, g1, Option.getD_some]
      exact .plain .int) (fun i c x hx => by
      obtain ⟨b, g1, rfl, rfl⟩ := MG hx
      rw [dc, uR, gW]
      simp [strCells, kC, g1]) h6 hd
  refine .val ?_ g6;rw [execOp_builtin ho,show (#[x,y]:Array Operand).map a.eval = #[a.eval x,a.eval y] from by simp,e1];exact wu g5
 ·cases h2
theorem XU (R:Rel nm N S a w L) (hH:eI L) (hd:∀d,o.dst=some d→d < N) {x:Operand} {X:ax.X} (hx:bR nm X x) (xx:X.iK=true) (ho:o.op = .move x∨o.op = .assign x)
  (hr:(bp Cl d (.LB X)).run S=some r):dw P a w o (dP nm N S w L a o.dst r.1 r.2):=by
 simp only [bp] at hr;obtain ⟨⟨v,fc⟩,h1,h2⟩:=Q.aK hr;clear hr;obtain ⟨L1,O1,V1⟩:=wA (ch.init R) R (hH.free 0) xx hx h1;have hex:(execOp a.eval o).run P w = .ok (.value (a.eval x)) w:=by rcases ho with ho | ho<;>simp [execOp,ho]
 refine .val hex ?_;have plain:∀{r:V×List Wr},(pure (v,fc):Q (V×List Wr)).run S=some r→dP nm N S w L a o.dst r.1 r.2 (a.eval x) w:=by
  intro r h;obtain rfl:=Q.aY h;exact O1.mid.rel.fZ O1.mid.mono hd (V1.rep O1.mid.di)
 simp only at h2;unfold aa6 at h2;split at h2
 ·rename_i pl g aa sz rows;obtain ⟨⟨c,fx⟩,h3,h4⟩:=Q.aK h2;obtain rfl:=Q.aY h4;obtain ⟨L2,O2,R2⟩:=Ts (m:=0) (j:=0) O1.mid V1 h3;exact O2.mid.rel.fZ O2.mid.mono hd (m:=0) (.one R2)
 ·rename_i pl g sz off len;split at h2
  ·obtain ⟨⟨c,fx⟩,h3,h4⟩:=Q.aK h2;obtain rfl:=Q.aY h4;obtain ⟨L2,O2,R2⟩:=uG (m:=0) (j:=0) (c:=.view pl g sz off len) (v:=a.eval x) O1.mid V1 h3;exact O2.mid.rel.fZ O2.mid.mono hd (m:=0) (.one R2)
  ·exact plain h2
 ·exact plain h2
theorem acg {m:Nat} {mv:Bool} {r:aI}:∀(cs:List C) {ws:List Wr} {L:aw} (M:ch nm N S0 w0 L0 ws a w L) (j0 c0:Nat) (vs:Nat→Value)
  (hc:∀j c,cs[j]? = some c→iT nm w0 L0 S0.γ w L (S0.ah ws).γ m (j0+j) c (vs (j0+j))) {rr:List C×List Wr} (hr:(putCells mv r ws c0 cs).run S0=some rr),
  ∃L',Out nm N S0 w0 L0 ws rr.2 a w L L' (fun q=>¬ (q.k = .h m∧j0≤q.j)) m∧rr.1.length=cs.length∧(∀c∈cs,c≠.dead)∧
   ∀j c,rr.1[j]? = some c→aF nm w L' (S0.ah rr.2).γ (.h m) (j0+j) c (vs (j0+j))
 | [],ws,L,M,j0,c0,vs,hc,rr,hr=>by
  simp only [putCells] at hr;obtain rfl:=Q.aY hr;exact ⟨L,Out.refl M _ m,rfl,fun c h=>by simp at h,fun j c h=>by simp at h⟩
 | c::cs,ws,L,M,j0,c0,vs,hc,rr,hr=>by
  simp only [putCells] at hr;obtain ⟨⟨c1,fc⟩,h1,h2⟩:=Q.aK hr;clear hr;obtain ⟨⟨Br,fx⟩,h3,h4⟩:=Q.aK h2;clear h2;obtain rfl:=Q.aY h4;have c8:=hc 0 c rfl;have lu:c≠.dead:=by
   rintro rfl;cases mv<;>simp [Me,ta,oU,st] at h1
  obtain ⟨L1,O1,R1⟩:∃L',Out nm N S0 w0 L0 ws fc a w L L' (fun q=>¬ (q.k = .h m∧q.j=j0)) m∧aF nm w L' (S0.ah fc).γ (.h m) j0 c1 (vs j0):=by
   cases mv with
   | true=>exact TH M c8 h1
   | false=>exact TE M c8 h1
  obtain ⟨L2, O2, hl, me, R2⟩ := acg cs O1.mid (j0 + 1) (c0 + 1) vs (fun j c h => by
    have := hc (j + 1) c (by simpa using h)
    have := this.keep O1.keep (fun p => by simp)
    rwa [show j0 + 1 + j = j0 + (j + 1) by omega]) h3
  refine ⟨L2,(O1.weaken ?_).trans (O2.weaken ?_),by simp [hl],?_,?_⟩
  ·intro q hq h;exact hq ⟨h.1,by omega⟩
  ·intro q hq h;exact hq ⟨h.1,by omega⟩
  ·intro y hy;rcases gV.1 hy with rfl | hy
   ·exact lu
   ·exact me y hy
  ·intro j y hj;cases j with
   | zero=>
    simp only [kD,aj] at hj;subst hj;exact R1.keep O2.keep (fun p=>by simp)
   | succ j=>
    have:=R2 j y (by simpa using hj);rwa [show j0+1+j=j0+(j+1) by omega] at this
theorem X7 {m:Nat} {Pl:Place} {i:Nat}:∀(cs:List C) {ws:List Wr} {L:aw} (M:ch nm N S0 w0 L0 ws a w L) (j0 c0:Nat) (vs:Nat→Value)
  (hc:∀j c,cs[j]? = some c→iT nm w0 L0 S0.γ w L (S0.ah ws).γ m (j0+j) c (vs (j0+j))) {rr:List D×List Wr} (hr:(vg Pl i ws c0 cs).run S0=some rr),
  ∃L',Out nm N S0 w0 L0 ws rr.2 a w L L' (fun q=>¬ (q.k = .h m∧j0≤q.j)) m∧rr.1.length=cs.length∧(∀c∈cs,c≠.dead)∧
   ∀j c,rr.1[j]? = some c→aF nm w L' (S0.ah rr.2).γ (.h m) (j0+j) (.d c) (vs (j0+j))
 | [],ws,L,M,j0,c0,vs,hc,rr,hr=>by
  simp only [vg] at hr;obtain rfl:=Q.aY hr;exact ⟨L,Out.refl M _ m,rfl,fun c h=>by simp at h,fun j c h=>by simp at h⟩
 | c::cs,ws,L,M,j0,c0,vs,hc,rr,hr=>by
  simp only [vg] at hr;obtain ⟨⟨c1,fc⟩,h1,h2⟩:=Q.aK hr;clear hr;have c8:=hc 0 c rfl;have lu:c≠.dead:=by
   rintro rfl;simp [oU,st] at h1
  obtain ⟨L1,O1,R1⟩:=TE M c8 h1;simp only at h2;split at h2
  ·rename_i z;obtain ⟨⟨Br,fx⟩,h3,h4⟩:=Q.aK h2;clear h2;obtain rfl:=Q.aY h4
   obtain ⟨L2, O2, hl, me, R2⟩ := X7 cs O1.mid (j0 + 1) (c0 + 1) vs (fun j c h => by
     have := hc (j + 1) c (by simpa using h)
     have := this.keep O1.keep (fun p => by simp)
     rwa [show j0 + 1 + j = j0 + (j + 1) by omega]) h3
   refine ⟨L2,(O1.weaken ?_).trans (O2.weaken ?_),by simp [hl],?_,?_⟩
   ·intro q hq h;exact hq ⟨h.1,by omega⟩
   ·intro q hq h;exact hq ⟨h.1,by omega⟩
   ·intro y hy;rcases gV.1 hy with rfl | hy
    ·exact lu
    ·exact me y hy
   ·intro j y hj;cases j with
    | zero=>
     simp only [kD,aj] at hj;subst hj;exact R1.keep O2.keep (fun p=>by simp)
    | succ j=>
     have:=R2 j y (by simpa using hj);rwa [show j0+1+j=j0+(j+1) by omega] at this
  ·cases h2
theorem ais (R:Rel nm N S a w L) (hH:eI L) (hd:∀d,o.dst=some d→d < N) {x v:Operand} {X V':ax.X} {t:TypeId} {mv:Bool} {n:Nat} (hx:bR nm X x) (hv:bR nm V' v) (hvo:V'.iK=true)
  (ho:o.op = .store t x v) (ht:jQ P t=some n) (hn:n≠0) (hr:(bp Cl d (.store mv n X V')).run S=some r):dw P a w o (dP nm N S w L a o.dst r.1 r.2):=by
 simp only [bp] at hr;obtain ⟨p,h1,h2⟩:=Q.aK hr;clear hr;obtain ⟨⟨vv,fc⟩,h3,h4⟩:=Q.aK h2;clear h2;obtain ⟨hg,h5⟩:=Q.ek h4;clear h4;simp only [eV] at hg;have rp:=rd_val R hx h1;obtain ⟨L1,O1,V1⟩:=wA (ch.init R) R (hH.free 0) hvo hv h3;dsimp only at V1 O1 hg h5;have qi:∀vs,vv≠.aq vs:=by rintro vs rfl;exact hn (by rw [←hg];rfl)
 have run:∀(B o':Nat),a.eval x = .pointer (some ⟨B,o',none⟩)→(a.eval v).cells.size=n→(∀j,j < n→(w.cell? ⟨B,o'+j,none⟩).isSome=true)→(∀j,j < n→w.frozen? ⟨B,o'+j,none⟩=false)→(∀u∈(a.eval v).cells.toList,u.oneCell'=true)→
   (execOp a.eval o).run P w = .ok .skip (w.setCells B o' (a.eval v).cells.toList):=by
  intro B o' hb hs hc hf h1;have bA:=run_storeCells_cells (P:=P) B o' (a.eval v).cells.toList 0 w (by simpa [hs] using hc) (by simpa [hs] using hf) h1;simp only [gW] at bA;have:(Instr.storeAt t (a.eval x) (a.eval v)).run P w = .ok () (w.setCells B o' (a.eval v).cells.toList):=by
   rw [hb];simp [Instr.storeAt,Instr.sureAddr,storeVar,yq ht,hs,bA]
  simp [execOp,ho,this]
 have aaG:∀(me:∀c∈vv.cells,c≠.dead),(a.eval v).cells.size=n∧(∀j c,vv.cells[j]? = some c→iT nm w L S.γ w L1 (S.ah fc).γ 0 (0+j) c ((a.eval v).cells.getD (0+j) undef))∧(∀u∈(a.eval v).cells.toList,u.oneCell'=true):=by
  intro me;obtain ⟨c1,c2⟩:=V1.cells O1.mid.di qi me;refine ⟨by omega,fun j c hc=>?_,fun u hu=>?_⟩
  ·have hj:j < (a.eval v).cells.size:=by rw [←c1];exact (cB.1 hc).1
   have:=c2 j c _ hc (oc hj);simpa [Array.getD,hj] using this
  ·obtain ⟨j,hj,Ql⟩:=List.mem_iff_getElem.1 hu;have vw:j < (a.eval v).cells.size:=by simpa using hj
   have hcj:j < vv.cells.length:=by omega
   have:=c2 j vv.cells[j] u (by simp) (by rw [oc vw];simpa using Ql);exact (this.rep O1.mid.di).vZ (me _ (bL hcj))
 split at h5
 ·
  rename_i r0 g c;obtain ⟨⟨cs,fx⟩,h6,h7⟩:=Q.aK h5;clear h5;rw [Q.run_bind,uZ,Option.bind_some] at h7;obtain ⟨jX,h8⟩:=Q.ek h7;clear h7;obtain rfl:=Q.aY h8;simp only [bK,nA,eV,fy] at jX;obtain ⟨⟨hG,jY⟩,B3⟩:=jX;have lu:∀c∈vv.cells,c≠.dead:=by
   have aux:∀(l:List C) (ws:List Wr) (c0:Nat) (rr:List C×List Wr),(putCells mv r0 ws c0 l).run S=some rr→∀c∈l,c≠.dead:=by
    intro l;induction l with
    | nil=>intro ws c0 rr _ c hc;simp at hc
    | cons y l ih=>
     intro ws c0 rr h c hc;simp only [putCells] at h;obtain ⟨r1,g1,g2⟩:=Q.aK h;obtain ⟨r2,g3,_⟩:=Q.aK g2;rcases gV.1 hc with rfl | hc
     ·rintro rfl;cases mv<;>simp [Me,ta,oU,st] at g1
     ·exact ih _ _ _ g3 c hc
   exact aux _ _ _ _ h6
  obtain ⟨hs,Fp,FA⟩:=aaG lu;obtain ⟨L2,O2,dX,_,R2⟩:=acg (m:=0) vv.cells O1.mid 0 c (fun j=>(a.eval v).cells.getD j undef) Fp h6;have Y2:cs.length=vv.cells.length:=dX;dsimp only at O2 R2 dX;cases rp.cQ with
  | ptr iH gg hp=>
   obtain ⟨B,o',hB,cu⟩:=hp jY.symm;have pw:=O2.mid.boxes B r0 o' hB;obtain ⟨B',eX,cur,e,fz,k1,k2,k3,k4⟩:=O2.mid.rel.room r0 hG (by omega);obtain rfl:=O2.mid.rel.fA B' B r0 eX o' k1 pw;obtain rfl:eX=o':=by rw [k1] at pw;simpa using pw
   obtain ⟨L3, hR, hM, _, _⟩ := Rel.VW (m := 0) hG cs (a.eval v).cells.toList 0 c (S := S) (ws := fx) O2.mid.rel pw (by simp; omega) (by omega) (by
     intro j y u hy hu
     have := R2 j y hy
     rw [DU] at hu
     simpa [iw, hu] using this)
   refine .skip (run B' (eX+c) cu hs (fun j hj=>?_) (fun j hj=>?_) FA) (hR.fZ (O2.mid.mono.trans hM) hd (m:=0) (.aq (us:=#[]) rfl rfl (fun i x u h=>by simp at h)))
   ·rw [qR k2];simp;omega
   ·exact Pj k2 k3 (by omega)
 ·
  rename_i pl g sz i c;obtain ⟨⟨zs,fx⟩,h6,h7⟩:=Q.aK h5;clear h5;obtain ⟨⟨e,x0,rows⟩,h8,h9⟩:=Q.aK h7;clear h7;obtain ⟨rfl,jY,hE,xr⟩:=ux h8;obtain ⟨row,df,dj⟩:=Q.gA h9;clear h9;obtain ⟨jX,gO⟩:=Q.ek dj;clear dj;simp only [fy] at jX;obtain ⟨wJ,ui,iE⟩:=Q.gA gO;clear gO;obtain rfl:=Q.aY iE;have lu:∀c∈vv.cells,c≠.dead:=by
   have aux:∀(l:List C) (ws:List Wr) (c0:Nat) (rr:List D×List Wr),(vg pl i ws c0 l).run S=some rr→∀c∈l,c≠.dead:=by
    intro l;induction l with
    | nil=>intro ws c0 rr _ c hc;simp at hc
    | cons y l ih=>
     intro ws c0 rr h c hc;simp only [vg] at h;obtain ⟨⟨y1,wsy⟩,g1,g2⟩:=Q.aK h;rcases gV.1 hc with rfl | hc
     ·rintro rfl;simp [oU,st] at g1
     ·simp only at g2;split at g2
      ·obtain ⟨r2,g3,_⟩:=Q.aK g2;exact ih _ _ _ g3 c hc
      ·cases g2
   exact aux _ _ _ _ h6
  obtain ⟨hs,Fp,FA⟩:=aaG lu;obtain ⟨L2,O2,dX,_,R2⟩:=X7 (m:=0) vv.cells O1.mid 0 c (fun j=>(a.eval v).cells.getD j undef) Fp h6;have Y2:zs.length=vv.cells.length:=dX;dsimp only at O2 R2 dX;cases rp.cQ with
  | eD iH hh gg hp=>
   obtain ⟨B,o',hB,cu⟩:=hp jY;obtain ⟨u0,sJ⟩:=O2.mid.Bb hh hE xr;rcases sJ.nS with ⟨mh,_⟩ | ⟨B',eX,cap,cur,e',fz,val,_,aZ,ff,dA,cX,fM,dL,dG,Co,dM,dY⟩
   ·rw [mh] at df;simp at df
   have p5:=O2.mid.rows B' pl eX hh ff;obtain rfl:=O2.mid.vM B' B pl eX o' p5 hB;obtain rfl:eX=o':=by rw [p5] at hB;simpa using hB
   dsimp only at dL fM ff dA Co xr hE df ui;have hi:i < rows.length:=(cB.1 df).1;have gF:row.length=sz:=fM row (fm df);have qf:i * sz+sz≤cap * sz:=by
    have:(i+1) * sz≤cap * sz:=nC _ (by omega);rwa [lI,Nat.one_mul] at this
   obtain ⟨L3, hR, hM, _⟩ := Rel.Xu (m := 0) (sz := sz) (i := i) hh zs (a.eval v).cells.toList 0 c x0 (S0 := S) (ws := fx) (eZ := wJ) O2.mid.rel hE ⟨rows, xr⟩ ff (by simp; omega) ui (by
     intro j y u hy hu
     have := R2 j y hy
     rw [DU] at hu
     simpa [iw, hu] using this)
   refine .skip (run B' (eX+i * sz+c) cu hs (fun j hj=>?_) (fun j hj=>?_) FA) (hR.fZ (O2.mid.mono.trans hM) hd (m:=0) (.aq (us:=#[]) rfl rfl (fun i x u h=>by simp at h)))
   ·rw [qR dA];simp;omega
   ·exact Pj dA cX (by omega)
 ·cases h5
theorem apJ {c:C} {k:Key} {j:Nat} {v:Value} {γ:Key→Nat} {rr:C×List Wr} (h:(st ws c).run S=some rr) (hc:c.clean=true):rr.1.clean=true:=by
 cases c with
 | view pl g sz off len=>
  simp only [st] at h;obtain ⟨res,h1,h2⟩:=Q.aK h;obtain ⟨_,h3⟩:=Q.ek h2;obtain rfl:=Q.aY h3;rfl
 | c7=>simp [C.clean] at hc
 | mp=>simp [C.clean] at hc
 | gk=>simp [st] at h
 | eD=>simp [st] at h
 | bt=>simp [st] at h
 | dead=>simp [st] at h
 | _=>simp only [st] at h;obtain rfl:=Q.aY h;exact hc
theorem I4 (R0:Rel nm N S0 a w0 L0):∀(xs:List ax.X) (ps:List Operand) {ws:List Wr} {L:aw} (M:ch nm N S0 w0 L0 ws a w L) (hp:xs.length=ps.length) (hx:∀(j:Nat) X x,xs[j]? = some X→ps[j]? = some x→bR nm X x∧X.iK=true) {rr:List C×List Wr} (hr:(zg ws xs).run S0=some rr),
  ∃L',Out nm N S0 w0 L0 ws rr.2 a w L L' (fun q=>q.k≠.h 0) 0∧rr.1.length=xs.length∧jo rr.1=true∧∀(j:Nat) c x,rr.1[j]? = some c→ps[j]? = some x→aF nm w L' (S0.ah rr.2).γ (.h 0) 0 c (a.eval x)
 | [],[],ws,L,M,hp,hx,rr,hr=>by
  simp only [zg] at hr;obtain rfl:=Q.aY hr;exact ⟨L,Out.refl M _ 0,rfl,rfl,fun j c x h=>by simp at h⟩
 | X::xs,x::ps,ws,L,M,hp,hx,rr,hr=>by
  simp only [zg] at hr;obtain ⟨v,h1,h2⟩:=Q.aK hr;clear hr;obtain ⟨hX,PE⟩:=hx 0 X x rfl rfl;have rv:=rd_val R0 hX h1;have aR:=Mm PE h1;split at h2
  ·rename_i c;obtain ⟨⟨c1,fc⟩,h3,h4⟩:=Q.aK h2;clear h2;obtain ⟨⟨cs,fx⟩,h5,h6⟩:=Q.aK h4;clear h4;obtain rfl:=Q.aY h6;have YG:c.own=false:=L6 (j:=0) aR rfl;have c8:c.clean=true:=rv.cQ.u4 YG;obtain ⟨L1,O1,R1⟩:=uG (m:=0) (j:=0) M (iT.Al M.di rv.cQ YG) h3;obtain ⟨L2,O2,hl,ajd,R2⟩:=I4 R0 xs ps O1.mid (by simpa using hp) (fun j X x h1 h2=>hx (j+1) X x (by simpa using h1) (by simpa using h2)) h5;have dF:c1.clean=true:=apJ (k:=.h 0) (j:=0) (v:=undef) (γ:=S0.γ) h3 c8;refine ⟨L2,(O1.weaken (fun q hq h=>hq h.1)).trans O2,by simp [hl],by simp [jo,dF,ajd],?_⟩;intro j y z hj hz;cases j with
   | zero=>
    simp only [kD,aj] at hj hz;subst hj;subst hz;exact R1.rD O2.di dF _ _
   | succ j=>exact R2 j y z (by simpa using hj) (by simpa using hz)
  ·cases h2
 | [],_::_,_,_,_,hp,_,_,_=>by simp at hp
 | _::_,[],_,_,_,hp,_,_,_=>by simp at hp
theorem aii (R:Rel nm N S a w L) (hH:eI L) (hd:∀d,o.dst=some d→d < N) {cH f:Nat} {first cap:Array Operand} {xs ys:List ax.X} (jH:f < kN) (hf:nm cH=some f) (Zf:xs.length=first.toList.length) (vJ:∀(j:Nat) X x,xs[j]? = some X→first.toList[j]? = some x→bR nm X x∧X.iK=true)
  (Cf:ys.length=cap.toList.length) (FL:∀(j:Nat) X x,ys[j]? = some X→cap.toList[j]? = some x→bR nm X x∧X.iK=true) (ho:o.op = .makeFunc (.func cH) first cap)
  (hr:(bp Cl d (.RI f xs ys)).run S=some r):dw P a w o (dP nm N S w L a o.dst r.1 r.2):=by
 simp only [bp] at hr;obtain ⟨⟨fa,fc⟩,h1,h2⟩:=Q.aK hr;clear hr;obtain ⟨⟨fb,fx⟩,h3,h4⟩:=Q.aK h2;clear h2;obtain rfl:=Q.aY h4;obtain ⟨L1,O1,jI,dF,R1⟩:=I4 R xs first.toList (ch.init R) Zf vJ h1;obtain ⟨L2,O2,dX,gC,R2⟩:=I4 R ys cap.toList O1.mid Cf FL h3;have Ju:fa.length=xs.length:=jI;have Y2:fb.length=ys.length:=dX;refine .val (v:=.func (.func cH) (first.map a.eval) (cap.map a.eval)) (w':=w) ?_ (O2.mid.rel.fZ O2.mid.mono hd (m:=0) (.one (.fn jH hf (by simp;simp at Zf;omega) (by simp;simp at Cf;omega) ⟨dF,gC⟩ ?_ ?_)))
 ·simp [execOp,ho,Instr.makeFunc]
 ·intro j x u h5 h6;rw [HA] at h6;cases hj:first[j]? with
  | none=>simp [hj] at h6
  | some y=>
   simp only [hj,fe,aj] at h6;subst h6;exact (R1 j x y h5 (by rw [DU];exact hj)).rD O2.di (kj dF h5) _ _
 ·intro j x u h5 h6;rw [HA] at h6;cases hj:cap[j]? with
  | none=>simp [hj] at h6
  | some y=>
   simp only [hj,fe,aj] at h6;subst h6;exact R2 j x y h5 (by rw [DU];exact hj)
end
end
section
section
variable {nm:FuncId→Option Nat} {N:Nat} {S S0:St} {a:Act} {w w0:World} {L L0:aw} {P:Program} {o:Oper} {Cl:bW} {d:Nat} {r:V×List Wr} {ws:List Wr}
theorem ahW (R:Rel nm N S a w L) (hd:∀d,o.dst=some d→d < N) {t:TypeId} {z1:C} (ho:o.op = .alloc t) (hz:pQ P t=some [.cE,z1])
  (hr:(bp Cl d (.ND t [.cE,z1])).run S=some r):dw P a w o (dP nm N S w L a o.dst r.1 r.2):=by
 simp only [bp] at hr;obtain ⟨⟨v,ws0⟩,h1,h2⟩:=Q.aK hr;clear hr;obtain rfl:=Q.aY h2;obtain ⟨i,z,k1,k2,k3,k4,k5⟩:=AS hz;unfold boxed at h1;rw [Q.run_bind,uZ,Option.bind_some] at h1;obtain ⟨hg,h3⟩:=Q.ek h1;clear h1;have h4:=Q.aY h3;simp only [fJ] at h4;obtain ⟨rfl,rfl⟩:=h4;have hn:cm ((S.ah []).E (.r (.l d)))=0∨cm ((S.ah []).E (.r (.l d)))=[C.cE,z1].length:=by
  simpa using hg
 obtain ⟨R1,hm,_⟩:=Rel.sV (S:=S) (ws:=[]) (w:=w) R (m:=0) (r:=.l d) (cs:=[.cE,z1]) (vs:=z.cells) (e:=t) rfl (by simp) k3.symm hn
  (fun j x v hx hv=>(k5 j x v hx hv).rep _ _ _ _ _)
 have xA:z.cells[0]? = some (.pointer none):=by
  have af:0 < z.cells.size:=by rw [k3];simp
  obtain ⟨u,hu⟩:∃u,z.cells[0]? = some u:=⟨_,oc af⟩
  have:=(k5 0 .cE u rfl hu).rep (nm:=fun _=>none) w L (fun _=>0) (.h 0) 0;cases this;exact hu
 have hγ:S.γ (.r (.l d))+1≤(S.ah ({ k:=.b (.l d) 0,v:=.one (.bt t) } :: gf (.l d) 0 [.cE,z1] [{ k:=.r (.l d),v:=fw [C.cE,z1].length }])).γ (.r (.l d)):=by
  simp only [St.ah,gf,St.jU];simp
 have R2:Rel nm N (S.ah ({ k:=.b (.l d) 0,v:=.one (.bt t) } :: gf (.l d) 0 [.cE,z1] [{ k:=.r (.l d),v:=fw [C.cE,z1].length }])) a (w.alloc (.cells z.cells t)) (kI (.l d) [C.cE,z1].length 0 w L):=by
  refine R1.Hx { k:=.b (.l d) 0,v:=.one (.bt t) } _ rfl (fun _ h=>h) (fun _ _ _ _ _ h=>h) (fun _ _ _ h=>h) ?_ (fun B l h=>⟨l,h⟩) R1.eM (fun _ _ _ h=>h);refine ⟨.bt t,rfl,fun _=>⟨?_,?_⟩⟩
  ·simp only [gf,St.ah,St.ig];simp [qN]
  ·exact ⟨w.heap.size,0,z.cells,t,(0,0),.pointer none,yR,oD w _,fun j _=>by simp,xA,.bt ⟨_,_,rfl⟩ rfl,rfl,rfl,rfl,k3,.inl rfl⟩
 refine .val (v:=.pointer (some ⟨w.heap.size,0,none⟩)) (w':=w.alloc (.cells z.cells t)) ?_ (R2.fZ ((de.refl w L).trans hm) hd (m:=0) (.one (.ptr ⟨_,rfl⟩ hγ (fun _=>⟨_,0,yR,rfl⟩))));have:(Instr.alloc t true (.tuple #[])).run P w = .ok (.pointer (some ⟨w.heap.size,0,none⟩)) (w.alloc (.cells z.cells t)):=by
  simp [Instr.alloc,zeroValue,typeInfo,k1,k2,newVar,newRow]
 simp [execOp,ho,this]
theorem afd {S0:St} {w0:World} {L0:aw} {ws:List Wr} (M:ch nm N S0 w0 L0 ws a w L) {m:Nat} {z1:C} {vs:Array Value} {e:TypeId} (hl:[C.cE,z1].length=vs.size)
  (hx:∀(j:Nat) x v,[C.cE,z1][j]? = some x→vs[j]? = some v→aF nm w L (S0.ah ws).γ (.h m) j x v) {r:V×List Wr} (hr:(boxed d [C.cE,z1] ws).run S0=some r) {dst:Option Nat} (hd:∀d,dst=some d→d < N) :
  dP nm N S0 w0 L0 a dst r.1 ({ k:=.b (.l d) 0,v:=.one (.bt e) } :: r.2) (.pointer (some ⟨w.heap.size,0,none⟩)) (w.alloc (.cells vs e)):=by
 unfold boxed at hr;rw [Q.run_bind,uZ,Option.bind_some] at hr;obtain ⟨hg,h2⟩:=Q.ek hr;clear hr;obtain rfl:=Q.aY h2;have hn:cm ((S0.ah ws).E (.r (.l d)))=0∨cm ((S0.ah ws).E (.r (.l d)))=[C.cE,z1].length:=by simpa using hg
 obtain ⟨R1,hm,_⟩:=M.rel.sV (r:=.l d) (cs:=[.cE,z1]) (vs:=vs) (e:=e) rfl (by simp) hl hn hx;have xA:vs[0]? = some (.pointer none):=by
  have af:0 < vs.size:=by rw [←hl];simp
  obtain ⟨u,hu⟩:∃u,vs[0]? = some u:=⟨_,oc af⟩
  have:=hx 0 .cE u rfl hu;cases this;exact hu
 have hγ:S0.γ (.r (.l d))+1≤(S0.ah ({ k:=.b (.l d) 0,v:=.one (.bt e) } :: gf (.l d) 0 [.cE,z1] ({ k:=.r (.l d),v:=fw [C.cE,z1].length } :: ws))).γ (.r (.l d)):=by
  refine iQ (iQ ?_ (Bm S0 (.l d) [.cE,z1] 0 ({ k:=.r (.l d),v:=fw [C.cE,z1].length } :: ws) (.r (.l d))).2.2.2) (St.pV _ _ _);simp only [St.ah,St.jU,bV];have:=St.wO S0 ws (.r (.l d));simp;exact this
 have tV:cm ((S0.ah (gf (.l d) 0 [.cE,z1] ({ k:=.r (.l d),v:=fw [C.cE,z1].length } :: ws))).E (.r (.l d)))=2:=by
  rw [((Bm S0 (.l d) [.cE,z1] 0 ({ k:=.r (.l d),v:=fw [C.cE,z1].length } :: ws) (.r (.l d))).2.1 (fun c hc e=>by cases e)).1];simp only [St.ah,St.ig,bV,qN];rfl
 have R2:Rel nm N (S0.ah ({ k:=.b (.l d) 0,v:=.one (.bt e) } :: gf (.l d) 0 [.cE,z1] ({ k:=.r (.l d),v:=fw [C.cE,z1].length } :: ws))) a (w.alloc (.cells vs e)) (kI (.l d) [C.cE,z1].length m w L):=by
  refine R1.Hx { k:=.b (.l d) 0,v:=.one (.bt e) } _ rfl (fun _ h=>h) (fun _ _ _ _ _ h=>h) (fun _ _ _ h=>h) ?_ (fun B l h=>⟨l,h⟩) R1.eM (fun _ _ _ h=>h);refine ⟨.bt e,rfl,fun _=>⟨?_,?_⟩⟩
  ·rw [tV];omega
  ·exact ⟨w.heap.size,0,vs,e,(0,0),.pointer none,yR,oD w _,fun j _=>by simp,xA,.bt ⟨_,_,rfl⟩ rfl,rfl,rfl,rfl,hl.symm,.inl rfl⟩
 exact R2.fZ (M.mono.trans hm) hd (.one (.ptr (k:=.h 0) ⟨_,rfl⟩ hγ (fun _=>⟨_,0,yR,rfl⟩)))
theorem ah1 (R:Rel nm N S a w L) (hH:eI L) (hd:∀d,o.dst=some d→d < N) {t:TypeId} {n:Nat} {x:Operand} {X:ax.X} (hx:bR nm X x) (aS:X.iK=true) (ho:o.op = .box t x) (hn:n≠0)
  (hr:(bp Cl d (.NV t n X)).run S=some r):dw P a w o (dP nm N S w L a o.dst r.1 r.2):=by
 simp only [bp] at hr;obtain ⟨⟨v,fc⟩,h1,h2⟩:=Q.aK hr;clear hr;obtain ⟨⟨cs,fx⟩,h3,h4⟩:=Q.aK h2;clear h2;obtain ⟨hg,h5⟩:=Q.ek h4;clear h4;simp only [eV] at hg;obtain ⟨L',O,hl,hc⟩:=L9 (ch.init R) R (m:=0) (fun B q o hB e=>by have:=hH B q o hB;rw [e] at this;simp [Key.aT] at this) hx aS h1 h3 (by omega);dsimp only at h5;split at h5
 ·rename_i z eE;obtain ⟨⟨r1,wJ⟩,h6,h7⟩:=Q.aK h5;clear h5;obtain rfl:=Q.aY h7;refine .val (v:=.pointer (some ⟨w.heap.size,0,none⟩)) (w':=w.alloc (.cells (a.eval x).cells t)) ?_ (afd O.mid hl hc h6 hd);have:(Instr.box t (a.eval x)).run P w = .ok (.pointer (some ⟨w.heap.size,0,none⟩)) (w.alloc (.cells (a.eval x).cells t)):=by
   simp [Instr.box,newVar,newRow]
  simp [execOp,ho,this]
 ·cases h5
theorem aip (R:Rel nm N S a w L) (hd:∀d,o.dst=some d→d < N) {x:Operand} {X:ax.X} {t:TypeId} (hx:bR nm X x)
  (ho:o.op = .call ⟨.builtin .unsafeSliceData,#[x],#[t]⟩) (hr:(bp Cl d (.To X)).run S=some r):dw P a w o (dP nm N S w L a o.dst r.1 r.2):=by
 simp only [bp] at hr;obtain ⟨v,h1,h2⟩:=Q.aK hr;clear hr;have hv:=rd_val R hx h1;split at h2
 ·rename_i pl g sz off len;obtain ⟨hg,h3⟩:=Q.ek h2;obtain rfl:=Q.aY h3;simp only [bK,nA,eV,rR] at hg;obtain ⟨nJ,rfl⟩:=hg;cases hv.cQ with
  | view iH hh gg hV=>
   obtain ⟨b,cap,qV,hle,hb⟩:=iH;obtain ⟨ad,rfl⟩:=yI.1 hb;have xh:cap≠0:=by omega
   refine fk R hd (v:=.pointer (some ad)) ?_ (.one (.eD ⟨_,rfl⟩ hh gg ?_))
   ·rw [execOp_builtin ho,show (#[x]:Array Operand).map a.eval = #[a.eval x] from by simp,qV];exact wu (Lib.run_unsafeSliceData_row _ _ _ _ _ _ xh)
   ·intro jY;rcases hV jY with ⟨h0,_⟩ | ⟨B,o',yW,cur,e,fz,oy,_,hL,_⟩
    ·exact absurd h0 nJ
    ·rw [qV] at oy;simp only [Value.slice.injEq,aj] at oy;refine ⟨B,o',hL,?_⟩;rw [oy.1];simp
 ·cases h2
theorem anE {e:TypeId} (hc:P.cellsOf e=1) (count off n:Nat) (hn:off+n≤count):liesAt P P.depth e count off e n=true:=by
 have hd:P.depth=(2 * (P.types.size+Made.depth)+1)+1:=rfl;rw [hd];simp only [liesAt,wN];left;rw [hd];simp [rowAt,hc,hn,sameLayout];exact .inl (Nat.mod_one off)
theorem apk {pt it ty e:TypeId} (hp:P.underlying pt=some (.pointer e)) (hc:P.cellsOf e=1) {B off cells:Nat} (Ck:w.shape? B=some (e,cells)) {n:Nat} {k:IntKind} (h0:n≠0) (hn:off+n≤cells) (h63:n≤9223372036854775807) {s:ByteArray}
  (Fq:(loadBytes ⟨B,off,none⟩ .empty n).run P w = .ok s w) :
  (Builtin.unsafeString_ #[pt,it] ty #[.pointer (some ⟨B,off,none⟩),.int k n]).run P w = .ok (.string s) (w.freeze ⟨B,off,none⟩ n):=by
 have ajy:=anE (P:=P) hc (cells / P.cellsOf e) off n (by rw [hc];simpa using hn);have ai2:¬ (9223372036854775807:Int) < (n:Int):=by omega
 have Jz:IntKind.i64.max=9223372036854775807:=rfl;have ajH:¬ (n:Int) < 0:=by omega
 rw [show Builtin.unsafeString_ #[pt,it] ty #[.pointer (some ⟨B,off,none⟩),.int k n]=(asInt (.int k n) >>= _) from rfl];simp [asInt,asIntOf,Jz,ai2,ajH,h0,variablesAt,Ck,elemOf,run_underlying hp,ajy,Fq]
theorem aaM {B:Nat}:∀(n off:Nat) (acc:ByteArray) (l:List UInt8),l.length=n→(∀i b,l[i]? = some b→∃m,w.cell? ⟨B,off+i,none⟩=some (.int .u8 m)∧b=UInt8.ofNat m.toNat)→
  (loadBytes ⟨B,off,none⟩ acc n).run P w = .ok ⟨acc.data++l.toArray⟩ w
 | 0,off,acc,l,hl,h=>by
  have:l=[]:=pS.1 hl;subst this;simp [loadBytes]
 | n+1,off,acc,[],hl,h=>by cases hl
 | n+1,off,acc,b::t,hl,h=>by
  obtain ⟨m,h1,rfl⟩:=h 0 b rfl;rw [gW] at h1
  have ih := aaM (B := B) n (off + 1) (acc.push (UInt8.ofNat m.toNat)) t (by simpa using hl) (fun i b' hb => by
    obtain ⟨m', g1, g2⟩ := h (i + 1) b' (by simpa using hb)
    exact ⟨m', by rw [show off + 1 + i = off + (i + 1) by omega]; exact g1, g2⟩)
  simp only [loadBytes,Sem.run_bind,run_load,h1,Result.andThen];rw [oh];refine Eq.trans ih ?_;congr 1;apply ByteArray.ext;simp [ByteArray.push]
theorem I5 {B off n B':Nat} (h:B'≠B):(w.freeze ⟨B,off,none⟩ n).heap[B']? = w.heap[B']?:=by
 unfold World.freeze;split
 ·rfl
 ·simp only [AU];rw [az (fun e=>h e.symm)]
theorem aiO {B off n:Nat} {cur:Array Value} {e:TypeId} {fz:Nat×Nat} (h:w.heap[B]? = some (.cells cur e fz)):∃cur e fz,(w.freeze ⟨B,off,none⟩ n).heap[B]? = some (.cells cur e fz):=by
 unfold World.freeze;split
 ·exact ⟨_,_,_,h⟩
 ·simp only [AU,bV,h,fe];obtain ⟨lo,hi⟩:=fz;simp only;split<;>exact ⟨_,_,_,rfl⟩
theorem aiv (R:Rel nm N S a w L) (hd:∀d,o.dst=some d→d < N) {x y:Operand} {X Y:ax.X} {t u:TypeId} (hx:bR nm X x) (hy:bR nm Y y)
  (ho:o.op = .call ⟨.builtin .unsafeString,#[x,y],#[t,u]⟩) (ht:P.underlying t=some (.pointer 5)) (dF:P.cellsOf 5=1) (hr:(bp Cl d (.T5 X Y)).run S=some r):dw P a w o (dP nm N S w L a o.dst r.1 r.2):=by
 simp only [bp] at hr;obtain ⟨v,h1,h2⟩:=Q.aK hr;clear hr;obtain ⟨vn,h3,h4⟩:=Q.aK h2;clear h2;obtain ⟨n,h5,h6⟩:=Q.gA h4;clear h4;have hv:=rd_val R hx h1;obtain ⟨kn,hn⟩:=wT (rd_val R hy h3) h5;split at h6
 ·rename_i pl g sz i c;obtain ⟨⟨e0,x0,rows⟩,h7,h8⟩:=Q.aK h6;clear h6;obtain ⟨rfl,jY,hE,xr⟩:=ux h7;obtain ⟨hg,h9⟩:=Q.ek h8;clear h8;obtain ⟨s,hs,dj⟩:=Q.gA h9;clear h9;obtain rfl:=Q.aY dj;simp only [bK,nA,eV,rR,fy] at hg;obtain ⟨⟨⟨⟨⟨rfl,rfl⟩,rfl⟩,rfl⟩,nL⟩,Jz⟩:=hg;cases hv.cQ with
  | eD iH hh gg hp=>
   obtain ⟨B,o',hB,cu⟩:=hp jY;have M:=ch.init R;obtain ⟨u0,sJ⟩:=M.Bb hh hE xr;rcases sJ.nS with ⟨mh,_⟩ | ⟨B',eX,cap,cur,e',fz,val,_,aZ,ff,dA,cX,fM,dL,dG,Co,dM,dY⟩
   ·dsimp only at mh;subst mh;simp at nL
   obtain rfl:=R.eM B' B pl eX o' ff hB;obtain rfl:eX=o':=by rw [ff] at hB;simpa using hB
   simp only [U2,gW,uR] at cu dG;dsimp only at hs ff dA fM dL Co dY nL Jz hn;obtain ⟨hl,hb⟩:=TY rows hs
   have P6 : e' = 5 := dY (.inl (vQ.2 ⟨fun e => nL (by rw [e]; rfl), fun q hq => by
     obtain ⟨i, hi⟩ := uM hq
     obtain ⟨m, g1, g2, _⟩ := hb i (cB.1 hi).1
     rw [hi] at g2
     simp only [aj] at g2
     subst g2
     rfl⟩))
   subst P6;have Fq:(loadBytes ⟨B',eX,none⟩ .empty rows.length).run P w = .ok ⟨s.toArray⟩ w:=by
    have := aaM (P := P) (w := w) (B := B') rows.length eX .empty s hl.symm (fun i b p7 => by
      have hi : i < rows.length := by rw [hl]; exact (cB.1 p7).1
      obtain ⟨m, g1, g2, g3⟩ := hb i hi
      refine ⟨m, ?_, by rw [p7] at g3; simpa using g3⟩
      rw [qR dA]
      have h := Co i 0 _ g1
      have h2 := dM i 0 _ g1
      rw [uR, gW] at h
      rw [h]
      generalize val i 0 = vv at h2
      cases h2 with
      | plain h2 => cases h2; rfl)
    simpa using this
   have iW:=apk (P:=P) (w:=w) (ty:=o.type) (it:=u) (k:=kn) ht dF (B:=B') (off:=eX) (cells:=cur.size) (by simp [World.shape?,dA]) nL (by omega) (by omega) Fq;have O:=M.EX (m:=0) (j:=0) hh (ky true rows.length) hE xr;have oA:cI (jg pl 0 0 (ky true rows.length)) L B'=some (.row ⟨.h 0,0,[]⟩ eX):=by
    have:=gL ff (Iw (m:=0) (j:=0) (jO:=ky true rows.length) (bE.refl pl) (by rw [Ax];rfl));rwa [Ax] at this
   have PA:Rel nm N (S.ah (nj [] pl.k (sN ((S.ah []).E pl.k) pl x0))) a (w.freeze ⟨B',eX,none⟩ rows.length) (cI (jg pl 0 0 (ky true rows.length)) L):=by
    refine O.mid.rel.Ja ?_ ?_ O.mid.rel.eM O.mid.rel.fA
    ·intro B2 l dX cr;refine ⟨I5 (fun e=>?_),dX⟩;rw [e,oA] at dX;simp only [aj] at dX;have:=cr _ _ dX.symm;simp [Key.aT] at this
    ·intro B2 l dX;by_cases he:B2=B'
     ·subst he;obtain ⟨_,_,_,h3⟩:=aiO (off:=eX) (n:=rows.length) dA;exact (lG.1 h3).1
     ·exact xj (O.mid.rel.fq B2 l dX) (I5 he)
   have hM:de w (w.freeze ⟨B',eX,none⟩ rows.length) (cI (jg pl 0 0 (ky true rows.length)) L) (cI (jg pl 0 0 (ky true rows.length)) L):=by
    refine ⟨?_,?_,?_,?_,fun B2 oC=>⟨oC,I5 (fun e=>by rw [e,oA] at oC;cases oC)⟩,fun B2 _ oC=>⟨oC,I5 (fun e=>by rw [e,oA] at oC;cases oC)⟩,fun _ _ _ h=>h⟩<;>
     (unfold World.freeze;split<;>simp)
   refine .val (v:=.string ⟨s.toArray⟩) (w':=w.freeze ⟨B',eX,none⟩ rows.length) ?_ (PA.fZ (O.mid.mono.trans hM) hd (m:=0) (.one (.d (.plain .str))));rw [execOp_builtin ho,show (#[x,y]:Array Operand).map a.eval = #[a.eval x,a.eval y] from by simp,cu,hn];exact wu iW
 ·cases h6
end
end
section
section
variable {nm:FuncId→Option Nat} {N:Nat} {S S0:St} {a:Act} {w w0:World} {L L0:aw} {P:Program} {o:Oper} {Cl:bW} {d:Nat} {r:V×List Wr} {ws:List Wr}
abbrev GC (i:Nat):Place:=⟨.b (.g i) 0,0,[]⟩
theorem Rel.aiZ (h:Rel nm N S a w L) (i:Nat) (hn:cm (S.E (.r (.g i)))≤1):Rel nm N (S.wr { k:=.r (.g i),v:=fw 1 }) a w L:=by
 have bA:Step w w L L S.γ (S.wr { k:=.r (.g i),v:=fw 1 }).γ:=
  ⟨fun B hB=>⟨hB,rfl⟩,St.pV S _,fun B q o _ _ hB=>⟨hB,fun cur e fz h=>⟨cur,h,rfl⟩⟩,fun _ _ _ _ _ _ _=>rfl,fun B r o _ hB=>hB⟩
 have hE:∀k,k≠.r (.g i)→(S.wr { k:=.r (.g i),v:=fw 1 }).E k=S.E k:=fun k hk=>by rw [St.ig];simp [Ne.symm hk]
 refine ⟨h.size,h.defers,fun j=>?_,fun r c x hx hd=>?_,fun r c=>?_,fun r c hc=>?_,fun r hg hr=>?_,h.fq,h.eM,h.fA⟩
 ·rw [hE _ (by simp)];exact (h.slot j).step bA (fun B q o hq hB=>by rw [←hq,Place.l9];exact ⟨hB,rfl⟩)
 ·rw [hE _ (by simp)] at hx;exact (h.cell r c x hx hd).step bA (fun B q o _ hB=>⟨hB,rfl⟩) (fun B o hB=>⟨hB,fun cur e fz hc=>⟨cur,hc,rfl,rfl⟩⟩)
 ·rw [hE _ (by simp)];exact h.kf r c
 ·rw [hE (.b r c) (by simp)];by_cases he:r = .g i
  ·subst he;rw [St.ig] at hc;simp only [bV,qN] at hc;exact h.bound _ c (by omega)
  ·rw [hE _ (by simpa using he)] at hc;exact h.bound r c hc
 ·have he:r≠.g i:=by rintro rfl;cases hg
  rw [hE _ (by simpa using he)] at hr ⊢;exact h.room r hg hr
def oL (n i:Nat) (L:aw):aw:=fun B=>if B=n then some (.row (GC i) 0) else match L B with
 | some (.row q o)=>if q.k = .b (.g i) 0 then none else some (.row q o)
 | x=>x
theorem Ag {n i B:Nat} {l:bQ} (h:oL n i L B=some l) (hn:B≠n):L B=some l∧∀q o,l = .row q o→q.k≠.b (.g i) 0:=by
 unfold oL at h;rw [az hn] at h;split at h
 ·rename_i q o hq;split at h
  ·cases h
  ·rename_i hk;cases h;exact ⟨hq,fun q' o' e=>by cases e;exact hk⟩
 ·rename_i hx;exact ⟨h,fun q o e=>absurd (e▸h) (hx q o)⟩
theorem aaZ {n i B:Nat} {q:Place} {o':Nat} (h:L B=some (.row q o')) (hn:B≠n) (hk:q.k≠.b (.g i) 0):oL n i L B=some (.row q o'):=by
 unfold oL;rw [az hn,h];simp [hk]
theorem RG {n i B:Nat} {q:aI} {o':Nat} (h:L B=some (.box q o')) (hn:B≠n):oL n i L B=some (.box q o'):=by
 unfold oL;rw [az hn,h]
theorem aaY {n i B:Nat} (h:L B=some .bh) (hn:B≠n):oL n i L B=some .bh:=by
 unfold oL;rw [az hn,h]
theorem anK {n i B:Nat} (h:L B=none) (hn:B≠n):oL n i L B=none:=by
 unfold oL;rw [az hn,h]
theorem Rel.anL (h:Rel nm N S a w L) (i:Nat) (hn:0 < cm (S.E (.r (.g i)))) :
  Rel nm N (S.wr { k:=.b (.g i) 0,v:=.one (.mp (.sl (.im false) 2 [])) }) a (w.alloc (.map #[] 0)) (oL w.heap.size i L)∧de w (w.alloc (.map #[] 0)) L (oL w.heap.size i L):=by
 have af:∀{B l},L B=some l→B≠w.heap.size:=fun {B l} hB=>Nat.ne_of_lt (h.fq B l hB)
 have ej:∀{B l},L B=some l→(w.alloc (.map #[] 0)).heap[B]? = w.heap[B]?:=fun hB=>mV w _ (af hB)
 have hz:(w.alloc (.map #[] 0)).heap.size=w.heap.size+1:=by simp
 have zJ:oL w.heap.size i L w.heap.size=some (.row (GC i) 0):=by unfold oL;rw [aJ rfl]
 refine ⟨h.write _ rfl h.defers (fun _ _ => rfl) ⟨fun B hB => ⟨aaY hB (af hB), ej hB⟩, St.pV S _, ?_, fun B q o _ _ _ hB => ej hB, fun B r o _ hB => RG hB (af hB)⟩
   (fun B q o hk _ hB => ⟨aaZ hB (af hB) hk, ej hB⟩) (fun B r o _ hB => ⟨RG hB (af hB), fun cur e fz hc => ⟨cur, (ej hB).trans hc, rfl, fun _ _ => rfl⟩⟩) ?_ ?_ ?_ ?_, ?_⟩
 ·intro B q o hq hγ hB;refine ⟨aaZ hB (af hB) (fun e=>?_),fun cur e fz hc=>⟨cur,(ej hB).trans hc,rfl⟩⟩;rw [St.jU,e] at hγ;simp at hγ
 ·exact ⟨_,rfl,fun _=>⟨hn,.map (some w.heap.size),.mp ⟨w.heap.size,#[],0,rfl,zJ,oD w _,false,[],[],rfl,rfl,rfl⟩⟩⟩
 ·intro B l hB;rw [hz];by_cases he:B=w.heap.size
  ·omega
  ·exact Nat.lt_succ_of_lt (h.fq B l (Ag hB he).1)
 ·intro B B' pl o o' h1 h2;by_cases he:B=w.heap.size
  ·by_cases c6:B'=w.heap.size
   ·rw [he,c6]
   ·rw [he,zJ] at h1;simp only [aj,bQ.row.injEq] at h1;exact absurd (by rw [←h1.1]) ((Ag h2 c6).2 _ _ rfl)
  ·by_cases c6:B'=w.heap.size
   ·rw [c6,zJ] at h2;simp only [aj,bQ.row.injEq] at h2;exact absurd (by rw [←h2.1]) ((Ag h1 he).2 _ _ rfl)
   ·exact h.eM B B' pl o o' (Ag h1 he).1 (Ag h2 c6).1
 ·intro B B' q o o' h1 h2;by_cases he:B=w.heap.size
  ·rw [he,zJ] at h1;cases h1
  ·by_cases c6:B'=w.heap.size
   ·rw [c6,zJ] at h2;cases h2
   ·exact h.fA B B' q o o' (Ag h1 he).1 (Ag h2 c6).1
 ·exact ⟨rfl,rfl,rfl,by rw [hz];omega,fun B hB=>⟨aaY hB (af hB),ej hB⟩,fun B hl hB=>⟨anK hB (by omega),mV w _ (by omega)⟩,fun B j o hB=>RG hB (af hB)⟩
theorem aik (R:Rel nm N S a w L) (hd:∀d,o.dst=some d→d < N) {t:TypeId} (ho:o.op = .makeMap t none) (hr:(bp Cl d .RM).run S=some r):dw P a w o (dP nm N S w L a o.dst r.1 r.2):=by
 simp only [bp] at hr;obtain ⟨hg,h1⟩:=Q.ek (Q.ni (Q.ni hr));obtain rfl:=Q.aY h1;have R1:=R.aiZ d (by simpa [St.E] using hg);obtain ⟨R2,hm⟩:=R1.anL d (by rw [St.ig];simp [qN])
 refine .val (v := .map (some w.heap.size)) (w' := w.alloc (.map #[] 0)) ?_ (Rel.fZ (ws := [{ k := .b (.g d) 0, v := .one (.mp (.sl (.im false) 2 [])) }, { k := .r (.g d), v := fw 1 }]) R2 hm hd (m := 0)
   (.one (.gk ⟨_, rfl⟩ ?_ (fun _ => ⟨w.heap.size, by unfold oL; rw [aJ rfl], rfl⟩))))
 ·have:(Instr.makeMap t none).run P w = .ok (.map (some w.heap.size)) (w.alloc (.map #[] 0)):=by
   simp [Instr.makeMap,newObj];rfl
  simp [execOp,ho,this]
 ·simp only [St.ah,St.jU];simp [St.γ]
theorem Rel.anM (h:Rel nm N S a w L) {i B:Nat} {es xb:Array MapEntry} {ck w5:Nat} {x':D} {w':World} (hL:L B=some (.row (GC i) 0)) (hB:w.heap[B]? = some (.map es ck)) (hb:0 < cm (S.E (.r (.g i)))) (hx:HU x' xb)
  (zK:w'.heap[B]? = some (.map xb w5)) (ho:∀B',B'≠B→w'.heap[B']? = w.heap[B']?) (aZ:w.heap.size≤w'.heap.size) (xq:w'.os=w.os∧w'.tape=w.tape∧w'.output=w.output) :
  Rel nm N (S.ah [{ k:=.b (.g i) 0,v:=.one (.mp x'),keep:=true },{ k:=.a (.b (.g i) 0),v:=V.dead }]) a w' L∧de w w' L L:=by
 have aB:∀{B' l},L B'=some l→l≠.row (GC i) 0→w'.heap[B']? = w.heap[B']?:=by
  intro B' l hl hn;refine ho B' (fun e=>?_);rw [e,hL] at hl;exact hn (by simpa using hl.symm)
 have hE:∀k,(∀k',k≠.a k')→k≠.b (.g i) 0→(S.ah [{ k:=.b (.g i) 0,v:=.one (.mp x'),keep:=true },{ k:=.a (.b (.g i) 0),v:=V.dead }]).E k=S.E k:=by
  intro k h1 h2;simp only [St.ah,St.ig];rw [az (Ne.symm h2),az (Ne.symm (h1 _))]
 have Yt:(S.ah [{ k:=.b (.g i) 0,v:=.one (.mp x'),keep:=true },{ k:=.a (.b (.g i) 0),v:=V.dead }]).E (.b (.g i) 0) = .one (.mp x'):=by
  simp only [St.ah,St.ig,bV]
 have hγ:∀k,(S.ah [{ k:=.b (.g i) 0,v:=.one (.mp x'),keep:=true },{ k:=.a (.b (.g i) 0),v:=V.dead }]).γ k=if k = .a (.b (.g i) 0) then S.γ k+1 else S.γ k:=by
  intro k;simp only [St.ah,St.jU];by_cases h1:Key.b (.g i) 0=k
  ·subst h1;simp
  ·by_cases h2:k = .a (.b (.g i) 0)
   ·subst h2;simp
   ·simp [h1,h2,Ne.symm h2]
 generalize St.ah S [{ k:=.b (.g i) 0,v:=.one (.mp x'),keep:=true },{ k:=.a (.b (.g i) 0),v:=V.dead }]=S' at *;have bA:Step w w' L L S.γ S'.γ:=by
  refine ⟨fun B' dA=>⟨dA,aB dA (by simp)⟩,fun k=>?_,?_,?_,fun _ _ _ _ dA=>dA⟩
  ·rw [hγ];split<;>omega
  ·intro B' q o hq _ hl;refine ⟨hl,fun cur e fz hc=>?_⟩;by_cases he:B'=B
   ·rw [he,hB] at hc;cases hc
   ·exact ⟨cur,(ho B' he).trans hc,rfl⟩
  ·intro B' q o hq _ Cq hl;refine aB hl (fun e=>?_);simp only [bQ.row.injEq] at e;rw [hγ,e.1,aJ rfl] at Cq;omega
 have lx:∀{B' q o},q.k≠.b (.g i) 0→L B'=some (.row q o)→w'.heap[B']? = w.heap[B']?:=fun hq hl=>aB hl (fun e=>by simp only [bQ.row.injEq] at e;exact hq (by rw [e.1]))
 refine ⟨⟨h.size,h.defers,fun j=>?_,fun r c y hy ji=>?_,fun r c=>?_,fun r c hc=>?_,fun r hg hr=>?_,fun B' l hl=>?_,h.eM,h.fA⟩,?_⟩
 ·rw [hE _ (by simp) (by simp)];exact (h.slot j).step bA (fun B' q o hq hl=>by rw [←hq,Place.l9];exact ⟨hl,lx (by rw [hq];simp) hl⟩)
 ·by_cases he:Key.b r c = .b (.g i) 0
  ·rw [he,Yt] at hy;cases hy;simp only [Key.b.injEq] at he;obtain ⟨rfl,rfl⟩:=he;exact ⟨.map (some B),.mp ⟨B,xb,w5,rfl,hL,zK,hx⟩⟩
  ·rw [hE _ (by simp) he] at hy;exact (h.cell r c y hy ji).step bA (fun B' q o hq hl=>⟨hl,lx (by rw [hq];exact he) hl⟩) (fun B' o hl=>⟨hl,fun cur e fz hc=>⟨cur,(aB hl (by simp)).trans hc,rfl,rfl⟩⟩)
 ·by_cases he:Key.b r c = .b (.g i) 0
  ·rw [he,Yt];exact ⟨_,rfl⟩
  ·rw [hE _ (by simp) he];exact h.kf r c
 ·rw [hE (.r r) (by simp) (by simp)] at hc;by_cases he:Key.b r c = .b (.g i) 0
  ·simp only [Key.b.injEq] at he;obtain ⟨rfl,rfl⟩:=he;omega
  ·rw [hE _ (by simp) he];exact h.bound r c hc
 ·rw [hE (.r r) (by simp) (by simp)] at hr ⊢;obtain ⟨B',o,cur,e,fz,h1,h2,h3,h4⟩:=h.room r hg hr;exact ⟨B',o,cur,e,fz,h1,(aB h1 (by simp)).trans h2,h3,h4⟩
 ·exact HM (h.fq B' l hl) aZ
 ·exact ⟨xq.1,xq.2.1,xq.2.2,aZ,fun B' dA=>⟨dA,aB dA (by simp)⟩,fun B' _ hl=>⟨hl,ho B' (fun e=>by rw [e,hL] at hl;cases hl)⟩,fun _ _ _ hl=>hl⟩
theorem Rel.aaX (R:Rel nm N S a w L) {i g:Nat} {k:Key} {j:Nat} {v:Value} {x:D} (hv:aF nm w L S.γ k j (.gk i g) v) (hE:(S.get (.b (.g i) 0)).v = .one (.mp x)) (hg:(S.get (.b (.g i) 0)).g=g) :
  ∃B es ck,v = .map (some B)∧L B=some (.row (GC i) 0)∧w.heap[B]? = some (.map es ck)∧HU x es∧0 < cm (S.E (.r (.g i))):=by
 cases hv with
 | gk iH gg h=>
  obtain ⟨B,h1,h2⟩:=h hg.symm;obtain ⟨u,hu⟩:=R.cell (.g i) 0 (.mp x) hE (by simp);cases hu with
  | mp h3=>
   obtain ⟨B',es,ck,_,g1,g2,g3⟩:=h3;have PN:=R.eM B B' _ _ _ h1 g1;subst PN;refine ⟨B,es,ck,h2,h1,g2,g3,?_⟩;rcases Ni (cm (S.E (.r (.g i)))) with h0 | h0
   ·have:=R.bound (.g i) 0 (by omega);unfold St.E at this;rw [hE] at this;cases this
   ·exact h0
theorem ZL {t:Option TypeDesc} (h:FP t=true):t=some .string:=by
 unfold FP at h;split at h
 ·rfl
 ·cases h
theorem aq4 {e:TypeId} (h:M6 P e=true):∃i,P.info? e=some i∧i.zero=some (.bool false):=by
 unfold M6 at h;split at h
 ·rename_i i hi;split at h
  ·exact ⟨i,hi,by assumption⟩
  ·cases h
 ·cases h
theorem VH {s t:List UInt8}:((⟨s.toArray⟩:ByteArray)==⟨t.toArray⟩)=(s==t):=by
 show (s.toArray==t.toArray)=_;simp
theorem Pf {s:List UInt8}:∀(l:List (List UInt8×Bool)) (es:List MapEntry) (n:Nat),es.map (fun e=>(e.key,e.val))=l.map (fun p=>(Value.string ⟨p.1.toArray⟩,Value.bool p.2))→
  ∃ x, Instr.findNow .string (.string ⟨s.toArray⟩) es n = some x ∧ (match x with
    | some (m, v) => n ≤ m ∧ v = .bool (qp (l.map fun p => [.str p.1, .bool p.2]) s) ∧ m - n < l.length ∧ (∃ e, es[m - n]? = some e ∧ e.key = .string ⟨s.toArray⟩) ∧
        ∀ b, qq (l.map fun p => [.str p.1, .bool p.2]) s b = (l.set (m - n) (s, b)).map fun p => [.str p.1, .bool p.2]
    | none => qp (l.map fun p => [.str p.1, .bool p.2]) s = false ∧ ∀ b, qq (l.map fun p => [.str p.1, .bool p.2]) s b = (l ++ [(s, b)]).map fun p => [.str p.1, .bool p.2])
 | [],es,n,h=>by
  have:es=[]:=by simpa using h
  subst this;exact ⟨none,rfl,rfl,fun b=>rfl⟩
 | p::l,es,n,h=>by
  cases es with
  | nil=>cases h
  | cons e es=>
   simp only [fS,qH,fJ] at h;obtain ⟨⟨h1,h2⟩,h3⟩:=h;have ajJ:Instr.findNow .string (.string ⟨s.toArray⟩) (e::es) n=if (s==p.1)=true then some (some (n,e.val)) else Instr.findNow .string (.string ⟨s.toArray⟩) es (n+1):=by
    simp only [Instr.findNow,h1,Instr.sameNow,VH];cases hb:s==p.1<;>rfl
   rw [ajJ];by_cases he:s=p.1
   ·subst he;refine ⟨some (n,e.val),by simp,bT n,by rw [h2];simp [qp],by simp,⟨e,by simp,h1⟩,fun b=>by simp [qq]⟩
   ·have PO:(s==p.1)=false:=rR.2 he;obtain ⟨x,g1,g2⟩:=Pf (s:=s) l es (n+1) h3;refine ⟨x,by simp [PO,g1],?_⟩;have hg:qp ([D.str p.1,D.bool p.2]::l.map fun p=>[.str p.1,.bool p.2]) s=qp (l.map fun p=>[.str p.1,.bool p.2]) s:=by simp [qp,PO]
    have hp:∀b,qq ([D.str p.1,D.bool p.2]::l.map fun p=>[.str p.1,.bool p.2]) s b=[D.str p.1,D.bool p.2]::qq (l.map fun p=>[.str p.1,.bool p.2]) s b:=fun b=>by simp [qq,PO]
    simp only [fS];cases x with
    | none=>
     obtain ⟨k1,k2⟩:=g2;exact ⟨by rw [hg];exact k1,fun b=>by rw [hp,k2];rfl⟩
    | some y=>
     obtain ⟨m,v⟩:=y;obtain ⟨k1,k2,k3,⟨e',k4,k5⟩,k6⟩:=g2;have hm:m - n=(m - (n+1))+1:=by omega
     refine ⟨by omega,by rw [hg];exact k2,by simp only [gp];omega,⟨e',by rw [hm];simpa using k4,k5⟩,fun b=>?_⟩;rw [hp,k6,hm];rfl
theorem anP {t:TypeId} {P:Program} {w:World} {b:Bool} {s:ByteArray} (n:Nat) (h:P.underlying t=some .string):(Instr.checkKey b (n+1) t (.string s)).run P w = .ok () w:=by
 simp [Instr.checkKey,run_underlying h]
theorem LA {t:TypeId} {P:Program} {w:World} {b:Bool} {s:ByteArray} (h:P.underlying t=some .string):(Instr.checkKey b 10000 t (.string s)).run P w = .ok () w:=anP 9999 h
theorem aif (R:Rel nm N S a w L) (hd:∀d,o.dst=some d→d < N) {x y:Operand} {X Y:ax.X} {t kt e:TypeId} (hx:bR nm X x) (hy:bR nm Y y) (ho:o.op = .lookup t x y false)
  (ht:P.underlying t=some (.map kt e)) (hk:P.underlying kt=some .string) (hz:M6 P e=true) (hr:(bp Cl d (.RH X Y)).run S=some r):dw P a w o (dP nm N S w L a o.dst r.1 r.2):=by
 simp only [bp] at hr;obtain ⟨v,h1,h2⟩:=Q.aK hr;obtain ⟨u,h3,h4⟩:=Q.aK h2;have hv:=rd_val R hx h1;have hu:=rd_val R hy h3;clear hr h2;split at h4
 ·rename_i i g s;have h5:=Q.ni h4;split at h5
  ·rename_i tg sz rows hE;obtain ⟨hg,h6⟩:=Q.ek h5;obtain rfl:=Q.aY h6;obtain ⟨B,es,ck,g1,g2,g3,⟨tb,uA,l,g4,g5,g6⟩,g7⟩:=R.aaX hv.cQ hE (by simpa using hg);simp only [D.sl.injEq] at g4;obtain ⟨_,_,rfl⟩:=g4;subst g5;have hs:=hu.cQ.rE;obtain ⟨f,k1,k2⟩:=Pf (s:=s) l es.toList 0 g6;have Fa:(Instr.findKey kt (.string ⟨s.toArray⟩) es.toList).run P w = .ok f w:=by
    simp [Instr.findKey,run_underlying hk,k1]
   refine fk R hd (v:=.bool (qp (l.map fun p=>[.str p.1,.bool p.2]) s)) ?_ (.one (.d (.plain .bool)));have:(Instr.lookup t (a.eval x) (a.eval y) false).run P w = .ok (.bool (qp (l.map fun p=>[.str p.1,.bool p.2]) s)) w:=by
    rw [g1,hs];simp only [Instr.lookup];cases f with
    | some f=>
     obtain ⟨m,fv⟩:=f;simp only at k2;simp [run_underlying ht,getObj,Sem.run,g3,LA hk,Fa,k2.2.1]
    | none=>
     simp only at k2;obtain ⟨i,hi,QU⟩:=aq4 hz;simp [run_underlying ht,getObj,Sem.run,g3,LA hk,Fa,k2.1,zeroValue,typeInfo,hi,QU]
   simp [execOp,ho,this]
  ·cases h5
 ·cases h4
theorem aa2 {α β:Type} {f:α→α} {g:α→β} {y:β}:∀(l:List α) (i:Nat),(∀x,g (f x)=y)→(l.modify i f).map g=(l.map g).set i y
 | [],i,h=>by simp
 | x::l,0,h=>by simp [h]
 | x::l,i+1,h=>by simp [aa2 l i h]
theorem aim (R:Rel nm N S a w L) (hd:∀d,o.dst=some d→d < N) {x y z:Operand} {X Y Z:ax.X} {t kt e:TypeId} (hx:bR nm X x) (hy:bR nm Y y) (hz:bR nm Z z) (ho:o.op = .mapUpdate t x y z)
  (ht:P.underlying t=some (.map kt e)) (hk:P.underlying kt=some .string) (hr:(bp Cl d (.RO X Y Z)).run S=some r):dw P a w o (dP nm N S w L a o.dst r.1 r.2):=by
 simp only [bp] at hr;obtain ⟨v,h1,h2⟩:=Q.aK hr;obtain ⟨u,h3,h4⟩:=Q.aK h2;obtain ⟨q,h5,h6⟩:=Q.aK h4;have hv:=rd_val R hx h1;have hu:=rd_val R hy h3;have hq:=rd_val R hz h5;clear hr h2 h4;split at h6
 ·rename_i i g s b;have h7:=Q.ni h6;split at h7
  ·rename_i tg sz rows hE;obtain ⟨hg,h8⟩:=Q.ek h7;obtain rfl:=Q.aY h8;obtain ⟨B,es,ck,g1,g2,g3,⟨tb,uA,l,g4,g5,g6⟩,g7⟩:=R.aaX hv.cQ hE (by simpa using hg);simp only [D.sl.injEq] at g4;obtain ⟨_,_,rfl⟩:=g4;subst g5;have hs:=hu.cQ.rE;have hb:=aF.r7 hq.cQ;obtain ⟨f,k1,k2⟩:=Pf (s:=s) l es.toList 0 g6;have Fa:(Instr.findKey kt (.string ⟨s.toArray⟩) es.toList).run P w = .ok f w:=by
    simp [Instr.findKey,run_underlying hk,k1]
   have ai4:B < w.heap.size:=(lG.1 g3).1;have fin:∀xb w5,HU (.sl (.im false) 2 (qq (l.map fun p=>[.str p.1,.bool p.2]) s b)) xb→
     (Instr.mapUpdate t (a.eval x) (a.eval y) (a.eval z)).run P w = .ok () { w with heap:=w.heap.setIfInBounds B (.map xb w5) }→
     dw P a w o (dP nm N S w L a o.dst (.aq []) [{ k:=.b (.g i) 0,v:=.one (.mp (.sl (.im false) 2 (qq (l.map fun p=>[.str p.1,.bool p.2]) s b))),keep:=true },{ k:=.a (.b (.g i) 0),v:=V.dead }]):=by
    intro xb w5 hm iW;obtain ⟨R',Y6⟩:=R.anM (w':={ w with heap:=w.heap.setIfInBounds B (.map xb w5) }) (w5:=w5) g2 g3 g7 hm (by simp [ai4]) (fun B' aB=>by simp [wM,Ne.symm aB]) (by simp) ⟨rfl,rfl,rfl⟩;refine .skip ?_ (R'.fZ Y6 hd (m:=0) (.aq (us:=#[]) rfl rfl (fun i x u h=>by simp at h)));simp [execOp,ho,iW]
   cases f with
   | some f=>
    obtain ⟨m,fv⟩:=f;simp only [D0] at k2;obtain ⟨k3,k4,k5,⟨e',k6,k7⟩,k8⟩:=k2;have k6':es[m]? = some e':=by simpa using k6
    refine fin (es.modify m fun e=>{ e with key:=.string ⟨s.toArray⟩,val:=.bool b }) ck ⟨false,_,_,rfl,k8 b,?_⟩ ?_
    ·rw [Array.toList_modify,aa2 (g:=fun e:MapEntry=>(e.key,e.val)) (y:=(Value.string ⟨s.toArray⟩,Value.bool b)) _ _ (fun _=>rfl),g6,AY]
    ·have ajW:(Instr.keyThatStays (.string ⟨s.toArray⟩) (.string ⟨s.toArray⟩)).run P w = .ok (.string ⟨s.toArray⟩) w:=by
      simp [Instr.keyThatStays,Instr.sameBits,VH]
     rw [g1,hs,hb];simp [Instr.mapUpdate,run_underlying ht,getObj,setObj,Sem.run,g3,LA hk,Fa,k6',k7,ajW]
   | none=>
    simp only at k2;refine fin (es.push { key:=.string ⟨s.toArray⟩,val:=.bool b,born:=ck }) (ck+1) ⟨false,_,_,rfl,k2.2 b,?_⟩ ?_
    ·simp [g6]
    ·rw [g1,hs,hb];simp [Instr.mapUpdate,run_underlying ht,getObj,setObj,Sem.run,g3,LA hk,Fa]
  ·cases h7
 ·cases h6
end
end
section
section
variable {nm:FuncId→Option Nat} {N:Nat} {S S0:St} {a:Act} {w w0:World} {L L0:aw} {P:Program} {o:Oper} {Cl:bW} {d:Nat} {r:V×List Wr} {ws:List Wr}
theorem X3:∀(vs:List (Nat×Value)) (cells:Array Value) (k:Nat),(∀(j:Nat) p,vs[j]? = some p→p.1=k+j∧p.2.cells = #[p.2])→k+vs.length=cells.size→
  ∃Ix,Instr.fill (fun i=>some (i * 1,1)) cells vs=some Ix∧Ix.size=cells.size∧(∀i,i < k→Ix[i]? = cells[i]?)∧∀(j:Nat) p,vs[j]? = some p→Ix[k+j]? = some p.2
 | [],cells,k,_,_=>⟨cells,rfl,rfl,fun i _=>rfl,fun j p h=>by simp at h⟩
 | (i,v)::t,cells,k,h,hl=>by
  obtain ⟨h1,h2⟩:=h 0 (i,v) rfl;simp only [gW] at h1;subst h1;simp only [gp] at hl;have h2:v.cells = #[v]:=h2
  obtain ⟨c', g1, g2, g3, g4⟩ := X3 t (cells.setIfInBounds (i * 1 + 0) v) (i + 1) (fun j p hj => by
    obtain ⟨q1, q2⟩ := h (j + 1) p (by simpa using hj)
    exact ⟨by omega, q2⟩) (by simp; omega)
  refine ⟨c',?_,by rw [g2];simp,fun j hj=>?_,fun j p hj=>?_⟩
  ·simp only [Instr.fill,h2];rw [az (by simp;omega)];simpa using g1
  ·rw [g3 j (by omega),yA (by omega)]
  ·cases j with
   | zero=>
    simp only [kD,aj] at hj;subst hj;rw [gW,g3 i (by omega),uR,gW,Array.getElem?_setIfInBounds_self_of_lt (by omega)]
   | succ j=>
    have:=g4 j p (by simpa using hj);rw [←this];congr 1;omega
theorem Xw:∀{ps:List (Nat×ax.X)} {qs:List (Nat×Operand)},A2 nm ps qs→ps.length=qs.length∧∀(j:Nat) X x,ps[j]? = some X→qs[j]? = some x→X.1=x.1∧bR nm X.2 x.2∧X.2.iK=true
 | [],[],_=>⟨rfl,fun j X x h=>by simp at h⟩
 | (i,X)::t,(i',x)::t',h=>by
  obtain ⟨h1,h2,h3,h4⟩:=h;obtain ⟨g1,g2⟩:=Xw h4;refine ⟨by simp [g1],fun j Y y hY hy=>?_⟩;cases j with
  | zero=>
   simp only [kD,aj] at hY hy;subst hY;subst hy;exact ⟨h1,h2,h3⟩
  | succ j=>exact g2 j Y y (by simpa using hY) (by simpa using hy)
 | [],_::_,h=>h.elim
 | (_,_)::_,[],h=>h.elim
theorem aj6 {γ:Key→Nat} {k:Key} {j:Nat} {c:C} {v:Value} (h:aF nm w L γ k j c v) (hf:c.ZJ=true):v.cells = #[v]:=by
 cases h with
 | fn=>rfl
 | fns val hf'=>
  have:=JT hf;rcases hf' with ⟨h,_⟩ | ⟨h,_⟩<;>exact absurd this (by omega)
 | _=>cases hf
theorem ah' (R:Rel nm N S a w L) (hH:eI L) (hd:∀d,o.dst=some d→d < N) {t e:TypeId} {len:Nat} {parts:Array (Nat×Operand)} {zs:List C} {ps:List (Nat×ax.X)} (ho:o.op = .buildSlice t len parts) (ht:P.underlying t=some (.slice e)) (hz:pQ P e=some zs) (ZD:zs.length=1)
  (Zq:len≤2 ^ 24) (qf:ps.map (·.1)=List.range len) (hp:A2 nm ps parts.toList)
  (hr:(bp Cl d (.Pk (ps.map (·.2)))).run S=some r):dw P a w o (dP nm N S w L a o.dst r.1 r.2):=by
 simp only [bp] at hr;obtain ⟨⟨cs,fc⟩,h1,h2⟩:=Q.aK hr;clear hr;obtain ⟨hf,h2⟩:=Q.ek h2;obtain rfl:=Q.aY h2;obtain ⟨i,z,k1,k2,k3,k4,k5⟩:=AS hz;obtain ⟨e1,e2⟩:=Xw hp;have cr:ps.length=len:=by have:=fW List.length qf;simpa using this
 obtain ⟨L1, O1, jI, dF, R1⟩ := I4 R (ps.map (·.2)) (parts.toList.map (·.2)) (ch.init R) (by simpa using e1) (fun j X x hX hx => by
   rw [bO] at hX hx
   cases BU : ps[j]? with
   | none => simp [BU] at hX
   | some X' =>
     cases fG : parts.toList[j]? with
     | none => rw [fG] at hx; simp at hx
     | some x' =>
       rw [BU] at hX; rw [fG] at hx
       simp only [fe, aj] at hX hx
       subst hX; subst hx
       exact (e2 j X' x' BU fG).2) h1
 have Ju:cs.length=len:=by have:cs.length=(ps.map (·.2)).length:=jI;rw [this,cf,cr]
 have cu:∀(j:Nat) (p:Nat×Value),(parts.toList.map fun p=>(p.1,a.eval p.2))[j]? = some p→p.1=0+j∧p.2.cells = #[p.2]:=by
  intro j p hj;rw [bO] at hj;cases fG:parts.toList[j]? with
  | none=>rw [fG] at hj;simp at hj
  | some x'=>
   rw [fG] at hj;simp only [fe,aj] at hj;subst hj;have Y0:j < ps.length:=by rw [e1];exact (cB.1 fG).1
   have BU:ps[j]? = some ps[j]:=ke Y0;have q1:=(e2 j _ x' BU fG).1;have q2:(ps.map (·.1))[j]? = some ps[j].1:=by rw [bO,BU];rfl
   rw [qf,HF (by omega)] at q2;simp only [aj] at q2;have hc:cs[j]? = some (cs[j]'(by omega)):=ke (by omega);have hr:=R1 j _ x'.2 hc (by rw [bO,fG];rfl);exact ⟨by show x'.1=0+j;omega,aj6 hr (lH.1 hf _ (bL ..))⟩
 have arn:parts.toList.length=len:=by omega
 obtain ⟨c',g1,g2,g3,g4⟩:=X3 (parts.toList.map fun p=>(p.1,a.eval p.2)) (madeCells z.cells (len * 1)) 0 cu (by rw [size_madeCells,cf];omega);obtain ⟨hR,hM,bA⟩:=O1.mid.rel.RW c' e;have hi:i.size=1:=by omega
 have run:(execOp a.eval o).run P w = .ok (.value (.slice (some ⟨w.heap.size,0,none⟩) len len)) (w.alloc (.cells c' e)):=by
  have:(Instr.buildSlice t len (parts.map fun (i,x)=>(i,a.eval x))).run P w = .ok (.slice (some ⟨w.heap.size,0,none⟩) len len) (w.alloc (.cells c' e)):=by
   have zE:(parts.map fun (i,x)=>(i,a.eval x)).toList=parts.toList.map fun p=>(p.1,a.eval p.2):=by simp
   simp only [uR] at g1;unfold Instr.buildSlice;simp only [Sem.run_bind,run_underlying ht,Result.andThen_ok,sizeOf,typeInfo,run_program,k1,Sem.run_pure,hi,uR];have sB:¬ (len > 2 ^ 24):=by omega
   by_cases h0:len=0
   ·have B9:madeCells z.cells len = #[]:=by rw [h0];simp [madeCells]
    rw [B9] at g1;simp only [sB,dE,h0,bV,Sem.run_pure,Result.andThen_ok,Sem.run_bind];simp only [Array.range_zero',zE];simp [g1,newRow]
   ·simp only [sB,dE,h0,Sem.run_bind,zeroValue,typeInfo,run_program,k1,k2,Result.andThen_ok,Sem.run_pure];have Qr:((Array.range len).map fun x=>z.cells[x % z.cells.size]!)=madeCells z.cells len:=rfl;simp [zE,Qr,g1,newRow]
  simp [execOp,ho,this]
 refine .val (v:=.slice (some ⟨w.heap.size,0,none⟩) len len) (w':=w.alloc (.cells c' e)) run (hR.fZ (O1.mid.mono.trans hM) hd (m:=0) (.one ?_));refine .fns (B:=w.heap.size) (o:=0) (cap:=len) (cur:=c') (e:=e) (fz:=(0,0)) (fun j=>c'.getD j undef) (.inl ⟨rfl,by rw [Ju],Nat.le_of_eq Ju⟩) (aw.la _ _ _) (oD w _) dF ?_ ?_
 ·intro j hj;have hj:j < cs.length:=hj;have vw:j < c'.size:=by rw [g2,size_madeCells];omega
  rw [dc];simp [iw,vw]
 ·intro j x hx;have Y0:j < len:=by rw [←Ju];exact (cB.1 hx).1
  have fG:parts.toList[j]? = some (parts.toList[j]'(by omega)):=ke (by omega);have hr:=R1 j x _ hx (by rw [bO,fG];rfl);have hv:=g4 j (_,a.eval (parts.toList[j]'(by omega)).2) (by rw [bO,fG];rfl);rw [dc] at hv;have:c'.getD j undef=a.eval (parts.toList[j]'(by omega)).2:=by simp [iw,hv]
  rw [this];exact hr.rD bA (kj dF hx) _ _
end
end
section
def GI (G:Nat→Option Obj) (w:World) (L:aw):Prop:=∀B c,G B=some c→L B=some .bh∧w.heap[B]? = some c
theorem GI.mono {G:Nat→Option Obj} {w w':World} {L L':aw} (h:GI G w L) (m:de w w' L L'):GI G w' L':=
 fun B c hB=>⟨(m.bh B (h B c hB).1).1,(m.bh B (h B c hB).1).2.trans (h B c hB).2⟩
theorem GI.none (w:World) (L:aw):GI (fun _=>Option.none) w L:=fun _ _ h=>by cases h
section
variable {nm:FuncId→Option Nat} {G:Nat→Option Obj} {N:Nat} {S:St} {a:Act} {w:World} {L:aw} {P:Program} {o:Oper} {Cl:bW} {d:Nat} {r:V×List Wr} {hh:Hint}
def wQ (P:Program) (nm:FuncId→Option Nat) (G:Nat→Option Obj) (Cl:bW):Prop:=
 ∀{N:Nat} {S:St} {a:Act} {w:World} {L:aw} {o:Oper} {d:Nat} {r:V×List Wr} {c:Call} {f:Operand} {F:X} {xs:List (Bool×X)},Rel nm N S a w L→eI L→GI G w L→(∀d,o.dst=some d→d < N)→o.op = .call c→c.callee = .value f→bR nm F f→F.iK=true→
  xs.length=c.args.toList.length→(∀(j:Nat) x y,xs[j]? = some x→c.args.toList[j]? = some y→bR nm x.2 y∧x.2.iK=true)→(bp Cl d (.call F xs)).run S=some r→dw P a w o (dP nm N S w L a o.dst r.1 r.2)
theorem bind_some {α β:Type} {x:Option α} {f:α→Option β} {r:β} (h:(x >>= f)=some r):∃y,x=some y∧f y=some r:=by
 cases x with
 | none=>cases h
 | some y=>exact ⟨y,rfl,h⟩
theorem bG {α β:Type} {x:Option α} {f:α→β} {r:β} (h:x.map f=some r):∃y,x=some y∧r=f y:=by
 cases x with
 | none=>cases h
 | some y=>exact ⟨y,rfl,by simpa using h.symm⟩
theorem OX {e:TypeId}:∀(ps:List (Nat×Operand)) {xs:List (Nat×X)},ps.mapM (IE P nm hh e)=some xs→A2 nm xs ps
 | [],xs,h=>by
  have:xs=[]:=by simpa using h.symm
  subst this;trivial
 | p::ps,xs,h=>by
  rw [mI] at h;obtain ⟨y,h1,h2⟩:=bind_some h;obtain ⟨ys,h3,h4⟩:=bind_some h2;have:xs=y::ys:=by simpa using h4.symm
  subst this;unfold IE at h1;obtain ⟨x,h5,rfl⟩:=bG h1;obtain ⟨g1,g2⟩:=u6 h5;exact ⟨rfl,g1,g2,OX ps h3⟩
theorem abI {fs:Array Field}:∀(ps:List (Nat×Operand)) {xs:List (Nat×Nat×X)},ps.mapM (Ox P nm hh fs)=some xs→HV nm (fun i=>(fs.map fun f=>(f.offset,(jQ P f.type).getD 0))[i]?) xs ps
 | [],xs,h=>by
  have:xs=[]:=by simpa using h.symm
  subst this;trivial
 | p::ps,xs,h=>by
  rw [mI] at h;obtain ⟨y,h1,h2⟩:=bind_some h;obtain ⟨ys,h3,h4⟩:=bind_some h2;have:xs=y::ys:=by simpa using h4.symm
  subst this;unfold Ox at h1;split at h1
  ·rename_i f hf;split at h1
   ·rename_i n x hn hx;split at h1
    ·cases h1
    ·rename_i nL;cases h1;obtain ⟨g1,g2⟩:=u6 hx;refine ⟨?_,nL,g1,g2,abI ps h3⟩;simp [HA,hf,hn]
   ·cases h1
  ·cases h1
theorem RD {t:TypeId} {lo:Option Operand} {LO:Option X} (h:(match lo with | none=>some none | some v=>(eb P nm t v).map some)=some LO) :
  (∀x,lo=some x→∃y,LO=some y∧bR nm y x)∧(lo=none→LO=none):=by
 cases lo with
 | none=>
  have:LO=none:=by simpa using h.symm
  exact ⟨(fun x hx=>by cases hx),fun _=>this⟩
 | some v=>
  obtain ⟨y,h1,rfl⟩:=bG h;exact ⟨fun x hx=>by cases hx;exact ⟨y,rfl,(eQ h1).1⟩,fun hx=>by cases hx⟩
theorem ZM {t:TypeId} (h:FQ (P.underlying t)=true):P.underlying t=some (.int .u8):=by
 unfold FQ at h;split at h
 ·assumption
 ·cases h
theorem NZ {e:TypeId} {b:Nat}:b≤wW e b∧(wW e b=1→e=5):=by
 unfold wW;by_cases he:e=AI
 ·rw [aJ he];exact ⟨bT _,fun _=>he⟩
 ·rw [az he];by_cases hb:b=1
  ·rw [aJ hb];exact ⟨by omega,fun h=>by cases h⟩
  ·rw [az hb];exact ⟨bT _,fun h=>absurd h hb⟩
theorem Vs {t u e:TypeId} {i:TypeInfo} {dd:TypeDesc} {zs:List C} (ht:P.underlying t=some (.slice e)) (hu:P.underlying u=some dd) (hd:∀k,dd≠.int k) (hi:P.info? e=some i) (hz:pQ P e=some zs) (hs:i.size≠0) (hb:i.bytes≠0) :
  ∃z,A1 P i.size (wW e i.bytes) t u e i dd z:=by
 obtain ⟨i',z,k1,k2,k3,k4,k5⟩:=AS hz;obtain rfl:i'=i:=by rw [hi] at k1;simpa using k1.symm
 exact ⟨z,ht,hu,hd,hi,k2,rfl,k4,Nj hs,NZ.1,hb,NZ.2⟩
theorem aq6 {l1:List Operand} {l2:List TypeId} {xs:List X} (h:(l1.zip l2).mapM (fun x=>pX P nm hh x.2 x.1)=some xs) (hl:l1.length=l2.length):xs.length=l1.length∧∀(j:Nat) x y,xs[j]? = some x→l1[j]? = some y→bR nm x y∧x.iK=true:=by
 obtain ⟨h1,h2⟩:=C5 _ h;refine ⟨by rw [h1,List.length_zip];omega,fun j x y hx hy=>?_⟩;obtain ⟨p,g1,g2⟩:=h2 j x hx;rw [aeI] at g1;have:p.1=y:=by rw [g1.1] at hy;simpa using hy
 rw [this] at g2;exact u6 g2
theorem aof (hc:wQ P nm G Cl) (R:Rel nm N S a w L) (hH:eI L) (hG:GI G w L) (hd:∀d,o.dst=some d→d < N) {io:oY} (bw:yX P nm hh o=some io) (hr:(bp Cl d io).run S=some r) :
  dw P a w o (dP nm N S w L a o.dst r.1 r.2):=by
 have bad:∀{io:oY},(none:Option oY)=some io→False:=fun h=>by cases h
 unfold yX at bw;split at bw
 ·rename_i x ho;obtain ⟨X,h1,rfl⟩:=bG bw;obtain ⟨g1,g2⟩:=u6 h1;exact XU R hH hd g1 g2 (.inl ho) hr
 ·rename_i x ho;obtain ⟨X,h1,rfl⟩:=bG bw;obtain ⟨g1,g2⟩:=u6 h1;exact XU R hH hd g1 g2 (.inr ho) hr
 ·rename_i c x y ho;obtain ⟨C',h1,h2⟩:=bind_some bw;obtain ⟨X,h3,h4⟩:=bind_some h2;obtain ⟨Y,h5,h6⟩:=bind_some h4;cases h6;exact aio R hd (eQ h1).1 (eQ h3).1 (eQ h5).1 ho hr
 ·rename_i e ho;obtain ⟨zs,h1,h2⟩:=bind_some bw;split at h2
  ·split at h2
   ·cases h2;exact ahW R hd ho h1 hr
   ·cases h2
  ·cases h2;exact ahV R hd ho h1 hr
 ·rename_i e v ho;obtain ⟨n,h1,h2⟩:=bind_some bw;obtain ⟨X,h3,h4⟩:=bind_some h2;split at h4
  ·cases h4
  ·rename_i hn;obtain ⟨g1,g2⟩:=u6 h3;split at h4
   ·cases h4;exact ah1 R hH hd g1 g2 ho hn hr
   ·cases h4;exact ah0 R hH hd g1 g2 ho hn hr
 ·rename_i t parts ho;obtain ⟨zs,h1,h2⟩:=bind_some bw;split at h2
  ·rename_i fs ht;split at h2
   ·rename_i zt;obtain ⟨ps,h3,rfl⟩:=bG h2;exact ah3 R hH hd ho h1 ht (fun f hf=>by simpa using lH.1 zt f hf) (abI _ h3) hr
   ·cases h2
  ·cases h2
 ·rename_i t len parts ho;split at bw
  ·rename_i e ht;obtain ⟨zs,h1,h2⟩:=bind_some bw;split at h2
   ·rename_i row h3;split at h2
    ·cases h2
    ·rename_i iF;obtain ⟨ps,h5,rfl⟩:=bG h2;exact ah2 R hH hd ho ht h1 h3 (fun h=>iF (.inl h)) (fun h=>iF (.inr (.inl h))) (OX _ h5) (fun h=>UE fun h8=>iF (.inr (.inr ⟨h,h8⟩))) hr
   ·obtain ⟨ps,h5,h6⟩:=bind_some h2;split at h6
    ·rename_i iF;cases h6;exact ah' R hH hd ho ht h1 iF.1 iF.2.1 iF.2.2 (OX _ h5) hr
    ·cases h6
  ·cases bw
 ·rename_i t x ho;obtain ⟨⟨n,agg⟩,h1,h2⟩:=bind_some bw;obtain ⟨X,h3,h4⟩:=bind_some h2;split at h4
  ·cases h4
  ·cases h4;exact aid R hd (eQ h3).1 ho h1 hr
 ·rename_i t x v ho;obtain ⟨n,h1,h2⟩:=bind_some bw;obtain ⟨X,h3,h4⟩:=bind_some h2;obtain ⟨V',h5,h6⟩:=bind_some h4;split at h6
  ·cases h6
  ·rename_i hn;cases h6;obtain ⟨g1,g2⟩:=u6 h5;exact ais R hH hd (eQ h3).1 g1 g2 ho h1 hn hr
 ·rename_i x ho;obtain ⟨X,h1,rfl⟩:=bG bw;exact ain R hd (eQ h1).1 ho hr
 ·rename_i op t x y yt ho;obtain ⟨tc,h1,h2⟩:=bind_some bw;obtain ⟨X,h3,h4⟩:=bind_some h2;obtain ⟨Y,h5,h6⟩:=bind_some h4;cases h6;exact ahZ R hd (eQ h3).1 (eQ h5).1 ho h1 hr
 ·rename_i op t x ho;obtain ⟨X,h1,rfl⟩:=bG bw;exact aiu R hd (eQ h1).1 ho hr
 ·rename_i s dt x ho;obtain ⟨X,h1,h2⟩:=bind_some bw;obtain ⟨g1,g2⟩:=eQ h1;split at h2
  ·rename_i k k' hs sA;cases h2;exact ah5 R hd g1 ho hs sA hr
  ·rename_i hs sA;cases h2;exact ah6 R hd g1 ho hs sA hr
  ·rename_i e hs sA;split at h2
   ·rename_i hu;cases h2;exact ait R hH hd g1 ho hs sA (ZM hu.1) hu.2 hr
   ·cases h2
  ·rename_i e hs sA;split at h2
   ·rename_i hu;cases h2;exact ah4 R hd g1 g2 ho hs sA (ZM hu) hr
   ·cases h2
  ·cases h2
 ·rename_i f x y ho;obtain ⟨n,h1,h2⟩:=bind_some bw;obtain ⟨n',k0,oy⟩:=fp.1 h1;obtain ⟨ht,rfl⟩:n' < kN∧n'=n:=by
   split at oy
   ·rename_i ht;cases oy;exact ⟨ht,rfl⟩
   ·cases oy
  obtain ⟨xs,h3,h4⟩:=bind_some h2;obtain ⟨ys,h5,h6⟩:=bind_some h4;cases h6;obtain ⟨g1,g2⟩:=C5 _ h3;obtain ⟨g3,g4⟩:=C5 _ h5;refine aii R hH hd ht k0 g1 (fun j X z hX hz=>?_) g3 (fun j X z hX hz=>?_) ho hr
  ·obtain ⟨z',k1,k2⟩:=g2 j X hX;rw [hz] at k1;cases k1;exact eQ k2
  ·obtain ⟨z',k1,k2⟩:=g4 j X hX;rw [hz] at k1;cases k1;exact eQ k2
 ·rename_i t l c ho;split at bw
  ·rename_i e ht;obtain ⟨i,h1,h2⟩:=bind_some bw;obtain ⟨zs,h3,h4⟩:=bind_some h2;obtain ⟨row,h5,h6⟩:=bind_some h4;obtain ⟨LX,h7,h8⟩:=bind_some h6;obtain ⟨CX,h9,dj⟩:=bind_some h8;split at dj
   ·cases dj
   ·rename_i hs;cases dj;exact ail R hH hd (eQ h7).1 (eQ h9).1 ho ht h1 h3 h5 hs NZ hr
  ·cases bw
 ·rename_i t x lo hi mx ho;obtain ⟨X,h1,h2⟩:=bind_some bw;obtain ⟨LO,h3,h4⟩:=bind_some h2;obtain ⟨HI,h5,h6⟩:=bind_some h4;obtain ⟨MX,h7,h8⟩:=bind_some h6;obtain ⟨l1,l2⟩:=RD h3;obtain ⟨l3,l4⟩:=RD h5;obtain ⟨l5,l6⟩:=RD h7;split at h8
  ·rename_i ht;split at h8
   ·cases h8
   ·rename_i hm;cases h8;have Qs:mx=none:=by
     cases mx with
     | none=>rfl
     | some m=>obtain ⟨y,hy,_⟩:=l5 m rfl;simp [hy] at hm
    subst Qs;exact air R hd (eQ h1).1 ho ht l1 l2 l3 l4 hr
  ·rename_i e ht;obtain ⟨n,h9,dj⟩:=bind_some h8;split at dj
   ·cases dj
   ·rename_i iF;cases dj;refine aiq R hd (eQ h1).1 ho ht h9 (fun h=>iF (.inl h)) l1 l2 l3 l4 l5 l6 (fun hm hh=>?_) hr;apply iF;right;cases mx with
    | none=>exact absurd rfl hm
    | some m=>obtain ⟨y,hy,_⟩:=l5 m rfl;exact ⟨by rw [hy];rfl,by rw [l4 hh];rfl⟩
  ·cases h8
 ·rename_i s x fi ho;split at bw
  ·rename_i fs hs;obtain ⟨f,h1,h2⟩:=bind_some bw;obtain ⟨n,h3,h4⟩:=bind_some h2;obtain ⟨X,h5,h6⟩:=bind_some h4;split at h6
   ·cases h6
   ·rename_i hn;cases h6;exact ah9 R hd (eQ h5).1 ho hs h1 h3 hn hr
  ·cases bw
 ·rename_i t x fi ho;split at bw
  ·rename_i fs hs;obtain ⟨f,h1,h2⟩:=bind_some bw;obtain ⟨⟨n,agg⟩,h3,h4⟩:=bind_some h2;obtain ⟨X,h5,h6⟩:=bind_some h4;cases h6;obtain ⟨g1,g2⟩:=eQ h5;exact ah8 R hd g1 g2 ho hs h1 h3 hr
  ·cases bw
 ·rename_i t x i ho;split at bw
  ·rename_i e ht;obtain ⟨n,h1,h2⟩:=bind_some bw;obtain ⟨X,h3,h4⟩:=bind_some h2;obtain ⟨I,h5,h6⟩:=bind_some h4;split at h6
   ·cases h6
   ·cases h6;exact aib R hd (eQ h3).1 (eQ h5).1 ho ht h1 hr
  ·rename_i k e ht;obtain ⟨n,h1,h2⟩:=bind_some bw;obtain ⟨X,h3,h4⟩:=bind_some h2;obtain ⟨I,h5,h6⟩:=bind_some h4;split at h6
   ·cases h6
   ·cases h6;exact aic R hd (eQ h3).1 (eQ h5).1 ho ht h1 hr
  ·cases bw
 ·rename_i t x i ho;split at bw
  ·rename_i ht;obtain ⟨X,h3,h4⟩:=bind_some bw;obtain ⟨I,h5,h6⟩:=bind_some h4;cases h6;exact aia R hd (eQ h3).1 (eQ h5).1 ho ht hr
  ·cases bw
 ·rename_i x j ho;obtain ⟨X,h1,rfl⟩:=bG bw;exact ah7 R hd (eQ h1).1 ho hr
 ·rename_i t x ho;split at bw
  ·cases bw
  ·rename_i dd jh ht;obtain ⟨X,h1,rfl⟩:=bG bw;exact aij R hd ho ht (fun m e=>jh m e) hr
  ·cases bw
 ·rename_i t r ho;split at bw
  ·rename_i k e ht;split at bw
   ·rename_i hc;cases bw;cases r with
    | none=>exact aik R hd ho hr
    | some x=>cases hc.2.2.1
   ·cases bw
  ·cases bw
 ·rename_i t m k ok ho;split at bw
  ·rename_i kt e ht;obtain ⟨M,h1,h2⟩:=bind_some bw;obtain ⟨K,h3,h4⟩:=bind_some h2;split at h4
   ·rename_i hc;cases h4;obtain ⟨c1,c2,c3,rfl⟩:=hc;exact aif R hd (eQ h1).1 (eQ h3).1 ho ht (ZL c1) c3 hr
   ·cases h4
  ·cases bw
 ·rename_i t m k x ho;split at bw
  ·rename_i kt e ht;obtain ⟨M,h1,h2⟩:=bind_some bw;obtain ⟨K,h3,h4⟩:=bind_some h2;obtain ⟨Z,h5,h6⟩:=bind_some h4;split at h6
   ·rename_i hc;cases h6;exact aim R hd (eQ h1).1 (eQ h3).1 (eQ h5).1 ho ht (ZL hc.1) hr
   ·cases h6
  ·cases bw
 ·rename_i c ho;unfold W7 at bw;split at bw
  ·rename_i f hf;obtain ⟨F,h1,h2⟩:=bind_some bw;split at h2
   ·rename_i aZ;obtain ⟨xs,h3,h4⟩:=bind_some h2;cases h4;obtain ⟨g1,g2⟩:=eQ h1;obtain ⟨g3,g4⟩:=aq6 h3 (by simpa using aZ);refine hc R hH hG hd ho hf g1 g2 (by simpa using g3) (fun j x y hx hy=>?_) hr;rw [bO] at hx;cases hz:(xs.zipIdx)[j]? with
    | none=>simp [hz] at hx
    | some p=>
     simp only [hz,fe,aj] at hx;subst hx;rw [List.getElem?_zipIdx] at hz;cases QR:xs[j]? with
     | none=>simp [QR] at hz
     | some X=>
      simp only [QR,fe,aj] at hz;subst hz;exact g4 j X y QR hy
   ·cases h2
  ·rename_i hb;split at bw
   ·rename_i x t hx ht;have c8:c=⟨.builtin .len,#[x],#[t]⟩:=by obtain ⟨cl,ca,ct⟩:=c;simp only at hb hx ht;subst hb;congr<;>(apply rP;simpa using by assumption)
    subst c8;split at bw
    ·rename_i hu;obtain ⟨X,h1,rfl⟩:=bG bw;exact XT R hd (eQ h1).1 ho (by simpa using hu) hr
    ·rename_i e hu;obtain ⟨X,h1,rfl⟩:=bG bw;exact XT R hd (eQ h1).1 ho (by simpa using ⟨e,hu⟩) hr
    ·cases bw
   ·cases bw
  ·rename_i hb;split at bw
   ·rename_i x y t u hx ht;have c8:c=⟨.builtin .append,#[x,y],#[t,u]⟩:=by obtain ⟨cl,ca,ct⟩:=c;simp only at hb hx ht;subst hb;congr<;>(apply rP;simpa using by assumption)
    subst c8;split at bw
    ·rename_i e Cn;obtain ⟨i,h1,h2⟩:=bind_some bw;obtain ⟨zs,h3,h4⟩:=bind_some h2;obtain ⟨X,h5,h6⟩:=bind_some h4;obtain ⟨g1,g2⟩:=u6 h5;split at h6
     ·rename_i e' FH;obtain ⟨Y,h7,h8⟩:=bind_some h6;split at h8
      ·cases h8
      ·rename_i iF;cases h8;obtain ⟨g3,g4⟩:=u6 h7;obtain ⟨z,T⟩:=Vs Cn FH (by simp) h1 h3 (fun h=>iF (.inl h)) (fun h=>iF (.inr h));split at hr
       ·exact ahY R hH hd g1 g2 g3 g4 ho T hr
       ·exact XS R hH hd g1 g2 g3 g4 ho T hr
     ·rename_i FH;obtain ⟨Y,h7,h8⟩:=bind_some h6;split at h8
      ·rename_i iF;cases h8;obtain ⟨z,T⟩:=Vs Cn FH (by simp) h1 h3 (by omega) (by omega);have BZ:wW e i.bytes=1:=by rw [iF.2.2.2,iF.2.1];rfl
       rw [iF.1,BZ] at T;exact ahX R hH hd g1 g2 (eQ h7).1 ho T hr
      ·cases h8
     ·cases h6
    ·cases bw
   ·cases bw
  ·rename_i hb;split at bw
   ·rename_i x t hx ht;have c8:c=⟨.builtin .unsafeSliceData,#[x],#[t]⟩:=by obtain ⟨cl,ca,ct⟩:=c;simp only at hb hx ht;subst hb;congr<;>(apply rP;simpa using by assumption)
    subst c8;obtain ⟨X,h1,rfl⟩:=bG bw;exact aip R hd (eQ h1).1 ho hr
   ·cases bw
  ·rename_i hb;split at bw
   ·rename_i x y t u hx ht;have c8:c=⟨.builtin .unsafeString,#[x,y],#[t,u]⟩:=by obtain ⟨cl,ca,ct⟩:=c;simp only at hb hx ht;subst hb;congr<;>(apply rP;simpa using by assumption)
    subst c8;split at bw
    ·rename_i e he;split at bw
     ·rename_i iF;obtain ⟨X,h3,h4⟩:=bind_some bw;obtain ⟨Y,h5,h6⟩:=bind_some h4;cases h6;obtain ⟨h7,h8⟩:=iF;have h9:e=5:=h7;subst h9;exact aiv R hd (eQ h3).1 (eQ h5).1 ho he h8 hr
     ·cases bw
    ·cases bw
   ·cases bw
  ·rename_i hb;split at bw
   ·rename_i x y t u hx ht;have c8:c=⟨.builtin .min,#[x,y],#[t,u]⟩:=by obtain ⟨cl,ca,ct⟩:=c;simp only at hb hx ht;subst hb;congr<;>(apply rP;simpa using by assumption)
    subst c8;obtain ⟨X,h3,h4⟩:=bind_some bw;obtain ⟨Y,h5,h6⟩:=bind_some h4;cases h6;exact aih R hd (eQ h3).1 (eQ h5).1 ho hr
   ·cases bw
  ·rename_i hb;split at bw
   ·rename_i x y t u hx ht;have c8:c=⟨.builtin .max,#[x,y],#[t,u]⟩:=by obtain ⟨cl,ca,ct⟩:=c;simp only at hb hx ht;subst hb;congr<;>(apply rP;simpa using by assumption)
    subst c8;obtain ⟨X,h3,h4⟩:=bind_some bw;obtain ⟨Y,h5,h6⟩:=bind_some h4;cases h6;exact aie R hd (eQ h3).1 (eQ h5).1 ho hr
   ·cases bw
  ·cases bw
 ·cases bw
end
end
section
def St.same (S S':St):Prop:=∀k,S.get k=S'.get k
theorem St.same.refl (S:St):S.same S:=fun _=>rfl
theorem St.same.symm {S S':St} (h:S.same S'):S'.same S:=fun k=>(h k).symm
theorem St.same.trans {S S' Vh:St} (h:S.same S') (k:S'.same Vh):S.same Vh:=fun x=>(h x).trans (k x)
theorem St.same.wr {S S':St} (h:S.same S') (x:Wr):(S.wr x).same (S'.wr x):=by
 intro k;rw [St.BP,St.BP,h x.k,h k]
theorem St.same.ah {S S':St} (h:S.same S'):∀ws:List Wr,(S.ah ws).same (S'.ah ws)
 | []=>h
 | x::t=>(St.same.ah h t).wr x
theorem Q.apj {α:Type} {S S':St} (h:S.same S') (x:Q α):x.run S'=x.run S∧x.reads S'=x.reads S:=Q.Tl x (fun k _=>(h k).symm)
theorem AQ (S:St):∀(ws:List Wr) (k:Key),(∀x∈ws,x.k≠k)→(S.ah ws).get k=S.get k
 | [],_,_=>rfl
 | x::t,k,h=>by
  simp only [St.ah,St.BP];rw [az (h x (by simp))];exact AQ S t k (fun y hy=>h y (by simp [hy]))
theorem aeC (ws:List Wr) {S S':St} {k:Key} (h:S.get k=S'.get k):(S.ah ws).get k=(S'.ah ws).get k:=by
 induction ws with
 | nil=>exact h
 | cons x t ih=>
  simp only [St.ah,St.BP];by_cases hk:x.k=k
  ·subst hk;rw [aJ rfl,aJ rfl,ih]
  ·rw [az hk,az hk];exact ih
theorem aqY (S:St) (u v:List Wr) (h:∀x∈u,∀y∈v,x.k≠y.k):((S.ah u).ah v).same ((S.ah v).ah u):=by
 intro k;by_cases hu:∃x∈u,x.k=k
 ·obtain ⟨x,hx,rfl⟩:=hu;rw [AQ _ v x.k (fun y hy e=>h x hx y hy e.symm)];exact aeC u (AQ S v x.k (fun y hy e=>h x hx y hy e.symm)).symm
 ·have jv:∀x∈u,x.k≠k:=fun x hx e=>hu ⟨x,hx,e⟩
  rw [AQ (S.ah v) u k jv];exact aeC v (AQ S u k jv)
theorem lK.aeV {x y:lK} (h:x.apart y=true):(∀k∈x.w,k∉y.r∧k∉y.w)∧∀k∈y.w,k∉x.r:=by
 unfold lK.apart at h;simp only [bK,lH,nA,List.contains_eq_mem,U6] at h;exact h
theorem XO (Cl:bW):∀(l:List gB) {S S' Sf:St} {F:List lK},S.same S'→il Cl l S=some (Sf,F)→∃yM,il Cl l S'=some (yM,F)∧Sf.same yM
 | [],S,S',Sf,F,h,he=>by
  simp only [il,aj,fJ] at he;obtain ⟨rfl,rfl⟩:=he;exact ⟨S',rfl,h⟩
 | o::t,S,S',Sf,F,h,he=>by
  simp only [il] at he ⊢;obtain ⟨h1,h2⟩:=Q.apj h (gw Cl o);rw [h1,h2];cases hw:(gw Cl o).run S with
  | none=>simp [hw] at he
  | some ws=>
   simp only [hw,Option.bind_some] at he ⊢;obtain ⟨⟨S1,F1⟩,h3,h4⟩:=bG he;simp only [fJ] at h4;obtain ⟨rfl,rfl⟩:=h4;obtain ⟨S2,h5,h6⟩:=XO Cl t (h.ah ws) h3;exact ⟨S2,by rw [h5];rfl,h6⟩
theorem VZ (Cl:bW) (o:gB) (f:lK) (l2:List gB) (F2:List lK):∀(l1:List gB) {S Sf:St} {F1:List lK},F1.length=l1.length→il Cl (l1++o::l2) S=some (Sf,F1++f::F2)→(∀g∈F1,g.apart f=true)→
  ∃ws,(gw Cl o).run S=some ws∧f=⟨(gw Cl o).reads S,ws.map (·.k)⟩∧∃yM,il Cl (l1++l2) (S.ah ws)=some (yM,F1++F2)∧Sf.same yM
 | [],S,Sf,F1,hl,he,ha=>by
  have:F1=[]:=pS.1 hl;subst this;simp only [uP,il] at he ⊢;cases hw:(gw Cl o).run S with
  | none=>simp [hw] at he
  | some ws=>
   simp only [hw,Option.bind_some] at he;obtain ⟨⟨S1,F1⟩,h3,h4⟩:=bG he;simp only [fJ,qH] at h4;obtain ⟨rfl,rfl,rfl⟩:=h4;exact ⟨ws,rfl,rfl,Sf,h3,St.same.refl _⟩
 | x::t,S,Sf,F1,hl,he,ha=>by
  cases F1 with
  | nil=>simp at hl
  | cons g F1=>
   simp only [qG,il] at he;cases hw:(gw Cl x).run S with
   | none=>simp [hw] at he
   | some wx=>
    simp only [hw,Option.bind_some] at he;obtain ⟨⟨S1,F'⟩,h3,h4⟩:=bG he;simp only [fJ,qH] at h4;obtain ⟨rfl,rfl,rfl⟩:=h4;obtain ⟨ws,h5,h6,yM,h7,h8⟩:=VZ Cl o f l2 F2 t (by simpa using hl) h3 (fun g hg=>ha g (by simp [hg]));obtain ⟨a1,a2⟩:=lK.aeV (ha ⟨(gw Cl x).reads S,wx.map (·.k)⟩ (by simp));have zG:(gw Cl o).run S=some ws∧(gw Cl o).reads S=(gw Cl o).reads (S.ah wx):=by
     have := Q.Tl (S := S.ah wx) (S' := S) (gw Cl o) (fun k hk => by
       refine (AQ S wx k ?_).symm
       rintro y hy rfl
       have := (a1 y.k (iz.2 ⟨y, hy, rfl⟩)).1
       rw [h6] at this
       exact this hk)
     exact ⟨this.1.trans h5,this.2⟩
    have Zo:(gw Cl x).run (S.ah ws)=some wx∧(gw Cl x).reads (S.ah ws)=(gw Cl x).reads S:=by
     have := Q.Tl (S := S) (S' := S.ah ws) (gw Cl x) (fun k hk => by
       refine AQ S ws k ?_
       rintro y hy rfl
       exact a2 y.k (by rw [h6]; exact iz.2 ⟨y, hy, rfl⟩) hk)
     exact ⟨this.1.trans hw,this.2⟩
    have aji:∀y∈wx,∀z∈ws,y.k≠z.k:=by
     intro y hy z hz e;have:=(a1 y.k (iz.2 ⟨y,hy,rfl⟩)).2;rw [h6,e] at this;exact this (iz.2 ⟨z,hz,rfl⟩)
    obtain ⟨aeT,h9,dj⟩:=XO Cl (t++l2) (aqY S wx ws aji) h7;refine ⟨ws,zG.1,by rw [h6,zG.2],aeT,?_,h8.trans dj⟩;simp only [qG,il,Zo.1,Zo.2,Option.bind_some,h9,fe]
theorem ae3 (ops:Array Oper):(Region.before ops).size=ops.size∧∀i j,((Region.before ops).getD i 0).testBit j=true→∃o e,ops[i]? = some o∧e∈o.after∧Region.binds .any e=true∧(e.on=j∨(e.on < i∧((Region.before ops).getD e.on 0).testBit j=true)):=by
 have inner:∀(acc:Array Nat) (l:List Edge) (s j:Nat),(l.foldl (fun s e=>if Region.binds .any e then s ||| 2 ^ e.on ||| acc.getD e.on 0 else s) s).testBit j=true→
   s.testBit j=true∨∃e∈l,Region.binds .any e=true∧(e.on=j∨(acc.getD e.on 0).testBit j=true):=by
  intro acc l;induction l with
  | nil=>intro s j h;exact .inl h
  | cons e l ih=>
   intro s j h;simp only [UM] at h;rcases ih _ _ h with h | ⟨e',h1,h2,h3⟩
   ·split at h
    ·rename_i hb;rw [Nat.testBit_or,Nat.testBit_or,wN,wN] at h;rcases h with (h | h) | h
     ·exact .inl h
     ·rw [Nat.testBit_two_pow] at h;exact .inr ⟨e,by simp,hb,.inl (by simpa using h)⟩
     ·exact .inr ⟨e,by simp,hb,.inr h⟩
    ·exact .inl h
   ·exact .inr ⟨e',by simp [h1],h2,h3⟩
 have main:∀(n:Nat),n≤ops.size→∀(acc:Array Nat),acc=(ops.toList.take n).foldl (fun acc o=>acc.push (o.after.foldl (fun s e=>if Region.binds .any e then s ||| 2 ^ e.on ||| acc.getD e.on 0 else s) 0)) #[]→
   acc.size=n∧∀i j,(acc.getD i 0).testBit j=true→∃o e,ops[i]? = some o∧e∈o.after∧Region.binds .any e=true∧(e.on=j∨(e.on < i∧(acc.getD e.on 0).testBit j=true)):=by
  intro n;induction n with
  | zero=>
   intro _ acc h;subst h;exact ⟨rfl,fun i j h=>by simp at h⟩
  | succ n ih=>
   intro hn acc h;rw [List.take_succ_eq_append_getElem (by rw [UB];omega),List.foldl_append] at h;obtain ⟨H0,PF⟩:∃x,x=(ops.toList.take n).foldl (fun acc o=>acc.push (o.after.foldl (fun s e=>if Region.binds .any e then s ||| 2 ^ e.on ||| acc.getD e.on 0 else s) 0)) #[]:=⟨_,rfl⟩
   obtain ⟨g1,g2⟩:=ih (by omega) H0 PF;rw [←PF] at h;clear PF ih;simp only [UM,List.foldl_nil] at h;have QD:∀k,k < n→acc.getD k 0=H0.getD k 0:=by
    intro k hk;subst h;simp only [iw];rw [UA,az (by omega)]
   refine ⟨by rw [h];simp [g1],fun i j hb=>?_⟩;by_cases hi:i < n
   ·rw [QD i hi] at hb;obtain ⟨o,e,k1,k2,k3,k4⟩:=g2 i j hb;refine ⟨o,e,k1,k2,k3,k4.imp id (fun ⟨k5,k6⟩=>⟨k5,by rw [QD _ (by omega)];exact k6⟩)⟩
   ·by_cases kQ:i=n
    ·subst kQ;have hv:acc.getD i 0=(ops[i]'(by omega)).after.foldl (fun s e=>if Region.binds .any e then s ||| 2 ^ e.on ||| H0.getD e.on 0 else s) 0:=by
      rw [h];simp only [iw];rw [UA,aJ (by omega)];simp
     rw [hv,←Ux] at hb;rcases inner H0 _ 0 j hb with h0 | ⟨e,k1,k2,k3⟩
     ·simp at h0
     ·refine ⟨ops[i],e,by simp,by simpa using k1,k2,?_⟩;rcases k3 with k3 | k3
      ·exact .inl k3
      ·have Zd:e.on < i:=by
        rcases yG e.on i with h | h
        ·exact h
        ·rw [iw,M7 (by omega)] at k3;simp at k3
       exact .inr ⟨Zd,by rw [QD _ Zd];exact k3⟩
    ·rw [iw,M7 (by rw [h];simp [g1];omega)] at hb;simp at hb
 have := main ops.size (bT _) (Region.before ops) (by
   unfold Region.before
   rw [yF (by rw [UB]; exact bT _), Ux])
 exact this
def U9 (ops:Array Oper) (listed:Array Bool):Prop:=∀(i:Nat) o,ops[i]? = some o→listed.getD i true=true→∀e∈o.after,Region.binds .any e=true→listed.getD e.on false=true
theorem VI (ops:Array Oper) (listed:Array Bool) (hs:listed.size=ops.size) (hc:U9 ops listed):∀(n i:Nat),i < n→∀o,ops[i]? = some o→(∀e∈o.after,Region.binds .any e=true→listed.getD e.on false=true)→
  ∀j,((Region.before ops).getD i 0).testBit j=true→listed.getD j false=true
 | 0,i,hi,_,_,_,_,_=>by omega
 | n+1,i,hi,o,ho,hr,j,hb=>by
  obtain ⟨o',e,h1,h2,h3,h4⟩:=(ae3 ops).2 i j hb;rw [ho] at h1;cases h1;have hl:=hr e h2 h3;rcases h4 with rfl | ⟨h4,h5⟩
  ·exact hl
  ·have af:e.on < ops.size:=by
    rcases yG e.on ops.size with h | h
    ·exact h
    ·rw [iw,M7 (by omega)] at hl;cases hl
   refine VI ops listed hs hc n e.on (by omega) ops[e.on] (by simp [af]) (hc e.on _ (by simp [af]) ?_) j h5;rw [iw] at hl ⊢;cases hx:listed[e.on]? with
   | none=>rfl
   | some b=>simpa [hx] using hl
end
section
section
variable {nm:FuncId→Option Nat} {G:Nat→Option Obj} {N:Nat} {S:St} {a:Act} {w:World} {L:aw} {P:Program} {o:Oper} {Cl:bW} {hh:Hint} {ops:Array Oper}
theorem Rel.same {S S':St} (h:S.same S') (R:Rel nm N S a w L):Rel nm N S' a w L:=by
 have h1:S'.E=S.E:=funext fun k=>by unfold St.E;rw [h k]
 have h2:S'.γ=S.γ:=funext fun k=>by unfold St.γ;rw [h k]
 unfold Rel;rw [h1,h2];exact R
theorem oe.same {S S':St} {w0:World} {L0:aw} (h:S.same S') (D:oe nm N S w0 L0 a w L):oe nm N S' w0 L0 a w L:=⟨D.rel.same h,D.mono,D.xR⟩
theorem aq0 {j d:Nat} {g:Oper} (hg:ops[j]? = some g) (hd:g.dst=some d) (tmps:Array Value):yielded ops tmps j=match tmps[d]? with | some (.bool b)=>some b | _=>none:=by
 unfold yielded;rw [hg,Option.bind_some,hd,Option.bind_some];cases tmps[d]? with
 | none=>rfl
 | some v=>cases v<;>rfl
theorem aby (hc:wQ P nm G Cl) (R:Rel nm N S a w L) (hH:eI L) (hG:GI G w L) (hN:hh.nt=N) {io:gB} {i:Nat} (hi:ops[i]? = some o) (bw:IF P nm hh ops o=some io) {ws:List Wr} (hr:(gw Cl io).run S=some ws)
  {K:Act→World→Prop} {Qx:Exit→Act→World→Prop} (hK:∀a' w' L',oe nm N (S.ah ws) w L a' w' L'→K a' w'):wpOp P ops Qx i K a w:=by
 unfold IF at bw;split at bw
 ·rename_i YL;have hd:∀d,o.dst=some d→d < N:=by
   intro d hd;rw [hd] at YL;simpa [hN] using YL
  have wanted:∀{v:V} {fc:List Wr},Region.wanted o (yielded ops a.tmps)=true→(bp Cl (o.dst.getD 0) ((yX P nm hh o).getD .bad)).run S=some (v,fc)→ws=AP o.dst v fc→wpOp P ops Qx i K a w:=by
   intro v fc hw B5 ui;unfold wpOp;rw [hi];simp only [hw,bV];left;cases P2:yX P nm hh o with
   | none=>rw [P2] at B5;simp [bp] at B5
   | some io'=>
    rw [P2] at B5;exact (aof hc R hH hG hd P2 B5).wp (fun v' w' ⟨L',D⟩=>hK _ _ _ (by rw [ui];exact D))
  have skip:Region.wanted o (yielded ops a.tmps)=false→ws=(match o.dst with | some d=>[{ k:=.s d,v:=.aq [] }] | none=>[])→wpOp P ops Qx i K a w:=by
   intro hw ui;unfold wpOp;rw [hi];simp only [hw,rQ,dE];obtain ⟨L',D⟩:=Rel.fZ (ws:=[]) (dst:=o.dst) (m:=0) (x:=.aq []) (v:=undef) R (de.refl w L) hd (.aq (us:=#[]) rfl rfl (fun i x u h=>by simp at h));refine hK _ _ _ (by rw [ui];cases uf:o.dst<;>simpa [AP,uf] using D)
  have fin:∀{gd:Option (Nat×Bool)} {want:Bool} {f:Unit},io=⟨o.dst,(yX P nm hh o).getD .bad,gd⟩→True:=fun _=>trivial
  split at bw
  ·rename_i hg;cases bw;unfold gw at hr;obtain ⟨want,h1,h2⟩:=Q.aK hr;obtain rfl:=Q.aY h1;simp only [bV] at h2;obtain ⟨⟨v,fc⟩,h3,h4⟩:=Q.aK h2;refine wanted (by unfold Region.wanted;rw [hg]) h3 ?_;cases uf:o.dst with
   | none=>rw [uf] at h4;simpa [AP] using Q.aY h4
   | some d=>rw [uf] at h4;simpa [AP] using Q.aY h4
  ·rename_i j b hg;split at bw
   ·rename_i d YY;cases bw;obtain ⟨g,hgj,qd⟩:∃g,ops[j]? = some g∧g.dst=some d:=by
     cases hx:ops[j]? with
     | none=>simp [hx] at YY
     | some g=>exact ⟨g,rfl,by simpa [hx] using YY⟩
    have hy:=aq0 hgj qd a.tmps;have mY:=R.slot d;unfold gw at hr;obtain ⟨want,h1,h2⟩:=Q.aK hr;have oy:=Q.ni h1;have ZA:Region.wanted o (yielded ops a.tmps)=want:=by
     unfold Region.wanted;rw [hg];simp only;rw [hy];split at oy
     ·rename_i x hx;obtain rfl:=Q.aY oy;have hE:S.E (.s d) = .one (.d (.bool x)):=hx;rw [hE] at mY;have hv:=mY.cQ.r7;rw [iw] at hv;cases ht:a.tmps[d]? with
      | none=>rw [ht] at hv;simp [undef] at hv
      | some u=>
       rw [ht] at hv;simp only [Option.getD_some] at hv;subst hv;cases x<;>cases b<;>rfl
     ·rename_i hx;obtain rfl:=Q.aY oy;have hE:S.E (.s d) = .aq []:=hx;rw [hE] at mY;rw [iw] at mY;cases ht:a.tmps[d]? with
      | none=>rfl
      | some u=>
       rw [ht] at mY;simp only [Option.getD_some] at mY;cases mY;rfl
     ·cases oy
    cases want with
    | true=>
     simp only [bV] at h2;obtain ⟨⟨v,fc⟩,h3,h4⟩:=Q.aK h2;refine wanted ZA h3 ?_;cases uf:o.dst with
     | none=>rw [uf] at h4;simpa [AP] using Q.aY h4
     | some d=>rw [uf] at h4;simpa [AP] using Q.aY h4
    | false=>
     simp only [rQ,dE] at h2;refine skip ZA ?_;cases uf:o.dst with
     | none=>rw [uf] at h2;simpa using Q.aY h2
     | some d=>rw [uf] at h2;simpa using Q.aY h2
   ·cases bw
 ·cases bw
theorem IG {l:List gB} (h:Ez P nm hh ops=some l):l.length=ops.size∧∀(i:Nat) io,l[i]? = some io→∃o,ops[i]? = some o∧IF P nm hh ops o=some io:=by
 obtain ⟨h1,h2⟩:=C5 _ h;refine ⟨by simpa using h1,fun i io hi=>?_⟩;obtain ⟨o,g1,g2⟩:=h2 i io hi;exact ⟨o,by rw [←DU];exact g1,g2⟩
theorem oe.trans {S S':St} {a a':Act} {w0 w w':World} {L0 L L':aw} (h:oe nm N S w0 L0 a w L) (k:oe nm N S' w L a' w' L'):oe nm N S' w0 L0 a' w' L':=⟨k.rel,h.mono.trans k.mono,k.xR⟩
theorem abz (hc:wQ P nm G Cl) (hN:hh.nt=N) {l:List gB} (hl:Ez P nm hh ops=some l) {Q:Exit→Act→World→Prop}:∀(m k:Nat),k+m=ops.size→∀{S Sf:St} {a:Act} {w:World} {L:aw},Rel nm N S a w L→eI L→GI G w L→ma Cl (l.drop k) S=some Sf→
  (∀a' w' L',oe nm N Sf w L a' w' L'→Q .normal a' w')→wpOps P ops Q (List.range' k m) a w
 | 0,k,hk,S,Sf,a,w,L,R,hH,hG,he,hQ=>by
  obtain ⟨h1,_⟩:=IG hl;rw [List.drop_of_length_le (by omega)] at he;simp only [ma,aj] at he;subst he;exact hQ a w L ⟨R,de.refl w L,hH⟩
 | m+1,k,hk,S,Sf,a,w,L,R,hH,hG,he,hQ=>by
  obtain ⟨h1,h2⟩:=IG hl;have vx:k < l.length:=by omega
  rw [tA vx] at he;simp only [ma] at he;cases hw:(gw Cl l[k]).run S with
  | none=>simp [hw] at he
  | some ws=>
   simp only [hw,Option.bind_some] at he;obtain ⟨o,g1,g2⟩:=h2 k l[k] (by simp);rw [List.range'_succ,wpOps_cons];exact aby hc R hH hG hN g1 g2 hw (fun a' w' L' D=>abz hc hN hl m (k+1) (by omega) D.rel D.xR (hG.mono D.mono) he (fun Vk tv D8 D'=>hQ _ _ _ (D.trans D')))
theorem S4 {listed:Array Bool} {i:Nat}:i∈Region.ready .any ops listed↔i < ops.size∧listed.getD i true=false∧∃o,ops[i]? = some o∧∀e∈o.after,Region.binds .any e=true→listed.getD e.on false=true:=by
 unfold Region.ready;rw [List.mem_filter,tE];simp only [bK,nA];constructor
 ·rintro ⟨h1,h2,h3⟩;refine ⟨h1,h2,ops[i],by simp [h1],?_⟩;simp only [oc h1,fe,Option.getD_some] at h3;intro e he hb;have:=Uw.1 h3 e he;simpa [hb] using this
 ·rintro ⟨h1,h2,o,h3,h4⟩;refine ⟨h1,h2,?_⟩;rw [h3];simp only [fe,Option.getD_some];rw [Uw];intro e he;cases hb:Region.binds .any e with
  | false=>rfl
  | true=>simpa [hb] using h4 e he hb
theorem Vr (hc:wQ P nm G Cl) (hN:hh.nt=N) {l:List gB} (hl:Ez P nm hh ops=some l) (aS:IQ ops=true) {Q:Exit→Act→World→Prop} {φ:Nat→lK}
  (hφ:∀i j,i < j→j < ops.size→((Region.before ops).getD j 0).testBit i=false→(φ i).apart (φ j)=true) :
  ∀(fuel:Nat) (rem:List Nat) (listed:Array Bool),rem.length=fuel→listed.size=ops.size→rem.Pairwise (· < ·)→(∀i,i∈rem↔i < ops.size∧listed.getD i true=false)→U9 ops listed→
  ∀{S Sf:St} {a:Act} {w:World} {L:aw},Rel nm N S a w L→eI L→GI G w L→il Cl (rem.map fun i=>l.getD i default) S=some (Sf,rem.map φ)→(∀a' w' L',oe nm N Sf w L a' w' L'→Q .normal a' w')→wpAny P .any ops Q fuel listed a w
 | 0,rem,listed,hlen,aZ,FF,zF,aR,S,Sf,a,w,L,R,hH,hG,he,hQ=>by
  have:rem=[]:=pS.1 hlen;subst this;simp only [uN,il,aj,fJ,and_true] at he;subst he;refine ⟨?_,hQ a w L ⟨R,de.refl w L,hH⟩⟩;rw [List.eq_nil_iff_forall_not_mem];intro i hi;obtain ⟨h1,h2,_⟩:=S4.1 hi;exact absurd ((zF i).2 ⟨h1,h2⟩) (by simp)
 | fuel+1,rem,listed,hlen,aZ,FF,zF,aR,S,Sf,a,w,L,R,hH,hG,he,hQ=>by
  obtain ⟨g1,g2⟩:=IG hl;refine ⟨?_,?_⟩
  ·
   intro mh;exfalso;cases rem with
   | nil=>simp at hlen
   | cons r0 rest=>
    have ug:=(zF r0).1 (by simp);have:r0∈Region.ready .any ops listed:=by
     refine S4.2 ⟨ug.1,ug.2,ops[r0],by simp [ug.1],?_⟩;intro e he hb;have h3:=lH.1 aS r0 (tE.2 ug.1);simp only [oc ug.1,fe,Option.getD_some] at h3;have h4:=Uw.1 h3 e he;simp only [hb,UD,UC,fy] at h4;cases hx:listed.getD e.on true with
     | false=>
      have:e.on∈r0::rest:=(zF e.on).2 ⟨by omega,hx⟩;rcases gV.1 this with h5 | h5
      ·omega
      ·have:=(UU.1 FF).1 e.on h5;omega
     | true=>
      have af:e.on < listed.size:=by omega
      simp only [iw,oc af,Option.getD_some] at hx ⊢;exact hx
    rw [mh] at this;simp at this
  ·intro i hi;obtain ⟨h1,h2,o,h3,h4⟩:=S4.1 hi;have ajs:i∈rem:=(zF i).2 ⟨h1,h2⟩;obtain ⟨l1,l2,ajV⟩:=List.append_of_mem ajs;subst ajV;have af:∀r∈l1,r < i:=fun r hr=>(Ng.1 FF).2.2 r hr i (by simp)
   have BX:∀g∈l1.map φ,g.apart (φ i)=true:=by
    intro g hg;obtain ⟨r,hr,rfl⟩:=iz.1 hg;refine hφ r i (af r hr) h1 ?_;cases hb:((Region.before ops).getD i 0).testBit r with
    | false=>rfl
    | true=>
     have gF:=VI ops listed aZ aR (i+1) i (by omega) o h3 h4 r hb;have QG:=((zF r).1 (by simp [hr]))
     have zH:r < listed.size:=by omega
     simp only [iw,oc zH,Option.getD_some] at gF QG;rw [gF] at QG;exact absurd QG.2 (by simp)
   simp only [eg,fS] at he;obtain ⟨ws,k1,_,yM,k3,k4⟩:=VZ Cl _ (φ i) _ _ (l1.map fun i=>l.getD i default) (by simp) he BX;have Y5:i < l.length:=by omega
   have ua:l.getD i default=l[i]:=by simp [kC,Y5]
   rw [ua] at k1;obtain ⟨o',m1,m2⟩:=g2 i l[i] (by simp);refine aby hc R hH hG hN m1 m2 k1 (fun a' w' L' D=>?_);rw [←eg,←eg] at k3;have JG:∀k b,(listed.setIfInBounds i true).getD k b=if k=i then true else listed.getD k b:=by
    intro k b;simp only [iw];by_cases qh:k=i
    ·subst qh;rw [wM];simp [show k < listed.size by omega]
    ·rw [yA (fun e=>qh e.symm),az qh]
   have ajU:(l1++l2).Pairwise (· < ·):=by
    have:=Ng.1 FF;refine Ng.2 ⟨this.1,(UU.1 this.2.1).2,fun x hx y hy=>this.2.2 x hx y (by simp [hy])⟩
   have hni:i∉l1++l2:=by
    intro hm;rcases dC.1 hm with hm | hm
    ·exact UX _ (af i hm)
    ·exact UX _ ((UU.1 (Ng.1 FF).2.1).1 i hm)
   refine Vr hc hN hl aS hφ fuel (l1++l2) (listed.setIfInBounds i true) (by simp at hlen ⊢;omega) (by simpa using aZ) ajU ?_ ?_ D.rel D.xR (hG.mono D.mono) k3 (fun Vk tv D8 D'=>hQ _ _ _ ((D.trans D').same k4.symm))
   ·intro k;rw [JG];by_cases qh:k=i
    ·subst qh;simp only [bV];exact ⟨fun h=>absurd h hni,fun h=>by simp at h⟩
    ·rw [az qh,←zF k];simp [dC,gV,qh]
   ·intro k ok Qw hk e he hb;rw [JG] at hk ⊢;by_cases qh:k=i
    ·subst qh;rw [h3] at Qw;cases Qw;have:=h4 e he hb;split
     ·rfl
     ·exact this
    ·rw [az qh] at hk;have:=aR k ok Qw hk e he hb;split
     ·rfl
     ·exact this
end
end
section
section
variable {nm:FuncId→Option Nat} {G:Nat→Option Obj} {N:Nat} {S:St} {a:Act} {w:World} {L:aw} {P:Program} {o:Oper} {Cl:bW} {hh:Hint} {ops:Array Oper}
mutual
def C.eB:C→List Key
 | .view pl .. => [pl.k]
 | .eD pl .. => [pl.k]
 | .c7 pl .. => [pl.k,.a pl.k]
 | .gk i _=>[.b (.g i) 0]
 | .ptr r _ _=>[.r r]
 | .fn _ a b=>p6 a++p6 b
 | _=>[]
def p6:List C→List Key
 | []=>[]
 | c::t=>c.eB++p6 t
end
mutual
def V.eB:V→List Key
 | .one c=>c.eB
 | .agg cs=>p6 cs
 | .aq vs=>sv vs
def sv:List V→List Key
 | []=>[]
 | v::t=>v.eB++sv t
end
theorem EY:∀{l:List C} {i:Nat} {c:C} {k:Key},l[i]? = some c→k∈c.eB→k∈p6 l
 | [],_,_,_,h,_=>by simp at h
 | x::t,0,c,k,h,hk=>by simp at h;subst h;simp [p6,hk]
 | x::t,i+1,c,k,h,hk=>by simp only [p6,dC];exact .inr (EY (by simpa using h) hk)
theorem YA:∀{l:List V} {i:Nat} {c:V} {k:Key},l[i]? = some c→k∈c.eB→k∈sv l
 | [],_,_,_,h,_=>by simp at h
 | x::t,0,c,k,h,hk=>by simp at h;subst h;simp [sv,hk]
 | x::t,i+1,c,k,h,hk=>by simp only [sv,dC];exact .inr (YA (by simpa using h) hk)
theorem aF.dQ {γ γ':Key→Nat} {k:Key} {j:Nat} {c:C} {v:Value} (h:aF nm w L γ k j c v):(∀x∈c.eB,γ' x=γ x)→aF nm w L γ' k j c v:=by
 induction h with
 | d h=>exact fun _=>.d h
 | @ptr r g c v hv hg h=>intro hx;have:=hx (.r r) (by simp [C.eB]);exact .ptr hv (by rw [this];exact hg) (fun e=>h (by rw [e,this]))
 | @eD pl g sz i c v hv hh hg h=>intro hx;have:=hx pl.k (by simp [C.eB]);exact .eD hv hh (by rw [this];exact hg) (fun e=>h (by rw [e,this]))
 | pp hL hB h=>exact fun _=>.pp hL hB h
 | @view pl g sz off len v hv hh hg h=>intro hx;have:=hx pl.k (by simp [C.eB]);exact .view hv hh (by rw [this];exact hg) (fun e=>h (by rw [e,this]))
 | @c7 pl g a sz rows v hv hh hg ha h=>
  intro hx;have h1:=hx pl.k (by simp [C.eB]);have h2:=hx (.a pl.k) (by simp [C.eB]);exact .c7 hv hh (by rw [h1];exact hg) (by rw [h2];exact ha) (fun e e'=>h (by rw [e,h1]) (by rw [e',h2]))
 | fns val hf hL hB aR hv h ih=>
  intro hx;exact .fns val hf hL hB aR hv (fun i x hi=>ih i x hi (fun y hy=>hx y (by simp only [C.eB,dC];exact .inr (EY hi hy))))
 | fn jH hf h1 h2 aR h3 h4 sL sM=>
  intro hx;exact .fn jH hf h1 h2 aR (fun i x u hi hu=>sL i x u hi hu (fun y hy=>hx y (by simp only [C.eB,dC];exact .inl (EY hi hy))))
   (fun i x u hi hu=>sM i x u hi hu (fun y hy=>hx y (by simp only [C.eB,dC];exact .inr (EY hi hy))))
 | cE=>exact fun _=>.cE
 | eW=>exact fun _=>.eW
 | fQ=>exact fun _=>.fQ
 | fj=>exact fun _=>.fj
 | bt hk hv=>exact fun _=>.bt hk hv
 | mp h=>exact fun _=>.mp h
 | @gk i g v hv hg h=>intro hx;have:=hx (.b (.g i) 0) (by simp [C.eB]);exact .gk hv (by rw [this];exact hg) (fun e=>h (by rw [e,this]))
 | dead=>exact fun _=>.dead
theorem bD.dQ {γ γ':Key→Nat} {k:Key} {x:V} {v:Value} (h:bD nm w L γ k x v):(∀y∈x.eB,γ' y=γ y)→bD nm w L γ' k x v:=by
 induction h with
 | one h=>exact fun hx=>.one (h.dQ hx)
 | agg hl h=>exact fun hx=>.agg hl (fun j c u h1 h2=>(h j c u h1 h2).dQ (fun y hy=>hx y (EY h1 hy)))
 | aq hl aR h ih=>exact fun hx=>.aq hl aR (fun i x u h1 h2=>ih i x u h1 h2 (fun y hy=>hx y (YA h1 hy)))
theorem Rel.forget {S S':St} (R:Rel nm N S a w L)
  (hE:∀k,(S'.E k=S.E k∨S'.E k=(S.E k).oK)∨(S'.E k=V.dead)) (hr:∀r,cm (S'.E (.r r))≠0→S'.E (.r r)=S.E (.r r))
  (hb:∀r c,S'.E (.b r c)≠V.dead→cm (S'.E (.r r))=cm (S.E (.r r)))
  (hγ:∀k y,k.aT=true→S'.E k≠V.dead→y∈(S.E k).eB→S'.γ y=S.γ y):Rel nm N S' a w L:=by
 have loose:∀{k:Key} {x:V} {v:Value},bD nm w L S.γ k x v→bD nm w L S.γ k x.oK v:=by
  intro k x v h;cases x with
  | one c=>
   cases c with
   | d y=>
    cases y with
    | sl t sz rows=>
     cases t with
     | _=>exact h
    | _=>exact h
   | _=>exact h
  | _=>exact h
 have ai9:∀x:V,∀y∈x.oK.eB,y∈x.eB:=by
  intro x y hy;cases x with
  | one c=>
   cases c with
   | d z=>cases z with
    | sl t sz rows=>cases t<;>exact hy
    | _=>exact hy
   | _=>exact hy
  | _=>exact hy
 have slot:∀k v,k.aT=true→bD nm w L S.γ k (S.E k) v→bD nm w L S'.γ k (S'.E k) v:=by
  intro k v hk h;by_cases hd:S'.E k=V.dead
  ·rw [hd];exact .one .dead
  ·rcases hE k with (h1 | h1) | h1
   ·rw [h1];exact h.dQ (fun y hy=>hγ k y hk hd hy)
   ·rw [h1];exact (loose h).dQ (fun y hy=>hγ k y hk hd (ai9 _ y hy))
   ·exact absurd h1 hd
 refine ⟨R.size,R.defers,fun i=>slot (.s i) _ rfl (R.slot i),?_,?_,?_,?_,R.fq,R.eM,R.fA⟩
 ·intro r c x hx gj;have jh:S'.E (.b r c)≠V.dead:=by rw [hx];intro e;exact gj (by simpa [V.dead] using e)
  obtain ⟨x0,mn⟩:=R.kf r c;have aj2:x0≠.dead:=by
   rintro rfl;apply jh;rcases hE (.b r c) with (h1 | h1) | h1
   ·rw [h1,mn];rfl
   ·rw [h1,mn];rfl
   ·exact h1
  have vK:x0=x:=by
   rcases hE (.b r c) with (h1 | h1) | h1
   ·rw [hx,mn] at h1;simpa using h1.symm
   ·rw [hx,mn] at h1;simpa [V.oK,C.oK] using h1.symm
   ·exact absurd h1 jh
  have oB:=R.cell r c x0 mn aj2;have tr:∀v,aF nm w L S.γ (.b r c) 0 x0 v→aF nm w L S'.γ (.b r c) 0 x v:=by
   intro v hv;have:=slot (.b r c) v rfl (by rw [mn];exact .one hv);rw [hx] at this;exact this.cQ
  have ex:(∃B o cur e fz v,L B=some (.box r o)∧w.heap[B]? = some (.cells cur e fz)∧jC cur.size fz∧cur[o+c]? = some v∧aF nm w L S.γ (.b r c) 0 x0 v∧lJ x0 B o c e cur.size v)→
    ∃B o cur e fz v,L B=some (.box r o)∧w.heap[B]? = some (.cells cur e fz)∧jC cur.size fz∧cur[o+c]? = some v∧aF nm w L S'.γ (.b r c) 0 x v∧lJ x B o c e cur.size v:=
   fun ⟨B,o,cur,e,fz,v,h1,h2,h3,h4,h5,h6⟩=>⟨B,o,cur,e,fz,v,h1,h2,h3,h4,tr v h5,vK▸h6⟩
  cases r with
  | g i=>obtain ⟨v,hv⟩:=oB;exact ⟨v,tr v hv⟩
  | e i=>exact ex oB
  | l i=>exact ex oB
 ·intro r c;obtain ⟨x0,mn⟩:=R.kf r c;rcases hE (.b r c) with (h1 | h1) | h1
  ·exact ⟨x0,by rw [h1,mn]⟩
  ·exact ⟨x0.oK,by rw [h1,mn];rfl⟩
  ·exact ⟨.dead,h1⟩
 ·intro r c hc;by_cases hd:S'.E (.b r c)=V.dead
  ·exact hd
  ·rw [hb r c hd] at hc;have:=R.bound r c hc;rcases hE (.b r c) with (h1 | h1) | h1
   ·rw [h1];exact this
   ·rw [h1,this];rfl
   ·exact h1
 ·intro r hg dM;have:=hr r (by omega);rw [this] at dM ⊢;exact R.room r hg dM
theorem get_mem:∀(S:St) (k:Key),S.get k=⟨.one .dead,0⟩∨(k,S.get k)∈S
 | [],k=>.inl rfl
 | (k',e)::t,k=>by
  simp only [St.get];by_cases h:k'=k
  ·subst h;rw [aJ rfl];exact .inr (by simp)
  ·rw [az h];exact (get_mem t k).imp id (fun h=>by simp [h])
theorem get_filter (p:Key→Bool):∀(S:St) (k:Key),St.get (S.filter fun x=>p x.1) k=if p k=true then S.get k else ⟨.one .dead,0⟩
 | [],k=>by simp [St.get]
 | (k',e)::t,k=>by
  have ih:=get_filter p t k;by_cases hp:p k'=true
  ·rw [List.filter_cons,aJ (by simpa using hp)];simp only [St.get];by_cases h:k'=k
   ·subst h;simp [hp]
   ·simp [h,ih]
  ·rw [List.filter_cons,az (by simpa using hp)];simp only [St.get];by_cases h:k'=k
   ·subst h;rw [ih];simp [hp]
   ·simp [h,ih]
theorem Pq (refs:List Key):∀(S:St) (k:Key),(reset refs S).get k = { (S.get k) with g:=Ms refs k (S.get k).g }
 | [],k=>by
  simp only [reset,St.get,Ms];split
  ·rfl
  ·cases k<;>rfl
 | (k',e)::t,k=>by
  simp only [reset,St.get];by_cases h:k'=k
  ·subst h;simp
  ·simp only [h,dE];exact Pq refs t k
theorem Yo:∀(S:St) (k:Key),(Af S).get k = { (S.get k) with v:=(S.get k).v.oK }
 | [],k=>rfl
 | (k',e)::t,k=>by
  simp only [Af,St.get];by_cases h:k'=k
  ·subst h;simp
  ·simp only [h,dE];exact Yo t k
mutual
theorem C.EZ:∀(c:C) (k:Key),k∈c.eB→k∈c.refs∨∃r,k = .r r
 | .view pl _ _ _ _,k,h=>.inl h
 | .eD pl _ _ _ _,k,h=>.inl h
 | .c7 pl _ _ _ _,k,h=>.inl h
 | .gk i _,k,h=>.inl h
 | .ptr r _ _,k,h=>.inr ⟨r,by simpa [C.eB] using h⟩
 | .fn _ a b,k,h=>by
  simp only [C.eB,dC] at h;simp only [C.refs,dC];rcases h with h | h
  ·exact (Jg a k h).imp .inl id
  ·exact (Jg b k h).imp .inr id
 | .d _,k,h=>by simp [C.eB] at h
 | .pp _,k,h=>by simp [C.eB] at h
 | .cE,k,h=>by simp [C.eB] at h
 | .eW,k,h=>by simp [C.eB] at h
 | .fQ,k,h=>by simp [C.eB] at h
 | .fj,k,h=>by simp [C.eB] at h
 | .dead,k,h=>by simp [C.eB] at h
theorem Jg:∀(l:List C) (k:Key),k∈p6 l→k∈Dt l∨∃r,k = .r r
 | [],k,h=>by simp [p6] at h
 | c::t,k,h=>by
  simp only [p6,dC] at h;simp only [Dt,dC];rcases h with h | h
  ·exact (C.EZ c k h).imp .inl id
  ·exact (Jg t k h).imp .inr id
end
mutual
theorem V.EZ:∀(x:V) (k:Key),k∈x.eB→k∈x.refs∨∃r,k = .r r
 | .one c,k,h=>C.EZ c k h
 | .agg cs,k,h=>Jg cs k h
 | .aq vs,k,h=>YB vs k h
theorem YB:∀(l:List V) (k:Key),k∈sv l→k∈Mp l∨∃r,k = .r r
 | [],k,h=>by simp [sv] at h
 | c::t,k,h=>by
  simp only [sv,dC] at h;simp only [Mp,dC];rcases h with h | h
  ·exact (V.EZ c k h).imp .inl id
  ·exact (YB t k h).imp .inr id
end
theorem Vm:∀(S:St) {k:Key} {e:mL},(k,e)∈S→∀x∈e.v.refs,x∈allRefs S
 | [],k,e,h,x,hx=>by simp at h
 | (k',e')::t,k,e,h,x,hx=>by
  simp only [allRefs,dC];rcases gV.1 h with h | h
  ·cases h;exact .inl hx
  ·exact .inr (Vm t h x hx)
theorem Yn (S:St) (k:Key):(EA S).get k=S.get k:=by
 unfold EA;rw [get_filter (fun k=>!OH S k) S k];split
 ·rfl
 ·rename_i h;simp only [nA,Bool.not_eq_false] at h;unfold OH at h;split at h
  ·rename_i k;generalize S.get (.a k)=e at h ⊢;unfold ZI at h;split at h
   ·rw [mJ h]
   ·cases h
  ·cases h
theorem anX {keep:List Nat} {S':St} (R:Rel nm N S a w L) (h:S.RZ keep=some S'):Rel nm N S' a w L:=by
 unfold St.RZ at h;dsimp only at h;split at h
 ·rename_i zt;simp only [aj] at h;have ql:Rel nm N (reset (allRefs (S.filter fun x=>kept keep x.1)) (S.filter fun x=>kept keep x.1)) a w L→Rel nm N S' a w L:=by
   subst h;intro hR;unfold Rel at hR ⊢;have e1:(EA (reset (allRefs (S.filter fun x=>kept keep x.1)) (S.filter fun x=>kept keep x.1))).E=(reset (allRefs (S.filter fun x=>kept keep x.1)) (S.filter fun x=>kept keep x.1)).E:=by
    funext k;unfold St.E;rw [Yn]
   have e2:(EA (reset (allRefs (S.filter fun x=>kept keep x.1)) (S.filter fun x=>kept keep x.1))).γ=(reset (allRefs (S.filter fun x=>kept keep x.1)) (S.filter fun x=>kept keep x.1)).γ:=by
    funext k;unfold St.γ;rw [Yn]
   rw [e1,e2];exact hR
  refine ql ?_;clear ql h;have hg:∀k,(reset (allRefs (S.filter fun x=>kept keep x.1)) (S.filter fun x=>kept keep x.1)).E k=if kept keep k=true then S.E k else V.dead:=by
   intro k;unfold St.E;rw [Pq,get_filter];split<;>rfl
  have hkb:∀r c,kept keep (.b r c)=true:=fun _ _=>rfl
  have ud:∀r,kept keep (.r r)=true:=fun _=>rfl
  refine R.forget ?_ ?_ ?_ ?_
  ·intro k;rw [hg];split
   ·exact .inl (.inl rfl)
   ·exact .inr rfl
  ·intro r _;rw [hg,aJ (ud r)]
  ·intro r c _;rw [hg,aJ (ud r)]
  ·intro k y hk hd hy;rw [hg] at hd;split at hd
   ·rename_i hkk;have hγ:∀z,(z∈allRefs (S.filter fun x=>kept keep x.1)∨∃r,z = .r r)→kept keep z=true→(reset (allRefs (S.filter fun x=>kept keep x.1)) (S.filter fun x=>kept keep x.1)).γ z=S.γ z:=by
     intro z hz hkz;unfold St.γ;rw [Pq,get_filter,aJ hkz];simp only [Ms];rcases hz with hz | ⟨r,rfl⟩
     ·rw [aJ (by simpa using hz)]
     ·split<;>rfl
    rcases V.EZ _ _ hy with hr | ⟨r,rfl⟩
    ·have hm:y∈allRefs (S.filter fun x=>kept keep x.1):=by
      have h0:=get_filter (kept keep) S k;rw [aJ hkk] at h0;rcases get_mem (List.filter (fun x=>kept keep x.1) S) k with h1 | h1
      ·rw [h0] at h1;have:S.E k = .one .dead:=by unfold St.E;rw [h1]
       rw [this] at hr;simp [V.refs,C.refs] at hr
      ·refine Vm _ h1 y ?_;rw [h0];exact hr
     exact hγ y (.inl hm) (lH.1 zt y hm)
    ·exact hγ _ (.inr ⟨r,rfl⟩) (ud r)
   ·exact absurd rfl hd
 ·cases h
theorem anY {keep:List Nat} {S':St} (R:Rel nm N S a w L) (h:S.norm keep=some S'):Rel nm N S' a w L:=anX R h
mutual
theorem C.E0:∀(c:C) (k:Key),k∈c.eB→(∀r,k.uz = some r→r∈c.wq)
 | .view pl _ _ _ _,k,h,r,hr=>by
  simp only [C.eB,uO] at h;subst h;simp [C.wq,hr]
 | .eD pl _ _ _ _,k,h,r,hr=>by
  simp only [C.eB,uO] at h;subst h;simp [C.wq,hr]
 | .c7 pl _ _ _ _,k,h,r,hr=>by
  simp only [C.eB,gV,nB,nD] at h;rcases h with rfl | rfl
  ·simp [C.wq,hr]
  ·cases hr
 | .gk i _,k,h,r,hr=>by
  simp only [C.eB,uO] at h;subst h;simp only [Key.uz,aj] at hr;simp [C.wq,hr]
 | .ptr r0 _ _,k,h,r,hr=>by
  simp only [C.eB,uO] at h;subst h;simp only [Key.uz,aj] at hr;simp [C.wq,hr]
 | .fn _ a b,k,h,r,hr=>by
  simp only [C.eB,dC] at h;simp only [C.wq,dC];rcases h with h | h
  ·exact .inl (Jh a k h r hr)
  ·exact .inr (Jh b k h r hr)
 | .d _,k,h,_,_=>by simp [C.eB] at h
 | .pp _,k,h,_,_=>by simp [C.eB] at h
 | .cE,k,h,_,_=>by simp [C.eB] at h
 | .eW,k,h,_,_=>by simp [C.eB] at h
 | .fQ,k,h,_,_=>by simp [C.eB] at h
 | .fj,k,h,_,_=>by simp [C.eB] at h
 | .dead,k,h,_,_=>by simp [C.eB] at h
theorem Jh:∀(l:List C) (k:Key),k∈p6 l→(∀r,k.uz = some r→r∈Dw l)
 | [],k,h,_,_=>by simp [p6] at h
 | c::t,k,h,r,hr=>by
  simp only [p6,dC] at h;simp only [Dw,dC];rcases h with h | h
  ·exact .inl (C.E0 c k h r hr)
  ·exact .inr (Jh t k h r hr)
end
mutual
theorem V.E0:∀(x:V) (k:Key),k∈x.eB→(∀r,k.uz = some r→r∈x.roots)
 | .one c,k,h,r,hr=>C.E0 c k h r hr
 | .agg cs,k,h,r,hr=>Jh cs k h r hr
 | .aq vs,k,h,r,hr=>YC vs k h r hr
theorem YC:∀(l:List V) (k:Key),k∈sv l→(∀r,k.uz = some r→r∈Mu l)
 | [],k,h,_,_=>by simp [sv] at h
 | c::t,k,h,r,hr=>by
  simp only [sv,dC] at h;simp only [Mu,dC];rcases h with h | h
  ·exact .inl (V.E0 c k h r hr)
  ·exact .inr (YC t k h r hr)
end
theorem aiU {S':St} (R:Rel nm N S a w L) (h:S.gc=some S'):Rel nm N S' a w L:=by
 unfold St.gc at h;dsimp only at h;generalize Pr S 3 (Tw S)=live at h;split at h
 ·rename_i zt;simp only [aj] at h;subst h;have ua:∀k,(Af (S.filter fun x=>pY live x.1)).get k=if pY live k=true then ⟨(S.get k).v.oK,(S.get k).g⟩ else ⟨.one .dead,0⟩:=by
   intro k;rw [Yo,get_filter];split<;>rfl
  have hg:∀k,(Af (S.filter fun x=>pY live x.1)).E k=if pY live k=true then (S.E k).oK else V.dead:=by
   intro k;unfold St.E;rw [ua];split<;>rfl
  have aju:∀r c,pY live (.b r c)=pY live (.r r):=fun _ _=>rfl
  have aZ:∀r,pY live (.r r)=true→(Af (S.filter fun x=>pY live x.1)).E (.r r)=(S.E (.r r)).oK:=fun r h=>by rw [hg,aJ h]
  have YE:∀x:V,cm x.oK=cm x:=by
   intro x;cases x with
   | one c=>
    cases c with
    | d z=>cases z with
     | sl t sz rows=>cases t<;>rfl
     | _=>rfl
    | _=>rfl
   | _=>rfl
  have Qp:∀x:V,cm x≠0→x.oK=x:=by
   intro x hx;cases x with
   | one c=>
    cases c with
    | d z=>cases z with
     | sl t sz rows=>simp [cm] at hx
     | _=>rfl
    | _=>rfl
   | _=>rfl
  refine R.forget ?_ ?_ ?_ ?_
  ·intro k;rw [hg];split
   ·exact .inl (.inr rfl)
   ·exact .inr rfl
  ·intro r hr;rw [hg] at hr ⊢;split at hr
   ·rename_i hk;rw [aJ hk];rw [YE] at hr;exact Qp _ hr
   ·exact absurd rfl hr
  ·intro r c hd;rw [hg] at hd;split at hd
   ·rename_i hk;rw [hg,aJ (by rw [←aju r c];exact hk),YE]
   ·exact absurd rfl hd
  ·intro k y hk hd hy;rw [hg] at hd;split at hd
   ·rename_i hkk;have zC:pY live y=true:=by
     unfold pY;split
     ·rename_i r hr;have hm:=V.E0 _ _ hy r hr;have h0:=get_filter (pY live) S k;rw [aJ hkk] at h0;rcases get_mem (List.filter (fun x=>pY live x.1) S) k with h1 | h1
      ·rw [h0] at h1;have:S.E k = .one .dead:=by unfold St.E;rw [h1]
       rw [this] at hy;simp [V.eB,C.eB] at hy
      ·rw [h0] at h1;have:=lH.1 zt _ h1;exact lH.1 this r hm
     ·rfl
    unfold St.γ;rw [ua,aJ zC]
   ·exact absurd rfl hd
 ·cases h
theorem aoQ (vA:P.follows .mixedOrders=true) (hc:wQ P nm G Cl) (hN:hh.nt=N) {id:Nat} {draw:Bool} {keep:Option (List Nat)} {gc:Bool} {l:List gB} (hl:Ez P nm hh ops=some l) (aS:draw=true→IQ ops=true) (R:Rel nm N S a w L) (hH:eI L) (hG:GI G w L) {Sf:St}
  (he:po Cl keep gc l (if draw then some (unordered ops) else none) S=some Sf) {Q:Exit→Act→World→Prop} (hQ:∀a' w' L',oe nm N Sf w L a' w' L'→Q .normal a' w'):(Code.region id ops draw).wp P Q a w:=by
 unfold po at he;obtain ⟨S1,h1,h2⟩:=fp.1 he;obtain ⟨S2,h3,h4⟩:=fp.1 h2;have R1:Rel nm N S1 a w L:=by
  cases keep with
  | none=>simp only [aj] at h1;subst h1;exact R
  | some kl=>exact anY R h1
 have R2:Rel nm N S2 a w L:=by
  cases gc with
  | false=>simp only [rQ,dE,aj] at h3;subst h3;exact R1
  | true=>simp only [bV] at h3;exact aiU R1 h3
 obtain ⟨g1,g2⟩:=IG hl;have arc:∀(l':List gB) {S Sf:St} {F:List lK},il Cl l' S=some (Sf,F)→ma Cl l' S=some Sf:=by
  intro l';induction l' with
  | nil=>intro S Sf F h;simp only [il,aj,fJ] at h;simp [ma,h.1]
  | cons o t ih=>
   intro S Sf F h;simp only [il] at h;simp only [ma];cases hw:(gw Cl o).run S with
   | none=>simp [hw] at h
   | some ws=>
    simp only [hw,Option.bind_some] at h ⊢;obtain ⟨⟨S1,F1⟩,k1,k2⟩:=bG h;simp only [fJ] at k2;rw [k2.1];exact ih k1
 cases draw with
 | false=>
  simp only [rQ,dE] at h4;refine wp_region ?_;rw [List.range_eq_range'];exact abz hc hN hl ops.size 0 (by omega) R2 hH hG (by simpa using h4) hQ
 | true=>
  have ai5:Rel nm N S2 a w.drew L:=R2.drew;have ajo:∃F,il Cl l S2=some (Sf,F)∧Sq F (unordered ops)=true:=by
   simp only [bV] at h4;split at h4
   ·rename_i heq;cases heq
   ·rename_i hun;have iW:∀(l':List gB) {S Sf:St},ma Cl l' S=some Sf→∃F,il Cl l' S=some (Sf,F):=by
     intro l';induction l' with
     | nil=>intro S Sf h;simp only [ma,aj] at h;exact ⟨[],by simp [il,h]⟩
     | cons o t ih=>
      intro S Sf h;simp only [ma] at h;simp only [il];cases hw:(gw Cl o).run S with
      | none=>simp [hw] at h
      | some ws=>
       simp only [hw,Option.bind_some] at h ⊢;obtain ⟨F,k1⟩:=ih h;exact ⟨_,by rw [k1];rfl⟩
    obtain ⟨F,k1⟩:=iW l h4;refine ⟨F,k1,?_⟩;have:unordered ops=[]:=by simpa using hun
    rw [this];rfl
   ·rename_i ps _ e8;obtain ⟨⟨S3,F⟩,k1,k2⟩:=fp.1 h4;split at k2
    ·rename_i hp;simp only [aj] at k2;subst k2;have:unordered ops=ps:=by simpa using e8
     exact ⟨F,k1,by rw [this];exact hp⟩
    ·cases k2
  obtain ⟨F,hF,ajM⟩:=ajo;have hFl:F.length=l.length:=by
   have:∀(l':List gB) {S Sf:St} {F:List lK},il Cl l' S=some (Sf,F)→F.length=l'.length:=by
    intro l';induction l' with
    | nil=>
     intro S Sf F h;simp only [il,aj,fJ] at h;rw [←h.2];rfl
    | cons o t ih=>
     intro S Sf F h;simp only [il] at h;cases hw:(gw Cl o).run S with
     | none=>simp [hw] at h
     | some ws=>
      simp only [hw,Option.bind_some] at h;obtain ⟨⟨S1,F1⟩,k1,k2⟩:=bG h;simp only [fJ] at k2;rw [k2.2];simp [ih k1]
   exact this l hF
  refine wp_region_any vA ?_;have ajA:(List.range ops.size).map (fun i=>l.getD i default)=l:=by
   apply UL;intro i;rw [bO];by_cases hi:i < ops.size
   ·rw [HF hi];simp [kC,show i < l.length by omega]
   ·rw [pR (by simp;omega),pR (by omega)];rfl
  have ajB:(List.range ops.size).map (fun i=>F.getD i ⟨[],[]⟩)=F:=by
   apply UL;intro i;rw [bO];by_cases hi:i < ops.size
   ·rw [HF hi];simp [kC,show i < F.length by omega]
   ·rw [pR (by simp;omega),pR (by omega)];rfl
  refine Vr (S:=S2) (Sf:=Sf) (L:=L) hc hN hl (aS rfl) (φ:=fun i=>F.getD i ⟨[],[]⟩) ?_ ops.size (List.range ops.size) _ (by simp) (by simp) aeK ?_ ?_ ai5 hH (show GI G w.drew L from hG) (by rw [ajA,ajB];exact hF) ?_
  ·intro i j hij hj hb;have hm:(i,j)∈unordered ops:=by
    unfold unordered;refine Nc.2 ⟨j,tE.2 hj,List.mem_filterMap.2 ⟨i,tE.2 hij,?_⟩⟩;rw [hb];rfl
   have:=lH.1 ajM (i,j) hm;simp only at this;rw [ke (by omega),ke (by omega)] at this;simp only [kC,ke (show i < F.length by omega),ke (show j < F.length by omega),Option.getD_some];exact this
  ·intro i;rw [tE];constructor
   ·intro hi;exact ⟨hi,by simp [iw,hi]⟩
   ·exact fun h=>h.1
  ·intro i o ho hi;have:i < ops.size:=(lG.1 ho).1;simp [iw,this] at hi
  ·intro a' w' L' D;exact hQ a' w' L' ⟨D.rel,(de.drew w L).trans D.mono,D.xR⟩
end
end
section
section
variable {nm:FuncId→Option Nat} {G:Nat→Option Obj} {N:Nat} {P:Program} {Cl:bW} {hh:Hint}
def aiy:tI→Exit
 | .norm=>.normal
 | .exit id=>.exit id
 | .ret=>.ret
theorem least {p:Nat→Prop} (h:∃n,p n):∃n,p n∧∀m,m < n→¬ p m:=by
 obtain ⟨n,hn⟩:=h;induction n using Nat.strongRecOn with
 | _ n ih=>
  by_cases hx:∃m,m < n∧p m
  ·obtain ⟨m,h1,h2⟩:=hx;exact ih m h1 h2
  ·exact ⟨n,hn,fun m hm hp=>hx ⟨m,hm,hp⟩⟩
theorem afE (vA:P.follows .mixedOrders=true) (hc:wQ P nm G Cl) (hN:hh.nt=N) (n:Nat):∀(c:Code) {ic:lY},mP P nm hh c=some ic→∀{S S':St} {e:tI},dm Cl n ic S=some (e,S')→
  ∀{a:Act} {w:World} {L:aw},Rel nm N S a w L→eI L→GI G w L→∀{Q:Exit→Act→World→Prop},(∀a' w' L',oe nm N S' w L a' w' L'→Q (aiy e) a' w')→c.wp P Q a w:=by
 have bad:∀{S S':St} {e:tI},dm Cl n (.ja none false [⟨none,.bad,none⟩] none) S=some (e,S')→False:=by
  intro S S' e h;simp [dm,po,ma,gw,BR,bp] at h
 intro c;induction c with
 | skip=>
  intro ic c8 S S' e he a w L R hH hG Q hQ;simp only [mP,aj] at c8;subst c8;simp only [dm,aj,fJ] at he;obtain ⟨rfl,rfl⟩:=he;exact wp_skip (hQ a w L ⟨R,de.refl w L,hH⟩)
 | region id ops draw=>
  intro ic c8 S S' e he a w L R hH hG Q hQ;simp only [mP] at c8;obtain ⟨l,h1,h2⟩:=bind_some c8;split at h2
  ·cases h2
  ·rename_i iF;cases h2;simp only [dm] at he;obtain ⟨Sf,h3,h4⟩:=bG he;simp only [fJ] at h4;obtain ⟨rfl,rfl⟩:=h4;refine aoQ vA hc hN h1 (fun hd=>?_) R hH hG h3 hQ;cases hx:IQ ops with
   | true=>rfl
   | false=>exact absurd ⟨hd,hx⟩ iF
 | seq x y QV QW=>
  intro ic c8 S S' e he a w L R hH hG Q hQ;simp only [mP] at c8;obtain ⟨ix,h1,h2⟩:=bind_some c8;obtain ⟨iy,h3,h4⟩:=bind_some h2;cases h4;simp only [dm] at he;obtain ⟨⟨e1,S1⟩,h5,h6⟩:=fp.1 he;refine wp_seq (QV h1 h5 R hH hG (fun a' w' L' D=>?_));cases e1 with
  | norm=>
   simp only at h6;exact QW h3 h6 D.rel D.xR (hG.mono D.mono) (fun Vk tv D8 D'=>hQ _ _ _ (D.trans D'))
  | exit id=>
   simp only [aj,fJ] at h6;obtain ⟨rfl,rfl⟩:=h6;exact hQ _ _ _ D
  | ret=>
   simp only [aj,fJ] at h6;obtain ⟨rfl,rfl⟩:=h6;exact hQ _ _ _ D
 | cond c x y QV QW=>
  intro ic c8 S S' e he a w L R hH hG Q hQ;simp only [mP] at c8;obtain ⟨cx,h0,h1⟩:=bind_some c8;obtain ⟨ix,h2,h3⟩:=bind_some h1;obtain ⟨iy,h4,h5⟩:=bind_some h3;cases h5;simp only [dm] at he;obtain ⟨t,h6,h7⟩:=fp.1 he;have hb:a.eval c = .bool t:=by
   unfold yY at h6;obtain ⟨v,g1,g2⟩:=fp.1 h6;have rv:=rd_val R (eQ h0).1 g1;split at g2
   ·simp only [aj] at g2;subst g2;exact rv.cQ.r7
   ·cases g2
  refine wp_cond hb ?_;cases t with
  | true=>exact QV h2 (by simpa using h7) R hH hG hQ
  | false=>exact QW h4 (by simpa using h7) R hH hG hQ
 | block id b ih=>
  intro ic c8 S S' e he a w L R hH hG Q hQ;simp only [mP] at c8;obtain ⟨ib,h1,rfl⟩:=bG c8;simp only [dm] at he;obtain ⟨⟨e1,S1⟩,h2,h3⟩:=bG he;simp only [fJ] at h3;obtain ⟨h3,rfl⟩:=h3;refine wp_block (ih h1 h2 R hH hG (fun a' w' L' D=>?_));cases e1 with
  | norm=>subst h3;exact hQ _ _ _ D
  | exit i=>
   show Exit.inBlock id Q (.exit i) a' w';simp only [Exit.inBlock];by_cases hi:i=id
   ·subst hi;simp only [bV] at h3 ⊢;subst h3;exact hQ _ _ _ D
   ·simp only [hi,dE] at h3 ⊢;subst h3;exact hQ _ _ _ D
  | ret=>subst h3;exact hQ _ _ _ D
 | loop b ih=>
  intro ic c8 S S' e he a w L R hH hG Q hQ;simp only [mP] at c8;obtain ⟨ib,h1,rfl⟩:=bG c8;simp only [dm] at he;let Good:Nat→Act→World→Prop:=fun m a1 w1=>∃S1 L1,oe nm N S1 w L a1 w1 L1∧iter (dm Cl n ib) m S1=some (e,S')
  let μ:Act→World→Nat:=fun a1 w1=>open Classical in if h:∃m,Good m a1 w1 then Classical.choose (least h) else 0
  have hμ:∀{a1 w1} (h:∃m,Good m a1 w1),Good (μ a1 w1) a1 w1∧∀m,m < μ a1 w1→¬ Good m a1 w1:=by
   intro a1 w1 h;have:=Classical.choose_spec (least h);simp only [μ,dif_pos h];exact this
  refine wp_loop (fun a1 w1=>∃m,Good m a1 w1) μ ⟨n,S,L,⟨R,de.refl w L,hH⟩,he⟩ ?_;intro a1 w1 hI;obtain ⟨⟨S1,L1,D1,Ff⟩,ari⟩:=hμ hI;cases hm:μ a1 w1 with
  | zero=>rw [hm] at Ff;simp [iter] at Ff
  | succ m=>
   rw [hm] at Ff;simp only [iter] at Ff;obtain ⟨⟨e1,S2⟩,h2,h3⟩:=fp.1 Ff;refine ih h1 h2 D1.rel D1.xR (hG.mono D1.mono) (fun a' w' L' D=>?_);cases e1 with
   | norm=>
    simp only at h3;have hg:Good m a' w':=⟨S2,L',D1.trans D,h3⟩
    refine ⟨⟨m,hg⟩,?_⟩;rcases yG m (μ a' w') with h | h
    ·exact absurd hg ((hμ ⟨m,hg⟩).2 m h)
    ·omega
   | exit id=>
    simp only [aj,fJ] at h3;obtain ⟨rfl,rfl⟩:=h3;exact hQ _ _ _ (D1.trans D)
   | ret=>
    simp only [aj,fJ] at h3;obtain ⟨rfl,rfl⟩:=h3;exact hQ _ _ _ (D1.trans D)
 | exit id=>
  intro ic c8 S S' e he a w L R hH hG Q hQ;simp only [mP,aj] at c8;subst c8;simp only [dm,aj,fJ] at he;obtain ⟨rfl,rfl⟩:=he;exact wp_exit (hQ a w L ⟨R,de.refl w L,hH⟩)
 | ret=>
  intro ic c8 S S' e he a w L R hH hG Q hQ;simp only [mP,aj] at c8;subst c8;simp only [dm,aj,fJ] at he;obtain ⟨rfl,rfl⟩:=he;exact wp_ret (hQ a w L ⟨R,de.refl w L,hH⟩)
 | _=>
  intros
  rename_i c8 S S' e he a w L R hH hG Q hQ;simp only [mP,aj] at c8;subst c8;exact (bad he).elim
end
end
section
section
variable {nm:FuncId→Option Nat} {N:Nat} {S S0:St} {a:Act} {w w0:World} {L L0:aw} {P:Program} {o:Oper} {Cl:bW} {d:Nat} {ws:List Wr} {γ:Key→Nat}
def kq (L:aw):aw:=fun B=>
 match L B with
 | some (.row q o)=>if q.k = .h 0 then some .bh else some (.row q o)
 | x=>x
theorem I8 {B:Nat} (h:L B=some .bh):kq L B=some .bh:=by simp [kq,h]
theorem BL {B o:Nat} {r:aI}:kq L B=some (.box r o)↔L B=some (.box r o):=by
 unfold kq;split
 ·rename_i q o' hL;rw [hL];split<;>simp
 ·rfl
theorem aiR {B:Nat} (h:L B=none):kq L B=none:=by simp [kq,h]
theorem Yh {B o:Nat} {q:Place} (h:L B=some (.row q o)) (hq:q.k≠.h 0):kq L B=some (.row q o):=by simp [kq,h,hq]
theorem aiQ {B o:Nat} {q:Place} (h:L B=some (.row q o)) (hq:q.k = .h 0):kq L B=some .bh:=by simp [kq,h,hq]
theorem I9 {B o:Nat} {q:Place} (h:kq L B=some (.row q o)):L B=some (.row q o)∧q.k≠.h 0:=by
 unfold kq at h;split at h
 ·rename_i q0 o0 hL;split at h
  ·cases h
  ·rename_i hq;simp only [aj,bQ.row.injEq] at h;obtain ⟨rfl,rfl⟩:=h;exact ⟨hL,hq⟩
 ·rename_i h1;exact absurd h (h1 q o)
theorem aiP {B:Nat} {l:bQ} (h:kq L B=some l):∃l0,L B=some l0:=by
 unfold kq at h;split at h
 ·rename_i q0 o0 hL;exact ⟨_,hL⟩
 ·exact ⟨_,h⟩
theorem ch.I7 (M:ch nm N S0 w0 L0 ws a w L):ch nm N S0 w0 L0 ws a w (kq L)∧Step w w L (kq L) (S0.ah ws).γ (S0.ah ws).γ:=by
 have cr:∀{q:Place},q.k.aT=true→q.k≠.h 0:=fun h e=>by rw [e] at h;simp [Key.aT] at h
 have bA:Step w w L (kq L) (S0.ah ws).γ (S0.ah ws).γ:=
  ⟨fun B hB=>⟨I8 hB,rfl⟩,fun _=>bT _,fun B q o hq _ hB=>⟨Yh hB (cr hq),fun cur e fz h=>⟨cur,h,rfl⟩⟩,fun _ _ _ _ _ _ _=>rfl,fun B r o _ hB=>BL.2 hB⟩
 refine ⟨⟨M.rel.Ja ?_ ?_ ?_ ?_,M.di.trans bA,M.mono.trans ⟨rfl,rfl,rfl,bT _,fun B hB=>⟨I8 hB,rfl⟩,fun B _ hB=>⟨aiR hB,rfl⟩,fun B i o hB=>BL.2 hB⟩,?_,M.heap,M.vM,fun B r o hB=>BL.2 (M.boxes B r o hB)⟩,bA⟩
 ·intro B l hB hl;refine ⟨rfl,?_⟩;cases l with
  | bh=>exact I8 hB
  | box r o=>exact BL.2 hB
  | row q o=>exact Yh hB (cr (hl q o rfl))
 ·intro B l hB;obtain ⟨l0,h0⟩:=aiP hB;exact M.rel.fq B l0 h0
 ·intro B B' pl o o' h1 h2;exact M.rel.eM B B' pl o o' (I9 h1).1 (I9 h2).1
 ·intro B B' r o o' h1 h2;exact M.rel.fA B B' r o o' (BL.1 h1) (BL.1 h2)
 ·intro B q o hq hB;exact M.rows B q o hq (I9 hB).1
theorem aos (x:D):(C.d (kY x)).clean=true:=by
 cases x with
 | sl t sz rows=>cases t<;>rfl
 | _=>rfl
theorem aF.Ma {k':Key} {j j':Nat} {c:C} {v:Value} (bA:Step w w L (kq L) γ γ) (h:aF nm w L γ (.h 0) j c v) (hc:∀pl g a sz rows,c≠.c7 pl g a sz rows):aF nm w (kq L) γ k' j' c.plain v∧c.plain.clean=true:=by
 cases c with
 | d x=>
  cases h with
  | d h=>
   exact ⟨.d (.plain (br.freeze (fun q=>q.k = .h 0) (fun _ _ _ h=>h) (fun B hB=>⟨I8 hB,rfl⟩) (fun B q o hq hL=>⟨aiQ hL hq,rfl⟩) h rfl)),aos x⟩
 | c7 pl g a sz rows=>exact absurd rfl (hc pl g a sz rows)
 | bt t=>exact absurd rfl (h.LD t)
 | mp x=>exact ⟨.dead,rfl⟩
 | _=>exact ⟨h.rD bA (h.u4 rfl) _ _,h.u4 rfl⟩
theorem TI {c:C} {rr:C×List Wr} (h:(st ws c).run S=some rr):∀pl g a sz rows,rr.1≠.c7 pl g a sz rows:=by
 intro pl g a sz rows e;cases c with
 | view s5 g' cw off len=>
  simp only [st] at h;obtain ⟨res,h1,h2⟩:=Q.aK h;obtain ⟨_,h3⟩:=Q.ek h2;obtain rfl:=Q.aY h3;cases e
 | c7 s5 g' a' cw uA=>
  simp only [st] at h;obtain ⟨res,h1,h2⟩:=Q.aK h;have h3:=Q.ni h2;obtain ⟨_,h4⟩:=Q.ek h3;obtain rfl:=Q.aY h4;cases e
 | eD=>simp [st] at h
 | bt=>simp [st] at h
 | mp=>simp [st] at h
 | gk=>simp [st] at h
 | dead=>simp [st] at h
 | _=>simp only [st] at h;obtain rfl:=Q.aY h;cases e
theorem TF:∀(cs:List C) {ws:List Wr} {rr:List C×List Wr},(lD ws cs).run S=some rr→∀c∈rr.1,∀pl g a sz rows,c≠.c7 pl g a sz rows
 | [],ws,rr,h,c,hc=>by
  simp only [lD] at h;obtain rfl:=Q.aY h;simp at hc
 | x::cs,ws,rr,h,c,hc=>by
  simp only [lD] at h;obtain ⟨r1,h1,h2⟩:=Q.aK h;obtain ⟨r2,h3,h4⟩:=Q.aK h2;obtain rfl:=Q.aY h4;rcases gV.1 hc with rfl | hc
  ·exact TI h1
  ·exact TF cs h3 c hc
theorem LH (M:ch nm N S0 w0 L0 ws a w L) (h:∀B q o,L B=some (.row q o)→q.k.aT=false→q.k = .h 0):eI (kq L):=by
 intro B q o hB;obtain ⟨h1,h2⟩:=I9 hB;cases hq:q.k.aT with
 | true=>rfl
 | false=>exact absurd (h B q o h1 hq) h2
theorem WZ {cs:List C} (h:∀(j:Nat) c,cs[j]? = some c→c.clean=true):jo cs=true:=by
 induction cs with
 | nil=>rfl
 | cons c t ih=>
  simp only [jo,bK];exact ⟨h 0 c rfl,ih (fun j c' hj=>h (j+1) c' (by simpa using hj))⟩
theorem acp (R0:Rel nm N S0 a w0 L0):∀(xs:List (Bool×X)) (ps:List Operand) {ws:List Wr} {L:aw} (M:ch nm N S0 w0 L0 ws a w L) (hH:eI L) (hp:xs.length=ps.length) (hx:∀(j:Nat) X x,xs[j]? = some X→ps[j]? = some x→bR nm X.2 x∧X.2.iK=true) {rr:List V×List Wr} (hr:(yh ws xs).run S0=some rr),
  ∃L',ch nm N S0 w0 L0 rr.2 a w L'∧eI L'∧Step w w L L' (S0.ah ws).γ (S0.ah rr.2).γ∧rr.1.length=ps.length∧iB rr.1=true∧∀(j:Nat) x p,rr.1[j]? = some x→ps[j]? = some p→bD nm w L' (S0.ah rr.2).γ (.h 0) x (a.eval p)
 | [],[],ws,L,M,hH,hp,hx,rr,hr=>by
  simp only [yh] at hr;obtain rfl:=Q.aY hr;exact ⟨L,M,hH,Step.same w L (fun _=>bT _),rfl,rfl,fun j x p h=>by simp at h⟩
 | (b,X)::xs,p::ps,ws,L,M,hH,hp,hx,rr,hr=>by
  simp only [yh] at hr;obtain ⟨⟨v,fc⟩,h1,h2⟩:=Q.aK hr;clear hr;dsimp only at h2;obtain ⟨hX,PE⟩:=hx 0 (b,X) p rfl rfl;obtain ⟨L1,O1,V1⟩:=wA M R0 (hH.free 0) PE hX h1;dsimp only at O1 V1;have fin:∀{fx:List Wr} {L2:aw} {x':V} {rest:List V×List Wr},ch nm N S0 w0 L0 fx a w L2→eI L2→Step w w L L2 (S0.ah ws).γ (S0.ah fx).γ→x'.clean=true→bD nm w L2 (S0.ah fx).γ (.h 0) x' (a.eval p)→(yh fx xs).run S0=some rest→rr=(x'::rest.1,rest.2)→
    ∃L',ch nm N S0 w0 L0 rr.2 a w L'∧eI L'∧Step w w L L' (S0.ah ws).γ (S0.ah rr.2).γ∧rr.1.length=(p::ps).length∧iB rr.1=true∧∀(j:Nat) x p',rr.1[j]? = some x→(p::ps)[j]? = some p'→bD nm w L' (S0.ah rr.2).γ (.h 0) x (a.eval p'):=by
   intro fx L2 x' rest M2 Pw Hg aR rep h5 dM;obtain ⟨L3,M3,Px,np,Jv,xi,R3⟩:=acp R0 xs ps M2 Pw (by simpa using hp) (fun j X x h1 h2=>hx (j+1) X x (by simpa using h1) (by simpa using h2)) h5;subst dM;refine ⟨L3,M3,Px,Hg.trans np,by simp [Jv],by simp [iB,aR,xi],?_⟩;intro j x p' hj jJ;cases j with
   | zero=>
    simp only [kD,aj] at hj jJ;subst hj;subst jJ;exact rep.rD np aR _
   | succ j=>exact R3 j x p' (by simpa using hj) (by simpa using jJ)
  have aaF:∀{fc:List Wr} {L1:aw} {K:Place→Prop},Out nm N S0 w0 L0 ws fc a w L L1 K 0→∀B q o,L1 B=some (.row q o)→q.k.aT=false→q.k = .h 0:=by
   intro fc L1 K O B q o hB hq;by_cases hk:q.k = .h 0
   ·exact hk
   ·have:=hH B q o (O.xZ B q o hq hk hB);rw [hq] at this;cases this
  split at h2
  ·rename_i c;obtain ⟨⟨c',fx⟩,h3,h4⟩:=Q.aK h2;clear h2;obtain ⟨⟨vs,wJ⟩,h5,h6⟩:=Q.aK h4;clear h4;have dM:=Q.aY h6;obtain ⟨L2,O2,R2⟩:=uG (m:=0) (j:=0) (c:=c) (v:=a.eval p) O1.mid V1 h3;dsimp only at O2 R2 h5;have rX:=(O1.weaken (K':=fun q=>¬ (q.k = .h 0∧q.j=0)) (fun _ _=>trivial)).trans O2;obtain ⟨M3,np⟩:=O2.mid.I7;obtain ⟨R3,aR⟩:=aF.Ma (k':=.h 0) (j':=0) np R2 (TI h3);exact fin M3 (LH O2.mid (aaF rX)) (rX.di.trans np) (x':=.one c'.plain) aR (.one R3) h5 dM
  ·rename_i cs;obtain ⟨⟨eA,fx⟩,h3,h4⟩:=Q.aK h2;clear h2;obtain ⟨⟨vs,wJ⟩,h5,h6⟩:=Q.aK h4;clear h4;have dM:=Q.aY h6;obtain ⟨us,nN,hl,hV⟩:=V1
   obtain ⟨L2, O2, l2, R2⟩ := MF (m := 0) cs O1.mid 0 (fun j => us.getD j undef) (fun j c hc => by
     have hj : j < us.size := by rw [← hl]; exact (cB.1 hc).1
     have := hV j c _ hc (oc hj)
     simpa [Array.getD, hj] using this) h3
   dsimp only at O2 R2 h5 l2;have rX:=(O1.weaken (K':=fun q=>¬ (q.k = .h 0∧0≤q.j)) (fun _ _=>trivial)).trans O2;obtain ⟨M3,np⟩:=O2.mid.I7;have each:∀(j:Nat) c,(eA.map C.plain)[j]? = some c→c.clean=true∧∀u,us[j]? = some u→aF nm w (kq L2) (S0.ah fx).γ (.h 0) j c u:=by
    intro j c hc;rw [bO] at hc;cases hj:eA[j]? with
    | none=>simp [hj] at hc
    | some c0=>
     simp only [hj,fe,aj] at hc;subst hc;have:=R2 j c0 hj;rw [dc] at this;have hp:=aF.Ma (k':=.h 0) (j':=j) np this (TF _ h3 c0 (fm hj));refine ⟨hp.2,fun u hu=>?_⟩;have h1:=hp.1;simp only [iw,hu,Option.getD_some] at h1;exact h1
   refine fin M3 (LH O2.mid (aaF rX)) (rX.di.trans np) (x':=.agg (eA.map C.plain)) (WZ (fun j c hc=>(each j c hc).1)) ?_ h5 dM;rw [nN];exact .agg (by simp [l2,hl]) (fun j c u hc hu=>(each j c hc).2 u hu)
  ·cases h2
 | [],_::_,_,_,_,_,hp,_,_,_=>by simp at hp
 | _::_,[],_,_,_,_,hp,_,_,_=>by simp at hp
end
end
end Go.ax
