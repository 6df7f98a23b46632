/- A part of the proof. -/
import Derived.Test.YtfmpdgeiodnnfaaGreatDoorQ3
import Derived.Test.YtfmpdgeiodnnfaaGreatDoorQ11
import Derived.Test.YtfmpdgeiodnnfaaGreatDoorCards
import Derived.Test.YtfmpdgeiodnnfaaGreatDoorTie
import Derived.ProofKit
import Derived.Deep.DeepHandedRow
import Derived.Deep.DeepLaidRun
import Derived.Lib.LaidTab
import Derived.Stop.LaidErr
set_option maxRecDepth 100000
set_option linter.all false
namespace Go.Proofs.YtfmpdgeiodnnfaaGreatDoor.printerParts
open Go Go.ax Go.RowKit Go.Stop Go.ChangeShapes Go.WideShapes Go.ChangeAt QQ
theorem own:ownKnob Tryz.prog.godebug=none:=by kernel_rfl
theorem params:Tryz.f7.params.toList=[22,22]:=by kernel_rfl
theorem types:DP Tryz.prog 20 [22,22]=some [[.sl 1 [.int .i64]],[.sl 1 [.int .i64]]]:=by kernel_rfl
theorem afc (r:List D):tU Tryz.prog 22 r = .one (.d (r.headD .dead)):=by kernel_rfl
theorem ok_int {x:D} {k:IntKind} (h:ye (.int k) x):∃n,x = .int k n∧(Lit.int k n).wf=true:=by
 cases x<;>simp only [ye] at h;obtain ⟨rfl,h⟩:=h;exact ⟨_,rfl,h⟩
theorem abJ {x:D} {sz:Nat} {ts:List TS} (h:ye (.sl sz ts) x):∃b rows,x = .sl (.im b) sz rows∧(b=true→rows=[])∧∀r∈rows,lE ts r:=by
 cases x with
 | sl t cu rows=>
  cases t with
  | im b=>simp only [ye] at h;obtain ⟨rfl,h1,h2⟩:=h;exact ⟨b,rows,rfl,h1,h2⟩
  | own=>simp only [ye] at h
 | _=>simp only [ye] at h
theorem SD {t:TS} {ts:List TS} {r:List D} (h:lE (t::ts) r):∃x r',r=x::r'∧ye t x∧lE ts r':=by
 cases r with
 | nil=>simp only [lE] at h
 | cons x r'=>simp only [lE] at h;exact ⟨x,r',rfl,h.1,h.2⟩
theorem SE {r:List D} (h:lE [] r):r=[]:=by
 cases r with
 | nil=>rfl
 | cons=>simp only [lE] at h
theorem Tw:∀{rows:List (List D)},(∀r∈rows,lE [.int .i64] r)→∃l:List Int,rows=l.map bF
 | [],_=>⟨[],rfl⟩
 | r::rows,h=>by
  obtain ⟨x,q,rfl,k1,g1⟩:=SD (h r (by simp));obtain rfl:=SE g1;obtain ⟨n,rfl,_⟩:=ok_int k1;obtain ⟨l,rfl⟩:=Tw (rows:=rows) (fun r hr=>h r (by simp [hr]));exact ⟨n::l,rfl⟩
theorem abj {α β:Type} {f:α→Option β}:∀{xs:List α} {ys:List β},xs.mapM f=some ys→ys.length=xs.length
 | [],ys,h=>by
  have:ys=[]:=by simpa using h.symm
  rw [this];rfl
 | x::xs,ys,h=>by
  rw [mT] at h;cases hf:f x with
  | none=>rw [hf] at h;cases h
  | some y=>
   cases hm:xs.mapM f with
   | none=>rw [hf,hm] at h;cases h
   | some zs=>
    rw [hf,hm] at h;cases h;simp [abj hm]
theorem acX {H:Type} {n:Nat} {d:DataW H} {t:Tag} {rows:List (List D)} (h:gA Tryz.prog (n+1) 22 d=some [.sl t 1 rows]) (hw:∀x∈d.weights Tryz.prog 22,x≤reachBytes):rows.length≤17592186044416:=by
 have hu:Tryz.prog.underlying 22=some (.slice 3):=by kernel_rfl
 have hb:Tryz.prog.bytesOf 3=8:=by kernel_rfl
 unfold gA at h;rw [hu] at h;cases d with
 | nil=>
  simp only [aj,qR,D.sl.injEq] at h;rw [←h.1.2.2];exact yR _
 | slice elems spare=>
  simp only at h;cases hm:elems.mapM (gA Tryz.prog n 3) with
  | none=>rw [hm] at h;cases h
  | some rs=>
   rw [hm] at h;simp only [ff,aj,qR,D.sl.injEq] at h;have hl:=abj hm
   have h8 := hw ((elems.length + spare.length) * Tryz.prog.bytesOf 3) (by
     unfold DataW.weights
     rw [hu]
     exact kf ..)
   rw [hb] at h8;unfold reachBytes at h8;rw [←h.1.2.2,hl];omega
 | _=>simp at h
theorem two {H:Type} {n:Nat} {t u:TypeId} {ds:List (DataW H)} {r1 r2:List D} (h:xc Tryz.prog n [t,u] ds=some [r1,r2]):∃d1 d2,ds=[d1,d2]∧gA Tryz.prog n t d1=some r1∧gA Tryz.prog n u d2=some r2:=by
 cases ds with
 | nil=>cases h
 | cons d1 ds=>
  simp only [xc] at h;obtain ⟨a,h1,h2⟩:=bind_some h;obtain ⟨b,h3,h4⟩:=bH h2;cases h4;cases ds with
  | nil=>cases h3
  | cons d2 ds=>
   simp only [xc] at h3;obtain ⟨a2,h5,h6⟩:=bind_some h3;obtain ⟨b2,h7,h8⟩:=bH h6;cases h8;cases ds with
   | nil=>exact ⟨d1,d2,rfl,h1,h5⟩
   | cons d3 ds=>cases h7
theorem eqn {H:Type} (ds:List (DataW H)) (hw:∀x∈DataW.weightsEach Tryz.prog [22,22] ds,x≤reachBytes) (rs:List (List D)) (hd:xc Tryz.prog 20 [22,22] ds=some rs) (ho:LS [[.sl 1 [.int .i64]],[.sl 1 [.int .i64]]] rs) :
  ∃N out,nN pT Aw N 7 (Ei Tryz.prog [22,22] rs) []=some (.one (.d (.bool true)),out):=by
 match rs,ho with
 | [r1,r3],⟨h1,h3,_⟩=>
  obtain ⟨d1,d2,rfl,e1,e2⟩:=two hd;obtain ⟨x1,q1,rfl,k1,g1⟩:=SD h1;obtain rfl:=SE g1;obtain ⟨b1,acY,rfl,_,jX⟩:=abJ k1;obtain ⟨x3,q5,rfl,k5,g5⟩:=SD h3;obtain rfl:=SE g5;obtain ⟨b2,arF,rfl,_,qx⟩:=abJ k5;have w1:=acX e1 fun x hx=>hw x (by simp [DataW.weightsEach,hx])
  have w2:=acX e2 fun x hx=>hw x (by simp [DataW.weightsEach,hx])
  obtain ⟨l1,rfl⟩:=Tw jX;obtain ⟨l2,rfl⟩:=Tw qx;rw [cf] at w1 w2;refine ⟨2000000000000,[],?_⟩;simp only [Ei,afc];have:=aoA (m:=2000000000000) (bV _) (l:=l1) (l2:=l2) (by omega) (by omega) (b:=b1) (b':=b2);unfold T at this;exact this
theorem ad8 {H:Type} {enc:TypeId×Value→H} {P:Program} {W:World} {b:Nat} {sp:Nat→Bool} {hd:Bool}:∀{ts:List TypeId} {vs:List Value} {ds:List (DataW H)} {ps:List MemPlace},DataW.TrodAll enc P W b sp hd ts vs ds ps→ds.length=ts.length
 | [],vs,ds,ps,h=>by cases vs<;>cases ds<;>simp_all [DataW.TrodAll]
 | t::ts,vs,ds,ps,h=>by
  cases vs with
  | nil=>simp [DataW.TrodAll] at h
  | cons v vs=>
   cases ds with
   | nil=>simp [DataW.TrodAll] at h
   | cons d ds=>obtain ⟨p,q,_,h2,_⟩:=h;simp [ad8 h2]
def BX (W:World):Nat→Option Obj:=fun B=>if B=1 then W.heap[B]? else none
theorem aqv {P:Program} {w:World} {n:String} {g:Nat} {c:Array Value} (hg:P.globalNamed n=some g) (h:w.var? P n=some c):∃t fz,w.heap[g]? = some (.cells c t fz):=by
 unfold World.var? at h;rw [hg] at h;simp only [Option.bind] at h;split at h
 ·rename_i cs t fz hh;simp only [aj] at h;subst h;exact ⟨t,fz,hh⟩
 ·cases h
theorem aqw {P:Program} {w:World} {n:String} {g:Nat} {c:Array Value} {t:TypeId} {fz:Nat×Nat} (hg:P.globalNamed n=some g) (h:w.heap[g]? = some (.cells c t fz)):w.var? P n=some c:=by
 unfold World.var?;rw [hg];simp only [Option.bind,h]
theorem afT (H:Type) (enc:TypeId×Value→H) (W:World) (base:Nat) (args:Array Value) (ds gs:List (DataW H)) (before:List MemPlace)
  (cr:∀(j:Nat) t v,Tryz.f7.params[j]? = some t→args[j]? = some v→Value.okWide Tryz.prog W .any base t v)
  (hW:DataW.Whole enc Tryz.prog Tryz.f7.params.toList Rows.printerPartsSpec.vars false W args.toList ds gs before)
  (JI:∀x∈DataW.weightsEach Tryz.prog [22,22] ds,x≤reachBytes) (QL:Lib.TabIs Tryz.prog W Ma .u64 Lib.pow10Tab) :
  Calls Tryz.prog 7 args W fun e W'=>∃v,e = .returned v∧Rows.printerPartsSpec.post enc Tryz.prog Tryz.f7 false true false false W args v W':=by
 have hs:∀t∈Tryz.f7.params.toList,l9 Tryz.prog 20 t=true:=lM.1 (by kernel_rfl);have Jb:=hW;obtain ⟨p,q,hA,hV,_⟩:=hW;obtain ⟨tP,fP,bP⟩:=aqv (g:=1) (by kernel_rfl) QL;have EX:∀B c,BX W B=some c→W.heap[B]? = some c∧∃cur e fz,c = .cells cur e fz:=by
  intro B c h;unfold BX at h;split at h
  ·rename_i hB;refine ⟨h,?_⟩;subst hB;rw [bP] at h;cases h;exact ⟨_,_,_,rfl⟩
  ·cases h
 have gP:∀w L,GI (BX W) w L→Lib.TabIs Tryz.prog w Ma .u64 Lib.pow10Tab:=fun w L h=>
  aqw (g:=1) (by kernel_rfl) (h 1 _ (by unfold BX;rw [aJ rfl];exact bP)).2
 have hO:∀N,Eb Tryz.prog nm (BX W) (nN pT Aw N):=fun N=>ah3 ap3 (aoI (BX W) gP) N
 refine (anB (b:=true) hO EX (f0:=7) rfl Tryz.func7 (by kernel_rfl) rfl hA hs (by rw [params];exact types) (fun j t v h1 h2=>cr j t v (by simpa using h1) h2) (fun rs h1 h2=>by rw [params] at h1 ⊢;exact eqn ds JI rs h1 h2)).mono fun e W' ⟨hq,hl⟩=>⟨_,hq,?_⟩
 refine anC Jb rfl hs (tb:=Tryz.f7.resultTypes.getD 0 0) (by kernel_rfl) (by kernel_rfl) ?_ ?_ ?_ hl;all_goals
  have hlen:ds.length=2:=(ad8 hA).trans (by kernel_rfl)
  obtain ⟨rfl,_⟩:=trodVars_none hV
  match ds,hlen with
  | [d1,d2],_=>rfl
end Go.Proofs.YtfmpdgeiodnnfaaGreatDoor.printerParts
