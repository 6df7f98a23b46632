/- A part of the proof. -/
import Derived.Test.YtfmpdgeiodnnfaaGreatDoorB3
import Derived.Test.YtfmpdgeiodnnfaaGreatDoorB11
import Derived.Test.YtfmpdgeiodnnfaaGreatDoorCards
import Derived.Test.YtfmpdgeiodnnfaaGreatDoorTie
import Derived.ProofKit
import Derived.Deep.DeepHandedRow
import Derived.Deep.DeepLaidRun
import Derived.Lib.LaidTab
import Derived.Stop.LaidErr
set_option maxRecDepth 100000
set_option linter.all false
namespace Go.Proofs.YtfmpdgeiodnnfaaGreatDoor.printerBlocks
open Go Go.ax Go.RowKit Go.Stop Go.ChangeShapes Go.WideShapes Go.ChangeAt QQ
theorem own:ownKnob Tryz.prog.godebug=none:=by kernel_rfl
theorem params:Tryz.f3.params.toList=[22]:=by kernel_rfl
theorem types:DI Tryz.prog 20 [22]=some [[.sl 1 [.int .i64]]]:=by kernel_rfl
theorem aeZ (r:List D):tK Tryz.prog 22 r = .one (.d (r.headD .dead)):=by kernel_rfl
theorem ok_int {x:D} {k:IntKind} (h:xR (.int k) x):∃n,x = .int k n∧(Lit.int k n).wf=true:=by
 cases x<;>simp only [xR] at h;obtain ⟨rfl,h⟩:=h;exact ⟨_,rfl,h⟩
theorem aoe {x:D} {sz:Nat} {ts:List TS} (h:xR (.sl sz ts) x):∃b rows,x = .sl (.im b) sz rows∧(b=true→rows=[])∧∀r∈rows,lz ts r:=by
 cases x with
 | sl t cp rows=>
  cases t with
  | im b=>simp only [xR] at h;obtain ⟨rfl,h1,h2⟩:=h;exact ⟨b,rows,rfl,h1,h2⟩
  | own=>simp only [xR] at h
 | _=>simp only [xR] at h
theorem abn {t:TS} {ts:List TS} {r:List D} (h:lz (t::ts) r):∃x r',r=x::r'∧xR t x∧lz ts r':=by
 cases r with
 | nil=>simp only [lz] at h
 | cons x r'=>simp only [lz] at h;exact ⟨x,r',rfl,h.1,h.2⟩
theorem abo {r:List D} (h:lz [] r):r=[]:=by
 cases r with
 | nil=>rfl
 | cons=>simp only [lz] at h
theorem acK:∀{rows:List (List D)},(∀r∈rows,lz [.int .i64] r)→∃l:List Int,rows=l.map bF
 | [],_=>⟨[],rfl⟩
 | r::rows,h=>by
  obtain ⟨x,q,rfl,k1,g1⟩:=abn (h r (by simp));obtain rfl:=abo g1;obtain ⟨n,rfl,_⟩:=ok_int k1;obtain ⟨l,rfl⟩:=acK (rows:=rows) (fun r hr=>h r (by simp [hr]));exact ⟨n::l,rfl⟩
theorem aa1 {α β:Type} {f:α→Option β}:∀{xs:List α} {ys:List β},xs.mapM f=some ys→ys.length=xs.length
 | [],ys,h=>by
  have:ys=[]:=by simpa using h.symm
  rw [this];rfl
 | x::xs,ys,h=>by
  rw [mL] at h;cases hf:f x with
  | none=>rw [hf] at h;cases h
  | some y=>
   cases hm:xs.mapM f with
   | none=>rw [hf,hm] at h;cases h
   | some zs=>
    rw [hf,hm] at h;cases h;simp [aa1 hm]
theorem apb {H:Type} {n:Nat} {d:DataW H} {t:Tag} {rows:List (List D)} (h:gG Tryz.prog (n+1) 22 d=some [.sl t 1 rows]) (hw:∀x∈d.weights Tryz.prog 22,x≤reachBytes):rows.length≤17592186044416:=by
 have hu:Tryz.prog.underlying 22=some (.slice 3):=by kernel_rfl
 have hb:Tryz.prog.bytesOf 3=8:=by kernel_rfl
 unfold gG at h;rw [hu] at h;cases d with
 | nil=>
  simp only [ai,qK,D.sl.injEq] at h;rw [←h.1.2.2];exact yE _
 | slice elems spare=>
  simp only at h;cases hm:elems.mapM (gG Tryz.prog n 3) with
  | none=>rw [hm] at h;cases h
  | some rs=>
   rw [hm] at h;simp only [fh,ai,qK,D.sl.injEq] at h;have hl:=aa1 hm
   have h8 := hw ((elems.length + spare.length) * Tryz.prog.bytesOf 3) (by
     unfold DataW.weights
     rw [hu]
     exact jR ..)
   rw [hb] at h8;unfold reachBytes at h8;rw [←h.1.2.2,hl];omega
 | _=>simp at h
theorem one {H:Type} {n:Nat} {t:TypeId} {ds:List (DataW H)} {r1:List D} (h:yW Tryz.prog n [t] ds=some [r1]):∃d1,ds=[d1]∧gG Tryz.prog n t d1=some r1:=by
 cases ds with
 | nil=>cases h
 | cons d1 ds=>
  simp only [yW] at h;obtain ⟨a,h1,h2⟩:=bind_some h;obtain ⟨b,h3,h4⟩:=bG h2;cases h4;cases ds with
  | nil=>exact ⟨d1,rfl,h1⟩
  | cons d3 ds=>cases h3
theorem eqn {H:Type} (ds:List (DataW H)) (hw:∀x∈DataW.weightsEach Tryz.prog [22] ds,x≤reachBytes) (rs:List (List D)) (hd:yW Tryz.prog 20 [22] ds=some rs) (ho:LY [[.sl 1 [.int .i64]]] rs) :
  ∃N out,nH pQ Ao N 3 (Ed Tryz.prog [22] rs) []=some (.one (.d (.bool true)),out):=by
 match rs,ho with
 | [r1],⟨h1,_⟩=>
  obtain ⟨d1,rfl,e1⟩:=one hd;obtain ⟨x1,q1,rfl,k1,g1⟩:=abn h1;obtain rfl:=abo g1;obtain ⟨b1,acI,rfl,_,jX⟩:=aoe k1;have w1:=apb e1 fun x hx=>hw x (by simp [DataW.weightsEach,hx])
  obtain ⟨l1,rfl⟩:=acK jX;rw [cy] at w1;refine ⟨2000000000000,[],?_⟩;simp only [Ed,aeZ];have:=afc (m:=2000000000000) (bT _) (l:=l1) (by omega) (b:=b1);unfold T at this;exact this
theorem adU {H:Type} {enc:TypeId×Value→H} {P:Program} {W:World} {b:Nat} {sp:Nat→Bool} {hd:Bool}:∀{ts:List TypeId} {vs:List Value} {ds:List (DataW H)} {ps:List MemPlace},DataW.TrodAll enc P W b sp hd ts vs ds ps→ds.length=ts.length
 | [],vs,ds,ps,h=>by cases vs<;>cases ds<;>simp_all [DataW.TrodAll]
 | t::ts,vs,ds,ps,h=>by
  cases vs with
  | nil=>simp [DataW.TrodAll] at h
  | cons v vs=>
   cases ds with
   | nil=>simp [DataW.TrodAll] at h
   | cons d ds=>obtain ⟨p,q,_,h2,_⟩:=h;simp [adU h2]
def BN (W:World):Nat→Option Obj:=fun B=>if B=1 then W.heap[B]? else none
theorem aqp {P:Program} {w:World} {n:String} {g:Nat} {c:Array Value} (hg:P.globalNamed n=some g) (h:w.var? P n=some c):∃t fz,w.heap[g]? = some (.cells c t fz):=by
 unfold World.var? at h;rw [hg] at h;simp only [Option.bind] at h;split at h
 ·rename_i cs t fz hh;simp only [ai] at h;subst h;exact ⟨t,fz,hh⟩
 ·cases h
theorem aqq {P:Program} {w:World} {n:String} {g:Nat} {c:Array Value} {t:TypeId} {fz:Nat×Nat} (hg:P.globalNamed n=some g) (h:w.heap[g]? = some (.cells c t fz)):w.var? P n=some c:=by
 unfold World.var?;rw [hg];simp only [Option.bind,h]
theorem afI (H:Type) (enc:TypeId×Value→H) (W:World) (base:Nat) (args:Array Value) (ds gs:List (DataW H)) (before:List MemPlace)
  (cm:∀(j:Nat) t v,Tryz.f3.params[j]? = some t→args[j]? = some v→Value.okWide Tryz.prog W .any base t v)
  (hW:DataW.Whole enc Tryz.prog Tryz.f3.params.toList Rows.printerBlocksSpec.vars false W args.toList ds gs before)
  (JL:∀x∈DataW.weightsEach Tryz.prog [22] ds,x≤reachBytes) (QG:Lib.TabIs Tryz.prog W Md .u64 Lib.pow10Tab) :
  Calls Tryz.prog 3 args W fun e W'=>∃v,e = .returned v∧Rows.printerBlocksSpec.post enc Tryz.prog Tryz.f3 false true false false W args v W':=by
 have hs:∀t∈Tryz.f3.params.toList,lV Tryz.prog 20 t=true:=lI.1 (by kernel_rfl);have Jb:=hW;obtain ⟨p,q,hA,hV,_⟩:=hW;obtain ⟨tP,fP,bP⟩:=aqp (g:=1) (by kernel_rfl) QG;have EP:∀B c,BN W B=some c→W.heap[B]? = some c∧∃cur e fz,c = .cells cur e fz:=by
  intro B c h;unfold BN at h;split at h
  ·rename_i hB;refine ⟨h,?_⟩;subst hB;rw [bP] at h;cases h;exact ⟨_,_,_,rfl⟩
  ·cases h
 have gP:∀w L,GI (BN W) w L→Lib.TabIs Tryz.prog w Md .u64 Lib.pow10Tab:=fun w L h=>
  aqq (g:=1) (by kernel_rfl) (h 1 _ (by unfold BN;rw [aJ rfl];exact bP)).2
 have hO:∀N,D6 Tryz.prog nm (BN W) (nH pQ Ao N):=fun N=>ahS apW (aoB (BN W) gP) N
 refine (anu (b:=true) hO EP (f0:=3) rfl Tryz.func3 (by kernel_rfl) rfl hA hs (by rw [params];exact types) (fun j t v h1 h2=>cm j t v (by simpa using h1) h2) (fun rs h1 h2=>by rw [params] at h1 ⊢;exact eqn ds JL rs h1 h2)).mono fun e W' ⟨hq,hl⟩=>⟨_,hq,?_⟩
 refine anv Jb rfl hs (tb:=Tryz.f3.resultTypes.getD 0 0) (by kernel_rfl) (by kernel_rfl) ?_ ?_ ?_ hl;all_goals
  have hlen:ds.length=1:=(adU hA).trans (by kernel_rfl)
  obtain ⟨rfl,_⟩:=trodVars_none hV
  match ds,hlen with
  | [d1],_=>rfl
end Go.Proofs.YtfmpdgeiodnnfaaGreatDoor.printerBlocks
