/- A part of the proof. -/
import Derived.Test.YtfmpdgeiodnnfaaGreatDoorN3
import Derived.Test.YtfmpdgeiodnnfaaGreatDoorN11
import Derived.Test.YtfmpdgeiodnnfaaGreatDoorCards
import Derived.Test.YtfmpdgeiodnnfaaGreatDoorTie
import Derived.ProofKit
import Derived.Deep.DeepHandedRow
import Derived.Deep.DeepLaidRun
import Derived.Lib.LaidTab
import Derived.Stop.LaidErr
set_option linter.all false
set_option maxRecDepth 100000
namespace Go.Proofs.YtfmpdgeiodnnfaaGreatDoor.printerPlain
open Go Go.ax Go.RowKit Go.Stop Go.ChangeShapes Go.WideShapes Go.ChangeAt PT
theorem own:ownKnob Tryz.prog.godebug=none:=by kernel_rfl
theorem params:Tryz.f6.params.toList=[41,3,39,53,22,3,3]:=by kernel_rfl
def U6:List TS:=[.int .i64,.str,.int .i64,.str,.int .i64,.int .i64]
def Bm:List TS:=[.str,.int .i64,.str,.int .i64]
theorem types:EA Tryz.prog 20 [41,3,39,53,22,3,3]=some [[.sl 6 U6],[.int .i64],[.str,.sl 1 [.str],.sl 3 [.str,.str,.sl 4 Bm]],[.str,.sl 3 [.int .i64,.str,.sl 4 Bm]],[.sl 1 [.int .i64]],[.int .i64],[.int .i64]]:=by kernel_rfl
theorem agd (r:List D):po Tryz.prog 41 r = .one (.d (r.headD .dead)):=by kernel_rfl
theorem age (r:List D):po Tryz.prog 3 r = .one (.d (r.headD .dead)):=by kernel_rfl
theorem agf (r:List D):po Tryz.prog 39 r = .agg (r.map .d):=by kernel_rfl
theorem agh (r:List D):po Tryz.prog 53 r = .agg (r.map .d):=by kernel_rfl
theorem agi (r:List D):po Tryz.prog 22 r = .one (.d (r.headD .dead)):=by kernel_rfl
theorem ok_int {x:D} {k:IntKind} (h:tA (.int k) x):∃n,x = .int k n/\(Lit.int k n).wf=true:=by
 cases x<;>simp only[tA] at h;obtain⟨rfl,h⟩:=h;exact⟨_,rfl,h⟩
theorem u3 {x:D} (h:tA .str x):∃s,x = .str s:=by
 cases x<;>simp only[tA] at h;exact⟨_,rfl⟩
theorem D3 {x:D} {sz:Nat} {ts:List TS} (h:tA (.sl sz ts) x):∃b rows,x = .sl (.im b) sz rows/\∀r∈rows,ju ts r:=by
 cases x with
 | sl t da rows=>
  cases t with
  | im b=>simp only[tA] at h;obtain⟨rfl,h1,h2⟩:=h;exact⟨b,rows,rfl,h2⟩
  | own=>simp only[tA] at h
 | _=>simp only[tA] at h
theorem jv {t:TS} {ts:List TS} {r:List D} (h:ju (t::ts) r):∃x r',r=x::r'/\tA t x/\ju ts r':=by
 cases r with
 | nil=>simp only[ju] at h
 | cons x r'=>simp only[ju] at h;exact⟨x,r',rfl,h.1,h.2⟩
theorem uZ {r:List D} (h:ju [] r):r=[]:=by
 cases r with
 | nil=>rfl
 | cons=>simp only[ju] at h
theorem ati {n:Int} (h:(Lit.int .i64 n).wf=true) : -9223372036854775808<=n/\n<=9223372036854775807:=by
 have h:(decide (IntKind.min .i64<=n)&&decide (n<=IntKind.max .i64))=true:=h;rw[show IntKind.min .i64 = -9223372036854775808 by decide,show IntKind.max .i64=9223372036854775807 by decide] at h;simpa using h
theorem Bb {X:Type} {enc:X->List D} {P:X->Prop}:∀{rows:List (List D)},(∀r∈rows,∃x,r=enc x/\P x)->∃l:List X,rows=l.map enc/\∀x∈l,P x
 | [],_=>⟨[],rfl,λx hx=>by cases hx⟩
 | r::rows,h=>by
  obtain⟨x,rfl,hx⟩:=h _ jD;obtain⟨l,rfl,hl⟩:=Bb λr hr=>h r (jC _ hr)
  exact⟨x::l,rfl,List.forall_mem_cons.2 ⟨hx,hl⟩⟩
theorem ap6 {r:List D} (h:ju U6 r):∃t:TR,r=cR t/\wB t:=by
 obtain⟨x1,q1,rfl,k1,g1⟩:=jv h;obtain⟨x2,q2,rfl,k2,g2⟩:=jv g1;obtain⟨x3,q3,rfl,k3,g3⟩:=jv g2;obtain⟨x4,q4,rfl,k4,g4⟩:=jv g3;obtain⟨x5,q5,rfl,k5,g5⟩:=jv g4;obtain⟨x6,q6,rfl,k6,g6⟩:=jv g5;obtain rfl:=uZ g6;obtain⟨n1,rfl,_⟩:=ok_int k1;obtain⟨n2,rfl⟩:=u3 k2;obtain⟨n3,rfl,w3⟩:=ok_int k3;obtain⟨n4,rfl⟩:=u3 k4;obtain⟨n5,rfl,_⟩:=ok_int k5;obtain⟨n6,rfl,_⟩:=ok_int k6;exact⟨⟨n1,n2,n3,n4,n5,n6⟩,rfl,ati w3⟩
theorem acj {r:List D} (h:ju [.int .i64] r):∃n:Int,r=QQ.bN n/\True:=by
 obtain⟨x,q,rfl,k1,g1⟩:=jv h;obtain rfl:=uZ g1;obtain⟨n,rfl,_⟩:=ok_int k1;exact⟨n,rfl,trivial⟩
theorem ap5 {r:List D} (h:ju [.str] r):∃s:BB,r=aE s/\True:=by
 obtain⟨x,q,rfl,k1,g1⟩:=jv h;obtain rfl:=uZ g1;obtain⟨n,rfl⟩:=u3 k1;exact⟨n,rfl,trivial⟩
theorem ach {x:D} (h:tA (.sl 4 Bm) x) (hw:A1 x):∃b l,x = .sl (.im b) 4 (l.map eH)/\wM 200000000000000 l:=by
 obtain⟨b,rows,rfl,hr⟩:=D3 h;simp only[A1,reachBytes] at hw;obtain⟨l,rfl,hl⟩:=Bb (enc:=eH) (P:=λa=>a.nm.length<=140737488351232) λr h=>by
  obtain⟨x1,q1,rfl,k1,g1⟩:=jv (hr r h);obtain⟨x2,q2,rfl,k2,g2⟩:=jv g1;obtain⟨x3,q3,rfl,k3,g3⟩:=jv g2;obtain⟨x4,q4,rfl,k4,g4⟩:=jv g3;obtain rfl:=uZ g4;obtain⟨n1,rfl⟩:=u3 k1;obtain⟨n2,rfl,_⟩:=ok_int k2;obtain⟨n3,rfl⟩:=u3 k3;obtain⟨n4,rfl,_⟩:=ok_int k4;have w:=ML hw.2 h;simp only[kY,A1,reachBytes] at w;exact⟨⟨n1,n2,n3,n4⟩,rfl,w.2.2.1⟩
 have h1:=hw.1;rw[cX] at h1;exact⟨b,l,rfl,by omega,by omega,λa ha=>⟨by have:=hl a ha;omega,by have:=hl a ha;unfold wA;omega⟩⟩
theorem ap3 {r:List D} (h:ju [.str,.str,.sl 4 Bm] r) (hw:kY r):∃p:RP,r=gI p/\wM 200000000000000 p.ms:=by
 obtain⟨x1,q1,rfl,k1,g1⟩:=jv h;obtain⟨x2,q2,rfl,k2,g2⟩:=jv g1;obtain⟨x3,q3,rfl,k3,g3⟩:=jv g2;obtain rfl:=uZ g3;obtain⟨n1,rfl⟩:=u3 k1;obtain⟨n2,rfl⟩:=u3 k2;simp only[kY] at hw;obtain⟨b,l,rfl,hl⟩:=ach k3 hw.2.2.1;exact⟨⟨n1,n2,b,l⟩,rfl,hl⟩
theorem ap4 {r:List D} (h:ju [.int .i64,.str,.sl 4 Bm] r) (hw:kY r):∃p:RT,r=gJ p/\wM 200000000000000 p.ms:=by
 obtain⟨x1,q1,rfl,k1,g1⟩:=jv h;obtain⟨x2,q2,rfl,k2,g2⟩:=jv g1;obtain⟨x3,q3,rfl,k3,g3⟩:=jv g2;obtain rfl:=uZ g3;obtain⟨n1,rfl,_⟩:=ok_int k1;obtain⟨n2,rfl⟩:=u3 k2;simp only[kY] at hw;obtain⟨b,l,rfl,hl⟩:=ach k3 hw.2.2.1;exact⟨⟨n1,n2,b,l⟩,rfl,hl⟩
theorem TE {r:List D} (h:ju [.int .i64] r):∃n:Int,r=[.int .i64 n]:=by
 obtain⟨n,e,_⟩:=acj h;exact⟨n,e⟩
theorem eqn {H:Type} (ds:List (DataW H)) (hw:∀x∈DataW.weightsEach Tryz.prog [41,3,39,53,22,3,3] ds,x<=reachBytes) (rs:List (List D)) (hd:zL Tryz.prog 20 [41,3,39,53,22,3,3] ds=some rs) (ho:MJ [[.sl 6 U6],[.int .i64],[.str,.sl 1 [.str],.sl 3 [.str,.str,.sl 4 Bm]],[.str,.sl 3 [.int .i64,.str,.sl 4 Bm]],[.sl 1 [.int .i64]],[.int .i64],[.int .i64]] rs) :
  ∃N out,nG pY A4 N 6 (E9 Tryz.prog [41,3,39,53,22,3,3] rs) []=some (.one (.d (.bool true)),out):=by
 have hb:=afS hd (gY.1 (by kernel_rfl)) hw;match rs,ho with
 | [r1,r2,r3,r4,r5,r6,r7],⟨h1,h2,h3,h4,h5,h6,h7,_⟩=>
  obtain⟨x1,q1,rfl,k1,g1⟩:=jv h1;obtain rfl:=uZ g1;obtain⟨b1,adJ,rfl,e1⟩:=D3 k1;obtain⟨l1,rfl,f1⟩:=Bb λr hr=>ap6 (e1 r hr)
  obtain⟨z,rfl⟩:=TE h2;have w3:=hb r3 (by simp);obtain⟨x2,q2,rfl,k2,g2⟩:=jv h3;obtain⟨x3,q3,rfl,k3,g3⟩:=jv g2;obtain⟨x4,q4,rfl,k4,g4⟩:=jv g3;obtain rfl:=uZ g4;obtain⟨nm,rfl⟩:=u3 k2;obtain⟨b2,at0,rfl,e2⟩:=D3 k3;obtain⟨b3,at3,rfl,e3⟩:=D3 k4;simp only[kY,A1] at w3;obtain⟨l2,rfl,_⟩:=Bb λr hr=>ap5 (e2 r hr)
  obtain⟨l3,rfl,f3⟩:=Bb λr hr=>ap3 (e3 r hr) (ML w3.2.2.1.2 hr)
  have w4:=hb r4 (by simp);obtain⟨x5,q5,rfl,k5,g5⟩:=jv h4;obtain⟨x6,q6,rfl,k6,g6⟩:=jv g5;obtain rfl:=uZ g6;obtain⟨ln,rfl⟩:=u3 k5;obtain⟨b4,at4,rfl,e4⟩:=D3 k6;simp only[kY,A1] at w4;obtain⟨l4,rfl,f4⟩:=Bb λr hr=>ap4 (e4 r hr) (ML w4.2.1.2 hr)
  have w5:=hb r5 (by simp);obtain⟨x7,q7,rfl,k7,g7⟩:=jv h5;obtain rfl:=uZ g7;obtain⟨b5,at5,rfl,e5⟩:=D3 k7;simp only[kY,A1,reachBytes] at w5;obtain⟨l5,rfl,_⟩:=Bb λr hr=>acj (e5 r hr)
  have w5:=w5.1.1;rw[cX] at w5;obtain⟨wh,rfl⟩:=TE h6;obtain⟨wt,rfl⟩:=TE h7;refine⟨200000000010000,[],?_⟩;simp only[E9,agd,age,agf,agh,agi];have:=aqq (m:=200000000010000) (M:=200000000000000) (cp _) (cp _) (b1:=b1) (b2:=b2) (b3:=b3) (b4:=b4) (b5:=b5) f1 (z:=z) (wh:=wh) (wt:=wt) (nm:=nm) (ln:=ln) (rs:=l2) f3 f4 (ns:=l5) (by omega);unfold T at this;exact this
theorem ae1 {H:Type} {enc:TypeId×Value->H} {P:Program} {W:World} {b:Nat} {sp:Nat->Bool} {hd:Bool}:∀{ts:List TypeId} {vs:List Value} {ds:List (DataW H)} {ps:List MemPlace},DataW.TrodAll enc P W b sp hd ts vs ds ps->ds.length=ts.length
 | [],vs,ds,ps,h=>by cases vs<;>cases ds<;>simp_all[DataW.TrodAll]
 | t::ts,vs,ds,ps,h=>by
  cases vs with
  | nil=>simp[DataW.TrodAll] at h
  | cons v vs=>
   cases ds with
   | nil=>simp[DataW.TrodAll] at h
   | cons d ds=>obtain⟨p,q,_,h2,_⟩:=h;simp[ae1 h2]
def CF (W:World):Nat->Option Obj:=λB=>if B=1 then W.heap[B]? else none
theorem asz {P:Program} {w:World} {n:String} {g:Nat} {c:Array Value} (hg:P.globalNamed n=some g) (h:w.var? P n=some c):∃t fz,w.heap[g]? = some (.cells c t fz):=by
 unfold World.var? at h;rw[hg] at h;simp only[Option.bind] at h;split at h
 ·rename_i cs t fz hh;simp only[au] at h;subst h;exact⟨t,fz,hh⟩
 ·cases h
theorem asA {P:Program} {w:World} {n:String} {g:Nat} {c:Array Value} {t:TypeId} {fz:Nat×Nat} (hg:P.globalNamed n=some g) (h:w.heap[g]? = some (.cells c t fz)):w.var? P n=some c:=by
 unfold World.var?;rw[hg];simp only[Option.bind,h]
theorem ag6 (H:Type) (enc:TypeId×Value->H) (W:World) (base:Nat) (args:Array Value) (ds gs:List (DataW H)) (before:List MemPlace)
  (cH:∀(j:Nat) t v,Tryz.f6.params[j]? = some t->args[j]? = some v->Value.okWide Tryz.prog W .any base t v)
  (hW:DataW.Whole enc Tryz.prog Tryz.f6.params.toList Rows.printerPlainSpec.vars false W args.toList ds gs before)
  (Ks:∀x∈DataW.weightsEach Tryz.prog [41,3,39,53,22,3,3] ds,x<=reachBytes) (RF:Lib.TabIs Tryz.prog W MY .u64 Lib.pow10Tab) :
  Calls Tryz.prog 6 args W λe W'=>∃v,e = .returned v/\Rows.printerPlainSpec.post enc Tryz.prog Tryz.f6 false true false false W args v W':=by
 have hs:∀t∈Tryz.f6.params.toList,lY Tryz.prog 20 t=true:=gY.1 (by kernel_rfl);have JV:=hW;obtain⟨p,q,hA,hV,_⟩:=hW;obtain⟨tP,fP,bP⟩:=asz (g:=1) (by kernel_rfl) RF;have FI:∀B c,CF W B=some c->W.heap[B]? = some c/\∃cur e fz,c = .cells cur e fz:=by
  intro B c h;unfold CF at h;split at h
  ·rename_i hB;refine⟨h,?_⟩;subst hB;rw[bP] at h;cases h;exact⟨_,_,_,rfl⟩
  ·cases h
 have gP:∀w L,GI (CF W) w L->Lib.TabIs Tryz.prog w MY .u64 Lib.pow10Tab:=λw L h=>
  asA (g:=1) (by kernel_rfl) (h 1 _ (by unfold CF;rw[aP rfl];exact bP)).2
 have hO:∀N,E1 Tryz.prog nm (CF W) (nG pY A4 N):=λN=>ajw ar5 (aqs (CF W) gP) N
 refine(apd (b:=true) hO FI (f0:=6) rfl Tryz.func6 (by kernel_rfl) rfl hA hs (by rw[params];exact types) (λj t v h1 h2=>cH j t v (by simpa using h1) h2) (λrs h1 h2=>by rw[params] at h1 ⊢;exact eqn ds Ks rs h1 h2)).mono λe W' ⟨hq,hl⟩=>⟨_,hq,?_⟩
 refine ape JV rfl hs (tb:=Tryz.f6.resultTypes.getD 0 0) (by kernel_rfl) (by kernel_rfl) ?_ ?_ ?_ hl;all_goals
  have hlen:ds.length=7:=(ae1 hA).trans (by kernel_rfl)
  obtain⟨rfl,_⟩:=trodVars_none hV
  match ds,hlen with
  | [d1,d2,d3,d4,d5,d6,d7],_=>rfl
end Go.Proofs.YtfmpdgeiodnnfaaGreatDoor.printerPlain
