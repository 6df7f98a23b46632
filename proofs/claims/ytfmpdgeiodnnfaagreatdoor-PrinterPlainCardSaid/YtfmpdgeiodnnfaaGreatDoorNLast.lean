/- PrinterPlain: what the printer prints for any term, protocol and local type, and for any generated program with one modification, consists of printable characters and line ends; the text is empty just if the term, the protocol or the program is not valid; for all arguments (of terms, points and turns as many as the law says). -/
import Derived.Test.YtfmpdgeiodnnfaaGreatDoorN12
import Derived.Test.YtfmpdgeiodnnfaaGreatDoorN13
set_option linter.all false
set_option maxRecDepth 100000
namespace Go.Proofs.YtfmpdgeiodnnfaaGreatDoor.printerPlain
open Go Go.ax Go.RowKit Go.Stop Go.ChangeShapes Go.WideShapes Go.ChangeAt PT
theorem lifted (os:Os) (started:os.Started) (H:Type) (enc:TypeId×Value->H) (F:Stop.Interp) :
  ReturnsInHanded {} Tryz.checked os 6 .any ((OpenSpec.ofChange Rows.printerPlainSpec).preRow enc Tryz.prog Tryz.f6 Rows.printerPlainRow.domain false Rows.printerPlainRow.laid) (((OpenSpec.ofChange Rows.printerPlainSpec).at F).post enc Tryz.prog Tryz.f6 false true false false):=by
 obtain⟨places,hx⟩:=reads os enc;refine returnsInHanded_of_row (C:=Tryz.checked) (s:=OpenSpec.ofChange Rows.printerPlainSpec) own started (by kernel_rfl) Tryz.func6
  (witness_row_at (enc := enc) (C := Tryz.checked) false (SP os) #[.slice none 0 0, .int .i64 0, .agg #[.string ⟨#[]⟩, .slice none 0 0, .slice none 0 0], .agg #[.string ⟨#[]⟩, .slice none 0 0], .slice none 0 0, .int .i64 0, .int .i64 0] rfl (by kernel_rfl) (by kernel_rfl) (by kernel_rfl)
    (OpenSpec.preRow_of_cond 8 hx (by kernel_rfl) (λk hk => by cases hk) (by kernel_rfl) (apb os))) ?_
 intro W base args ds gs before cH hW _ _ Ks hL _ _;have g1:=akE hL;have qp:gs=[]:=by
  obtain⟨p,q,_,hV,_⟩:=hW;exact(trodVars_none hV).1
 subst qp;refine ag6 H enc W base args ds [] before cH hW (λx hx=>?_) g1;rw[gY] at Ks;have:=Ks x (by rw[params,oa];exact hx);simpa using this
theorem said:Rows.PrinterPlainSaid:=
 OpenClaim.holds_of_cond 6 Tryz.f6 rfl rfl rfl rfl rfl rfl rfl ⟨rfl,rfl,rfl,rfl,rfl⟩ rfl rfl rfl rfl rfl (by kernel_rfl) Tryz.func6 (by kernel_rfl)
  (sn (by kernel_rfl)) (by unfold Func.isWrapper;first | (rw[aP (by decide +kernel)];kernel_rfl) | (rw[aI (by decide +kernel)];exact⟨rfl,rfl⟩))
  (λos started H enc _ F=>by rw[OpenClaim.pre_eq_preRow];exact lifted os started H enc F)
theorem plain (f:FuncId) (fn:Func) (hf:Tryz.pinned.checked.prog.funcNamed "repartee/reparteelaw16.PrinterPlain" = some f) (yc:Tryz.pinned.checked.prog.funcs[f]? = some fn) :
  false=Tryz.pinned.checked.prog.looks []/\∀(j:Nat) t,fn.params[j]? = some t->Tryz.pinned.checked.prog.wantsStandIn t=false:=by
 obtain rfl:f=6:=ue ((show Tryz.prog.funcNamed "repartee/reparteelaw16.PrinterPlain" = some 6 by kernel_rfl).symm.trans hf) |>.symm;obtain rfl:fn=Tryz.f6:=(ue (Tryz.func6.symm.trans yc)).symm;refine⟨by kernel_rfl,λj t ht=>?_⟩;have h3:t∈Tryz.f6.params.toList:=by
  have:=Array.mem_of_getElem? ht;simpa using this
 rw[params] at h3;have:=gY.1 (show ([41,3,39,53,22,3,3]:List TypeId).all (λt=>Tryz.prog.wantsStandIn t==false)=true by kernel_rfl) t h3;exact kv.1 this
theorem proved:Rows.PrinterPlainCardSaid:=
 Claim7.holds_tied_plain_at .later [] _ _ _ _ said (λ_ h=>by cases h) (by kernel_rfl) (λ_ h=>by cases h) printerPlain_row_tie rfl ⟨rfl,rfl⟩ (by kernel_rfl) rfl plain (by kernel_rfl)
end Go.Proofs.YtfmpdgeiodnnfaaGreatDoor.printerPlain
