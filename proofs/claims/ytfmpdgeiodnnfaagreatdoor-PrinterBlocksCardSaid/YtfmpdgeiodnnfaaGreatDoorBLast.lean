/- PrinterBlocks: each line of a printed program is indented by two blanks for each open block, and all blocks are closed; for all arguments. -/
import Derived.Test.YtfmpdgeiodnnfaaGreatDoorB12
import Derived.Test.YtfmpdgeiodnnfaaGreatDoorB13
set_option maxRecDepth 100000
set_option linter.all false
namespace Go.Proofs.YtfmpdgeiodnnfaaGreatDoor.printerBlocks
open Go Go.ax Go.RowKit Go.Stop Go.ChangeShapes Go.WideShapes Go.ChangeAt QQ
theorem lifted (os:Os) (started:os.Started) (H:Type) (enc:TypeId×Value→H) (F:Stop.Interp) :
  ReturnsInHanded {} Tryz.checked os 3 .any ((OpenSpec.ofChange Rows.printerBlocksSpec).preRow enc Tryz.prog Tryz.f3 Rows.printerBlocksRow.domain false Rows.printerBlocksRow.laid) (((OpenSpec.ofChange Rows.printerBlocksSpec).at F).post enc Tryz.prog Tryz.f3 false true false false):=by
 obtain ⟨places,hx⟩:=reads os enc;refine returnsInHanded_of_row (C:=Tryz.checked) (s:=OpenSpec.ofChange Rows.printerBlocksSpec) own started (by kernel_rfl) Tryz.func3
  (witness_row_at (enc := enc) (C := Tryz.checked) false (RC os) #[.slice none 0 0] rfl (by kernel_rfl) (by kernel_rfl) (by kernel_rfl)
    (OpenSpec.preRow_of_cond 8 hx (by kernel_rfl) (fun k hk => by cases hk) (by kernel_rfl) (anr os))) ?_
 intro W base args ds gs before cm hW _ _ JL hL _ _;have g1:=aiY hL;have qi:gs=[]:=by
  obtain ⟨p,q,_,hV,_⟩:=hW;exact (trodVars_none hV).1
 subst qi;refine afI H enc W base args ds [] before cm hW (fun x hx=>?_) g1;rw [lI] at JL;have:=JL x (by rw [params,mJ];exact hx);simpa using this
theorem said:Rows.PrinterBlocksSaid:=
 OpenClaim.holds_of_cond 3 Tryz.f3 rfl rfl rfl rfl rfl rfl rfl ⟨rfl,rfl,rfl,rfl,rfl⟩ rfl rfl rfl rfl rfl (by kernel_rfl) Tryz.func3 (by kernel_rfl)
  (tF (by kernel_rfl)) (by unfold Func.isWrapper;first | (rw [aJ (by decide +kernel)];kernel_rfl) | (rw [aB (by decide +kernel)];exact ⟨rfl,rfl⟩))
  (fun os started H enc _ F=>by rw [OpenClaim.pre_eq_preRow];exact lifted os started H enc F)
theorem plain (f:FuncId) (fn:Func) (hf:Tryz.pinned.checked.prog.funcNamed "repartee/reparteelaw16.PrinterBlocks" = some f) (xk:Tryz.pinned.checked.prog.funcs[f]? = some fn) :
  false=Tryz.pinned.checked.prog.looks []∧∀(j:Nat) t,fn.params[j]? = some t→Tryz.pinned.checked.prog.wantsStandIn t=false:=by
 obtain rfl:f=3:=oY ((show Tryz.prog.funcNamed "repartee/reparteelaw16.PrinterBlocks" = some 3 by kernel_rfl).symm.trans hf) |>.symm;obtain rfl:fn=Tryz.f3:=(oY (Tryz.func3.symm.trans xk)).symm;refine ⟨by kernel_rfl,fun j t ht=>?_⟩;have h3:t∈Tryz.f3.params.toList:=by
  have:=Array.mem_of_getElem? ht;simpa using this
 rw [params] at h3;have:t=22:=by simpa using h3
 subst this;exact (show Tryz.prog.wantsStandIn 22=false by kernel_rfl)
theorem proved:Rows.PrinterBlocksCardSaid:=
 Claim7.holds_tied_plain_at .later [] _ _ _ _ said (fun _ h=>by cases h) (by kernel_rfl) (fun _ h=>by cases h) printerBlocks_row_tie rfl ⟨rfl,rfl⟩ (by kernel_rfl) rfl plain (by kernel_rfl)
end Go.Proofs.YtfmpdgeiodnnfaaGreatDoor.printerBlocks
