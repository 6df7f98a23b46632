/- PrinterLines: a printed program has one line for each step, one or two more for each If, Hear and Way, two for each procedure, and the lines of its protocols; for all arguments. -/
import Derived.Test.YtfmpdgeiodnnfaaGreatDoorL12
import Derived.Test.YtfmpdgeiodnnfaaGreatDoorL13
set_option maxRecDepth 100000
set_option linter.all false
namespace Go.Proofs.YtfmpdgeiodnnfaaGreatDoor.printerLines
open Go Go.ax Go.RowKit Go.Stop Go.ChangeShapes Go.WideShapes Go.ChangeAt QQ
theorem lifted (os:Os) (started:os.Started) (H:Type) (enc:TypeId×Value→H) (F:Stop.Interp) :
  ReturnsInHanded {} Tryz.checked os 4 .any ((OpenSpec.ofChange Rows.printerLinesSpec).preRow enc Tryz.prog Tryz.f4 Rows.printerLinesRow.domain false Rows.printerLinesRow.laid) (((OpenSpec.ofChange Rows.printerLinesSpec).at F).post enc Tryz.prog Tryz.f4 false true false false):=by
 obtain ⟨places,hx⟩:=reads os enc;refine returnsInHanded_of_row (C:=Tryz.checked) (s:=OpenSpec.ofChange Rows.printerLinesSpec) own started (by kernel_rfl) Tryz.func4
  (witness_row_at (enc := enc) (C := Tryz.checked) false (Rz os) #[.slice none 0 0] rfl (by kernel_rfl) (by kernel_rfl) (by kernel_rfl)
    (OpenSpec.preRow_of_cond 8 hx (by kernel_rfl) (fun k hk => by cases hk) (by kernel_rfl) (ank os))) ?_
 intro W base args ds gs before cu hW _ _ JN hL _ _;have g1:=aiW hL;have qe:gs=[]:=by
  obtain ⟨p,q,_,hV,_⟩:=hW;exact (trodVars_none hV).1
 subst qe;refine afG H enc W base args ds [] before cu hW (fun x hx=>?_) g1;rw [lH] at JN;have:=JN x (by rw [params,mH];exact hx);simpa using this
theorem said:Rows.PrinterLinesSaid:=
 OpenClaim.holds_of_cond 4 Tryz.f4 rfl rfl rfl rfl rfl rfl rfl ⟨rfl,rfl,rfl,rfl,rfl⟩ rfl rfl rfl rfl rfl (by kernel_rfl) Tryz.func4 (by kernel_rfl)
  (rU (by kernel_rfl)) (by unfold Func.isWrapper;first | (rw [aJ (by decide +kernel)];kernel_rfl) | (rw [az (by decide +kernel)];exact ⟨rfl,rfl⟩))
  (fun os started H enc _ F=>by rw [OpenClaim.pre_eq_preRow];exact lifted os started H enc F)
theorem plain (f:FuncId) (fn:Func) (hf:Tryz.pinned.checked.prog.funcNamed "repartee/reparteelaw16.PrinterLines" = some f) (xm:Tryz.pinned.checked.prog.funcs[f]? = some fn) :
  false=Tryz.pinned.checked.prog.looks []∧∀(j:Nat) t,fn.params[j]? = some t→Tryz.pinned.checked.prog.wantsStandIn t=false:=by
 obtain rfl:f=4:=uS ((show Tryz.prog.funcNamed "repartee/reparteelaw16.PrinterLines" = some 4 by kernel_rfl).symm.trans hf) |>.symm;obtain rfl:fn=Tryz.f4:=(uS (Tryz.func4.symm.trans xm)).symm;refine ⟨by kernel_rfl,fun j t ht=>?_⟩;have h3:t∈Tryz.f4.params.toList:=by
  have:=Array.mem_of_getElem? ht;simpa using this
 rw [params] at h3;have:t=22:=by simpa using h3
 subst this;exact (show Tryz.prog.wantsStandIn 22=false by kernel_rfl)
theorem proved:Rows.PrinterLinesCardSaid:=
 Claim7.holds_tied_plain_at .later [] _ _ _ _ said (fun _ h=>by cases h) (by kernel_rfl) (fun _ h=>by cases h) printerLines_row_tie rfl ⟨rfl,rfl⟩ (by kernel_rfl) rfl plain (by kernel_rfl)
end Go.Proofs.YtfmpdgeiodnnfaaGreatDoor.printerLines
