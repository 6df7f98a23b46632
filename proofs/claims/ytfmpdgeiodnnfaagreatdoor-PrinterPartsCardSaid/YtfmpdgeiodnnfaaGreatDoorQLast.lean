/- PrinterParts: the text of a generated program with a local type put in is the texts of its protocols, of its local type and of its procedures, one behind the other; for all arguments. -/
import Derived.Test.YtfmpdgeiodnnfaaGreatDoorQ12
import Derived.Test.YtfmpdgeiodnnfaaGreatDoorQ13
set_option maxRecDepth 100000
set_option linter.all false
namespace Go.Proofs.YtfmpdgeiodnnfaaGreatDoor.printerParts
open Go Go.ax Go.RowKit Go.Stop Go.ChangeShapes Go.WideShapes Go.ChangeAt QQ
theorem lifted (os:Os) (started:os.Started) (H:Type) (enc:TypeId×Value→H) (F:Stop.Interp) :
  ReturnsInHanded {} Tryz.checked os 7 .any ((OpenSpec.ofChange Rows.printerPartsSpec).preRow enc Tryz.prog Tryz.f7 Rows.printerPartsRow.domain false Rows.printerPartsRow.laid) (((OpenSpec.ofChange Rows.printerPartsSpec).at F).post enc Tryz.prog Tryz.f7 false true false false):=by
 obtain ⟨places,hx⟩:=reads os enc;refine returnsInHanded_of_row (C:=Tryz.checked) (s:=OpenSpec.ofChange Rows.printerPartsSpec) own started (by kernel_rfl) Tryz.func7
  (witness_row_at (enc := enc) (C := Tryz.checked) false (RN os) #[.slice none 0 0, .slice none 0 0] rfl (by kernel_rfl) (by kernel_rfl) (by kernel_rfl)
    (OpenSpec.preRow_of_cond 8 hx (by kernel_rfl) (fun k hk => by cases hk) (by kernel_rfl) (anz os))) ?_
 intro W base args ds gs before cr hW _ _ JI hL _ _;have g1:=ai9 hL;have qp:gs=[]:=by
  obtain ⟨p,q,_,hV,_⟩:=hW;exact (trodVars_none hV).1
 subst qp;refine afT H enc W base args ds [] before cr hW (fun x hx=>?_) g1;rw [lM] at JI;have:=JI x (by rw [params,mR];exact hx);simpa using this
theorem said:Rows.PrinterPartsSaid:=
 OpenClaim.holds_of_cond 7 Tryz.f7 rfl rfl rfl rfl rfl rfl rfl ⟨rfl,rfl,rfl,rfl,rfl⟩ rfl rfl rfl rfl rfl (by kernel_rfl) Tryz.func7 (by kernel_rfl)
  (tN (by kernel_rfl)) (by unfold Func.isWrapper;first | (rw [aJ (by decide +kernel)];kernel_rfl) | (rw [aB (by decide +kernel)];exact ⟨rfl,rfl⟩))
  (fun os started H enc _ F=>by rw [OpenClaim.pre_eq_preRow];exact lifted os started H enc F)
theorem plain (f:FuncId) (fn:Func) (hf:Tryz.pinned.checked.prog.funcNamed "repartee/reparteelaw16.PrinterParts" = some f) (xu:Tryz.pinned.checked.prog.funcs[f]? = some fn) :
  false=Tryz.pinned.checked.prog.looks []∧∀(j:Nat) t,fn.params[j]? = some t→Tryz.pinned.checked.prog.wantsStandIn t=false:=by
 obtain rfl:f=7:=tM ((show Tryz.prog.funcNamed "repartee/reparteelaw16.PrinterParts" = some 7 by kernel_rfl).symm.trans hf) |>.symm;obtain rfl:fn=Tryz.f7:=(tM (Tryz.func7.symm.trans xu)).symm;refine ⟨by kernel_rfl,fun j t ht=>?_⟩;have h3:t∈Tryz.f7.params.toList:=by
  have:=Array.mem_of_getElem? ht;simpa using this
 rw [params] at h3;have:t=22:=by simpa using h3
 subst this;exact (show Tryz.prog.wantsStandIn 22=false by kernel_rfl)
theorem proved:Rows.PrinterPartsCardSaid:=
 Claim7.holds_tied_plain_at .later [] _ _ _ _ said (fun _ h=>by cases h) (by kernel_rfl) (fun _ h=>by cases h) printerParts_row_tie rfl ⟨rfl,rfl⟩ (by kernel_rfl) rfl plain (by kernel_rfl)
end Go.Proofs.YtfmpdgeiodnnfaaGreatDoor.printerParts
