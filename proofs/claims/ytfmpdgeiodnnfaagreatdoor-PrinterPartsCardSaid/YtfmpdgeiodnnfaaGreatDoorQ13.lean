/- A part of the proof. -/
import Derived.Test.YtfmpdgeiodnnfaaGreatDoorQ3
import Derived.Test.YtfmpdgeiodnnfaaGreatDoorQ11
import Derived.Test.YtfmpdgeiodnnfaaGreatDoorCards
import Derived.Test.YtfmpdgeiodnnfaaGreatDoorTie
import Derived.ProofKit
import Derived.Deep.DeepHandedRow
import Derived.Deep.DeepLaidRun
import Derived.Lib.LaidTab
import Derived.Stop.LaidErr
set_option maxRecDepth 100000
set_option linter.all false
namespace Go.Proofs.YtfmpdgeiodnnfaaGreatDoor.printerParts
open Go Go.ax Go.RowKit Go.Stop Go.ChangeShapes Go.WideShapes Go.ChangeAt
abbrev YE:Nat:=1
abbrev ai5:Nat:=2
abbrev ai6:Nat:=3
def OA {H:Type}:DataW H→Array Value
 | .agg l=>(l.map fun | .lit (.int k n)=>Value.int k n | _=>.bool false).toArray
 | _=>#[]
def TJ (w:World) (b:Nat) (c:Array Value):World:={ w with heap:=w.heap.modify b fun | .cells _ t frozen=>.cells c t frozen | o=>o }
noncomputable def RN (os:Os):World:=
 TJ (TJ (TJ (World.holding Tryz.prog os ⟨#[], #[], []⟩)
   YE (OA (Rows.laid_internal_strconv_uint64pow10 (H := Unit)))) ai5 (OA (Rows.laid_math_bits_deBruijn32tab (H := Unit)))) ai6 (OA (Rows.laid_math_bits_deBruijn64tab (H := Unit)))
theorem anz (os:Os):laidMet Tryz.prog Rows.printerPartsRow.laid ((RN os).forCall (fun _ _=>0) ⟨#[],#[.slice none 0 0,.slice none 0 0],[]⟩).memory:=
 laidMet_of_run3 8 (by kernel_rfl) (by kernel_rfl) (by kernel_rfl)
theorem reads (os:Os) {H:Type} (enc:TypeId×Value→H):∃places,DataW.whole enc Tryz.prog ((RN os).forCall (fun _ _=>0) ⟨#[],#[.slice none 0 0,.slice none 0 0],[]⟩).memory Tryz.f7.params.toList Rows.printerPartsSpec.vars false #[Value.slice none 0 0,Value.slice none 0 0].toList 8=some ([.nil,.nil],[],places):=
 ⟨[],by kernel_rfl⟩
theorem ai9 {W:World} (h:laidMet Tryz.prog Rows.printerPartsRow.laid W):Lib.TabIs Tryz.prog W Ma .u64 Lib.pow10Tab:=by
 have h2:=(h.tail).tail;exact Lib.tabIs_of_head (n:=20) (g:=YE) (t:=250) (e:=200) (by kernel_rfl) (by kernel_rfl) (by kernel_rfl) (by kernel_rfl) (by kernel_rfl) (by kernel_rfl) h2
end Go.Proofs.YtfmpdgeiodnnfaaGreatDoor.printerParts
