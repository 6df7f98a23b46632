/- A part of the proof. -/
import Derived.Test.YtfmpdgeiodnnfaaGreatDoorL3
import Derived.Test.YtfmpdgeiodnnfaaGreatDoorL11
import Derived.Test.YtfmpdgeiodnnfaaGreatDoorCards
import Derived.Test.YtfmpdgeiodnnfaaGreatDoorTie
import Derived.ProofKit
import Derived.Deep.DeepHandedRow
import Derived.Deep.DeepLaidRun
import Derived.Lib.LaidTab
import Derived.Stop.LaidErr
set_option maxRecDepth 100000
set_option linter.all false
namespace Go.Proofs.YtfmpdgeiodnnfaaGreatDoor.printerLines
open Go Go.ax Go.RowKit Go.Stop Go.ChangeShapes Go.WideShapes Go.ChangeAt
abbrev Yj:Nat:=1
abbrev aiS:Nat:=2
abbrev aiT:Nat:=3
def Ou {H:Type}:DataW H→Array Value
 | .agg l=>(l.map fun | .lit (.int k n)=>Value.int k n | _=>.bool false).toArray
 | _=>#[]
def Tp (w:World) (b:Nat) (c:Array Value):World:={ w with heap:=w.heap.modify b fun | .cells _ t frozen=>.cells c t frozen | o=>o }
noncomputable def Rz (os:Os):World:=
 Tp (Tp (Tp (World.holding Tryz.prog os ⟨#[], #[], []⟩)
   Yj (Ou (Rows.laid_internal_strconv_uint64pow10 (H := Unit)))) aiS (Ou (Rows.laid_math_bits_deBruijn32tab (H := Unit)))) aiT (Ou (Rows.laid_math_bits_deBruijn64tab (H := Unit)))
theorem ank (os:Os):laidMet Tryz.prog Rows.printerLinesRow.laid ((Rz os).forCall (fun _ _=>0) ⟨#[],#[.slice none 0 0],[]⟩).memory:=
 laidMet_of_run3 8 (by kernel_rfl) (by kernel_rfl) (by kernel_rfl)
theorem reads (os:Os) {H:Type} (enc:TypeId×Value→H):∃places,DataW.whole enc Tryz.prog ((Rz os).forCall (fun _ _=>0) ⟨#[],#[.slice none 0 0],[]⟩).memory Tryz.f4.params.toList Rows.printerLinesSpec.vars false #[Value.slice none 0 0].toList 8=some ([.nil],[],places):=
 ⟨[],by kernel_rfl⟩
theorem aiW {W:World} (h:laidMet Tryz.prog Rows.printerLinesRow.laid W):Lib.TabIs Tryz.prog W Mc .u64 Lib.pow10Tab:=by
 have h2:=(h.tail).tail;exact Lib.tabIs_of_head (n:=20) (g:=Yj) (t:=250) (e:=200) (by kernel_rfl) (by kernel_rfl) (by kernel_rfl) (by kernel_rfl) (by kernel_rfl) (by kernel_rfl) h2
end Go.Proofs.YtfmpdgeiodnnfaaGreatDoor.printerLines
