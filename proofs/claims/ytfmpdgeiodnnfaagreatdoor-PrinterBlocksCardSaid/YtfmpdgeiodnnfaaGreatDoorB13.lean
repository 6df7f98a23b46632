/- A part of the proof. -/
import Derived.Test.YtfmpdgeiodnnfaaGreatDoorB3
import Derived.Test.YtfmpdgeiodnnfaaGreatDoorB11
import Derived.Test.YtfmpdgeiodnnfaaGreatDoorCards
import Derived.Test.YtfmpdgeiodnnfaaGreatDoorTie
import Derived.ProofKit
import Derived.Deep.DeepHandedRow
import Derived.Deep.DeepLaidRun
import Derived.Lib.LaidTab
import Derived.Stop.LaidErr
set_option maxRecDepth 100000
set_option linter.all false
namespace Go.Proofs.YtfmpdgeiodnnfaaGreatDoor.printerBlocks
open Go Go.ax Go.RowKit Go.Stop Go.ChangeShapes Go.WideShapes Go.ChangeAt
abbrev Yo:Nat:=1
abbrev aiU:Nat:=2
abbrev aiV:Nat:=3
def Oy {H:Type}:DataW H→Array Value
 | .agg l=>(l.map fun | .lit (.int k n)=>Value.int k n | _=>.bool false).toArray
 | _=>#[]
def Tt (w:World) (b:Nat) (c:Array Value):World:={ w with heap:=w.heap.modify b fun | .cells _ t frozen=>.cells c t frozen | o=>o }
noncomputable def RC (os:Os):World:=
 Tt (Tt (Tt (World.holding Tryz.prog os ⟨#[], #[], []⟩)
   Yo (Oy (Rows.laid_internal_strconv_uint64pow10 (H := Unit)))) aiU (Oy (Rows.laid_math_bits_deBruijn32tab (H := Unit)))) aiV (Oy (Rows.laid_math_bits_deBruijn64tab (H := Unit)))
theorem anr (os:Os):laidMet Tryz.prog Rows.printerBlocksRow.laid ((RC os).forCall (fun _ _=>0) ⟨#[],#[.slice none 0 0],[]⟩).memory:=
 laidMet_of_run3 8 (by kernel_rfl) (by kernel_rfl) (by kernel_rfl)
theorem reads (os:Os) {H:Type} (enc:TypeId×Value→H):∃places,DataW.whole enc Tryz.prog ((RC os).forCall (fun _ _=>0) ⟨#[],#[.slice none 0 0],[]⟩).memory Tryz.f3.params.toList Rows.printerBlocksSpec.vars false #[Value.slice none 0 0].toList 8=some ([.nil],[],places):=
 ⟨[],by kernel_rfl⟩
theorem aiY {W:World} (h:laidMet Tryz.prog Rows.printerBlocksRow.laid W):Lib.TabIs Tryz.prog W Md .u64 Lib.pow10Tab:=by
 have h2:=(h.tail).tail;exact Lib.tabIs_of_head (n:=20) (g:=Yo) (t:=250) (e:=200) (by kernel_rfl) (by kernel_rfl) (by kernel_rfl) (by kernel_rfl) (by kernel_rfl) (by kernel_rfl) h2
end Go.Proofs.YtfmpdgeiodnnfaaGreatDoor.printerBlocks
