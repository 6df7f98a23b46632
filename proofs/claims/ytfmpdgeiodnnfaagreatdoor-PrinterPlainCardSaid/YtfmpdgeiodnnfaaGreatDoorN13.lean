/- A part of the proof. -/
import Derived.Test.YtfmpdgeiodnnfaaGreatDoorN3
import Derived.Test.YtfmpdgeiodnnfaaGreatDoorCards
import Derived.Test.YtfmpdgeiodnnfaaGreatDoorTie
import Derived.ProofKit
import Derived.Deep.DeepHandedRow
import Derived.Deep.DeepLaidRun
import Derived.Lib.LaidTab
import Derived.Stop.LaidErr
import Derived.Test.YtfmpdgeiodnnfaaGreatDoorN11
set_option linter.all false
set_option maxRecDepth 100000
namespace Go.Proofs.YtfmpdgeiodnnfaaGreatDoor.printerPlain
open Go Go.ax Go.RowKit Go.Stop Go.ChangeShapes Go.WideShapes Go.ChangeAt
abbrev Zp:Nat:=1
abbrev aky:Nat:=2
abbrev akz:Nat:=3
def PB {H:Type}:DataW H->Array Value
 | .agg l=>(l.map λ| .lit (.int k n)=>Value.int k n | _=>.bool false).toArray
 | _=>#[]
def Uy (w:World) (b:Nat) (c:Array Value):World:={ w with heap:=w.heap.modify b λ| .cells _ t frozen=>.cells c t frozen | o=>o }
noncomputable def SP (os:Os):World:=
 Uy (Uy (Uy (World.holding Tryz.prog os ⟨#[], #[], []⟩)
   Zp (PB (Rows.laid_internal_strconv_uint64pow10 (H := Unit)))) aky (PB (Rows.laid_math_bits_deBruijn32tab (H := Unit)))) akz (PB (Rows.laid_math_bits_deBruijn64tab (H := Unit)))
theorem apb (os:Os):laidMet Tryz.prog Rows.printerPlainRow.laid ((SP os).forCall (λ_ _=>0) ⟨#[],#[.slice none 0 0,.int .i64 0,.agg #[.string ⟨#[]⟩,.slice none 0 0,.slice none 0 0],.agg #[.string ⟨#[]⟩,.slice none 0 0],.slice none 0 0,.int .i64 0,.int .i64 0],[]⟩).memory:=
 laidMet_of_run3 8 (by kernel_rfl) (by kernel_rfl) (by kernel_rfl)
theorem reads (os:Os) {H:Type} (enc:TypeId×Value->H):∃places,DataW.whole enc Tryz.prog ((SP os).forCall (λ_ _=>0) ⟨#[],#[.slice none 0 0,.int .i64 0,.agg #[.string ⟨#[]⟩,.slice none 0 0,.slice none 0 0],.agg #[.string ⟨#[]⟩,.slice none 0 0],.slice none 0 0,.int .i64 0,.int .i64 0],[]⟩).memory Tryz.f6.params.toList Rows.printerPlainSpec.vars false #[Value.slice none 0 0,.int .i64 0,.agg #[.string ⟨#[]⟩,.slice none 0 0,.slice none 0 0],.agg #[.string ⟨#[]⟩,.slice none 0 0],.slice none 0 0,.int .i64 0,.int .i64 0].toList 8=some ([.nil,.lit (.int .i64 0),.agg [.lit (.string []),.nil,.nil],.agg [.lit (.string []),.nil],.nil,.lit (.int .i64 0),.lit (.int .i64 0)],[],places):=
 ⟨[],by kernel_rfl⟩
theorem akE {W:World} (h:laidMet Tryz.prog Rows.printerPlainRow.laid W):Lib.TabIs Tryz.prog W MY .u64 Lib.pow10Tab:=by
 have h2:=(h.tail).tail;exact Lib.tabIs_of_head (n:=20) (g:=Zp) (t:=250) (e:=200) (by kernel_rfl) (by kernel_rfl) (by kernel_rfl) (by kernel_rfl) (by kernel_rfl) (by kernel_rfl) h2
end Go.Proofs.YtfmpdgeiodnnfaaGreatDoor.printerPlain
