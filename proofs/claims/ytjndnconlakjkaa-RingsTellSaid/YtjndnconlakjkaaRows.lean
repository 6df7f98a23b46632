/-
  No cell of these rows narrows 'for every input' (looked for: loops, veiled, ifaces, maps, wideKeys, modest, calm, conditions, laid).
  DERIVED. THE GIVEN ROWS OF THIS SEAT. 2 by the template 'for every input the law returns true; each argument reads behind the call as it read before'; 0 by the template 'total and deterministic' (their statements: YtjndnconlakjkaaTotals.lean).
  GIVEN WITH THE SEED: the statements are not yours to turn. If you find one false, say at which input.
  Laid BY PROGRAM, IN A SANDBOX (cutbox-rows.mjs): the forced cells as the released guide's own fill.sh prints them over the translation dde3d1aa70931a38… (all of the seat's roots in one cut). By AI agents, Wed Nov 11 2026. No macro, syntax, notation, axiom, sorry.
-/
import Derived.Test.YtjndnconlakjkaaChecked
import GoSem.Claim
import GoSem.ClaimJoined
import GoSem.ClaimMapViews
import Derived.JoinedTies
import Derived.KernelRfl
namespace Go.Proofs.Ytjndnconlakjkaa
/- THE CELL 'sum', in the pinned program and in every row, IS THE sha256 OF THE DUMP (.gsa) THAT YtjndnconlakjkaaProg.lean LOADS. Nothing in Lean hashes anything: it is a label: what it is worth is what the hold of that sum in a sandbox is worth. -/
noncomputable def Try.pinned : Pinned := { name := "ytjndnconlakjkaa", sum := "dde3d1aa70931a38202915ed4ecc7677a6e920e721fcc1d6c5c583d54c575250", checked := Try.checked }
namespace Rows
def none {H : Type} : Left H := { results := [], args := [] }

/-- 'reparteelaw37.RingsTell': WHATEVER THE INPUT: true; the input reads as it did. -/
def ringsTellSpec : ChangeSpec := { name := "ringsTell", fn := fun _ => fun
  | [d1, d2, d3, d4] => { results := [.lit (.bool true)], args := [d1, d2, d3, d4] }
  | _ => none }
def ringsTellRow : OpenClaim := { program := "ytjndnconlakjkaa", sum := "dde3d1aa70931a38202915ed4ecc7677a6e920e721fcc1d6c5c583d54c575250", func := "repartee/reparteelaw37.RingsTell", spec := "ringsTell", apart := false }
def RingsTellSaid : Prop := ringsTellRow.holds Try.pinned (OpenSpec.ofChange ringsTellSpec)

/-- ITS FALSE NEIGHBOUR: 'it returns false'. Refute it at one input. -/
def ringsTellWrong : ChangeSpec := { name := "ringsTell", fn := fun _ => fun
  | [d1, d2, d3, d4] => { results := [.lit (.bool false)], args := [d1, d2, d3, d4] }
  | _ => none }
def RingsTellWrongFalsely : Prop := ringsTellRow.holds Try.pinned (OpenSpec.ofChange ringsTellWrong)

/-- 'reparteelaw37.RingsQueue': WHATEVER THE INPUT: true; the input reads as it did. -/
def ringsQueueSpec : ChangeSpec := { name := "ringsQueue", fn := fun _ => fun
  | [d1, d2] => { results := [.lit (.bool true)], args := [d1, d2] }
  | _ => none }
def ringsQueueRow : OpenClaim := { program := "ytjndnconlakjkaa", sum := "dde3d1aa70931a38202915ed4ecc7677a6e920e721fcc1d6c5c583d54c575250", func := "repartee/reparteelaw37.RingsQueue", spec := "ringsQueue", apart := false }
def RingsQueueSaid : Prop := ringsQueueRow.holds Try.pinned (OpenSpec.ofChange ringsQueueSpec)

/-- ITS FALSE NEIGHBOUR: 'it returns false'. Refute it at one input. -/
def ringsQueueWrong : ChangeSpec := { name := "ringsQueue", fn := fun _ => fun
  | [d1, d2] => { results := [.lit (.bool false)], args := [d1, d2] }
  | _ => none }
def RingsQueueWrongFalsely : Prop := ringsQueueRow.holds Try.pinned (OpenSpec.ofChange ringsQueueWrong)

/- THE SECOND FORM. 'bulk': how many values and letters a reading holds, each counted each time it is reached (what is shared counts as often as it is met; a slice's spare places count too). A statement '..UptoSaid' is the law's where the arguments, and the package variables that the reading takes, are together of bulk at most 1048576: NARROWER than '..Said'. Prove '..Said' where nothing that the law and all that it calls make is longer than what came in: it says more and counts as full. Else prove '..UptoSaid'. A law counts once. -/
mutual
def uptoBulk {H : Type} : DataW H → Nat
  | .lit (.string bytes) => bytes.length + 1
  | .lit _ => 1
  | .nil => 1
  | .ptr d => uptoBulk d + 1
  | .slice elems spare => uptoBulkAll elems + uptoBulkAll spare + 1
  | .agg parts => uptoBulkAll parts + 1
  | .iface _ d => uptoBulk d + 1
  | .map entries => uptoBulkEntries entries + 1
  | .held _ => 1
def uptoBulkAll {H : Type} : List (DataW H) → Nat
  | [] => 0
  | d :: r => uptoBulk d + uptoBulkAll r
def uptoBulkEntries {H : Type} : List (Lit × DataW H) → Nat
  | [] => 0
  | x :: r => uptoBulkEntry x + uptoBulkEntries r
def uptoBulkEntry {H : Type} : Lit × DataW H → Nat
  | (.string bytes, d) => bytes.length + uptoBulk d + 1
  | (_, d) => uptoBulk d + 1
 end
def uptoSmall : (H : Type) → List (DataW H) → Bool := fun _ ds => decide (uptoBulkAll ds ≤ 1048576)
def OpenSpec.upto (s : _root_.Go.ChangeSpec) : _root_.Go.OpenSpec := { _root_.Go.OpenSpec.ofChange s with cond := some uptoSmall }

/-- 'reparteelaw37.RingsTell', WHERE WHAT IT READS IS OF BULK AT MOST 1048576: true; the input reads as it did. -/
def ringsTellUptoRow : OpenClaim := { program := "ytjndnconlakjkaa", sum := "dde3d1aa70931a38202915ed4ecc7677a6e920e721fcc1d6c5c583d54c575250", func := "repartee/reparteelaw37.RingsTell", spec := "ringsTell", apart := false, narrowed := true }
def RingsTellUptoSaid : Prop := ringsTellUptoRow.holds Try.pinned (OpenSpec.upto ringsTellSpec)

/-- 'reparteelaw37.RingsQueue', WHERE WHAT IT READS IS OF BULK AT MOST 1048576: true; the input reads as it did. -/
def ringsQueueUptoRow : OpenClaim := { program := "ytjndnconlakjkaa", sum := "dde3d1aa70931a38202915ed4ecc7677a6e920e721fcc1d6c5c583d54c575250", func := "repartee/reparteelaw37.RingsQueue", spec := "ringsQueue", apart := false, narrowed := true }
def RingsQueueUptoSaid : Prop := ringsQueueUptoRow.holds Try.pinned (OpenSpec.upto ringsQueueSpec)

end Rows
end Go.Proofs.Ytjndnconlakjkaa
