/-
  NARROWER THAN 'FOR EVERY INPUT', by the rows' own cells (each row's printed sentence says how): PrinterBlocks: laid · PrinterLines: laid · PrinterTells: laid · PrinterPlain: laid · PrinterParts: laid · PrinterRise: laid.
  DERIVED. THE GIVEN ROWS OF THIS SEAT. 6 by the template 'for every input the law returns true; each argument reads behind the call as it read before'; 0 by the template 'total and deterministic' (their statements: YtfmpdgeiodnnfaaGreatDoorTotals.lean).
  GIVEN WITH THE SEED: the statements are not yours to turn. If you find one false, say at which input.
  Laid BY PROGRAM, IN A SANDBOX (cutbox-rows.mjs): the forced cells as the released guide's own fill.sh prints them over the translation d8a0e3f0fd25e5db… (all of the seat's roots in one cut). By AI agents, Wed Nov 11 2026. No macro, syntax, notation, axiom, sorry.
-/
import Derived.Test.YtfmpdgeiodnnfaaGreatDoorChecked
import GoSem.Claim
import GoSem.ClaimJoined
import GoSem.ClaimMapViews
import Derived.JoinedTies
import Derived.KernelRfl
namespace Go.Proofs.YtfmpdgeiodnnfaaGreatDoor
/- THE CELL 'sum', in the pinned program and in every row, IS THE sha256 OF THE DUMP (.gsa) THAT YtfmpdgeiodnnfaaGreatDoorProg.lean LOADS. Nothing in Lean hashes anything: it is a label: what it is worth is what the hold of that sum in a sandbox is worth. -/
noncomputable def Tryz.pinned : Pinned := { name := "ytfmpdgeiodnnfaagreatdoor", sum := "d8a0e3f0fd25e5db20dba564fc4f094d8c1825bfae6e89ede434e7b5075db5e7", checked := Tryz.checked }
namespace Rows
def none {H : Type} : Left H := { results := [], args := [] }

/- WHAT THE LISTED PACKAGE-LEVEL VARIABLES READ AS WHEN THE CALL BEGINS. Each datum BY PROGRAM (the guide's laid-datum.mjs) off the statement by which the dump's own 'gosem.cut.vars' lays the variable. In a bare row this is a premise. The card (YtfmpdgeiodnnfaaGreatDoorCards.lean) ties it to the program's text. -/
def laid_math_bits_deBruijn32tab {H : Type} : DataW H := .agg [.lit (.int .u8 0), .lit (.int .u8 1), .lit (.int .u8 28), .lit (.int .u8 2), .lit (.int .u8 29), .lit (.int .u8 14), .lit (.int .u8 24), .lit (.int .u8 3), .lit (.int .u8 30), .lit (.int .u8 22), .lit (.int .u8 20), .lit (.int .u8 15), .lit (.int .u8 25), .lit (.int .u8 17), .lit (.int .u8 4), .lit (.int .u8 8), .lit (.int .u8 31), .lit (.int .u8 27), .lit (.int .u8 13), .lit (.int .u8 23), .lit (.int .u8 21), .lit (.int .u8 19), .lit (.int .u8 16), .lit (.int .u8 7), .lit (.int .u8 26), .lit (.int .u8 12), .lit (.int .u8 18), .lit (.int .u8 6), .lit (.int .u8 11), .lit (.int .u8 5), .lit (.int .u8 10), .lit (.int .u8 9)]
def laid_math_bits_deBruijn64tab {H : Type} : DataW H := .agg [.lit (.int .u8 0), .lit (.int .u8 1), .lit (.int .u8 56), .lit (.int .u8 2), .lit (.int .u8 57), .lit (.int .u8 49), .lit (.int .u8 28), .lit (.int .u8 3), .lit (.int .u8 61), .lit (.int .u8 58), .lit (.int .u8 42), .lit (.int .u8 50), .lit (.int .u8 38), .lit (.int .u8 29), .lit (.int .u8 17), .lit (.int .u8 4), .lit (.int .u8 62), .lit (.int .u8 47), .lit (.int .u8 59), .lit (.int .u8 36), .lit (.int .u8 45), .lit (.int .u8 43), .lit (.int .u8 51), .lit (.int .u8 22), .lit (.int .u8 53), .lit (.int .u8 39), .lit (.int .u8 33), .lit (.int .u8 30), .lit (.int .u8 24), .lit (.int .u8 18), .lit (.int .u8 12), .lit (.int .u8 5), .lit (.int .u8 63), .lit (.int .u8 55), .lit (.int .u8 48), .lit (.int .u8 27), .lit (.int .u8 60), .lit (.int .u8 41), .lit (.int .u8 37), .lit (.int .u8 16), .lit (.int .u8 46), .lit (.int .u8 35), .lit (.int .u8 44), .lit (.int .u8 21), .lit (.int .u8 52), .lit (.int .u8 32), .lit (.int .u8 23), .lit (.int .u8 11), .lit (.int .u8 54), .lit (.int .u8 26), .lit (.int .u8 40), .lit (.int .u8 15), .lit (.int .u8 34), .lit (.int .u8 20), .lit (.int .u8 31), .lit (.int .u8 10), .lit (.int .u8 25), .lit (.int .u8 14), .lit (.int .u8 19), .lit (.int .u8 9), .lit (.int .u8 13), .lit (.int .u8 8), .lit (.int .u8 7), .lit (.int .u8 6)]
def laid_internal_strconv_uint64pow10 {H : Type} : DataW H := .agg [.lit (.int .u64 1), .lit (.int .u64 10), .lit (.int .u64 100), .lit (.int .u64 1000), .lit (.int .u64 10000), .lit (.int .u64 100000), .lit (.int .u64 1000000), .lit (.int .u64 10000000), .lit (.int .u64 100000000), .lit (.int .u64 1000000000), .lit (.int .u64 10000000000), .lit (.int .u64 100000000000), .lit (.int .u64 1000000000000), .lit (.int .u64 10000000000000), .lit (.int .u64 100000000000000), .lit (.int .u64 1000000000000000), .lit (.int .u64 10000000000000000), .lit (.int .u64 100000000000000000), .lit (.int .u64 1000000000000000000), .lit (.int .u64 10000000000000000000)]

/-- 'reparteelaw16.PrinterBlocks': WHATEVER THE INPUT: true; the input reads as it did. -/
def printerBlocksSpec : ChangeSpec := { name := "printerBlocks", fn := fun _ => fun
  | [d] => { results := [.lit (.bool true)], args := [d] }
  | _ => none }
def printerBlocksRow : OpenClaim := { program := "ytfmpdgeiodnnfaagreatdoor", sum := "d8a0e3f0fd25e5db20dba564fc4f094d8c1825bfae6e89ede434e7b5075db5e7", func := "repartee/reparteelaw16.PrinterBlocks", spec := "printerBlocks", inPlace := ["internal/abi.NoEscape", "internal/bytealg.IndexByteString", "internal/bytealg.IndexString", "internal/bytealg.MakeNoZero"], unfollowed := true, recurses := true, named := ["internal/strconv.uint64pow10", "math/bits.deBruijn32tab", "math/bits.deBruijn64tab", "internal/bytealg.MaxLen"], apart := false, laid := [("math/bits.deBruijn32tab", laid_math_bits_deBruijn32tab), ("math/bits.deBruijn64tab", laid_math_bits_deBruijn64tab), ("internal/strconv.uint64pow10", laid_internal_strconv_uint64pow10)] }
def PrinterBlocksSaid : Prop := printerBlocksRow.holds Tryz.pinned (OpenSpec.ofChange printerBlocksSpec)

/-- ITS FALSE NEIGHBOUR: 'it returns false'. Refute it at one input. -/
def printerBlocksWrong : ChangeSpec := { name := "printerBlocks", fn := fun _ => fun
  | [d] => { results := [.lit (.bool false)], args := [d] }
  | _ => none }
def PrinterBlocksWrongFalsely : Prop := printerBlocksRow.holds Tryz.pinned (OpenSpec.ofChange printerBlocksWrong)

/-- 'reparteelaw16.PrinterLines': WHATEVER THE INPUT: true; the input reads as it did. -/
def printerLinesSpec : ChangeSpec := { name := "printerLines", fn := fun _ => fun
  | [d] => { results := [.lit (.bool true)], args := [d] }
  | _ => none }
def printerLinesRow : OpenClaim := { program := "ytfmpdgeiodnnfaagreatdoor", sum := "d8a0e3f0fd25e5db20dba564fc4f094d8c1825bfae6e89ede434e7b5075db5e7", func := "repartee/reparteelaw16.PrinterLines", spec := "printerLines", inPlace := ["internal/abi.NoEscape", "internal/bytealg.IndexByteString", "internal/bytealg.IndexString", "internal/bytealg.MakeNoZero"], unfollowed := true, recurses := true, named := ["internal/strconv.uint64pow10", "math/bits.deBruijn32tab", "math/bits.deBruijn64tab", "internal/bytealg.MaxLen"], apart := false, laid := [("math/bits.deBruijn32tab", laid_math_bits_deBruijn32tab), ("math/bits.deBruijn64tab", laid_math_bits_deBruijn64tab), ("internal/strconv.uint64pow10", laid_internal_strconv_uint64pow10)] }
def PrinterLinesSaid : Prop := printerLinesRow.holds Tryz.pinned (OpenSpec.ofChange printerLinesSpec)

/-- ITS FALSE NEIGHBOUR: 'it returns false'. Refute it at one input. -/
def printerLinesWrong : ChangeSpec := { name := "printerLines", fn := fun _ => fun
  | [d] => { results := [.lit (.bool false)], args := [d] }
  | _ => none }
def PrinterLinesWrongFalsely : Prop := printerLinesRow.holds Tryz.pinned (OpenSpec.ofChange printerLinesWrong)

/-- 'reparteelaw16.PrinterTells': WHATEVER THE INPUT: true; the input reads as it did. -/
def printerTellsSpec : ChangeSpec := { name := "printerTells", fn := fun _ => fun
  | [d1, d2, d3, d4, d5, d6, d7, d8, d9] => { results := [.lit (.bool true)], args := [d1, d2, d3, d4, d5, d6, d7, d8, d9] }
  | _ => none }
def printerTellsRow : OpenClaim := { program := "ytfmpdgeiodnnfaagreatdoor", sum := "d8a0e3f0fd25e5db20dba564fc4f094d8c1825bfae6e89ede434e7b5075db5e7", func := "repartee/reparteelaw16.PrinterTells", spec := "printerTells", inPlace := ["internal/abi.NoEscape", "internal/bytealg.IndexByteString", "internal/bytealg.IndexString", "internal/bytealg.MakeNoZero"], unfollowed := true, recurses := true, named := ["internal/strconv.uint64pow10", "math/bits.deBruijn32tab", "math/bits.deBruijn64tab", "internal/bytealg.MaxLen"], apart := false, laid := [("math/bits.deBruijn32tab", laid_math_bits_deBruijn32tab), ("math/bits.deBruijn64tab", laid_math_bits_deBruijn64tab), ("internal/strconv.uint64pow10", laid_internal_strconv_uint64pow10)] }
def PrinterTellsSaid : Prop := printerTellsRow.holds Tryz.pinned (OpenSpec.ofChange printerTellsSpec)

/-- ITS FALSE NEIGHBOUR: 'it returns false'. Refute it at one input. -/
def printerTellsWrong : ChangeSpec := { name := "printerTells", fn := fun _ => fun
  | [d1, d2, d3, d4, d5, d6, d7, d8, d9] => { results := [.lit (.bool false)], args := [d1, d2, d3, d4, d5, d6, d7, d8, d9] }
  | _ => none }
def PrinterTellsWrongFalsely : Prop := printerTellsRow.holds Tryz.pinned (OpenSpec.ofChange printerTellsWrong)

/-- 'reparteelaw16.PrinterPlain': WHATEVER THE INPUT: true; the input reads as it did. -/
def printerPlainSpec : ChangeSpec := { name := "printerPlain", fn := fun _ => fun
  | [d1, d2, d3, d4, d5, d6, d7] => { results := [.lit (.bool true)], args := [d1, d2, d3, d4, d5, d6, d7] }
  | _ => none }
def printerPlainRow : OpenClaim := { program := "ytfmpdgeiodnnfaagreatdoor", sum := "d8a0e3f0fd25e5db20dba564fc4f094d8c1825bfae6e89ede434e7b5075db5e7", func := "repartee/reparteelaw16.PrinterPlain", spec := "printerPlain", inPlace := ["internal/abi.NoEscape", "internal/bytealg.IndexByteString", "internal/bytealg.IndexString", "internal/bytealg.MakeNoZero"], unfollowed := true, recurses := true, named := ["internal/strconv.uint64pow10", "math/bits.deBruijn32tab", "math/bits.deBruijn64tab", "internal/bytealg.MaxLen"], apart := false, laid := [("math/bits.deBruijn32tab", laid_math_bits_deBruijn32tab), ("math/bits.deBruijn64tab", laid_math_bits_deBruijn64tab), ("internal/strconv.uint64pow10", laid_internal_strconv_uint64pow10)] }
def PrinterPlainSaid : Prop := printerPlainRow.holds Tryz.pinned (OpenSpec.ofChange printerPlainSpec)

/-- ITS FALSE NEIGHBOUR: 'it returns false'. Refute it at one input. -/
def printerPlainWrong : ChangeSpec := { name := "printerPlain", fn := fun _ => fun
  | [d1, d2, d3, d4, d5, d6, d7] => { results := [.lit (.bool false)], args := [d1, d2, d3, d4, d5, d6, d7] }
  | _ => none }
def PrinterPlainWrongFalsely : Prop := printerPlainRow.holds Tryz.pinned (OpenSpec.ofChange printerPlainWrong)

/-- 'reparteelaw16.PrinterParts': WHATEVER THE INPUT: true; the input reads as it did. -/
def printerPartsSpec : ChangeSpec := { name := "printerParts", fn := fun _ => fun
  | [d1, d2] => { results := [.lit (.bool true)], args := [d1, d2] }
  | _ => none }
def printerPartsRow : OpenClaim := { program := "ytfmpdgeiodnnfaagreatdoor", sum := "d8a0e3f0fd25e5db20dba564fc4f094d8c1825bfae6e89ede434e7b5075db5e7", func := "repartee/reparteelaw16.PrinterParts", spec := "printerParts", inPlace := ["internal/abi.NoEscape", "internal/bytealg.IndexByteString", "internal/bytealg.IndexString", "internal/bytealg.MakeNoZero"], unfollowed := true, recurses := true, named := ["internal/strconv.uint64pow10", "math/bits.deBruijn32tab", "math/bits.deBruijn64tab", "internal/bytealg.MaxLen"], apart := false, laid := [("math/bits.deBruijn32tab", laid_math_bits_deBruijn32tab), ("math/bits.deBruijn64tab", laid_math_bits_deBruijn64tab), ("internal/strconv.uint64pow10", laid_internal_strconv_uint64pow10)] }
def PrinterPartsSaid : Prop := printerPartsRow.holds Tryz.pinned (OpenSpec.ofChange printerPartsSpec)

/-- ITS FALSE NEIGHBOUR: 'it returns false'. Refute it at one input. -/
def printerPartsWrong : ChangeSpec := { name := "printerParts", fn := fun _ => fun
  | [d1, d2] => { results := [.lit (.bool false)], args := [d1, d2] }
  | _ => none }
def PrinterPartsWrongFalsely : Prop := printerPartsRow.holds Tryz.pinned (OpenSpec.ofChange printerPartsWrong)

/-- 'reparteelaw16.PrinterRise': WHATEVER THE INPUT: true; the input reads as it did. -/
def printerRiseSpec : ChangeSpec := { name := "printerRise", fn := fun _ => fun
  | [d1, d2, d3, d4] => { results := [.lit (.bool true)], args := [d1, d2, d3, d4] }
  | _ => none }
def printerRiseRow : OpenClaim := { program := "ytfmpdgeiodnnfaagreatdoor", sum := "d8a0e3f0fd25e5db20dba564fc4f094d8c1825bfae6e89ede434e7b5075db5e7", func := "repartee/reparteelaw16.PrinterRise", spec := "printerRise", inPlace := ["internal/abi.NoEscape", "internal/bytealg.IndexByteString", "internal/bytealg.IndexString", "internal/bytealg.MakeNoZero"], unfollowed := true, recurses := true, named := ["internal/strconv.uint64pow10", "math/bits.deBruijn32tab", "math/bits.deBruijn64tab", "internal/bytealg.MaxLen"], apart := false, laid := [("math/bits.deBruijn32tab", laid_math_bits_deBruijn32tab), ("math/bits.deBruijn64tab", laid_math_bits_deBruijn64tab), ("internal/strconv.uint64pow10", laid_internal_strconv_uint64pow10)] }
def PrinterRiseSaid : Prop := printerRiseRow.holds Tryz.pinned (OpenSpec.ofChange printerRiseSpec)

/-- ITS FALSE NEIGHBOUR: 'it returns false'. Refute it at one input. -/
def printerRiseWrong : ChangeSpec := { name := "printerRise", fn := fun _ => fun
  | [d1, d2, d3, d4] => { results := [.lit (.bool false)], args := [d1, d2, d3, d4] }
  | _ => none }
def PrinterRiseWrongFalsely : Prop := printerRiseRow.holds Tryz.pinned (OpenSpec.ofChange printerRiseWrong)

/- THE SECOND FORM. 'bulk': how many values and letters a reading holds, each counted each time it is reached (what is shared counts as often as it is met; a slice's spare places count too). A statement '..UptoSaid' is the law's where the arguments, and the package variables that the reading takes, are together of bulk at most 1048576: NARROWER than '..Said'. Prove '..Said' where nothing that the law and all that it calls make is longer than what came in: it says more and counts as full. Else prove '..UptoSaid'. A law counts once. -/
mutual
def uptoBulk {H : Type} : DataW H → Nat
  | .lit (.string bytes) => bytes.length + 1
  | .lit _ => 1
  | .nil => 1
  | .ptr d => uptoBulk d + 1
  | .slice elems spare => uptoBulkAll elems + uptoBulkAll spare + 1
  | .agg parts => uptoBulkAll parts + 1
  | .iface _ d => uptoBulk d + 1
  | .map entries => uptoBulkEntries entries + 1
  | .held _ => 1
def uptoBulkAll {H : Type} : List (DataW H) → Nat
  | [] => 0
  | d :: r => uptoBulk d + uptoBulkAll r
def uptoBulkEntries {H : Type} : List (Lit × DataW H) → Nat
  | [] => 0
  | x :: r => uptoBulkEntry x + uptoBulkEntries r
def uptoBulkEntry {H : Type} : Lit × DataW H → Nat
  | (.string bytes, d) => bytes.length + uptoBulk d + 1
  | (_, d) => uptoBulk d + 1
 end
def uptoSmall : (H : Type) → List (DataW H) → Bool := fun _ ds => decide (uptoBulkAll ds ≤ 1048576)
def OpenSpec.upto (s : _root_.Go.ChangeSpec) : _root_.Go.OpenSpec := { _root_.Go.OpenSpec.ofChange s with cond := some uptoSmall }

/-- 'reparteelaw16.PrinterBlocks', WHERE WHAT IT READS IS OF BULK AT MOST 1048576: true; the input reads as it did. -/
def printerBlocksUptoRow : OpenClaim := { program := "ytfmpdgeiodnnfaagreatdoor", sum := "d8a0e3f0fd25e5db20dba564fc4f094d8c1825bfae6e89ede434e7b5075db5e7", func := "repartee/reparteelaw16.PrinterBlocks", spec := "printerBlocks", inPlace := ["internal/abi.NoEscape", "internal/bytealg.IndexByteString", "internal/bytealg.IndexString", "internal/bytealg.MakeNoZero"], unfollowed := true, recurses := true, named := ["internal/strconv.uint64pow10", "math/bits.deBruijn32tab", "math/bits.deBruijn64tab", "internal/bytealg.MaxLen"], apart := false, laid := [("math/bits.deBruijn32tab", laid_math_bits_deBruijn32tab), ("math/bits.deBruijn64tab", laid_math_bits_deBruijn64tab), ("internal/strconv.uint64pow10", laid_internal_strconv_uint64pow10)], narrowed := true }
def PrinterBlocksUptoSaid : Prop := printerBlocksUptoRow.holds Tryz.pinned (OpenSpec.upto printerBlocksSpec)

/-- 'reparteelaw16.PrinterLines', WHERE WHAT IT READS IS OF BULK AT MOST 1048576: true; the input reads as it did. -/
def printerLinesUptoRow : OpenClaim := { program := "ytfmpdgeiodnnfaagreatdoor", sum := "d8a0e3f0fd25e5db20dba564fc4f094d8c1825bfae6e89ede434e7b5075db5e7", func := "repartee/reparteelaw16.PrinterLines", spec := "printerLines", inPlace := ["internal/abi.NoEscape", "internal/bytealg.IndexByteString", "internal/bytealg.IndexString", "internal/bytealg.MakeNoZero"], unfollowed := true, recurses := true, named := ["internal/strconv.uint64pow10", "math/bits.deBruijn32tab", "math/bits.deBruijn64tab", "internal/bytealg.MaxLen"], apart := false, laid := [("math/bits.deBruijn32tab", laid_math_bits_deBruijn32tab), ("math/bits.deBruijn64tab", laid_math_bits_deBruijn64tab), ("internal/strconv.uint64pow10", laid_internal_strconv_uint64pow10)], narrowed := true }
def PrinterLinesUptoSaid : Prop := printerLinesUptoRow.holds Tryz.pinned (OpenSpec.upto printerLinesSpec)

/-- 'reparteelaw16.PrinterTells', WHERE WHAT IT READS IS OF BULK AT MOST 1048576: true; the input reads as it did. -/
def printerTellsUptoRow : OpenClaim := { program := "ytfmpdgeiodnnfaagreatdoor", sum := "d8a0e3f0fd25e5db20dba564fc4f094d8c1825bfae6e89ede434e7b5075db5e7", func := "repartee/reparteelaw16.PrinterTells", spec := "printerTells", inPlace := ["internal/abi.NoEscape", "internal/bytealg.IndexByteString", "internal/bytealg.IndexString", "internal/bytealg.MakeNoZero"], unfollowed := true, recurses := true, named := ["internal/strconv.uint64pow10", "math/bits.deBruijn32tab", "math/bits.deBruijn64tab", "internal/bytealg.MaxLen"], apart := false, laid := [("math/bits.deBruijn32tab", laid_math_bits_deBruijn32tab), ("math/bits.deBruijn64tab", laid_math_bits_deBruijn64tab), ("internal/strconv.uint64pow10", laid_internal_strconv_uint64pow10)], narrowed := true }
def PrinterTellsUptoSaid : Prop := printerTellsUptoRow.holds Tryz.pinned (OpenSpec.upto printerTellsSpec)

/-- 'reparteelaw16.PrinterPlain', WHERE WHAT IT READS IS OF BULK AT MOST 1048576: true; the input reads as it did. -/
def printerPlainUptoRow : OpenClaim := { program := "ytfmpdgeiodnnfaagreatdoor", sum := "d8a0e3f0fd25e5db20dba564fc4f094d8c1825bfae6e89ede434e7b5075db5e7", func := "repartee/reparteelaw16.PrinterPlain", spec := "printerPlain", inPlace := ["internal/abi.NoEscape", "internal/bytealg.IndexByteString", "internal/bytealg.IndexString", "internal/bytealg.MakeNoZero"], unfollowed := true, recurses := true, named := ["internal/strconv.uint64pow10", "math/bits.deBruijn32tab", "math/bits.deBruijn64tab", "internal/bytealg.MaxLen"], apart := false, laid := [("math/bits.deBruijn32tab", laid_math_bits_deBruijn32tab), ("math/bits.deBruijn64tab", laid_math_bits_deBruijn64tab), ("internal/strconv.uint64pow10", laid_internal_strconv_uint64pow10)], narrowed := true }
def PrinterPlainUptoSaid : Prop := printerPlainUptoRow.holds Tryz.pinned (OpenSpec.upto printerPlainSpec)

/-- 'reparteelaw16.PrinterParts', WHERE WHAT IT READS IS OF BULK AT MOST 1048576: true; the input reads as it did. -/
def printerPartsUptoRow : OpenClaim := { program := "ytfmpdgeiodnnfaagreatdoor", sum := "d8a0e3f0fd25e5db20dba564fc4f094d8c1825bfae6e89ede434e7b5075db5e7", func := "repartee/reparteelaw16.PrinterParts", spec := "printerParts", inPlace := ["internal/abi.NoEscape", "internal/bytealg.IndexByteString", "internal/bytealg.IndexString", "internal/bytealg.MakeNoZero"], unfollowed := true, recurses := true, named := ["internal/strconv.uint64pow10", "math/bits.deBruijn32tab", "math/bits.deBruijn64tab", "internal/bytealg.MaxLen"], apart := false, laid := [("math/bits.deBruijn32tab", laid_math_bits_deBruijn32tab), ("math/bits.deBruijn64tab", laid_math_bits_deBruijn64tab), ("internal/strconv.uint64pow10", laid_internal_strconv_uint64pow10)], narrowed := true }
def PrinterPartsUptoSaid : Prop := printerPartsUptoRow.holds Tryz.pinned (OpenSpec.upto printerPartsSpec)

/-- 'reparteelaw16.PrinterRise', WHERE WHAT IT READS IS OF BULK AT MOST 1048576: true; the input reads as it did. -/
def printerRiseUptoRow : OpenClaim := { program := "ytfmpdgeiodnnfaagreatdoor", sum := "d8a0e3f0fd25e5db20dba564fc4f094d8c1825bfae6e89ede434e7b5075db5e7", func := "repartee/reparteelaw16.PrinterRise", spec := "printerRise", inPlace := ["internal/abi.NoEscape", "internal/bytealg.IndexByteString", "internal/bytealg.IndexString", "internal/bytealg.MakeNoZero"], unfollowed := true, recurses := true, named := ["internal/strconv.uint64pow10", "math/bits.deBruijn32tab", "math/bits.deBruijn64tab", "internal/bytealg.MaxLen"], apart := false, laid := [("math/bits.deBruijn32tab", laid_math_bits_deBruijn32tab), ("math/bits.deBruijn64tab", laid_math_bits_deBruijn64tab), ("internal/strconv.uint64pow10", laid_internal_strconv_uint64pow10)], narrowed := true }
def PrinterRiseUptoSaid : Prop := printerRiseUptoRow.holds Tryz.pinned (OpenSpec.upto printerRiseSpec)

end Rows
end Go.Proofs.YtfmpdgeiodnnfaaGreatDoor
