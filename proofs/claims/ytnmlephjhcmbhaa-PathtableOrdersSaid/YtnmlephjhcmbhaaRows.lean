/-
  No cell of these rows narrows 'for every input' (looked for: loops, veiled, ifaces, maps, wideKeys, modest, calm, conditions, laid).
  DERIVED. THE GIVEN ROWS OF THIS SEAT. 15 by the template 'for every input the law returns true; each argument reads behind the call as it read before'; 0 by the template 'total and deterministic' (their statements: YtnmlephjhcmbhaaTotals.lean).
  GIVEN WITH THE SEED: the statements are not yours to turn. If you find one false, say at which input.
  Laid BY PROGRAM, IN A SANDBOX (cutbox-rows.mjs): the forced cells as the released guide's own fill.sh prints them over the translation 475477287ebf9ac1… (all of the seat's roots in one cut). By AI agents, Wed Nov 11 2026. No macro, syntax, notation, axiom, sorry.
-/
import Derived.Test.YtnmlephjhcmbhaaChecked
import GoSem.Claim
import GoSem.ClaimJoined
import GoSem.ClaimMapViews
import Derived.JoinedTies
import Derived.KernelRfl
namespace Go.Proofs.Ytnmlephjhcmbhaa
/- THE CELL 'sum', in the pinned program and in every row, IS THE sha256 OF THE DUMP (.gsa) THAT YtnmlephjhcmbhaaProg.lean LOADS. Nothing in Lean hashes anything: it is a label: what it is worth is what the hold of that sum in a sandbox is worth. -/
noncomputable def Try.pinned : Pinned := { name := "ytnmlephjhcmbhaa", sum := "475477287ebf9ac1593fc4e27be5701115863b8ef8ce5b005f5b48a00b8a85f1", checked := Try.checked }
namespace Rows
def none {H : Type} : Left H := { results := [], args := [] }

/-- 'masterdisclaw20.DirrecordEncodes': WHATEVER THE INPUT: true; the input reads as it did. -/
def dirrecordEncodesSpec : ChangeSpec := { name := "dirrecordEncodes", fn := fun _ => fun
  | [d1, d2, d3] => { results := [.lit (.bool true)], args := [d1, d2, d3] }
  | _ => none }
def dirrecordEncodesRow : OpenClaim := { program := "ytnmlephjhcmbhaa", sum := "475477287ebf9ac1593fc4e27be5701115863b8ef8ce5b005f5b48a00b8a85f1", func := "masterdisc/masterdisclaw20.DirrecordEncodes", spec := "dirrecordEncodes", inPlace := ["internal/abi.NoEscape"], unfollowed := true, recurses := true, apart := false }
def DirrecordEncodesSaid : Prop := dirrecordEncodesRow.holds Try.pinned (OpenSpec.ofChange dirrecordEncodesSpec)

/-- ITS FALSE NEIGHBOUR: 'it returns false'. Refute it at one input. -/
def dirrecordEncodesWrong : ChangeSpec := { name := "dirrecordEncodes", fn := fun _ => fun
  | [d1, d2, d3] => { results := [.lit (.bool false)], args := [d1, d2, d3] }
  | _ => none }
def DirrecordEncodesWrongFalsely : Prop := dirrecordEncodesRow.holds Try.pinned (OpenSpec.ofChange dirrecordEncodesWrong)

/-- 'masterdisclaw20.DirrecordDecodes': WHATEVER THE INPUT: true; the input reads as it did. -/
def dirrecordDecodesSpec : ChangeSpec := { name := "dirrecordDecodes", fn := fun _ => fun
  | [d] => { results := [.lit (.bool true)], args := [d] }
  | _ => none }
def dirrecordDecodesRow : OpenClaim := { program := "ytnmlephjhcmbhaa", sum := "475477287ebf9ac1593fc4e27be5701115863b8ef8ce5b005f5b48a00b8a85f1", func := "masterdisc/masterdisclaw20.DirrecordDecodes", spec := "dirrecordDecodes", inPlace := ["internal/abi.NoEscape"], unfollowed := true, recurses := true, apart := false }
def DirrecordDecodesSaid : Prop := dirrecordDecodesRow.holds Try.pinned (OpenSpec.ofChange dirrecordDecodesSpec)

/-- ITS FALSE NEIGHBOUR: 'it returns false'. Refute it at one input. -/
def dirrecordDecodesWrong : ChangeSpec := { name := "dirrecordDecodes", fn := fun _ => fun
  | [d] => { results := [.lit (.bool false)], args := [d] }
  | _ => none }
def DirrecordDecodesWrongFalsely : Prop := dirrecordDecodesRow.holds Try.pinned (OpenSpec.ofChange dirrecordDecodesWrong)

/-- 'masterdisclaw20.DirrecordReturns': WHATEVER THE INPUT: true; the input reads as it did. -/
def dirrecordReturnsSpec : ChangeSpec := { name := "dirrecordReturns", fn := fun _ => fun
  | [d1, d2] => { results := [.lit (.bool true)], args := [d1, d2] }
  | _ => none }
def dirrecordReturnsRow : OpenClaim := { program := "ytnmlephjhcmbhaa", sum := "475477287ebf9ac1593fc4e27be5701115863b8ef8ce5b005f5b48a00b8a85f1", func := "masterdisc/masterdisclaw20.DirrecordReturns", spec := "dirrecordReturns", inPlace := ["internal/abi.NoEscape"], unfollowed := true, recurses := true, apart := false }
def DirrecordReturnsSaid : Prop := dirrecordReturnsRow.holds Try.pinned (OpenSpec.ofChange dirrecordReturnsSpec)

/-- ITS FALSE NEIGHBOUR: 'it returns false'. Refute it at one input. -/
def dirrecordReturnsWrong : ChangeSpec := { name := "dirrecordReturns", fn := fun _ => fun
  | [d1, d2] => { results := [.lit (.bool false)], args := [d1, d2] }
  | _ => none }
def DirrecordReturnsWrongFalsely : Prop := dirrecordReturnsRow.holds Try.pinned (OpenSpec.ofChange dirrecordReturnsWrong)

/-- 'masterdisclaw20.DirrecordBack': WHATEVER THE INPUT: true; the input reads as it did. -/
def dirrecordBackSpec : ChangeSpec := { name := "dirrecordBack", fn := fun _ => fun
  | [d] => { results := [.lit (.bool true)], args := [d] }
  | _ => none }
def dirrecordBackRow : OpenClaim := { program := "ytnmlephjhcmbhaa", sum := "475477287ebf9ac1593fc4e27be5701115863b8ef8ce5b005f5b48a00b8a85f1", func := "masterdisc/masterdisclaw20.DirrecordBack", spec := "dirrecordBack", inPlace := ["internal/abi.NoEscape"], unfollowed := true, recurses := true, apart := false }
def DirrecordBackSaid : Prop := dirrecordBackRow.holds Try.pinned (OpenSpec.ofChange dirrecordBackSpec)

/-- ITS FALSE NEIGHBOUR: 'it returns false'. Refute it at one input. -/
def dirrecordBackWrong : ChangeSpec := { name := "dirrecordBack", fn := fun _ => fun
  | [d] => { results := [.lit (.bool false)], args := [d] }
  | _ => none }
def DirrecordBackWrongFalsely : Prop := dirrecordBackRow.holds Try.pinned (OpenSpec.ofChange dirrecordBackWrong)

/-- 'masterdisclaw20.DirrecordHalves': WHATEVER THE INPUT: true; the input reads as it did. -/
def dirrecordHalvesSpec : ChangeSpec := { name := "dirrecordHalves", fn := fun _ => fun
  | [d1, d2, d3, d4] => { results := [.lit (.bool true)], args := [d1, d2, d3, d4] }
  | _ => none }
def dirrecordHalvesRow : OpenClaim := { program := "ytnmlephjhcmbhaa", sum := "475477287ebf9ac1593fc4e27be5701115863b8ef8ce5b005f5b48a00b8a85f1", func := "masterdisc/masterdisclaw20.DirrecordHalves", spec := "dirrecordHalves", inPlace := ["internal/abi.NoEscape"], unfollowed := true, recurses := true, apart := false }
def DirrecordHalvesSaid : Prop := dirrecordHalvesRow.holds Try.pinned (OpenSpec.ofChange dirrecordHalvesSpec)

/-- ITS FALSE NEIGHBOUR: 'it returns false'. Refute it at one input. -/
def dirrecordHalvesWrong : ChangeSpec := { name := "dirrecordHalves", fn := fun _ => fun
  | [d1, d2, d3, d4] => { results := [.lit (.bool false)], args := [d1, d2, d3, d4] }
  | _ => none }
def DirrecordHalvesWrongFalsely : Prop := dirrecordHalvesRow.holds Try.pinned (OpenSpec.ofChange dirrecordHalvesWrong)

/-- 'masterdisclaw20.DirrecordSizes': WHATEVER THE INPUT: true; the input reads as it did. -/
def dirrecordSizesSpec : ChangeSpec := { name := "dirrecordSizes", fn := fun _ => fun
  | [d1, d2] => { results := [.lit (.bool true)], args := [d1, d2] }
  | _ => none }
def dirrecordSizesRow : OpenClaim := { program := "ytnmlephjhcmbhaa", sum := "475477287ebf9ac1593fc4e27be5701115863b8ef8ce5b005f5b48a00b8a85f1", func := "masterdisc/masterdisclaw20.DirrecordSizes", spec := "dirrecordSizes", inPlace := ["internal/abi.NoEscape"], unfollowed := true, recurses := true, apart := false }
def DirrecordSizesSaid : Prop := dirrecordSizesRow.holds Try.pinned (OpenSpec.ofChange dirrecordSizesSpec)

/-- ITS FALSE NEIGHBOUR: 'it returns false'. Refute it at one input. -/
def dirrecordSizesWrong : ChangeSpec := { name := "dirrecordSizes", fn := fun _ => fun
  | [d1, d2] => { results := [.lit (.bool false)], args := [d1, d2] }
  | _ => none }
def DirrecordSizesWrongFalsely : Prop := dirrecordSizesRow.holds Try.pinned (OpenSpec.ofChange dirrecordSizesWrong)

/-- 'masterdisclaw20.DirrecordShort': WHATEVER THE INPUT: true; the input reads as it did. -/
def dirrecordShortSpec : ChangeSpec := { name := "dirrecordShort", fn := fun _ => fun
  | [d1, d2] => { results := [.lit (.bool true)], args := [d1, d2] }
  | _ => none }
def dirrecordShortRow : OpenClaim := { program := "ytnmlephjhcmbhaa", sum := "475477287ebf9ac1593fc4e27be5701115863b8ef8ce5b005f5b48a00b8a85f1", func := "masterdisc/masterdisclaw20.DirrecordShort", spec := "dirrecordShort", inPlace := ["internal/abi.NoEscape"], unfollowed := true, recurses := true, apart := false }
def DirrecordShortSaid : Prop := dirrecordShortRow.holds Try.pinned (OpenSpec.ofChange dirrecordShortSpec)

/-- ITS FALSE NEIGHBOUR: 'it returns false'. Refute it at one input. -/
def dirrecordShortWrong : ChangeSpec := { name := "dirrecordShort", fn := fun _ => fun
  | [d1, d2] => { results := [.lit (.bool false)], args := [d1, d2] }
  | _ => none }
def DirrecordShortWrongFalsely : Prop := dirrecordShortRow.holds Try.pinned (OpenSpec.ofChange dirrecordShortWrong)

/-- 'masterdisclaw22.PathtableValid': WHATEVER THE INPUT: true; the input reads as it did. -/
def pathtableValidSpec : ChangeSpec := { name := "pathtableValid", fn := fun _ => fun
  | [d1, d2] => { results := [.lit (.bool true)], args := [d1, d2] }
  | _ => none }
def pathtableValidRow : OpenClaim := { program := "ytnmlephjhcmbhaa", sum := "475477287ebf9ac1593fc4e27be5701115863b8ef8ce5b005f5b48a00b8a85f1", func := "masterdisc/masterdisclaw22.PathtableValid", spec := "pathtableValid", inPlace := ["internal/bytealg.IndexByteString", "internal/bytealg.IndexString", "internal/abi.NoEscape", "internal/bytealg.MakeNoZero", "internal/bytealg.abigen_runtime_cmpstring"], unfollowed := true, recurses := true, named := ["internal/bytealg.MaxLen"], apart := false }
def PathtableValidSaid : Prop := pathtableValidRow.holds Try.pinned (OpenSpec.ofChange pathtableValidSpec)

/-- ITS FALSE NEIGHBOUR: 'it returns false'. Refute it at one input. -/
def pathtableValidWrong : ChangeSpec := { name := "pathtableValid", fn := fun _ => fun
  | [d1, d2] => { results := [.lit (.bool false)], args := [d1, d2] }
  | _ => none }
def PathtableValidWrongFalsely : Prop := pathtableValidRow.holds Try.pinned (OpenSpec.ofChange pathtableValidWrong)

/-- 'masterdisclaw22.PathtableOrders': WHATEVER THE INPUT: true; the input reads as it did. -/
def pathtableOrdersSpec : ChangeSpec := { name := "pathtableOrders", fn := fun _ => fun
  | [d1, d2] => { results := [.lit (.bool true)], args := [d1, d2] }
  | _ => none }
def pathtableOrdersRow : OpenClaim := { program := "ytnmlephjhcmbhaa", sum := "475477287ebf9ac1593fc4e27be5701115863b8ef8ce5b005f5b48a00b8a85f1", func := "masterdisc/masterdisclaw22.PathtableOrders", spec := "pathtableOrders", inPlace := ["internal/bytealg.IndexByteString", "internal/bytealg.IndexString", "internal/abi.NoEscape", "internal/bytealg.MakeNoZero", "internal/bytealg.abigen_runtime_cmpstring"], unfollowed := true, recurses := true, named := ["internal/bytealg.MaxLen"], apart := false }
def PathtableOrdersSaid : Prop := pathtableOrdersRow.holds Try.pinned (OpenSpec.ofChange pathtableOrdersSpec)

/-- ITS FALSE NEIGHBOUR: 'it returns false'. Refute it at one input. -/
def pathtableOrdersWrong : ChangeSpec := { name := "pathtableOrders", fn := fun _ => fun
  | [d1, d2] => { results := [.lit (.bool false)], args := [d1, d2] }
  | _ => none }
def PathtableOrdersWrongFalsely : Prop := pathtableOrdersRow.holds Try.pinned (OpenSpec.ofChange pathtableOrdersWrong)

/-- 'masterdisclaw22.PathtablePaths': WHATEVER THE INPUT: true; the input reads as it did. -/
def pathtablePathsSpec : ChangeSpec := { name := "pathtablePaths", fn := fun _ => fun
  | [d1, d2, d3] => { results := [.lit (.bool true)], args := [d1, d2, d3] }
  | _ => none }
def pathtablePathsRow : OpenClaim := { program := "ytnmlephjhcmbhaa", sum := "475477287ebf9ac1593fc4e27be5701115863b8ef8ce5b005f5b48a00b8a85f1", func := "masterdisc/masterdisclaw22.PathtablePaths", spec := "pathtablePaths", inPlace := ["internal/bytealg.IndexByteString", "internal/bytealg.IndexString", "internal/abi.NoEscape", "internal/bytealg.MakeNoZero", "internal/bytealg.abigen_runtime_cmpstring"], unfollowed := true, recurses := true, named := ["internal/bytealg.MaxLen"], apart := false }
def PathtablePathsSaid : Prop := pathtablePathsRow.holds Try.pinned (OpenSpec.ofChange pathtablePathsSpec)

/-- ITS FALSE NEIGHBOUR: 'it returns false'. Refute it at one input. -/
def pathtablePathsWrong : ChangeSpec := { name := "pathtablePaths", fn := fun _ => fun
  | [d1, d2, d3] => { results := [.lit (.bool false)], args := [d1, d2, d3] }
  | _ => none }
def PathtablePathsWrongFalsely : Prop := pathtablePathsRow.holds Try.pinned (OpenSpec.ofChange pathtablePathsWrong)

/-- 'masterdisclaw22.PathtableReturns': WHATEVER THE INPUT: true; the input reads as it did. -/
def pathtableReturnsSpec : ChangeSpec := { name := "pathtableReturns", fn := fun _ => fun
  | [d] => { results := [.lit (.bool true)], args := [d] }
  | _ => none }
def pathtableReturnsRow : OpenClaim := { program := "ytnmlephjhcmbhaa", sum := "475477287ebf9ac1593fc4e27be5701115863b8ef8ce5b005f5b48a00b8a85f1", func := "masterdisc/masterdisclaw22.PathtableReturns", spec := "pathtableReturns", inPlace := ["internal/bytealg.IndexByteString", "internal/bytealg.IndexString", "internal/abi.NoEscape", "internal/bytealg.MakeNoZero", "internal/bytealg.abigen_runtime_cmpstring"], unfollowed := true, recurses := true, named := ["internal/bytealg.MaxLen"], apart := false }
def PathtableReturnsSaid : Prop := pathtableReturnsRow.holds Try.pinned (OpenSpec.ofChange pathtableReturnsSpec)

/-- ITS FALSE NEIGHBOUR: 'it returns false'. Refute it at one input. -/
def pathtableReturnsWrong : ChangeSpec := { name := "pathtableReturns", fn := fun _ => fun
  | [d] => { results := [.lit (.bool false)], args := [d] }
  | _ => none }
def PathtableReturnsWrongFalsely : Prop := pathtableReturnsRow.holds Try.pinned (OpenSpec.ofChange pathtableReturnsWrong)

/-- 'masterdisclaw22.PathtableLevels': WHATEVER THE INPUT: true; the input reads as it did. -/
def pathtableLevelsSpec : ChangeSpec := { name := "pathtableLevels", fn := fun _ => fun
  | [d1, d2] => { results := [.lit (.bool true)], args := [d1, d2] }
  | _ => none }
def pathtableLevelsRow : OpenClaim := { program := "ytnmlephjhcmbhaa", sum := "475477287ebf9ac1593fc4e27be5701115863b8ef8ce5b005f5b48a00b8a85f1", func := "masterdisc/masterdisclaw22.PathtableLevels", spec := "pathtableLevels", inPlace := ["internal/bytealg.IndexByteString", "internal/bytealg.IndexString", "internal/abi.NoEscape", "internal/bytealg.MakeNoZero", "internal/bytealg.abigen_runtime_cmpstring"], unfollowed := true, recurses := true, named := ["internal/bytealg.MaxLen"], apart := false }
def PathtableLevelsSaid : Prop := pathtableLevelsRow.holds Try.pinned (OpenSpec.ofChange pathtableLevelsSpec)

/-- ITS FALSE NEIGHBOUR: 'it returns false'. Refute it at one input. -/
def pathtableLevelsWrong : ChangeSpec := { name := "pathtableLevels", fn := fun _ => fun
  | [d1, d2] => { results := [.lit (.bool false)], args := [d1, d2] }
  | _ => none }
def PathtableLevelsWrongFalsely : Prop := pathtableLevelsRow.holds Try.pinned (OpenSpec.ofChange pathtableLevelsWrong)

/-- 'masterdisclaw22.PathtableFinds': WHATEVER THE INPUT: true; the input reads as it did. -/
def pathtableFindsSpec : ChangeSpec := { name := "pathtableFinds", fn := fun _ => fun
  | [d1, d2] => { results := [.lit (.bool true)], args := [d1, d2] }
  | _ => none }
def pathtableFindsRow : OpenClaim := { program := "ytnmlephjhcmbhaa", sum := "475477287ebf9ac1593fc4e27be5701115863b8ef8ce5b005f5b48a00b8a85f1", func := "masterdisc/masterdisclaw22.PathtableFinds", spec := "pathtableFinds", inPlace := ["internal/bytealg.IndexByteString", "internal/bytealg.IndexString", "internal/abi.NoEscape", "internal/bytealg.MakeNoZero", "internal/bytealg.abigen_runtime_cmpstring"], unfollowed := true, recurses := true, named := ["internal/bytealg.MaxLen"], apart := false }
def PathtableFindsSaid : Prop := pathtableFindsRow.holds Try.pinned (OpenSpec.ofChange pathtableFindsSpec)

/-- ITS FALSE NEIGHBOUR: 'it returns false'. Refute it at one input. -/
def pathtableFindsWrong : ChangeSpec := { name := "pathtableFinds", fn := fun _ => fun
  | [d1, d2] => { results := [.lit (.bool false)], args := [d1, d2] }
  | _ => none }
def PathtableFindsWrongFalsely : Prop := pathtableFindsRow.holds Try.pinned (OpenSpec.ofChange pathtableFindsWrong)

/-- 'masterdisclaw22.PathtableSorted': WHATEVER THE INPUT: true; the input reads as it did. -/
def pathtableSortedSpec : ChangeSpec := { name := "pathtableSorted", fn := fun _ => fun
  | [d1, d2] => { results := [.lit (.bool true)], args := [d1, d2] }
  | _ => none }
def pathtableSortedRow : OpenClaim := { program := "ytnmlephjhcmbhaa", sum := "475477287ebf9ac1593fc4e27be5701115863b8ef8ce5b005f5b48a00b8a85f1", func := "masterdisc/masterdisclaw22.PathtableSorted", spec := "pathtableSorted", inPlace := ["internal/bytealg.IndexByteString", "internal/bytealg.IndexString", "internal/abi.NoEscape", "internal/bytealg.MakeNoZero", "internal/bytealg.abigen_runtime_cmpstring"], unfollowed := true, recurses := true, named := ["internal/bytealg.MaxLen"], apart := false }
def PathtableSortedSaid : Prop := pathtableSortedRow.holds Try.pinned (OpenSpec.ofChange pathtableSortedSpec)

/-- ITS FALSE NEIGHBOUR: 'it returns false'. Refute it at one input. -/
def pathtableSortedWrong : ChangeSpec := { name := "pathtableSorted", fn := fun _ => fun
  | [d1, d2] => { results := [.lit (.bool false)], args := [d1, d2] }
  | _ => none }
def PathtableSortedWrongFalsely : Prop := pathtableSortedRow.holds Try.pinned (OpenSpec.ofChange pathtableSortedWrong)

/-- 'masterdisclaw21.DirectoryOrder': WHATEVER THE INPUT: true; the input reads as it did. -/
def directoryOrderSpec : ChangeSpec := { name := "directoryOrder", fn := fun _ => fun
  | [d1, d2, d3, d4] => { results := [.lit (.bool true)], args := [d1, d2, d3, d4] }
  | _ => none }
def directoryOrderRow : OpenClaim := { program := "ytnmlephjhcmbhaa", sum := "475477287ebf9ac1593fc4e27be5701115863b8ef8ce5b005f5b48a00b8a85f1", func := "masterdisc/masterdisclaw21.DirectoryOrder", spec := "directoryOrder", inPlace := ["internal/bytealg.IndexByteString", "internal/bytealg.IndexString", "internal/abi.NoEscape", "internal/bytealg.MakeNoZero", "internal/bytealg.abigen_runtime_cmpstring"], unfollowed := true, recurses := true, named := ["internal/bytealg.MaxLen"], apart := false }
def DirectoryOrderSaid : Prop := directoryOrderRow.holds Try.pinned (OpenSpec.ofChange directoryOrderSpec)

/-- ITS FALSE NEIGHBOUR: 'it returns false'. Refute it at one input. -/
def directoryOrderWrong : ChangeSpec := { name := "directoryOrder", fn := fun _ => fun
  | [d1, d2, d3, d4] => { results := [.lit (.bool false)], args := [d1, d2, d3, d4] }
  | _ => none }
def DirectoryOrderWrongFalsely : Prop := directoryOrderRow.holds Try.pinned (OpenSpec.ofChange directoryOrderWrong)

/- THE SECOND FORM. 'bulk': how many values and letters a reading holds, each counted each time it is reached (what is shared counts as often as it is met; a slice's spare places count too). A statement '..UptoSaid' is the law's where the arguments, and the package variables that the reading takes, are together of bulk at most 1048576: NARROWER than '..Said'. Prove '..Said' where nothing that the law and all that it calls make is longer than what came in: it says more and counts as full. Else prove '..UptoSaid'. A law counts once. -/
mutual
def uptoBulk {H : Type} : DataW H → Nat
  | .lit (.string bytes) => bytes.length + 1
  | .lit _ => 1
  | .nil => 1
  | .ptr d => uptoBulk d + 1
  | .slice elems spare => uptoBulkAll elems + uptoBulkAll spare + 1
  | .agg parts => uptoBulkAll parts + 1
  | .iface _ d => uptoBulk d + 1
  | .map entries => uptoBulkEntries entries + 1
  | .held _ => 1
def uptoBulkAll {H : Type} : List (DataW H) → Nat
  | [] => 0
  | d :: r => uptoBulk d + uptoBulkAll r
def uptoBulkEntries {H : Type} : List (Lit × DataW H) → Nat
  | [] => 0
  | x :: r => uptoBulkEntry x + uptoBulkEntries r
def uptoBulkEntry {H : Type} : Lit × DataW H → Nat
  | (.string bytes, d) => bytes.length + uptoBulk d + 1
  | (_, d) => uptoBulk d + 1
 end
def uptoSmall : (H : Type) → List (DataW H) → Bool := fun _ ds => decide (uptoBulkAll ds ≤ 1048576)
def OpenSpec.upto (s : _root_.Go.ChangeSpec) : _root_.Go.OpenSpec := { _root_.Go.OpenSpec.ofChange s with cond := some uptoSmall }

/-- 'masterdisclaw20.DirrecordEncodes', WHERE WHAT IT READS IS OF BULK AT MOST 1048576: true; the input reads as it did. -/
def dirrecordEncodesUptoRow : OpenClaim := { program := "ytnmlephjhcmbhaa", sum := "475477287ebf9ac1593fc4e27be5701115863b8ef8ce5b005f5b48a00b8a85f1", func := "masterdisc/masterdisclaw20.DirrecordEncodes", spec := "dirrecordEncodes", inPlace := ["internal/abi.NoEscape"], unfollowed := true, recurses := true, apart := false, narrowed := true }
def DirrecordEncodesUptoSaid : Prop := dirrecordEncodesUptoRow.holds Try.pinned (OpenSpec.upto dirrecordEncodesSpec)

/-- 'masterdisclaw20.DirrecordDecodes', WHERE WHAT IT READS IS OF BULK AT MOST 1048576: true; the input reads as it did. -/
def dirrecordDecodesUptoRow : OpenClaim := { program := "ytnmlephjhcmbhaa", sum := "475477287ebf9ac1593fc4e27be5701115863b8ef8ce5b005f5b48a00b8a85f1", func := "masterdisc/masterdisclaw20.DirrecordDecodes", spec := "dirrecordDecodes", inPlace := ["internal/abi.NoEscape"], unfollowed := true, recurses := true, apart := false, narrowed := true }
def DirrecordDecodesUptoSaid : Prop := dirrecordDecodesUptoRow.holds Try.pinned (OpenSpec.upto dirrecordDecodesSpec)

/-- 'masterdisclaw20.DirrecordReturns', WHERE WHAT IT READS IS OF BULK AT MOST 1048576: true; the input reads as it did. -/
def dirrecordReturnsUptoRow : OpenClaim := { program := "ytnmlephjhcmbhaa", sum := "475477287ebf9ac1593fc4e27be5701115863b8ef8ce5b005f5b48a00b8a85f1", func := "masterdisc/masterdisclaw20.DirrecordReturns", spec := "dirrecordReturns", inPlace := ["internal/abi.NoEscape"], unfollowed := true, recurses := true, apart := false, narrowed := true }
def DirrecordReturnsUptoSaid : Prop := dirrecordReturnsUptoRow.holds Try.pinned (OpenSpec.upto dirrecordReturnsSpec)

/-- 'masterdisclaw20.DirrecordBack', WHERE WHAT IT READS IS OF BULK AT MOST 1048576: true; the input reads as it did. -/
def dirrecordBackUptoRow : OpenClaim := { program := "ytnmlephjhcmbhaa", sum := "475477287ebf9ac1593fc4e27be5701115863b8ef8ce5b005f5b48a00b8a85f1", func := "masterdisc/masterdisclaw20.DirrecordBack", spec := "dirrecordBack", inPlace := ["internal/abi.NoEscape"], unfollowed := true, recurses := true, apart := false, narrowed := true }
def DirrecordBackUptoSaid : Prop := dirrecordBackUptoRow.holds Try.pinned (OpenSpec.upto dirrecordBackSpec)

/-- 'masterdisclaw20.DirrecordHalves', WHERE WHAT IT READS IS OF BULK AT MOST 1048576: true; the input reads as it did. -/
def dirrecordHalvesUptoRow : OpenClaim := { program := "ytnmlephjhcmbhaa", sum := "475477287ebf9ac1593fc4e27be5701115863b8ef8ce5b005f5b48a00b8a85f1", func := "masterdisc/masterdisclaw20.DirrecordHalves", spec := "dirrecordHalves", inPlace := ["internal/abi.NoEscape"], unfollowed := true, recurses := true, apart := false, narrowed := true }
def DirrecordHalvesUptoSaid : Prop := dirrecordHalvesUptoRow.holds Try.pinned (OpenSpec.upto dirrecordHalvesSpec)

/-- 'masterdisclaw20.DirrecordSizes', WHERE WHAT IT READS IS OF BULK AT MOST 1048576: true; the input reads as it did. -/
def dirrecordSizesUptoRow : OpenClaim := { program := "ytnmlephjhcmbhaa", sum := "475477287ebf9ac1593fc4e27be5701115863b8ef8ce5b005f5b48a00b8a85f1", func := "masterdisc/masterdisclaw20.DirrecordSizes", spec := "dirrecordSizes", inPlace := ["internal/abi.NoEscape"], unfollowed := true, recurses := true, apart := false, narrowed := true }
def DirrecordSizesUptoSaid : Prop := dirrecordSizesUptoRow.holds Try.pinned (OpenSpec.upto dirrecordSizesSpec)

/-- 'masterdisclaw20.DirrecordShort', WHERE WHAT IT READS IS OF BULK AT MOST 1048576: true; the input reads as it did. -/
def dirrecordShortUptoRow : OpenClaim := { program := "ytnmlephjhcmbhaa", sum := "475477287ebf9ac1593fc4e27be5701115863b8ef8ce5b005f5b48a00b8a85f1", func := "masterdisc/masterdisclaw20.DirrecordShort", spec := "dirrecordShort", inPlace := ["internal/abi.NoEscape"], unfollowed := true, recurses := true, apart := false, narrowed := true }
def DirrecordShortUptoSaid : Prop := dirrecordShortUptoRow.holds Try.pinned (OpenSpec.upto dirrecordShortSpec)

/-- 'masterdisclaw22.PathtableValid', WHERE WHAT IT READS IS OF BULK AT MOST 1048576: true; the input reads as it did. -/
def pathtableValidUptoRow : OpenClaim := { program := "ytnmlephjhcmbhaa", sum := "475477287ebf9ac1593fc4e27be5701115863b8ef8ce5b005f5b48a00b8a85f1", func := "masterdisc/masterdisclaw22.PathtableValid", spec := "pathtableValid", inPlace := ["internal/bytealg.IndexByteString", "internal/bytealg.IndexString", "internal/abi.NoEscape", "internal/bytealg.MakeNoZero", "internal/bytealg.abigen_runtime_cmpstring"], unfollowed := true, recurses := true, named := ["internal/bytealg.MaxLen"], apart := false, narrowed := true }
def PathtableValidUptoSaid : Prop := pathtableValidUptoRow.holds Try.pinned (OpenSpec.upto pathtableValidSpec)

/-- 'masterdisclaw22.PathtableOrders', WHERE WHAT IT READS IS OF BULK AT MOST 1048576: true; the input reads as it did. -/
def pathtableOrdersUptoRow : OpenClaim := { program := "ytnmlephjhcmbhaa", sum := "475477287ebf9ac1593fc4e27be5701115863b8ef8ce5b005f5b48a00b8a85f1", func := "masterdisc/masterdisclaw22.PathtableOrders", spec := "pathtableOrders", inPlace := ["internal/bytealg.IndexByteString", "internal/bytealg.IndexString", "internal/abi.NoEscape", "internal/bytealg.MakeNoZero", "internal/bytealg.abigen_runtime_cmpstring"], unfollowed := true, recurses := true, named := ["internal/bytealg.MaxLen"], apart := false, narrowed := true }
def PathtableOrdersUptoSaid : Prop := pathtableOrdersUptoRow.holds Try.pinned (OpenSpec.upto pathtableOrdersSpec)

/-- 'masterdisclaw22.PathtablePaths', WHERE WHAT IT READS IS OF BULK AT MOST 1048576: true; the input reads as it did. -/
def pathtablePathsUptoRow : OpenClaim := { program := "ytnmlephjhcmbhaa", sum := "475477287ebf9ac1593fc4e27be5701115863b8ef8ce5b005f5b48a00b8a85f1", func := "masterdisc/masterdisclaw22.PathtablePaths", spec := "pathtablePaths", inPlace := ["internal/bytealg.IndexByteString", "internal/bytealg.IndexString", "internal/abi.NoEscape", "internal/bytealg.MakeNoZero", "internal/bytealg.abigen_runtime_cmpstring"], unfollowed := true, recurses := true, named := ["internal/bytealg.MaxLen"], apart := false, narrowed := true }
def PathtablePathsUptoSaid : Prop := pathtablePathsUptoRow.holds Try.pinned (OpenSpec.upto pathtablePathsSpec)

/-- 'masterdisclaw22.PathtableReturns', WHERE WHAT IT READS IS OF BULK AT MOST 1048576: true; the input reads as it did. -/
def pathtableReturnsUptoRow : OpenClaim := { program := "ytnmlephjhcmbhaa", sum := "475477287ebf9ac1593fc4e27be5701115863b8ef8ce5b005f5b48a00b8a85f1", func := "masterdisc/masterdisclaw22.PathtableReturns", spec := "pathtableReturns", inPlace := ["internal/bytealg.IndexByteString", "internal/bytealg.IndexString", "internal/abi.NoEscape", "internal/bytealg.MakeNoZero", "internal/bytealg.abigen_runtime_cmpstring"], unfollowed := true, recurses := true, named := ["internal/bytealg.MaxLen"], apart := false, narrowed := true }
def PathtableReturnsUptoSaid : Prop := pathtableReturnsUptoRow.holds Try.pinned (OpenSpec.upto pathtableReturnsSpec)

/-- 'masterdisclaw22.PathtableLevels', WHERE WHAT IT READS IS OF BULK AT MOST 1048576: true; the input reads as it did. -/
def pathtableLevelsUptoRow : OpenClaim := { program := "ytnmlephjhcmbhaa", sum := "475477287ebf9ac1593fc4e27be5701115863b8ef8ce5b005f5b48a00b8a85f1", func := "masterdisc/masterdisclaw22.PathtableLevels", spec := "pathtableLevels", inPlace := ["internal/bytealg.IndexByteString", "internal/bytealg.IndexString", "internal/abi.NoEscape", "internal/bytealg.MakeNoZero", "internal/bytealg.abigen_runtime_cmpstring"], unfollowed := true, recurses := true, named := ["internal/bytealg.MaxLen"], apart := false, narrowed := true }
def PathtableLevelsUptoSaid : Prop := pathtableLevelsUptoRow.holds Try.pinned (OpenSpec.upto pathtableLevelsSpec)

/-- 'masterdisclaw22.PathtableFinds', WHERE WHAT IT READS IS OF BULK AT MOST 1048576: true; the input reads as it did. -/
def pathtableFindsUptoRow : OpenClaim := { program := "ytnmlephjhcmbhaa", sum := "475477287ebf9ac1593fc4e27be5701115863b8ef8ce5b005f5b48a00b8a85f1", func := "masterdisc/masterdisclaw22.PathtableFinds", spec := "pathtableFinds", inPlace := ["internal/bytealg.IndexByteString", "internal/bytealg.IndexString", "internal/abi.NoEscape", "internal/bytealg.MakeNoZero", "internal/bytealg.abigen_runtime_cmpstring"], unfollowed := true, recurses := true, named := ["internal/bytealg.MaxLen"], apart := false, narrowed := true }
def PathtableFindsUptoSaid : Prop := pathtableFindsUptoRow.holds Try.pinned (OpenSpec.upto pathtableFindsSpec)

/-- 'masterdisclaw22.PathtableSorted', WHERE WHAT IT READS IS OF BULK AT MOST 1048576: true; the input reads as it did. -/
def pathtableSortedUptoRow : OpenClaim := { program := "ytnmlephjhcmbhaa", sum := "475477287ebf9ac1593fc4e27be5701115863b8ef8ce5b005f5b48a00b8a85f1", func := "masterdisc/masterdisclaw22.PathtableSorted", spec := "pathtableSorted", inPlace := ["internal/bytealg.IndexByteString", "internal/bytealg.IndexString", "internal/abi.NoEscape", "internal/bytealg.MakeNoZero", "internal/bytealg.abigen_runtime_cmpstring"], unfollowed := true, recurses := true, named := ["internal/bytealg.MaxLen"], apart := false, narrowed := true }
def PathtableSortedUptoSaid : Prop := pathtableSortedUptoRow.holds Try.pinned (OpenSpec.upto pathtableSortedSpec)

/-- 'masterdisclaw21.DirectoryOrder', WHERE WHAT IT READS IS OF BULK AT MOST 1048576: true; the input reads as it did. -/
def directoryOrderUptoRow : OpenClaim := { program := "ytnmlephjhcmbhaa", sum := "475477287ebf9ac1593fc4e27be5701115863b8ef8ce5b005f5b48a00b8a85f1", func := "masterdisc/masterdisclaw21.DirectoryOrder", spec := "directoryOrder", inPlace := ["internal/bytealg.IndexByteString", "internal/bytealg.IndexString", "internal/abi.NoEscape", "internal/bytealg.MakeNoZero", "internal/bytealg.abigen_runtime_cmpstring"], unfollowed := true, recurses := true, named := ["internal/bytealg.MaxLen"], apart := false, narrowed := true }
def DirectoryOrderUptoSaid : Prop := directoryOrderUptoRow.holds Try.pinned (OpenSpec.upto directoryOrderSpec)

end Rows
end Go.Proofs.Ytnmlephjhcmbhaa
