/-
  No cell of these rows narrows 'for every input' (looked for: loops, veiled, ifaces, maps, wideKeys, modest, calm, conditions, laid).
  DERIVED. THE GIVEN ROWS OF THIS SEAT. 6 by the template 'for every input the law returns true; each argument reads behind the call as it read before'; 0 by the template 'total and deterministic' (their statements: YtnmlephjhcmbhaaGreatTotals.lean).
  GIVEN WITH THE SEED: the statements are not yours to turn. If you find one false, say at which input.
  Laid BY PROGRAM, IN A SANDBOX (cutbox-rows.mjs): the forced cells as the released guide's own fill.sh prints them over the translation 0e23a9367a0d4565… (all of the seat's roots in one cut). By AI agents, Wed Nov 11 2026. No macro, syntax, notation, axiom, sorry.
-/
import Derived.Test.YtnmlephjhcmbhaaGreatChecked
import GoSem.Claim
import GoSem.ClaimJoined
import GoSem.ClaimMapViews
import Derived.JoinedTies
import Derived.KernelRfl
namespace Go.Proofs.YtnmlephjhcmbhaaGreat
/- THE CELL 'sum', in the pinned program and in every row, IS THE sha256 OF THE DUMP (.gsa) THAT YtnmlephjhcmbhaaGreatProg.lean LOADS. Nothing in Lean hashes anything: it is a label: what it is worth is what the hold of that sum in a sandbox is worth. -/
noncomputable def Tryz.pinned : Pinned := { name := "ytnmlephjhcmbhaagreat", sum := "0e23a9367a0d4565b2bfe5ccdfeff6793564aa9883afd6e057a259bac258cd12", checked := Tryz.checked }
namespace Rows
def none {H : Type} : Left H := { results := [], args := [] }

/-- 'masterdisclaw21.DirectoryCompares': WHATEVER THE INPUT: true; the input reads as it did. -/
def directoryComparesSpec : ChangeSpec := { name := "directoryCompares", fn := fun _ => fun
  | [d1, d2, d3] => { results := [.lit (.bool true)], args := [d1, d2, d3] }
  | _ => none }
def directoryComparesRow : OpenClaim := { program := "ytnmlephjhcmbhaagreat", sum := "0e23a9367a0d4565b2bfe5ccdfeff6793564aa9883afd6e057a259bac258cd12", func := "masterdisc/masterdisclaw21.DirectoryCompares", spec := "directoryCompares", inPlace := ["internal/bytealg.IndexByteString", "internal/bytealg.IndexString", "internal/abi.NoEscape", "internal/bytealg.MakeNoZero", "internal/bytealg.abigen_runtime_cmpstring"], unfollowed := true, recurses := true, named := ["internal/bytealg.MaxLen"], apart := false }
def DirectoryComparesSaid : Prop := directoryComparesRow.holds Tryz.pinned (OpenSpec.ofChange directoryComparesSpec)

/-- ITS FALSE NEIGHBOUR: 'it returns false'. Refute it at one input. -/
def directoryComparesWrong : ChangeSpec := { name := "directoryCompares", fn := fun _ => fun
  | [d1, d2, d3] => { results := [.lit (.bool false)], args := [d1, d2, d3] }
  | _ => none }
def DirectoryComparesWrongFalsely : Prop := directoryComparesRow.holds Tryz.pinned (OpenSpec.ofChange directoryComparesWrong)

/-- 'masterdisclaw21.DirectorySorts': WHATEVER THE INPUT: true; the input reads as it did. -/
def directorySortsSpec : ChangeSpec := { name := "directorySorts", fn := fun _ => fun
  | [d1, d2, d3] => { results := [.lit (.bool true)], args := [d1, d2, d3] }
  | _ => none }
def directorySortsRow : OpenClaim := { program := "ytnmlephjhcmbhaagreat", sum := "0e23a9367a0d4565b2bfe5ccdfeff6793564aa9883afd6e057a259bac258cd12", func := "masterdisc/masterdisclaw21.DirectorySorts", spec := "directorySorts", inPlace := ["internal/bytealg.IndexByteString", "internal/bytealg.IndexString", "internal/abi.NoEscape", "internal/bytealg.MakeNoZero", "internal/bytealg.abigen_runtime_cmpstring"], unfollowed := true, recurses := true, named := ["internal/bytealg.MaxLen"], apart := false }
def DirectorySortsSaid : Prop := directorySortsRow.holds Tryz.pinned (OpenSpec.ofChange directorySortsSpec)

/-- ITS FALSE NEIGHBOUR: 'it returns false'. Refute it at one input. -/
def directorySortsWrong : ChangeSpec := { name := "directorySorts", fn := fun _ => fun
  | [d1, d2, d3] => { results := [.lit (.bool false)], args := [d1, d2, d3] }
  | _ => none }
def DirectorySortsWrongFalsely : Prop := directorySortsRow.holds Tryz.pinned (OpenSpec.ofChange directorySortsWrong)

/-- 'masterdisclaw21.DirectoryPlaces': WHATEVER THE INPUT: true; the input reads as it did. -/
def directoryPlacesSpec : ChangeSpec := { name := "directoryPlaces", fn := fun _ => fun
  | [d] => { results := [.lit (.bool true)], args := [d] }
  | _ => none }
def directoryPlacesRow : OpenClaim := { program := "ytnmlephjhcmbhaagreat", sum := "0e23a9367a0d4565b2bfe5ccdfeff6793564aa9883afd6e057a259bac258cd12", func := "masterdisc/masterdisclaw21.DirectoryPlaces", spec := "directoryPlaces", inPlace := ["internal/bytealg.IndexByteString", "internal/bytealg.IndexString", "internal/abi.NoEscape", "internal/bytealg.MakeNoZero", "internal/bytealg.abigen_runtime_cmpstring"], unfollowed := true, recurses := true, named := ["internal/bytealg.MaxLen"], apart := false }
def DirectoryPlacesSaid : Prop := directoryPlacesRow.holds Tryz.pinned (OpenSpec.ofChange directoryPlacesSpec)

/-- ITS FALSE NEIGHBOUR: 'it returns false'. Refute it at one input. -/
def directoryPlacesWrong : ChangeSpec := { name := "directoryPlaces", fn := fun _ => fun
  | [d] => { results := [.lit (.bool false)], args := [d] }
  | _ => none }
def DirectoryPlacesWrongFalsely : Prop := directoryPlacesRow.holds Tryz.pinned (OpenSpec.ofChange directoryPlacesWrong)

/-- 'masterdisclaw21.DirectoryEncodes': WHATEVER THE INPUT: true; the input reads as it did. -/
def directoryEncodesSpec : ChangeSpec := { name := "directoryEncodes", fn := fun _ => fun
  | [d] => { results := [.lit (.bool true)], args := [d] }
  | _ => none }
def directoryEncodesRow : OpenClaim := { program := "ytnmlephjhcmbhaagreat", sum := "0e23a9367a0d4565b2bfe5ccdfeff6793564aa9883afd6e057a259bac258cd12", func := "masterdisc/masterdisclaw21.DirectoryEncodes", spec := "directoryEncodes", inPlace := ["internal/bytealg.IndexByteString", "internal/bytealg.IndexString", "internal/abi.NoEscape", "internal/bytealg.MakeNoZero", "internal/bytealg.abigen_runtime_cmpstring"], unfollowed := true, recurses := true, named := ["internal/bytealg.MaxLen"], apart := false }
def DirectoryEncodesSaid : Prop := directoryEncodesRow.holds Tryz.pinned (OpenSpec.ofChange directoryEncodesSpec)

/-- ITS FALSE NEIGHBOUR: 'it returns false'. Refute it at one input. -/
def directoryEncodesWrong : ChangeSpec := { name := "directoryEncodes", fn := fun _ => fun
  | [d] => { results := [.lit (.bool false)], args := [d] }
  | _ => none }
def DirectoryEncodesWrongFalsely : Prop := directoryEncodesRow.holds Tryz.pinned (OpenSpec.ofChange directoryEncodesWrong)

/-- 'masterdisclaw21.DirectoryReturns': WHATEVER THE INPUT: true; the input reads as it did. -/
def directoryReturnsSpec : ChangeSpec := { name := "directoryReturns", fn := fun _ => fun
  | [d1, d2] => { results := [.lit (.bool true)], args := [d1, d2] }
  | _ => none }
def directoryReturnsRow : OpenClaim := { program := "ytnmlephjhcmbhaagreat", sum := "0e23a9367a0d4565b2bfe5ccdfeff6793564aa9883afd6e057a259bac258cd12", func := "masterdisc/masterdisclaw21.DirectoryReturns", spec := "directoryReturns", inPlace := ["internal/bytealg.IndexByteString", "internal/bytealg.IndexString", "internal/abi.NoEscape", "internal/bytealg.MakeNoZero", "internal/bytealg.abigen_runtime_cmpstring"], unfollowed := true, recurses := true, named := ["internal/bytealg.MaxLen"], apart := false }
def DirectoryReturnsSaid : Prop := directoryReturnsRow.holds Tryz.pinned (OpenSpec.ofChange directoryReturnsSpec)

/-- ITS FALSE NEIGHBOUR: 'it returns false'. Refute it at one input. -/
def directoryReturnsWrong : ChangeSpec := { name := "directoryReturns", fn := fun _ => fun
  | [d1, d2] => { results := [.lit (.bool false)], args := [d1, d2] }
  | _ => none }
def DirectoryReturnsWrongFalsely : Prop := directoryReturnsRow.holds Tryz.pinned (OpenSpec.ofChange directoryReturnsWrong)

/-- 'masterdisclaw21.DirectoryFits': WHATEVER THE INPUT: true; the input reads as it did. -/
def directoryFitsSpec : ChangeSpec := { name := "directoryFits", fn := fun _ => fun
  | [d] => { results := [.lit (.bool true)], args := [d] }
  | _ => none }
def directoryFitsRow : OpenClaim := { program := "ytnmlephjhcmbhaagreat", sum := "0e23a9367a0d4565b2bfe5ccdfeff6793564aa9883afd6e057a259bac258cd12", func := "masterdisc/masterdisclaw21.DirectoryFits", spec := "directoryFits", inPlace := ["internal/bytealg.IndexByteString", "internal/bytealg.IndexString", "internal/abi.NoEscape", "internal/bytealg.MakeNoZero", "internal/bytealg.abigen_runtime_cmpstring"], unfollowed := true, recurses := true, named := ["internal/bytealg.MaxLen"], apart := false }
def DirectoryFitsSaid : Prop := directoryFitsRow.holds Tryz.pinned (OpenSpec.ofChange directoryFitsSpec)

/-- ITS FALSE NEIGHBOUR: 'it returns false'. Refute it at one input. -/
def directoryFitsWrong : ChangeSpec := { name := "directoryFits", fn := fun _ => fun
  | [d] => { results := [.lit (.bool false)], args := [d] }
  | _ => none }
def DirectoryFitsWrongFalsely : Prop := directoryFitsRow.holds Tryz.pinned (OpenSpec.ofChange directoryFitsWrong)

/- THE SECOND FORM. 'bulk': how many values and letters a reading holds, each counted each time it is reached (what is shared counts as often as it is met; a slice's spare places count too). A statement '..UptoSaid' is the law's where the arguments, and the package variables that the reading takes, are together of bulk at most 1048576: NARROWER than '..Said'. Prove '..Said' where nothing that the law and all that it calls make is longer than what came in: it says more and counts as full. Else prove '..UptoSaid'. A law counts once. -/
mutual
def uptoBulk {H : Type} : DataW H → Nat
  | .lit (.string bytes) => bytes.length + 1
  | .lit _ => 1
  | .nil => 1
  | .ptr d => uptoBulk d + 1
  | .slice elems spare => uptoBulkAll elems + uptoBulkAll spare + 1
  | .agg parts => uptoBulkAll parts + 1
  | .iface _ d => uptoBulk d + 1
  | .map entries => uptoBulkEntries entries + 1
  | .held _ => 1
def uptoBulkAll {H : Type} : List (DataW H) → Nat
  | [] => 0
  | d :: r => uptoBulk d + uptoBulkAll r
def uptoBulkEntries {H : Type} : List (Lit × DataW H) → Nat
  | [] => 0
  | x :: r => uptoBulkEntry x + uptoBulkEntries r
def uptoBulkEntry {H : Type} : Lit × DataW H → Nat
  | (.string bytes, d) => bytes.length + uptoBulk d + 1
  | (_, d) => uptoBulk d + 1
 end
def uptoSmall : (H : Type) → List (DataW H) → Bool := fun _ ds => decide (uptoBulkAll ds ≤ 1048576)
def OpenSpec.upto (s : _root_.Go.ChangeSpec) : _root_.Go.OpenSpec := { _root_.Go.OpenSpec.ofChange s with cond := some uptoSmall }

/-- 'masterdisclaw21.DirectoryCompares', WHERE WHAT IT READS IS OF BULK AT MOST 1048576: true; the input reads as it did. -/
def directoryComparesUptoRow : OpenClaim := { program := "ytnmlephjhcmbhaagreat", sum := "0e23a9367a0d4565b2bfe5ccdfeff6793564aa9883afd6e057a259bac258cd12", func := "masterdisc/masterdisclaw21.DirectoryCompares", spec := "directoryCompares", inPlace := ["internal/bytealg.IndexByteString", "internal/bytealg.IndexString", "internal/abi.NoEscape", "internal/bytealg.MakeNoZero", "internal/bytealg.abigen_runtime_cmpstring"], unfollowed := true, recurses := true, named := ["internal/bytealg.MaxLen"], apart := false, narrowed := true }
def DirectoryComparesUptoSaid : Prop := directoryComparesUptoRow.holds Tryz.pinned (OpenSpec.upto directoryComparesSpec)

/-- 'masterdisclaw21.DirectorySorts', WHERE WHAT IT READS IS OF BULK AT MOST 1048576: true; the input reads as it did. -/
def directorySortsUptoRow : OpenClaim := { program := "ytnmlephjhcmbhaagreat", sum := "0e23a9367a0d4565b2bfe5ccdfeff6793564aa9883afd6e057a259bac258cd12", func := "masterdisc/masterdisclaw21.DirectorySorts", spec := "directorySorts", inPlace := ["internal/bytealg.IndexByteString", "internal/bytealg.IndexString", "internal/abi.NoEscape", "internal/bytealg.MakeNoZero", "internal/bytealg.abigen_runtime_cmpstring"], unfollowed := true, recurses := true, named := ["internal/bytealg.MaxLen"], apart := false, narrowed := true }
def DirectorySortsUptoSaid : Prop := directorySortsUptoRow.holds Tryz.pinned (OpenSpec.upto directorySortsSpec)

/-- 'masterdisclaw21.DirectoryPlaces', WHERE WHAT IT READS IS OF BULK AT MOST 1048576: true; the input reads as it did. -/
def directoryPlacesUptoRow : OpenClaim := { program := "ytnmlephjhcmbhaagreat", sum := "0e23a9367a0d4565b2bfe5ccdfeff6793564aa9883afd6e057a259bac258cd12", func := "masterdisc/masterdisclaw21.DirectoryPlaces", spec := "directoryPlaces", inPlace := ["internal/bytealg.IndexByteString", "internal/bytealg.IndexString", "internal/abi.NoEscape", "internal/bytealg.MakeNoZero", "internal/bytealg.abigen_runtime_cmpstring"], unfollowed := true, recurses := true, named := ["internal/bytealg.MaxLen"], apart := false, narrowed := true }
def DirectoryPlacesUptoSaid : Prop := directoryPlacesUptoRow.holds Tryz.pinned (OpenSpec.upto directoryPlacesSpec)

/-- 'masterdisclaw21.DirectoryEncodes', WHERE WHAT IT READS IS OF BULK AT MOST 1048576: true; the input reads as it did. -/
def directoryEncodesUptoRow : OpenClaim := { program := "ytnmlephjhcmbhaagreat", sum := "0e23a9367a0d4565b2bfe5ccdfeff6793564aa9883afd6e057a259bac258cd12", func := "masterdisc/masterdisclaw21.DirectoryEncodes", spec := "directoryEncodes", inPlace := ["internal/bytealg.IndexByteString", "internal/bytealg.IndexString", "internal/abi.NoEscape", "internal/bytealg.MakeNoZero", "internal/bytealg.abigen_runtime_cmpstring"], unfollowed := true, recurses := true, named := ["internal/bytealg.MaxLen"], apart := false, narrowed := true }
def DirectoryEncodesUptoSaid : Prop := directoryEncodesUptoRow.holds Tryz.pinned (OpenSpec.upto directoryEncodesSpec)

/-- 'masterdisclaw21.DirectoryReturns', WHERE WHAT IT READS IS OF BULK AT MOST 1048576: true; the input reads as it did. -/
def directoryReturnsUptoRow : OpenClaim := { program := "ytnmlephjhcmbhaagreat", sum := "0e23a9367a0d4565b2bfe5ccdfeff6793564aa9883afd6e057a259bac258cd12", func := "masterdisc/masterdisclaw21.DirectoryReturns", spec := "directoryReturns", inPlace := ["internal/bytealg.IndexByteString", "internal/bytealg.IndexString", "internal/abi.NoEscape", "internal/bytealg.MakeNoZero", "internal/bytealg.abigen_runtime_cmpstring"], unfollowed := true, recurses := true, named := ["internal/bytealg.MaxLen"], apart := false, narrowed := true }
def DirectoryReturnsUptoSaid : Prop := directoryReturnsUptoRow.holds Tryz.pinned (OpenSpec.upto directoryReturnsSpec)

/-- 'masterdisclaw21.DirectoryFits', WHERE WHAT IT READS IS OF BULK AT MOST 1048576: true; the input reads as it did. -/
def directoryFitsUptoRow : OpenClaim := { program := "ytnmlephjhcmbhaagreat", sum := "0e23a9367a0d4565b2bfe5ccdfeff6793564aa9883afd6e057a259bac258cd12", func := "masterdisc/masterdisclaw21.DirectoryFits", spec := "directoryFits", inPlace := ["internal/bytealg.IndexByteString", "internal/bytealg.IndexString", "internal/abi.NoEscape", "internal/bytealg.MakeNoZero", "internal/bytealg.abigen_runtime_cmpstring"], unfollowed := true, recurses := true, named := ["internal/bytealg.MaxLen"], apart := false, narrowed := true }
def DirectoryFitsUptoSaid : Prop := directoryFitsUptoRow.holds Tryz.pinned (OpenSpec.upto directoryFitsSpec)

end Rows
end Go.Proofs.YtnmlephjhcmbhaaGreat
