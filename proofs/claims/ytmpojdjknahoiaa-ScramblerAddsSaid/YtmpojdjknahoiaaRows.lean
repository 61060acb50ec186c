/-
  No cell of these rows narrows 'for every input' (looked for: loops, veiled, ifaces, maps, wideKeys, modest, calm, conditions, laid).
  DERIVED. THE GIVEN ROWS OF THIS SEAT. 7 by the template 'for every input the law returns true; each argument reads behind the call as it read before'; 0 by the template 'total and deterministic' (their statements: YtmpojdjknahoiaaTotals.lean).
  GIVEN WITH THE SEED: the statements are not yours to turn. If you find one false, say at which input.
  Laid BY PROGRAM, IN A SANDBOX (cutbox-rows.mjs): the forced cells as the released guide's own fill.sh prints them over the translation 9a8832d4fbb34058… (all of the seat's roots in one cut). By AI agents, Wed Nov 11 2026. No macro, syntax, notation, axiom, sorry.
-/
import Derived.Test.YtmpojdjknahoiaaChecked
import GoSem.Claim
import GoSem.ClaimJoined
import GoSem.ClaimMapViews
import Derived.JoinedTies
import Derived.KernelRfl
namespace Go.Proofs.Ytmpojdjknahoiaa
/- THE CELL 'sum', in the pinned program and in every row, IS THE sha256 OF THE DUMP (.gsa) THAT YtmpojdjknahoiaaProg.lean LOADS. Nothing in Lean hashes anything: it is a label: what it is worth is what the hold of that sum in a sandbox is worth. -/
noncomputable def Try.pinned : Pinned := { name := "ytmpojdjknahoiaa", sum := "9a8832d4fbb340588b9a33b6f759ffd5a1c7c6c48a20315a9c5589be196b9dfa", checked := Try.checked }
namespace Rows
def none {H : Type} : Left H := { results := [], args := [] }

/-- 'masterdisclaw05.ScramblerSequences': WHATEVER THE INPUT: true; the input reads as it did. -/
def scramblerSequencesSpec : ChangeSpec := { name := "scramblerSequences", fn := fun _ => fun
  | [d1, d2] => { results := [.lit (.bool true)], args := [d1, d2] }
  | _ => none }
def scramblerSequencesRow : OpenClaim := { program := "ytmpojdjknahoiaa", sum := "9a8832d4fbb340588b9a33b6f759ffd5a1c7c6c48a20315a9c5589be196b9dfa", func := "masterdisc/masterdisclaw05.ScramblerSequences", spec := "scramblerSequences", unfollowed := true, recurses := true, apart := false }
def ScramblerSequencesSaid : Prop := scramblerSequencesRow.holds Try.pinned (OpenSpec.ofChange scramblerSequencesSpec)

/-- ITS FALSE NEIGHBOUR: 'it returns false'. Refute it at one input. -/
def scramblerSequencesWrong : ChangeSpec := { name := "scramblerSequences", fn := fun _ => fun
  | [d1, d2] => { results := [.lit (.bool false)], args := [d1, d2] }
  | _ => none }
def ScramblerSequencesWrongFalsely : Prop := scramblerSequencesRow.holds Try.pinned (OpenSpec.ofChange scramblerSequencesWrong)

/-- 'masterdisclaw05.ScramblerRecurs': WHATEVER THE INPUT: true; the input reads as it did. -/
def scramblerRecursSpec : ChangeSpec := { name := "scramblerRecurs", fn := fun _ => fun
  | [d1, d2] => { results := [.lit (.bool true)], args := [d1, d2] }
  | _ => none }
def scramblerRecursRow : OpenClaim := { program := "ytmpojdjknahoiaa", sum := "9a8832d4fbb340588b9a33b6f759ffd5a1c7c6c48a20315a9c5589be196b9dfa", func := "masterdisc/masterdisclaw05.ScramblerRecurs", spec := "scramblerRecurs", unfollowed := true, recurses := true, apart := false }
def ScramblerRecursSaid : Prop := scramblerRecursRow.holds Try.pinned (OpenSpec.ofChange scramblerRecursSpec)

/-- ITS FALSE NEIGHBOUR: 'it returns false'. Refute it at one input. -/
def scramblerRecursWrong : ChangeSpec := { name := "scramblerRecurs", fn := fun _ => fun
  | [d1, d2] => { results := [.lit (.bool false)], args := [d1, d2] }
  | _ => none }
def ScramblerRecursWrongFalsely : Prop := scramblerRecursRow.holds Try.pinned (OpenSpec.ofChange scramblerRecursWrong)

/-- 'masterdisclaw05.ScramblerPeriods': WHATEVER THE INPUT: true; the input reads as it did. -/
def scramblerPeriodsSpec : ChangeSpec := { name := "scramblerPeriods", fn := fun _ => fun
  | [d1, d2, d3] => { results := [.lit (.bool true)], args := [d1, d2, d3] }
  | _ => none }
def scramblerPeriodsRow : OpenClaim := { program := "ytmpojdjknahoiaa", sum := "9a8832d4fbb340588b9a33b6f759ffd5a1c7c6c48a20315a9c5589be196b9dfa", func := "masterdisc/masterdisclaw05.ScramblerPeriods", spec := "scramblerPeriods", unfollowed := true, recurses := true, apart := false }
def ScramblerPeriodsSaid : Prop := scramblerPeriodsRow.holds Try.pinned (OpenSpec.ofChange scramblerPeriodsSpec)

/-- ITS FALSE NEIGHBOUR: 'it returns false'. Refute it at one input. -/
def scramblerPeriodsWrong : ChangeSpec := { name := "scramblerPeriods", fn := fun _ => fun
  | [d1, d2, d3] => { results := [.lit (.bool false)], args := [d1, d2, d3] }
  | _ => none }
def ScramblerPeriodsWrongFalsely : Prop := scramblerPeriodsRow.holds Try.pinned (OpenSpec.ofChange scramblerPeriodsWrong)

/-- 'masterdisclaw05.ScramblerSectors': WHATEVER THE INPUT: true; the input reads as it did. -/
def scramblerSectorsSpec : ChangeSpec := { name := "scramblerSectors", fn := fun _ => fun
  | [d] => { results := [.lit (.bool true)], args := [d] }
  | _ => none }
def scramblerSectorsRow : OpenClaim := { program := "ytmpojdjknahoiaa", sum := "9a8832d4fbb340588b9a33b6f759ffd5a1c7c6c48a20315a9c5589be196b9dfa", func := "masterdisc/masterdisclaw05.ScramblerSectors", spec := "scramblerSectors", unfollowed := true, recurses := true, apart := false }
def ScramblerSectorsSaid : Prop := scramblerSectorsRow.holds Try.pinned (OpenSpec.ofChange scramblerSectorsSpec)

/-- ITS FALSE NEIGHBOUR: 'it returns false'. Refute it at one input. -/
def scramblerSectorsWrong : ChangeSpec := { name := "scramblerSectors", fn := fun _ => fun
  | [d] => { results := [.lit (.bool false)], args := [d] }
  | _ => none }
def ScramblerSectorsWrongFalsely : Prop := scramblerSectorsRow.holds Try.pinned (OpenSpec.ofChange scramblerSectorsWrong)

/-- 'masterdisclaw05.ScramblerTwice': WHATEVER THE INPUT: true; the input reads as it did. -/
def scramblerTwiceSpec : ChangeSpec := { name := "scramblerTwice", fn := fun _ => fun
  | [d1, d2] => { results := [.lit (.bool true)], args := [d1, d2] }
  | _ => none }
def scramblerTwiceRow : OpenClaim := { program := "ytmpojdjknahoiaa", sum := "9a8832d4fbb340588b9a33b6f759ffd5a1c7c6c48a20315a9c5589be196b9dfa", func := "masterdisc/masterdisclaw05.ScramblerTwice", spec := "scramblerTwice", unfollowed := true, recurses := true, apart := false }
def ScramblerTwiceSaid : Prop := scramblerTwiceRow.holds Try.pinned (OpenSpec.ofChange scramblerTwiceSpec)

/-- ITS FALSE NEIGHBOUR: 'it returns false'. Refute it at one input. -/
def scramblerTwiceWrong : ChangeSpec := { name := "scramblerTwice", fn := fun _ => fun
  | [d1, d2] => { results := [.lit (.bool false)], args := [d1, d2] }
  | _ => none }
def ScramblerTwiceWrongFalsely : Prop := scramblerTwiceRow.holds Try.pinned (OpenSpec.ofChange scramblerTwiceWrong)

/-- 'masterdisclaw05.ScramblerFinds': WHATEVER THE INPUT: true; the input reads as it did. -/
def scramblerFindsSpec : ChangeSpec := { name := "scramblerFinds", fn := fun _ => fun
  | [d1, d2, d3] => { results := [.lit (.bool true)], args := [d1, d2, d3] }
  | _ => none }
def scramblerFindsRow : OpenClaim := { program := "ytmpojdjknahoiaa", sum := "9a8832d4fbb340588b9a33b6f759ffd5a1c7c6c48a20315a9c5589be196b9dfa", func := "masterdisc/masterdisclaw05.ScramblerFinds", spec := "scramblerFinds", inPlace := ["internal/bytealg.IndexByteString", "internal/bytealg.IndexString"], unfollowed := true, recurses := true, named := ["internal/bytealg.MaxLen"], apart := false }
def ScramblerFindsSaid : Prop := scramblerFindsRow.holds Try.pinned (OpenSpec.ofChange scramblerFindsSpec)

/-- ITS FALSE NEIGHBOUR: 'it returns false'. Refute it at one input. -/
def scramblerFindsWrong : ChangeSpec := { name := "scramblerFinds", fn := fun _ => fun
  | [d1, d2, d3] => { results := [.lit (.bool false)], args := [d1, d2, d3] }
  | _ => none }
def ScramblerFindsWrongFalsely : Prop := scramblerFindsRow.holds Try.pinned (OpenSpec.ofChange scramblerFindsWrong)

/-- 'masterdisclaw05.ScramblerAdds': WHATEVER THE INPUT: true; the input reads as it did. -/
def scramblerAddsSpec : ChangeSpec := { name := "scramblerAdds", fn := fun _ => fun
  | [d1, d2, d3] => { results := [.lit (.bool true)], args := [d1, d2, d3] }
  | _ => none }
def scramblerAddsRow : OpenClaim := { program := "ytmpojdjknahoiaa", sum := "9a8832d4fbb340588b9a33b6f759ffd5a1c7c6c48a20315a9c5589be196b9dfa", func := "masterdisc/masterdisclaw05.ScramblerAdds", spec := "scramblerAdds", inPlace := ["internal/bytealg.IndexByteString", "internal/bytealg.IndexString"], unfollowed := true, recurses := true, named := ["internal/bytealg.MaxLen"], apart := false }
def ScramblerAddsSaid : Prop := scramblerAddsRow.holds Try.pinned (OpenSpec.ofChange scramblerAddsSpec)

/-- ITS FALSE NEIGHBOUR: 'it returns false'. Refute it at one input. -/
def scramblerAddsWrong : ChangeSpec := { name := "scramblerAdds", fn := fun _ => fun
  | [d1, d2, d3] => { results := [.lit (.bool false)], args := [d1, d2, d3] }
  | _ => none }
def ScramblerAddsWrongFalsely : Prop := scramblerAddsRow.holds Try.pinned (OpenSpec.ofChange scramblerAddsWrong)

/- THE SECOND FORM. 'bulk': how many values and letters a reading holds, each counted each time it is reached (what is shared counts as often as it is met; a slice's spare places count too). A statement '..UptoSaid' is the law's where the arguments, and the package variables that the reading takes, are together of bulk at most 1048576: NARROWER than '..Said'. Prove '..Said' where nothing that the law and all that it calls make is longer than what came in: it says more and counts as full. Else prove '..UptoSaid'. A law counts once. -/
mutual
def uptoBulk {H : Type} : DataW H → Nat
  | .lit (.string bytes) => bytes.length + 1
  | .lit _ => 1
  | .nil => 1
  | .ptr d => uptoBulk d + 1
  | .slice elems spare => uptoBulkAll elems + uptoBulkAll spare + 1
  | .agg parts => uptoBulkAll parts + 1
  | .iface _ d => uptoBulk d + 1
  | .map entries => uptoBulkEntries entries + 1
  | .held _ => 1
def uptoBulkAll {H : Type} : List (DataW H) → Nat
  | [] => 0
  | d :: r => uptoBulk d + uptoBulkAll r
def uptoBulkEntries {H : Type} : List (Lit × DataW H) → Nat
  | [] => 0
  | x :: r => uptoBulkEntry x + uptoBulkEntries r
def uptoBulkEntry {H : Type} : Lit × DataW H → Nat
  | (.string bytes, d) => bytes.length + uptoBulk d + 1
  | (_, d) => uptoBulk d + 1
 end
def uptoSmall : (H : Type) → List (DataW H) → Bool := fun _ ds => decide (uptoBulkAll ds ≤ 1048576)
def OpenSpec.upto (s : _root_.Go.ChangeSpec) : _root_.Go.OpenSpec := { _root_.Go.OpenSpec.ofChange s with cond := some uptoSmall }

/-- 'masterdisclaw05.ScramblerSequences', WHERE WHAT IT READS IS OF BULK AT MOST 1048576: true; the input reads as it did. -/
def scramblerSequencesUptoRow : OpenClaim := { program := "ytmpojdjknahoiaa", sum := "9a8832d4fbb340588b9a33b6f759ffd5a1c7c6c48a20315a9c5589be196b9dfa", func := "masterdisc/masterdisclaw05.ScramblerSequences", spec := "scramblerSequences", unfollowed := true, recurses := true, apart := false, narrowed := true }
def ScramblerSequencesUptoSaid : Prop := scramblerSequencesUptoRow.holds Try.pinned (OpenSpec.upto scramblerSequencesSpec)

/-- 'masterdisclaw05.ScramblerRecurs', WHERE WHAT IT READS IS OF BULK AT MOST 1048576: true; the input reads as it did. -/
def scramblerRecursUptoRow : OpenClaim := { program := "ytmpojdjknahoiaa", sum := "9a8832d4fbb340588b9a33b6f759ffd5a1c7c6c48a20315a9c5589be196b9dfa", func := "masterdisc/masterdisclaw05.ScramblerRecurs", spec := "scramblerRecurs", unfollowed := true, recurses := true, apart := false, narrowed := true }
def ScramblerRecursUptoSaid : Prop := scramblerRecursUptoRow.holds Try.pinned (OpenSpec.upto scramblerRecursSpec)

/-- 'masterdisclaw05.ScramblerPeriods', WHERE WHAT IT READS IS OF BULK AT MOST 1048576: true; the input reads as it did. -/
def scramblerPeriodsUptoRow : OpenClaim := { program := "ytmpojdjknahoiaa", sum := "9a8832d4fbb340588b9a33b6f759ffd5a1c7c6c48a20315a9c5589be196b9dfa", func := "masterdisc/masterdisclaw05.ScramblerPeriods", spec := "scramblerPeriods", unfollowed := true, recurses := true, apart := false, narrowed := true }
def ScramblerPeriodsUptoSaid : Prop := scramblerPeriodsUptoRow.holds Try.pinned (OpenSpec.upto scramblerPeriodsSpec)

/-- 'masterdisclaw05.ScramblerSectors', WHERE WHAT IT READS IS OF BULK AT MOST 1048576: true; the input reads as it did. -/
def scramblerSectorsUptoRow : OpenClaim := { program := "ytmpojdjknahoiaa", sum := "9a8832d4fbb340588b9a33b6f759ffd5a1c7c6c48a20315a9c5589be196b9dfa", func := "masterdisc/masterdisclaw05.ScramblerSectors", spec := "scramblerSectors", unfollowed := true, recurses := true, apart := false, narrowed := true }
def ScramblerSectorsUptoSaid : Prop := scramblerSectorsUptoRow.holds Try.pinned (OpenSpec.upto scramblerSectorsSpec)

/-- 'masterdisclaw05.ScramblerTwice', WHERE WHAT IT READS IS OF BULK AT MOST 1048576: true; the input reads as it did. -/
def scramblerTwiceUptoRow : OpenClaim := { program := "ytmpojdjknahoiaa", sum := "9a8832d4fbb340588b9a33b6f759ffd5a1c7c6c48a20315a9c5589be196b9dfa", func := "masterdisc/masterdisclaw05.ScramblerTwice", spec := "scramblerTwice", unfollowed := true, recurses := true, apart := false, narrowed := true }
def ScramblerTwiceUptoSaid : Prop := scramblerTwiceUptoRow.holds Try.pinned (OpenSpec.upto scramblerTwiceSpec)

/-- 'masterdisclaw05.ScramblerFinds', WHERE WHAT IT READS IS OF BULK AT MOST 1048576: true; the input reads as it did. -/
def scramblerFindsUptoRow : OpenClaim := { program := "ytmpojdjknahoiaa", sum := "9a8832d4fbb340588b9a33b6f759ffd5a1c7c6c48a20315a9c5589be196b9dfa", func := "masterdisc/masterdisclaw05.ScramblerFinds", spec := "scramblerFinds", inPlace := ["internal/bytealg.IndexByteString", "internal/bytealg.IndexString"], unfollowed := true, recurses := true, named := ["internal/bytealg.MaxLen"], apart := false, narrowed := true }
def ScramblerFindsUptoSaid : Prop := scramblerFindsUptoRow.holds Try.pinned (OpenSpec.upto scramblerFindsSpec)

/-- 'masterdisclaw05.ScramblerAdds', WHERE WHAT IT READS IS OF BULK AT MOST 1048576: true; the input reads as it did. -/
def scramblerAddsUptoRow : OpenClaim := { program := "ytmpojdjknahoiaa", sum := "9a8832d4fbb340588b9a33b6f759ffd5a1c7c6c48a20315a9c5589be196b9dfa", func := "masterdisc/masterdisclaw05.ScramblerAdds", spec := "scramblerAdds", inPlace := ["internal/bytealg.IndexByteString", "internal/bytealg.IndexString"], unfollowed := true, recurses := true, named := ["internal/bytealg.MaxLen"], apart := false, narrowed := true }
def ScramblerAddsUptoSaid : Prop := scramblerAddsUptoRow.holds Try.pinned (OpenSpec.upto scramblerAddsSpec)

end Rows
end Go.Proofs.Ytmpojdjknahoiaa
