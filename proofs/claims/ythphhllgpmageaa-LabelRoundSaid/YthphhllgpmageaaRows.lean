/-
  No cell of these rows narrows 'for every input' (looked for: loops, veiled, ifaces, maps, wideKeys, modest, calm, conditions, laid).
  DERIVED. THE GIVEN ROWS OF THIS SEAT. 7 by the template 'for every input the law returns true; each argument reads behind the call as it read before'; 0 by the template 'total and deterministic' (their statements: YthphhllgpmageaaTotals.lean).
  GIVEN WITH THE SEED: the statements are not yours to turn. If you find one false, say at which input.
  Laid BY PROGRAM, IN A SANDBOX (cutbox-rows.mjs): the forced cells as the released guide's own fill.sh prints them over the translation c82c323d3364048c… (all of the seat's roots in one cut). By AI agents, Wed Nov 11 2026. No macro, syntax, notation, axiom, sorry.
-/
import Derived.Test.YthphhllgpmageaaChecked
import GoSem.Claim
import GoSem.ClaimJoined
import GoSem.ClaimMapViews
import Derived.JoinedTies
import Derived.KernelRfl
namespace Go.Proofs.Ythphhllgpmageaa
/- THE CELL 'sum', in the pinned program and in every row, IS THE sha256 OF THE DUMP (.gsa) THAT YthphhllgpmageaaProg.lean LOADS. Nothing in Lean hashes anything: it is a label: what it is worth is what the hold of that sum in a sandbox is worth. -/
noncomputable def Try.pinned : Pinned := { name := "ythphhllgpmageaa", sum := "c82c323d3364048cef7710d58ab77ef19de505dfe855c25e1765683bd745f3df", checked := Try.checked }
namespace Rows
def none {H : Type} : Left H := { results := [], args := [] }

/-- 'abatislaw08.LabelNames': WHATEVER THE INPUT: true; the input reads as it did. -/
def labelNamesSpec : ChangeSpec := { name := "labelNames", fn := fun _ => fun
  | [d] => { results := [.lit (.bool true)], args := [d] }
  | _ => none }
def labelNamesRow : OpenClaim := { program := "ythphhllgpmageaa", sum := "c82c323d3364048cef7710d58ab77ef19de505dfe855c25e1765683bd745f3df", func := "abatis/abatislaw08.LabelNames", spec := "labelNames", inPlace := ["internal/bytealg.IndexByteString", "internal/bytealg.IndexString"], unfollowed := true, recurses := true, named := ["internal/bytealg.MaxLen"], apart := false }
def LabelNamesSaid : Prop := labelNamesRow.holds Try.pinned (OpenSpec.ofChange labelNamesSpec)

/-- ITS FALSE NEIGHBOUR: 'it returns false'. Refute it at one input. -/
def labelNamesWrong : ChangeSpec := { name := "labelNames", fn := fun _ => fun
  | [d] => { results := [.lit (.bool false)], args := [d] }
  | _ => none }
def LabelNamesWrongFalsely : Prop := labelNamesRow.holds Try.pinned (OpenSpec.ofChange labelNamesWrong)

/-- 'abatislaw08.LabelUnder': WHATEVER THE INPUT: true; the input reads as it did. -/
def labelUnderSpec : ChangeSpec := { name := "labelUnder", fn := fun _ => fun
  | [d1, d2] => { results := [.lit (.bool true)], args := [d1, d2] }
  | _ => none }
def labelUnderRow : OpenClaim := { program := "ythphhllgpmageaa", sum := "c82c323d3364048cef7710d58ab77ef19de505dfe855c25e1765683bd745f3df", func := "abatis/abatislaw08.LabelUnder", spec := "labelUnder", inPlace := ["internal/bytealg.IndexByteString", "internal/bytealg.IndexString"], unfollowed := true, recurses := true, named := ["internal/bytealg.MaxLen"], apart := false }
def LabelUnderSaid : Prop := labelUnderRow.holds Try.pinned (OpenSpec.ofChange labelUnderSpec)

/-- ITS FALSE NEIGHBOUR: 'it returns false'. Refute it at one input. -/
def labelUnderWrong : ChangeSpec := { name := "labelUnder", fn := fun _ => fun
  | [d1, d2] => { results := [.lit (.bool false)], args := [d1, d2] }
  | _ => none }
def LabelUnderWrongFalsely : Prop := labelUnderRow.holds Try.pinned (OpenSpec.ofChange labelUnderWrong)

/-- 'abatislaw08.LabelParents': WHATEVER THE INPUT: true; the input reads as it did. -/
def labelParentsSpec : ChangeSpec := { name := "labelParents", fn := fun _ => fun
  | [d] => { results := [.lit (.bool true)], args := [d] }
  | _ => none }
def labelParentsRow : OpenClaim := { program := "ythphhllgpmageaa", sum := "c82c323d3364048cef7710d58ab77ef19de505dfe855c25e1765683bd745f3df", func := "abatis/abatislaw08.LabelParents", spec := "labelParents", inPlace := ["internal/bytealg.IndexByteString", "internal/bytealg.IndexString"], unfollowed := true, recurses := true, named := ["internal/bytealg.MaxLen"], apart := false }
def LabelParentsSaid : Prop := labelParentsRow.holds Try.pinned (OpenSpec.ofChange labelParentsSpec)

/-- ITS FALSE NEIGHBOUR: 'it returns false'. Refute it at one input. -/
def labelParentsWrong : ChangeSpec := { name := "labelParents", fn := fun _ => fun
  | [d] => { results := [.lit (.bool false)], args := [d] }
  | _ => none }
def LabelParentsWrongFalsely : Prop := labelParentsRow.holds Try.pinned (OpenSpec.ofChange labelParentsWrong)

/-- 'abatislaw08.LabelReads': WHATEVER THE INPUT: true; the input reads as it did. -/
def labelReadsSpec : ChangeSpec := { name := "labelReads", fn := fun _ => fun
  | [d1, d2] => { results := [.lit (.bool true)], args := [d1, d2] }
  | _ => none }
def labelReadsRow : OpenClaim := { program := "ythphhllgpmageaa", sum := "c82c323d3364048cef7710d58ab77ef19de505dfe855c25e1765683bd745f3df", func := "abatis/abatislaw08.LabelReads", spec := "labelReads", inPlace := ["internal/bytealg.IndexByteString", "internal/bytealg.IndexString", "internal/abi.NoEscape", "internal/bytealg.MakeNoZero"], unfollowed := true, recurses := true, named := ["internal/bytealg.MaxLen"], apart := false }
def LabelReadsSaid : Prop := labelReadsRow.holds Try.pinned (OpenSpec.ofChange labelReadsSpec)

/-- ITS FALSE NEIGHBOUR: 'it returns false'. Refute it at one input. -/
def labelReadsWrong : ChangeSpec := { name := "labelReads", fn := fun _ => fun
  | [d1, d2] => { results := [.lit (.bool false)], args := [d1, d2] }
  | _ => none }
def LabelReadsWrongFalsely : Prop := labelReadsRow.holds Try.pinned (OpenSpec.ofChange labelReadsWrong)

/-- 'abatislaw08.LabelLoops': WHATEVER THE INPUT: true; the input reads as it did. -/
def labelLoopsSpec : ChangeSpec := { name := "labelLoops", fn := fun _ => fun
  | [d1, d2] => { results := [.lit (.bool true)], args := [d1, d2] }
  | _ => none }
def labelLoopsRow : OpenClaim := { program := "ythphhllgpmageaa", sum := "c82c323d3364048cef7710d58ab77ef19de505dfe855c25e1765683bd745f3df", func := "abatis/abatislaw08.LabelLoops", spec := "labelLoops", inPlace := ["internal/bytealg.IndexByteString", "internal/bytealg.IndexString", "internal/abi.NoEscape", "internal/bytealg.MakeNoZero"], unfollowed := true, recurses := true, named := ["internal/bytealg.MaxLen"], apart := false }
def LabelLoopsSaid : Prop := labelLoopsRow.holds Try.pinned (OpenSpec.ofChange labelLoopsSpec)

/-- ITS FALSE NEIGHBOUR: 'it returns false'. Refute it at one input. -/
def labelLoopsWrong : ChangeSpec := { name := "labelLoops", fn := fun _ => fun
  | [d1, d2] => { results := [.lit (.bool false)], args := [d1, d2] }
  | _ => none }
def LabelLoopsWrongFalsely : Prop := labelLoopsRow.holds Try.pinned (OpenSpec.ofChange labelLoopsWrong)

/-- 'abatislaw08.LabelWrites': WHATEVER THE INPUT: true; the input reads as it did. -/
def labelWritesSpec : ChangeSpec := { name := "labelWrites", fn := fun _ => fun
  | [d1, d2] => { results := [.lit (.bool true)], args := [d1, d2] }
  | _ => none }
def labelWritesRow : OpenClaim := { program := "ythphhllgpmageaa", sum := "c82c323d3364048cef7710d58ab77ef19de505dfe855c25e1765683bd745f3df", func := "abatis/abatislaw08.LabelWrites", spec := "labelWrites", inPlace := ["internal/bytealg.IndexByteString", "internal/bytealg.IndexString", "internal/abi.NoEscape", "internal/bytealg.MakeNoZero"], unfollowed := true, recurses := true, named := ["internal/bytealg.MaxLen"], apart := false }
def LabelWritesSaid : Prop := labelWritesRow.holds Try.pinned (OpenSpec.ofChange labelWritesSpec)

/-- ITS FALSE NEIGHBOUR: 'it returns false'. Refute it at one input. -/
def labelWritesWrong : ChangeSpec := { name := "labelWrites", fn := fun _ => fun
  | [d1, d2] => { results := [.lit (.bool false)], args := [d1, d2] }
  | _ => none }
def LabelWritesWrongFalsely : Prop := labelWritesRow.holds Try.pinned (OpenSpec.ofChange labelWritesWrong)

/-- 'abatislaw08.LabelRound': WHATEVER THE INPUT: true; the input reads as it did. -/
def labelRoundSpec : ChangeSpec := { name := "labelRound", fn := fun _ => fun
  | [d1, d2, d3] => { results := [.lit (.bool true)], args := [d1, d2, d3] }
  | _ => none }
def labelRoundRow : OpenClaim := { program := "ythphhllgpmageaa", sum := "c82c323d3364048cef7710d58ab77ef19de505dfe855c25e1765683bd745f3df", func := "abatis/abatislaw08.LabelRound", spec := "labelRound", inPlace := ["internal/bytealg.IndexByteString", "internal/bytealg.IndexString", "internal/abi.NoEscape", "internal/bytealg.MakeNoZero"], unfollowed := true, recurses := true, named := ["internal/bytealg.MaxLen"], apart := false }
def LabelRoundSaid : Prop := labelRoundRow.holds Try.pinned (OpenSpec.ofChange labelRoundSpec)

/-- ITS FALSE NEIGHBOUR: 'it returns false'. Refute it at one input. -/
def labelRoundWrong : ChangeSpec := { name := "labelRound", fn := fun _ => fun
  | [d1, d2, d3] => { results := [.lit (.bool false)], args := [d1, d2, d3] }
  | _ => none }
def LabelRoundWrongFalsely : Prop := labelRoundRow.holds Try.pinned (OpenSpec.ofChange labelRoundWrong)

/- THE SECOND FORM. 'bulk': how many values and letters a reading holds, each counted each time it is reached (what is shared counts as often as it is met; a slice's spare places count too). A statement '..UptoSaid' is the law's where the arguments, and the package variables that the reading takes, are together of bulk at most 1048576: NARROWER than '..Said'. Prove '..Said' where nothing that the law and all that it calls make is longer than what came in: it says more and counts as full. Else prove '..UptoSaid'. A law counts once. -/
mutual
def uptoBulk {H : Type} : DataW H → Nat
  | .lit (.string bytes) => bytes.length + 1
  | .lit _ => 1
  | .nil => 1
  | .ptr d => uptoBulk d + 1
  | .slice elems spare => uptoBulkAll elems + uptoBulkAll spare + 1
  | .agg parts => uptoBulkAll parts + 1
  | .iface _ d => uptoBulk d + 1
  | .map entries => uptoBulkEntries entries + 1
  | .held _ => 1
def uptoBulkAll {H : Type} : List (DataW H) → Nat
  | [] => 0
  | d :: r => uptoBulk d + uptoBulkAll r
def uptoBulkEntries {H : Type} : List (Lit × DataW H) → Nat
  | [] => 0
  | x :: r => uptoBulkEntry x + uptoBulkEntries r
def uptoBulkEntry {H : Type} : Lit × DataW H → Nat
  | (.string bytes, d) => bytes.length + uptoBulk d + 1
  | (_, d) => uptoBulk d + 1
 end
def uptoSmall : (H : Type) → List (DataW H) → Bool := fun _ ds => decide (uptoBulkAll ds ≤ 1048576)
def OpenSpec.upto (s : _root_.Go.ChangeSpec) : _root_.Go.OpenSpec := { _root_.Go.OpenSpec.ofChange s with cond := some uptoSmall }

/-- 'abatislaw08.LabelNames', WHERE WHAT IT READS IS OF BULK AT MOST 1048576: true; the input reads as it did. -/
def labelNamesUptoRow : OpenClaim := { program := "ythphhllgpmageaa", sum := "c82c323d3364048cef7710d58ab77ef19de505dfe855c25e1765683bd745f3df", func := "abatis/abatislaw08.LabelNames", spec := "labelNames", inPlace := ["internal/bytealg.IndexByteString", "internal/bytealg.IndexString"], unfollowed := true, recurses := true, named := ["internal/bytealg.MaxLen"], apart := false, narrowed := true }
def LabelNamesUptoSaid : Prop := labelNamesUptoRow.holds Try.pinned (OpenSpec.upto labelNamesSpec)

/-- 'abatislaw08.LabelUnder', WHERE WHAT IT READS IS OF BULK AT MOST 1048576: true; the input reads as it did. -/
def labelUnderUptoRow : OpenClaim := { program := "ythphhllgpmageaa", sum := "c82c323d3364048cef7710d58ab77ef19de505dfe855c25e1765683bd745f3df", func := "abatis/abatislaw08.LabelUnder", spec := "labelUnder", inPlace := ["internal/bytealg.IndexByteString", "internal/bytealg.IndexString"], unfollowed := true, recurses := true, named := ["internal/bytealg.MaxLen"], apart := false, narrowed := true }
def LabelUnderUptoSaid : Prop := labelUnderUptoRow.holds Try.pinned (OpenSpec.upto labelUnderSpec)

/-- 'abatislaw08.LabelParents', WHERE WHAT IT READS IS OF BULK AT MOST 1048576: true; the input reads as it did. -/
def labelParentsUptoRow : OpenClaim := { program := "ythphhllgpmageaa", sum := "c82c323d3364048cef7710d58ab77ef19de505dfe855c25e1765683bd745f3df", func := "abatis/abatislaw08.LabelParents", spec := "labelParents", inPlace := ["internal/bytealg.IndexByteString", "internal/bytealg.IndexString"], unfollowed := true, recurses := true, named := ["internal/bytealg.MaxLen"], apart := false, narrowed := true }
def LabelParentsUptoSaid : Prop := labelParentsUptoRow.holds Try.pinned (OpenSpec.upto labelParentsSpec)

/-- 'abatislaw08.LabelReads', WHERE WHAT IT READS IS OF BULK AT MOST 1048576: true; the input reads as it did. -/
def labelReadsUptoRow : OpenClaim := { program := "ythphhllgpmageaa", sum := "c82c323d3364048cef7710d58ab77ef19de505dfe855c25e1765683bd745f3df", func := "abatis/abatislaw08.LabelReads", spec := "labelReads", inPlace := ["internal/bytealg.IndexByteString", "internal/bytealg.IndexString", "internal/abi.NoEscape", "internal/bytealg.MakeNoZero"], unfollowed := true, recurses := true, named := ["internal/bytealg.MaxLen"], apart := false, narrowed := true }
def LabelReadsUptoSaid : Prop := labelReadsUptoRow.holds Try.pinned (OpenSpec.upto labelReadsSpec)

/-- 'abatislaw08.LabelLoops', WHERE WHAT IT READS IS OF BULK AT MOST 1048576: true; the input reads as it did. -/
def labelLoopsUptoRow : OpenClaim := { program := "ythphhllgpmageaa", sum := "c82c323d3364048cef7710d58ab77ef19de505dfe855c25e1765683bd745f3df", func := "abatis/abatislaw08.LabelLoops", spec := "labelLoops", inPlace := ["internal/bytealg.IndexByteString", "internal/bytealg.IndexString", "internal/abi.NoEscape", "internal/bytealg.MakeNoZero"], unfollowed := true, recurses := true, named := ["internal/bytealg.MaxLen"], apart := false, narrowed := true }
def LabelLoopsUptoSaid : Prop := labelLoopsUptoRow.holds Try.pinned (OpenSpec.upto labelLoopsSpec)

/-- 'abatislaw08.LabelWrites', WHERE WHAT IT READS IS OF BULK AT MOST 1048576: true; the input reads as it did. -/
def labelWritesUptoRow : OpenClaim := { program := "ythphhllgpmageaa", sum := "c82c323d3364048cef7710d58ab77ef19de505dfe855c25e1765683bd745f3df", func := "abatis/abatislaw08.LabelWrites", spec := "labelWrites", inPlace := ["internal/bytealg.IndexByteString", "internal/bytealg.IndexString", "internal/abi.NoEscape", "internal/bytealg.MakeNoZero"], unfollowed := true, recurses := true, named := ["internal/bytealg.MaxLen"], apart := false, narrowed := true }
def LabelWritesUptoSaid : Prop := labelWritesUptoRow.holds Try.pinned (OpenSpec.upto labelWritesSpec)

/-- 'abatislaw08.LabelRound', WHERE WHAT IT READS IS OF BULK AT MOST 1048576: true; the input reads as it did. -/
def labelRoundUptoRow : OpenClaim := { program := "ythphhllgpmageaa", sum := "c82c323d3364048cef7710d58ab77ef19de505dfe855c25e1765683bd745f3df", func := "abatis/abatislaw08.LabelRound", spec := "labelRound", inPlace := ["internal/bytealg.IndexByteString", "internal/bytealg.IndexString", "internal/abi.NoEscape", "internal/bytealg.MakeNoZero"], unfollowed := true, recurses := true, named := ["internal/bytealg.MaxLen"], apart := false, narrowed := true }
def LabelRoundUptoSaid : Prop := labelRoundUptoRow.holds Try.pinned (OpenSpec.upto labelRoundSpec)

end Rows
end Go.Proofs.Ythphhllgpmageaa
