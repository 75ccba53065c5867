/-
  No cell of these rows narrows 'for every input' (looked for: loops, veiled, ifaces, maps, wideKeys, modest, calm, conditions, laid).
  DERIVED. THE GIVEN ROWS OF THIS SEAT. 6 by the template 'for every input the law returns true; each argument reads behind the call as it read before'; 0 by the template 'total and deterministic' (their statements: YtmgemdgbffmnjaaTotals.lean).
  GIVEN WITH THE SEED: the statements are not yours to turn. If you find one false, say at which input.
  Laid BY PROGRAM, IN A SANDBOX (cutbox-rows.mjs): the forced cells as the released guide's own fill.sh prints them over the translation c3f81f3d1bc24478… (all of the seat's roots in one cut). By AI agents, Wed Nov 11 2026. No macro, syntax, notation, axiom, sorry.
-/
import Derived.Test.YtmgemdgbffmnjaaChecked
import GoSem.Claim
import GoSem.ClaimJoined
import GoSem.ClaimMapViews
import Derived.JoinedTies
import Derived.KernelRfl
namespace Go.Proofs.Ytmgemdgbffmnjaa
/- THE CELL 'sum', in the pinned program and in every row, IS THE sha256 OF THE DUMP (.gsa) THAT YtmgemdgbffmnjaaProg.lean LOADS. Nothing in Lean hashes anything: it is a label: what it is worth is what the hold of that sum in a sandbox is worth. -/
noncomputable def Try.pinned : Pinned := { name := "ytmgemdgbffmnjaa", sum := "c3f81f3d1bc24478cf5bd7ec028736cb3f7715014e9075632e4811c8f5697fa5", checked := Try.checked }
namespace Rows
def none {H : Type} : Left H := { results := [], args := [] }

/-- 'abatislaw09.WireMay': WHATEVER THE INPUT: true; the input reads as it did. -/
def wireMaySpec : ChangeSpec := { name := "wireMay", fn := fun _ => fun
  | [d] => { results := [.lit (.bool true)], args := [d] }
  | _ => none }
def wireMayRow : OpenClaim := { program := "ytmgemdgbffmnjaa", sum := "c3f81f3d1bc24478cf5bd7ec028736cb3f7715014e9075632e4811c8f5697fa5", func := "abatis/abatislaw09.WireMay", spec := "wireMay", inPlace := ["internal/bytealg.IndexByteString", "internal/bytealg.IndexString"], unfollowed := true, recurses := true, named := ["internal/bytealg.MaxLen"], apart := false }
def WireMaySaid : Prop := wireMayRow.holds Try.pinned (OpenSpec.ofChange wireMaySpec)

/-- ITS FALSE NEIGHBOUR: 'it returns false'. Refute it at one input. -/
def wireMayWrong : ChangeSpec := { name := "wireMay", fn := fun _ => fun
  | [d] => { results := [.lit (.bool false)], args := [d] }
  | _ => none }
def WireMayWrongFalsely : Prop := wireMayRow.holds Try.pinned (OpenSpec.ofChange wireMayWrong)

/-- 'abatislaw09.WireHead': WHATEVER THE INPUT: true; the input reads as it did. -/
def wireHeadSpec : ChangeSpec := { name := "wireHead", fn := fun _ => fun
  | [d] => { results := [.lit (.bool true)], args := [d] }
  | _ => none }
def wireHeadRow : OpenClaim := { program := "ytmgemdgbffmnjaa", sum := "c3f81f3d1bc24478cf5bd7ec028736cb3f7715014e9075632e4811c8f5697fa5", func := "abatis/abatislaw09.WireHead", spec := "wireHead", inPlace := ["internal/bytealg.IndexByteString", "internal/bytealg.IndexString"], unfollowed := true, recurses := true, named := ["internal/bytealg.MaxLen"], apart := false }
def WireHeadSaid : Prop := wireHeadRow.holds Try.pinned (OpenSpec.ofChange wireHeadSpec)

/-- ITS FALSE NEIGHBOUR: 'it returns false'. Refute it at one input. -/
def wireHeadWrong : ChangeSpec := { name := "wireHead", fn := fun _ => fun
  | [d] => { results := [.lit (.bool false)], args := [d] }
  | _ => none }
def WireHeadWrongFalsely : Prop := wireHeadRow.holds Try.pinned (OpenSpec.ofChange wireHeadWrong)

/-- 'abatislaw09.WireSmall': WHATEVER THE INPUT: true; the input reads as it did. -/
def wireSmallSpec : ChangeSpec := { name := "wireSmall", fn := fun _ => fun
  | [d1, d2] => { results := [.lit (.bool true)], args := [d1, d2] }
  | _ => none }
def wireSmallRow : OpenClaim := { program := "ytmgemdgbffmnjaa", sum := "c3f81f3d1bc24478cf5bd7ec028736cb3f7715014e9075632e4811c8f5697fa5", func := "abatis/abatislaw09.WireSmall", spec := "wireSmall", inPlace := ["internal/bytealg.IndexByteString", "internal/bytealg.IndexString"], unfollowed := true, recurses := true, named := ["internal/bytealg.MaxLen"], apart := false }
def WireSmallSaid : Prop := wireSmallRow.holds Try.pinned (OpenSpec.ofChange wireSmallSpec)

/-- ITS FALSE NEIGHBOUR: 'it returns false'. Refute it at one input. -/
def wireSmallWrong : ChangeSpec := { name := "wireSmall", fn := fun _ => fun
  | [d1, d2] => { results := [.lit (.bool false)], args := [d1, d2] }
  | _ => none }
def WireSmallWrongFalsely : Prop := wireSmallRow.holds Try.pinned (OpenSpec.ofChange wireSmallWrong)

/-- 'abatislaw09.WireAsks': WHATEVER THE INPUT: true; the input reads as it did. -/
def wireAsksSpec : ChangeSpec := { name := "wireAsks", fn := fun _ => fun
  | [d1, d2, d3, d4] => { results := [.lit (.bool true)], args := [d1, d2, d3, d4] }
  | _ => none }
def wireAsksRow : OpenClaim := { program := "ytmgemdgbffmnjaa", sum := "c3f81f3d1bc24478cf5bd7ec028736cb3f7715014e9075632e4811c8f5697fa5", func := "abatis/abatislaw09.WireAsks", spec := "wireAsks", inPlace := ["internal/bytealg.IndexByteString", "internal/bytealg.IndexString"], unfollowed := true, recurses := true, named := ["internal/bytealg.MaxLen"], apart := false }
def WireAsksSaid : Prop := wireAsksRow.holds Try.pinned (OpenSpec.ofChange wireAsksSpec)

/-- ITS FALSE NEIGHBOUR: 'it returns false'. Refute it at one input. -/
def wireAsksWrong : ChangeSpec := { name := "wireAsks", fn := fun _ => fun
  | [d1, d2, d3, d4] => { results := [.lit (.bool false)], args := [d1, d2, d3, d4] }
  | _ => none }
def WireAsksWrongFalsely : Prop := wireAsksRow.holds Try.pinned (OpenSpec.ofChange wireAsksWrong)

/-- 'abatislaw09.WireAgain': WHATEVER THE INPUT: true; the input reads as it did. -/
def wireAgainSpec : ChangeSpec := { name := "wireAgain", fn := fun _ => fun
  | [d1, d2, d3, d4] => { results := [.lit (.bool true)], args := [d1, d2, d3, d4] }
  | _ => none }
def wireAgainRow : OpenClaim := { program := "ytmgemdgbffmnjaa", sum := "c3f81f3d1bc24478cf5bd7ec028736cb3f7715014e9075632e4811c8f5697fa5", func := "abatis/abatislaw09.WireAgain", spec := "wireAgain", inPlace := ["internal/bytealg.IndexByteString", "internal/bytealg.IndexString", "internal/abi.NoEscape", "internal/bytealg.MakeNoZero"], unfollowed := true, recurses := true, named := ["internal/bytealg.MaxLen"], apart := false }
def WireAgainSaid : Prop := wireAgainRow.holds Try.pinned (OpenSpec.ofChange wireAgainSpec)

/-- ITS FALSE NEIGHBOUR: 'it returns false'. Refute it at one input. -/
def wireAgainWrong : ChangeSpec := { name := "wireAgain", fn := fun _ => fun
  | [d1, d2, d3, d4] => { results := [.lit (.bool false)], args := [d1, d2, d3, d4] }
  | _ => none }
def WireAgainWrongFalsely : Prop := wireAgainRow.holds Try.pinned (OpenSpec.ofChange wireAgainWrong)

/-- 'abatislaw09.WireRound': WHATEVER THE INPUT: true; the input reads as it did. -/
def wireRoundSpec : ChangeSpec := { name := "wireRound", fn := fun _ => fun
  | [d] => { results := [.lit (.bool true)], args := [d] }
  | _ => none }
def wireRoundRow : OpenClaim := { program := "ytmgemdgbffmnjaa", sum := "c3f81f3d1bc24478cf5bd7ec028736cb3f7715014e9075632e4811c8f5697fa5", func := "abatis/abatislaw09.WireRound", spec := "wireRound", inPlace := ["internal/bytealg.IndexByteString", "internal/bytealg.IndexString", "internal/abi.NoEscape", "internal/bytealg.MakeNoZero"], unfollowed := true, recurses := true, named := ["internal/bytealg.MaxLen"], apart := false }
def WireRoundSaid : Prop := wireRoundRow.holds Try.pinned (OpenSpec.ofChange wireRoundSpec)

/-- ITS FALSE NEIGHBOUR: 'it returns false'. Refute it at one input. -/
def wireRoundWrong : ChangeSpec := { name := "wireRound", fn := fun _ => fun
  | [d] => { results := [.lit (.bool false)], args := [d] }
  | _ => none }
def WireRoundWrongFalsely : Prop := wireRoundRow.holds Try.pinned (OpenSpec.ofChange wireRoundWrong)

/- THE SECOND FORM. 'bulk': how many values and letters a reading holds, each counted each time it is reached (what is shared counts as often as it is met; a slice's spare places count too). A statement '..UptoSaid' is the law's where the arguments, and the package variables that the reading takes, are together of bulk at most 1048576: NARROWER than '..Said'. Prove '..Said' where nothing that the law and all that it calls make is longer than what came in: it says more and counts as full. Else prove '..UptoSaid'. A law counts once. -/
mutual
def uptoBulk {H : Type} : DataW H → Nat
  | .lit (.string bytes) => bytes.length + 1
  | .lit _ => 1
  | .nil => 1
  | .ptr d => uptoBulk d + 1
  | .slice elems spare => uptoBulkAll elems + uptoBulkAll spare + 1
  | .agg parts => uptoBulkAll parts + 1
  | .iface _ d => uptoBulk d + 1
  | .map entries => uptoBulkEntries entries + 1
  | .held _ => 1
def uptoBulkAll {H : Type} : List (DataW H) → Nat
  | [] => 0
  | d :: r => uptoBulk d + uptoBulkAll r
def uptoBulkEntries {H : Type} : List (Lit × DataW H) → Nat
  | [] => 0
  | x :: r => uptoBulkEntry x + uptoBulkEntries r
def uptoBulkEntry {H : Type} : Lit × DataW H → Nat
  | (.string bytes, d) => bytes.length + uptoBulk d + 1
  | (_, d) => uptoBulk d + 1
 end
def uptoSmall : (H : Type) → List (DataW H) → Bool := fun _ ds => decide (uptoBulkAll ds ≤ 1048576)
def OpenSpec.upto (s : _root_.Go.ChangeSpec) : _root_.Go.OpenSpec := { _root_.Go.OpenSpec.ofChange s with cond := some uptoSmall }

/-- 'abatislaw09.WireMay', WHERE WHAT IT READS IS OF BULK AT MOST 1048576: true; the input reads as it did. -/
def wireMayUptoRow : OpenClaim := { program := "ytmgemdgbffmnjaa", sum := "c3f81f3d1bc24478cf5bd7ec028736cb3f7715014e9075632e4811c8f5697fa5", func := "abatis/abatislaw09.WireMay", spec := "wireMay", inPlace := ["internal/bytealg.IndexByteString", "internal/bytealg.IndexString"], unfollowed := true, recurses := true, named := ["internal/bytealg.MaxLen"], apart := false, narrowed := true }
def WireMayUptoSaid : Prop := wireMayUptoRow.holds Try.pinned (OpenSpec.upto wireMaySpec)

/-- 'abatislaw09.WireHead', WHERE WHAT IT READS IS OF BULK AT MOST 1048576: true; the input reads as it did. -/
def wireHeadUptoRow : OpenClaim := { program := "ytmgemdgbffmnjaa", sum := "c3f81f3d1bc24478cf5bd7ec028736cb3f7715014e9075632e4811c8f5697fa5", func := "abatis/abatislaw09.WireHead", spec := "wireHead", inPlace := ["internal/bytealg.IndexByteString", "internal/bytealg.IndexString"], unfollowed := true, recurses := true, named := ["internal/bytealg.MaxLen"], apart := false, narrowed := true }
def WireHeadUptoSaid : Prop := wireHeadUptoRow.holds Try.pinned (OpenSpec.upto wireHeadSpec)

/-- 'abatislaw09.WireSmall', WHERE WHAT IT READS IS OF BULK AT MOST 1048576: true; the input reads as it did. -/
def wireSmallUptoRow : OpenClaim := { program := "ytmgemdgbffmnjaa", sum := "c3f81f3d1bc24478cf5bd7ec028736cb3f7715014e9075632e4811c8f5697fa5", func := "abatis/abatislaw09.WireSmall", spec := "wireSmall", inPlace := ["internal/bytealg.IndexByteString", "internal/bytealg.IndexString"], unfollowed := true, recurses := true, named := ["internal/bytealg.MaxLen"], apart := false, narrowed := true }
def WireSmallUptoSaid : Prop := wireSmallUptoRow.holds Try.pinned (OpenSpec.upto wireSmallSpec)

/-- 'abatislaw09.WireAsks', WHERE WHAT IT READS IS OF BULK AT MOST 1048576: true; the input reads as it did. -/
def wireAsksUptoRow : OpenClaim := { program := "ytmgemdgbffmnjaa", sum := "c3f81f3d1bc24478cf5bd7ec028736cb3f7715014e9075632e4811c8f5697fa5", func := "abatis/abatislaw09.WireAsks", spec := "wireAsks", inPlace := ["internal/bytealg.IndexByteString", "internal/bytealg.IndexString"], unfollowed := true, recurses := true, named := ["internal/bytealg.MaxLen"], apart := false, narrowed := true }
def WireAsksUptoSaid : Prop := wireAsksUptoRow.holds Try.pinned (OpenSpec.upto wireAsksSpec)

/-- 'abatislaw09.WireAgain', WHERE WHAT IT READS IS OF BULK AT MOST 1048576: true; the input reads as it did. -/
def wireAgainUptoRow : OpenClaim := { program := "ytmgemdgbffmnjaa", sum := "c3f81f3d1bc24478cf5bd7ec028736cb3f7715014e9075632e4811c8f5697fa5", func := "abatis/abatislaw09.WireAgain", spec := "wireAgain", inPlace := ["internal/bytealg.IndexByteString", "internal/bytealg.IndexString", "internal/abi.NoEscape", "internal/bytealg.MakeNoZero"], unfollowed := true, recurses := true, named := ["internal/bytealg.MaxLen"], apart := false, narrowed := true }
def WireAgainUptoSaid : Prop := wireAgainUptoRow.holds Try.pinned (OpenSpec.upto wireAgainSpec)

/-- 'abatislaw09.WireRound', WHERE WHAT IT READS IS OF BULK AT MOST 1048576: true; the input reads as it did. -/
def wireRoundUptoRow : OpenClaim := { program := "ytmgemdgbffmnjaa", sum := "c3f81f3d1bc24478cf5bd7ec028736cb3f7715014e9075632e4811c8f5697fa5", func := "abatis/abatislaw09.WireRound", spec := "wireRound", inPlace := ["internal/bytealg.IndexByteString", "internal/bytealg.IndexString", "internal/abi.NoEscape", "internal/bytealg.MakeNoZero"], unfollowed := true, recurses := true, named := ["internal/bytealg.MaxLen"], apart := false, narrowed := true }
def WireRoundUptoSaid : Prop := wireRoundUptoRow.holds Try.pinned (OpenSpec.upto wireRoundSpec)

end Rows
end Go.Proofs.Ytmgemdgbffmnjaa
