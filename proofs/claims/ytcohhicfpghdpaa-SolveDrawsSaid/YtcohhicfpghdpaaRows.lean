/-
  No cell of these rows narrows 'for every input' (looked for: loops, veiled, ifaces, maps, wideKeys, modest, calm, conditions, laid).
  DERIVED. THE GIVEN ROWS OF THIS SEAT. 2 by the template 'for every input the law returns true; each argument reads behind the call as it read before'; 0 by the template 'total and deterministic' (their statements: YtcohhicfpghdpaaTotals.lean).
  GIVEN WITH THE SEED: the statements are not yours to turn. If you find one false, say at which input.
  Laid BY PROGRAM, IN A SANDBOX (cutbox-rows.mjs): the forced cells as the released guide's own fill.sh prints them over the translation e7a56afbac9e55aa… (all of the seat's roots in one cut). By AI agents, Wed Nov 11 2026. No macro, syntax, notation, axiom, sorry.
-/
import Derived.Test.YtcohhicfpghdpaaChecked
import GoSem.Claim
import GoSem.ClaimJoined
import GoSem.ClaimMapViews
import Derived.JoinedTies
import Derived.KernelRfl
namespace Go.Proofs.Ytcohhicfpghdpaa
/- THE CELL 'sum', in the pinned program and in every row, IS THE sha256 OF THE DUMP (.gsa) THAT YtcohhicfpghdpaaProg.lean LOADS. Nothing in Lean hashes anything: it is a label: what it is worth is what the hold of that sum in a sandbox is worth. -/
noncomputable def Try.pinned : Pinned := { name := "ytcohhicfpghdpaa", sum := "e7a56afbac9e55aae50028bce00cd9b78e07ac730c2605712e30f1eb4827b13b", checked := Try.checked }
namespace Rows
def none {H : Type} : Left H := { results := [], args := [] }

/-- 'abatislaw12.SolveFull': WHATEVER THE INPUT: true; the input reads as it did. -/
def solveFullSpec : ChangeSpec := { name := "solveFull", fn := fun _ => fun
  | [d1, d2] => { results := [.lit (.bool true)], args := [d1, d2] }
  | _ => none }
def solveFullRow : OpenClaim := { program := "ytcohhicfpghdpaa", sum := "e7a56afbac9e55aae50028bce00cd9b78e07ac730c2605712e30f1eb4827b13b", func := "abatis/abatislaw12.SolveFull", spec := "solveFull", unfollowed := true, recurses := true, plainKeys := false, apart := false }
def SolveFullSaid : Prop := solveFullRow.holds Try.pinned (OpenSpec.ofChange solveFullSpec)

/-- ITS FALSE NEIGHBOUR: 'it returns false'. Refute it at one input. -/
def solveFullWrong : ChangeSpec := { name := "solveFull", fn := fun _ => fun
  | [d1, d2] => { results := [.lit (.bool false)], args := [d1, d2] }
  | _ => none }
def SolveFullWrongFalsely : Prop := solveFullRow.holds Try.pinned (OpenSpec.ofChange solveFullWrong)

/-- 'abatislaw12.SolveDraws': WHATEVER THE INPUT: true; the input reads as it did. -/
def solveDrawsSpec : ChangeSpec := { name := "solveDraws", fn := fun _ => fun
  | [d1, d2, d3] => { results := [.lit (.bool true)], args := [d1, d2, d3] }
  | _ => none }
def solveDrawsRow : OpenClaim := { program := "ytcohhicfpghdpaa", sum := "e7a56afbac9e55aae50028bce00cd9b78e07ac730c2605712e30f1eb4827b13b", func := "abatis/abatislaw12.SolveDraws", spec := "solveDraws", unfollowed := true, recurses := true, plainKeys := false, apart := false }
def SolveDrawsSaid : Prop := solveDrawsRow.holds Try.pinned (OpenSpec.ofChange solveDrawsSpec)

/-- ITS FALSE NEIGHBOUR: 'it returns false'. Refute it at one input. -/
def solveDrawsWrong : ChangeSpec := { name := "solveDraws", fn := fun _ => fun
  | [d1, d2, d3] => { results := [.lit (.bool false)], args := [d1, d2, d3] }
  | _ => none }
def SolveDrawsWrongFalsely : Prop := solveDrawsRow.holds Try.pinned (OpenSpec.ofChange solveDrawsWrong)

/- THE SECOND FORM. 'bulk': how many values and letters a reading holds, each counted each time it is reached (what is shared counts as often as it is met; a slice's spare places count too). A statement '..UptoSaid' is the law's where the arguments, and the package variables that the reading takes, are together of bulk at most 1048576: NARROWER than '..Said'. Prove '..Said' where nothing that the law and all that it calls make is longer than what came in: it says more and counts as full. Else prove '..UptoSaid'. A law counts once. -/
mutual
def uptoBulk {H : Type} : DataW H → Nat
  | .lit (.string bytes) => bytes.length + 1
  | .lit _ => 1
  | .nil => 1
  | .ptr d => uptoBulk d + 1
  | .slice elems spare => uptoBulkAll elems + uptoBulkAll spare + 1
  | .agg parts => uptoBulkAll parts + 1
  | .iface _ d => uptoBulk d + 1
  | .map entries => uptoBulkEntries entries + 1
  | .held _ => 1
def uptoBulkAll {H : Type} : List (DataW H) → Nat
  | [] => 0
  | d :: r => uptoBulk d + uptoBulkAll r
def uptoBulkEntries {H : Type} : List (Lit × DataW H) → Nat
  | [] => 0
  | x :: r => uptoBulkEntry x + uptoBulkEntries r
def uptoBulkEntry {H : Type} : Lit × DataW H → Nat
  | (.string bytes, d) => bytes.length + uptoBulk d + 1
  | (_, d) => uptoBulk d + 1
 end
def uptoSmall : (H : Type) → List (DataW H) → Bool := fun _ ds => decide (uptoBulkAll ds ≤ 1048576)
def OpenSpec.upto (s : _root_.Go.ChangeSpec) : _root_.Go.OpenSpec := { _root_.Go.OpenSpec.ofChange s with cond := some uptoSmall }

/-- 'abatislaw12.SolveFull', WHERE WHAT IT READS IS OF BULK AT MOST 1048576: true; the input reads as it did. -/
def solveFullUptoRow : OpenClaim := { program := "ytcohhicfpghdpaa", sum := "e7a56afbac9e55aae50028bce00cd9b78e07ac730c2605712e30f1eb4827b13b", func := "abatis/abatislaw12.SolveFull", spec := "solveFull", unfollowed := true, recurses := true, plainKeys := false, apart := false, narrowed := true }
def SolveFullUptoSaid : Prop := solveFullUptoRow.holds Try.pinned (OpenSpec.upto solveFullSpec)

/-- 'abatislaw12.SolveDraws', WHERE WHAT IT READS IS OF BULK AT MOST 1048576: true; the input reads as it did. -/
def solveDrawsUptoRow : OpenClaim := { program := "ytcohhicfpghdpaa", sum := "e7a56afbac9e55aae50028bce00cd9b78e07ac730c2605712e30f1eb4827b13b", func := "abatis/abatislaw12.SolveDraws", spec := "solveDraws", unfollowed := true, recurses := true, plainKeys := false, apart := false, narrowed := true }
def SolveDrawsUptoSaid : Prop := solveDrawsUptoRow.holds Try.pinned (OpenSpec.upto solveDrawsSpec)

end Rows
end Go.Proofs.Ytcohhicfpghdpaa
