/-
  No cell of these rows narrows 'for every input' (looked for: loops, veiled, ifaces, maps, wideKeys, modest, calm, conditions, laid).
  DERIVED. THE GIVEN ROWS OF THIS SEAT. 3 by the template 'for every input the law returns true; each argument reads behind the call as it read before'; 0 by the template 'total and deterministic' (their statements: YtdjdhcljdcljoaaTotals.lean).
  GIVEN WITH THE SEED: the statements are not yours to turn. If you find one false, say at which input.
  Laid BY PROGRAM, IN A SANDBOX (cutbox-rows.mjs): the forced cells as the released guide's own fill.sh prints them over the translation acb3d6b9d8d8f3ea… (all of the seat's roots in one cut). By AI agents, Wed Nov 11 2026. No macro, syntax, notation, axiom, sorry.
-/
import Derived.Test.YtdjdhcljdcljoaaChecked
import GoSem.Claim
import GoSem.ClaimJoined
import GoSem.ClaimMapViews
import Derived.JoinedTies
import Derived.KernelRfl
namespace Go.Proofs.Ytdjdhcljdcljoaa
/- THE CELL 'sum', in the pinned program and in every row, IS THE sha256 OF THE DUMP (.gsa) THAT YtdjdhcljdcljoaaProg.lean LOADS. Nothing in Lean hashes anything: it is a label: what it is worth is what the hold of that sum in a sandbox is worth. -/
noncomputable def Try.pinned : Pinned := { name := "ytdjdhcljdcljoaa", sum := "acb3d6b9d8d8f3eaf65521e59d3453b51221ccc8072449a24f8d723e2ab95298", checked := Try.checked }
namespace Rows
def none {H : Type} : Left H := { results := [], args := [] }

/-- 'abatislaw02.FourLoose': WHATEVER THE INPUT: true; the input reads as it did. -/
def fourLooseSpec : ChangeSpec := { name := "fourLoose", fn := fun _ => fun
  | [d] => { results := [.lit (.bool true)], args := [d] }
  | _ => none }
def fourLooseRow : OpenClaim := { program := "ytdjdhcljdcljoaa", sum := "acb3d6b9d8d8f3eaf65521e59d3453b51221ccc8072449a24f8d723e2ab95298", func := "abatis/abatislaw02.FourLoose", spec := "fourLoose", unfollowed := true, recurses := true, apart := false }
def FourLooseSaid : Prop := fourLooseRow.holds Try.pinned (OpenSpec.ofChange fourLooseSpec)

/-- ITS FALSE NEIGHBOUR: 'it returns false'. Refute it at one input. -/
def fourLooseWrong : ChangeSpec := { name := "fourLoose", fn := fun _ => fun
  | [d] => { results := [.lit (.bool false)], args := [d] }
  | _ => none }
def FourLooseWrongFalsely : Prop := fourLooseRow.holds Try.pinned (OpenSpec.ofChange fourLooseWrong)

/-- 'abatislaw02.FourOne': WHATEVER THE INPUT: true; the input reads as it did. -/
def fourOneSpec : ChangeSpec := { name := "fourOne", fn := fun _ => fun
  | [d] => { results := [.lit (.bool true)], args := [d] }
  | _ => none }
def fourOneRow : OpenClaim := { program := "ytdjdhcljdcljoaa", sum := "acb3d6b9d8d8f3eaf65521e59d3453b51221ccc8072449a24f8d723e2ab95298", func := "abatis/abatislaw02.FourOne", spec := "fourOne", unfollowed := true, recurses := true, apart := false }
def FourOneSaid : Prop := fourOneRow.holds Try.pinned (OpenSpec.ofChange fourOneSpec)

/-- ITS FALSE NEIGHBOUR: 'it returns false'. Refute it at one input. -/
def fourOneWrong : ChangeSpec := { name := "fourOne", fn := fun _ => fun
  | [d] => { results := [.lit (.bool false)], args := [d] }
  | _ => none }
def FourOneWrongFalsely : Prop := fourOneRow.holds Try.pinned (OpenSpec.ofChange fourOneWrong)

/-- 'abatislaw02.FourJoins': WHATEVER THE INPUT: true; the input reads as it did. -/
def fourJoinsSpec : ChangeSpec := { name := "fourJoins", fn := fun _ => fun
  | [d1, d2, d3] => { results := [.lit (.bool true)], args := [d1, d2, d3] }
  | _ => none }
def fourJoinsRow : OpenClaim := { program := "ytdjdhcljdcljoaa", sum := "acb3d6b9d8d8f3eaf65521e59d3453b51221ccc8072449a24f8d723e2ab95298", func := "abatis/abatislaw02.FourJoins", spec := "fourJoins", unfollowed := true, recurses := true, apart := false }
def FourJoinsSaid : Prop := fourJoinsRow.holds Try.pinned (OpenSpec.ofChange fourJoinsSpec)

/-- ITS FALSE NEIGHBOUR: 'it returns false'. Refute it at one input. -/
def fourJoinsWrong : ChangeSpec := { name := "fourJoins", fn := fun _ => fun
  | [d1, d2, d3] => { results := [.lit (.bool false)], args := [d1, d2, d3] }
  | _ => none }
def FourJoinsWrongFalsely : Prop := fourJoinsRow.holds Try.pinned (OpenSpec.ofChange fourJoinsWrong)

/- THE SECOND FORM. 'bulk': how many values and letters a reading holds, each counted each time it is reached (what is shared counts as often as it is met; a slice's spare places count too). A statement '..UptoSaid' is the law's where the arguments, and the package variables that the reading takes, are together of bulk at most 1048576: NARROWER than '..Said'. Prove '..Said' where nothing that the law and all that it calls make is longer than what came in: it says more and counts as full. Else prove '..UptoSaid'. A law counts once. -/
mutual
def uptoBulk {H : Type} : DataW H → Nat
  | .lit (.string bytes) => bytes.length + 1
  | .lit _ => 1
  | .nil => 1
  | .ptr d => uptoBulk d + 1
  | .slice elems spare => uptoBulkAll elems + uptoBulkAll spare + 1
  | .agg parts => uptoBulkAll parts + 1
  | .iface _ d => uptoBulk d + 1
  | .map entries => uptoBulkEntries entries + 1
  | .held _ => 1
def uptoBulkAll {H : Type} : List (DataW H) → Nat
  | [] => 0
  | d :: r => uptoBulk d + uptoBulkAll r
def uptoBulkEntries {H : Type} : List (Lit × DataW H) → Nat
  | [] => 0
  | x :: r => uptoBulkEntry x + uptoBulkEntries r
def uptoBulkEntry {H : Type} : Lit × DataW H → Nat
  | (.string bytes, d) => bytes.length + uptoBulk d + 1
  | (_, d) => uptoBulk d + 1
 end
def uptoSmall : (H : Type) → List (DataW H) → Bool := fun _ ds => decide (uptoBulkAll ds ≤ 1048576)
def OpenSpec.upto (s : _root_.Go.ChangeSpec) : _root_.Go.OpenSpec := { _root_.Go.OpenSpec.ofChange s with cond := some uptoSmall }

/-- 'abatislaw02.FourLoose', WHERE WHAT IT READS IS OF BULK AT MOST 1048576: true; the input reads as it did. -/
def fourLooseUptoRow : OpenClaim := { program := "ytdjdhcljdcljoaa", sum := "acb3d6b9d8d8f3eaf65521e59d3453b51221ccc8072449a24f8d723e2ab95298", func := "abatis/abatislaw02.FourLoose", spec := "fourLoose", unfollowed := true, recurses := true, apart := false, narrowed := true }
def FourLooseUptoSaid : Prop := fourLooseUptoRow.holds Try.pinned (OpenSpec.upto fourLooseSpec)

/-- 'abatislaw02.FourOne', WHERE WHAT IT READS IS OF BULK AT MOST 1048576: true; the input reads as it did. -/
def fourOneUptoRow : OpenClaim := { program := "ytdjdhcljdcljoaa", sum := "acb3d6b9d8d8f3eaf65521e59d3453b51221ccc8072449a24f8d723e2ab95298", func := "abatis/abatislaw02.FourOne", spec := "fourOne", unfollowed := true, recurses := true, apart := false, narrowed := true }
def FourOneUptoSaid : Prop := fourOneUptoRow.holds Try.pinned (OpenSpec.upto fourOneSpec)

/-- 'abatislaw02.FourJoins', WHERE WHAT IT READS IS OF BULK AT MOST 1048576: true; the input reads as it did. -/
def fourJoinsUptoRow : OpenClaim := { program := "ytdjdhcljdcljoaa", sum := "acb3d6b9d8d8f3eaf65521e59d3453b51221ccc8072449a24f8d723e2ab95298", func := "abatis/abatislaw02.FourJoins", spec := "fourJoins", unfollowed := true, recurses := true, apart := false, narrowed := true }
def FourJoinsUptoSaid : Prop := fourJoinsUptoRow.holds Try.pinned (OpenSpec.upto fourJoinsSpec)

end Rows
end Go.Proofs.Ytdjdhcljdcljoaa
