/-
  No cell of these rows narrows 'for every input' (looked for: loops, veiled, ifaces, maps, wideKeys, modest, calm, conditions, laid).
  DERIVED. THE GIVEN ROWS OF THIS SEAT. 5 by the template 'for every input the law returns true; each argument reads behind the call as it read before'; 0 by the template 'total and deterministic' (their statements: YtjjkidldccebjaaTotals.lean).
  GIVEN WITH THE SEED: the statements are not yours to turn. If you find one false, say at which input.
  Laid BY PROGRAM, IN A SANDBOX (cutbox-rows.mjs): the forced cells as the released guide's own fill.sh prints them over the translation aeb6d38951eb9f1a… (all of the seat's roots in one cut). By AI agents, Wed Nov 11 2026. No macro, syntax, notation, axiom, sorry.
-/
import Derived.Test.YtjjkidldccebjaaChecked
import GoSem.Claim
import GoSem.ClaimJoined
import GoSem.ClaimMapViews
import Derived.JoinedTies
import Derived.KernelRfl
namespace Go.Proofs.Ytjjkidldccebjaa
/- THE CELL 'sum', in the pinned program and in every row, IS THE sha256 OF THE DUMP (.gsa) THAT YtjjkidldccebjaaProg.lean LOADS. Nothing in Lean hashes anything: it is a label: what it is worth is what the hold of that sum in a sandbox is worth. -/
noncomputable def Try.pinned : Pinned := { name := "ytjjkidldccebjaa", sum := "aeb6d38951eb9f1a70ea5de06edc5e947dac15ea34eea36916e6fecbd8c41680", checked := Try.checked }
namespace Rows
def none {H : Type} : Left H := { results := [], args := [] }

/-- 'abatislaw18.GrantRow': WHATEVER THE INPUT: true; the input reads as it did. -/
def grantRowSpec : ChangeSpec := { name := "grantRow", fn := fun _ => fun
  | [d1, d2, d3] => { results := [.lit (.bool true)], args := [d1, d2, d3] }
  | _ => none }
def grantRowRow : OpenClaim := { program := "ytjjkidldccebjaa", sum := "aeb6d38951eb9f1a70ea5de06edc5e947dac15ea34eea36916e6fecbd8c41680", func := "abatis/abatislaw18.GrantRow", spec := "grantRow", inPlace := ["internal/bytealg.Compare"], unfollowed := true, recurses := true, plainKeys := false, apart := false }
def GrantRowSaid : Prop := grantRowRow.holds Try.pinned (OpenSpec.ofChange grantRowSpec)

/-- ITS FALSE NEIGHBOUR: 'it returns false'. Refute it at one input. -/
def grantRowWrong : ChangeSpec := { name := "grantRow", fn := fun _ => fun
  | [d1, d2, d3] => { results := [.lit (.bool false)], args := [d1, d2, d3] }
  | _ => none }
def GrantRowWrongFalsely : Prop := grantRowRow.holds Try.pinned (OpenSpec.ofChange grantRowWrong)

/-- 'abatislaw18.GrantOnce': WHATEVER THE INPUT: true; the input reads as it did. -/
def grantOnceSpec : ChangeSpec := { name := "grantOnce", fn := fun _ => fun
  | [d1, d2, d3, d4] => { results := [.lit (.bool true)], args := [d1, d2, d3, d4] }
  | _ => none }
def grantOnceRow : OpenClaim := { program := "ytjjkidldccebjaa", sum := "aeb6d38951eb9f1a70ea5de06edc5e947dac15ea34eea36916e6fecbd8c41680", func := "abatis/abatislaw18.GrantOnce", spec := "grantOnce", inPlace := ["internal/bytealg.Compare"], unfollowed := true, recurses := true, plainKeys := false, apart := false }
def GrantOnceSaid : Prop := grantOnceRow.holds Try.pinned (OpenSpec.ofChange grantOnceSpec)

/-- ITS FALSE NEIGHBOUR: 'it returns false'. Refute it at one input. -/
def grantOnceWrong : ChangeSpec := { name := "grantOnce", fn := fun _ => fun
  | [d1, d2, d3, d4] => { results := [.lit (.bool false)], args := [d1, d2, d3, d4] }
  | _ => none }
def GrantOnceWrongFalsely : Prop := grantOnceRow.holds Try.pinned (OpenSpec.ofChange grantOnceWrong)

/-- 'abatislaw18.GrantLets': WHATEVER THE INPUT: true; the input reads as it did. -/
def grantLetsSpec : ChangeSpec := { name := "grantLets", fn := fun _ => fun
  | [d1, d2] => { results := [.lit (.bool true)], args := [d1, d2] }
  | _ => none }
def grantLetsRow : OpenClaim := { program := "ytjjkidldccebjaa", sum := "aeb6d38951eb9f1a70ea5de06edc5e947dac15ea34eea36916e6fecbd8c41680", func := "abatis/abatislaw18.GrantLets", spec := "grantLets", inPlace := ["internal/bytealg.Compare"], unfollowed := true, recurses := true, plainKeys := false, apart := false }
def GrantLetsSaid : Prop := grantLetsRow.holds Try.pinned (OpenSpec.ofChange grantLetsSpec)

/-- ITS FALSE NEIGHBOUR: 'it returns false'. Refute it at one input. -/
def grantLetsWrong : ChangeSpec := { name := "grantLets", fn := fun _ => fun
  | [d1, d2] => { results := [.lit (.bool false)], args := [d1, d2] }
  | _ => none }
def GrantLetsWrongFalsely : Prop := grantLetsRow.holds Try.pinned (OpenSpec.ofChange grantLetsWrong)

/-- 'abatislaw18.GrantDrops': WHATEVER THE INPUT: true; the input reads as it did. -/
def grantDropsSpec : ChangeSpec := { name := "grantDrops", fn := fun _ => fun
  | [d1, d2, d3] => { results := [.lit (.bool true)], args := [d1, d2, d3] }
  | _ => none }
def grantDropsRow : OpenClaim := { program := "ytjjkidldccebjaa", sum := "aeb6d38951eb9f1a70ea5de06edc5e947dac15ea34eea36916e6fecbd8c41680", func := "abatis/abatislaw18.GrantDrops", spec := "grantDrops", inPlace := ["internal/bytealg.Compare"], unfollowed := true, recurses := true, plainKeys := false, apart := false }
def GrantDropsSaid : Prop := grantDropsRow.holds Try.pinned (OpenSpec.ofChange grantDropsSpec)

/-- ITS FALSE NEIGHBOUR: 'it returns false'. Refute it at one input. -/
def grantDropsWrong : ChangeSpec := { name := "grantDrops", fn := fun _ => fun
  | [d1, d2, d3] => { results := [.lit (.bool false)], args := [d1, d2, d3] }
  | _ => none }
def GrantDropsWrongFalsely : Prop := grantDropsRow.holds Try.pinned (OpenSpec.ofChange grantDropsWrong)

/-- 'abatislaw18.GrantPlays': WHATEVER THE INPUT: true; the input reads as it did. -/
def grantPlaysSpec : ChangeSpec := { name := "grantPlays", fn := fun _ => fun
  | [d1, d2] => { results := [.lit (.bool true)], args := [d1, d2] }
  | _ => none }
def grantPlaysRow : OpenClaim := { program := "ytjjkidldccebjaa", sum := "aeb6d38951eb9f1a70ea5de06edc5e947dac15ea34eea36916e6fecbd8c41680", func := "abatis/abatislaw18.GrantPlays", spec := "grantPlays", inPlace := ["internal/bytealg.Compare"], unfollowed := true, recurses := true, plainKeys := false, apart := false }
def GrantPlaysSaid : Prop := grantPlaysRow.holds Try.pinned (OpenSpec.ofChange grantPlaysSpec)

/-- ITS FALSE NEIGHBOUR: 'it returns false'. Refute it at one input. -/
def grantPlaysWrong : ChangeSpec := { name := "grantPlays", fn := fun _ => fun
  | [d1, d2] => { results := [.lit (.bool false)], args := [d1, d2] }
  | _ => none }
def GrantPlaysWrongFalsely : Prop := grantPlaysRow.holds Try.pinned (OpenSpec.ofChange grantPlaysWrong)

/- THE SECOND FORM. 'bulk': how many values and letters a reading holds, each counted each time it is reached (what is shared counts as often as it is met; a slice's spare places count too). A statement '..UptoSaid' is the law's where the arguments, and the package variables that the reading takes, are together of bulk at most 1048576: NARROWER than '..Said'. Prove '..Said' where nothing that the law and all that it calls make is longer than what came in: it says more and counts as full. Else prove '..UptoSaid'. A law counts once. -/
mutual
def uptoBulk {H : Type} : DataW H → Nat
  | .lit (.string bytes) => bytes.length + 1
  | .lit _ => 1
  | .nil => 1
  | .ptr d => uptoBulk d + 1
  | .slice elems spare => uptoBulkAll elems + uptoBulkAll spare + 1
  | .agg parts => uptoBulkAll parts + 1
  | .iface _ d => uptoBulk d + 1
  | .map entries => uptoBulkEntries entries + 1
  | .held _ => 1
def uptoBulkAll {H : Type} : List (DataW H) → Nat
  | [] => 0
  | d :: r => uptoBulk d + uptoBulkAll r
def uptoBulkEntries {H : Type} : List (Lit × DataW H) → Nat
  | [] => 0
  | x :: r => uptoBulkEntry x + uptoBulkEntries r
def uptoBulkEntry {H : Type} : Lit × DataW H → Nat
  | (.string bytes, d) => bytes.length + uptoBulk d + 1
  | (_, d) => uptoBulk d + 1
 end
def uptoSmall : (H : Type) → List (DataW H) → Bool := fun _ ds => decide (uptoBulkAll ds ≤ 1048576)
def OpenSpec.upto (s : _root_.Go.ChangeSpec) : _root_.Go.OpenSpec := { _root_.Go.OpenSpec.ofChange s with cond := some uptoSmall }

/-- 'abatislaw18.GrantRow', WHERE WHAT IT READS IS OF BULK AT MOST 1048576: true; the input reads as it did. -/
def grantRowUptoRow : OpenClaim := { program := "ytjjkidldccebjaa", sum := "aeb6d38951eb9f1a70ea5de06edc5e947dac15ea34eea36916e6fecbd8c41680", func := "abatis/abatislaw18.GrantRow", spec := "grantRow", inPlace := ["internal/bytealg.Compare"], unfollowed := true, recurses := true, plainKeys := false, apart := false, narrowed := true }
def GrantRowUptoSaid : Prop := grantRowUptoRow.holds Try.pinned (OpenSpec.upto grantRowSpec)

/-- 'abatislaw18.GrantOnce', WHERE WHAT IT READS IS OF BULK AT MOST 1048576: true; the input reads as it did. -/
def grantOnceUptoRow : OpenClaim := { program := "ytjjkidldccebjaa", sum := "aeb6d38951eb9f1a70ea5de06edc5e947dac15ea34eea36916e6fecbd8c41680", func := "abatis/abatislaw18.GrantOnce", spec := "grantOnce", inPlace := ["internal/bytealg.Compare"], unfollowed := true, recurses := true, plainKeys := false, apart := false, narrowed := true }
def GrantOnceUptoSaid : Prop := grantOnceUptoRow.holds Try.pinned (OpenSpec.upto grantOnceSpec)

/-- 'abatislaw18.GrantLets', WHERE WHAT IT READS IS OF BULK AT MOST 1048576: true; the input reads as it did. -/
def grantLetsUptoRow : OpenClaim := { program := "ytjjkidldccebjaa", sum := "aeb6d38951eb9f1a70ea5de06edc5e947dac15ea34eea36916e6fecbd8c41680", func := "abatis/abatislaw18.GrantLets", spec := "grantLets", inPlace := ["internal/bytealg.Compare"], unfollowed := true, recurses := true, plainKeys := false, apart := false, narrowed := true }
def GrantLetsUptoSaid : Prop := grantLetsUptoRow.holds Try.pinned (OpenSpec.upto grantLetsSpec)

/-- 'abatislaw18.GrantDrops', WHERE WHAT IT READS IS OF BULK AT MOST 1048576: true; the input reads as it did. -/
def grantDropsUptoRow : OpenClaim := { program := "ytjjkidldccebjaa", sum := "aeb6d38951eb9f1a70ea5de06edc5e947dac15ea34eea36916e6fecbd8c41680", func := "abatis/abatislaw18.GrantDrops", spec := "grantDrops", inPlace := ["internal/bytealg.Compare"], unfollowed := true, recurses := true, plainKeys := false, apart := false, narrowed := true }
def GrantDropsUptoSaid : Prop := grantDropsUptoRow.holds Try.pinned (OpenSpec.upto grantDropsSpec)

/-- 'abatislaw18.GrantPlays', WHERE WHAT IT READS IS OF BULK AT MOST 1048576: true; the input reads as it did. -/
def grantPlaysUptoRow : OpenClaim := { program := "ytjjkidldccebjaa", sum := "aeb6d38951eb9f1a70ea5de06edc5e947dac15ea34eea36916e6fecbd8c41680", func := "abatis/abatislaw18.GrantPlays", spec := "grantPlays", inPlace := ["internal/bytealg.Compare"], unfollowed := true, recurses := true, plainKeys := false, apart := false, narrowed := true }
def GrantPlaysUptoSaid : Prop := grantPlaysUptoRow.holds Try.pinned (OpenSpec.upto grantPlaysSpec)

end Rows
end Go.Proofs.Ytjjkidldccebjaa
