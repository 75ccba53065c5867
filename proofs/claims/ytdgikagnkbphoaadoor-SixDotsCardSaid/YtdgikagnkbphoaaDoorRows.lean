/-
  NARROWER THAN 'FOR EVERY INPUT', by the rows' own cells (each row's printed sentence says how): SixRuns: laid · SixBytes: laid · SixParse: laid · SixRound: laid · SixWhole: laid · SixGaps: laid · SixDots: laid.
  DERIVED. THE GIVEN ROWS OF THIS SEAT. 7 by the template 'for every input the law returns true; each argument reads behind the call as it read before'; 0 by the template 'total and deterministic' (their statements: YtdgikagnkbphoaaDoorTotals.lean).
  GIVEN WITH THE SEED: the statements are not yours to turn. If you find one false, say at which input.
  Laid BY PROGRAM, IN A SANDBOX (cutbox-rows.mjs): the forced cells as the released guide's own fill.sh prints them over the translation c1a2be18f9cd28dc… (all of the seat's roots in one cut). By AI agents, Wed Nov 11 2026. No macro, syntax, notation, axiom, sorry.
-/
import Derived.Test.YtdgikagnkbphoaaDoorChecked
import GoSem.Claim
import GoSem.ClaimJoined
import GoSem.ClaimMapViews
import Derived.JoinedTies
import Derived.KernelRfl
namespace Go.Proofs.YtdgikagnkbphoaaDoor
/- THE CELL 'sum', in the pinned program and in every row, IS THE sha256 OF THE DUMP (.gsa) THAT YtdgikagnkbphoaaDoorProg.lean LOADS. Nothing in Lean hashes anything: it is a label: what it is worth is what the hold of that sum in a sandbox is worth. -/
noncomputable def Tryd.pinned : Pinned := { name := "ytdgikagnkbphoaadoor", sum := "c1a2be18f9cd28dc32c4d6fb47c7302aba64c835fd56dcfe2f08ceb84b5e2b09", checked := Tryd.checked }
namespace Rows
def none {H : Type} : Left H := { results := [], args := [] }

/- WHAT THE LISTED PACKAGE-LEVEL VARIABLES READ AS WHEN THE CALL BEGINS. Each datum BY PROGRAM (the guide's laid-datum.mjs) off the statement by which the dump's own 'gosem.cut.vars' lays the variable. In a bare row this is a premise. The card (YtdgikagnkbphoaaDoorCards.lean) ties it to the program's text. -/
def laid_math_bits_deBruijn32tab {H : Type} : DataW H := .agg [.lit (.int .u8 0), .lit (.int .u8 1), .lit (.int .u8 28), .lit (.int .u8 2), .lit (.int .u8 29), .lit (.int .u8 14), .lit (.int .u8 24), .lit (.int .u8 3), .lit (.int .u8 30), .lit (.int .u8 22), .lit (.int .u8 20), .lit (.int .u8 15), .lit (.int .u8 25), .lit (.int .u8 17), .lit (.int .u8 4), .lit (.int .u8 8), .lit (.int .u8 31), .lit (.int .u8 27), .lit (.int .u8 13), .lit (.int .u8 23), .lit (.int .u8 21), .lit (.int .u8 19), .lit (.int .u8 16), .lit (.int .u8 7), .lit (.int .u8 26), .lit (.int .u8 12), .lit (.int .u8 18), .lit (.int .u8 6), .lit (.int .u8 11), .lit (.int .u8 5), .lit (.int .u8 10), .lit (.int .u8 9)]
def laid_math_bits_deBruijn64tab {H : Type} : DataW H := .agg [.lit (.int .u8 0), .lit (.int .u8 1), .lit (.int .u8 56), .lit (.int .u8 2), .lit (.int .u8 57), .lit (.int .u8 49), .lit (.int .u8 28), .lit (.int .u8 3), .lit (.int .u8 61), .lit (.int .u8 58), .lit (.int .u8 42), .lit (.int .u8 50), .lit (.int .u8 38), .lit (.int .u8 29), .lit (.int .u8 17), .lit (.int .u8 4), .lit (.int .u8 62), .lit (.int .u8 47), .lit (.int .u8 59), .lit (.int .u8 36), .lit (.int .u8 45), .lit (.int .u8 43), .lit (.int .u8 51), .lit (.int .u8 22), .lit (.int .u8 53), .lit (.int .u8 39), .lit (.int .u8 33), .lit (.int .u8 30), .lit (.int .u8 24), .lit (.int .u8 18), .lit (.int .u8 12), .lit (.int .u8 5), .lit (.int .u8 63), .lit (.int .u8 55), .lit (.int .u8 48), .lit (.int .u8 27), .lit (.int .u8 60), .lit (.int .u8 41), .lit (.int .u8 37), .lit (.int .u8 16), .lit (.int .u8 46), .lit (.int .u8 35), .lit (.int .u8 44), .lit (.int .u8 21), .lit (.int .u8 52), .lit (.int .u8 32), .lit (.int .u8 23), .lit (.int .u8 11), .lit (.int .u8 54), .lit (.int .u8 26), .lit (.int .u8 40), .lit (.int .u8 15), .lit (.int .u8 34), .lit (.int .u8 20), .lit (.int .u8 31), .lit (.int .u8 10), .lit (.int .u8 25), .lit (.int .u8 14), .lit (.int .u8 19), .lit (.int .u8 9), .lit (.int .u8 13), .lit (.int .u8 8), .lit (.int .u8 7), .lit (.int .u8 6)]
def laid_internal_strconv_uint64pow10 {H : Type} : DataW H := .agg [.lit (.int .u64 1), .lit (.int .u64 10), .lit (.int .u64 100), .lit (.int .u64 1000), .lit (.int .u64 10000), .lit (.int .u64 100000), .lit (.int .u64 1000000), .lit (.int .u64 10000000), .lit (.int .u64 100000000), .lit (.int .u64 1000000000), .lit (.int .u64 10000000000), .lit (.int .u64 100000000000), .lit (.int .u64 1000000000000), .lit (.int .u64 10000000000000), .lit (.int .u64 100000000000000), .lit (.int .u64 1000000000000000), .lit (.int .u64 10000000000000000), .lit (.int .u64 100000000000000000), .lit (.int .u64 1000000000000000000), .lit (.int .u64 10000000000000000000)]

/-- 'abatislaw03.SixRuns': WHATEVER THE INPUT: true; the input reads as it did. -/
def sixRunsSpec : ChangeSpec := { name := "sixRuns", fn := fun _ => fun
  | [d] => { results := [.lit (.bool true)], args := [d] }
  | _ => none }
def sixRunsRow : OpenClaim := { program := "ytdgikagnkbphoaadoor", sum := "c1a2be18f9cd28dc32c4d6fb47c7302aba64c835fd56dcfe2f08ceb84b5e2b09", func := "abatis/abatislaw03.SixRuns", spec := "sixRuns", inPlace := ["internal/abi.NoEscape", "internal/bytealg.MakeNoZero"], named := ["internal/strconv.uint64pow10", "math/bits.deBruijn32tab", "math/bits.deBruijn64tab"], apart := false, laid := [("math/bits.deBruijn32tab", laid_math_bits_deBruijn32tab), ("math/bits.deBruijn64tab", laid_math_bits_deBruijn64tab), ("internal/strconv.uint64pow10", laid_internal_strconv_uint64pow10)] }
def SixRunsSaid : Prop := sixRunsRow.holds Tryd.pinned (OpenSpec.ofChange sixRunsSpec)

/-- ITS FALSE NEIGHBOUR: 'it returns false'. Refute it at one input. -/
def sixRunsWrong : ChangeSpec := { name := "sixRuns", fn := fun _ => fun
  | [d] => { results := [.lit (.bool false)], args := [d] }
  | _ => none }
def SixRunsWrongFalsely : Prop := sixRunsRow.holds Tryd.pinned (OpenSpec.ofChange sixRunsWrong)

/-- 'abatislaw03.SixBytes': WHATEVER THE INPUT: true; the input reads as it did. -/
def sixBytesSpec : ChangeSpec := { name := "sixBytes", fn := fun _ => fun
  | [d1, d2] => { results := [.lit (.bool true)], args := [d1, d2] }
  | _ => none }
def sixBytesRow : OpenClaim := { program := "ytdgikagnkbphoaadoor", sum := "c1a2be18f9cd28dc32c4d6fb47c7302aba64c835fd56dcfe2f08ceb84b5e2b09", func := "abatis/abatislaw03.SixBytes", spec := "sixBytes", inPlace := ["internal/abi.NoEscape", "internal/bytealg.MakeNoZero"], named := ["internal/strconv.uint64pow10", "math/bits.deBruijn32tab", "math/bits.deBruijn64tab"], apart := false, laid := [("math/bits.deBruijn32tab", laid_math_bits_deBruijn32tab), ("math/bits.deBruijn64tab", laid_math_bits_deBruijn64tab), ("internal/strconv.uint64pow10", laid_internal_strconv_uint64pow10)] }
def SixBytesSaid : Prop := sixBytesRow.holds Tryd.pinned (OpenSpec.ofChange sixBytesSpec)

/-- ITS FALSE NEIGHBOUR: 'it returns false'. Refute it at one input. -/
def sixBytesWrong : ChangeSpec := { name := "sixBytes", fn := fun _ => fun
  | [d1, d2] => { results := [.lit (.bool false)], args := [d1, d2] }
  | _ => none }
def SixBytesWrongFalsely : Prop := sixBytesRow.holds Tryd.pinned (OpenSpec.ofChange sixBytesWrong)

/-- 'abatislaw03.SixParse': WHATEVER THE INPUT: true; the input reads as it did. -/
def sixParseSpec : ChangeSpec := { name := "sixParse", fn := fun _ => fun
  | [d] => { results := [.lit (.bool true)], args := [d] }
  | _ => none }
def sixParseRow : OpenClaim := { program := "ytdgikagnkbphoaadoor", sum := "c1a2be18f9cd28dc32c4d6fb47c7302aba64c835fd56dcfe2f08ceb84b5e2b09", func := "abatis/abatislaw03.SixParse", spec := "sixParse", inPlace := ["internal/bytealg.IndexByteString", "internal/bytealg.IndexString", "internal/abi.NoEscape", "internal/bytealg.MakeNoZero"], named := ["internal/bytealg.MaxLen", "internal/strconv.uint64pow10", "math/bits.deBruijn32tab", "math/bits.deBruijn64tab"], apart := false, laid := [("math/bits.deBruijn32tab", laid_math_bits_deBruijn32tab), ("math/bits.deBruijn64tab", laid_math_bits_deBruijn64tab), ("internal/strconv.uint64pow10", laid_internal_strconv_uint64pow10)] }
def SixParseSaid : Prop := sixParseRow.holds Tryd.pinned (OpenSpec.ofChange sixParseSpec)

/-- ITS FALSE NEIGHBOUR: 'it returns false'. Refute it at one input. -/
def sixParseWrong : ChangeSpec := { name := "sixParse", fn := fun _ => fun
  | [d] => { results := [.lit (.bool false)], args := [d] }
  | _ => none }
def SixParseWrongFalsely : Prop := sixParseRow.holds Tryd.pinned (OpenSpec.ofChange sixParseWrong)

/-- 'abatislaw03.SixRound': WHATEVER THE INPUT: true; the input reads as it did. -/
def sixRoundSpec : ChangeSpec := { name := "sixRound", fn := fun _ => fun
  | [d] => { results := [.lit (.bool true)], args := [d] }
  | _ => none }
def sixRoundRow : OpenClaim := { program := "ytdgikagnkbphoaadoor", sum := "c1a2be18f9cd28dc32c4d6fb47c7302aba64c835fd56dcfe2f08ceb84b5e2b09", func := "abatis/abatislaw03.SixRound", spec := "sixRound", inPlace := ["internal/abi.NoEscape", "internal/bytealg.MakeNoZero", "internal/bytealg.IndexByteString", "internal/bytealg.IndexString"], recurses := true, named := ["internal/strconv.uint64pow10", "math/bits.deBruijn32tab", "math/bits.deBruijn64tab", "internal/bytealg.MaxLen"], apart := false, laid := [("math/bits.deBruijn32tab", laid_math_bits_deBruijn32tab), ("math/bits.deBruijn64tab", laid_math_bits_deBruijn64tab), ("internal/strconv.uint64pow10", laid_internal_strconv_uint64pow10)] }
def SixRoundSaid : Prop := sixRoundRow.holds Tryd.pinned (OpenSpec.ofChange sixRoundSpec)

/-- ITS FALSE NEIGHBOUR: 'it returns false'. Refute it at one input. -/
def sixRoundWrong : ChangeSpec := { name := "sixRound", fn := fun _ => fun
  | [d] => { results := [.lit (.bool false)], args := [d] }
  | _ => none }
def SixRoundWrongFalsely : Prop := sixRoundRow.holds Tryd.pinned (OpenSpec.ofChange sixRoundWrong)

/-- 'abatislaw03.SixWhole': WHATEVER THE INPUT: true; the input reads as it did. -/
def sixWholeSpec : ChangeSpec := { name := "sixWhole", fn := fun _ => fun
  | [d] => { results := [.lit (.bool true)], args := [d] }
  | _ => none }
def sixWholeRow : OpenClaim := { program := "ytdgikagnkbphoaadoor", sum := "c1a2be18f9cd28dc32c4d6fb47c7302aba64c835fd56dcfe2f08ceb84b5e2b09", func := "abatis/abatislaw03.SixWhole", spec := "sixWhole", inPlace := ["internal/bytealg.IndexByteString", "internal/bytealg.IndexString", "internal/abi.NoEscape", "internal/bytealg.MakeNoZero"], named := ["internal/bytealg.MaxLen", "internal/strconv.uint64pow10", "math/bits.deBruijn32tab", "math/bits.deBruijn64tab"], apart := false, laid := [("math/bits.deBruijn32tab", laid_math_bits_deBruijn32tab), ("math/bits.deBruijn64tab", laid_math_bits_deBruijn64tab), ("internal/strconv.uint64pow10", laid_internal_strconv_uint64pow10)] }
def SixWholeSaid : Prop := sixWholeRow.holds Tryd.pinned (OpenSpec.ofChange sixWholeSpec)

/-- ITS FALSE NEIGHBOUR: 'it returns false'. Refute it at one input. -/
def sixWholeWrong : ChangeSpec := { name := "sixWhole", fn := fun _ => fun
  | [d] => { results := [.lit (.bool false)], args := [d] }
  | _ => none }
def SixWholeWrongFalsely : Prop := sixWholeRow.holds Tryd.pinned (OpenSpec.ofChange sixWholeWrong)

/-- 'abatislaw03.SixGaps': WHATEVER THE INPUT: true; the input reads as it did. -/
def sixGapsSpec : ChangeSpec := { name := "sixGaps", fn := fun _ => fun
  | [d1, d2, d3] => { results := [.lit (.bool true)], args := [d1, d2, d3] }
  | _ => none }
def sixGapsRow : OpenClaim := { program := "ytdgikagnkbphoaadoor", sum := "c1a2be18f9cd28dc32c4d6fb47c7302aba64c835fd56dcfe2f08ceb84b5e2b09", func := "abatis/abatislaw03.SixGaps", spec := "sixGaps", inPlace := ["internal/bytealg.IndexByteString", "internal/bytealg.IndexString", "internal/abi.NoEscape", "internal/bytealg.MakeNoZero"], recurses := true, named := ["internal/bytealg.MaxLen", "internal/strconv.uint64pow10", "math/bits.deBruijn32tab", "math/bits.deBruijn64tab"], apart := false, laid := [("math/bits.deBruijn32tab", laid_math_bits_deBruijn32tab), ("math/bits.deBruijn64tab", laid_math_bits_deBruijn64tab), ("internal/strconv.uint64pow10", laid_internal_strconv_uint64pow10)] }
def SixGapsSaid : Prop := sixGapsRow.holds Tryd.pinned (OpenSpec.ofChange sixGapsSpec)

/-- ITS FALSE NEIGHBOUR: 'it returns false'. Refute it at one input. -/
def sixGapsWrong : ChangeSpec := { name := "sixGaps", fn := fun _ => fun
  | [d1, d2, d3] => { results := [.lit (.bool false)], args := [d1, d2, d3] }
  | _ => none }
def SixGapsWrongFalsely : Prop := sixGapsRow.holds Tryd.pinned (OpenSpec.ofChange sixGapsWrong)

/-- 'abatislaw03.SixDots': WHATEVER THE INPUT: true; the input reads as it did. -/
def sixDotsSpec : ChangeSpec := { name := "sixDots", fn := fun _ => fun
  | [d1, d2] => { results := [.lit (.bool true)], args := [d1, d2] }
  | _ => none }
def sixDotsRow : OpenClaim := { program := "ytdgikagnkbphoaadoor", sum := "c1a2be18f9cd28dc32c4d6fb47c7302aba64c835fd56dcfe2f08ceb84b5e2b09", func := "abatis/abatislaw03.SixDots", spec := "sixDots", inPlace := ["internal/bytealg.IndexByteString", "internal/bytealg.IndexString", "internal/abi.NoEscape", "internal/bytealg.MakeNoZero"], recurses := true, named := ["internal/bytealg.MaxLen", "internal/strconv.uint64pow10", "math/bits.deBruijn32tab", "math/bits.deBruijn64tab"], apart := false, laid := [("math/bits.deBruijn32tab", laid_math_bits_deBruijn32tab), ("math/bits.deBruijn64tab", laid_math_bits_deBruijn64tab), ("internal/strconv.uint64pow10", laid_internal_strconv_uint64pow10)] }
def SixDotsSaid : Prop := sixDotsRow.holds Tryd.pinned (OpenSpec.ofChange sixDotsSpec)

/-- ITS FALSE NEIGHBOUR: 'it returns false'. Refute it at one input. -/
def sixDotsWrong : ChangeSpec := { name := "sixDots", fn := fun _ => fun
  | [d1, d2] => { results := [.lit (.bool false)], args := [d1, d2] }
  | _ => none }
def SixDotsWrongFalsely : Prop := sixDotsRow.holds Tryd.pinned (OpenSpec.ofChange sixDotsWrong)

/- THE SECOND FORM. 'bulk': how many values and letters a reading holds, each counted each time it is reached (what is shared counts as often as it is met; a slice's spare places count too). A statement '..UptoSaid' is the law's where the arguments, and the package variables that the reading takes, are together of bulk at most 1048576: NARROWER than '..Said'. Prove '..Said' where nothing that the law and all that it calls make is longer than what came in: it says more and counts as full. Else prove '..UptoSaid'. A law counts once. -/
mutual
def uptoBulk {H : Type} : DataW H → Nat
  | .lit (.string bytes) => bytes.length + 1
  | .lit _ => 1
  | .nil => 1
  | .ptr d => uptoBulk d + 1
  | .slice elems spare => uptoBulkAll elems + uptoBulkAll spare + 1
  | .agg parts => uptoBulkAll parts + 1
  | .iface _ d => uptoBulk d + 1
  | .map entries => uptoBulkEntries entries + 1
  | .held _ => 1
def uptoBulkAll {H : Type} : List (DataW H) → Nat
  | [] => 0
  | d :: r => uptoBulk d + uptoBulkAll r
def uptoBulkEntries {H : Type} : List (Lit × DataW H) → Nat
  | [] => 0
  | x :: r => uptoBulkEntry x + uptoBulkEntries r
def uptoBulkEntry {H : Type} : Lit × DataW H → Nat
  | (.string bytes, d) => bytes.length + uptoBulk d + 1
  | (_, d) => uptoBulk d + 1
 end
def uptoSmall : (H : Type) → List (DataW H) → Bool := fun _ ds => decide (uptoBulkAll ds ≤ 1048576)
def OpenSpec.upto (s : _root_.Go.ChangeSpec) : _root_.Go.OpenSpec := { _root_.Go.OpenSpec.ofChange s with cond := some uptoSmall }

/-- 'abatislaw03.SixRuns', WHERE WHAT IT READS IS OF BULK AT MOST 1048576: true; the input reads as it did. -/
def sixRunsUptoRow : OpenClaim := { program := "ytdgikagnkbphoaadoor", sum := "c1a2be18f9cd28dc32c4d6fb47c7302aba64c835fd56dcfe2f08ceb84b5e2b09", func := "abatis/abatislaw03.SixRuns", spec := "sixRuns", inPlace := ["internal/abi.NoEscape", "internal/bytealg.MakeNoZero"], named := ["internal/strconv.uint64pow10", "math/bits.deBruijn32tab", "math/bits.deBruijn64tab"], apart := false, laid := [("math/bits.deBruijn32tab", laid_math_bits_deBruijn32tab), ("math/bits.deBruijn64tab", laid_math_bits_deBruijn64tab), ("internal/strconv.uint64pow10", laid_internal_strconv_uint64pow10)], narrowed := true }
def SixRunsUptoSaid : Prop := sixRunsUptoRow.holds Tryd.pinned (OpenSpec.upto sixRunsSpec)

/-- 'abatislaw03.SixBytes', WHERE WHAT IT READS IS OF BULK AT MOST 1048576: true; the input reads as it did. -/
def sixBytesUptoRow : OpenClaim := { program := "ytdgikagnkbphoaadoor", sum := "c1a2be18f9cd28dc32c4d6fb47c7302aba64c835fd56dcfe2f08ceb84b5e2b09", func := "abatis/abatislaw03.SixBytes", spec := "sixBytes", inPlace := ["internal/abi.NoEscape", "internal/bytealg.MakeNoZero"], named := ["internal/strconv.uint64pow10", "math/bits.deBruijn32tab", "math/bits.deBruijn64tab"], apart := false, laid := [("math/bits.deBruijn32tab", laid_math_bits_deBruijn32tab), ("math/bits.deBruijn64tab", laid_math_bits_deBruijn64tab), ("internal/strconv.uint64pow10", laid_internal_strconv_uint64pow10)], narrowed := true }
def SixBytesUptoSaid : Prop := sixBytesUptoRow.holds Tryd.pinned (OpenSpec.upto sixBytesSpec)

/-- 'abatislaw03.SixParse', WHERE WHAT IT READS IS OF BULK AT MOST 1048576: true; the input reads as it did. -/
def sixParseUptoRow : OpenClaim := { program := "ytdgikagnkbphoaadoor", sum := "c1a2be18f9cd28dc32c4d6fb47c7302aba64c835fd56dcfe2f08ceb84b5e2b09", func := "abatis/abatislaw03.SixParse", spec := "sixParse", inPlace := ["internal/bytealg.IndexByteString", "internal/bytealg.IndexString", "internal/abi.NoEscape", "internal/bytealg.MakeNoZero"], named := ["internal/bytealg.MaxLen", "internal/strconv.uint64pow10", "math/bits.deBruijn32tab", "math/bits.deBruijn64tab"], apart := false, laid := [("math/bits.deBruijn32tab", laid_math_bits_deBruijn32tab), ("math/bits.deBruijn64tab", laid_math_bits_deBruijn64tab), ("internal/strconv.uint64pow10", laid_internal_strconv_uint64pow10)], narrowed := true }
def SixParseUptoSaid : Prop := sixParseUptoRow.holds Tryd.pinned (OpenSpec.upto sixParseSpec)

/-- 'abatislaw03.SixRound', WHERE WHAT IT READS IS OF BULK AT MOST 1048576: true; the input reads as it did. -/
def sixRoundUptoRow : OpenClaim := { program := "ytdgikagnkbphoaadoor", sum := "c1a2be18f9cd28dc32c4d6fb47c7302aba64c835fd56dcfe2f08ceb84b5e2b09", func := "abatis/abatislaw03.SixRound", spec := "sixRound", inPlace := ["internal/abi.NoEscape", "internal/bytealg.MakeNoZero", "internal/bytealg.IndexByteString", "internal/bytealg.IndexString"], recurses := true, named := ["internal/strconv.uint64pow10", "math/bits.deBruijn32tab", "math/bits.deBruijn64tab", "internal/bytealg.MaxLen"], apart := false, laid := [("math/bits.deBruijn32tab", laid_math_bits_deBruijn32tab), ("math/bits.deBruijn64tab", laid_math_bits_deBruijn64tab), ("internal/strconv.uint64pow10", laid_internal_strconv_uint64pow10)], narrowed := true }
def SixRoundUptoSaid : Prop := sixRoundUptoRow.holds Tryd.pinned (OpenSpec.upto sixRoundSpec)

/-- 'abatislaw03.SixWhole', WHERE WHAT IT READS IS OF BULK AT MOST 1048576: true; the input reads as it did. -/
def sixWholeUptoRow : OpenClaim := { program := "ytdgikagnkbphoaadoor", sum := "c1a2be18f9cd28dc32c4d6fb47c7302aba64c835fd56dcfe2f08ceb84b5e2b09", func := "abatis/abatislaw03.SixWhole", spec := "sixWhole", inPlace := ["internal/bytealg.IndexByteString", "internal/bytealg.IndexString", "internal/abi.NoEscape", "internal/bytealg.MakeNoZero"], named := ["internal/bytealg.MaxLen", "internal/strconv.uint64pow10", "math/bits.deBruijn32tab", "math/bits.deBruijn64tab"], apart := false, laid := [("math/bits.deBruijn32tab", laid_math_bits_deBruijn32tab), ("math/bits.deBruijn64tab", laid_math_bits_deBruijn64tab), ("internal/strconv.uint64pow10", laid_internal_strconv_uint64pow10)], narrowed := true }
def SixWholeUptoSaid : Prop := sixWholeUptoRow.holds Tryd.pinned (OpenSpec.upto sixWholeSpec)

/-- 'abatislaw03.SixGaps', WHERE WHAT IT READS IS OF BULK AT MOST 1048576: true; the input reads as it did. -/
def sixGapsUptoRow : OpenClaim := { program := "ytdgikagnkbphoaadoor", sum := "c1a2be18f9cd28dc32c4d6fb47c7302aba64c835fd56dcfe2f08ceb84b5e2b09", func := "abatis/abatislaw03.SixGaps", spec := "sixGaps", inPlace := ["internal/bytealg.IndexByteString", "internal/bytealg.IndexString", "internal/abi.NoEscape", "internal/bytealg.MakeNoZero"], recurses := true, named := ["internal/bytealg.MaxLen", "internal/strconv.uint64pow10", "math/bits.deBruijn32tab", "math/bits.deBruijn64tab"], apart := false, laid := [("math/bits.deBruijn32tab", laid_math_bits_deBruijn32tab), ("math/bits.deBruijn64tab", laid_math_bits_deBruijn64tab), ("internal/strconv.uint64pow10", laid_internal_strconv_uint64pow10)], narrowed := true }
def SixGapsUptoSaid : Prop := sixGapsUptoRow.holds Tryd.pinned (OpenSpec.upto sixGapsSpec)

/-- 'abatislaw03.SixDots', WHERE WHAT IT READS IS OF BULK AT MOST 1048576: true; the input reads as it did. -/
def sixDotsUptoRow : OpenClaim := { program := "ytdgikagnkbphoaadoor", sum := "c1a2be18f9cd28dc32c4d6fb47c7302aba64c835fd56dcfe2f08ceb84b5e2b09", func := "abatis/abatislaw03.SixDots", spec := "sixDots", inPlace := ["internal/bytealg.IndexByteString", "internal/bytealg.IndexString", "internal/abi.NoEscape", "internal/bytealg.MakeNoZero"], recurses := true, named := ["internal/bytealg.MaxLen", "internal/strconv.uint64pow10", "math/bits.deBruijn32tab", "math/bits.deBruijn64tab"], apart := false, laid := [("math/bits.deBruijn32tab", laid_math_bits_deBruijn32tab), ("math/bits.deBruijn64tab", laid_math_bits_deBruijn64tab), ("internal/strconv.uint64pow10", laid_internal_strconv_uint64pow10)], narrowed := true }
def SixDotsUptoSaid : Prop := sixDotsUptoRow.holds Tryd.pinned (OpenSpec.upto sixDotsSpec)

end Rows
end Go.Proofs.YtdgikagnkbphoaaDoor
