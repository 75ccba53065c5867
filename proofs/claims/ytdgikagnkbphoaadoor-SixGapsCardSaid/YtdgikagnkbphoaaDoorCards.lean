/-
  DERIVED. GIVEN WITH THE SEED: THE CARDS: each row of YtdgikagnkbphoaaDoorRows.lean that lists a variable, with what it lists TIED to the program's text (the seventh form; the later family's looks); each row that meets fmt, with fmt's text TOLD by the authors' own Lean function (tested against real Go, not proved from fmt's source: count such statements apart). THE CARD IS WHAT COUNTS. Prove the row's statement (the work); the ties are given (YtdgikagnkbphoaaDoorTie.lean); close each card by the builder's one call (the guide's Derived/Test/ToyasCard.lean, 'card_holds'). Laid BY PROGRAM, IN A SANDBOX (cutbox-door.mjs). By AI agents, Wed Nov 11 2026. No macro, syntax, notation, axiom, sorry.
-/
import Derived.Test.YtdgikagnkbphoaaDoorRows
import GoSem.ClaimSeven
namespace Go.Proofs.YtdgikagnkbphoaaDoor
namespace Rows

/-- THE TIED CARD OF 'abatislaw03.SixRuns'. -/
def sixRunsCard : Claim7 := { stood := { row := sixRunsRow, standIns := [], harness := (true, "d5dead260eed29d554589a3efe4dab3af613d363928412da881da03e16b23ab4"), looks := false }, kinds := [], alts := [], laidByText := true, laidKinds := [.data, .data, .data], laidTests := true, laidLooks := .later }
def SixRunsCardSaid : Prop := Claim7.holds Tryd.pinned (.plain (OpenSpec.ofChange sixRunsSpec)) sixRunsCard

/-- THE TIED CARD OF 'abatislaw03.SixBytes'. -/
def sixBytesCard : Claim7 := { stood := { row := sixBytesRow, standIns := [], harness := (true, "d5dead260eed29d554589a3efe4dab3af613d363928412da881da03e16b23ab4"), looks := false }, kinds := [], alts := [], laidByText := true, laidKinds := [.data, .data, .data], laidTests := true, laidLooks := .later }
def SixBytesCardSaid : Prop := Claim7.holds Tryd.pinned (.plain (OpenSpec.ofChange sixBytesSpec)) sixBytesCard

/-- THE TIED CARD OF 'abatislaw03.SixParse'. -/
def sixParseCard : Claim7 := { stood := { row := sixParseRow, standIns := [], harness := (true, "d5dead260eed29d554589a3efe4dab3af613d363928412da881da03e16b23ab4"), looks := false }, kinds := [], alts := [], laidByText := true, laidKinds := [.data, .data, .data], laidTests := true, laidLooks := .later }
def SixParseCardSaid : Prop := Claim7.holds Tryd.pinned (.plain (OpenSpec.ofChange sixParseSpec)) sixParseCard

/-- THE TIED CARD OF 'abatislaw03.SixRound'. -/
def sixRoundCard : Claim7 := { stood := { row := sixRoundRow, standIns := [], harness := (true, "d5dead260eed29d554589a3efe4dab3af613d363928412da881da03e16b23ab4"), looks := false }, kinds := [], alts := [], laidByText := true, laidKinds := [.data, .data, .data], laidTests := true, laidLooks := .later }
def SixRoundCardSaid : Prop := Claim7.holds Tryd.pinned (.plain (OpenSpec.ofChange sixRoundSpec)) sixRoundCard

/-- THE TIED CARD OF 'abatislaw03.SixWhole'. -/
def sixWholeCard : Claim7 := { stood := { row := sixWholeRow, standIns := [], harness := (true, "d5dead260eed29d554589a3efe4dab3af613d363928412da881da03e16b23ab4"), looks := false }, kinds := [], alts := [], laidByText := true, laidKinds := [.data, .data, .data], laidTests := true, laidLooks := .later }
def SixWholeCardSaid : Prop := Claim7.holds Tryd.pinned (.plain (OpenSpec.ofChange sixWholeSpec)) sixWholeCard

/-- THE TIED CARD OF 'abatislaw03.SixGaps'. -/
def sixGapsCard : Claim7 := { stood := { row := sixGapsRow, standIns := [], harness := (true, "d5dead260eed29d554589a3efe4dab3af613d363928412da881da03e16b23ab4"), looks := false }, kinds := [], alts := [], laidByText := true, laidKinds := [.data, .data, .data], laidTests := true, laidLooks := .later }
def SixGapsCardSaid : Prop := Claim7.holds Tryd.pinned (.plain (OpenSpec.ofChange sixGapsSpec)) sixGapsCard

/-- THE TIED CARD OF 'abatislaw03.SixDots'. -/
def sixDotsCard : Claim7 := { stood := { row := sixDotsRow, standIns := [], harness := (true, "d5dead260eed29d554589a3efe4dab3af613d363928412da881da03e16b23ab4"), looks := false }, kinds := [], alts := [], laidByText := true, laidKinds := [.data, .data, .data], laidTests := true, laidLooks := .later }
def SixDotsCardSaid : Prop := Claim7.holds Tryd.pinned (.plain (OpenSpec.ofChange sixDotsSpec)) sixDotsCard

/-- THE SECOND FORM's CARD OF 'abatislaw03.SixRuns'. -/
def sixRunsUptoCard : Claim7 := { stood := { row := sixRunsUptoRow, standIns := [], harness := (true, "d5dead260eed29d554589a3efe4dab3af613d363928412da881da03e16b23ab4"), looks := false }, kinds := [], alts := [], laidByText := true, laidKinds := [.data, .data, .data], laidTests := true, laidLooks := .later }
def SixRunsUptoCardSaid : Prop := Claim7.holds Tryd.pinned (.plain (OpenSpec.upto sixRunsSpec)) sixRunsUptoCard

/-- THE SECOND FORM's CARD OF 'abatislaw03.SixBytes'. -/
def sixBytesUptoCard : Claim7 := { stood := { row := sixBytesUptoRow, standIns := [], harness := (true, "d5dead260eed29d554589a3efe4dab3af613d363928412da881da03e16b23ab4"), looks := false }, kinds := [], alts := [], laidByText := true, laidKinds := [.data, .data, .data], laidTests := true, laidLooks := .later }
def SixBytesUptoCardSaid : Prop := Claim7.holds Tryd.pinned (.plain (OpenSpec.upto sixBytesSpec)) sixBytesUptoCard

/-- THE SECOND FORM's CARD OF 'abatislaw03.SixParse'. -/
def sixParseUptoCard : Claim7 := { stood := { row := sixParseUptoRow, standIns := [], harness := (true, "d5dead260eed29d554589a3efe4dab3af613d363928412da881da03e16b23ab4"), looks := false }, kinds := [], alts := [], laidByText := true, laidKinds := [.data, .data, .data], laidTests := true, laidLooks := .later }
def SixParseUptoCardSaid : Prop := Claim7.holds Tryd.pinned (.plain (OpenSpec.upto sixParseSpec)) sixParseUptoCard

/-- THE SECOND FORM's CARD OF 'abatislaw03.SixRound'. -/
def sixRoundUptoCard : Claim7 := { stood := { row := sixRoundUptoRow, standIns := [], harness := (true, "d5dead260eed29d554589a3efe4dab3af613d363928412da881da03e16b23ab4"), looks := false }, kinds := [], alts := [], laidByText := true, laidKinds := [.data, .data, .data], laidTests := true, laidLooks := .later }
def SixRoundUptoCardSaid : Prop := Claim7.holds Tryd.pinned (.plain (OpenSpec.upto sixRoundSpec)) sixRoundUptoCard

/-- THE SECOND FORM's CARD OF 'abatislaw03.SixWhole'. -/
def sixWholeUptoCard : Claim7 := { stood := { row := sixWholeUptoRow, standIns := [], harness := (true, "d5dead260eed29d554589a3efe4dab3af613d363928412da881da03e16b23ab4"), looks := false }, kinds := [], alts := [], laidByText := true, laidKinds := [.data, .data, .data], laidTests := true, laidLooks := .later }
def SixWholeUptoCardSaid : Prop := Claim7.holds Tryd.pinned (.plain (OpenSpec.upto sixWholeSpec)) sixWholeUptoCard

/-- THE SECOND FORM's CARD OF 'abatislaw03.SixGaps'. -/
def sixGapsUptoCard : Claim7 := { stood := { row := sixGapsUptoRow, standIns := [], harness := (true, "d5dead260eed29d554589a3efe4dab3af613d363928412da881da03e16b23ab4"), looks := false }, kinds := [], alts := [], laidByText := true, laidKinds := [.data, .data, .data], laidTests := true, laidLooks := .later }
def SixGapsUptoCardSaid : Prop := Claim7.holds Tryd.pinned (.plain (OpenSpec.upto sixGapsSpec)) sixGapsUptoCard

/-- THE SECOND FORM's CARD OF 'abatislaw03.SixDots'. -/
def sixDotsUptoCard : Claim7 := { stood := { row := sixDotsUptoRow, standIns := [], harness := (true, "d5dead260eed29d554589a3efe4dab3af613d363928412da881da03e16b23ab4"), looks := false }, kinds := [], alts := [], laidByText := true, laidKinds := [.data, .data, .data], laidTests := true, laidLooks := .later }
def SixDotsUptoCardSaid : Prop := Claim7.holds Tryd.pinned (.plain (OpenSpec.upto sixDotsSpec)) sixDotsUptoCard
end Rows
end Go.Proofs.YtdgikagnkbphoaaDoor
