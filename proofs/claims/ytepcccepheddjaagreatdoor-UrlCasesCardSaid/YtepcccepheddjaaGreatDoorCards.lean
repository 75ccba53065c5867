/-
  DERIVED. GIVEN WITH THE SEED: THE CARDS: each row of YtepcccepheddjaaGreatDoorRows.lean that lists a variable, with what it lists TIED to the program's text (the seventh form; the later family's looks); each row that meets fmt, with fmt's text TOLD by the authors' own Lean function (tested against real Go, not proved from fmt's source: count such statements apart). THE CARD IS WHAT COUNTS. Prove the row's statement (the work); the ties are given (YtepcccepheddjaaGreatDoorTie.lean); close each card by the builder's one call (the guide's Derived/Test/ToyasCard.lean, 'card_holds'). Laid BY PROGRAM, IN A SANDBOX (cutbox-door.mjs). By AI agents, Wed Nov 11 2026. No macro, syntax, notation, axiom, sorry.
-/
import Derived.Test.YtepcccepheddjaaGreatDoorRows
import GoSem.ClaimSeven
namespace Go.Proofs.YtepcccepheddjaaGreatDoor
namespace Rows

/-- THE TIED CARD OF 'abatislaw13.UrlParse'. -/
def urlParseCard : Claim7 := { stood := { row := urlParseRow, standIns := [], harness := (true, "2d791e705c5cf5b23bdbade47fa84322c1b4fbf9868a371d17988a2007995cb8"), looks := false }, kinds := [], alts := [], laidByText := true, laidKinds := [.data, .data, .data], laidTests := true, laidLooks := .later }
def UrlParseCardSaid : Prop := Claim7.holds Tryz.pinned (.plain (OpenSpec.ofChange urlParseSpec)) urlParseCard

/-- THE TIED CARD OF 'abatislaw13.UrlRound'. -/
def urlRoundCard : Claim7 := { stood := { row := urlRoundRow, standIns := [], harness := (true, "2d791e705c5cf5b23bdbade47fa84322c1b4fbf9868a371d17988a2007995cb8"), looks := false }, kinds := [], alts := [], laidByText := true, laidKinds := [.data, .data, .data], laidTests := true, laidLooks := .later }
def UrlRoundCardSaid : Prop := Claim7.holds Tryz.pinned (.plain (OpenSpec.ofChange urlRoundSpec)) urlRoundCard

/-- THE TIED CARD OF 'abatislaw13.UrlOrigins'. -/
def urlOriginsCard : Claim7 := { stood := { row := urlOriginsRow, standIns := [], harness := (true, "2d791e705c5cf5b23bdbade47fa84322c1b4fbf9868a371d17988a2007995cb8"), looks := false }, kinds := [], alts := [], laidByText := true, laidKinds := [.data, .data, .data], laidTests := true, laidLooks := .later }
def UrlOriginsCardSaid : Prop := Claim7.holds Tryz.pinned (.plain (OpenSpec.ofChange urlOriginsSpec)) urlOriginsCard

/-- THE TIED CARD OF 'abatislaw13.UrlCases'. -/
def urlCasesCard : Claim7 := { stood := { row := urlCasesRow, standIns := [], harness := (true, "2d791e705c5cf5b23bdbade47fa84322c1b4fbf9868a371d17988a2007995cb8"), looks := false }, kinds := [], alts := [], laidByText := true, laidKinds := [.data, .data, .data], laidTests := true, laidLooks := .later }
def UrlCasesCardSaid : Prop := Claim7.holds Tryz.pinned (.plain (OpenSpec.ofChange urlCasesSpec)) urlCasesCard

/-- THE TIED CARD OF 'abatislaw13.UrlJoins'. -/
def urlJoinsCard : Claim7 := { stood := { row := urlJoinsRow, standIns := [], harness := (true, "2d791e705c5cf5b23bdbade47fa84322c1b4fbf9868a371d17988a2007995cb8"), looks := false }, kinds := [], alts := [], laidByText := true, laidKinds := [.data, .data, .data], laidTests := true, laidLooks := .later }
def UrlJoinsCardSaid : Prop := Claim7.holds Tryz.pinned (.plain (OpenSpec.ofChange urlJoinsSpec)) urlJoinsCard

/-- THE SECOND FORM's CARD OF 'abatislaw13.UrlParse'. -/
def urlParseUptoCard : Claim7 := { stood := { row := urlParseUptoRow, standIns := [], harness := (true, "2d791e705c5cf5b23bdbade47fa84322c1b4fbf9868a371d17988a2007995cb8"), looks := false }, kinds := [], alts := [], laidByText := true, laidKinds := [.data, .data, .data], laidTests := true, laidLooks := .later }
def UrlParseUptoCardSaid : Prop := Claim7.holds Tryz.pinned (.plain (OpenSpec.upto urlParseSpec)) urlParseUptoCard

/-- THE SECOND FORM's CARD OF 'abatislaw13.UrlRound'. -/
def urlRoundUptoCard : Claim7 := { stood := { row := urlRoundUptoRow, standIns := [], harness := (true, "2d791e705c5cf5b23bdbade47fa84322c1b4fbf9868a371d17988a2007995cb8"), looks := false }, kinds := [], alts := [], laidByText := true, laidKinds := [.data, .data, .data], laidTests := true, laidLooks := .later }
def UrlRoundUptoCardSaid : Prop := Claim7.holds Tryz.pinned (.plain (OpenSpec.upto urlRoundSpec)) urlRoundUptoCard

/-- THE SECOND FORM's CARD OF 'abatislaw13.UrlOrigins'. -/
def urlOriginsUptoCard : Claim7 := { stood := { row := urlOriginsUptoRow, standIns := [], harness := (true, "2d791e705c5cf5b23bdbade47fa84322c1b4fbf9868a371d17988a2007995cb8"), looks := false }, kinds := [], alts := [], laidByText := true, laidKinds := [.data, .data, .data], laidTests := true, laidLooks := .later }
def UrlOriginsUptoCardSaid : Prop := Claim7.holds Tryz.pinned (.plain (OpenSpec.upto urlOriginsSpec)) urlOriginsUptoCard

/-- THE SECOND FORM's CARD OF 'abatislaw13.UrlCases'. -/
def urlCasesUptoCard : Claim7 := { stood := { row := urlCasesUptoRow, standIns := [], harness := (true, "2d791e705c5cf5b23bdbade47fa84322c1b4fbf9868a371d17988a2007995cb8"), looks := false }, kinds := [], alts := [], laidByText := true, laidKinds := [.data, .data, .data], laidTests := true, laidLooks := .later }
def UrlCasesUptoCardSaid : Prop := Claim7.holds Tryz.pinned (.plain (OpenSpec.upto urlCasesSpec)) urlCasesUptoCard

/-- THE SECOND FORM's CARD OF 'abatislaw13.UrlJoins'. -/
def urlJoinsUptoCard : Claim7 := { stood := { row := urlJoinsUptoRow, standIns := [], harness := (true, "2d791e705c5cf5b23bdbade47fa84322c1b4fbf9868a371d17988a2007995cb8"), looks := false }, kinds := [], alts := [], laidByText := true, laidKinds := [.data, .data, .data], laidTests := true, laidLooks := .later }
def UrlJoinsUptoCardSaid : Prop := Claim7.holds Tryz.pinned (.plain (OpenSpec.upto urlJoinsSpec)) urlJoinsUptoCard
end Rows
end Go.Proofs.YtepcccepheddjaaGreatDoor
