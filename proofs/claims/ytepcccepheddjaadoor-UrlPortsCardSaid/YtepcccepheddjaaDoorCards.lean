/-
  DERIVED. GIVEN WITH THE SEED: THE CARDS: each row of YtepcccepheddjaaDoorRows.lean that lists a variable, with what it lists TIED to the program's text (the seventh form; the later family's looks); each row that meets fmt, with fmt's text TOLD by the authors' own Lean function (tested against real Go, not proved from fmt's source: count such statements apart). THE CARD IS WHAT COUNTS. Prove the row's statement (the work); the ties are given (YtepcccepheddjaaDoorTie.lean); close each card by the builder's one call (the guide's Derived/Test/ToyasCard.lean, 'card_holds'). Laid BY PROGRAM, IN A SANDBOX (cutbox-door.mjs). By AI agents, Wed Nov 11 2026. No macro, syntax, notation, axiom, sorry.
-/
import Derived.Test.YtepcccepheddjaaDoorRows
import GoSem.ClaimSeven
namespace Go.Proofs.YtepcccepheddjaaDoor
namespace Rows

/-- THE TIED CARD OF 'abatislaw13.UrlPorts'. -/
def urlPortsCard : Claim7 := { stood := { row := urlPortsRow, standIns := [], harness := (true, "0f30cd23bde4bea82822ce962bd60246d28339fb4b2f04b017c3b2bea0be2b51"), looks := false }, kinds := [], alts := [], laidByText := true, laidKinds := [.data, .data, .data], laidTests := true, laidLooks := .later }
def UrlPortsCardSaid : Prop := Claim7.holds Tryd.pinned (.plain (OpenSpec.ofChange urlPortsSpec)) urlPortsCard

/-- THE SECOND FORM's CARD OF 'abatislaw13.UrlPorts'. -/
def urlPortsUptoCard : Claim7 := { stood := { row := urlPortsUptoRow, standIns := [], harness := (true, "0f30cd23bde4bea82822ce962bd60246d28339fb4b2f04b017c3b2bea0be2b51"), looks := false }, kinds := [], alts := [], laidByText := true, laidKinds := [.data, .data, .data], laidTests := true, laidLooks := .later }
def UrlPortsUptoCardSaid : Prop := Claim7.holds Tryd.pinned (.plain (OpenSpec.upto urlPortsSpec)) urlPortsUptoCard
end Rows
end Go.Proofs.YtepcccepheddjaaDoor
