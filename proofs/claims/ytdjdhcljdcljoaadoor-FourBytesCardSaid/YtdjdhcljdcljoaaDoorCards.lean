/-
  DERIVED. GIVEN WITH THE SEED: THE CARDS: each row of YtdjdhcljdcljoaaDoorRows.lean that lists a variable, with what it lists TIED to the program's text (the seventh form; the later family's looks); each row that meets fmt, with fmt's text TOLD by the authors' own Lean function (tested against real Go, not proved from fmt's source: count such statements apart). THE CARD IS WHAT COUNTS. Prove the row's statement (the work); the ties are given (YtdjdhcljdcljoaaDoorTie.lean); close each card by the builder's one call (the guide's Derived/Test/ToyasCard.lean, 'card_holds'). Laid BY PROGRAM, IN A SANDBOX (cutbox-door.mjs). By AI agents, Wed Nov 11 2026. No macro, syntax, notation, axiom, sorry.
-/
import Derived.Test.YtdjdhcljdcljoaaDoorRows
import GoSem.ClaimSeven
namespace Go.Proofs.YtdjdhcljdcljoaaDoor
namespace Rows

/-- THE TIED CARD OF 'abatislaw02.FourStrict'. -/
def fourStrictCard : Claim7 := { stood := { row := fourStrictRow, standIns := [], harness := (true, "01b1d5ccdd3a5e05f27ef41e766a9bd47bbe531d8d0bb0a160ed6713e216e262"), looks := false }, kinds := [], alts := [], laidByText := true, laidKinds := [.data, .data, .data], laidTests := true, laidLooks := .later }
def FourStrictCardSaid : Prop := Claim7.holds Tryd.pinned (.plain (OpenSpec.ofChange fourStrictSpec)) fourStrictCard

/-- THE TIED CARD OF 'abatislaw02.FourRound'. -/
def fourRoundCard : Claim7 := { stood := { row := fourRoundRow, standIns := [], harness := (true, "01b1d5ccdd3a5e05f27ef41e766a9bd47bbe531d8d0bb0a160ed6713e216e262"), looks := false }, kinds := [], alts := [], laidByText := true, laidKinds := [.data, .data, .data], laidTests := true, laidLooks := .later }
def FourRoundCardSaid : Prop := Claim7.holds Tryd.pinned (.plain (OpenSpec.ofChange fourRoundSpec)) fourRoundCard

/-- THE TIED CARD OF 'abatislaw02.FourBytes'. -/
def fourBytesCard : Claim7 := { stood := { row := fourBytesRow, standIns := [], harness := (true, "01b1d5ccdd3a5e05f27ef41e766a9bd47bbe531d8d0bb0a160ed6713e216e262"), looks := false }, kinds := [], alts := [], laidByText := true, laidKinds := [.data, .data, .data], laidTests := true, laidLooks := .later }
def FourBytesCardSaid : Prop := Claim7.holds Tryd.pinned (.plain (OpenSpec.ofChange fourBytesSpec)) fourBytesCard

/-- THE SECOND FORM's CARD OF 'abatislaw02.FourStrict'. -/
def fourStrictUptoCard : Claim7 := { stood := { row := fourStrictUptoRow, standIns := [], harness := (true, "01b1d5ccdd3a5e05f27ef41e766a9bd47bbe531d8d0bb0a160ed6713e216e262"), looks := false }, kinds := [], alts := [], laidByText := true, laidKinds := [.data, .data, .data], laidTests := true, laidLooks := .later }
def FourStrictUptoCardSaid : Prop := Claim7.holds Tryd.pinned (.plain (OpenSpec.upto fourStrictSpec)) fourStrictUptoCard

/-- THE SECOND FORM's CARD OF 'abatislaw02.FourRound'. -/
def fourRoundUptoCard : Claim7 := { stood := { row := fourRoundUptoRow, standIns := [], harness := (true, "01b1d5ccdd3a5e05f27ef41e766a9bd47bbe531d8d0bb0a160ed6713e216e262"), looks := false }, kinds := [], alts := [], laidByText := true, laidKinds := [.data, .data, .data], laidTests := true, laidLooks := .later }
def FourRoundUptoCardSaid : Prop := Claim7.holds Tryd.pinned (.plain (OpenSpec.upto fourRoundSpec)) fourRoundUptoCard

/-- THE SECOND FORM's CARD OF 'abatislaw02.FourBytes'. -/
def fourBytesUptoCard : Claim7 := { stood := { row := fourBytesUptoRow, standIns := [], harness := (true, "01b1d5ccdd3a5e05f27ef41e766a9bd47bbe531d8d0bb0a160ed6713e216e262"), looks := false }, kinds := [], alts := [], laidByText := true, laidKinds := [.data, .data, .data], laidTests := true, laidLooks := .later }
def FourBytesUptoCardSaid : Prop := Claim7.holds Tryd.pinned (.plain (OpenSpec.upto fourBytesSpec)) fourBytesUptoCard
end Rows
end Go.Proofs.YtdjdhcljdcljoaaDoor
