/-
  DERIVED. GIVEN WITH THE SEED: THE CARDS: each row of YtipbijklplfkhaaGreatDoorRows.lean that lists a variable, with what it lists TIED to the program's text (the seventh form; the later family's looks); each row that meets fmt, with fmt's text TOLD by the authors' own Lean function (tested against real Go, not proved from fmt's source: count such statements apart). THE CARD IS WHAT COUNTS. Prove the row's statement (the work); the ties are given (YtipbijklplfkhaaGreatDoorTie.lean); close each card by the builder's one call (the guide's Derived/Test/ToyasCard.lean, 'card_holds'). Laid BY PROGRAM, IN A SANDBOX (cutbox-door.mjs). By AI agents, Wed Nov 11 2026. No macro, syntax, notation, axiom, sorry.
-/
import Derived.Test.YtipbijklplfkhaaGreatDoorRows
import GoSem.ClaimSeven
namespace Go.Proofs.YtipbijklplfkhaaGreatDoor
namespace Rows

/-- THE TIED CARD OF 'abatislaw05.CidrTexts'. -/
def cidrTextsCard : Claim7 := { stood := { row := cidrTextsRow, standIns := [], harness := (true, "c7ba3f38725890a531d1130fd154629af071b518d21b2182c58faaa1d1f15194"), looks := false }, kinds := [], alts := [], laidByText := true, laidKinds := [.data, .data, .data], laidTests := true, laidLooks := .later }
def CidrTextsCardSaid : Prop := Claim7.holds Tryz.pinned (.plain (OpenSpec.ofChange cidrTextsSpec)) cidrTextsCard

/-- THE SECOND FORM's CARD OF 'abatislaw05.CidrTexts'. -/
def cidrTextsUptoCard : Claim7 := { stood := { row := cidrTextsUptoRow, standIns := [], harness := (true, "c7ba3f38725890a531d1130fd154629af071b518d21b2182c58faaa1d1f15194"), looks := false }, kinds := [], alts := [], laidByText := true, laidKinds := [.data, .data, .data], laidTests := true, laidLooks := .later }
def CidrTextsUptoCardSaid : Prop := Claim7.holds Tryz.pinned (.plain (OpenSpec.upto cidrTextsSpec)) cidrTextsUptoCard
end Rows
end Go.Proofs.YtipbijklplfkhaaGreatDoor
