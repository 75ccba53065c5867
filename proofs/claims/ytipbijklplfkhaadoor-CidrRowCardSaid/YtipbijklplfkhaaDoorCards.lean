/-
  DERIVED. GIVEN WITH THE SEED: THE CARDS: each row of YtipbijklplfkhaaDoorRows.lean that lists a variable, with what it lists TIED to the program's text (the seventh form; the later family's looks); each row that meets fmt, with fmt's text TOLD by the authors' own Lean function (tested against real Go, not proved from fmt's source: count such statements apart). THE CARD IS WHAT COUNTS. Prove the row's statement (the work); the ties are given (YtipbijklplfkhaaDoorTie.lean); close each card by the builder's one call (the guide's Derived/Test/ToyasCard.lean, 'card_holds'). Laid BY PROGRAM, IN A SANDBOX (cutbox-door.mjs). By AI agents, Wed Nov 11 2026. No macro, syntax, notation, axiom, sorry.
-/
import Derived.Test.YtipbijklplfkhaaDoorRows
import GoSem.ClaimSeven
namespace Go.Proofs.YtipbijklplfkhaaDoor
namespace Rows

/-- THE TIED CARD OF 'abatislaw05.CidrMay'. -/
def cidrMayCard : Claim7 := { stood := { row := cidrMayRow, standIns := [], harness := (true, "24a7dae116f3061c39b8370ad4ead78e3b91438df1284de9c4a8a3577774bd68"), looks := false }, kinds := [], alts := [], laidByText := true, laidKinds := [.data, .data, .data], laidTests := true, laidLooks := .later }
def CidrMayCardSaid : Prop := Claim7.holds Tryd.pinned (.plain (OpenSpec.ofChange cidrMaySpec)) cidrMayCard

/-- THE TIED CARD OF 'abatislaw05.CidrWithin'. -/
def cidrWithinCard : Claim7 := { stood := { row := cidrWithinRow, standIns := [], harness := (true, "24a7dae116f3061c39b8370ad4ead78e3b91438df1284de9c4a8a3577774bd68"), looks := false }, kinds := [], alts := [], laidByText := true, laidKinds := [.data, .data, .data], laidTests := true, laidLooks := .later }
def CidrWithinCardSaid : Prop := Claim7.holds Tryd.pinned (.plain (OpenSpec.ofChange cidrWithinSpec)) cidrWithinCard

/-- THE TIED CARD OF 'abatislaw05.CidrHas'. -/
def cidrHasCard : Claim7 := { stood := { row := cidrHasRow, standIns := [], harness := (true, "24a7dae116f3061c39b8370ad4ead78e3b91438df1284de9c4a8a3577774bd68"), looks := false }, kinds := [], alts := [], laidByText := true, laidKinds := [.data, .data, .data], laidTests := true, laidLooks := .later }
def CidrHasCardSaid : Prop := Claim7.holds Tryd.pinned (.plain (OpenSpec.ofChange cidrHasSpec)) cidrHasCard

/-- THE TIED CARD OF 'abatislaw05.CidrMasks'. -/
def cidrMasksCard : Claim7 := { stood := { row := cidrMasksRow, standIns := [], harness := (true, "24a7dae116f3061c39b8370ad4ead78e3b91438df1284de9c4a8a3577774bd68"), looks := false }, kinds := [], alts := [], laidByText := true, laidKinds := [.data, .data, .data], laidTests := true, laidLooks := .later }
def CidrMasksCardSaid : Prop := Claim7.holds Tryd.pinned (.plain (OpenSpec.ofChange cidrMasksSpec)) cidrMasksCard

/-- THE TIED CARD OF 'abatislaw05.CidrRow'. -/
def cidrRowCard : Claim7 := { stood := { row := cidrRowRow, standIns := [], harness := (true, "24a7dae116f3061c39b8370ad4ead78e3b91438df1284de9c4a8a3577774bd68"), looks := false }, kinds := [], alts := [], laidByText := true, laidKinds := [.data, .data, .data], laidTests := true, laidLooks := .later }
def CidrRowCardSaid : Prop := Claim7.holds Tryd.pinned (.plain (OpenSpec.ofChange cidrRowSpec)) cidrRowCard

/-- THE SECOND FORM's CARD OF 'abatislaw05.CidrMay'. -/
def cidrMayUptoCard : Claim7 := { stood := { row := cidrMayUptoRow, standIns := [], harness := (true, "24a7dae116f3061c39b8370ad4ead78e3b91438df1284de9c4a8a3577774bd68"), looks := false }, kinds := [], alts := [], laidByText := true, laidKinds := [.data, .data, .data], laidTests := true, laidLooks := .later }
def CidrMayUptoCardSaid : Prop := Claim7.holds Tryd.pinned (.plain (OpenSpec.upto cidrMaySpec)) cidrMayUptoCard

/-- THE SECOND FORM's CARD OF 'abatislaw05.CidrWithin'. -/
def cidrWithinUptoCard : Claim7 := { stood := { row := cidrWithinUptoRow, standIns := [], harness := (true, "24a7dae116f3061c39b8370ad4ead78e3b91438df1284de9c4a8a3577774bd68"), looks := false }, kinds := [], alts := [], laidByText := true, laidKinds := [.data, .data, .data], laidTests := true, laidLooks := .later }
def CidrWithinUptoCardSaid : Prop := Claim7.holds Tryd.pinned (.plain (OpenSpec.upto cidrWithinSpec)) cidrWithinUptoCard

/-- THE SECOND FORM's CARD OF 'abatislaw05.CidrHas'. -/
def cidrHasUptoCard : Claim7 := { stood := { row := cidrHasUptoRow, standIns := [], harness := (true, "24a7dae116f3061c39b8370ad4ead78e3b91438df1284de9c4a8a3577774bd68"), looks := false }, kinds := [], alts := [], laidByText := true, laidKinds := [.data, .data, .data], laidTests := true, laidLooks := .later }
def CidrHasUptoCardSaid : Prop := Claim7.holds Tryd.pinned (.plain (OpenSpec.upto cidrHasSpec)) cidrHasUptoCard

/-- THE SECOND FORM's CARD OF 'abatislaw05.CidrMasks'. -/
def cidrMasksUptoCard : Claim7 := { stood := { row := cidrMasksUptoRow, standIns := [], harness := (true, "24a7dae116f3061c39b8370ad4ead78e3b91438df1284de9c4a8a3577774bd68"), looks := false }, kinds := [], alts := [], laidByText := true, laidKinds := [.data, .data, .data], laidTests := true, laidLooks := .later }
def CidrMasksUptoCardSaid : Prop := Claim7.holds Tryd.pinned (.plain (OpenSpec.upto cidrMasksSpec)) cidrMasksUptoCard

/-- THE SECOND FORM's CARD OF 'abatislaw05.CidrRow'. -/
def cidrRowUptoCard : Claim7 := { stood := { row := cidrRowUptoRow, standIns := [], harness := (true, "24a7dae116f3061c39b8370ad4ead78e3b91438df1284de9c4a8a3577774bd68"), looks := false }, kinds := [], alts := [], laidByText := true, laidKinds := [.data, .data, .data], laidTests := true, laidLooks := .later }
def CidrRowUptoCardSaid : Prop := Claim7.holds Tryd.pinned (.plain (OpenSpec.upto cidrRowSpec)) cidrRowUptoCard
end Rows
end Go.Proofs.YtipbijklplfkhaaDoor
