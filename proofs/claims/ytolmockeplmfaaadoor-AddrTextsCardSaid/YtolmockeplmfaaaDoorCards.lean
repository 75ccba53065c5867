/-
  DERIVED. GIVEN WITH THE SEED: THE CARDS: each row of YtolmockeplmfaaaDoorRows.lean that lists a variable, with what it lists TIED to the program's text (the seventh form; the later family's looks); each row that meets fmt, with fmt's text TOLD by the authors' own Lean function (tested against real Go, not proved from fmt's source: count such statements apart). THE CARD IS WHAT COUNTS. Prove the row's statement (the work); the ties are given (YtolmockeplmfaaaDoorTie.lean); close each card by the builder's one call (the guide's Derived/Test/ToyasCard.lean, 'card_holds'). Laid BY PROGRAM, IN A SANDBOX (cutbox-door.mjs). By AI agents, Wed Nov 11 2026. No macro, syntax, notation, axiom, sorry.
-/
import Derived.Test.YtolmockeplmfaaaDoorRows
import GoSem.ClaimSeven
namespace Go.Proofs.YtolmockeplmfaaaDoor
namespace Rows

/-- THE TIED CARD OF 'abatislaw04.AddrMaps'. -/
def addrMapsCard : Claim7 := { stood := { row := addrMapsRow, standIns := [], harness := (true, "50e0f49ec7ae82a94a947483a3c1943030357475fd58d123d19160b9e316157b"), looks := false }, kinds := [], alts := [], laidByText := true, laidKinds := [.data, .data, .data], laidTests := true, laidLooks := .later }
def AddrMapsCardSaid : Prop := Claim7.holds Tryd.pinned (.plain (OpenSpec.ofChange addrMapsSpec)) addrMapsCard

/-- THE TIED CARD OF 'abatislaw04.AddrParse'. -/
def addrParseCard : Claim7 := { stood := { row := addrParseRow, standIns := [], harness := (true, "50e0f49ec7ae82a94a947483a3c1943030357475fd58d123d19160b9e316157b"), looks := false }, kinds := [], alts := [], laidByText := true, laidKinds := [.data, .data, .data], laidTests := true, laidLooks := .later }
def AddrParseCardSaid : Prop := Claim7.holds Tryd.pinned (.plain (OpenSpec.ofChange addrParseSpec)) addrParseCard

/-- THE TIED CARD OF 'abatislaw04.AddrRound'. -/
def addrRoundCard : Claim7 := { stood := { row := addrRoundRow, standIns := [], harness := (true, "50e0f49ec7ae82a94a947483a3c1943030357475fd58d123d19160b9e316157b"), looks := false }, kinds := [], alts := [], laidByText := true, laidKinds := [.data, .data, .data], laidTests := true, laidLooks := .later }
def AddrRoundCardSaid : Prop := Claim7.holds Tryd.pinned (.plain (OpenSpec.ofChange addrRoundSpec)) addrRoundCard

/-- THE TIED CARD OF 'abatislaw04.AddrBits'. -/
def addrBitsCard : Claim7 := { stood := { row := addrBitsRow, standIns := [], harness := (true, "50e0f49ec7ae82a94a947483a3c1943030357475fd58d123d19160b9e316157b"), looks := false }, kinds := [], alts := [], laidByText := true, laidKinds := [.data, .data, .data], laidTests := true, laidLooks := .later }
def AddrBitsCardSaid : Prop := Claim7.holds Tryd.pinned (.plain (OpenSpec.ofChange addrBitsSpec)) addrBitsCard

/-- THE TIED CARD OF 'abatislaw04.AddrRow'. -/
def addrRowCard : Claim7 := { stood := { row := addrRowRow, standIns := [], harness := (true, "50e0f49ec7ae82a94a947483a3c1943030357475fd58d123d19160b9e316157b"), looks := false }, kinds := [], alts := [], laidByText := true, laidKinds := [.data, .data, .data], laidTests := true, laidLooks := .later }
def AddrRowCardSaid : Prop := Claim7.holds Tryd.pinned (.plain (OpenSpec.ofChange addrRowSpec)) addrRowCard

/-- THE TIED CARD OF 'abatislaw04.AddrTexts'. -/
def addrTextsCard : Claim7 := { stood := { row := addrTextsRow, standIns := [], harness := (true, "50e0f49ec7ae82a94a947483a3c1943030357475fd58d123d19160b9e316157b"), looks := false }, kinds := [], alts := [], laidByText := true, laidKinds := [.data, .data, .data], laidTests := true, laidLooks := .later }
def AddrTextsCardSaid : Prop := Claim7.holds Tryd.pinned (.plain (OpenSpec.ofChange addrTextsSpec)) addrTextsCard

/-- THE SECOND FORM's CARD OF 'abatislaw04.AddrMaps'. -/
def addrMapsUptoCard : Claim7 := { stood := { row := addrMapsUptoRow, standIns := [], harness := (true, "50e0f49ec7ae82a94a947483a3c1943030357475fd58d123d19160b9e316157b"), looks := false }, kinds := [], alts := [], laidByText := true, laidKinds := [.data, .data, .data], laidTests := true, laidLooks := .later }
def AddrMapsUptoCardSaid : Prop := Claim7.holds Tryd.pinned (.plain (OpenSpec.upto addrMapsSpec)) addrMapsUptoCard

/-- THE SECOND FORM's CARD OF 'abatislaw04.AddrParse'. -/
def addrParseUptoCard : Claim7 := { stood := { row := addrParseUptoRow, standIns := [], harness := (true, "50e0f49ec7ae82a94a947483a3c1943030357475fd58d123d19160b9e316157b"), looks := false }, kinds := [], alts := [], laidByText := true, laidKinds := [.data, .data, .data], laidTests := true, laidLooks := .later }
def AddrParseUptoCardSaid : Prop := Claim7.holds Tryd.pinned (.plain (OpenSpec.upto addrParseSpec)) addrParseUptoCard

/-- THE SECOND FORM's CARD OF 'abatislaw04.AddrRound'. -/
def addrRoundUptoCard : Claim7 := { stood := { row := addrRoundUptoRow, standIns := [], harness := (true, "50e0f49ec7ae82a94a947483a3c1943030357475fd58d123d19160b9e316157b"), looks := false }, kinds := [], alts := [], laidByText := true, laidKinds := [.data, .data, .data], laidTests := true, laidLooks := .later }
def AddrRoundUptoCardSaid : Prop := Claim7.holds Tryd.pinned (.plain (OpenSpec.upto addrRoundSpec)) addrRoundUptoCard

/-- THE SECOND FORM's CARD OF 'abatislaw04.AddrBits'. -/
def addrBitsUptoCard : Claim7 := { stood := { row := addrBitsUptoRow, standIns := [], harness := (true, "50e0f49ec7ae82a94a947483a3c1943030357475fd58d123d19160b9e316157b"), looks := false }, kinds := [], alts := [], laidByText := true, laidKinds := [.data, .data, .data], laidTests := true, laidLooks := .later }
def AddrBitsUptoCardSaid : Prop := Claim7.holds Tryd.pinned (.plain (OpenSpec.upto addrBitsSpec)) addrBitsUptoCard

/-- THE SECOND FORM's CARD OF 'abatislaw04.AddrRow'. -/
def addrRowUptoCard : Claim7 := { stood := { row := addrRowUptoRow, standIns := [], harness := (true, "50e0f49ec7ae82a94a947483a3c1943030357475fd58d123d19160b9e316157b"), looks := false }, kinds := [], alts := [], laidByText := true, laidKinds := [.data, .data, .data], laidTests := true, laidLooks := .later }
def AddrRowUptoCardSaid : Prop := Claim7.holds Tryd.pinned (.plain (OpenSpec.upto addrRowSpec)) addrRowUptoCard

/-- THE SECOND FORM's CARD OF 'abatislaw04.AddrTexts'. -/
def addrTextsUptoCard : Claim7 := { stood := { row := addrTextsUptoRow, standIns := [], harness := (true, "50e0f49ec7ae82a94a947483a3c1943030357475fd58d123d19160b9e316157b"), looks := false }, kinds := [], alts := [], laidByText := true, laidKinds := [.data, .data, .data], laidTests := true, laidLooks := .later }
def AddrTextsUptoCardSaid : Prop := Claim7.holds Tryd.pinned (.plain (OpenSpec.upto addrTextsSpec)) addrTextsUptoCard
end Rows
end Go.Proofs.YtolmockeplmfaaaDoor
