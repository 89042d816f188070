/-
  DERIVED. GIVEN WITH THE SEED: THE CARDS: each row of YtcpfmjlceoiofaaGreatDoorRows.lean that lists a variable, with what it lists TIED to the program's text (the seventh form; the later family's looks); each row that meets fmt, with fmt's text TOLD by the authors' own Lean function (tested against real Go, not proved from fmt's source: count such statements apart). THE CARD IS WHAT COUNTS. Prove the row's statement (the work); the ties are given (YtcpfmjlceoiofaaGreatDoorTie.lean); close each card by the builder's one call (the guide's Derived/Test/ToyasCard.lean, 'card_holds'). Laid BY PROGRAM, IN A SANDBOX (cutbox-door.mjs). By AI agents, Wed Nov 11 2026. No macro, syntax, notation, axiom, sorry.
-/
import Derived.Test.YtcpfmjlceoiofaaGreatDoorRows
import GoSem.ClaimSeven
namespace Go.Proofs.YtcpfmjlceoiofaaGreatDoor
namespace Rows

/-- THE TIED CARD OF 'taffrailtop.TopLoops'. -/
def topLoopsCard : Claim7 := { stood := { row := topLoopsRow, standIns := [], harness := (true, "55154d2413ca39ef3361230b1b3c26738014c3a08337a53c4ab7b2241081780e"), looks := true }, kinds := [], alts := [], laidByText := true, laidKinds := [.handle, .sentinel, .sentinel, .sentinel, .sentinel, .sentinel, .data, .data, .data], laidTests := true, laidLooks := .later }
def TopLoopsCardSaid : Prop := Claim7.holds Tryz.pinned (.plain (OpenSpec.ofChange topLoopsSpec)) topLoopsCard

/-- THE TIED CARD OF 'taffrailtop.TopFull'. -/
def topFullCard : Claim7 := { stood := { row := topFullRow, standIns := [], harness := (true, "55154d2413ca39ef3361230b1b3c26738014c3a08337a53c4ab7b2241081780e"), looks := true }, kinds := [], alts := [], laidByText := true, laidKinds := [.handle, .sentinel, .sentinel, .sentinel, .sentinel, .sentinel, .data, .data, .data], laidTests := true, laidLooks := .later }
def TopFullCardSaid : Prop := Claim7.holds Tryz.pinned (.plain (OpenSpec.ofChange topFullSpec)) topFullCard

/-- THE TIED CARD OF 'taffrailtop.TopOrphans'. -/
def topOrphansCard : Claim7 := { stood := { row := topOrphansRow, standIns := [], harness := (true, "55154d2413ca39ef3361230b1b3c26738014c3a08337a53c4ab7b2241081780e"), looks := true }, kinds := [], alts := [], laidByText := true, laidKinds := [.handle, .sentinel, .sentinel, .sentinel, .sentinel, .sentinel, .data, .data, .data], laidTests := true, laidLooks := .later }
def TopOrphansCardSaid : Prop := Claim7.holds Tryz.pinned (.plain (OpenSpec.ofChange topOrphansSpec)) topOrphansCard

/-- THE TIED CARD OF 'taffrailtop.TopMail'. -/
def topMailCard : Claim7 := { stood := { row := topMailRow, standIns := [], harness := (true, "55154d2413ca39ef3361230b1b3c26738014c3a08337a53c4ab7b2241081780e"), looks := true }, kinds := [], alts := [], laidByText := true, laidKinds := [.handle, .sentinel, .sentinel, .sentinel, .sentinel, .sentinel, .data, .data, .data], laidTests := true, laidLooks := .later }
def TopMailCardSaid : Prop := Claim7.holds Tryz.pinned (.plain (OpenSpec.ofChange topMailSpec)) topMailCard

/-- THE TIED CARD OF 'taffrailtop.TopRefuses'. -/
def topRefusesCard : Claim7 := { stood := { row := topRefusesRow, standIns := [], harness := (true, "55154d2413ca39ef3361230b1b3c26738014c3a08337a53c4ab7b2241081780e"), looks := true }, kinds := [], alts := [], laidByText := true, laidKinds := [.handle, .sentinel, .sentinel, .sentinel, .sentinel, .sentinel, .data, .data, .data], laidTests := true, laidLooks := .later }
def TopRefusesCardSaid : Prop := Claim7.holds Tryz.pinned (.plain (OpenSpec.ofChange topRefusesSpec)) topRefusesCard

/-- THE SECOND FORM's CARD OF 'taffrailtop.TopLoops'. -/
def topLoopsUptoCard : Claim7 := { stood := { row := topLoopsUptoRow, standIns := [], harness := (true, "55154d2413ca39ef3361230b1b3c26738014c3a08337a53c4ab7b2241081780e"), looks := true }, kinds := [], alts := [], laidByText := true, laidKinds := [.handle, .sentinel, .sentinel, .sentinel, .sentinel, .sentinel, .data, .data, .data], laidTests := true, laidLooks := .later }
def TopLoopsUptoCardSaid : Prop := Claim7.holds Tryz.pinned (.plain (OpenSpec.upto topLoopsSpec)) topLoopsUptoCard

/-- THE SECOND FORM's CARD OF 'taffrailtop.TopFull'. -/
def topFullUptoCard : Claim7 := { stood := { row := topFullUptoRow, standIns := [], harness := (true, "55154d2413ca39ef3361230b1b3c26738014c3a08337a53c4ab7b2241081780e"), looks := true }, kinds := [], alts := [], laidByText := true, laidKinds := [.handle, .sentinel, .sentinel, .sentinel, .sentinel, .sentinel, .data, .data, .data], laidTests := true, laidLooks := .later }
def TopFullUptoCardSaid : Prop := Claim7.holds Tryz.pinned (.plain (OpenSpec.upto topFullSpec)) topFullUptoCard

/-- THE SECOND FORM's CARD OF 'taffrailtop.TopOrphans'. -/
def topOrphansUptoCard : Claim7 := { stood := { row := topOrphansUptoRow, standIns := [], harness := (true, "55154d2413ca39ef3361230b1b3c26738014c3a08337a53c4ab7b2241081780e"), looks := true }, kinds := [], alts := [], laidByText := true, laidKinds := [.handle, .sentinel, .sentinel, .sentinel, .sentinel, .sentinel, .data, .data, .data], laidTests := true, laidLooks := .later }
def TopOrphansUptoCardSaid : Prop := Claim7.holds Tryz.pinned (.plain (OpenSpec.upto topOrphansSpec)) topOrphansUptoCard

/-- THE SECOND FORM's CARD OF 'taffrailtop.TopMail'. -/
def topMailUptoCard : Claim7 := { stood := { row := topMailUptoRow, standIns := [], harness := (true, "55154d2413ca39ef3361230b1b3c26738014c3a08337a53c4ab7b2241081780e"), looks := true }, kinds := [], alts := [], laidByText := true, laidKinds := [.handle, .sentinel, .sentinel, .sentinel, .sentinel, .sentinel, .data, .data, .data], laidTests := true, laidLooks := .later }
def TopMailUptoCardSaid : Prop := Claim7.holds Tryz.pinned (.plain (OpenSpec.upto topMailSpec)) topMailUptoCard

/-- THE SECOND FORM's CARD OF 'taffrailtop.TopRefuses'. -/
def topRefusesUptoCard : Claim7 := { stood := { row := topRefusesUptoRow, standIns := [], harness := (true, "55154d2413ca39ef3361230b1b3c26738014c3a08337a53c4ab7b2241081780e"), looks := true }, kinds := [], alts := [], laidByText := true, laidKinds := [.handle, .sentinel, .sentinel, .sentinel, .sentinel, .sentinel, .data, .data, .data], laidTests := true, laidLooks := .later }
def TopRefusesUptoCardSaid : Prop := Claim7.holds Tryz.pinned (.plain (OpenSpec.upto topRefusesSpec)) topRefusesUptoCard
end Rows
end Go.Proofs.YtcpfmjlceoiofaaGreatDoor
