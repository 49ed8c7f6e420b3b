/-
  DERIVED. GIVEN WITH THE SEED: THE CARDS: each row of YtodholjbefifeaaDoorRows.lean that lists a variable, with what it lists TIED to the program's text (the seventh form; the later family's looks); each row that meets fmt, with fmt's text TOLD by the authors' own Lean function (tested against real Go, not proved from fmt's source: count such statements apart). THE CARD IS WHAT COUNTS. Prove the row's statement (the work); the ties are given (YtodholjbefifeaaDoorTie.lean); close each card by the builder's one call (the guide's Derived/Test/ToyasCard.lean, 'card_holds'). Laid BY PROGRAM, IN A SANDBOX (cutbox-door.mjs). By AI agents, Wed Nov 11 2026. No macro, syntax, notation, axiom, sorry.
-/
import Derived.Test.YtodholjbefifeaaDoorRows
import GoSem.ClaimSeven
namespace Go.Proofs.YtodholjbefifeaaDoor
namespace Rows

/-- THE TIED CARD OF 'jetwaylaw08.FlightChecks'. -/
def flightChecksCard : Claim7 := { stood := { row := flightChecksRow, standIns := [], harness := (true, "e8d30f9e3a394eb6c1d920b71729037011f094d04a989e4a863b2bae40924196"), looks := false }, kinds := [], alts := [], laidByText := true, laidKinds := [.data, .data, .data], laidTests := true, laidLooks := .later }
def FlightChecksCardSaid : Prop := Claim7.holds Tryd.pinned (.plain (OpenSpec.ofChange flightChecksSpec)) flightChecksCard

/-- THE TIED CARD OF 'jetwaylaw08.FlightWays'. -/
def flightWaysCard : Claim7 := { stood := { row := flightWaysRow, standIns := [], harness := (true, "e8d30f9e3a394eb6c1d920b71729037011f094d04a989e4a863b2bae40924196"), looks := false }, kinds := [], alts := [], laidByText := true, laidKinds := [.data, .data, .data], laidTests := true, laidLooks := .later }
def FlightWaysCardSaid : Prop := Claim7.holds Tryd.pinned (.plain (OpenSpec.ofChange flightWaysSpec)) flightWaysCard

/-- THE TIED CARD OF 'jetwaylaw08.FlightLinks'. -/
def flightLinksCard : Claim7 := { stood := { row := flightLinksRow, standIns := [], harness := (true, "e8d30f9e3a394eb6c1d920b71729037011f094d04a989e4a863b2bae40924196"), looks := false }, kinds := [], alts := [], laidByText := true, laidKinds := [.data, .data, .data], laidTests := true, laidLooks := .later }
def FlightLinksCardSaid : Prop := Claim7.holds Tryd.pinned (.plain (OpenSpec.ofChange flightLinksSpec)) flightLinksCard

/-- THE TIED CARD OF 'jetwaylaw08.FlightOrder'. -/
def flightOrderCard : Claim7 := { stood := { row := flightOrderRow, standIns := [], harness := (true, "e8d30f9e3a394eb6c1d920b71729037011f094d04a989e4a863b2bae40924196"), looks := false }, kinds := [], alts := [], laidByText := true, laidKinds := [.data, .data, .data], laidTests := true, laidLooks := .later }
def FlightOrderCardSaid : Prop := Claim7.holds Tryd.pinned (.plain (OpenSpec.ofChange flightOrderSpec)) flightOrderCard

/-- THE TIED CARD OF 'jetwaylaw08.FlightTables'. -/
def flightTablesCard : Claim7 := { stood := { row := flightTablesRow, standIns := [], harness := (true, "e8d30f9e3a394eb6c1d920b71729037011f094d04a989e4a863b2bae40924196"), looks := false }, kinds := [], alts := [], laidByText := true, laidKinds := [.data, .data, .data], laidTests := true, laidLooks := .later }
def FlightTablesCardSaid : Prop := Claim7.holds Tryd.pinned (.plain (OpenSpec.ofChange flightTablesSpec)) flightTablesCard

/-- THE TIED CARD OF 'jetwaylaw08.FlightDays'. -/
def flightDaysCard : Claim7 := { stood := { row := flightDaysRow, standIns := [], harness := (true, "e8d30f9e3a394eb6c1d920b71729037011f094d04a989e4a863b2bae40924196"), looks := false }, kinds := [], alts := [], laidByText := true, laidKinds := [.data, .data, .data], laidTests := true, laidLooks := .later }
def FlightDaysCardSaid : Prop := Claim7.holds Tryd.pinned (.plain (OpenSpec.ofChange flightDaysSpec)) flightDaysCard

/-- THE SECOND FORM's CARD OF 'jetwaylaw08.FlightChecks'. -/
def flightChecksUptoCard : Claim7 := { stood := { row := flightChecksUptoRow, standIns := [], harness := (true, "e8d30f9e3a394eb6c1d920b71729037011f094d04a989e4a863b2bae40924196"), looks := false }, kinds := [], alts := [], laidByText := true, laidKinds := [.data, .data, .data], laidTests := true, laidLooks := .later }
def FlightChecksUptoCardSaid : Prop := Claim7.holds Tryd.pinned (.plain (OpenSpec.upto flightChecksSpec)) flightChecksUptoCard

/-- THE SECOND FORM's CARD OF 'jetwaylaw08.FlightWays'. -/
def flightWaysUptoCard : Claim7 := { stood := { row := flightWaysUptoRow, standIns := [], harness := (true, "e8d30f9e3a394eb6c1d920b71729037011f094d04a989e4a863b2bae40924196"), looks := false }, kinds := [], alts := [], laidByText := true, laidKinds := [.data, .data, .data], laidTests := true, laidLooks := .later }
def FlightWaysUptoCardSaid : Prop := Claim7.holds Tryd.pinned (.plain (OpenSpec.upto flightWaysSpec)) flightWaysUptoCard

/-- THE SECOND FORM's CARD OF 'jetwaylaw08.FlightLinks'. -/
def flightLinksUptoCard : Claim7 := { stood := { row := flightLinksUptoRow, standIns := [], harness := (true, "e8d30f9e3a394eb6c1d920b71729037011f094d04a989e4a863b2bae40924196"), looks := false }, kinds := [], alts := [], laidByText := true, laidKinds := [.data, .data, .data], laidTests := true, laidLooks := .later }
def FlightLinksUptoCardSaid : Prop := Claim7.holds Tryd.pinned (.plain (OpenSpec.upto flightLinksSpec)) flightLinksUptoCard

/-- THE SECOND FORM's CARD OF 'jetwaylaw08.FlightOrder'. -/
def flightOrderUptoCard : Claim7 := { stood := { row := flightOrderUptoRow, standIns := [], harness := (true, "e8d30f9e3a394eb6c1d920b71729037011f094d04a989e4a863b2bae40924196"), looks := false }, kinds := [], alts := [], laidByText := true, laidKinds := [.data, .data, .data], laidTests := true, laidLooks := .later }
def FlightOrderUptoCardSaid : Prop := Claim7.holds Tryd.pinned (.plain (OpenSpec.upto flightOrderSpec)) flightOrderUptoCard

/-- THE SECOND FORM's CARD OF 'jetwaylaw08.FlightTables'. -/
def flightTablesUptoCard : Claim7 := { stood := { row := flightTablesUptoRow, standIns := [], harness := (true, "e8d30f9e3a394eb6c1d920b71729037011f094d04a989e4a863b2bae40924196"), looks := false }, kinds := [], alts := [], laidByText := true, laidKinds := [.data, .data, .data], laidTests := true, laidLooks := .later }
def FlightTablesUptoCardSaid : Prop := Claim7.holds Tryd.pinned (.plain (OpenSpec.upto flightTablesSpec)) flightTablesUptoCard

/-- THE SECOND FORM's CARD OF 'jetwaylaw08.FlightDays'. -/
def flightDaysUptoCard : Claim7 := { stood := { row := flightDaysUptoRow, standIns := [], harness := (true, "e8d30f9e3a394eb6c1d920b71729037011f094d04a989e4a863b2bae40924196"), looks := false }, kinds := [], alts := [], laidByText := true, laidKinds := [.data, .data, .data], laidTests := true, laidLooks := .later }
def FlightDaysUptoCardSaid : Prop := Claim7.holds Tryd.pinned (.plain (OpenSpec.upto flightDaysSpec)) flightDaysUptoCard
end Rows
end Go.Proofs.YtodholjbefifeaaDoor
