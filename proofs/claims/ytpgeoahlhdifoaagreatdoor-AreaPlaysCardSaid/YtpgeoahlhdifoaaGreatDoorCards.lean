/-
  DERIVED. GIVEN WITH THE SEED: THE CARDS: each row of YtpgeoahlhdifoaaGreatDoorRows.lean that lists a variable, with what it lists TIED to the program's text (the seventh form; the later family's looks); each row that meets fmt, with fmt's text TOLD by the authors' own Lean function (tested against real Go, not proved from fmt's source: count such statements apart). THE CARD IS WHAT COUNTS. Prove the row's statement (the work); the ties are given (YtpgeoahlhdifoaaGreatDoorTie.lean); close each card by the builder's one call (the guide's Derived/Test/ToyasCard.lean, 'card_holds'). Laid BY PROGRAM, IN A SANDBOX (cutbox-door.mjs). By AI agents, Wed Nov 11 2026. No macro, syntax, notation, axiom, sorry.
-/
import Derived.Test.YtpgeoahlhdifoaaGreatDoorRows
import GoSem.ClaimSeven
namespace Go.Proofs.YtpgeoahlhdifoaaGreatDoor
namespace Rows

/-- THE TIED CARD OF 'jetwaylaw19.AreaPlays'. -/
def areaPlaysCard : Claim7 := { stood := { row := areaPlaysRow, standIns := [], harness := (true, "2e627705031e7e6c3e61ab1adf5a2f53a138885165417ffbc4b730e1422b51c8"), looks := false }, kinds := [], alts := [], laidByText := true, laidKinds := [.data, .data, .data], laidTests := true, laidLooks := .later }
def AreaPlaysCardSaid : Prop := Claim7.holds Tryz.pinned (.plain (OpenSpec.ofChange areaPlaysSpec)) areaPlaysCard

/-- THE SECOND FORM's CARD OF 'jetwaylaw19.AreaPlays'. -/
def areaPlaysUptoCard : Claim7 := { stood := { row := areaPlaysUptoRow, standIns := [], harness := (true, "2e627705031e7e6c3e61ab1adf5a2f53a138885165417ffbc4b730e1422b51c8"), looks := false }, kinds := [], alts := [], laidByText := true, laidKinds := [.data, .data, .data], laidTests := true, laidLooks := .later }
def AreaPlaysUptoCardSaid : Prop := Claim7.holds Tryz.pinned (.plain (OpenSpec.upto areaPlaysSpec)) areaPlaysUptoCard
end Rows
end Go.Proofs.YtpgeoahlhdifoaaGreatDoor
