/-
  DERIVED. GIVEN WITH THE SEED: THE CARDS: each row of YtlkdefmceghmnaaGreatDoorRows.lean that lists a variable, with what it lists TIED to the program's text (the seventh form; the later family's looks); each row that meets fmt, with fmt's text TOLD by the authors' own Lean function (tested against real Go, not proved from fmt's source: count such statements apart). THE CARD IS WHAT COUNTS. Prove the row's statement (the work); the ties are given (YtlkdefmceghmnaaGreatDoorTie.lean); close each card by the builder's one call (the guide's Derived/Test/ToyasCard.lean, 'card_holds'). Laid BY PROGRAM, IN A SANDBOX (cutbox-door.mjs). By AI agents, Wed Nov 11 2026. No macro, syntax, notation, axiom, sorry.
-/
import Derived.Test.YtlkdefmceghmnaaGreatDoorRows
import GoSem.ClaimSeven
namespace Go.Proofs.YtlkdefmceghmnaaGreatDoor
namespace Rows

/-- THE TIED CARD OF 'jetwaylaw13.CheckFits'. -/
def checkFitsCard : Claim7 := { stood := { row := checkFitsRow, standIns := [], harness := (true, "c8d9b9b436b1e6dddcf606a12845764e0701b6c1baffe30a810906f2c72ce99f"), looks := false }, kinds := [], alts := [], laidByText := true, laidKinds := [.data, .data, .data], laidTests := true, laidLooks := .later }
def CheckFitsCardSaid : Prop := Claim7.holds Tryz.pinned (.plain (OpenSpec.ofChange checkFitsSpec)) checkFitsCard

/-- THE SECOND FORM's CARD OF 'jetwaylaw13.CheckFits'. -/
def checkFitsUptoCard : Claim7 := { stood := { row := checkFitsUptoRow, standIns := [], harness := (true, "c8d9b9b436b1e6dddcf606a12845764e0701b6c1baffe30a810906f2c72ce99f"), looks := false }, kinds := [], alts := [], laidByText := true, laidKinds := [.data, .data, .data], laidTests := true, laidLooks := .later }
def CheckFitsUptoCardSaid : Prop := Claim7.holds Tryz.pinned (.plain (OpenSpec.upto checkFitsSpec)) checkFitsUptoCard
end Rows
end Go.Proofs.YtlkdefmceghmnaaGreatDoor
