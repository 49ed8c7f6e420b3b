/-
  DERIVED. GIVEN WITH THE SEED: THE CARDS: each row of YtfbalabmidobeaaDoorRows.lean that lists a variable, with what it lists TIED to the program's text (the seventh form; the later family's looks); each row that meets fmt, with fmt's text TOLD by the authors' own Lean function (tested against real Go, not proved from fmt's source: count such statements apart). THE CARD IS WHAT COUNTS. Prove the row's statement (the work); the ties are given (YtfbalabmidobeaaDoorTie.lean); close each card by the builder's one call (the guide's Derived/Test/ToyasCard.lean, 'card_holds'). Laid BY PROGRAM, IN A SANDBOX (cutbox-door.mjs). By AI agents, Wed Nov 11 2026. No macro, syntax, notation, axiom, sorry.
-/
import Derived.Test.YtfbalabmidobeaaDoorRows
import GoSem.ClaimSeven
namespace Go.Proofs.YtfbalabmidobeaaDoor
namespace Rows

/-- THE TIED CARD OF 'jetwaylaw19.AreaEdits'. -/
def areaEditsCard : Claim7 := { stood := { row := areaEditsRow, standIns := [], harness := (true, "aef1c1468a8467588161cc88beba837b92d83076da03715f90da89c0296f299a"), looks := false }, kinds := [], alts := [], laidByText := true, laidKinds := [.data, .data, .data], laidTests := true, laidLooks := .later }
def AreaEditsCardSaid : Prop := Claim7.holds Tryd.pinned (.plain (OpenSpec.ofChange areaEditsSpec)) areaEditsCard

/-- THE TIED CARD OF 'jetwaylaw19.AreaIgnores'. -/
def areaIgnoresCard : Claim7 := { stood := { row := areaIgnoresRow, standIns := [], harness := (true, "aef1c1468a8467588161cc88beba837b92d83076da03715f90da89c0296f299a"), looks := false }, kinds := [], alts := [], laidByText := true, laidKinds := [.data, .data, .data], laidTests := true, laidLooks := .later }
def AreaIgnoresCardSaid : Prop := Claim7.holds Tryd.pinned (.plain (OpenSpec.ofChange areaIgnoresSpec)) areaIgnoresCard

/-- THE TIED CARD OF 'jetwaylaw19.AreaSigned'. -/
def areaSignedCard : Claim7 := { stood := { row := areaSignedRow, standIns := [], harness := (true, "aef1c1468a8467588161cc88beba837b92d83076da03715f90da89c0296f299a"), looks := false }, kinds := [], alts := [], laidByText := true, laidKinds := [.data, .data, .data], laidTests := true, laidLooks := .later }
def AreaSignedCardSaid : Prop := Claim7.holds Tryd.pinned (.plain (OpenSpec.ofChange areaSignedSpec)) areaSignedCard

/-- THE SECOND FORM's CARD OF 'jetwaylaw19.AreaEdits'. -/
def areaEditsUptoCard : Claim7 := { stood := { row := areaEditsUptoRow, standIns := [], harness := (true, "aef1c1468a8467588161cc88beba837b92d83076da03715f90da89c0296f299a"), looks := false }, kinds := [], alts := [], laidByText := true, laidKinds := [.data, .data, .data], laidTests := true, laidLooks := .later }
def AreaEditsUptoCardSaid : Prop := Claim7.holds Tryd.pinned (.plain (OpenSpec.upto areaEditsSpec)) areaEditsUptoCard

/-- THE SECOND FORM's CARD OF 'jetwaylaw19.AreaIgnores'. -/
def areaIgnoresUptoCard : Claim7 := { stood := { row := areaIgnoresUptoRow, standIns := [], harness := (true, "aef1c1468a8467588161cc88beba837b92d83076da03715f90da89c0296f299a"), looks := false }, kinds := [], alts := [], laidByText := true, laidKinds := [.data, .data, .data], laidTests := true, laidLooks := .later }
def AreaIgnoresUptoCardSaid : Prop := Claim7.holds Tryd.pinned (.plain (OpenSpec.upto areaIgnoresSpec)) areaIgnoresUptoCard

/-- THE SECOND FORM's CARD OF 'jetwaylaw19.AreaSigned'. -/
def areaSignedUptoCard : Claim7 := { stood := { row := areaSignedUptoRow, standIns := [], harness := (true, "aef1c1468a8467588161cc88beba837b92d83076da03715f90da89c0296f299a"), looks := false }, kinds := [], alts := [], laidByText := true, laidKinds := [.data, .data, .data], laidTests := true, laidLooks := .later }
def AreaSignedUptoCardSaid : Prop := Claim7.holds Tryd.pinned (.plain (OpenSpec.upto areaSignedSpec)) areaSignedUptoCard
end Rows
end Go.Proofs.YtfbalabmidobeaaDoor
