/-
  DERIVED. GIVEN WITH THE SEED: THE CARDS: each row of YtaakcccffmfmoaaDoorRows.lean that lists a variable, with what it lists TIED to the program's text (the seventh form; the later family's looks); each row that meets fmt, with fmt's text TOLD by the authors' own Lean function (tested against real Go, not proved from fmt's source: count such statements apart). THE CARD IS WHAT COUNTS. Prove the row's statement (the work); the ties are given (YtaakcccffmfmoaaDoorTie.lean); close each card by the builder's one call (the guide's Derived/Test/ToyasCard.lean, 'card_holds'). Laid BY PROGRAM, IN A SANDBOX (cutbox-door.mjs). By AI agents, Wed Nov 11 2026. No macro, syntax, notation, axiom, sorry.
-/
import Derived.Test.YtaakcccffmfmoaaDoorRows
import GoSem.ClaimSeven
namespace Go.Proofs.YtaakcccffmfmoaaDoor
namespace Rows

/-- THE TIED CARD OF 'jetwaylaw13.CheckLacks'. -/
def checkLacksCard : Claim7 := { stood := { row := checkLacksRow, standIns := [], harness := (true, "65034f0bb1ee2ebc61bb0f148b4a065c409b19804707f02d3afb30506ff2be33"), looks := false }, kinds := [], alts := [], laidByText := true, laidKinds := [.data, .data, .data], laidTests := true, laidLooks := .later }
def CheckLacksCardSaid : Prop := Claim7.holds Tryd.pinned (.plain (OpenSpec.ofChange checkLacksSpec)) checkLacksCard

/-- THE TIED CARD OF 'jetwaylaw13.CheckSound'. -/
def checkSoundCard : Claim7 := { stood := { row := checkSoundRow, standIns := [], harness := (true, "65034f0bb1ee2ebc61bb0f148b4a065c409b19804707f02d3afb30506ff2be33"), looks := false }, kinds := [], alts := [], laidByText := true, laidKinds := [.data, .data, .data], laidTests := true, laidLooks := .later }
def CheckSoundCardSaid : Prop := Claim7.holds Tryd.pinned (.plain (OpenSpec.ofChange checkSoundSpec)) checkSoundCard

/-- THE TIED CARD OF 'jetwaylaw13.CheckMends'. -/
def checkMendsCard : Claim7 := { stood := { row := checkMendsRow, standIns := [], harness := (true, "65034f0bb1ee2ebc61bb0f148b4a065c409b19804707f02d3afb30506ff2be33"), looks := false }, kinds := [], alts := [], laidByText := true, laidKinds := [.data, .data, .data], laidTests := true, laidLooks := .later }
def CheckMendsCardSaid : Prop := Claim7.holds Tryd.pinned (.plain (OpenSpec.ofChange checkMendsSpec)) checkMendsCard

/-- THE TIED CARD OF 'jetwaylaw12.PnrApplies'. -/
def pnrAppliesCard : Claim7 := { stood := { row := pnrAppliesRow, standIns := [], harness := (true, "65034f0bb1ee2ebc61bb0f148b4a065c409b19804707f02d3afb30506ff2be33"), looks := false }, kinds := [], alts := [], laidByText := true, laidKinds := [.data, .data, .data], laidTests := true, laidLooks := .later }
def PnrAppliesCardSaid : Prop := Claim7.holds Tryd.pinned (.plain (OpenSpec.ofChange pnrAppliesSpec)) pnrAppliesCard

/-- THE TIED CARD OF 'jetwaylaw12.PnrFolds'. -/
def pnrFoldsCard : Claim7 := { stood := { row := pnrFoldsRow, standIns := [], harness := (true, "65034f0bb1ee2ebc61bb0f148b4a065c409b19804707f02d3afb30506ff2be33"), looks := false }, kinds := [], alts := [], laidByText := true, laidKinds := [.data, .data, .data], laidTests := true, laidLooks := .later }
def PnrFoldsCardSaid : Prop := Claim7.holds Tryd.pinned (.plain (OpenSpec.ofChange pnrFoldsSpec)) pnrFoldsCard

/-- THE TIED CARD OF 'jetwaylaw12.PnrSame'. -/
def pnrSameCard : Claim7 := { stood := { row := pnrSameRow, standIns := [], harness := (true, "65034f0bb1ee2ebc61bb0f148b4a065c409b19804707f02d3afb30506ff2be33"), looks := false }, kinds := [], alts := [], laidByText := true, laidKinds := [.data, .data, .data], laidTests := true, laidLooks := .later }
def PnrSameCardSaid : Prop := Claim7.holds Tryd.pinned (.plain (OpenSpec.ofChange pnrSameSpec)) pnrSameCard

/-- THE TIED CARD OF 'jetwaylaw12.PnrSeats'. -/
def pnrSeatsCard : Claim7 := { stood := { row := pnrSeatsRow, standIns := [], harness := (true, "65034f0bb1ee2ebc61bb0f148b4a065c409b19804707f02d3afb30506ff2be33"), looks := false }, kinds := [], alts := [], laidByText := true, laidKinds := [.data, .data, .data], laidTests := true, laidLooks := .later }
def PnrSeatsCardSaid : Prop := Claim7.holds Tryd.pinned (.plain (OpenSpec.ofChange pnrSeatsSpec)) pnrSeatsCard

/-- THE TIED CARD OF 'jetwaylaw12.PnrKeeps'. -/
def pnrKeepsCard : Claim7 := { stood := { row := pnrKeepsRow, standIns := [], harness := (true, "65034f0bb1ee2ebc61bb0f148b4a065c409b19804707f02d3afb30506ff2be33"), looks := false }, kinds := [], alts := [], laidByText := true, laidKinds := [.data, .data, .data], laidTests := true, laidLooks := .later }
def PnrKeepsCardSaid : Prop := Claim7.holds Tryd.pinned (.plain (OpenSpec.ofChange pnrKeepsSpec)) pnrKeepsCard

/-- THE TIED CARD OF 'jetwaylaw12.PnrCancels'. -/
def pnrCancelsCard : Claim7 := { stood := { row := pnrCancelsRow, standIns := [], harness := (true, "65034f0bb1ee2ebc61bb0f148b4a065c409b19804707f02d3afb30506ff2be33"), looks := false }, kinds := [], alts := [], laidByText := true, laidKinds := [.data, .data, .data], laidTests := true, laidLooks := .later }
def PnrCancelsCardSaid : Prop := Claim7.holds Tryd.pinned (.plain (OpenSpec.ofChange pnrCancelsSpec)) pnrCancelsCard

/-- THE TIED CARD OF 'jetwaylaw12.PnrSwaps'. -/
def pnrSwapsCard : Claim7 := { stood := { row := pnrSwapsRow, standIns := [], harness := (true, "65034f0bb1ee2ebc61bb0f148b4a065c409b19804707f02d3afb30506ff2be33"), looks := false }, kinds := [], alts := [], laidByText := true, laidKinds := [.data, .data, .data], laidTests := true, laidLooks := .later }
def PnrSwapsCardSaid : Prop := Claim7.holds Tryd.pinned (.plain (OpenSpec.ofChange pnrSwapsSpec)) pnrSwapsCard

/-- THE TIED CARD OF 'jetwaylaw13.CheckGrows'. -/
def checkGrowsCard : Claim7 := { stood := { row := checkGrowsRow, standIns := [], harness := (true, "65034f0bb1ee2ebc61bb0f148b4a065c409b19804707f02d3afb30506ff2be33"), looks := false }, kinds := [], alts := [], laidByText := true, laidKinds := [.data, .data, .data], laidTests := true, laidLooks := .later }
def CheckGrowsCardSaid : Prop := Claim7.holds Tryd.pinned (.plain (OpenSpec.ofChange checkGrowsSpec)) checkGrowsCard

/-- THE SECOND FORM's CARD OF 'jetwaylaw13.CheckLacks'. -/
def checkLacksUptoCard : Claim7 := { stood := { row := checkLacksUptoRow, standIns := [], harness := (true, "65034f0bb1ee2ebc61bb0f148b4a065c409b19804707f02d3afb30506ff2be33"), looks := false }, kinds := [], alts := [], laidByText := true, laidKinds := [.data, .data, .data], laidTests := true, laidLooks := .later }
def CheckLacksUptoCardSaid : Prop := Claim7.holds Tryd.pinned (.plain (OpenSpec.upto checkLacksSpec)) checkLacksUptoCard

/-- THE SECOND FORM's CARD OF 'jetwaylaw13.CheckSound'. -/
def checkSoundUptoCard : Claim7 := { stood := { row := checkSoundUptoRow, standIns := [], harness := (true, "65034f0bb1ee2ebc61bb0f148b4a065c409b19804707f02d3afb30506ff2be33"), looks := false }, kinds := [], alts := [], laidByText := true, laidKinds := [.data, .data, .data], laidTests := true, laidLooks := .later }
def CheckSoundUptoCardSaid : Prop := Claim7.holds Tryd.pinned (.plain (OpenSpec.upto checkSoundSpec)) checkSoundUptoCard

/-- THE SECOND FORM's CARD OF 'jetwaylaw13.CheckMends'. -/
def checkMendsUptoCard : Claim7 := { stood := { row := checkMendsUptoRow, standIns := [], harness := (true, "65034f0bb1ee2ebc61bb0f148b4a065c409b19804707f02d3afb30506ff2be33"), looks := false }, kinds := [], alts := [], laidByText := true, laidKinds := [.data, .data, .data], laidTests := true, laidLooks := .later }
def CheckMendsUptoCardSaid : Prop := Claim7.holds Tryd.pinned (.plain (OpenSpec.upto checkMendsSpec)) checkMendsUptoCard

/-- THE SECOND FORM's CARD OF 'jetwaylaw12.PnrApplies'. -/
def pnrAppliesUptoCard : Claim7 := { stood := { row := pnrAppliesUptoRow, standIns := [], harness := (true, "65034f0bb1ee2ebc61bb0f148b4a065c409b19804707f02d3afb30506ff2be33"), looks := false }, kinds := [], alts := [], laidByText := true, laidKinds := [.data, .data, .data], laidTests := true, laidLooks := .later }
def PnrAppliesUptoCardSaid : Prop := Claim7.holds Tryd.pinned (.plain (OpenSpec.upto pnrAppliesSpec)) pnrAppliesUptoCard

/-- THE SECOND FORM's CARD OF 'jetwaylaw12.PnrFolds'. -/
def pnrFoldsUptoCard : Claim7 := { stood := { row := pnrFoldsUptoRow, standIns := [], harness := (true, "65034f0bb1ee2ebc61bb0f148b4a065c409b19804707f02d3afb30506ff2be33"), looks := false }, kinds := [], alts := [], laidByText := true, laidKinds := [.data, .data, .data], laidTests := true, laidLooks := .later }
def PnrFoldsUptoCardSaid : Prop := Claim7.holds Tryd.pinned (.plain (OpenSpec.upto pnrFoldsSpec)) pnrFoldsUptoCard

/-- THE SECOND FORM's CARD OF 'jetwaylaw12.PnrSame'. -/
def pnrSameUptoCard : Claim7 := { stood := { row := pnrSameUptoRow, standIns := [], harness := (true, "65034f0bb1ee2ebc61bb0f148b4a065c409b19804707f02d3afb30506ff2be33"), looks := false }, kinds := [], alts := [], laidByText := true, laidKinds := [.data, .data, .data], laidTests := true, laidLooks := .later }
def PnrSameUptoCardSaid : Prop := Claim7.holds Tryd.pinned (.plain (OpenSpec.upto pnrSameSpec)) pnrSameUptoCard

/-- THE SECOND FORM's CARD OF 'jetwaylaw12.PnrSeats'. -/
def pnrSeatsUptoCard : Claim7 := { stood := { row := pnrSeatsUptoRow, standIns := [], harness := (true, "65034f0bb1ee2ebc61bb0f148b4a065c409b19804707f02d3afb30506ff2be33"), looks := false }, kinds := [], alts := [], laidByText := true, laidKinds := [.data, .data, .data], laidTests := true, laidLooks := .later }
def PnrSeatsUptoCardSaid : Prop := Claim7.holds Tryd.pinned (.plain (OpenSpec.upto pnrSeatsSpec)) pnrSeatsUptoCard

/-- THE SECOND FORM's CARD OF 'jetwaylaw12.PnrKeeps'. -/
def pnrKeepsUptoCard : Claim7 := { stood := { row := pnrKeepsUptoRow, standIns := [], harness := (true, "65034f0bb1ee2ebc61bb0f148b4a065c409b19804707f02d3afb30506ff2be33"), looks := false }, kinds := [], alts := [], laidByText := true, laidKinds := [.data, .data, .data], laidTests := true, laidLooks := .later }
def PnrKeepsUptoCardSaid : Prop := Claim7.holds Tryd.pinned (.plain (OpenSpec.upto pnrKeepsSpec)) pnrKeepsUptoCard

/-- THE SECOND FORM's CARD OF 'jetwaylaw12.PnrCancels'. -/
def pnrCancelsUptoCard : Claim7 := { stood := { row := pnrCancelsUptoRow, standIns := [], harness := (true, "65034f0bb1ee2ebc61bb0f148b4a065c409b19804707f02d3afb30506ff2be33"), looks := false }, kinds := [], alts := [], laidByText := true, laidKinds := [.data, .data, .data], laidTests := true, laidLooks := .later }
def PnrCancelsUptoCardSaid : Prop := Claim7.holds Tryd.pinned (.plain (OpenSpec.upto pnrCancelsSpec)) pnrCancelsUptoCard

/-- THE SECOND FORM's CARD OF 'jetwaylaw12.PnrSwaps'. -/
def pnrSwapsUptoCard : Claim7 := { stood := { row := pnrSwapsUptoRow, standIns := [], harness := (true, "65034f0bb1ee2ebc61bb0f148b4a065c409b19804707f02d3afb30506ff2be33"), looks := false }, kinds := [], alts := [], laidByText := true, laidKinds := [.data, .data, .data], laidTests := true, laidLooks := .later }
def PnrSwapsUptoCardSaid : Prop := Claim7.holds Tryd.pinned (.plain (OpenSpec.upto pnrSwapsSpec)) pnrSwapsUptoCard

/-- THE SECOND FORM's CARD OF 'jetwaylaw13.CheckGrows'. -/
def checkGrowsUptoCard : Claim7 := { stood := { row := checkGrowsUptoRow, standIns := [], harness := (true, "65034f0bb1ee2ebc61bb0f148b4a065c409b19804707f02d3afb30506ff2be33"), looks := false }, kinds := [], alts := [], laidByText := true, laidKinds := [.data, .data, .data], laidTests := true, laidLooks := .later }
def CheckGrowsUptoCardSaid : Prop := Claim7.holds Tryd.pinned (.plain (OpenSpec.upto checkGrowsSpec)) checkGrowsUptoCard
end Rows
end Go.Proofs.YtaakcccffmfmoaaDoor
