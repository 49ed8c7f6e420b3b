/- Put together by program of: RowC1, RowC7. -/
import Derived.Test.YteoiejngmcaahaaGreatDoorCards
import Derived.Test.YteoiejngmcaahaaGreatDoorTie
import Derived.Test.YteoiejngmcaahaaGreatDoorFCode
import Derived.ProofKit
import Derived.SevenTiedAt
namespace Go.Proofs.YteoiejngmcaahaaGreatDoor.rScriptBack
set_option linter.unusedVariables false
open Go Go.RowKit Go.ChangeShapes Go.WideShapes Go.ChangeAt
theorem k0 : (Rows.scriptBackRow.wf (OpenSpec.ofChange (OpenSpec.ofChange Rows.scriptBackSpec).bare)) = true := by kernel_rfl
theorem k1 : (laidOutB Tryz.prog) = true := by kernel_rfl
theorem k3 : (Tryz.f3.params.all (Tryz.prog.readableRec ·)) = true := by kernel_rfl
theorem k4 : (namedTie Tryz.prog Rows.scriptBackRow.named (OpenSpec.ofChange Rows.scriptBackSpec).bare.vars) = true := by kernel_rfl
theorem k5 : ((Rows.scriptBackRow.stops == [])) = true := by kernel_rfl
theorem k6 : ((Tryz.prog.stops == [])) = true := by kernel_rfl
theorem k7 : ((Rows.scriptBackRow.knobs == [])) = true := by kernel_rfl
theorem k8 : ((Tryz.prog.stopKnobs == [])) = true := by kernel_rfl
theorem k13 : ((Rows.scriptBackRow.maps == (Tryz.f3.params.toList ++ (OpenSpec.ofChange Rows.scriptBackSpec).bare.plain.varTypes Tryz.prog).any (Tryz.prog.mapsRec ·))) = true := by kernel_rfl
theorem k14 : ((Rows.scriptBackRow.ifaces == (Tryz.f3.params.toList ++ (OpenSpec.ofChange Rows.scriptBackSpec).bare.plain.varTypes Tryz.prog).any (Tryz.prog.ifacesRec ·))) = true := by kernel_rfl
theorem k15 : ((Rows.scriptBackRow.mapsOut == Tryz.prog.mapsAmong Tryz.f3.resultTypes.toList)) = true := by kernel_rfl
theorem k16 : ((Rows.scriptBackRow.loops == (Tryz.f3.params.toList ++ (OpenSpec.ofChange Rows.scriptBackSpec).bare.plain.varTypes Tryz.prog).any (Tryz.prog.loopsFrom ·))) = true := by kernel_rfl
theorem k17 : ((Rows.scriptBackRow.wideKeys == (Tryz.f3.params.toList ++ (OpenSpec.ofChange Rows.scriptBackSpec).bare.plain.varTypes Tryz.prog ++ Tryz.f3.resultTypes.toList).any (Tryz.prog.wideKeysFrom ·))) = true := by kernel_rfl
theorem k18 : ((OpenSpec.ofChange Rows.scriptBackSpec).bare.vars.all (Tryz.prog.varReadable ·)) = true := by kernel_rfl
theorem k19 : (Tryz.f3.resultTypes.all (fun t => Tryz.prog.readableRec t && decide (t < Tryz.prog.types.size))) = true := by kernel_rfl
theorem k20 : ((Rows.scriptBackRow.ifacesOut == Tryz.f3.resultTypes.toList.any (Tryz.prog.ifacesRec ·))) = true := by kernel_rfl
theorem k21 : ((Rows.scriptBackRow.loopsOut == Tryz.f3.resultTypes.toList.any (Tryz.prog.loopsFrom ·))) = true := by kernel_rfl
theorem k22 : ((Rows.scriptBackRow.plainKeys == Tryz.prog.plainKeys)) = true := by kernel_rfl
theorem k23 : (Rows.scriptBackRow.shortTexts.isNone) = true := by kernel_rfl
theorem k27 : ((Tryz.prog.make == some Rows.scriptBackRow.make)) = true := by kernel_rfl
theorem k28 : ((Rows.scriptBackRow.kinds == (if Rows.scriptBackRow.domain.isEmpty then [] else Tryz.f3.params.toList.map fun t => match Tryz.prog.underlying t with | some (.int k) => some k | _ => none))) = true := by kernel_rfl
theorem k29 : ((Rows.scriptBackRow.pinned == Rows.scriptBackRow.pinnedBy)) = true := by kernel_rfl
theorem k30 : ((Rows.scriptBackRow.veiled == (Tryz.f3.params.toList ++ (OpenSpec.ofChange Rows.scriptBackSpec).bare.plain.varTypes Tryz.prog ++ Tryz.f3.resultTypes.toList).any (Tryz.prog.veiledRec ·))) = true := by kernel_rfl
theorem k31 : (Rows.scriptBackRow.veiledFits Tryz.prog Tryz.f3.params.toList (Tryz.f3.params.toList ++ (OpenSpec.ofChange Rows.scriptBackSpec).bare.plain.varTypes Tryz.prog ++ Tryz.f3.resultTypes.toList)) = true := by kernel_rfl
end Go.Proofs.YteoiejngmcaahaaGreatDoor.rScriptBack
namespace Go.Proofs.YteoiejngmcaahaaGreatDoor.rScriptBack
set_option linter.unusedVariables false
open Go Go.RowKit Go.ChangeShapes Go.WideShapes Go.ChangeAt
theorem k26 : ((Rows.scriptBackRow.lifted == Tryz.prog.liftsFinal)) = true := by kernel_rfl
end Go.Proofs.YteoiejngmcaahaaGreatDoor.rScriptBack
