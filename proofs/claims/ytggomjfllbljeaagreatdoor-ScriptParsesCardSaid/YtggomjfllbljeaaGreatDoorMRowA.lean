/- Put together by program of: RowC1, RowC7. -/
import Derived.Test.YtggomjfllbljeaaGreatDoorCards
import Derived.Test.YtggomjfllbljeaaGreatDoorTie
import Derived.Test.YtggomjfllbljeaaGreatDoorFCode
import Derived.ProofKit
import Derived.SevenTiedAt
namespace Go.Proofs.YtggomjfllbljeaaGreatDoor.rScriptParses
set_option linter.unusedVariables false
open Go Go.RowKit Go.ChangeShapes Go.WideShapes Go.ChangeAt
theorem k0 : (Rows.scriptParsesRow.wf (OpenSpec.ofChange (OpenSpec.ofChange Rows.scriptParsesSpec).bare)) = true := by kernel_rfl
theorem k1 : (laidOutB Tryz.prog) = true := by kernel_rfl
theorem k3 : (Tryz.f3.params.all (Tryz.prog.readableRec ·)) = true := by kernel_rfl
theorem k4 : (namedTie Tryz.prog Rows.scriptParsesRow.named (OpenSpec.ofChange Rows.scriptParsesSpec).bare.vars) = true := by kernel_rfl
theorem k5 : ((Rows.scriptParsesRow.stops == [])) = true := by kernel_rfl
theorem k6 : ((Tryz.prog.stops == [])) = true := by kernel_rfl
theorem k7 : ((Rows.scriptParsesRow.knobs == [])) = true := by kernel_rfl
theorem k8 : ((Tryz.prog.stopKnobs == [])) = true := by kernel_rfl
theorem k13 : ((Rows.scriptParsesRow.maps == (Tryz.f3.params.toList ++ (OpenSpec.ofChange Rows.scriptParsesSpec).bare.plain.varTypes Tryz.prog).any (Tryz.prog.mapsRec ·))) = true := by kernel_rfl
theorem k14 : ((Rows.scriptParsesRow.ifaces == (Tryz.f3.params.toList ++ (OpenSpec.ofChange Rows.scriptParsesSpec).bare.plain.varTypes Tryz.prog).any (Tryz.prog.ifacesRec ·))) = true := by kernel_rfl
theorem k15 : ((Rows.scriptParsesRow.mapsOut == Tryz.prog.mapsAmong Tryz.f3.resultTypes.toList)) = true := by kernel_rfl
theorem k16 : ((Rows.scriptParsesRow.loops == (Tryz.f3.params.toList ++ (OpenSpec.ofChange Rows.scriptParsesSpec).bare.plain.varTypes Tryz.prog).any (Tryz.prog.loopsFrom ·))) = true := by kernel_rfl
theorem k17 : ((Rows.scriptParsesRow.wideKeys == (Tryz.f3.params.toList ++ (OpenSpec.ofChange Rows.scriptParsesSpec).bare.plain.varTypes Tryz.prog ++ Tryz.f3.resultTypes.toList).any (Tryz.prog.wideKeysFrom ·))) = true := by kernel_rfl
theorem k18 : ((OpenSpec.ofChange Rows.scriptParsesSpec).bare.vars.all (Tryz.prog.varReadable ·)) = true := by kernel_rfl
theorem k19 : (Tryz.f3.resultTypes.all (fun t => Tryz.prog.readableRec t && decide (t < Tryz.prog.types.size))) = true := by kernel_rfl
theorem k20 : ((Rows.scriptParsesRow.ifacesOut == Tryz.f3.resultTypes.toList.any (Tryz.prog.ifacesRec ·))) = true := by kernel_rfl
theorem k21 : ((Rows.scriptParsesRow.loopsOut == Tryz.f3.resultTypes.toList.any (Tryz.prog.loopsFrom ·))) = true := by kernel_rfl
theorem k22 : ((Rows.scriptParsesRow.plainKeys == Tryz.prog.plainKeys)) = true := by kernel_rfl
theorem k23 : (Rows.scriptParsesRow.shortTexts.isNone) = true := by kernel_rfl
theorem k27 : ((Tryz.prog.make == some Rows.scriptParsesRow.make)) = true := by kernel_rfl
theorem k28 : ((Rows.scriptParsesRow.kinds == (if Rows.scriptParsesRow.domain.isEmpty then [] else Tryz.f3.params.toList.map fun t => match Tryz.prog.underlying t with | some (.int k) => some k | _ => none))) = true := by kernel_rfl
theorem k29 : ((Rows.scriptParsesRow.pinned == Rows.scriptParsesRow.pinnedBy)) = true := by kernel_rfl
theorem k30 : ((Rows.scriptParsesRow.veiled == (Tryz.f3.params.toList ++ (OpenSpec.ofChange Rows.scriptParsesSpec).bare.plain.varTypes Tryz.prog ++ Tryz.f3.resultTypes.toList).any (Tryz.prog.veiledRec ·))) = true := by kernel_rfl
theorem k31 : (Rows.scriptParsesRow.veiledFits Tryz.prog Tryz.f3.params.toList (Tryz.f3.params.toList ++ (OpenSpec.ofChange Rows.scriptParsesSpec).bare.plain.varTypes Tryz.prog ++ Tryz.f3.resultTypes.toList)) = true := by kernel_rfl
end Go.Proofs.YtggomjfllbljeaaGreatDoor.rScriptParses
namespace Go.Proofs.YtggomjfllbljeaaGreatDoor.rScriptParses
set_option linter.unusedVariables false
open Go Go.RowKit Go.ChangeShapes Go.WideShapes Go.ChangeAt
theorem k26 : ((Rows.scriptParsesRow.lifted == Tryz.prog.liftsFinal)) = true := by kernel_rfl
end Go.Proofs.YtggomjfllbljeaaGreatDoor.rScriptParses
