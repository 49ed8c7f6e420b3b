/- The document's order of flights, and a flight put into its place. -/
import Derived.Test.YtlkdefmceghmnaaGreatDoorFlSame
import Derived.Deep.RegionWith
import Derived.Deep.DrawnRows
namespace Go.Proofs.YtlkdefmceghmnaaGreatDoor
set_option linter.unusedVariables false
open Go Go.RowKit Go.Sort
attribute [local go_sem ↓] Go.wp_at_zero Go.wp_at_succ
theorem ltF_or' (a b : Flt) : ltF a b = (ltS a.car b.car || (eqTx a.car b.car && decide (a.num < b.num))) := by
  rw [Bool.eq_iff_iff, ltF_iff]
  unfold eqTx
  simp
theorem ltT_or' (a b : Flt) : ltT a b = (decide (a.dep < b.dep) || (decide (a.dep = b.dep) && ltF a b)) := by
  rw [Bool.eq_iff_iff]
  unfold ltT
  rw [ltX_iff]
  simp
end Go.Proofs.YtlkdefmceghmnaaGreatDoor
