/- Go's '==' and '!=' at classes and keys are equality of the plain data. By program. -/
import Derived.Test.YtlkdefmceghmnaaGreatDoorFlRight
import Derived.Laws.StructEq
namespace Go.Proofs.YtlkdefmceghmnaaGreatDoor
set_option linter.unusedVariables false
open Go Go.RowKit
theorem toL (a b : ByteArray) : (a.toList = b.toList) = (a = b) := propext ⟨toList_inj, fun h => by rw [h]⟩
set_option maxHeartbeats 1000000 in
theorem eqi_class (d : Nat) (a0 b0 : Int) (a1 b1 : Int) (u : World) : (Op.equalIn (d + 2) 99 (.agg #[.int .u8 a0, .int .i64 a1]) (.agg #[.int .u8 b0, .int .i64 b1])).run Tryz.prog u = .ok (decide (a0 = b0) && (decide (a1 = b1))) u := by
  have ubyte := Tryz.underlying5
  have uint := Tryz.underlying3
  have hS : Tryz.prog.underlying 99 = some (.struct (Tryz.prog.fieldsOf 99)) := by kernel_rfl
  have hp : Tryz.prog.stoodInHeld 99 = false := by kernel_rfl
  rw [run_equalIn_agg u (d + 1) _ _ _ hS hp]
  simp only [Program.fieldsOf, Tryz.underlying99]
  go_simp
  try simp only [toL]
  by_cases h0 : a0 = b0 <;> by_cases h1 : a1 = b1 <;> simp [h0, h1]
theorem eql_class (a0 b0 : Int) (a1 b1 : Int) (u : World) : (binOp .eql 99 (.agg #[.int .u8 a0, .int .i64 a1]) (.agg #[.int .u8 b0, .int .i64 b1])).run Tryz.prog u = .ok (.bool ((decide (a0 = b0) && (decide (a1 = b1))))) u := by
  rw [run_eql_struct, show (10000 : Nat) = 9998 + 2 from rfl, eqi_class]
  rfl
theorem neq_class (a0 b0 : Int) (a1 b1 : Int) (u : World) : (binOp .neq 99 (.agg #[.int .u8 a0, .int .i64 a1]) (.agg #[.int .u8 b0, .int .i64 b1])).run Tryz.prog u = .ok (.bool (!(decide (a0 = b0) && (decide (a1 = b1))))) u := by
  rw [run_neq_struct, show (10000 : Nat) = 9998 + 2 from rfl, eqi_class]
  rfl
set_option maxHeartbeats 1000000 in
theorem eqi_key (d : Nat) (a0 b0 : ByteArray) (a1 b1 : Int) (u : World) : (Op.equalIn (d + 2) 52 (.agg #[.string a0, .int .i64 a1]) (.agg #[.string b0, .int .i64 b1])).run Tryz.prog u = .ok (decide (a0 = b0) && (decide (a1 = b1))) u := by
  have ustr := Tryz.underlying9
  have uint := Tryz.underlying3
  have hS : Tryz.prog.underlying 52 = some (.struct (Tryz.prog.fieldsOf 52)) := by kernel_rfl
  have hp : Tryz.prog.stoodInHeld 52 = false := by kernel_rfl
  rw [run_equalIn_agg u (d + 1) _ _ _ hS hp]
  simp only [Program.fieldsOf, Tryz.underlying52]
  go_simp
  try simp only [toL]
  by_cases h0 : a0 = b0 <;> by_cases h1 : a1 = b1 <;> simp [h0, h1]
theorem eql_key (a0 b0 : ByteArray) (a1 b1 : Int) (u : World) : (binOp .eql 52 (.agg #[.string a0, .int .i64 a1]) (.agg #[.string b0, .int .i64 b1])).run Tryz.prog u = .ok (.bool ((decide (a0 = b0) && (decide (a1 = b1))))) u := by
  rw [run_eql_struct, show (10000 : Nat) = 9998 + 2 from rfl, eqi_key]
  rfl
theorem neq_key (a0 b0 : ByteArray) (a1 b1 : Int) (u : World) : (binOp .neq 52 (.agg #[.string a0, .int .i64 a1]) (.agg #[.string b0, .int .i64 b1])).run Tryz.prog u = .ok (.bool (!(decide (a0 = b0) && (decide (a1 = b1))))) u := by
  rw [run_neq_struct, show (10000 : Nat) = 9998 + 2 from rfl, eqi_key]
  rfl
end Go.Proofs.YtlkdefmceghmnaaGreatDoor
