/- Go's '==' at legs. By program. -/
import Derived.Test.YtlkdefmceghmnaaGreatDoorFlEq
import Derived.Test.YtlkdefmceghmnaaGreatDoorStG
namespace Go.Proofs.YtlkdefmceghmnaaGreatDoor
set_option linter.unusedVariables false
open Go Go.RowKit
set_option maxHeartbeats 1000000 in
theorem eqi_leg (d : Nat) (a0 b0 : ByteArray) (a1 b1 : Int) (a2 b2 : Int) (u : World) : (Op.equalIn (d + 3) 74 (.agg #[.string a0, .int .i64 a1, .int .i64 a2]) (.agg #[.string b0, .int .i64 b1, .int .i64 b2])).run Tryz.prog u = .ok (decide (a0 = b0) && (decide (a1 = b1) && (decide (a2 = b2)))) u := by
  have uint := Tryz.underlying3
  have hS : Tryz.prog.underlying 74 = some (.struct (Tryz.prog.fieldsOf 74)) := by kernel_rfl
  have hp : Tryz.prog.stoodInHeld 74 = false := by kernel_rfl
  rw [run_equalIn_agg u (d + 2) _ _ _ hS hp]
  have e0 := fun u => eqi_key (d + 0) a0 b0 a1 b1 u
  have z0 := Tryz.sizeOf52
  have y0 := Tryz.isAgg52
  simp only [Program.fieldsOf, Tryz.underlying74]
  go_simp
  try simp only [toL]
  by_cases h0 : a0 = b0 <;> by_cases h1 : a1 = b1 <;> by_cases h2 : a2 = b2 <;> simp [h0, h1, h2]
theorem eql_leg (a0 b0 : ByteArray) (a1 b1 : Int) (a2 b2 : Int) (u : World) : (binOp .eql 74 (.agg #[.string a0, .int .i64 a1, .int .i64 a2]) (.agg #[.string b0, .int .i64 b1, .int .i64 b2])).run Tryz.prog u = .ok (.bool ((decide (a0 = b0) && (decide (a1 = b1) && (decide (a2 = b2)))))) u := by
  rw [run_eql_struct, show (10000 : Nat) = 9997 + 3 from rfl, eqi_leg]
  rfl
theorem neq_leg (a0 b0 : ByteArray) (a1 b1 : Int) (a2 b2 : Int) (u : World) : (binOp .neq 74 (.agg #[.string a0, .int .i64 a1, .int .i64 a2]) (.agg #[.string b0, .int .i64 b1, .int .i64 b2])).run Tryz.prog u = .ok (.bool (!(decide (a0 = b0) && (decide (a1 = b1) && (decide (a2 = b2)))))) u := by
  rw [run_neq_struct, show (10000 : Nat) = 9997 + 3 from rfl, eqi_leg]
  rfl
theorem dec_leg (a0 b0 : ByteArray) (a1 b1 a2 b2 : Int) : (decide (a0 = b0) && (decide (a1 = b1) && (decide (a2 = b2)))) = decide ((⟨⟨a0, a1⟩, a2⟩ : Leg) = ⟨⟨b0, b1⟩, b2⟩) := by
  rw [Bool.eq_iff_iff]
  simp [and_assoc]
theorem eql_lg (a b : Leg) (u : World) : (binOp .eql 74 (.agg #[.string a.key.car, .int .i64 a.key.num, .int .i64 a.day]) (.agg #[.string b.key.car, .int .i64 b.key.num, .int .i64 b.day])).run Tryz.prog u = .ok (.bool (decide (a = b))) u := by
  rw [eql_leg, dec_leg]
theorem neq_lg (a b : Leg) (u : World) : (binOp .neq 74 (.agg #[.string a.key.car, .int .i64 a.key.num, .int .i64 a.day]) (.agg #[.string b.key.car, .int .i64 b.key.num, .int .i64 b.day])).run Tryz.prog u = .ok (.bool (!decide (a = b))) u := by
  rw [neq_leg, dec_leg]
end Go.Proofs.YtlkdefmceghmnaaGreatDoor
