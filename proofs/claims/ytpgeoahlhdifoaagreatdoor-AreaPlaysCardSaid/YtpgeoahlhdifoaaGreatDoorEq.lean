/- Go's '==' and '!=' at the program's structs are equality of the plain data. -/
import Derived.Test.YtpgeoahlhdifoaaGreatDoorLive
import Derived.Laws.StructEq
namespace Go.Proofs.YtpgeoahlhdifoaaGreatDoor
set_option linter.unusedVariables false
open Go Go.RowKit
instance : DecidableEq Nam := fun a b => decidable_of_iff (a.last = b.last ∧ a.first = b.first) (by cases a; cases b; simp)
instance : DecidableEq Tik := fun a b => decidable_of_iff (a.kind = b.kind ∧ a.day = b.day ∧ a.min = b.min) (by cases a; cases b; simp)
instance : DecidableEq Seg := fun a b => decidable_of_iff (a.car = b.car ∧ a.num = b.num ∧ a.day = b.day ∧ a.cls = b.cls ∧ a.live = b.live) (by cases a; cases b; simp)
instance : DecidableEq Plc := fun a b => decidable_of_iff (a.seg = b.seg ∧ a.pax = b.pax ∧ a.row = b.row ∧ a.let_ = b.let_) (by cases a; cases b; simp)
theorem eqL (a b : ByteArray) : (a.toList == b.toList) = decide (a = b) := by
  rw [Bool.eq_iff_iff, beq_iff_eq, decide_eq_true_eq, ByteArray.toList_eq, ByteArray.toList_eq]
  obtain ⟨⟨x⟩⟩ := a
  obtain ⟨⟨y⟩⟩ := b
  simp
theorem toL (a b : ByteArray) : (a.toList = b.toList) = (a = b) := by
  have := eqL a b
  rw [Bool.eq_iff_iff, beq_iff_eq, decide_eq_true_eq] at this
  exact propext this
theorem eqB (a b : Bool) : (a == b) = decide (a = b) := by cases a <;> cases b <;> rfl
set_option maxHeartbeats 1000000 in
theorem eqi_name (d : Nat) (a0 b0 : ByteArray) (a1 b1 : ByteArray) (u : World) : (Op.equalIn (d + 2) 40 (.agg #[.string a0, .string a1]) (.agg #[.string b0, .string b1])).run Tryz.prog u = .ok (decide (a0 = b0) && (decide (a1 = b1))) u := by
  have ustr := Tryz.underlying9
  have hS : Tryz.prog.underlying 40 = some (.struct (Tryz.prog.fieldsOf 40)) := by kernel_rfl
  have hp : Tryz.prog.stoodInHeld 40 = false := by kernel_rfl
  rw [run_equalIn_agg u (d + 1) _ _ _ hS hp]
  simp only [Program.fieldsOf, Tryz.underlying40]
  go_simp
  try simp only [toL]
  by_cases h0 : a0 = b0 <;> by_cases h1 : a1 = b1 <;> simp [h0, h1]
theorem eql_name (a0 b0 : ByteArray) (a1 b1 : ByteArray) (u : World) : (binOp .eql 40 (.agg #[.string a0, .string a1]) (.agg #[.string b0, .string b1])).run Tryz.prog u = .ok (.bool ((decide (a0 = b0) && (decide (a1 = b1))))) u := by
  rw [run_eql_struct, show (10000 : Nat) = 9998 + 2 from rfl, eqi_name]
  rfl
theorem neq_name (a0 b0 : ByteArray) (a1 b1 : ByteArray) (u : World) : (binOp .neq 40 (.agg #[.string a0, .string a1]) (.agg #[.string b0, .string b1])).run Tryz.prog u = .ok (.bool (!(decide (a0 = b0) && (decide (a1 = b1))))) u := by
  rw [run_neq_struct, show (10000 : Nat) = 9998 + 2 from rfl, eqi_name]
  rfl
set_option maxHeartbeats 1000000 in
theorem eqi_key (d : Nat) (a0 b0 : ByteArray) (a1 b1 : Int) (u : World) : (Op.equalIn (d + 2) 42 (.agg #[.string a0, .int .i64 a1]) (.agg #[.string b0, .int .i64 b1])).run Tryz.prog u = .ok (decide (a0 = b0) && (decide (a1 = b1))) u := by
  have ustr := Tryz.underlying9
  have uint := Tryz.underlying3
  have hS : Tryz.prog.underlying 42 = some (.struct (Tryz.prog.fieldsOf 42)) := by kernel_rfl
  have hp : Tryz.prog.stoodInHeld 42 = false := by kernel_rfl
  rw [run_equalIn_agg u (d + 1) _ _ _ hS hp]
  simp only [Program.fieldsOf, Tryz.underlying42]
  go_simp
  try simp only [toL]
  by_cases h0 : a0 = b0 <;> by_cases h1 : a1 = b1 <;> simp [h0, h1]
theorem eql_key (a0 b0 : ByteArray) (a1 b1 : Int) (u : World) : (binOp .eql 42 (.agg #[.string a0, .int .i64 a1]) (.agg #[.string b0, .int .i64 b1])).run Tryz.prog u = .ok (.bool ((decide (a0 = b0) && (decide (a1 = b1))))) u := by
  rw [run_eql_struct, show (10000 : Nat) = 9998 + 2 from rfl, eqi_key]
  rfl
theorem neq_key (a0 b0 : ByteArray) (a1 b1 : Int) (u : World) : (binOp .neq 42 (.agg #[.string a0, .int .i64 a1]) (.agg #[.string b0, .int .i64 b1])).run Tryz.prog u = .ok (.bool (!(decide (a0 = b0) && (decide (a1 = b1))))) u := by
  rw [run_neq_struct, show (10000 : Nat) = 9998 + 2 from rfl, eqi_key]
  rfl
set_option maxHeartbeats 1000000 in
theorem eqi_leg (d : Nat) (a0 b0 : ByteArray) (a1 b1 : Int) (a2 b2 : Int) (u : World) : (Op.equalIn (d + 3) 44 (.agg #[.string a0, .int .i64 a1, .int .i64 a2]) (.agg #[.string b0, .int .i64 b1, .int .i64 b2])).run Tryz.prog u = .ok (decide (a0 = b0) && (decide (a1 = b1) && (decide (a2 = b2)))) u := by
  have uint := Tryz.underlying3
  have hS : Tryz.prog.underlying 44 = some (.struct (Tryz.prog.fieldsOf 44)) := by kernel_rfl
  have hp : Tryz.prog.stoodInHeld 44 = false := by kernel_rfl
  rw [run_equalIn_agg u (d + 2) _ _ _ hS hp]
  have e0 := fun u => eqi_key (d + 0) a0 b0 a1 b1 u
  have z0 := Tryz.sizeOf42
  have y0 := Tryz.isAgg42
  simp only [Program.fieldsOf, Tryz.underlying44]
  go_simp
  try simp only [toL]
  by_cases h0 : a0 = b0 <;> by_cases h1 : a1 = b1 <;> by_cases h2 : a2 = b2 <;> simp [h0, h1, h2]
theorem eql_leg (a0 b0 : ByteArray) (a1 b1 : Int) (a2 b2 : Int) (u : World) : (binOp .eql 44 (.agg #[.string a0, .int .i64 a1, .int .i64 a2]) (.agg #[.string b0, .int .i64 b1, .int .i64 b2])).run Tryz.prog u = .ok (.bool ((decide (a0 = b0) && (decide (a1 = b1) && (decide (a2 = b2)))))) u := by
  rw [run_eql_struct, show (10000 : Nat) = 9997 + 3 from rfl, eqi_leg]
  rfl
theorem neq_leg (a0 b0 : ByteArray) (a1 b1 : Int) (a2 b2 : Int) (u : World) : (binOp .neq 44 (.agg #[.string a0, .int .i64 a1, .int .i64 a2]) (.agg #[.string b0, .int .i64 b1, .int .i64 b2])).run Tryz.prog u = .ok (.bool (!(decide (a0 = b0) && (decide (a1 = b1) && (decide (a2 = b2)))))) u := by
  rw [run_neq_struct, show (10000 : Nat) = 9997 + 3 from rfl, eqi_leg]
  rfl
set_option maxHeartbeats 1000000 in
theorem eqi_seat (d : Nat) (a0 b0 : Int) (a1 b1 : Int) (u : World) : (Op.equalIn (d + 2) 48 (.agg #[.int .i64 a0, .int .u8 a1]) (.agg #[.int .i64 b0, .int .u8 b1])).run Tryz.prog u = .ok (decide (a0 = b0) && (decide (a1 = b1))) u := by
  have uint := Tryz.underlying3
  have ubyte := Tryz.underlying5
  have hS : Tryz.prog.underlying 48 = some (.struct (Tryz.prog.fieldsOf 48)) := by kernel_rfl
  have hp : Tryz.prog.stoodInHeld 48 = false := by kernel_rfl
  rw [run_equalIn_agg u (d + 1) _ _ _ hS hp]
  simp only [Program.fieldsOf, Tryz.underlying48]
  go_simp
  try simp only [toL]
  by_cases h0 : a0 = b0 <;> by_cases h1 : a1 = b1 <;> simp [h0, h1]
theorem eql_seat (a0 b0 : Int) (a1 b1 : Int) (u : World) : (binOp .eql 48 (.agg #[.int .i64 a0, .int .u8 a1]) (.agg #[.int .i64 b0, .int .u8 b1])).run Tryz.prog u = .ok (.bool ((decide (a0 = b0) && (decide (a1 = b1))))) u := by
  rw [run_eql_struct, show (10000 : Nat) = 9998 + 2 from rfl, eqi_seat]
  rfl
theorem neq_seat (a0 b0 : Int) (a1 b1 : Int) (u : World) : (binOp .neq 48 (.agg #[.int .i64 a0, .int .u8 a1]) (.agg #[.int .i64 b0, .int .u8 b1])).run Tryz.prog u = .ok (.bool (!(decide (a0 = b0) && (decide (a1 = b1))))) u := by
  rw [run_neq_struct, show (10000 : Nat) = 9998 + 2 from rfl, eqi_seat]
  rfl
set_option maxHeartbeats 1000000 in
theorem eqi_ticket (d : Nat) (a0 b0 : Int) (a1 b1 : Int) (a2 b2 : Int) (u : World) : (Op.equalIn (d + 2) 26 (.agg #[.int .i64 a0, .int .i64 a1, .int .i64 a2]) (.agg #[.int .i64 b0, .int .i64 b1, .int .i64 b2])).run Tryz.prog u = .ok (decide (a0 = b0) && (decide (a1 = b1) && (decide (a2 = b2)))) u := by
  have uint := Tryz.underlying3
  have hS : Tryz.prog.underlying 26 = some (.struct (Tryz.prog.fieldsOf 26)) := by kernel_rfl
  have hp : Tryz.prog.stoodInHeld 26 = false := by kernel_rfl
  rw [run_equalIn_agg u (d + 1) _ _ _ hS hp]
  simp only [Program.fieldsOf, Tryz.underlying26]
  go_simp
  try simp only [toL]
  by_cases h0 : a0 = b0 <;> by_cases h1 : a1 = b1 <;> by_cases h2 : a2 = b2 <;> simp [h0, h1, h2]
theorem eql_ticket (a0 b0 : Int) (a1 b1 : Int) (a2 b2 : Int) (u : World) : (binOp .eql 26 (.agg #[.int .i64 a0, .int .i64 a1, .int .i64 a2]) (.agg #[.int .i64 b0, .int .i64 b1, .int .i64 b2])).run Tryz.prog u = .ok (.bool ((decide (a0 = b0) && (decide (a1 = b1) && (decide (a2 = b2)))))) u := by
  rw [run_eql_struct, show (10000 : Nat) = 9998 + 2 from rfl, eqi_ticket]
  rfl
theorem neq_ticket (a0 b0 : Int) (a1 b1 : Int) (a2 b2 : Int) (u : World) : (binOp .neq 26 (.agg #[.int .i64 a0, .int .i64 a1, .int .i64 a2]) (.agg #[.int .i64 b0, .int .i64 b1, .int .i64 b2])).run Tryz.prog u = .ok (.bool (!(decide (a0 = b0) && (decide (a1 = b1) && (decide (a2 = b2)))))) u := by
  rw [run_neq_struct, show (10000 : Nat) = 9998 + 2 from rfl, eqi_ticket]
  rfl
set_option maxHeartbeats 1000000 in
theorem eqi_segment (d : Nat) (a0 b0 : ByteArray) (a1 b1 : Int) (a2 b2 : Int) (a3 b3 : Int) (a4 b4 : Bool) (u : World) : (Op.equalIn (d + 4) 46 (.agg #[.string a0, .int .i64 a1, .int .i64 a2, .int .u8 a3, .bool a4]) (.agg #[.string b0, .int .i64 b1, .int .i64 b2, .int .u8 b3, .bool b4])).run Tryz.prog u = .ok (decide (a0 = b0) && (decide (a1 = b1) && (decide (a2 = b2) && (decide (a3 = b3) && (decide (a4 = b4)))))) u := by
  have ubyte := Tryz.underlying5
  have ubool := Tryz.underlying4
  have hS : Tryz.prog.underlying 46 = some (.struct (Tryz.prog.fieldsOf 46)) := by kernel_rfl
  have hp : Tryz.prog.stoodInHeld 46 = false := by kernel_rfl
  rw [run_equalIn_agg u (d + 3) _ _ _ hS hp]
  have e0 := fun u => eqi_leg (d + 0) a0 b0 a1 b1 a2 b2 u
  have z0 := Tryz.sizeOf44
  have y0 := Tryz.isAgg44
  simp only [Program.fieldsOf, Tryz.underlying46]
  go_simp
  try simp only [toL]
  by_cases h0 : a0 = b0 <;> by_cases h1 : a1 = b1 <;> by_cases h2 : a2 = b2 <;> by_cases h3 : a3 = b3 <;> by_cases h4 : a4 = b4 <;> simp [h0, h1, h2, h3, h4]
theorem eql_segment (a0 b0 : ByteArray) (a1 b1 : Int) (a2 b2 : Int) (a3 b3 : Int) (a4 b4 : Bool) (u : World) : (binOp .eql 46 (.agg #[.string a0, .int .i64 a1, .int .i64 a2, .int .u8 a3, .bool a4]) (.agg #[.string b0, .int .i64 b1, .int .i64 b2, .int .u8 b3, .bool b4])).run Tryz.prog u = .ok (.bool ((decide (a0 = b0) && (decide (a1 = b1) && (decide (a2 = b2) && (decide (a3 = b3) && (decide (a4 = b4)))))))) u := by
  rw [run_eql_struct, show (10000 : Nat) = 9996 + 4 from rfl, eqi_segment]
  rfl
theorem neq_segment (a0 b0 : ByteArray) (a1 b1 : Int) (a2 b2 : Int) (a3 b3 : Int) (a4 b4 : Bool) (u : World) : (binOp .neq 46 (.agg #[.string a0, .int .i64 a1, .int .i64 a2, .int .u8 a3, .bool a4]) (.agg #[.string b0, .int .i64 b1, .int .i64 b2, .int .u8 b3, .bool b4])).run Tryz.prog u = .ok (.bool (!(decide (a0 = b0) && (decide (a1 = b1) && (decide (a2 = b2) && (decide (a3 = b3) && (decide (a4 = b4)))))))) u := by
  rw [run_neq_struct, show (10000 : Nat) = 9996 + 4 from rfl, eqi_segment]
  rfl
set_option maxHeartbeats 1000000 in
theorem eqi_place (d : Nat) (a0 b0 : Int) (a1 b1 : Int) (a2 b2 : Int) (a3 b3 : Int) (u : World) : (Op.equalIn (d + 3) 87 (.agg #[.int .i64 a0, .int .i64 a1, .int .i64 a2, .int .u8 a3]) (.agg #[.int .i64 b0, .int .i64 b1, .int .i64 b2, .int .u8 b3])).run Tryz.prog u = .ok (decide (a0 = b0) && (decide (a1 = b1) && (decide (a2 = b2) && (decide (a3 = b3))))) u := by
  have uint := Tryz.underlying3
  have hS : Tryz.prog.underlying 87 = some (.struct (Tryz.prog.fieldsOf 87)) := by kernel_rfl
  have hp : Tryz.prog.stoodInHeld 87 = false := by kernel_rfl
  rw [run_equalIn_agg u (d + 2) _ _ _ hS hp]
  have e2 := fun u => eqi_seat (d + 0) a2 b2 a3 b3 u
  have z2 := Tryz.sizeOf48
  have y2 := Tryz.isAgg48
  simp only [Program.fieldsOf, Tryz.underlying87]
  go_simp
  try simp only [toL]
  by_cases h0 : a0 = b0 <;> by_cases h1 : a1 = b1 <;> by_cases h2 : a2 = b2 <;> by_cases h3 : a3 = b3 <;> simp [h0, h1, h2, h3]
theorem eql_place (a0 b0 : Int) (a1 b1 : Int) (a2 b2 : Int) (a3 b3 : Int) (u : World) : (binOp .eql 87 (.agg #[.int .i64 a0, .int .i64 a1, .int .i64 a2, .int .u8 a3]) (.agg #[.int .i64 b0, .int .i64 b1, .int .i64 b2, .int .u8 b3])).run Tryz.prog u = .ok (.bool ((decide (a0 = b0) && (decide (a1 = b1) && (decide (a2 = b2) && (decide (a3 = b3))))))) u := by
  rw [run_eql_struct, show (10000 : Nat) = 9997 + 3 from rfl, eqi_place]
  rfl
theorem neq_place (a0 b0 : Int) (a1 b1 : Int) (a2 b2 : Int) (a3 b3 : Int) (u : World) : (binOp .neq 87 (.agg #[.int .i64 a0, .int .i64 a1, .int .i64 a2, .int .u8 a3]) (.agg #[.int .i64 b0, .int .i64 b1, .int .i64 b2, .int .u8 b3])).run Tryz.prog u = .ok (.bool (!(decide (a0 = b0) && (decide (a1 = b1) && (decide (a2 = b2) && (decide (a3 = b3))))))) u := by
  rw [run_neq_struct, show (10000 : Nat) = 9997 + 3 from rfl, eqi_place]
  rfl
end Go.Proofs.YtpgeoahlhdifoaaGreatDoor
