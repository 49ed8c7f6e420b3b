/- Package due: of none due none is ripe. -/
import Derived.Test.YtggomjfllbljeaaGreatDoorMNx
namespace Go.Proofs.YtggomjfllbljeaaGreatDoor
set_option linter.unusedVariables false
open Go Go.RowKit
set_option maxRecDepth 100000 in
theorem insert_d (W : World) (f : Value) : Calls Tryz.prog 391 #[.slice none 0 0, .int .i64 0, .int .i64 0, f] W (RetV W) := by
  go_enter Tryz.func391, Tryz.ntmps391
  go_wp2
  go_loop [8] (fun i => i = .int .i64 1) (fun _ => 0)
  case atStart => rfl
  case round =>
    obtain rfl := hrel
    go_wp2
    first | refine bodyPost_ret (results_none rfl _ _ _) rfl ?_ | refine bodyPost_end (results_none rfl _ _ _) rfl ?_
    exact ⟨rfl, rfl⟩
set_option maxRecDepth 100000 in
set_option maxHeartbeats 4000000 in
theorem pdq_d (W : World) (f : Value) : Calls Tryz.prog 338 #[.slice none 0 0, .int .i64 0, .int .i64 0, .int .i64 0, f] W (RetV W) := by
  go_enter Tryz.func338, Tryz.ntmps338
  go_wp2
  go_loop [1, 2] (fun a b => a = .int .i64 0 ∧ b = .int .i64 0) (fun _ _ => 0)
  case atStart => exact ⟨rfl, rfl⟩
  case round =>
    obtain ⟨rfl, rfl⟩ := hrel
    go_wp2_with fail
    refine (insert_d _ _).mono ?_
    rintro e V ⟨rfl, rfl⟩
    go_wp2
    first | refine bodyPost_ret (results_none rfl _ _ _) rfl ?_ | refine bodyPost_end (results_none rfl _ _ _) rfl ?_
    exact ⟨rfl, rfl⟩
set_option maxRecDepth 100000 in
theorem sort_d (W : World) (f : Value) : Calls Tryz.prog 245 #[.slice none 0 0, f] W (RetV W) := by
  go_enter Tryz.func245, Tryz.ntmps245
  go_wp2_with fail
  refine (len_0 _).mono ?_
  rintro e V ⟨rfl, rfl⟩
  go_wp2_with fail
  refine (pdq_d _ _).mono ?_
  rintro e V ⟨rfl, rfl⟩
  go_wp2
  first | refine bodyPost_ret (results_none rfl _ _ _) rfl ?_ | refine bodyPost_end (results_none rfl _ _ _) rfl ?_
  exact ⟨rfl, rfl⟩
set_option maxRecDepth 100000 in
theorem ripe_0 {W : World} {du : Nat} {mp : Option Nat} (hd : Bx W du #[.slice none 0 0, .map mp] 322) (n : Int) : Calls Tryz.prog 139 #[.pointer (some ⟨du, 0, none⟩), .int .i64 n] W fun e W' => e = .returned (.slice none 0 0) ∧ W = W' := by
  have c1 := hd.cells
  go_enter Tryz.func139, Tryz.ntmps139
  go_wp2
  go_loop [5, 16] (fun l i => l = .slice none 0 0 ∧ i = .int .i64 0) (fun _ _ => 0)
  case atStart => exact ⟨rfl, rfl⟩
  case round =>
    obtain ⟨rfl, rfl⟩ := hrel
    go_wp2_with fail
    refine (sort_d _ _).mono ?_
    rintro e V ⟨rfl, rfl⟩
    go_wp2
    go_loop [8, 35] (fun l i => l = .slice none 0 0 ∧ i = .int .i64 0) (fun _ _ => 0)
    case atStart => exact ⟨rfl, rfl⟩
    case round =>
      obtain ⟨rfl, rfl⟩ := hrel
      go_wp2
      go_ret
      exact ⟨rfl, rfl⟩
end Go.Proofs.YtggomjfllbljeaaGreatDoor
