/- Days, times and moments; seats' texts: the program's answers and the document's. -/
import Derived.Test.YtaakcccffmfmoaaDoorFree
import Derived.Test.YtaakcccffmfmoaaDoorModel
namespace Go.Proofs.YtaakcccffmfmoaaDoor
set_option linter.unusedVariables false
open Go Go.RowKit
def dayB (d : Int) : Bool := decide (0 ≤ d) && decide (d < 366)
def wkd (d : Int) : Int := if dayB d then d % 7 + 1 else 0
theorem wkd_yes {d : Int} (h : dayB d = true) : 1 ≤ wkd d ∧ wkd d ≤ 7 := by
  simp only [dayB, Bool.and_eq_true, decide_eq_true_eq] at h
  have : dayB d = true := by simp [dayB, h]
  simp only [wkd, this, if_true]; omega
theorem wkd_no {d : Int} (h : dayB d = false) : wkd d = 0 := by simp [wkd, h]
def momB (d m : Int) : Bool := dayB d && (decide (0 ≤ m) && decide (m < 1440))
theorem weekday_any (d : Int) (w : World) :
    Calls Tryd.prog 63 #[.int .i64 d] w fun e w' => e = .returned (.int .i64 (wkd d)) ∧ w = w' := by
  by_cases h1 : 0 ≤ d
  · by_cases h2 : d < 366
    · have hw : wkd d = d % 7 + 1 := by simp [wkd, dayB, h1, h2]
      rw [hw]
      clear hw
      go_enter Tryd.func63, Tryd.ntmps63
      go_wp2
      go_ret
      exact ⟨rfl, rfl⟩
    · have hw : wkd d = 0 := by simp [wkd, dayB, h2]
      rw [hw]
      clear hw
      go_enter Tryd.func63, Tryd.ntmps63
      go_wp2
      go_ret
      exact ⟨rfl, rfl⟩
  · have hw : wkd d = 0 := by simp [wkd, dayB, h1]
    rw [hw]
    clear hw
    go_enter Tryd.func63, Tryd.ntmps63
    go_wp2
    go_ret
    exact ⟨rfl, rfl⟩
def joinV (d m : Int) : Value := if momB d m then .tuple #[.int .i64 (d * 1440 + m), .int .i64 0] else .tuple #[.int .i64 0, .int .i64 1]
set_option maxRecDepth 100000 in
theorem join_any (d m : Int) (w : World) :
    Calls Tryd.prog 67 #[.int .i64 d, .int .i64 m] w fun e w' => e = .returned (joinV d m) ∧ w = w' := by
  by_cases h1 : 0 ≤ d
  case neg =>
    have hv : joinV d m = .tuple #[.int .i64 0, .int .i64 1] := by simp [joinV, momB, dayB, h1]
    rw [hv]
    clear hv
    go_enter Tryd.func67, Tryd.ntmps67
    go_wp2
    go_ret2
    exact ⟨rfl, rfl⟩
  by_cases h2 : d < 366
  case neg =>
    have hv : joinV d m = .tuple #[.int .i64 0, .int .i64 1] := by simp [joinV, momB, dayB, h2]
    rw [hv]
    clear hv
    go_enter Tryd.func67, Tryd.ntmps67
    go_wp2
    go_ret2
    exact ⟨rfl, rfl⟩
  by_cases h3 : 0 ≤ m
  case neg =>
    have hv : joinV d m = .tuple #[.int .i64 0, .int .i64 1] := by simp [joinV, momB, dayB, h3]
    rw [hv]
    clear hv
    go_enter Tryd.func67, Tryd.ntmps67
    go_wp2
    go_ret2
    exact ⟨rfl, rfl⟩
  by_cases h4 : m < 1440
  case neg =>
    have hv : joinV d m = .tuple #[.int .i64 0, .int .i64 1] := by simp [joinV, momB, dayB, h4]
    rw [hv]
    clear hv
    go_enter Tryd.func67, Tryd.ntmps67
    go_wp2
    go_ret2
    exact ⟨rfl, rfl⟩
  have hv : joinV d m = .tuple #[.int .i64 (d * 1440 + m), .int .i64 0] := by simp [joinV, momB, dayB, h1, h2, h3, h4]
  rw [hv]
  clear hv
  go_enter Tryd.func67, Tryd.ntmps67
  go_wp2
  go_ret2
  exact ⟨rfl, rfl⟩
set_option maxRecDepth 100000 in
theorem rjoin_any (d m : Int) (w : World) :
    Calls Tryd.prog 73 #[.int .i64 d, .int .i64 m] w fun e w' => e = .returned (joinV d m) ∧ w = w' := by
  by_cases h1 : 0 ≤ d
  case neg =>
    have hv : joinV d m = .tuple #[.int .i64 0, .int .i64 1] := by simp [joinV, momB, dayB, h1]
    rw [hv]
    clear hv
    go_enter Tryd.func73, Tryd.ntmps73
    go_wp2
    go_ret2
    exact ⟨rfl, rfl⟩
  by_cases h2 : d < 366
  case neg =>
    have hv : joinV d m = .tuple #[.int .i64 0, .int .i64 1] := by simp [joinV, momB, dayB, h2]
    rw [hv]
    clear hv
    go_enter Tryd.func73, Tryd.ntmps73
    go_wp2
    go_ret2
    exact ⟨rfl, rfl⟩
  by_cases h3 : 0 ≤ m
  case neg =>
    have hv : joinV d m = .tuple #[.int .i64 0, .int .i64 1] := by simp [joinV, momB, dayB, h3]
    rw [hv]
    clear hv
    go_enter Tryd.func73, Tryd.ntmps73
    go_wp2
    go_ret2
    exact ⟨rfl, rfl⟩
  by_cases h4 : m < 1440
  case neg =>
    have hv : joinV d m = .tuple #[.int .i64 0, .int .i64 1] := by simp [joinV, momB, dayB, h4]
    rw [hv]
    clear hv
    go_enter Tryd.func73, Tryd.ntmps73
    go_wp2
    go_ret2
    exact ⟨rfl, rfl⟩
  have hv : joinV d m = .tuple #[.int .i64 (d * 1440 + m), .int .i64 0] := by simp [joinV, momB, dayB, h1, h2, h3, h4]
  rw [hv]
  clear hv
  go_enter Tryd.func73, Tryd.ntmps73
  go_wp2
  go_ret2
  exact ⟨rfl, rfl⟩
end Go.Proofs.YtaakcccffmfmoaaDoor
