/- Segments and ticketing fields: which are formed: the document's answers. -/
import Derived.Test.YtpgeoahlhdifoaaGreatDoorMCode
import Derived.BigGuardPart
namespace Go.Proofs.YtpgeoahlhdifoaaGreatDoor
set_option linter.unusedVariables false
open Go Go.RowKit
def segB (s : Seg) : Bool := carrierB s.car && (decide (1 ≤ s.num) && (decide (s.num ≤ 9999) && (dayB s.day && isL s.cls)))
set_option maxRecDepth 100000 in
set_option maxHeartbeats 400000 in
theorem rsegf_any (s : Seg) (w : World) (hok : Seg.ok s) :
    Calls Tryz.prog 93 #[.agg #[.string s.car, .int .i64 s.num, .int .i64 s.day, .int .u8 s.cls, .bool s.live]] w (RetB w (segB s)) := by
  obtain ⟨k1, k2, k3, k4⟩ := hok
  go_enter Tryz.func93, Tryz.ntmps93
  go_wp2_with (first | (go_at_call 105; refine (rcarrier_any _ _ k1).mono ?_; rintro e w1 ⟨rfl, rfl⟩) | (go_at_call 106; refine (rclass_any _ _).mono ?_; rintro e w1 ⟨rfl, rfl⟩))
  all_goals go_ret
  all_goals exact ⟨ret_bool (by first | (simp [segB, dayB, *]; done) | (simp [segB, dayB, *]; omega)), by (repeat (first | with_reducible exact Below.refl _ _ | (with_reducible refine Below.drew ?_) | (with_reducible refine below_drewN ?_ _) | (with_reducible refine Below.alloc ?_ (by first | (simp; done) | omega | (simp; omega)) _) | (with_reducible refine Below.setCell ?_ (by first | (simp; done) | omega | (simp; omega)) _) | with_reducible assumption))⟩
def tikB (t : Tik) : Bool := if t.kind == 2 then (t.day == 0 && t.min == 0) else (t.kind == 1 && momB t.day t.min)
theorem joinV_yes {d m : Int} (h : momB d m = true) : joinV d m = .tuple #[.int .i64 (d * 1440 + m), .int .i64 0] := by simp [joinV, h]
theorem joinV_no {d m : Int} (h : momB d m = false) : joinV d m = .tuple #[.int .i64 0, .int .i64 1] := by simp [joinV, h]
set_option maxRecDepth 100000 in
set_option maxHeartbeats 400000 in
theorem rtikf_any (t : Tik) (w : World) :
    Calls Tryz.prog 75 #[.agg #[.int .i64 t.kind, .int .i64 t.day, .int .i64 t.min]] w (RetB w (tikB t)) := by
  rcases Bool.eq_false_or_eq_true (momB t.day t.min) with hm | hm
  · go_enter Tryz.func75, Tryz.ntmps75
    go_wp2_with (go_at_call 96; refine (rjoin_any _ _ _).mono ?_; rintro e w1 ⟨rfl, rfl⟩; rw [joinV_yes hm])
    all_goals go_ret
    all_goals exact ⟨ret_bool (by first | (simp [tikB, *]; done) | (simp [tikB, *]; omega)), by (repeat (first | with_reducible exact Below.refl _ _ | (with_reducible refine Below.drew ?_) | (with_reducible refine below_drewN ?_ _) | (with_reducible refine Below.alloc ?_ (by first | (simp; done) | omega | (simp; omega)) _) | (with_reducible refine Below.setCell ?_ (by first | (simp; done) | omega | (simp; omega)) _) | with_reducible assumption))⟩
  · go_enter Tryz.func75, Tryz.ntmps75
    go_wp2_with (go_at_call 96; refine (rjoin_any _ _ _).mono ?_; rintro e w1 ⟨rfl, rfl⟩; rw [joinV_no hm])
    all_goals go_ret
    all_goals exact ⟨ret_bool (by first | (simp [tikB, *]; done) | (simp [tikB, *]; omega)), by (repeat (first | with_reducible exact Below.refl _ _ | (with_reducible refine Below.drew ?_) | (with_reducible refine below_drewN ?_ _) | (with_reducible refine Below.alloc ?_ (by first | (simp; done) | omega | (simp; omega)) _) | (with_reducible refine Below.setCell ?_ (by first | (simp; done) | omega | (simp; omega)) _) | with_reducible assumption))⟩
def legEq (a b : Seg) : Bool := decide (a.car = b.car) && (decide (a.num = b.num) && decide (a.day = b.day))
def dupL (l : List Seg) (s : Seg) : Bool := l.any fun t => t.live && legEq t s
def nmB (x : Nam) : Bool := wordB x.last 1 16 && wordB x.first 1 16
end Go.Proofs.YtpgeoahlhdifoaaGreatDoor
