/- The three predicates that pnr hands to the library. -/
import Derived.Test.YtpgeoahlhdifoaaGreatDoorFuncs
import Derived.Test.YtpgeoahlhdifoaaGreatDoorMApply
import Derived.BigGuardPart
namespace Go.Proofs.YtpgeoahlhdifoaaGreatDoor
set_option linter.unusedVariables false
open Go Go.RowKit
def withP (sg px : Int) (x : Plc) : Bool := (x.seg == sg) && (x.pax == px)
def segP (n : Int) (x : Plc) : Bool := x.seg == n
def aftP (e : Edit) (x : Plc) : Bool := decide (e.n < x.seg) || ((x.seg == e.n) && decide (e.pax < x.pax))
theorem with_pred (sg px : Int) (b1 b2 : Nat) (w : World) (row : Option Nat) (r1 : some b1 ≠ row) (r2 : some b2 ≠ row) (h1 : b1 < w.heap.size) (h2 : b2 < w.heap.size) (c1 : w.cell? ⟨b1, 0, none⟩ = some (.int .i64 sg)) (c2 : w.cell? ⟨b2, 0, none⟩ = some (.int .i64 px)) :
    PredG 102 #[.pointer (some ⟨b1, 0, none⟩), .pointer (some ⟨b2, 0, none⟩)] (withP sg px) w row := by
  intro W x hb hok
  obtain ⟨xs, xp, xr, xl⟩ := x
  have hsz := hb.size
  have k1 := (hb.cell_far ⟨b1, 0, none⟩ h1 r1).trans c1
  have k2 := (hb.cell_far ⟨b2, 0, none⟩ h2 r2).trans c2
  have g1 : b1 < W.heap.size := by omega
  have g2 : b2 < W.heap.size := by omega
  clear c1 c2 hb
  have HR := Lib.hid (show withP sg px ⟨xs, xp, xr, xl⟩ = ((xs == sg) && (xp == px)) from rfl)
  generalize q1 : (xs == sg) = a at HR
  generalize q2 : (xp == px) = b at HR
  rcases a with _ | _ <;> rcases b with _ | _
  all_goals
    go_enter Tryz.func102, Tryz.ntmps102
    go_wp2
    go_ret
    exact ⟨ret_bool (by rw [HR.out]; rfl), by (repeat (first | with_reducible exact Below.refl _ _ | (with_reducible refine Below.drew ?_) | (with_reducible refine below_drewN ?_ _) | (with_reducible refine Below.alloc ?_ (by first | (simp; done) | omega | (simp; omega)) _) | (with_reducible refine Below.setCell ?_ (by first | (simp; done) | omega | (simp; omega)) _) | with_reducible assumption))⟩
theorem seg_pred (n : Int) (b : Nat) (e : Edit) (w : World) (row : Option Nat) (r1 : some b ≠ row) (h1 : b < w.heap.size) (c1 : ∀ i, w.cell? ⟨b, i, none⟩ = (#[.int .i64 e.kind, .string e.nam.last, .string e.nam.first, .string e.seg.car, .int .i64 e.seg.num, .int .i64 e.seg.day, .int .u8 e.seg.cls, .bool e.seg.live, .int .i64 e.tik.kind, .int .i64 e.tik.day, .int .i64 e.tik.min, .string e.text, .int .i64 e.n, .int .i64 e.pax, .int .i64 e.row, .int .u8 e.let_] : Array Value)[i]?) :
    PredG 70 #[.pointer (some ⟨b, 0, none⟩)] (segP e.n) w row := by
  intro W x hb hok
  obtain ⟨xs, xp, xr, xl⟩ := x
  have hsz := hb.size
  have k1 : ∀ i, W.cell? ⟨b, i, none⟩ = (#[.int .i64 e.kind, .string e.nam.last, .string e.nam.first, .string e.seg.car, .int .i64 e.seg.num, .int .i64 e.seg.day, .int .u8 e.seg.cls, .bool e.seg.live, .int .i64 e.tik.kind, .int .i64 e.tik.day, .int .i64 e.tik.min, .string e.text, .int .i64 e.n, .int .i64 e.pax, .int .i64 e.row, .int .u8 e.let_] : Array Value)[i]? := fun i => (hb.cell_far ⟨b, i, none⟩ h1 r1).trans (c1 i)
  have g1 : b < W.heap.size := by omega
  clear c1 hb
  have HR := Lib.hid (show segP e.n ⟨xs, xp, xr, xl⟩ = (xs == e.n) from rfl)
  generalize q1 : (xs == e.n) = a at HR
  rcases a with _ | _
  all_goals
    go_enter Tryz.func70, Tryz.ntmps70
    go_wp2
    go_ret
    exact ⟨ret_bool (by rw [HR.out]), by (repeat (first | with_reducible exact Below.refl _ _ | (with_reducible refine Below.drew ?_) | (with_reducible refine below_drewN ?_ _) | (with_reducible refine Below.alloc ?_ (by first | (simp; done) | omega | (simp; omega)) _) | (with_reducible refine Below.setCell ?_ (by first | (simp; done) | omega | (simp; omega)) _) | with_reducible assumption))⟩
theorem aft_pred (b : Nat) (e : Edit) (w : World) (row : Option Nat) (r1 : some b ≠ row) (h1 : b < w.heap.size) (c1 : ∀ i, w.cell? ⟨b, i, none⟩ = (#[.int .i64 e.kind, .string e.nam.last, .string e.nam.first, .string e.seg.car, .int .i64 e.seg.num, .int .i64 e.seg.day, .int .u8 e.seg.cls, .bool e.seg.live, .int .i64 e.tik.kind, .int .i64 e.tik.day, .int .i64 e.tik.min, .string e.text, .int .i64 e.n, .int .i64 e.pax, .int .i64 e.row, .int .u8 e.let_] : Array Value)[i]?) :
    PredG 89 #[.pointer (some ⟨b, 0, none⟩)] (aftP e) w row := by
  intro W x hb hok
  obtain ⟨xs, xp, xr, xl⟩ := x
  have hsz := hb.size
  have k1 : ∀ i, W.cell? ⟨b, i, none⟩ = (#[.int .i64 e.kind, .string e.nam.last, .string e.nam.first, .string e.seg.car, .int .i64 e.seg.num, .int .i64 e.seg.day, .int .u8 e.seg.cls, .bool e.seg.live, .int .i64 e.tik.kind, .int .i64 e.tik.day, .int .i64 e.tik.min, .string e.text, .int .i64 e.n, .int .i64 e.pax, .int .i64 e.row, .int .u8 e.let_] : Array Value)[i]? := fun i => (hb.cell_far ⟨b, i, none⟩ h1 r1).trans (c1 i)
  have g1 : b < W.heap.size := by omega
  clear c1 hb
  have HR := Lib.hid (show aftP e ⟨xs, xp, xr, xl⟩ = (decide (e.n < xs) || ((xs == e.n) && decide (e.pax < xp))) from rfl)
  generalize q1 : decide (e.n < xs) = a at HR
  generalize q2 : (xs == e.n) = b at HR
  generalize q3 : decide (e.pax < xp) = c at HR
  rcases a with _ | _ <;> rcases b with _ | _ <;> rcases c with _ | _
  all_goals
    go_enter Tryz.func89, Tryz.ntmps89
    go_wp2
    go_ret
    exact ⟨ret_bool (by rw [HR.out]; rfl), by (repeat (first | with_reducible exact Below.refl _ _ | (with_reducible refine Below.drew ?_) | (with_reducible refine below_drewN ?_ _) | (with_reducible refine Below.alloc ?_ (by first | (simp; done) | omega | (simp; omega)) _) | (with_reducible refine Below.setCell ?_ (by first | (simp; done) | omega | (simp; omega)) _) | with_reducible assumption))⟩
theorem eg_with : ∀ args w, (callFunc 102 args).run Tryz.prog w = .ok (.enter 102 args) w := enters_of Tryz.func102 (by kernel_rfl) rfl
theorem eg_seg : ∀ args w, (callFunc 70 args).run Tryz.prog w = .ok (.enter 70 args) w := enters_of Tryz.func70 (by kernel_rfl) rfl
theorem eg_aft : ∀ args w, (callFunc 89 args).run Tryz.prog w = .ok (.enter 89 args) w := enters_of Tryz.func89 (by kernel_rfl) rfl
end Go.Proofs.YtpgeoahlhdifoaaGreatDoor
