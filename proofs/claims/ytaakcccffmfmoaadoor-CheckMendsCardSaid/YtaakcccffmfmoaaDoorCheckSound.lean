/- CheckSound: the walk. -/
import Derived.Test.YtaakcccffmfmoaaDoorCheckLacks
import Derived.Test.YtaakcccffmfmoaaDoorRsound
namespace Go.Proofs.YtaakcccffmfmoaaDoor
set_option linter.unusedVariables false
open Go Go.RowKit
theorem smallB_hd {h : Hd} (H : smallB h = true) : Small h := by
  obtain ⟨s1, s2, s3, s4, s5⟩ := smallB_yes H
  exact ⟨by omega, by omega, by omega, by omega, by omega⟩
set_option maxRecDepth 100000 in
set_option maxHeartbeats 4000000 in
theorem checkSound_any (p : Pnr) (h : Hd) (w : World) (lo hi : Nat) (hp : PAt w lo hi p h) (hhi : hi ≤ w.heap.size) :
    Calls Tryd.prog 4 #[.agg #[.string p.loc, .string p.off, .slice h.an h.nn h.cn, .slice h.ag h.ng h.cg, .slice h.ap h.np h.cp, .int .i64 p.tik.kind, .int .i64 p.tik.day, .int .i64 p.tik.min, .string p.rc, .slice h.ar h.nr h.cr, .slice h.ae h.ne h.ce, .bool p.queued]] w (fun e w' => e = .returned (.bool true) ∧ Below w.heap.size w w') := by
  rcases Bool.eq_false_or_eq_true (smallB h) with hsb | hsb
  case inr =>
    go_enter Tryd.func4, Tryd.ntmps4
    go_wp2_with (go_at_call 14; refine (awake13_any _).mono ?_; rintro e w1 ⟨rfl, hb1⟩; obtain ⟨hc1, hf1⟩ := bcell hb1)
    refine (small_any p h _).mono ?_
    rintro e w2 ⟨rfl, hb2⟩
    have z1 : w.heap.size + 1 ≤ w1.heap.size := by have := hb1.size; simpa using this
    go_wp2
    go_ret
    exact ⟨rfl, by (repeat (first | with_reducible exact Below.refl _ _ | (with_reducible refine Below.drew ?_) | (with_reducible refine below_drewN ?_ _) | (with_reducible refine Below.alloc ?_ (by first | (simp; done) | omega | (simp; omega)) _) | (with_reducible refine Below.setCell ?_ (by first | (simp; done) | omega | (simp; omega)) _) | (with_reducible refine Below.trans ?_ (Below.mono hb1 (by first | (simp; done) | omega | (simp; omega)))) | (with_reducible refine Below.trans ?_ (Below.mono hb2 (by first | (simp; done) | omega | (simp; omega)))) | with_reducible assumption))⟩
  have hSm := smallB_hd hsb
  have HP := Lib.hid hp
  clear hp
  go_enter Tryd.func4, Tryd.ntmps4
  go_wp2_with (go_at_call 14; refine (awake13_any _).mono ?_; rintro e w1 ⟨rfl, hb1⟩; obtain ⟨hc1, hf1⟩ := bcell hb1)
  refine (small_any p h _).mono ?_
  rintro e w2 ⟨rfl, hb2⟩
  have z1 : w.heap.size + 1 ≤ w1.heap.size := by have := hb1.size; simpa using this
  have z2 := hb2.size
  have S2 : SW w p h w2 := ⟨by (repeat (first | with_reducible exact Below.refl _ _ | (with_reducible refine Below.drew ?_) | (with_reducible refine below_drewN ?_ _) | (with_reducible refine Below.alloc ?_ (by first | (simp; done) | omega | (simp; omega)) _) | (with_reducible refine Below.setCell ?_ (by first | (simp; done) | omega | (simp; omega)) _) | (with_reducible refine Below.trans ?_ (Below.mono hb1 (by first | (simp; done) | omega | (simp; omega)))) | (with_reducible refine Below.trans ?_ (Below.mono hb2 (by first | (simp; done) | omega | (simp; omega)))) | with_reducible assumption)), by (repeat (first | (with_reducible assumption) | (with_reducible exact boxed_new _ _ _) | (with_reducible refine boxed_drew ?_) | (with_reducible refine boxed_drewN ?_ _) | (with_reducible refine boxed_alloc ?_ (by first | (simp; done) | omega | (simp; omega)) _) | (with_reducible refine boxed_set ?_ _ (by first | (simp; done) | omega | (simp; omega)) _) | (with_reducible refine boxed_below ?_ hb1 (by first | (simp; done) | omega | (simp; omega))) | (with_reducible refine boxed_below ?_ hb2 (by first | (simp; done) | omega | (simp; omega))))), by omega⟩
  clear hc1 hf1 hb1 hb2
  have hbox := S2.box
  have H1 := fun W (hP : PAt W lo hi p h) (hh : hi ≤ W.heap.size) => sound_any p h W lo hi hP hSm hh
  have H2 := fun W (hP : PAt W lo hi p h) (hh : hi ≤ W.heap.size) => rsound_any p h W lo hi hP hSm hh
  generalize soundB p h.nn = b at H1 H2
  have H1 := Lib.hid H1
  have H2 := Lib.hid H2
  have z3 := S2.z
  have B2 := S2.B
  have P2 : PAt w2 lo hi p h := HP.out.below S2.B hhi
  have Z2 : hi < w2.heap.size := by have := S2.z; omega
  go_wp2_with fail
  go_region_held3 (fun w' => (∀ i : Nat, w'.cell? ⟨w.heap.size, i, none⟩ = (#[.string p.loc, .string p.off, .slice h.an h.nn h.cn, .slice h.ag h.ng h.cg, .slice h.ap h.np h.cp, .int .i64 p.tik.kind, .int .i64 p.tik.day, .int .i64 p.tik.min, .string p.rc, .slice h.ar h.nr h.cr, .slice h.ae h.ne h.ce, .bool p.queued] : Array Value)[i]?)) (repeat (first | (with_reducible assumption) | (with_reducible exact boxed_new _ _ _) | (with_reducible refine boxed_drew ?_) | (with_reducible refine boxed_drewN ?_ _) | (with_reducible refine boxed_alloc ?_ (by first | (simp; done) | omega | (simp; omega)) _) | (with_reducible refine boxed_set ?_ _ (by first | (simp; done) | omega | (simp; omega)) _) | (with_reducible refine boxed_below ?_ hbL (by first | (simp; done) | omega | (simp; omega))) | (with_reducible refine boxed_below ?_ hbR (by first | (simp; done) | omega | (simp; omega)))))
    (first | (go_at_call 19; refine (H1.out _ (by first | exact P2.drew | exact (P2.drew.below hbR (by simp; omega))) (by first | (simp; omega) | (have := hbR.size; simp at this; omega))).mono ?_; rintro e wL ⟨rfl, hbL⟩; have zL : w.heap.size < wL.heap.size := Nat.lt_of_lt_of_le (by first | (simp; done) | omega | (simp; omega)) hbL.size) | (go_at_call 20; refine (H2.out _ (by first | exact P2.drew | exact (P2.drew.below hbL (by simp; omega))) (by first | (simp; omega) | (have := hbL.size; simp at this; omega))).mono ?_; rintro e wR ⟨rfl, hbR⟩; have zR : w.heap.size < wR.heap.size := Nat.lt_of_lt_of_le (by first | (simp; done) | omega | (simp; omega)) hbR.size))
  all_goals go_wp2
  all_goals go_ret
  all_goals exact ⟨ret_bool (by simp), by (repeat (first | with_reducible exact Below.refl _ _ | (with_reducible refine Below.drew ?_) | (with_reducible refine below_drewN ?_ _) | (with_reducible refine Below.alloc ?_ (by first | (simp; done) | omega | (simp; omega)) _) | (with_reducible refine Below.setCell ?_ (by first | (simp; done) | omega | (simp; omega)) _) | (with_reducible refine Below.trans ?_ (Below.mono hbR (by first | (simp; done) | omega | (simp; omega)))) | (with_reducible refine Below.trans ?_ (Below.mono hbL (by first | (simp; done) | omega | (simp; omega)))) | with_reducible assumption))⟩
end Go.Proofs.YtaakcccffmfmoaaDoor
