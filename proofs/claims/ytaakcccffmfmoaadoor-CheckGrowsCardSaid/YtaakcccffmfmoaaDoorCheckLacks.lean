/- CheckLacks: the walk. -/
import Derived.Test.YtaakcccffmfmoaaDoorAwake13
import Derived.Deep.QuietTactic
import Derived.BigQuiet
namespace Go.Proofs.YtaakcccffmfmoaaDoor
set_option linter.unusedVariables false
open Go Go.RowKit
attribute [local go_sem ↓] Go.wp_at_zero Go.wp_at_succ
def WholeR (w : World) (l : List Int) (e : Ending) (w' : World) : Prop := e = .returned (.int .i64 (l.headD 0)) ∧ Below w.heap.size w w'
set_option maxRecDepth 100000 in
set_option maxHeartbeats 400000 in
theorem whole_any (p : Pnr) (h : Hd) (w : World) (lo hi : Nat) (hp : PAt w lo hi p h) (hn : h.ng ≤ 100000) (hhi : hi ≤ w.heap.size) :
    Calls Tryd.prog 18 #[.agg #[.string p.loc, .string p.off, .slice h.an h.nn h.cn, .slice h.ag h.ng h.cg, .slice h.ap h.np h.cp, .int .i64 p.tik.kind, .int .i64 p.tik.day, .int .i64 p.tik.min, .string p.rc, .slice h.ar h.nr h.cr, .slice h.ae h.ne h.ce, .bool p.queued]] w (WholeR w (lacksF p h)) := by
  have H := lacks_any p h (w.alloc (.cells #[.string p.loc, .string p.off, .slice h.an h.nn h.cn, .slice h.ag h.ng h.cg, .slice h.ap h.np h.cp, .int .i64 p.tik.kind, .int .i64 p.tik.day, .int .i64 p.tik.min, .string p.rc, .slice h.ar h.nr h.cr, .slice h.ae h.ne h.ce, .bool p.queued] 29)) lo hi (hp.alloc hhi _) hn (by simp; omega)
  generalize lacksF p h = l at H ⊢
  rcases l with _ | ⟨x, t⟩
  · go_enter Tryd.func18, Tryd.ntmps18
    go_wp2_with (go_at_call 16; refine H.mono ?_; rintro e w1 ⟨A, c, rfl, hown, hb⟩)
    refine wp_loop_rounds 1 ?_
    rw [rounds_succ]
    go_wp2
    go_ret
    exact ⟨rfl, by (repeat (first | with_reducible exact Below.refl _ _ | (with_reducible refine Below.drew ?_) | (with_reducible refine below_drewN ?_ _) | (with_reducible refine Below.alloc ?_ (by first | (simp; done) | omega | (simp; omega)) _) | (with_reducible refine Below.setCell ?_ (by first | (simp; done) | omega | (simp; omega)) _) | (with_reducible refine Below.trans ?_ (Below.mono hb (by first | (simp; done) | omega | (simp; omega)))) | with_reducible assumption))⟩
  · go_enter Tryd.func18, Tryd.ntmps18
    go_wp2_with (go_at_call 16; refine H.mono ?_; rintro e w1 ⟨A, c, rfl, hown, hb⟩)
    obtain ⟨b, o, y, rfl, h1, h2, hy, hok, c0⟩ := hown.sl.int_ (k := 0) (by simp)
    have hxy : x = y := by have := hy.out; simpa using this
    subst hxy
    simp only [Nat.add_zero] at c0
    refine wp_loop_rounds 1 ?_
    rw [rounds_succ]
    go_wp2
    go_ret
    exact ⟨rfl, by (repeat (first | with_reducible exact Below.refl _ _ | (with_reducible refine Below.drew ?_) | (with_reducible refine below_drewN ?_ _) | (with_reducible refine Below.alloc ?_ (by first | (simp; done) | omega | (simp; omega)) _) | (with_reducible refine Below.setCell ?_ (by first | (simp; done) | omega | (simp; omega)) _) | (with_reducible refine Below.trans ?_ (Below.mono hb (by first | (simp; done) | omega | (simp; omega)))) | with_reducible assumption))⟩
def smallB (h : Hd) : Bool := decide (h.nn ≤ 60) && (decide (h.ng ≤ 60) && (decide (h.np ≤ 60) && (decide (h.nr ≤ 60) && decide (h.ne ≤ 200))))
theorem smallB_yes {h : Hd} (H : smallB h = true) : h.nn ≤ 60 ∧ h.ng ≤ 60 ∧ h.np ≤ 60 ∧ h.nr ≤ 60 ∧ h.ne ≤ 200 := by
  simpa [smallB] using H
set_option maxRecDepth 100000 in
set_option maxHeartbeats 400000 in
theorem small_any (p : Pnr) (h : Hd) (w : World) :
    Calls Tryd.prog 15 #[.agg #[.string p.loc, .string p.off, .slice h.an h.nn h.cn, .slice h.ag h.ng h.cg, .slice h.ap h.np h.cp, .int .i64 p.tik.kind, .int .i64 p.tik.day, .int .i64 p.tik.min, .string p.rc, .slice h.ar h.nr h.cr, .slice h.ae h.ne h.ce, .bool p.queued]] w (fun e w' => e = .returned (.bool (smallB h)) ∧ Below w.heap.size w w') := by
  have hsm : smallB h = (decide (h.nn ≤ 60) && (decide (h.ng ≤ 60) && (decide (h.np ≤ 60) && (decide (h.nr ≤ 60) && decide (h.ne ≤ 200))))) := rfl
  have HS := Lib.hid hsm
  clear hsm
  by_cases h1 : h.nn ≤ 60
  · by_cases h2 : h.ng ≤ 60
    · by_cases h3 : h.np ≤ 60
      · by_cases h4 : h.nr ≤ 60
        · by_cases h5 : h.ne ≤ 200
          · go_enter Tryd.func15, Tryd.ntmps15
            go_wp2
            go_ret
            exact ⟨by rw [HS.out]; simp [*] <;> omega, by (repeat (first | with_reducible exact Below.refl _ _ | (with_reducible refine Below.drew ?_) | (with_reducible refine below_drewN ?_ _) | (with_reducible refine Below.alloc ?_ (by first | (simp; done) | omega | (simp; omega)) _) | (with_reducible refine Below.setCell ?_ (by first | (simp; done) | omega | (simp; omega)) _) | with_reducible assumption))⟩
          · go_enter Tryd.func15, Tryd.ntmps15
            go_wp2
            go_ret
            exact ⟨by rw [HS.out]; simp [*] <;> omega, by (repeat (first | with_reducible exact Below.refl _ _ | (with_reducible refine Below.drew ?_) | (with_reducible refine below_drewN ?_ _) | (with_reducible refine Below.alloc ?_ (by first | (simp; done) | omega | (simp; omega)) _) | (with_reducible refine Below.setCell ?_ (by first | (simp; done) | omega | (simp; omega)) _) | with_reducible assumption))⟩
        · go_enter Tryd.func15, Tryd.ntmps15
          go_wp2
          go_ret
          exact ⟨by rw [HS.out]; simp [*] <;> omega, by (repeat (first | with_reducible exact Below.refl _ _ | (with_reducible refine Below.drew ?_) | (with_reducible refine below_drewN ?_ _) | (with_reducible refine Below.alloc ?_ (by first | (simp; done) | omega | (simp; omega)) _) | (with_reducible refine Below.setCell ?_ (by first | (simp; done) | omega | (simp; omega)) _) | with_reducible assumption))⟩
      · go_enter Tryd.func15, Tryd.ntmps15
        go_wp2
        go_ret
        exact ⟨by rw [HS.out]; simp [*] <;> omega, by (repeat (first | with_reducible exact Below.refl _ _ | (with_reducible refine Below.drew ?_) | (with_reducible refine below_drewN ?_ _) | (with_reducible refine Below.alloc ?_ (by first | (simp; done) | omega | (simp; omega)) _) | (with_reducible refine Below.setCell ?_ (by first | (simp; done) | omega | (simp; omega)) _) | with_reducible assumption))⟩
    · go_enter Tryd.func15, Tryd.ntmps15
      go_wp2
      go_ret
      exact ⟨by rw [HS.out]; simp [*] <;> omega, by (repeat (first | with_reducible exact Below.refl _ _ | (with_reducible refine Below.drew ?_) | (with_reducible refine below_drewN ?_ _) | (with_reducible refine Below.alloc ?_ (by first | (simp; done) | omega | (simp; omega)) _) | (with_reducible refine Below.setCell ?_ (by first | (simp; done) | omega | (simp; omega)) _) | with_reducible assumption))⟩
  · go_enter Tryd.func15, Tryd.ntmps15
    go_wp2
    go_ret
    exact ⟨by rw [HS.out]; simp [*] <;> omega, by (repeat (first | with_reducible exact Below.refl _ _ | (with_reducible refine Below.drew ?_) | (with_reducible refine below_drewN ?_ _) | (with_reducible refine Below.alloc ?_ (by first | (simp; done) | omega | (simp; omega)) _) | (with_reducible refine Below.setCell ?_ (by first | (simp; done) | omega | (simp; omega)) _) | with_reducible assumption))⟩
def p0 : Pnr := ⟨⟨#[]⟩, ⟨#[]⟩, [], [], [], ⟨0, 0, 0⟩, ⟨#[]⟩, [], [], false⟩
def h0 : Hd := ⟨none, 0, 0, none, 0, 0, none, 0, 0, none, 0, 0, none, 0, 0⟩
theorem p0_at (w : World) : PAt w 0 0 p0 h0 :=
  ⟨by simp [okStr, p0, ByteArray.size], by simp [okStr, p0, ByteArray.size], by simp [okStr, p0, ByteArray.size], by simp [Tik.ok, okInt, p0], Sl.nil_ _, Sl.nil_ _, Sl.nil_ _, Sl.nil_ _, Sl.nil_ _⟩
theorem lacks_p0 : lacksF p0 h0 = [20, 21, 22, 23, 24] := by
  have e : (⟨#[]⟩ : ByteArray).toList.isEmpty = true := by simp
  unfold lacksF lackT
  simp only [p0, h0, liveF, e]
  decide
theorem lacks0 (w : World) : Calls Tryd.prog 16 #[.agg #[.string ⟨#[]⟩, .string ⟨#[]⟩, .slice none 0 0, .slice none 0 0, .slice none 0 0, .int .i64 0, .int .i64 0, .int .i64 0, .string ⟨#[]⟩, .slice none 0 0, .slice none 0 0, .bool false]] w (RetOwn w 36 tInt [20, 21, 22, 23, 24]) := by
  have h := lacks_any p0 h0 w 0 0 (p0_at w) (by decide) (Nat.zero_le _)
  rw [lacks_p0] at h
  exact h
theorem whole0 (w : World) : Calls Tryd.prog 18 #[.agg #[.string ⟨#[]⟩, .string ⟨#[]⟩, .slice none 0 0, .slice none 0 0, .slice none 0 0, .int .i64 0, .int .i64 0, .int .i64 0, .string ⟨#[]⟩, .slice none 0 0, .slice none 0 0, .bool false]] w (WholeR w [20, 21, 22, 23, 24]) := by
  have h := whole_any p0 h0 w 0 0 (p0_at w) (by decide) (Nat.zero_le _)
  rw [lacks_p0] at h
  exact h
set_option maxRecDepth 100000 in
set_option maxHeartbeats 400000 in
theorem awake13_any (w : World) : Calls Tryd.prog 14 #[] w (fun e w' => e = .returned (.bool true) ∧ Below w.heap.size w w') := by
  go_enter Tryd.func14, Tryd.ntmps14
  go_wp2_with fail
  refine (lacks0 _).mono ?_
  rintro e w1 ⟨A, c, rfl, hown, hb⟩
  obtain ⟨b, o, x, rfl, h1, h2, hx, hok, c0⟩ := hown.sl.int_ (k := 0) (by simp)
  have hx' := hx.out
  clear hx
  simp at hx' c0
  subst hx'
  obtain ⟨b', o', x, hbo, h1', h2', hx, hok, c4⟩ := hown.sl.int_ (k := 4) (by simp)
  injection hbo with hbo
  injection hbo with hb1 ho1 _
  subst hb1 ho1
  have hx' := hx.out
  clear hx
  simp at hx' c4
  subst hx'
  go_wp2_with fail
  refine (whole0 _).mono ?_
  rintro e w2 ⟨rfl, hb2⟩
  go_wp2_with fail
  refine (sound_zero _).mono ?_
  rintro e w3 ⟨rfl, hb3⟩
  go_wp2_with fail
  refine (sound_A _).mono ?_
  rintro e w4 ⟨rfl, hb4⟩
  go_wp2_with fail
  go_ret
  have z1 := hb.size
  have z2 := hb2.size
  have z3 := hb3.size
  exact ⟨rfl, ((hb.trans (hb2.mono z1)).trans (hb3.mono (by omega))).trans (hb4.mono (by omega))⟩
structure CL (w : World) (p : Pnr) (h : Hd) (lo hi : Nat) (l : List Int) (A : Option Addr) (c : Nat) (A' : Option Addr) (c' : Nat) (W : World) : Prop where
  oL : Own W (w.heap.size + 1) 36 tInt (.slice A l.length c) l
  oR : Own W (w.heap.size + 1) 3 tInt (.slice A' l.length c') l
  P : PAt W lo hi p h
  B : Below w.heap.size w W
  box : ∀ i, W.cell? ⟨w.heap.size, i, none⟩ = (#[.string p.loc, .string p.off, .slice h.an h.nn h.cn, .slice h.ag h.ng h.cg, .slice h.ap h.np h.cp, .int .i64 p.tik.kind, .int .i64 p.tik.day, .int .i64 p.tik.min, .string p.rc, .slice h.ar h.nr h.cr, .slice h.ae h.ne h.ce, .bool p.queued] : Array Value)[i]?
  z : w.heap.size + 1 ≤ W.heap.size
theorem CL.drewN {w : World} {p : Pnr} {h : Hd} {lo hi : Nat} {l : List Int} {A : Option Addr} {c : Nat} {A' : Option Addr} {c' : Nat} {W : World} (H : CL w p h lo hi l A c A' c' W) (n : Nat) : CL w p h lo hi l A c A' c' (W.drewN n) :=
  ⟨H.oL.drewN n, H.oR.drewN n, H.P.drewN n, below_drewN H.B n, H.box, H.z⟩
set_option maxRecDepth 100000 in
set_option maxHeartbeats 4000000 in
theorem checkLacks_any (p : Pnr) (h : Hd) (w : World) (lo hi : Nat) (hp : PAt w lo hi p h) (hhi : hi ≤ w.heap.size) :
    Calls Tryd.prog 3 #[.agg #[.string p.loc, .string p.off, .slice h.an h.nn h.cn, .slice h.ag h.ng h.cg, .slice h.ap h.np h.cp, .int .i64 p.tik.kind, .int .i64 p.tik.day, .int .i64 p.tik.min, .string p.rc, .slice h.ar h.nr h.cr, .slice h.ae h.ne h.ce, .bool p.queued]] w (fun e w' => e = .returned (.bool true) ∧ Below w.heap.size w w') := by
  rcases Bool.eq_false_or_eq_true (smallB h) with hsb | hsb
  case inr =>
    go_enter Tryd.func3, Tryd.ntmps3
    go_wp2_with (go_at_call 14; refine (awake13_any _).mono ?_; rintro e w1 ⟨rfl, hb1⟩; obtain ⟨hc1, hf1⟩ := bcell hb1)
    refine (small_any p h _).mono ?_
    rintro e w2 ⟨rfl, hb2⟩
    have z1 : w.heap.size + 1 ≤ w1.heap.size := by have := hb1.size; simpa using this
    go_wp2
    go_ret
    exact ⟨rfl, by (repeat (first | with_reducible exact Below.refl _ _ | (with_reducible refine Below.drew ?_) | (with_reducible refine below_drewN ?_ _) | (with_reducible refine Below.alloc ?_ (by first | (simp; done) | omega | (simp; omega)) _) | (with_reducible refine Below.setCell ?_ (by first | (simp; done) | omega | (simp; omega)) _) | (with_reducible refine Below.trans ?_ (Below.mono hb1 (by first | (simp; done) | omega | (simp; omega)))) | (with_reducible refine Below.trans ?_ (Below.mono hb2 (by first | (simp; done) | omega | (simp; omega)))) | with_reducible assumption))⟩
  obtain ⟨s1, s2, s3, s4, s5⟩ := smallB_yes hsb
  have HL := fun W (hP : PAt W lo hi p h) (hh : hi ≤ W.heap.size) => lacks_any p h W lo hi hP (by omega) hh
  have HR := fun W (hP : PAt W lo hi p h) (hh : hi ≤ W.heap.size) => rlacks_any p h W lo hi hP (by omega) hh
  have HW := fun W (hP : PAt W lo hi p h) (hh : hi ≤ W.heap.size) => whole_any p h W lo hi hP (by omega) hh
  have hlen : (lacksF p h).length ≤ 5 := by have := picks_len (lackT ((h.nn : Int) == 0) (((liveF 0 p.segs).length : Int) == 0) ((h.np : Int) == 0) (p.tik.kind == 0) p.rc.toList.isEmpty); simpa [lacksF, lackT] using this
  generalize lacksF p h = l at HL HR HW hlen
  have HL := Lib.hid HL
  have HR := Lib.hid HR
  have HW := Lib.hid HW
  go_enter Tryd.func3, Tryd.ntmps3
  go_wp2_with (go_at_call 14; refine (awake13_any _).mono ?_; rintro e w1 ⟨rfl, hb1⟩; obtain ⟨hc1, hf1⟩ := bcell hb1)
  refine (small_any p h _).mono ?_
  rintro e w2 ⟨rfl, hb2⟩
  have z1 : w.heap.size + 1 ≤ w1.heap.size := by have := hb1.size; simpa using this
  have z2 := hb2.size
  have hbox : ∀ i, w2.cell? ⟨w.heap.size, i, none⟩ = (#[.string p.loc, .string p.off, .slice h.an h.nn h.cn, .slice h.ag h.ng h.cg, .slice h.ap h.np h.cp, .int .i64 p.tik.kind, .int .i64 p.tik.day, .int .i64 p.tik.min, .string p.rc, .slice h.ar h.nr h.cr, .slice h.ae h.ne h.ce, .bool p.queued] : Array Value)[i]? := by (repeat (first | (with_reducible assumption) | (with_reducible exact boxed_new _ _ _) | (with_reducible refine boxed_drew ?_) | (with_reducible refine boxed_drewN ?_ _) | (with_reducible refine boxed_alloc ?_ (by first | (simp; done) | omega | (simp; omega)) _) | (with_reducible refine boxed_set ?_ _ (by first | (simp; done) | omega | (simp; omega)) _) | (with_reducible refine boxed_below ?_ hb1 (by first | (simp; done) | omega | (simp; omega))) | (with_reducible refine boxed_below ?_ hb2 (by first | (simp; done) | omega | (simp; omega)))))
  have P2 : PAt w2 lo hi p h := ((hp.alloc hhi _).below hb1 (by simp; omega)).below hb2 (by omega)
  have B2 : Below w.heap.size w w2 := by (repeat (first | with_reducible exact Below.refl _ _ | (with_reducible refine Below.drew ?_) | (with_reducible refine below_drewN ?_ _) | (with_reducible refine Below.alloc ?_ (by first | (simp; done) | omega | (simp; omega)) _) | (with_reducible refine Below.setCell ?_ (by first | (simp; done) | omega | (simp; omega)) _) | (with_reducible refine Below.trans ?_ (Below.mono hb1 (by first | (simp; done) | omega | (simp; omega)))) | (with_reducible refine Below.trans ?_ (Below.mono hb2 (by first | (simp; done) | omega | (simp; omega)))) | with_reducible assumption))
  clear hc1 hf1 hb1 hb2 hp
  go_wp2_with fail
  go_region_held3 (fun w' => (∀ i : Nat, w'.cell? ⟨w.heap.size, i, none⟩ = (#[.string p.loc, .string p.off, .slice h.an h.nn h.cn, .slice h.ag h.ng h.cg, .slice h.ap h.np h.cp, .int .i64 p.tik.kind, .int .i64 p.tik.day, .int .i64 p.tik.min, .string p.rc, .slice h.ar h.nr h.cr, .slice h.ae h.ne h.ce, .bool p.queued] : Array Value)[i]?)) (repeat (first | (with_reducible assumption) | (with_reducible exact boxed_new _ _ _) | (with_reducible refine boxed_drew ?_) | (with_reducible refine boxed_drewN ?_ _) | (with_reducible refine boxed_alloc ?_ (by first | (simp; done) | omega | (simp; omega)) _) | (with_reducible refine boxed_set ?_ _ (by first | (simp; done) | omega | (simp; omega)) _) | (with_reducible refine boxed_below ?_ hbL (by first | (simp; done) | omega | (simp; omega))) | (with_reducible refine boxed_below ?_ hbR (by first | (simp; done) | omega | (simp; omega)))))
    (first | (go_at_call 16; refine (HL.out _ (by first | exact P2.drew | exact (P2.drew.below hbR (by simp; omega))) (by first | (simp; omega) | (have := hbR.size; simp at this; omega))).mono ?_; rintro e wL ⟨A, c, rfl, hownL, hbL⟩; have zL : w.heap.size < wL.heap.size := Nat.lt_of_lt_of_le (by first | (simp; done) | omega | (simp; omega)) hbL.size) | (go_at_call 17; refine (HR.out _ (by first | exact P2.drew | exact (P2.drew.below hbL (by simp; omega))) (by first | (simp; omega) | (have := hbL.size; simp at this; omega))).mono ?_; rintro e wR ⟨A', c', rfl, hownR, hbR⟩; have zR : w.heap.size < wR.heap.size := Nat.lt_of_lt_of_le (by first | (simp; done) | omega | (simp; omega)) hbR.size))
  all_goals go_wp2
  all_goals
    refine wp_world (CL w p h lo hi l A c A' c') ?_ ?_
    · refine ⟨?_, ?_, ?_, ?_, ?_, ?_⟩
      · first | exact (hownL.keep hbR).more (by first | omega | (simp; omega)) | exact hownL.more (by first | omega | (simp; omega))
      · first | exact (hownR.keep hbL).more (by first | omega | (simp; omega)) | exact hownR.more (by first | omega | (simp; omega))
      · first | exact (P2.drew.below hbL (by first | omega | (simp; omega))).below hbR (by omega) | exact (P2.drew.below hbR (by first | omega | (simp; omega))).below hbL (by omega)
      · (repeat (first | with_reducible exact Below.refl _ _ | (with_reducible refine Below.drew ?_) | (with_reducible refine below_drewN ?_ _) | (with_reducible refine Below.alloc ?_ (by first | (simp; done) | omega | (simp; omega)) _) | (with_reducible refine Below.setCell ?_ (by first | (simp; done) | omega | (simp; omega)) _) | (with_reducible refine Below.trans ?_ (Below.mono hbL (by first | (simp; done) | omega | (simp; omega)))) | (with_reducible refine Below.trans ?_ (Below.mono hbR (by first | (simp; done) | omega | (simp; omega)))) | with_reducible assumption))
      · (repeat (first | (with_reducible assumption) | (with_reducible exact boxed_new _ _ _) | (with_reducible refine boxed_drew ?_) | (with_reducible refine boxed_drewN ?_ _) | (with_reducible refine boxed_alloc ?_ (by first | (simp; done) | omega | (simp; omega)) _) | (with_reducible refine boxed_set ?_ _ (by first | (simp; done) | omega | (simp; omega)) _) | (with_reducible refine boxed_below ?_ hbL (by first | (simp; done) | omega | (simp; omega))) | (with_reducible refine boxed_below ?_ hbR (by first | (simp; done) | omega | (simp; omega)))))
      · omega
    clear hownL hownR hbL hbR
    intro W0 hCL
  all_goals go_loopw [5] (fun i wr => ∃ k : Nat, k ≤ l.length ∧ i = .int .i64 k ∧ CL w p h lo hi l A c A' c' wr) (fun i _ => l.length - (intOf i).toNat)
  case atStart => exact ⟨0, Nat.zero_le _, rfl, hCL⟩
  case round =>
    obtain ⟨k, hk, rfl, hCr⟩ := hrel
    by_cases hlt : k < l.length
    · obtain ⟨b, o, x, rfl, h1, h2, hx, hok, c0⟩ := hCr.oL.sl.int_ hlt
      obtain ⟨b', o', y, rfl, h1', h2', hy, hok', c0'⟩ := hCr.oR.sl.int_ hlt
      have hxy : x = y := by have a := hx.out; have b := hy.out; rw [a] at b; exact Option.some.inj b
      subst hxy
      have hk0 : (0 : Int) ≤ k := by omega
      have hkl : (k : Int) < l.length := by omega
      go_wp2
      go_quiet (fail)
      go_wp2
      go_roundw
      case rel => exact ⟨k + 1, by omega, by go_num, hCr.drewN _⟩
      case measure => simp [intOf]; omega
    · have hbox := hCr.box
      have hz := hCr.z
      rcases l with _ | ⟨x, t⟩
      · go_wp2_with (go_at_call 18; refine (HW.out _ hCr.P (by omega)).mono ?_; rintro e w3 ⟨rfl, hb3⟩)
        go_ret
        exact ⟨rfl, hCr.B.trans (hb3.mono (by omega))⟩
      · obtain ⟨b', o', y, rfl, h1', h2', hy, hok', c0'⟩ := hCr.oR.sl.int_ (k := 0) (by simp)
        have hxy : x = y := by have a := hy.out; simpa using a
        subst hxy
        simp only [Nat.add_zero] at c0'
        have hge : t.length + 1 ≤ k := by simp only [List.length_cons] at hlt; omega
        go_wp2
        go_region_held3 (fun w' => (∀ i : Nat, w'.cell? ⟨w.heap.size, i, none⟩ = (#[.string p.loc, .string p.off, .slice h.an h.nn h.cn, .slice h.ag h.ng h.cg, .slice h.ap h.np h.cp, .int .i64 p.tik.kind, .int .i64 p.tik.day, .int .i64 p.tik.min, .string p.rc, .slice h.ar h.nr h.cr, .slice h.ae h.ne h.ce, .bool p.queued] : Array Value)[i]?) ∧ w'.cell? ⟨b', o', none⟩ = some (.int .i64 x)) (first | exact ⟨by (repeat (first | (with_reducible assumption) | (with_reducible exact boxed_new _ _ _) | (with_reducible refine boxed_drew ?_) | (with_reducible refine boxed_drewN ?_ _) | (with_reducible refine boxed_alloc ?_ (by first | (simp; done) | omega | (simp; omega)) _) | (with_reducible refine boxed_set ?_ _ (by first | (simp; done) | omega | (simp; omega)) _) | (with_reducible refine boxed_below ?_ hb3 (by first | (simp; done) | omega | (simp; omega))))), by first | assumption | exact c0' | exact (hb3.cell (by first | assumption | (simp; done))).trans c0'⟩ | go_keep)
          (first | (go_at_call 18; refine (HW.out _ (by exact hCr.P.drew) (by simp; omega)).mono ?_; rintro e w3 ⟨rfl, hb3⟩))
        all_goals go_wp2
        all_goals go_ret
        all_goals exact ⟨rfl, hCr.B.trans (Below.trans ((Below.refl _ _).drew) (hb3.mono (by simp; omega)))⟩
end Go.Proofs.YtaakcccffmfmoaaDoor
