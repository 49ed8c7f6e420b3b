/- Package flight: Check: is a flight right? -/
import Derived.Test.YtlkdefmceghmnaaGreatDoorFlB
import Derived.Deep.DeepCutAuto
import Derived.IntWalk
namespace Go.Proofs.YtlkdefmceghmnaaGreatDoor
set_option linter.unusedVariables false
open Go Go.RowKit Go.Sort
/-- The flight's box, and what lay ahead of the call. -/
def FB (w : World) (r : FlR) (W : World) : Prop := Bx W w.heap.size #[.string r.f.car, .int .i64 r.f.num, .string r.f.frm, .string r.f.to_, .int .u8 r.f.days, .int .i64 r.f.dep, .int .i64 r.f.arr, .slice r.A r.n r.c, .int .i64 r.f.pln] 55 ∧ Below w.heap.size w W
theorem FB.start (w : World) (r : FlR) : FB w r (w.alloc (.cells #[.string r.f.car, .int .i64 r.f.num, .string r.f.frm, .string r.f.to_, .int .u8 r.f.days, .int .i64 r.f.dep, .int .i64 r.f.arr, .slice r.A r.n r.c, .int .i64 r.f.pln] 55)) := box1 _ _ _
section
variable {w W W1 : World} {r : FlR}
theorem FB.lt (h : FB w r W) : w.heap.size < W.heap.size := h.1.lt
theorem FB.step (h : FB w r W) (hb : Below W.heap.size W W1) : FB w r W1 := ⟨h.1.below hb h.1.lt, h.2.trans (hb.mono h.2.size)⟩
theorem FB.drewN (h : FB w r W) (n : Nat) : FB w r (W.drewN n) := ⟨h.1.drewN n, below_drewN h.2 n⟩
theorem FB.drew (h : FB w r W) : FB w r W.drew := h.drewN 1
theorem FB.alloc (h : FB w r W) (o : Obj) : FB w r (W.alloc o) := h.step ((Below.refl _ _).alloc (Nat.le_refl _) o)
theorem FB.set (h : FB w r W) {p : Addr} (hp : w.heap.size < p.block) (u : Value) : FB w r (W.setCell p u) := ⟨h.1.other (by omega) u, h.2.setCell (by omega) u⟩
theorem FB.cells {f : Flt} {A : Option Addr} {n c : Nat} (h : FB w (FlR.mk f A n c) W) : ∀ i, W.cell? ⟨w.heap.size, i, none⟩ = (#[.string f.car, .int .i64 f.num, .string f.frm, .string f.to_, .int .u8 f.days, .int .i64 f.dep, .int .i64 f.arr, .slice A n c, .int .i64 f.pln] : Array Value)[i]? := h.1.cells
theorem FB.cl (h : FB w r W) {lo hi : Nat} (hc : ClAt w lo hi r) (hhi : hi ≤ w.heap.size) : ClAt W lo hi r := hc.below h.2 hhi
end
/-- What Check tells. -/
def chkN (b : Bool) : Int := if b then 0 else 4
theorem class_is (x : Int) (q : Bool) (h : isL x = q) (h0 : 0 ≤ x) (h1 : x ≤ 255) (u : World) : Calls Tryz.prog 46 #[.int .u8 x] u fun e w' => e = .returned (.bool q) ∧ w' = u :=
  (class_any x u h0 h1).mono fun e w' h2 => ⟨by rw [h2.1, h], h2.2.symm⟩
set_option maxRecDepth 100000 in
set_option maxHeartbeats 4000000 in
theorem check_any' (f : Flt) (A : Option Addr) (n c : Nat) (w : World) (lo hi : Nat) (hr : f.ok) (hlen : f.cls.length = n) (hc : Sl w lo hi tCls A n f.cls) (hn : n ≤ 100000) (hhi : hi ≤ w.heap.size) :
    Calls Tryz.prog 17 #[.agg #[.string f.car, .int .i64 f.num, .string f.frm, .string f.to_, .int .u8 f.days, .int .i64 f.dep, .int .i64 f.arr, .slice A n c, .int .i64 f.pln]] w (fun e w' => e = .returned (.int .i64 (chkN (rightB f))) ∧ Below w.heap.size w w') := by
  have HR := Lib.hid hr
  have HC := Lib.hid hc
  have HB := FB.start w (FlR.mk f A n c)
  have hlen0 := Lib.hid hlen
  clear hr hc hlen
  go_enter Tryz.func17, Tryz.ntmps17
  go_upto_region 1 with fail
  refine wp_world (FB w (FlR.mk f A n c)) HB ?_
  clear HB
  intro W hF
  go_cut [3] (fun t w' => ∃ b, t = .bool b ∧ Hid (b = rightA f) ∧ FB w (FlR.mk f A n c) w')
  case first =>
    have c1 := hF.cells
    go_wp2_with fail
    refine (carrier_any _ _ HR.out.car).mono ?_
    rintro e w1 ⟨rfl, n1, rfl⟩
    generalize hq1 : carrierB f.car = q1
    have HQ1 := Lib.hid hq1
    clear hq1
    cases q1
    · go_wp2
      go_meet
      exact ⟨false, rfl, by show _ = _; simp [rightA, HQ1.out], hF.drewN _⟩
    · go_wp2_with fail
      rotate_left
      · go_meet
        exact ⟨false, rfl, by show _ = _; simp [rightA]; omega, hF.drewN _⟩
      · go_meet
        exact ⟨false, rfl, by show _ = _; simp [rightA]; omega, hF.drewN _⟩
      refine (city_any _ _ HR.out.frm).mono ?_
      rintro e w1 ⟨rfl, hb1⟩
      have hF1 := (hF.drewN n1).step hb1
      have c1 := hF1.cells
      generalize hq1 : wordB f.frm 3 3 = q1
      have HQ2 := Lib.hid hq1
      clear hq1
      cases q1
      · go_wp2
        go_meet
        exact ⟨false, rfl, by show _ = _; simp [rightA, HQ2.out], hF1⟩
      · go_wp2_with fail
        refine (city_any _ _ HR.out.to_).mono ?_
        rintro e w2 ⟨rfl, hb2⟩
        have hF2 := hF1.step hb2
        have c1 := hF2.cells
        generalize hq1 : wordB f.to_ 3 3 = q1
        have HQ3 := Lib.hid hq1
        clear hq1
        cases q1
        · go_wp2
          go_meet
          exact ⟨false, rfl, by show _ = _; simp [rightA, HQ3.out], hF2⟩
        · go_wp2
          go_meet
          refine ⟨_, rfl, ?_, hF2⟩
          show _ = _
          have g1 : 1 ≤ f.num := by assumption
          have g2 : f.num ≤ 9999 := by assumption
          have hdq : (f.frm.toList == f.to_.toList) = decide (f.frm = f.to_) := by
            rw [Bool.eq_iff_iff]; simp; exact ⟨toList_inj, fun h => by rw [h]⟩
          unfold rightA
          rw [HQ1.out, HQ2.out, HQ3.out]
          simp [g1, g2]
          exact hdq
  case rest =>
    clear hF
    obtain ⟨qa, rfl, HQA, hF⟩ := hcut
    go_upto_region 2 with fail
    go_cut [3] (fun t w' => ∃ b, t = .bool b ∧ Hid (b = (qa && rightC f)) ∧ FB w (FlR.mk f A n c) w')
    case first =>
      have c1 := hF.cells
      clear HQA
      cases qa
      · go_wp2
        go_meet
        exact ⟨false, rfl, rfl, hF⟩
      · have hlen := hlen0
        go_wp2
        all_goals go_meet
        all_goals refine ⟨_, rfl, ?_, hF⟩
        all_goals show _ = _
        all_goals unfold rightC
        all_goals rw [hlen.out]
        all_goals simp [*]
        all_goals first | omega | (rw [Bool.eq_iff_iff]; simp; omega)
    case rest =>
      clear hF
      obtain ⟨qb, rfl, HQB, hF⟩ := hcut
      have HQ := Lib.hid (show rightB f = (qb && (minB f.dep && (minB f.arr && allP (clI f.cls) f.cls.length))) by rw [HQB.out, HQA.out, rightB, Bool.and_assoc])
      clear HQA HQB
      have c1 := hF.cells
      have i0 : ∀ u, (Instr.index 112 (.agg #[.int .i64 f.dep, .int .i64 f.arr]) (.int .i64 0)).run Tryz.prog u = .ok (.int .i64 f.dep) u := fun _ => by kernel_rfl
      have i1 : ∀ u, (Instr.index 112 (.agg #[.int .i64 f.dep, .int .i64 f.arr]) (.int .i64 1)).run Tryz.prog u = .ok (.int .i64 f.arr) u := fun _ => by kernel_rfl
      go_wp2
      go_loop [3, 79] (fun t i => ∃ k b, k ≤ 2 ∧ i = .int .i64 (k : Nat) ∧ t = .bool b ∧ Hid (b = (qb && (decide (k < 1) || minB f.dep) && (decide (k < 2) || minB f.arr)))) (fun _ i => 2 - (intOf i).toNat)
      case atStart => exact ⟨0, qb, by omega, rfl, rfl, by show _ = _; simp⟩
      case round =>
        obtain ⟨k, b, hk, rfl, rfl, HB⟩ := hrel
        have hk3 : k = 0 ∨ k = 1 ∨ k = 2 := by omega
        rcases hk3 with rfl | rfl | rfl
        · cases b
          · go_wp2
            go_round
            case rel => exact ⟨1, false, by omega, by go_num, rfl, by show _ = _; have := HB.out; simp at this; simp [this]⟩
            case measure => simp [intOf]
          · have hb : qb = true := by have := HB.out; simp at this; exact this
            go_wp2
            all_goals go_round
            all_goals first
              | (case measure => simp [intOf])
              | skip
            all_goals (refine ⟨1, _, by omega, by go_num, rfl, ?_⟩; show _ = _; rw [hb]; unfold minB; first | (simp [*]; done) | (simp; omega))
        · cases b
          · go_wp2
            go_round
            case rel => exact ⟨2, false, by omega, by go_num, rfl, by show _ = _; have := HB.out; simp at this; simpa using fun h1 h2 => absurd h2 (by simpa using this h1)⟩
            case measure => simp [intOf]
          · have hb : (qb && minB f.dep) = true := by have := HB.out; simp at this; simpa using this
            go_wp2
            all_goals go_round
            all_goals first
              | (case measure => simp [intOf])
              | skip
            all_goals (refine ⟨2, _, by omega, by go_num, rfl, ?_⟩; show _ = _; simp only [show decide (2 < 1) = false from rfl, show decide (2 < 2) = false from rfl, Bool.false_or]; rw [hb]; unfold minB; first | (simp [*]; done) | (simp; omega))
        · have hlen := hlen0
          clear i0 i1
          have HQ2 := Lib.hid (show rightB f = (b && allP (clI f.cls) n) by
            have := HB.out
            simp only [show decide (2 < 1) = false from rfl, show decide (2 < 2) = false from rfl, Bool.false_or] at this
            rw [this, HQ.out, hlen.out]; simp only [Bool.and_assoc])
          clear HB HQ
          go_wp2
          clear c1
          go_loopw [3, 95] (fun t i wr => ∃ k b', k ≤ n ∧ i = .int .i64 (k : Nat) ∧ t = .bool b' ∧ Hid (b' = (b && allP (clI f.cls) k)) ∧ FB w (FlR.mk f A n c) wr) (fun _ i _ => n - (intOf i).toNat)
          case atStart => exact ⟨0, b, by omega, rfl, rfl, by show _ = _; simp [allP], hF⟩
          case round =>
            obtain ⟨k, b', hk, rfl, rfl, HB, hG⟩ := hrel
            clear hF
            by_cases hlt : k < n
            · obtain ⟨b0, o0, x, hA, h1, h2, hx, hok, d0, d1⟩ := (Sl.below HC.out hG.2 hhi).cls_ hlt
              subst hA
              have c1 := hG.cells
              have zz := hG.lt
              have hcl := Lib.hid (show allP (clI f.cls) (k + 1) = (allP (clI f.cls) k && clI f.cls k) from rfl)
              go_upto_region 11 with fail
              refine wp_world (fun W => FB w (FlR.mk f (some ⟨b0, o0, none⟩) n c) W ∧ Bx W wr.heap.size #[.int .u8 x.let_, .int .i64 x.lev] 99 ∧ Sl W lo hi tCls (some ⟨b0, o0, none⟩) n f.cls) ⟨hG.alloc _, Bx.new _ _ _, Sl.below HC.out (hG.alloc _).2 hhi⟩ ?_
              clear c1 d0 d1
              rintro V ⟨hV, hX, hS⟩
              have c1 := hV.cells
              have c2 := hX.cells
              have i0 : (0 : Int) ≤ k := by omega
              have i1 : (k : Int) < n := by omega
              have zV := hX.lt
              cases b'
              · go_quiet (fail)
                go_wp2
                go_roundw
                case rel => exact ⟨k + 1, false, by omega, by go_num, rfl, by show _ = _; have := HB.out; rw [hcl.out, ← Bool.and_assoc, ← this, Bool.false_and], hV.drewN _⟩
                case measure => simp [intOf]; omega
              · obtain ⟨x, y⟩ := x
                have hb0 := Lib.hid hok.1.1
                have hb1 := Lib.hid hok.1.2
                clear hok
                dsimp only at c2
                have hci := Lib.hid (show clI f.cls k = (isL x && (decide (0 ≤ y) && (decide (y ≤ 400) && (decide (k = 0) || (match f.cls[k - 1]? with | some y => decide (y.let_ < x) | none => false))))) by unfold clI; rw [hx.out]; rfl)
                generalize hq : isL x = q
                have HL := Lib.hid hq
                have HCL := Lib.hid (class_is x q hq hb0.out hb1.out)
                clear hq
                have hnext := Lib.hid (show (b && allP (clI f.cls) (k + 1)) = clI f.cls k by have := HB.out; rw [hcl.out, ← Bool.and_assoc, ← this, Bool.true_and])
                cases q
                · go_quiet ((go_at_call 46; exact Calls.quiet_of_same (HCL.out _)))
                  go_wp2
                  go_roundw
                  case rel => exact ⟨k + 1, false, by omega, by go_num, rfl, by show _ = _; rw [hnext.out, hci.out, HL.out, Bool.false_and], hV.drewN _⟩
                  case measure => simp [intOf]; omega
                · by_cases y0 : 0 ≤ y
                  · have y0' : decide (0 ≤ y) = true := by simpa using y0
                    by_cases y1 : y ≤ 400
                    · have y1' : decide (y ≤ 400) = true := by simpa using y1
                      rcases k with _ | k
                      · have hk0 : (((0 : Nat) : Int) == 0) = true := rfl
                        go_quiet ((go_at_call 46; exact Calls.quiet_of_same (HCL.out _)))
                        go_wp2
                        go_roundw
                        case rel => exact ⟨0 + 1, true, by omega, by go_num, rfl, by show _ = _; rw [hnext.out, hci.out, HL.out, y0', y1']; rfl, hV.drewN _⟩
                        case measure => simp [intOf]; omega
                      · obtain ⟨b1, o1, ⟨x', y'⟩, hA, _, _, hx', hok', e0, e1⟩ := hS.cls_ (show k < n by omega)
                        injection hA with hA
                        injection hA with g1 g2
                        subst g1 g2
                        dsimp only at e0 e1
                        have hk0 : (((k : Int) + 1) == 0) = false := by rw [beq_eq_false_iff_ne]; omega
                        have hk2 : (0 : Int) ≤ k := by omega
                        have hk3 : (k : Int) < n := by omega
                        have hci2 := Lib.hid (show clI f.cls (k + 1) = decide (x' < x) by rw [hci.out, HL.out, y0', y1', show k + 1 - 1 = k from rfl, hx'.out]; rfl)
                        generalize hq : decide (x' < x) = q at hci2
                        have hk1 : IntKind.i64.wrap ((k : Int) + 1 - 1) = k := by rw [show (k : Int) + 1 - 1 = k by omega]; exact IntWalk.i64_in _ (by omega)
                        have hk4 : IntKind.i64.wrap (k : Int) = k := IntWalk.i64_in _ (by omega)
                        cases q
                        · go_quiet ((go_at_call 46; exact Calls.quiet_of_same (HCL.out _)))
                          go_wp2
                          go_roundw
                          case rel => exact ⟨k + 1 + 1, false, by omega, by go_num, rfl, by show _ = _; rw [hnext.out, hci2.out], hV.drewN _⟩
                          case measure => simp [intOf]; omega
                        · go_quiet ((go_at_call 46; exact Calls.quiet_of_same (HCL.out _)))
                          go_wp2
                          go_roundw
                          case rel => exact ⟨k + 1 + 1, true, by omega, by go_num, rfl, by show _ = _; rw [hnext.out, hci2.out], hV.drewN _⟩
                          case measure => simp [intOf]; omega
                    · have y1' : decide (y ≤ 400) = false := by simpa using y1
                      go_quiet ((go_at_call 46; exact Calls.quiet_of_same (HCL.out _)))
                      go_wp2
                      go_roundw
                      case rel => exact ⟨k + 1, false, by omega, by go_num, rfl, by show _ = _; rw [hnext.out, hci.out, y1']; simp, hV.drewN _⟩
                      case measure => simp [intOf]; omega
                  · have y0' : decide (0 ≤ y) = false := by simpa using y0
                    go_quiet ((go_at_call 46; exact Calls.quiet_of_same (HCL.out _)))
                    go_wp2
                    go_roundw
                    case rel => exact ⟨k + 1, false, by omega, by go_num, rfl, by show _ = _; rw [hnext.out, hci.out, y0']; simp, hV.drewN _⟩
                    case measure => simp [intOf]; omega
            · obtain rfl : n = k := by omega
              have hfin := Lib.hid (HQ2.out.trans HB.out.symm)
              cases b'
              · go_wp2
                go_ret
                exact ⟨ret_int (by rw [hfin.out]; rfl), hG.2⟩
              · go_wp2
                go_ret
                exact ⟨ret_int (by rw [hfin.out]; rfl), hG.2⟩
theorem check_any (r : FlR) (w : World) (lo hi : Nat) (hr : r.ok) (hc : ClAt w lo hi r) (hn : r.n ≤ 100000) (hhi : hi ≤ w.heap.size) :
    Calls Tryz.prog 17 #[.agg #[.string r.f.car, .int .i64 r.f.num, .string r.f.frm, .string r.f.to_, .int .u8 r.f.days, .int .i64 r.f.dep, .int .i64 r.f.arr, .slice r.A r.n r.c, .int .i64 r.f.pln]] w (fun e w' => e = .returned (.int .i64 (chkN (rightB r.f))) ∧ Below w.heap.size w w') :=
  check_any' r.f r.A r.n r.c w lo hi hr.f hr.len hc hn hhi
end Go.Proofs.YtlkdefmceghmnaaGreatDoor
