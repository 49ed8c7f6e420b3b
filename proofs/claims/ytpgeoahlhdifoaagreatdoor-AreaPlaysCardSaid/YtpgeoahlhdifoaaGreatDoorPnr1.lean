/- The program's small functions of PNRs: formed, ticket, live, whose. -/
import Derived.Test.YtpgeoahlhdifoaaGreatDoorMApply
import Derived.BigGuardPart
namespace Go.Proofs.YtpgeoahlhdifoaaGreatDoor
set_option linter.unusedVariables false
open Go Go.RowKit
set_option maxRecDepth 100000 in
set_option maxHeartbeats 1000000 in
theorem pformed_any (s : Seg) (w : World) (hok : Seg.ok s) :
    Calls Tryz.prog 83 #[.agg #[.string s.car, .int .i64 s.num, .int .i64 s.day, .int .u8 s.cls, .bool s.live]] w (RetB w (segB s && s.live)) := by
  obtain ⟨k1, k2, k3, k4⟩ := hok
  obtain ⟨sc, sn, sd, sl, sv⟩ := s
  dsimp only at k1 k2 k3 k4
  dsimp only
  have HS := Lib.hid (show segB ⟨sc, sn, sd, sl, sv⟩ = (carrierB sc && (decide (1 ≤ sn) && (decide (sn ≤ 9999) && (dayB sd && isL sl)))) from rfl)
  generalize q1 : carrierB sc = b1 at HS
  generalize q2 : dayB sd = b2 at HS
  generalize q3 : isL sl = b3 at HS
  have HQ1 := Lib.hid q1
  have HQ2 := Lib.hid q2
  have HQ3 := Lib.hid q3
  have hwk : (decide (0 < wkd sd)) = b2 := by
    cases b2 with
    | true => have := wkd_yes q2; rw [decide_eq_true_eq]; omega
    | false => rw [wkd_no q2]; rfl
  have HW := Lib.hid hwk
  generalize hwd : wkd sd = wd at hwk
  have HWD := Lib.hid hwd
  clear q1 q2 q3 hwk hwd
  rcases b1 with _ | _ <;> rcases b2 with _ | _ <;> rcases b3 with _ | _ <;> rcases sv with _ | _
  all_goals
    have hwd2 := HW.out
    rw [HWD.out] at hwd2
    simp only [decide_eq_true_eq, decide_eq_false_iff_not] at hwd2
    go_enter Tryz.func83, Tryz.ntmps83
    go_wp2_with (first | (go_at_call 98; refine (carrier_any _ _ k1).mono ?_; rintro e w1 ⟨rfl, n, rfl⟩; rw [HQ1.out]) | (go_at_call 99; refine (weekday_any _ _).mono ?_; rintro e w1 ⟨rfl, rfl⟩; rw [HWD.out]) | (go_at_call 100; refine (class_any _ _ k4.1 k4.2).mono ?_; rintro e w1 ⟨rfl, rfl⟩; rw [HQ3.out]))
    all_goals first | (exfalso; omega) | (go_ret; exact ⟨ret_bool (by first | rfl | (rw [HS.out]; first | (simp [*]; done) | (simp [*]; omega))), by (repeat (first | with_reducible exact Below.refl _ _ | (with_reducible refine Below.drew ?_) | (with_reducible refine below_drewN ?_ _) | (with_reducible refine Below.alloc ?_ (by first | (simp; done) | omega | (simp; omega)) _) | (with_reducible refine Below.setCell ?_ (by first | (simp; done) | omega | (simp; omega)) _) | with_reducible assumption))⟩)
set_option maxRecDepth 100000 in
set_option maxHeartbeats 1000000 in
theorem pticket_any (t : Tik) (w : World) :
    Calls Tryz.prog 66 #[.agg #[.int .i64 t.kind, .int .i64 t.day, .int .i64 t.min]] w (RetB w (tikB t)) := by
  obtain ⟨tk, td, tm⟩ := t
  dsimp only
  have heq := fun u => eql_ticket tk 2 td 0 tm 0 u
  have HT := Lib.hid (show tikB ⟨tk, td, tm⟩ = (if tk == 2 then (td == 0 && tm == 0) else (tk == 1 && momB td tm)) from rfl)
  have hd : (decide (tk = 2) && (decide (td = 0) && decide (tm = 0))) = (tk == 2 && (td == 0 && tm == 0)) := by
    rw [Bool.eq_iff_iff]; simp
  rw [hd] at heq
  clear hd
  generalize q2 : (td == 0 && tm == 0) = b2 at heq HT
  generalize q1 : (tk == 2) = b1 at heq HT
  generalize q3 : (tk == 1) = b3 at HT
  generalize q4 : momB td tm = b4 at HT
  have HQ4 := Lib.hid q4
  have h13 : ¬ (b1 = true ∧ b3 = true) := by
    rintro ⟨rfl, rfl⟩
    simp at q1 q3
    omega
  clear q4 q1 q2
  rcases b4 with _ | _
  all_goals
    rcases b1 with _ | _ <;> rcases b3 with _ | _ <;> rcases b2 with _ | _
    all_goals first
      | exact absurd ⟨rfl, rfl⟩ h13
      | (go_enter Tryz.func66, Tryz.ntmps66
         go_wp2_with (go_at_call 84; refine (join_any _ _ _).mono ?_; rintro e w1 ⟨rfl, rfl⟩; first | rw [joinV_yes HQ4.out] | rw [joinV_no HQ4.out])
         all_goals go_ret
         all_goals exact ⟨ret_bool (by rw [HT.out]; rfl), by (repeat (first | with_reducible exact Below.refl _ _ | (with_reducible refine Below.drew ?_) | (with_reducible refine below_drewN ?_ _) | (with_reducible refine Below.alloc ?_ (by first | (simp; done) | omega | (simp; omega)) _) | (with_reducible refine Below.setCell ?_ (by first | (simp; done) | omega | (simp; omega)) _) | with_reducible assumption))⟩)
set_option maxRecDepth 100000 in
set_option maxHeartbeats 1000000 in
theorem plive_any (p : Pnr) (h : Hd) (n : Int) (w : World) (lo hi : Nat) (hp : PAt w lo hi p h) (hn : h.ng ≤ 100000) (hhi : hi ≤ w.heap.size) (h0 : okInt n) :
    Calls Tryz.prog 68 #[.agg #[.string p.loc, .string p.off, .slice h.an h.nn h.cn, .slice h.ag h.ng h.cg, .slice h.ap h.np h.cp, .int .i64 p.tik.kind, .int .i64 p.tik.day, .int .i64 p.tik.min, .string p.rc, .slice h.ar h.nr h.cr, .slice h.ae h.ne h.ce, .bool p.queued], .int .i64 n] w (RetB w (liveN p.segs n)) := by
  have hsl := hp.segs
  have HL := Lib.hid hsl.len
  clear hp
  unfold okInt at h0
  obtain ⟨an, nn, cn, ag, ng, cg, ap, np, cp, ar, nr, cr, ae, ne, ce⟩ := h
  dsimp only at *
  by_cases h1 : 1 ≤ n
  case neg =>
    rw [show liveN p.segs n = false by simp [liveN, h1]]
    go_enter Tryz.func68, Tryz.ntmps68
    go_wp2
    go_ret
    exact ⟨rfl, by (repeat (first | with_reducible exact Below.refl _ _ | (with_reducible refine Below.drew ?_) | (with_reducible refine below_drewN ?_ _) | (with_reducible refine Below.alloc ?_ (by first | (simp; done) | omega | (simp; omega)) _) | (with_reducible refine Below.setCell ?_ (by first | (simp; done) | omega | (simp; omega)) _) | with_reducible assumption))⟩
  by_cases h2 : n ≤ (ng : Int)
  case neg =>
    have hf : liveN p.segs n = false := by
      unfold liveN lvI
      rw [List.getElem?_eq_none (by have := HL.out; omega)]
      simp
    rw [hf]
    clear hf
    go_enter Tryz.func68, Tryz.ntmps68
    go_wp2
    go_ret
    exact ⟨rfl, by (repeat (first | with_reducible exact Below.refl _ _ | (with_reducible refine Below.drew ?_) | (with_reducible refine below_drewN ?_ _) | (with_reducible refine Below.alloc ?_ (by first | (simp; done) | omega | (simp; omega)) _) | (with_reducible refine Below.setCell ?_ (by first | (simp; done) | omega | (simp; omega)) _) | with_reducible assumption))⟩
  have hk : (n - 1).toNat < ng := by omega
  obtain ⟨b, o, x, rfl, g1, g2, hx, hok, c0, c1, c2, c3, c4⟩ := hsl.seg_ hk
  have hf : Hid (liveN p.segs n = x.live) := by
    show liveN p.segs n = x.live
    unfold liveN
    rw [lvI_at hx.out]
    simp [h1]
  have hn0 : (0 : Int) ≤ n - 1 := by omega
  have hn1 : n - 1 < (ng : Int) := by omega
  have e5 : o + (n - 1).toNat * 5 + 4 = o + (n.toNat - 1) * 5 + 4 := by omega
  obtain ⟨xc, xn, xd, xl, xv⟩ := x
  dsimp only at c4 hf
  have c4' := c4
  rw [e5] at c4'
  clear e5 c0 c1 c2 c3
  have hb : b < w.heap.size := by omega
  go_enter Tryz.func68, Tryz.ntmps68
  go_wp2
  go_ret
  exact ⟨ret_bool hf.out.symm, by (repeat (first | with_reducible exact Below.refl _ _ | (with_reducible refine Below.drew ?_) | (with_reducible refine below_drewN ?_ _) | (with_reducible refine Below.alloc ?_ (by first | (simp; done) | omega | (simp; omega)) _) | (with_reducible refine Below.setCell ?_ (by first | (simp; done) | omega | (simp; omega)) _) | with_reducible assumption))⟩
set_option maxRecDepth 100000 in
set_option maxHeartbeats 1000000 in
theorem pwhose_any (p : Pnr) (h : Hd) (e : Edit) (w : World) (lo hi : Nat) (hp : PAt w lo hi p h) (hs : Small h) (hhi : hi ≤ w.heap.size) (he : e.ok) :
    Calls Tryz.prog 87 #[.agg #[.string p.loc, .string p.off, .slice h.an h.nn h.cn, .slice h.ag h.ng h.cg, .slice h.ap h.np h.cp, .int .i64 p.tik.kind, .int .i64 p.tik.day, .int .i64 p.tik.min, .string p.rc, .slice h.ar h.nr h.cr, .slice h.ae h.ne h.ce, .bool p.queued], .agg #[.int .i64 e.kind, .string e.nam.last, .string e.nam.first, .string e.seg.car, .int .i64 e.seg.num, .int .i64 e.seg.day, .int .u8 e.seg.cls, .bool e.seg.live, .int .i64 e.tik.kind, .int .i64 e.tik.day, .int .i64 e.tik.min, .string e.text, .int .i64 e.n, .int .i64 e.pax, .int .i64 e.row, .int .u8 e.let_]] w (RetI w (whoseF p e)) := by
  have HP := Lib.hid hp
  have HL := Lib.hid hp.names.len
  clear hp
  obtain ⟨sn, sg, sp, sr, se⟩ := hs
  obtain ⟨e1, e2, e3, e4, e5, e6, e7, e8, e9⟩ := he
  have HO := Lib.hid e6
  unfold okInt at e6 e7
  have hS := SWE.start w p h e 29 50
  go_enter Tryz.func87, Tryz.ntmps87
  go_wp2_with fail
  refine (plive_any p _ e.n _ lo hi (HP.out.below hS.B hhi) sg (by have := hS.z; omega) HO.out).mono ?_
  rintro en w1 ⟨rfl, hb⟩
  have hS1 := hS.step hb
  clear hb hS
  have hx1 := hS1.box1
  have hx2 := hS1.box2
  rcases Bool.eq_false_or_eq_true (liveN p.segs e.n) with q1 | q1
  case inr =>
    have hw : Hid (whoseF p e = 16) := by show whoseF p e = 16; unfold whoseF; rw [q1]; rfl
    rw [q1]
    go_wp2
    go_ret
    exact ⟨ret_int hw.out.symm, hS1.B⟩
  rw [q1]
  have hw : Hid (whoseF p e = if 1 ≤ e.pax ∧ e.pax ≤ (h.nn : Int) then 0 else 17) := by show whoseF p e = _; unfold whoseF; rw [q1, ← HL.out]; rfl
  clear q1
  go_wp2
  all_goals go_ret
  all_goals exact ⟨ret_int (by rw [hw.out]; first | (rw [if_pos (by omega)]; done) | (rw [if_neg (by omega)]; done)), hS1.B⟩
end Go.Proofs.YtpgeoahlhdifoaaGreatDoor
