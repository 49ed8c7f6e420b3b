/- What is sound: the program's answer. -/
import Derived.Test.YtaakcccffmfmoaaDoorRplaces
namespace Go.Proofs.YtaakcccffmfmoaaDoor
set_option linter.unusedVariables false
open Go Go.RowKit
def locB (p : Pnr) : Bool := p.loc.toList.isEmpty || wordB p.loc 6 6
def offB (p : Pnr) : Bool := p.off.toList.isEmpty || wordB p.off 3 3
def rcB (p : Pnr) : Bool := p.rc.toList.isEmpty || freeB p.rc
def nmI (l : List Nam) (i : Nat) : Bool := match l[i]? with | some x => nmB x | none => false
theorem nmI_at {l : List Nam} {i : Nat} {x : Nam} (h : l[i]? = some x) : nmI l i = nmB x := by simp [nmI, h]
def tailB (p : Pnr) (nn : Nat) : Bool := segsB p.segs && (textsB p.phones 4 && (textsB p.remarks 10 && (rcB p && (ticketB p && seatsB p nn))))
def soundB (p : Pnr) (nn : Nat) : Bool := locB p && (offB p && (decide (nn ≤ 9) && (allP (nmI p.names) nn && tailB p nn)))
/-- The last part of it: a chain of calls. -/
structure SW (w : World) (p : Pnr) (h : Hd) (W : World) : Prop where
  B : Below w.heap.size w W
  box : ∀ i, W.cell? ⟨w.heap.size, i, none⟩ = (#[.string p.loc, .string p.off, .slice h.an h.nn h.cn, .slice h.ag h.ng h.cg, .slice h.ap h.np h.cp, .int .i64 p.tik.kind, .int .i64 p.tik.day, .int .i64 p.tik.min, .string p.rc, .slice h.ar h.nr h.cr, .slice h.ae h.ne h.ce, .bool p.queued] : Array Value)[i]?
  z : w.heap.size < W.heap.size
theorem SW.step {w : World} {p : Pnr} {h : Hd} {W W1 : World} (H : SW w p h W) (hb : Below W.heap.size W W1) : SW w p h W1 :=
  ⟨H.B.trans (hb.mono (Nat.le_of_lt H.z)), boxed_below H.box hb H.z, Nat.lt_of_lt_of_le H.z hb.size⟩
set_option maxRecDepth 100000 in
set_option maxHeartbeats 4000000 in
theorem sound_any (p : Pnr) (h : Hd) (w : World) (lo hi : Nat) (hp : PAt w lo hi p h) (hs : Small h) (hhi : hi ≤ w.heap.size) :
    Calls Tryd.prog 19 #[.agg #[.string p.loc, .string p.off, .slice h.an h.nn h.cn, .slice h.ag h.ng h.cg, .slice h.ap h.np h.cp, .int .i64 p.tik.kind, .int .i64 p.tik.day, .int .i64 p.tik.min, .string p.rc, .slice h.ar h.nr h.cr, .slice h.ae h.ne h.ce, .bool p.queued]] w (RetB w (soundB p h.nn)) := by
  have HP := Lib.hid hp
  obtain ⟨kl, ko, kr, _⟩ := hp
  obtain ⟨sn, sg, sp, sr, se⟩ := hs
  obtain ⟨an, nn, cn, ag, ng, cg, ap, np, cp, ar, nr, cr, ae, ne, ce⟩ := h
  dsimp only at sn sg sp sr se
  dsimp only
  have hSB := Lib.hid (show soundB p nn = (locB p && (offB p && (decide (nn ≤ 9) && (allP (nmI p.names) nn && tailB p nn)))) from rfl)
  unfold okStr at kl ko kr
  go_enter Tryd.func19, Tryd.ntmps19
  go_wp2_with (first | (go_at_call 35; refine (locator_any _ _ kl).mono ?_; rintro e w1 ⟨rfl, hb1⟩; have hz1 := hb1.size; simp only [World.size_alloc] at hz1; have hx1 := boxed_below (boxed_new w #[.string p.loc, .string p.off, .slice an nn cn, .slice ag ng cg, .slice ap np cp, .int .i64 p.tik.kind, .int .i64 p.tik.day, .int .i64 p.tik.min, .string p.rc, .slice ar nr cr, .slice ae ne ce, .bool p.queued] 29) hb1 (by simp)) | (go_at_call 36; refine (city_any _ _ ko).mono ?_; rintro e w2 ⟨rfl, hb2⟩; have hx2 := by first | exact boxed_below hx1 hb2 (by have := hb1.size; simp at this; omega) | exact boxed_below (boxed_new w #[.string p.loc, .string p.off, .slice an nn cn, .slice ag ng cg, .slice ap np cp, .int .i64 p.tik.kind, .int .i64 p.tik.day, .int .i64 p.tik.min, .string p.rc, .slice ar nr cr, .slice ae ne ce, .bool p.queued] 29) hb2 (by simp)))
  all_goals first
    | (go_ret; exact ⟨ret_bool (by rw [hSB.out]; first | (simp [locB, offB, *]; done) | (simp [locB, offB, *]; omega)), by (repeat (first | with_reducible exact Below.refl _ _ | (with_reducible refine Below.drew ?_) | (with_reducible refine below_drewN ?_ _) | (with_reducible refine Below.alloc ?_ (by first | (simp; done) | omega | (simp; omega)) _) | (with_reducible refine Below.setCell ?_ (by first | (simp; done) | omega | (simp; omega)) _) | (with_reducible refine Below.trans ?_ (Below.mono hb2 (by first | (simp; done) | omega | (simp; omega)))) | (with_reducible refine Below.trans ?_ (Below.mono hb1 (by first | (simp; done) | omega | (simp; omega)))) | with_reducible assumption))⟩)
    | skip
  all_goals
    have hhead : soundB p nn = (allP (nmI p.names) nn && tailB p nn) := by
      rw [hSB.out, show locB p = true by simp [locB, *], show offB p = true by simp [offB, *], decide_eq_true (show nn ≤ 9 by omega)]
      simp
    rw [hhead]
    have HH := Lib.hid hhead
    clear hhead
    refine wp_world (SW w p (Hd.mk an nn cn ag ng cg ap np cp ar nr cr ae ne ce)) ?_ ?_
    · first
        | exact SW.step (SW.step ⟨by (repeat (first | with_reducible exact Below.refl _ _ | (with_reducible refine Below.drew ?_) | (with_reducible refine below_drewN ?_ _) | (with_reducible refine Below.alloc ?_ (by first | (simp; done) | omega | (simp; omega)) _) | (with_reducible refine Below.setCell ?_ (by first | (simp; done) | omega | (simp; omega)) _) | with_reducible assumption)), boxed_new w _ _, by simp⟩ hb1) hb2
        | exact SW.step ⟨by (repeat (first | with_reducible exact Below.refl _ _ | (with_reducible refine Below.drew ?_) | (with_reducible refine below_drewN ?_ _) | (with_reducible refine Below.alloc ?_ (by first | (simp; done) | omega | (simp; omega)) _) | (with_reducible refine Below.setCell ?_ (by first | (simp; done) | omega | (simp; omega)) _) | with_reducible assumption)), boxed_new w _ _, by simp⟩ hb1
        | exact SW.step ⟨by (repeat (first | with_reducible exact Below.refl _ _ | (with_reducible refine Below.drew ?_) | (with_reducible refine below_drewN ?_ _) | (with_reducible refine Below.alloc ?_ (by first | (simp; done) | omega | (simp; omega)) _) | (with_reducible refine Below.setCell ?_ (by first | (simp; done) | omega | (simp; omega)) _) | with_reducible assumption)), boxed_new w _ _, by simp⟩ hb2
        | exact ⟨by (repeat (first | with_reducible exact Below.refl _ _ | (with_reducible refine Below.drew ?_) | (with_reducible refine below_drewN ?_ _) | (with_reducible refine Below.alloc ?_ (by first | (simp; done) | omega | (simp; omega)) _) | (with_reducible refine Below.setCell ?_ (by first | (simp; done) | omega | (simp; omega)) _) | with_reducible assumption)), boxed_new w _ _, by simp⟩
    intro W0 hSW0
    have q9 : decide ((9 : Int) < ↑nn) = false := by simp; omega
    try simp only [q9]
    try simp only [show wordB p.off 3 3 = true by assumption]
    try simp only [show wordB p.loc 6 6 = true by assumption]
    clear q9
    go_loopw [34] (fun i wr => ∃ k : Nat, k ≤ nn ∧ i = .int .i64 k ∧ Hid (allP (nmI p.names) k = true) ∧ SW w p (Hd.mk an nn cn ag ng cg ap np cp ar nr cr ae ne ce) wr) (fun i _ => nn - (intOf i).toNat)
    case atStart => exact ⟨0, Nat.zero_le _, rfl, rfl, hSW0⟩
    case round =>
      obtain ⟨k, hk, rfl, hall, hSW⟩ := hrel
      by_cases hlt : k < nn
      · have hbox := hSW.box
        have hz := hSW.z
        obtain ⟨b, o, x, rfl, h1, h2, hx, hok, c0, c1⟩ := (HP.out.below hSW.B hhi).names.nam_ hlt
        have hbad := fun (h' : nmB x = false) => Lib.hid (allP_no nn hlt ((nmI_at hx.out).trans h'))
        rcases Bool.eq_false_or_eq_true (wordB x.last 1 16) with q1 | q1
        case inr =>
          have hB := hbad (by rw [nmB, q1]; rfl)
          go_wp2_with (go_at_call 37; refine (person_any _ _ hok.1).mono ?_; rintro e v1 ⟨rfl, hb3⟩; rw [q1])
          go_ret
          exact ⟨ret_bool (by first | (rw [HH.out, hB.out]; rfl) | (rw [hB.out]; rfl)), (hSW.B.alloc (by omega) _).trans (hb3.mono (by simp; omega))⟩
        rcases Bool.eq_false_or_eq_true (wordB x.first 1 16) with q2 | q2
        case inr =>
          have hB := hbad (by rw [nmB, q1, q2]; rfl)
          go_wp2_with fail
          refine (person_any _ _ hok.1).mono ?_
          rintro e v1 ⟨rfl, hb3⟩
          rw [q1]
          have hx6 := boxed_below (boxed_new wr #[.string x.last, .string x.first] 39) hb3 (by simp)
          go_wp2_with fail
          refine (person_any _ _ hok.2).mono ?_
          rintro e v2 ⟨rfl, hb4⟩
          rw [q2]
          go_wp2
          go_ret
          have hz3 := hb3.size
          simp only [World.size_alloc] at hz3
          exact ⟨ret_bool (by first | (rw [HH.out, hB.out]; rfl) | (rw [hB.out]; rfl)), ((hSW.B.alloc (by omega) _).trans (hb3.mono (by simp; omega))).trans (hb4.mono (by omega))⟩
        go_wp2_with fail
        refine (person_any _ _ hok.1).mono ?_
        rintro e v1 ⟨rfl, hb3⟩
        rw [q1]
        have hx6 := boxed_below (boxed_new wr #[.string x.last, .string x.first] 39) hb3 (by simp)
        go_wp2_with fail
        refine (person_any _ _ hok.2).mono ?_
        rintro e v2 ⟨rfl, hb4⟩
        rw [q2]
        have S1 : SW w p (Hd.mk (some ⟨b, o, none⟩) nn cn ag ng cg ap np cp ar nr cr ae ne ce) v2 := SW.step (SW.step ⟨hSW.B.alloc (by omega) _, boxed_alloc hbox hz _, by simp; omega⟩ hb3) hb4
        go_wp2
        go_roundw
        case rel => exact ⟨k + 1, by omega, by go_num, allP_step hall.out ((nmI_at hx.out).trans (by rw [nmB, q1, q2]; rfl)), S1⟩
        case measure => simp [intOf]; omega
      · obtain rfl : nn = k := by omega
        have hbox := hSW.box
        dsimp only at hbox
        have hz := hSW.z
        go_wp2_with fail
        refine (segments_any p.segs ag ng cg wr lo hi (HP.out.below hSW.B hhi).segs sg (by omega)).mono ?_
        rintro e v1 ⟨rfl, hb3⟩
        have S3 := hSW.step hb3
        have hbox3 := S3.box
        dsimp only at hbox3
        have T := Lib.hid (show soundB p nn = (segsB p.segs && (textsB p.phones 4 && (textsB p.remarks 10 && (rcB p && (ticketB p && seatsB p nn))))) by rw [HH.out, hall.out, Bool.true_and]; rfl)
        rcases Bool.eq_false_or_eq_true (segsB p.segs) with q1 | q1
        case inr =>
          rw [q1]
          go_wp2
          go_ret
          exact ⟨ret_bool (by rw [T.out, q1]; rfl), S3.B⟩
        rw [q1]
        go_wp2_with fail
        refine (texts_any p.phones ap np cp 4 v1 lo hi (HP.out.below S3.B hhi).phones sp (by have := S3.z; omega)).mono ?_
        rintro e v2 ⟨rfl, hb4⟩
        have S4 := S3.step hb4
        have hbox4 := S4.box
        dsimp only at hbox4
        rcases Bool.eq_false_or_eq_true (textsB p.phones 4) with q2 | q2
        case inr =>
          rw [q2]
          go_wp2
          go_ret
          exact ⟨ret_bool (by rw [T.out, q1, q2]; rfl), S4.B⟩
        rw [q2]
        go_wp2_with fail
        refine (texts_any p.remarks ar nr cr 10 v2 lo hi (HP.out.below S4.B hhi).remarks sr (by have := S4.z; omega)).mono ?_
        rintro e v3 ⟨rfl, hb5⟩
        have S5 := S4.step hb5
        have hbox5 := S5.box
        dsimp only at hbox5
        rcases Bool.eq_false_or_eq_true (textsB p.remarks 10) with q3 | q3
        case inr =>
          rw [q3]
          go_wp2
          go_ret
          exact ⟨ret_bool (by rw [T.out, q1, q2, q3]; rfl), S5.B⟩
        rw [q3]
        rcases Bool.eq_false_or_eq_true p.rc.toList.isEmpty with q4 | q4
        · go_wp2_with fail
          refine (ticket_any p (Hd.mk an nn cn ag ng cg ap np cp ar nr cr ae ne ce) _).mono ?_
          rintro e v4 ⟨rfl, hb6⟩
          have S6 := S5.step hb6
          have hbox6 := S6.box
          dsimp only at hbox6
          rcases Bool.eq_false_or_eq_true (ticketB p) with q5 | q5
          case inr =>
            rw [q5]
            go_wp2
            go_ret
            exact ⟨ret_bool (by rw [T.out, q1, q2, q3, q5]; simp), S6.B⟩
          rw [q5]
          go_wp2_with fail
          refine (seats_any p (Hd.mk an nn cn ag ng cg ap np cp ar nr cr ae ne ce) _ lo hi (HP.out.below S6.B hhi) se sg sn (by have := S6.z; omega)).mono ?_
          rintro e v5 ⟨rfl, hb7⟩
          have S7 := S6.step hb7
          go_wp2
          go_ret
          exact ⟨ret_bool (by rw [T.out, q1, q2, q3, q5, rcB, q4]; simp), S7.B⟩
        · go_wp2_with fail
          refine (free_any p.rc _ kr).mono ?_
          rintro e v6 ⟨rfl, hb8⟩
          have S8 := S5.step hb8
          have hbox8 := S8.box
          dsimp only at hbox8
          rcases Bool.eq_false_or_eq_true (freeB p.rc) with q6 | q6
          case inr =>
            rw [q6]
            go_wp2
            go_ret
            exact ⟨ret_bool (by rw [T.out, q1, q2, q3, rcB, q4, q6]; simp), S8.B⟩
          rw [q6]
          go_wp2_with fail
          refine (ticket_any p (Hd.mk an nn cn ag ng cg ap np cp ar nr cr ae ne ce) _).mono ?_
          rintro e v4 ⟨rfl, hb6⟩
          have S6 := S8.step hb6
          have hbox6 := S6.box
          dsimp only at hbox6
          rcases Bool.eq_false_or_eq_true (ticketB p) with q5 | q5
          case inr =>
            rw [q5]
            go_wp2
            go_ret
            exact ⟨ret_bool (by rw [T.out, q1, q2, q3, q5]; simp), S6.B⟩
          rw [q5]
          go_wp2_with fail
          refine (seats_any p (Hd.mk an nn cn ag ng cg ap np cp ar nr cr ae ne ce) _ lo hi (HP.out.below S6.B hhi) se sg sn (by have := S6.z; omega)).mono ?_
          rintro e v5 ⟨rfl, hb7⟩
          have S7 := S6.step hb7
          go_wp2
          go_ret
          exact ⟨ret_bool (by rw [T.out, q1, q2, q3, q5, rcB, q4, q6]; simp), S7.B⟩
end Go.Proofs.YtaakcccffmfmoaaDoor
