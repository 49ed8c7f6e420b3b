/- What is sound: the document's answer. -/
import Derived.Test.YtaakcccffmfmoaaDoorSound
import Derived.Test.YtaakcccffmfmoaaDoorEq
import Derived.Deep.DeepCutAuto
import Derived.Deep.QuietTactic
import Derived.BigQuiet
namespace Go.Proofs.YtaakcccffmfmoaaDoor
set_option linter.unusedVariables false
open Go Go.RowKit
def tik0B (t : Tik) : Bool := t.kind == 0 && (t.day == 0 && t.min == 0)
def rtickB (p : Pnr) : Bool := !((!tik0B p.tik && !tikB p.tik) || (p.queued && !(p.tik.kind == 1)))
theorem rtick_eq (p : Pnr) : rtickB p = ticketB p := by
  unfold rtickB ticketB tikB tik0B
  generalize p.queued = q
  generalize p.tik.kind = k
  generalize p.tik.day = d
  generalize p.tik.min = m
  cases q <;> by_cases h1 : k = 1 <;> by_cases h2 : k = 2 <;> by_cases h0 : k = 0 <;> first | omega | (simp [h0, h1, h2]; done) | simp [beq_eq_false_iff_ne.2 h0, beq_eq_false_iff_ne.2 h1, beq_eq_false_iff_ne.2 h2]
theorem rdup_step {l : List Seg} {m : Nat} {y x : Seg} (h : l[m]? = some y) (h0 : dupL (l.take m) x = false) (h1 : (y.live && legEq y x) = false) : dupL (l.take (m + 1)) x = false := by
  rw [take_succ_of h]
  unfold dupL at h0 ⊢
  rw [List.any_append, h0]
  simp [h1]
theorem rdup_bad {l : List Seg} {m k : Nat} {y x : Seg} (h : l[m]? = some y) (hk : m < k) (h1 : (y.live && legEq y x) = true) : dupL (l.take k) x = true := by
  refine List.any_eq_true.2 ⟨y, ?_, h1⟩
  exact List.mem_of_getElem? (i := m) (by rw [List.getElem?_take]; simp [hk, h])
theorem SW.drewN {w : World} {p : Pnr} {h : Hd} {W : World} (H : SW w p h W) (n : Nat) : SW w p h (W.drewN n) := ⟨below_drewN H.B n, H.box, H.z⟩
theorem SW.alloc {w : World} {p : Pnr} {h : Hd} {W : World} (H : SW w p h W) (o : Obj) : SW w p h (W.alloc o) :=
  ⟨H.B.alloc (Nat.le_of_lt H.z) _, boxed_alloc H.box H.z _, by have := H.z; simp; omega⟩
def headB (p : Pnr) : Bool := locB p && offB p
set_option maxRecDepth 100000 in
set_option maxHeartbeats 4000000 in
theorem rsound_any (p : Pnr) (h : Hd) (w : World) (lo hi : Nat) (hp : PAt w lo hi p h) (hs : Small h) (hhi : hi ≤ w.heap.size) :
    Calls Tryd.prog 20 #[.agg #[.string p.loc, .string p.off, .slice h.an h.nn h.cn, .slice h.ag h.ng h.cg, .slice h.ap h.np h.cp, .int .i64 p.tik.kind, .int .i64 p.tik.day, .int .i64 p.tik.min, .string p.rc, .slice h.ar h.nr h.cr, .slice h.ae h.ne h.ce, .bool p.queued]] w (RetB w (soundB p h.nn)) := by
  have HP := Lib.hid hp
  have HL := Lib.hid hp.segs.len
  obtain ⟨kl, ko, kr, _⟩ := hp
  obtain ⟨sn, sg, sp, sr, se⟩ := hs
  obtain ⟨an, nn, cn, ag, ng, cg, ap, np, cp, ar, nr, cr, ae, ne, ce⟩ := h
  dsimp only at sn sg sp sr se HL
  dsimp only
  have hSB := Lib.hid (show soundB p nn = (locB p && (offB p && (decide (nn ≤ 9) && (allP (nmI p.names) nn && tailB p nn)))) from rfl)
  unfold okStr at kl ko kr
  go_enter Tryd.func20, Tryd.ntmps20
  go_upto_region 1 with fail
  go_cut [26] (fun s w' => s = .bool (!headB p) ∧ SW w p (Hd.mk an nn cn ag ng cg ap np cp ar nr cr ae ne ce) w')
  case first =>
    rcases Bool.eq_false_or_eq_true (wordB p.loc 6 6) with q1 | q1 <;> rcases Bool.eq_false_or_eq_true (wordB p.off 3 3) with q2 | q2
    all_goals
      go_wp2_with (first | (go_at_call 43; refine (rlocator_any _ _ kl).mono ?_; rintro e w1 ⟨rfl, rfl⟩; rw [q1]) | (go_at_call 44; refine (rcity_any _ _ ko).mono ?_; rintro e w1 ⟨rfl, rfl⟩; rw [q2]))
    all_goals
      go_meet
      exact ⟨by simp [headB, locB, offB, *], by (repeat (first | with_reducible exact Below.refl _ _ | (with_reducible refine Below.drew ?_) | (with_reducible refine below_drewN ?_ _) | (with_reducible refine Below.alloc ?_ (by first | (simp; done) | omega | (simp; omega)) _) | (with_reducible refine Below.setCell ?_ (by first | (simp; done) | omega | (simp; omega)) _) | with_reducible assumption)), boxed_new w _ _, by simp⟩
  case rest =>
  obtain ⟨rfl, hSW0⟩ := hcut
  rcases Bool.eq_false_or_eq_true (headB p) with q0 | q0
  case inr =>
    rw [q0]
    go_wp2
    go_ret
    exact ⟨ret_bool (by rw [hSB.out]; unfold headB at q0; rcases Bool.eq_false_or_eq_true (locB p) with g | g <;> simp [g] at q0 ⊢ <;> simp [q0]), hSW0.B⟩
  rw [q0]
  have hS1 := Lib.hid (show soundB p nn = (decide (nn ≤ 9) && (allP (nmI p.names) nn && tailB p nn)) by
    rw [hSB.out]; unfold headB at q0; rw [Bool.and_eq_true] at q0; rw [q0.1, q0.2]; rfl)
  have hbox0 := hSW0.box
  dsimp only at hbox0
  have hz0 := hSW0.z
  by_cases h9 : nn ≤ 9
  case neg =>
    have d9 : decide ((9 : Int) < (nn : Int)) = true := by simp; omega
    go_wp2
    go_ret
    exact ⟨ret_bool (by rw [hS1.out, decide_eq_false h9]; rfl), hSW0.B⟩
  have d9 : decide ((9 : Int) < (nn : Int)) = false := by simp; omega
  by_cases h8 : ng ≤ 8
  case neg =>
    have d8 : decide ((8 : Int) < (ng : Int)) = true := by simp; omega
    go_wp2
    go_ret
    exact ⟨ret_bool (by rw [hS1.out, show tailB p nn = false by unfold tailB segsB; rw [HL.out, decide_eq_false h8]; simp]; simp), hSW0.B⟩
  have d8 : decide ((8 : Int) < (ng : Int)) = false := by simp; omega
  have hS2 := Lib.hid (show soundB p nn = (allP (nmI p.names) nn && tailB p nn) by rw [hS1.out, decide_eq_true h9]; rfl)
  go_wp2
  clear d9 d8
  go_loopw [3] (fun i wr => ∃ k : Nat, k ≤ nn ∧ i = .int .i64 k ∧ Hid (allP (nmI p.names) k = true) ∧ SW w p (Hd.mk an nn cn ag ng cg ap np cp ar nr cr ae ne ce) wr) (fun i _ => nn - (intOf i).toNat)
  case atStart => exact ⟨0, Nat.zero_le _, rfl, rfl, hSW0⟩
  case round =>
    obtain ⟨k, hk, rfl, hall, hSW⟩ := hrel
    have hbox := hSW.box
    dsimp only at hbox
    have hz := hSW.z
    by_cases hlt : k < nn
    · obtain ⟨b, o, x, rfl, h1, h2, hx, hok, c0, c1⟩ := (HP.out.below hSW.B hhi).names.nam_ hlt
      have hbad := fun (h' : nmB x = false) => Lib.hid (allP_no nn hlt ((nmI_at hx.out).trans h'))
      rcases Bool.eq_false_or_eq_true (wordB x.last 1 16) with q1 | q1 <;> rcases Bool.eq_false_or_eq_true (wordB x.first 1 16) with q2 | q2
      case inl.inl =>
        have hgd := Lib.hid (allP_step hall.out ((nmI_at hx.out).trans (show nmB x = true by rw [nmB, q1, q2]; rfl)))
        go_wp2_with fail
        refine (rperson_any _ _ hok.1).mono ?_
        rintro e v1 ⟨rfl, rfl⟩
        rw [q1]
        go_wp2_with fail
        refine (rperson_any _ _ hok.2).mono ?_
        rintro e v1 ⟨rfl, rfl⟩
        rw [q2]
        go_wp2
        go_roundw
        case rel => exact ⟨k + 1, by omega, by go_num, hgd, hSW⟩
        case measure => simp [intOf]; omega
      case inl.inr =>
        have hB := hbad (by rw [nmB, q1, q2]; rfl)
        go_wp2_with fail
        refine (rperson_any _ _ hok.1).mono ?_
        rintro e v1 ⟨rfl, rfl⟩
        rw [q1]
        go_wp2_with fail
        refine (rperson_any _ _ hok.2).mono ?_
        rintro e v1 ⟨rfl, rfl⟩
        rw [q2]
        go_wp2
        go_ret
        exact ⟨ret_bool (by rw [hS2.out, hB.out]; rfl), hSW.B⟩
      all_goals
        have hB := hbad (by rw [nmB, q1]; rfl)
        go_wp2_with fail
        refine (rperson_any _ _ hok.1).mono ?_
        rintro e v1 ⟨rfl, rfl⟩
        rw [q1]
        go_wp2
        go_ret
        exact ⟨ret_bool (by rw [hS2.out, hB.out]; rfl), hSW.B⟩
    · obtain rfl : nn = k := by omega
      have hS3 := Lib.hid (show soundB p nn = tailB p nn by rw [hS2.out, hall.out]; rfl)
      go_wp2
      go_loopw [4] (fun i wr2 => ∃ k : Nat, k ≤ ng ∧ i = .int .i64 k ∧ Hid (allP (sgI p.segs) k = true) ∧ SW w p (Hd.mk an nn cn ag ng cg ap np cp ar nr cr ae ne ce) wr2) (fun i _ => ng - (intOf i).toNat)
      case atStart => exact ⟨0, Nat.zero_le _, rfl, rfl, hSW⟩
      case round =>
        obtain ⟨k, hk, rfl, hall2, hSW2⟩ := hrel
        have hbox2 := hSW2.box
        dsimp only at hbox2
        have hz2 := hSW2.z
        clear hbox hz hbox0 hz0
        by_cases hlt : k < ng
        · obtain ⟨b, o, x, rfl, h1, h2, hx, hok, c0, c1, c2, c3, c4⟩ := (HP.out.below hSW2.B hhi).segs.seg_ hlt
          obtain ⟨xc, xn, xd, xl, xv⟩ := x
          dsimp only at c0 c1 c2 c3 c4
          have hok' := hok
          obtain ⟨k1, k2, k3, k4⟩ := hok'
          dsimp only at k1 k2 k3 k4
          unfold okStr at k1
          unfold okInt at k2 k3
          unfold okByte at k4
          have hT := fun (h' : sgI p.segs k = false) => Lib.hid (show tailB p nn = false by
            unfold tailB segsB; rw [HL.out, allP_no ng hlt h']; simp)
          rcases Bool.eq_false_or_eq_true (segB ⟨xc, xn, xd, xl, xv⟩) with q1 | q1
          case inr =>
            have hB := hT (sgI_bad hx.out q1)
            go_wp2_with fail
            refine (rsegf_any ⟨xc, xn, xd, xl, xv⟩ _ hok).mono ?_
            rintro e v1 ⟨rfl, hb3⟩
            rw [q1]
            go_wp2
            go_ret
            exact ⟨ret_bool (by rw [hS3.out, hB.out]), (hSW2.step hb3).B⟩
          go_wp2_with fail
          refine (rsegf_any ⟨xc, xn, xd, xl, xv⟩ _ hok).mono ?_
          rintro e v1 ⟨rfl, hb3⟩
          rw [q1]
          have hSW3 := hSW2.step hb3
          clear hb3 hbox2 hz2 c0 c1 c2 c3 c4
          go_wp2
          go_loopw [5] (fun j wr3 => ∃ m : Nat, m ≤ k ∧ j = .int .i64 m ∧ Hid ((xv && dupL (p.segs.take m) ⟨xc, xn, xd, xl, xv⟩) = false) ∧ SW w p (Hd.mk an nn cn (some ⟨b, o, none⟩) ng cg ap np cp ar nr cr ae ne ce) wr3) (fun j _ => k - (intOf j).toNat)
          case atStart => exact ⟨0, Nat.zero_le _, rfl, (by cases xv <;> rfl), hSW3⟩
          case round =>
            obtain ⟨m, hm, rfl, hdup, hSW4⟩ := hrel
            have hbox4 := hSW4.box
            dsimp only at hbox4
            have hz4 := hSW4.z
            by_cases hlm : m < k
            · obtain ⟨b', o', y, hbo, g1, g2, hy, hyok, e0, e1, e2, e3, e4⟩ := (HP.out.below hSW4.B hhi).segs.seg_ (show m < ng by omega)
              injection hbo with hbo
              injection hbo with ee1 ee2 _
              subst ee1 ee2
              obtain ⟨b'', o'', x', hbo, g1', g2', hx', hok', c0, c1, c2, c3, c4⟩ := (HP.out.below hSW4.B hhi).segs.seg_ hlt
              injection hbo with hbo
              injection hbo with ee1 ee2 _
              subst ee1 ee2
              have ee3 := hx.out.symm.trans hx'.out
              injection ee3 with ee3
              subst ee3
              clear hx'
              obtain ⟨yc, yn, yd, yl, yv⟩ := y
              dsimp only at e0 e1 e2 e3 e4 c0 c1 c2 c3 c4
              have heq := fun u => eql_leg yc xc yn xn yd xd u
              have hle : legEq ⟨yc, yn, yd, yl, yv⟩ ⟨xc, xn, xd, xl, xv⟩ = (decide (yc = xc) && (decide (yn = xn) && decide (yd = xd))) := rfl
              rw [← hle] at heq
              clear hle
              generalize hq : legEq ⟨yc, yn, yd, yl, yv⟩ ⟨xc, xn, xd, xl, xv⟩ = bq at heq
              have HQ := Lib.hid hq
              clear hq
              rcases yv with _ | _ <;> rcases xv with _ | _
              case true.true =>
                rcases bq with _ | _
                · go_wp2
                  go_quiet (fail)
                  go_wp2
                  go_roundw
                  case rel => exact ⟨m + 1, by omega, by go_num, (by rw [Bool.true_and]; exact rdup_step hy.out hdup.out (by rw [HQ.out]; rfl)), hSW4.drewN _⟩
                  case measure => simp [intOf]; omega
                · have hB := hT (by rw [sgI_at hx.out, rdup_bad hy.out hlm (by rw [HQ.out]; rfl)]; simp)
                  go_wp2
                  go_quiet (fail)
                  go_wp2
                  go_ret
                  exact ⟨ret_bool (by rw [hS3.out, hB.out]), below_drewN hSW4.B _⟩
              case true.false =>
                go_wp2
                go_quiet (fail)
                go_wp2
                go_roundw
                case rel => exact ⟨m + 1, by omega, by go_num, (by rfl), hSW4.drewN _⟩
                case measure => simp [intOf]; omega
              all_goals
                go_wp2
                go_quiet (fail)
                go_wp2
                go_roundw
                case rel => exact ⟨m + 1, by omega, by go_num, (by first | rfl | (rw [Bool.true_and]; exact rdup_step hy.out hdup.out (by rfl))), hSW4.drewN _⟩
                case measure => simp [intOf]; omega
            · obtain rfl : m = k := by omega
              have hgd := Lib.hid (allP_step hall2.out ((sgI_at hx.out).trans (by rw [q1]; have := hdup.out; dsimp only at this ⊢; rw [this]; rfl)))
              go_wp2
              go_roundw
              case rel => exact ⟨m + 1, by omega, by go_num, hgd, hSW4⟩
              case measure => simp [intOf]; omega
        · obtain rfl : ng = k := by omega
          have hS4 := Lib.hid (show soundB p nn = (textsB p.phones 4 && (textsB p.remarks 10 && (rcB p && (rtickB p && seatsB p nn)))) by
            rw [hS3.out, rtick_eq]; unfold tailB segsB; rw [HL.out, hall2.out, decide_eq_true h8]; rfl)
          have hbx := hSW2.box
          dsimp only at hbx
          have hzx := hSW2.z
          clear hbox2 hz2
          go_upto_region 21 with fail
          go_cut [130] (fun s w' => s = .bool (!rtickB p) ∧ SW w p (Hd.mk an nn cn ag ng cg ap np cp ar nr cr ae ne ce) w')
          case first =>
            have HSA := Lib.hid (hSW2.alloc (.cells #[.int .i64 0, .int .i64 0, .int .i64 0] 26))
            obtain ⟨ploc, poff, pnames, psegs, pphones, ptik, prc, premarks, pseats, pq⟩ := p
            dsimp only at hbx
            dsimp only
            have HV := Lib.hid (show rtickB ⟨ploc, poff, pnames, psegs, pphones, ptik, prc, premarks, pseats, pq⟩ = !((!tik0B ptik && !tikB ptik) || (pq && !(ptik.kind == 1))) from rfl)
            have hne := fun u => neq_ticket ptik.kind 0 ptik.day 0 ptik.min 0 u
            have h0 : (decide (ptik.kind = 0) && (decide (ptik.day = 0) && decide (ptik.min = 0))) = tik0B ptik := by
              unfold tik0B; rw [Bool.eq_iff_iff]; simp
            rw [h0] at hne
            clear h0
            generalize hq1 : tik0B ptik = b1 at hne
            have HQ1 := Lib.hid hq1
            clear hq1
            rcases Bool.eq_false_or_eq_true (tikB ptik) with q2 | q2 <;> rcases Bool.eq_false_or_eq_true (ptik.kind == 1) with q4 | q4
            all_goals
              have q6 : (ptik.kind != 1) = !(ptik.kind == 1) := rfl
              rw [q4] at q6
              have HV2 := HV.out
              rw [HQ1.out, q2, q4] at HV2
              have HV3 := Lib.hid HV2
              clear HV2
              rcases b1 with _ | _ <;> rcases pq with _ | _
            all_goals
              go_wp2_with (go_at_call 47; refine (rtikf_any ptik _).mono ?_; rintro e v1 ⟨rfl, hb5⟩; rw [q2]; have hx1 := (HSA.out.step hb5).box; dsimp only at hx1)
            all_goals
              go_meet
              refine ⟨congrArg Value.bool (by rw [HV3.out]; rfl), ?_⟩
              first | exact HSA.out.step hb5 | exact HSA.out
          case rest =>
            obtain ⟨rfl, hSW5⟩ := hcut
            have hbx5 := hSW5.box
            dsimp only at hbx5
            have hz5 := hSW5.z
            clear hbx hzx
            rcases Bool.eq_false_or_eq_true (rtickB p) with q0 | q0
            case inr =>
              rw [q0]
              go_wp2
              go_ret
              exact ⟨ret_bool (by rw [hS4.out, q0]; simp), hSW5.B⟩
            rw [q0]
            have hS6 := Lib.hid (show soundB p nn = (textsB p.phones 4 && (textsB p.remarks 10 && (rcB p && seatsB p nn))) by rw [hS4.out, q0]; simp)
            go_wp2_with fail
            refine (rtexts_any p.phones ap np cp 4 _ lo hi (HP.out.below hSW5.B hhi).phones sp (by omega)).mono ?_
            rintro e v2 ⟨rfl, hb4⟩
            have S4 := hSW5.step hb4
            have hbox4 := S4.box
            dsimp only at hbox4
            rcases Bool.eq_false_or_eq_true (textsB p.phones 4) with q2 | q2
            case inr =>
              rw [q2]
              go_wp2
              go_ret
              exact ⟨ret_bool (by rw [hS6.out, q2]; rfl), S4.B⟩
            rw [q2]
            go_wp2_with fail
            refine (rtexts_any p.remarks ar nr cr 10 v2 lo hi (HP.out.below S4.B hhi).remarks sr (by have := S4.z; omega)).mono ?_
            rintro e v3 ⟨rfl, hb5⟩
            have S5 := S4.step hb5
            have hbox5 := S5.box
            dsimp only at hbox5
            rcases Bool.eq_false_or_eq_true (textsB p.remarks 10) with q3 | q3
            case inr =>
              rw [q3]
              go_wp2
              go_ret
              exact ⟨ret_bool (by rw [hS6.out, q2, q3]; rfl), S5.B⟩
            rw [q3]
            rcases Bool.eq_false_or_eq_true p.rc.toList.isEmpty with q4 | q4
            · go_wp2_with fail
              refine (rseats_any p (Hd.mk an nn cn ag ng cg ap np cp ar nr cr ae ne ce) _ lo hi (HP.out.below S5.B hhi) se sg sn (by have := S5.z; omega)).mono ?_
              rintro e v5 ⟨rfl, hb7⟩
              have S7 := S5.step hb7
              go_wp2
              go_ret
              exact ⟨ret_bool (by rw [hS6.out, q2, q3, rcB, q4]; simp), S7.B⟩
            · go_wp2_with fail
              refine (rfree_any p.rc _ kr).mono ?_
              rintro e v6 ⟨rfl, rfl⟩
              rcases Bool.eq_false_or_eq_true (freeB p.rc) with q6 | q6
              case inr =>
                rw [q6]
                go_wp2
                go_ret
                exact ⟨ret_bool (by rw [hS6.out, q2, q3, rcB, q4, q6]; simp), S5.B⟩
              rw [q6]
              go_wp2_with fail
              refine (rseats_any p (Hd.mk an nn cn ag ng cg ap np cp ar nr cr ae ne ce) _ lo hi (HP.out.below S5.B hhi) se sg sn (by have := S5.z; omega)).mono ?_
              rintro e v5 ⟨rfl, hb7⟩
              have S7 := S5.step hb7
              go_wp2
              go_ret
              exact ⟨ret_bool (by rw [hS6.out, q2, q3, rcB, q4, q6]; simp), S7.B⟩
end Go.Proofs.YtaakcccffmfmoaaDoor
