/- Seats: the document's answer. -/
import Derived.Test.YtaakcccffmfmoaaDoorPlaces
namespace Go.Proofs.YtaakcccffmfmoaaDoor
set_option linter.unusedVariables false
open Go Go.RowKit
theorem any_step {l : List Plc} {m : Nat} {y x : Plc} (h : l[m]? = some y) (h0 : (l.take m).any (fun y => forb y x) = false) (h1 : forb y x = false) : (l.take (m + 1)).any (fun y => forb y x) = false := by
  rw [take_succ_of h, List.any_append, h0]
  simp [h1]
theorem any_bad {l : List Plc} {m k : Nat} {y x : Plc} (h : l[m]? = some y) (hk : m < k) (h1 : forb y x = true) : (l.take k).any (fun y => forb y x) = true := by
  refine List.any_eq_true.2 ⟨y, ?_, h1⟩
  exact List.mem_of_getElem? (i := m) (by rw [List.getElem?_take]; simp [hk, h])
theorem forb_iff {y x : Plc} : forb y x = true ↔ (x.seg < y.seg ∨ (y.seg = x.seg ∧ (x.pax ≤ y.pax ∨ (y.row = x.row ∧ y.let_ = x.let_)))) := by
  simp only [forb, Bool.or_eq_true, Bool.and_eq_true, decide_eq_true_eq]
theorem forb_not {y x : Plc} (h : ¬ (x.seg < y.seg ∨ (y.seg = x.seg ∧ (x.pax ≤ y.pax ∨ (y.row = x.row ∧ y.let_ = x.let_))))) : forb y x = false := by
  rcases Bool.eq_false_or_eq_true (forb y x) with e | e
  · exact absurd (forb_iff.1 e) h
  · exact e
theorem stI_forb {p : Pnr} {nn i : Nat} {x : Plc} (h : p.seats[i]? = some x) (hb : (p.seats.take i).any (fun y => forb y x) = true) : stI p nn i = false := by rw [stI_at h, hb]; simp
theorem stI_ok {p : Pnr} {nn i : Nat} {x : Plc} (h : p.seats[i]? = some x) (h1 : plcB p nn x = true) (hb : (p.seats.take i).any (fun y => forb y x) = false) : stI p nn i = true := by rw [stI_at h, hb, h1]; rfl
set_option maxRecDepth 100000 in
set_option maxHeartbeats 4000000 in
theorem rseats_any (p : Pnr) (h : Hd) (w : World) (lo hi : Nat) (hp : PAt w lo hi p h) (hn : h.ne ≤ 100000) (hg : h.ng ≤ 100000) (hm : h.nn ≤ 100000) (hhi : hi ≤ w.heap.size) :
    Calls Tryd.prog 50 #[.agg #[.string p.loc, .string p.off, .slice h.an h.nn h.cn, .slice h.ag h.ng h.cg, .slice h.ap h.np h.cp, .int .i64 p.tik.kind, .int .i64 p.tik.day, .int .i64 p.tik.min, .string p.rc, .slice h.ar h.nr h.cr, .slice h.ae h.ne h.ce, .bool p.queued]] w (RetB w (seatsB p h.nn)) := by
  have hs := hp.seats
  have hlen := hs.len
  have HP := Lib.hid hp
  clear hp
  obtain ⟨an, nn, cn, ag, ng, cg, ap, np, cp, ar, nr, cr, ae, ne, ce⟩ := h
  dsimp only at hs hlen hn hg hm
  dsimp only
  rw [show seatsB p nn = allP (stI p nn) ne by simp only [seatsB]; rw [hlen]]
  go_enter Tryd.func50, Tryd.ntmps50
  go_wp2
  go_loopw [3] (fun i wr => ∃ k : Nat, k ≤ ne ∧ i = .int .i64 k ∧ Hid (allP (stI p nn) k = true) ∧ (∀ i, wr.cell? ⟨w.heap.size, i, none⟩ = (#[.string p.loc, .string p.off, .slice an nn cn, .slice ag ng cg, .slice ap np cp, .int .i64 p.tik.kind, .int .i64 p.tik.day, .int .i64 p.tik.min, .string p.rc, .slice ar nr cr, .slice ae ne ce, .bool p.queued] : Array Value)[i]?) ∧ Below w.heap.size w wr ∧ w.heap.size < wr.heap.size) (fun i _ => ne - (intOf i).toNat)
  case atStart => exact ⟨0, Nat.zero_le _, rfl, rfl, by (repeat (first | (with_reducible assumption) | (with_reducible exact boxed_new _ _ _) | (with_reducible refine boxed_drew ?_) | (with_reducible refine boxed_drewN ?_ _) | (with_reducible refine boxed_alloc ?_ (by first | (simp; done) | omega | (simp; omega)) _) | (with_reducible refine boxed_set ?_ _ (by first | (simp; done) | omega | (simp; omega)) _))), by (repeat (first | with_reducible exact Below.refl _ _ | (with_reducible refine Below.drew ?_) | (with_reducible refine below_drewN ?_ _) | (with_reducible refine Below.alloc ?_ (by first | (simp; done) | omega | (simp; omega)) _) | (with_reducible refine Below.setCell ?_ (by first | (simp; done) | omega | (simp; omega)) _) | with_reducible assumption)), by simp⟩
  case round =>
    obtain ⟨k, hk, rfl, hall, hbox, hbel, hsz⟩ := hrel
    by_cases hlt : k < ne
    · obtain ⟨b, o, x, rfl, h1, h2, hx, hok, c0, c1, c2, c3⟩ := (hs.below hbel hhi).plc_ hlt
      obtain ⟨sg, px, rr, lt⟩ := x
      simp only at c0 c1 c2 c3
      have hok0 := hok
      obtain ⟨k1, k2, k3, k4⟩ := hok
      simp only at k1 k2 k3 k4
      have k1' := k1
      unfold okInt at k1 k2 k3
      unfold okByte at k4
      have hbad := fun (h' : plcB p nn ⟨sg, px, rr, lt⟩ = false) => Lib.hid (allP_no ne hlt (stI_bad hx.out h'))
      have hl0 : Hid (plcB p nn ⟨sg, px, rr, lt⟩ = (liveN p.segs sg && (decide (1 ≤ px) && (decide (px ≤ nn) && seatB rr lt)))) := rfl
      have hbox0 := Lib.hid hbox
      rcases Bool.eq_false_or_eq_true (liveN p.segs sg) with hL | hL
      case inr =>
        have hB := hbad (by rw [hl0.out, hL]; rfl)
        go_wp2_with fail
        refine (islive_any p _ sg _ lo hi ((HP.out.below hbel hhi).alloc (by omega) _) hg (by simp; omega) k1').mono ?_
        rintro e w1 ⟨rfl, hb⟩
        rw [hL]
        go_wp2
        go_ret
        exact ⟨ret_bool hB.out.symm, by (repeat (first | with_reducible exact Below.refl _ _ | (with_reducible refine Below.drew ?_) | (with_reducible refine below_drewN ?_ _) | (with_reducible refine Below.alloc ?_ (by first | (simp; done) | omega | (simp; omega)) _) | (with_reducible refine Below.setCell ?_ (by first | (simp; done) | omega | (simp; omega)) _) | (with_reducible refine Below.trans ?_ (Below.mono hb (by first | (simp; done) | omega | (simp; omega)))) | with_reducible assumption))⟩
      go_wp2_with fail
      refine (islive_any p _ sg _ lo hi ((HP.out.below hbel hhi).alloc (by omega) _) hg (by simp; omega) k1').mono ?_
      rintro e w1 ⟨rfl, hb⟩
      rw [hL]
      have hx6 := boxed_below (boxed_new wr #[.int .i64 sg, .int .i64 px, .int .i64 rr, .int .u8 lt] 67) hb (by simp)
      have hx1 := boxed_below (boxed_alloc hbox hsz (.cells #[.int .i64 sg, .int .i64 px, .int .i64 rr, .int .u8 lt] 67)) hb (by simp; omega)
      have hz1 := hb.size
      simp only [World.size_alloc] at hz1
      rcases Bool.eq_false_or_eq_true (seatB rr lt) with hB | hB
      case inr =>
        have hBB := hbad (by rw [hl0.out, hL, hB]; simp)
        go_wp2_with (go_at_call 33; refine (rtext_any _ _ _ k4.1 k4.2).mono ?_; rintro e w2 ⟨t, rfl, ht, hb2⟩; rw [hB] at ht)
        all_goals go_ret
        all_goals exact ⟨ret_bool hBB.out.symm, by (repeat (first | with_reducible exact Below.refl _ _ | (with_reducible refine Below.drew ?_) | (with_reducible refine below_drewN ?_ _) | (with_reducible refine Below.alloc ?_ (by first | (simp; done) | omega | (simp; omega)) _) | (with_reducible refine Below.setCell ?_ (by first | (simp; done) | omega | (simp; omega)) _) | (with_reducible refine Below.trans ?_ (Below.mono hb2 (by first | (simp; done) | omega | (simp; omega)))) | (with_reducible refine Below.trans ?_ (Below.mono hb (by first | (simp; done) | omega | (simp; omega)))) | with_reducible assumption))⟩
      go_wp2_with (go_at_call 33; refine (rtext_any _ _ _ k4.1 k4.2).mono ?_; rintro e w2 ⟨t, rfl, ht, hb2⟩; rw [hB] at ht)
      all_goals first
        | (go_ret; exact ⟨ret_bool (hbad (plcB_pax (by simp only; omega))).out.symm, by (repeat (first | with_reducible exact Below.refl _ _ | (with_reducible refine Below.drew ?_) | (with_reducible refine below_drewN ?_ _) | (with_reducible refine Below.alloc ?_ (by first | (simp; done) | omega | (simp; omega)) _) | (with_reducible refine Below.setCell ?_ (by first | (simp; done) | omega | (simp; omega)) _) | (with_reducible refine Below.trans ?_ (Below.mono hb2 (by first | (simp; done) | omega | (simp; omega)))) | (with_reducible refine Below.trans ?_ (Below.mono hb (by first | (simp; done) | omega | (simp; omega)))) | with_reducible assumption))⟩)
        | skip
      have hz2 := hb2.size
      have hgood : plcB p nn ⟨sg, px, rr, lt⟩ = true := by
        have a1 : 1 ≤ px := by assumption
        have a2 : px ≤ nn := by assumption
        rw [hl0.out, hL, hB, decide_eq_true a1, decide_eq_true a2]; rfl
      have hy1 := boxed_below hx1 hb2 (by omega)
      have hy6 := boxed_below hx6 hb2 (by omega)
      have hB2 : Below w.heap.size w w2 := ((hbel.alloc (by omega) _).trans (hb.mono (by simp; omega))).trans (hb2.mono (by omega))
      clear hx1 hx6 hb hb2
      go_loopw [5] (fun j wr2 => ∃ m : Nat, m ≤ k ∧ j = .int .i64 m ∧ Hid ((p.seats.take m).any (fun y => forb y ⟨sg, px, rr, lt⟩) = false) ∧ (∀ i, wr2.cell? ⟨w.heap.size, i, none⟩ = (#[.string p.loc, .string p.off, .slice an nn cn, .slice ag ng cg, .slice ap np cp, .int .i64 p.tik.kind, .int .i64 p.tik.day, .int .i64 p.tik.min, .string p.rc, .slice ar nr cr, .slice (some ⟨b, o, none⟩) ne ce, .bool p.queued] : Array Value)[i]?) ∧
        (∀ i, wr2.cell? ⟨wr.heap.size, i, none⟩ = (#[.int .i64 sg, .int .i64 px, .int .i64 rr, .int .u8 lt] : Array Value)[i]?) ∧ Below w.heap.size w wr2 ∧ wr.heap.size < wr2.heap.size) (fun j _ => k - (intOf j).toNat)
      case atStart => exact ⟨0, Nat.zero_le _, rfl, (by simp [Hid]), hy1, hy6, hB2, by omega⟩
      case round =>
        obtain ⟨m, hmk, rfl, hany, hq1, hq6, hqb, hqz⟩ := hrel
        by_cases hlm : m < k
        · obtain ⟨b', o', y, hbo, g1, g2, hy, hyok, d0, d1, d2, d3⟩ := (hs.below hqb hhi).plc_ (show m < ne by omega)
          injection hbo with hbo
          injection hbo with e1 e2 _
          subst e1 e2
          obtain ⟨sg', px', rr', lt'⟩ := y
          simp only at d0 d1 d2 d3
          go_wp2
          all_goals first
            | (go_ret; exact ⟨ret_bool (Lib.hid (allP_no ne hlt (stI_forb hx.out (any_bad hy.out hlm (forb_iff.2 (by dsimp only; omega)))))).out.symm, by (repeat (first | with_reducible exact Below.refl _ _ | (with_reducible refine Below.drew ?_) | (with_reducible refine below_drewN ?_ _) | (with_reducible refine Below.alloc ?_ (by first | (simp; done) | omega | (simp; omega)) _) | (with_reducible refine Below.setCell ?_ (by first | (simp; done) | omega | (simp; omega)) _) | with_reducible assumption))⟩)
            | (exact ⟨⟨m + 1, by omega, by go_num, any_step hy.out hany.out (forb_not (by dsimp only; omega)), by (repeat (first | (with_reducible assumption) | (with_reducible exact boxed_new _ _ _) | (with_reducible refine boxed_drew ?_) | (with_reducible refine boxed_drewN ?_ _) | (with_reducible refine boxed_alloc ?_ (by first | (simp; done) | omega | (simp; omega)) _) | (with_reducible refine boxed_set ?_ _ (by first | (simp; done) | omega | (simp; omega)) _))), by (repeat (first | (with_reducible assumption) | (with_reducible exact boxed_new _ _ _) | (with_reducible refine boxed_drew ?_) | (with_reducible refine boxed_drewN ?_ _) | (with_reducible refine boxed_alloc ?_ (by first | (simp; done) | omega | (simp; omega)) _) | (with_reducible refine boxed_set ?_ _ (by first | (simp; done) | omega | (simp; omega)) _))), by (repeat (first | with_reducible exact Below.refl _ _ | (with_reducible refine Below.drew ?_) | (with_reducible refine below_drewN ?_ _) | (with_reducible refine Below.alloc ?_ (by first | (simp; done) | omega | (simp; omega)) _) | (with_reducible refine Below.setCell ?_ (by first | (simp; done) | omega | (simp; omega)) _) | with_reducible assumption)), by simp; omega⟩, by simp [intOf]; omega⟩)
        · have e : m = k := by omega
          subst e
          go_wp2
          exact ⟨⟨m + 1, by omega, by go_num, allP_step hall.out (stI_ok hx.out hgood hany.out), hq1, hqb, by omega⟩, by simp [intOf]; omega⟩
    · have e : k = ne := by omega
      subst e
      go_wp2
      go_ret
      exact ⟨ret_bool hall.out.symm, hbel⟩
end Go.Proofs.YtaakcccffmfmoaaDoor
