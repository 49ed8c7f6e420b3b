/- PnrCancels: the walk. -/
import Derived.Test.YtaakcccffmfmoaaDoorBoxes
import Derived.Test.YtaakcccffmfmoaaDoorCancelL
namespace Go.Proofs.YtaakcccffmfmoaaDoor
set_option linter.unusedVariables false
open Go Go.RowKit
structure CN (w : World) (p : Pnr) (h : Hd) (q : Pnr) (h1 : Hd) (g : Nat) (W : World) : Prop where
  B : Below w.heap.size w W
  box1 : ∀ i, W.cell? ⟨w.heap.size, i, none⟩ = (#[.string p.loc, .string p.off, .slice h.an h.nn h.cn, .slice h.ag h.ng h.cg, .slice h.ap h.np h.cp, .int .i64 p.tik.kind, .int .i64 p.tik.day, .int .i64 p.tik.min, .string p.rc, .slice h.ar h.nr h.cr, .slice h.ae h.ne h.ce, .bool p.queued] : Array Value)[i]?
  box5 : ∀ i, W.cell? ⟨g, i, none⟩ = (#[.string q.loc, .string q.off, .slice h1.an h1.nn h1.cn, .slice h1.ag h1.ng h1.cg, .slice h1.ap h1.np h1.cp, .int .i64 q.tik.kind, .int .i64 q.tik.day, .int .i64 q.tik.min, .string q.rc, .slice h1.ar h1.nr h1.cr, .slice h1.ae h1.ne h1.ce, .bool q.queued] : Array Value)[i]?
  P : PAt W 0 w.heap.size p h
  Q : OP W 0 q h1
  z : w.heap.size < g
  z5 : g < W.heap.size
theorem CN.step {w : World} {p : Pnr} {h : Hd} {q : Pnr} {h1 : Hd} {g : Nat} {W W1 : World} (H : CN w p h q h1 g W) (hb : Below W.heap.size W W1) : CN w p h q h1 g W1 :=
  ⟨H.B.trans (hb.mono (by have := H.z; have := H.z5; omega)), boxed_below H.box1 hb (by have := H.z; have := H.z5; omega), boxed_below H.box5 hb H.z5, H.P.below hb (by have := H.z; have := H.z5; omega), H.Q.keep hb, H.z, Nat.lt_of_lt_of_le H.z5 hb.size⟩
theorem BS.one (w : World) (cs : Array Value) (t : TypeId) : BS w [(w.heap.size, cs)] (w.alloc (.cells cs t)) := BS.alloc (w := w) (L := []) (Below.refl _ w) cs t
theorem dec_self5 (x : Seg) (b : Bool) : (decide (x.car = x.car) && (decide (x.num = x.num) && (decide (x.day = x.day) && (decide (x.cls = x.cls) && decide (b = b))))) = true := by simp
theorem dec_self4 (x : Plc) : (decide (x.seg = x.seg) && (decide (x.pax = x.pax) && (decide (x.row = x.row) && decide (x.let_ = x.let_)))) = true := by simp
set_option maxRecDepth 100000 in
set_option maxHeartbeats 8000000 in
theorem cancels_early (p : Pnr) (h : Hd) (n : Int) (w : World) (hsb : smallB h = false) :
    Calls Tryd.prog 11 #[.agg #[.string p.loc, .string p.off, .slice h.an h.nn h.cn, .slice h.ag h.ng h.cg, .slice h.ap h.np h.cp, .int .i64 p.tik.kind, .int .i64 p.tik.day, .int .i64 p.tik.min, .string p.rc, .slice h.ar h.nr h.cr, .slice h.ae h.ne h.ce, .bool p.queued], .int .i64 n] w (RetB w true) := by
  have H0 := BS.one w #[.string p.loc, .string p.off, .slice h.an h.nn h.cn, .slice h.ag h.ng h.cg, .slice h.ap h.np h.cp, .int .i64 p.tik.kind, .int .i64 p.tik.day, .int .i64 p.tik.min, .string p.rc, .slice h.ar h.nr h.cr, .slice h.ae h.ne h.ce, .bool p.queued] 29
  go_enter Tryd.func11, Tryd.ntmps11
  have HI1 := Lib.hid H0
  go_wp2_with fail
  refine (awake12_any _).mono ?_
  rintro en w1 ⟨rfl, hb1⟩
  have GG := HI1.out.step hb1
  have HI2 := Lib.hid GG
  clear H0 HI1
  obtain ⟨⟨z0, x0⟩, _⟩ := GG
  dsimp only at z0 x0
  go_wp2_with fail
  refine (small_any p h _).mono ?_
  rintro en w2 ⟨rfl, hb2⟩
  have GG := HI2.out.step hb2
  rw [hsb]
  go_wp2
  go_ret
  exact ⟨rfl, GG.B⟩
set_option maxRecDepth 100000 in
set_option maxHeartbeats 8000000 in
theorem cancels_err (p : Pnr) (h : Hd) (n : Int) (w : World) (hp : PAt w 0 w.heap.size p h) (hc : Caps h) (hn : okInt n) (hsb : smallB h = true) (hq : applyF p (cancelE n) = (pnr0, 16)) :
    Calls Tryd.prog 11 #[.agg #[.string p.loc, .string p.off, .slice h.an h.nn h.cn, .slice h.ag h.ng h.cg, .slice h.ap h.np h.cp, .int .i64 p.tik.kind, .int .i64 p.tik.day, .int .i64 p.tik.min, .string p.rc, .slice h.ar h.nr h.cr, .slice h.ae h.ne h.ce, .bool p.queued], .int .i64 n] w (RetB w true) := by
  have HP := Lib.hid (hp.ps hc)
  have HSM := Lib.hid ((smallB_pnr hsb hp).mono (show 200 ≤ 100000 by omega))
  have ha := fun (W : World) (h1 : PS W (fun b => 0 ≤ b ∧ b < w.heap.size) p h) (h2 : ∀ b, (0 ≤ b ∧ b < w.heap.size) → b < W.heap.size) => papply_any p h (cancelE n) W _ h1 h2 HSM.out (cancelE_ok hn)
  rw [hq] at ha
  have HA := Lib.hid ha
  clear ha hq hp hc
  have H0 := BS.one w #[.string p.loc, .string p.off, .slice h.an h.nn h.cn, .slice h.ag h.ng h.cg, .slice h.ap h.np h.cp, .int .i64 p.tik.kind, .int .i64 p.tik.day, .int .i64 p.tik.min, .string p.rc, .slice h.ar h.nr h.cr, .slice h.ae h.ne h.ce, .bool p.queued] 29
  go_enter Tryd.func11, Tryd.ntmps11
  have HI1 := Lib.hid H0
  go_wp2_with fail
  refine (awake12_any _).mono ?_
  rintro en w1 ⟨rfl, hb1⟩
  have GG := HI1.out.step hb1
  have HI2 := Lib.hid GG
  clear H0 HI1
  obtain ⟨⟨z0, x0⟩, _⟩ := GG
  dsimp only at z0 x0
  go_wp2_with fail
  refine (small_any p h _).mono ?_
  rintro en w2 ⟨rfl, hb2⟩
  have GG := HI2.out.step hb2
  have HI3 := Lib.hid GG
  rw [hsb]
  clear HI2 x0 z0
  obtain ⟨⟨z0, x0⟩, _⟩ := GG
  dsimp only at z0 x0
  go_wp2_with fail
  refine (HA.out _ (HP.out.below HI3.out.B (fun b hb => hb.2)) (fun b hb => by omega)).mono ?_
  rintro en w3 ⟨h1, rfl, o1, hb3⟩
  have HB := Lib.hid (HI3.out.step hb3).B
  dsimp only at o1
  clear o1
  go_wp2
  go_ret
  exact ⟨rfl, HB.out.alloc HB.out.size _⟩
set_option maxRecDepth 100000 in
set_option maxHeartbeats 8000000 in
theorem cancels_yes (p : Pnr) (h : Hd) (n : Int) (w : World) (hp : PAt w 0 w.heap.size p h) (hc : Caps h) (hn : okInt n) (hsb : smallB h = true) (q : Pnr) (hq : applyF p (cancelE n) = (q, 0)) (hn1 : 1 ≤ n) (hnl : n ≤ p.segs.length)
    (G1 : ∀ (i : Nat) x, p.segs[i]? = some x → q.segs[i]? = some (if (i : Int) = n - 1 then dead x else x)) (G2 : q.segs.length = p.segs.length)
    (G3 : ∀ (i : Nat) x, p.seats[i]? = some x → x.seg ≠ n → q.seats[goneK p.seats n i]? = some x) (G4 : goneK p.seats n p.seats.length = q.seats.length)
    (G5 : (applyF q (cancelE n)).2 = 16) (G6 : (applyF q (seatE n)).2 = 16) :
    Calls Tryd.prog 11 #[.agg #[.string p.loc, .string p.off, .slice h.an h.nn h.cn, .slice h.ag h.ng h.cg, .slice h.ap h.np h.cp, .int .i64 p.tik.kind, .int .i64 p.tik.day, .int .i64 p.tik.min, .string p.rc, .slice h.ar h.nr h.cr, .slice h.ae h.ne h.ce, .bool p.queued], .int .i64 n] w (RetB w true) := by
  have HP := Lib.hid (hp.ps hc)
  have HPA := Lib.hid hp
  have hps := smallB_pnr hsb hp
  have HSM := Lib.hid (hps.mono (show 200 ≤ 100000 by omega))
  have hqs := (applyF_small (e := cancelE n) hps).mono (show 200 + 1 ≤ 100000 by omega)
  have ha := fun (W : World) (h1 : PS W (fun b => 0 ≤ b ∧ b < w.heap.size) p h) (h2 : ∀ b, (0 ≤ b ∧ b < w.heap.size) → b < W.heap.size) => papply_any p h (cancelE n) W _ h1 h2 HSM.out (cancelE_ok hn)
  rw [hq] at ha hqs
  have HQS := Lib.hid hqs
  have HA := Lib.hid ha
  have ha2 := fun (W : World) (h1 : Hd) (o : OP W 0 q h1) => papply_any q h1 (cancelE n) W _ o.ps (fun b hb => hb.2) HQS.out (cancelE_ok hn)
  have ha3 := fun (W : World) (h1 : Hd) (o : OP W 0 q h1) => papply_any q h1 (seatE n) W _ o.ps (fun b hb => hb.2) HQS.out (seatE_ok hn)
  generalize applyF q (cancelE n) = r2 at ha2 G5
  generalize applyF q (seatE n) = r3 at ha3 G6
  obtain ⟨q2, f2⟩ := r2
  obtain ⟨q3, f3⟩ := r3
  dsimp only at G5 G6
  subst G5 G6
  have HA2 := Lib.hid ha2
  have HA3 := Lib.hid ha3
  have HG1 := Lib.hid G1
  have HG3 := Lib.hid G3
  have HG4 := Lib.hid G4
  have HL1 := Lib.hid hp.segs.len
  have HL2 := Lib.hid hp.seats.len
  have HG2 := Lib.hid (G2.trans hp.segs.len)
  obtain ⟨s1, s2, s3, s4, s5⟩ := smallB_yes hsb
  have hng : n ≤ h.ng := by have := hp.segs.len; omega
  clear ha ha2 ha3 hq hp hc hqs hps G1 G3 G4 G2 hnl
  have H0 := BS.one w #[.string p.loc, .string p.off, .slice h.an h.nn h.cn, .slice h.ag h.ng h.cg, .slice h.ap h.np h.cp, .int .i64 p.tik.kind, .int .i64 p.tik.day, .int .i64 p.tik.min, .string p.rc, .slice h.ar h.nr h.cr, .slice h.ae h.ne h.ce, .bool p.queued] 29
  go_enter Tryd.func11, Tryd.ntmps11
  have HI1 := Lib.hid H0
  go_wp2_with fail
  refine (awake12_any _).mono ?_
  rintro en w1 ⟨rfl, hb1⟩
  have GG := HI1.out.step hb1
  have HI2 := Lib.hid GG
  clear H0 HI1
  obtain ⟨⟨z0, x0⟩, _⟩ := GG
  dsimp only at z0 x0
  go_wp2_with fail
  refine (small_any p h _).mono ?_
  rintro en w2 ⟨rfl, hb2⟩
  have GG := HI2.out.step hb2
  have HI3 := Lib.hid GG
  rw [hsb]
  clear HI2 x0 z0
  obtain ⟨⟨z0, x0⟩, _⟩ := GG
  dsimp only at z0 x0
  go_wp2_with fail
  refine (HA.out _ (HP.out.below HI3.out.B (fun b hb => hb.2)) (fun b hb => by omega)).mono ?_
  rintro en w3 ⟨h1, rfl, o1, hb3⟩
  dsimp only at o1
  have GG := HI3.out.step hb3
  clear z0 x0
  obtain ⟨⟨z0, x0⟩, HB⟩ := GG
  dsimp only at z0 x0
  replace HB := Lib.hid (show Below w.heap.size w w3 from HB)
  have hz3 : w.heap.size < w3.heap.size := z0
  have hCN : CN w p h q h1 w3.heap.size (w3.alloc (.cells #[.string q.loc, .string q.off, .slice h1.an h1.nn h1.cn, .slice h1.ag h1.ng h1.cg, .slice h1.ap h1.np h1.cp, .int .i64 q.tik.kind, .int .i64 q.tik.day, .int .i64 q.tik.min, .string q.rc, .slice h1.ar h1.nr h1.cr, .slice h1.ae h1.ne h1.ce, .bool q.queued] 29)) :=
    ⟨HB.out.alloc HB.out.size _, boxed_alloc x0 z0 _, boxed_new w3 _ _, (HPA.out.below HB.out (Nat.le_refl _)).alloc HB.out.size _, (o1.more (Nat.zero_le _)).alloc _, z0, by simp⟩
  replace hCN := Lib.hid hCN
  clear o1 hb3 HI3
  go_upto_region 6 with fail
  refine wp_world (fun W => CN w p h q h1 w3.heap.size W) hCN.out ?_
  clear hCN x0 z0 HB
  generalize w3.heap.size = g at hz3 ⊢
  rintro W hX
  have hl1 : h1.ng = h.ng := by have a := hX.Q.segs.sl.len; have b := HG2.out; omega
  have hl2 : h1.ne = q.seats.length := hX.Q.seats.sl.len.symm
  obtain ⟨an, nn, cn, ag, ng, cg, ap, np, cp, ar, nr, cr, ae, ne, ce⟩ := h
  obtain ⟨an1, nn1, cn1, ag1, ng1, cg1, ap1, np1, cp1, ar1, nr1, cr1, ae1, ne1, ce1⟩ := h1
  dsimp only at hl1 hl2 hng s1 s2 s3 s4 s5
  subst hl1
  have HL3 := Lib.hid hl2
  clear hl2
  replace HL1 := Lib.hid HL1.out
  dsimp only at HL1 HL2
  have y1 := hX.box1
  have y5 := hX.box5
  have hz5 := hX.z5
  dsimp only at y1 y5
  go_wp2
  go_loopw [7, 8] (fun i _ wr => ∃ k : Nat, k ≤ ng1 ∧ i = .int .i64 k ∧ CN w p (Hd.mk an nn cn ag ng1 cg ap np cp ar nr cr ae ne ce) q (Hd.mk an1 nn1 cn1 ag1 ng1 cg1 ap1 np1 cp1 ar1 nr1 cr1 ae1 ne1 ce1) g wr) (fun i _ _ => ng1 - (intOf i).toNat)
  case atStart => exact ⟨0, Nat.zero_le _, rfl, hX⟩
  case round =>
    clear hX y1 y5 hz5
    obtain ⟨k, hk, rfl, hX⟩ := hrel
    have y1 := hX.box1
    have y5 := hX.box5
    have hz5 := hX.z5
    dsimp only at y1 y5
    by_cases hlt : k < ng1
    · obtain ⟨b, o, x, hA, g1, g2, hx, hok, c0, c1, c2, c3, c4⟩ := hX.P.segs.seg_ hlt
      obtain ⟨b', o', y, hA', g1', g2', hy, hok', d0, d1, d2, d3, d4⟩ := hX.Q.segs.sl.seg_ hlt
      have hxy := hy.out.symm.trans (HG1.out k x hx.out)
      injection hxy with hxy
      dsimp only at hA hA'
      subst hA hA'
      have hk0 : (0 : Int) ≤ k := by omega
      have hkl : (k : Int) < ng1 := by omega
      have hbs : b < wr.heap.size := by omega
      have hbs' : b' < wr.heap.size := g2'
      clear hx hy hok hok' g1 g2 g1' g2'
      by_cases hkn : (k : Int) = n - 1
      · rw [if_pos hkn] at hxy
        subst hxy
        obtain rfl : n = (k : Int) + 1 := by omega
        clear hkn
        simp only [dead] at d0 d1 d2 d3 d4
        have hne := fun u => neq_segment x.car x.car x.num x.num x.day x.day x.cls x.cls false false u
        rw [dec_self5 x false] at hne
        go_wp2
        go_quiet (fail)
        go_wp2
        go_roundw
        case rel => exact ⟨k + 1, by omega, by go_num, hX.step (by (repeat (first | with_reducible exact Below.refl _ _ | (with_reducible refine Below.drew ?_) | (with_reducible refine below_drewN ?_ _) | (with_reducible refine Below.alloc ?_ (by first | (simp; done) | omega | (simp; omega)) _) | (with_reducible refine Below.setCell ?_ (by first | (simp; done) | omega | (simp; omega)) _) | with_reducible assumption)))⟩
        case measure => simp [intOf]; omega
      · rw [if_neg hkn] at hxy
        subst hxy
        have hne := fun u => neq_segment y.car y.car y.num y.num y.day y.day y.cls y.cls y.live y.live u
        rw [dec_self5 y y.live] at hne
        go_wp2
        go_quiet (fail)
        go_wp2
        go_roundw
        case rel => exact ⟨k + 1, by omega, by go_num, hX.step (by (repeat (first | with_reducible exact Below.refl _ _ | (with_reducible refine Below.drew ?_) | (with_reducible refine below_drewN ?_ _) | (with_reducible refine Below.alloc ?_ (by first | (simp; done) | omega | (simp; omega)) _) | (with_reducible refine Below.setCell ?_ (by first | (simp; done) | omega | (simp; omega)) _) | with_reducible assumption)))⟩
        case measure => simp [intOf]; omega
    · obtain rfl : ng1 = k := by omega
      go_wp2
      go_loopw [9, 10] (fun s i wr => ∃ k : Nat, k ≤ ne ∧ i = .int .i64 k ∧ s = .int .i64 (goneK p.seats n k) ∧ CN w p (Hd.mk an nn cn ag ng1 cg ap np cp ar nr cr ae ne ce) q (Hd.mk an1 nn1 cn1 ag1 ng1 cg1 ap1 np1 cp1 ar1 nr1 cr1 ae1 ne1 ce1) g wr) (fun _ i _ => ne - (intOf i).toNat)
      case atStart => exact ⟨0, Nat.zero_le _, rfl, (by simp [goneK, placesF]), hX⟩
      case round =>
        clear hX y1 y5 hz5
        obtain ⟨k, hk, rfl, rfl, hX⟩ := hrel
        have y1 := hX.box1
        have y5 := hX.box5
        have hz5 := hX.z5
        dsimp only at y1 y5
        by_cases hlt : k < ne
        · obtain ⟨b, o, x, hA, g1, g2, hx, hok, c0, c1, c2, c3⟩ := hX.P.seats.plc_ hlt
          have hs := Lib.hid (goneK_succ (n := n) hx.out)
          have hk0 : (0 : Int) ≤ k := by omega
          have hkl : (k : Int) < ne := by omega
          have hbs : b < wr.heap.size := by omega
          dsimp only at hA
          subst hA
          by_cases hxn : x.seg = n
          · have hnx := hs.out
            rw [if_pos hxn] at hnx
            replace hnx := Lib.hid hnx
            clear hx hok g1 g2 hs
            have hq : (x.seg == n) = true := beq_iff_eq.2 hxn
            clear hxn
            go_wp2
            go_roundw
            case rel => exact ⟨k + 1, by omega, by go_num, (by rw [hnx.out]; rfl), hX⟩
            case measure => simp [intOf]; omega
          · have hnx := hs.out
            rw [if_neg hxn] at hnx
            replace hnx := Lib.hid hnx
            have hgx := HG3.out k x hx.out hxn
            have hkk := lt_of_get hgx
            rw [← HL3.out] at hkk
            generalize goneK p.seats n k = kk at hnx hgx hkk ⊢
            obtain ⟨b', o', y, hA', g1', g2', hy, hok', d0, d1, d2, d3⟩ := hX.Q.seats.sl.plc_ hkk
            have hxy := hy.out.symm.trans hgx
            injection hxy with hxy
            subst hxy
            dsimp only at hA'
            subst hA'
            have hbs' : b' < wr.heap.size := g2'
            have hkk0 : (0 : Int) ≤ kk := by omega
            have hkk3 : kk ≤ 100000 := by have h5 := HQS.out.seats; have h6 := HL3.out; omega
            have hkk1 : (kk : Int) < ne1 := by omega
            have hkk2 : ¬ (ne1 : Int) ≤ kk := by omega
            have hq : (y.seg == n) = false := beq_eq_false_iff_ne.2 hxn
            have hne := fun u => neq_place y.seg y.seg y.pax y.pax y.row y.row y.let_ y.let_ u
            rw [dec_self4 y] at hne
            clear hx hy hgx hok hok' g1 g2 g1' g2' hs hxn
            go_wp2
            go_quiet (fail)
            go_wp2
            go_roundw
            case rel => exact ⟨k + 1, by omega, by go_num, (by rw [hnx.out]; go_num), hX.step (by (repeat (first | with_reducible exact Below.refl _ _ | (with_reducible refine Below.drew ?_) | (with_reducible refine below_drewN ?_ _) | (with_reducible refine Below.alloc ?_ (by first | (simp; done) | omega | (simp; omega)) _) | (with_reducible refine Below.setCell ?_ (by first | (simp; done) | omega | (simp; omega)) _) | with_reducible assumption)))⟩
            case measure => simp [intOf]; omega
        · obtain rfl : ne = k := by omega
          have hfin := HG4.out
          rw [HL2.out, ← HL3.out] at hfin
          rw [hfin]
          clear hfin hlt hk
          have HX := Lib.hid hX
          clear hX
          go_wp2_with fail
          refine (HA2.out _ (Hd.mk an1 nn1 cn1 ag1 ng1 cg1 ap1 np1 cp1 ar1 nr1 cr1 ae1 ne1 ce1) HX.out.Q).mono ?_
          rintro en w4 ⟨h4, rfl, o4, hb4⟩
          have hX4 := HX.out.step hb4
          have hX5 := hX4.step ((Below.refl _ _).alloc (Nat.le_refl _) (.cells #[.string q2.loc, .string q2.off, .slice h4.an h4.nn h4.cn, .slice h4.ag h4.ng h4.cg, .slice h4.ap h4.np h4.cp, .int .i64 q2.tik.kind, .int .i64 q2.tik.day, .int .i64 q2.tik.min, .string q2.rc, .slice h4.ar h4.nr h4.cr, .slice h4.ae h4.ne h4.ce, .bool q2.queued] 29))
          have HX5 := Lib.hid hX5
          clear o4 HX y1 y5 hz5 hX5
          have y5 := hX4.box5
          have hz5 := hX4.z5
          dsimp only at y5
          clear hX4
          go_wp2_with fail
          refine (HA3.out _ (Hd.mk an1 nn1 cn1 ag1 ng1 cg1 ap1 np1 cp1 ar1 nr1 cr1 ae1 ne1 ce1) HX5.out.Q).mono ?_
          rintro en w6 ⟨h6, rfl, o6, hb6⟩
          have hX6 := HX5.out.step hb6
          have HB6 := Lib.hid hX6.B
          clear o6 HX5 y5 hz5
          have y5 := hX6.box5
          have hz5 := hX6.z5
          dsimp only at y5
          clear hX6
          go_wp2
          go_ret
          exact ⟨rfl, HB6.out.alloc HB6.out.size _⟩
theorem pnrCancels_any (p : Pnr) (h : Hd) (n : Int) (w : World) (hp : PAt w 0 w.heap.size p h) (hc : Caps h) (hn : okInt n) :
    Calls Tryd.prog 11 #[.agg #[.string p.loc, .string p.off, .slice h.an h.nn h.cn, .slice h.ag h.ng h.cg, .slice h.ap h.np h.cp, .int .i64 p.tik.kind, .int .i64 p.tik.day, .int .i64 p.tik.min, .string p.rc, .slice h.ar h.nr h.cr, .slice h.ae h.ne h.ce, .bool p.queued], .int .i64 n] w (RetB w true) := by
  rcases Bool.eq_false_or_eq_true (smallB h) with hsb | hsb
  case inr => exact cancels_early p h n w hsb
  rcases cancel_law p n with hq | ⟨h1, h2, h3, h4, h5⟩
  · exact cancels_err p h n w hp hc hn hsb hq
  · exact cancels_yes p h n w hp hc hn hsb (gone p n) h3 h1 h2 (fun i x hx => gone_seg h1 hx) (gone_len p n) (fun i x hx hne => gone_seat hx hne) (goneK_end _ _) h4 h5
end Go.Proofs.YtaakcccffmfmoaaDoor
