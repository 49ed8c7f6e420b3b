/- CheckFits is true of every input. By program. -/
import Derived.Test.YtlkdefmceghmnaaGreatDoorCF2
import Derived.BigGuardPart
namespace Go.Proofs.YtlkdefmceghmnaaGreatDoor
set_option linter.unusedVariables false
open Go Go.RowKit Go.Sort
set_option maxRecDepth 100000 in
set_option maxHeartbeats 16000000 in
theorem checkFits_any (rl : List FlR) (A : Option Addr) (n c : Nat) (pl : List PlR) (A2 : Option Addr) (n2 c2 : Nat) (p : Pnr) (h : Hd) (w : World) (hs : FlS w 0 w.heap.size A n rl) (hp : PlS w 0 w.heap.size A2 n2 pl) (hpn : PAt w 0 w.heap.size p h) :
    Calls Tryz.prog 3 #[.agg #[.slice A n c, .slice A2 n2 c2], .agg #[.string p.loc, .string p.off, .slice h.an h.nn h.cn, .slice h.ag h.ng h.cg, .slice h.ap h.np h.cp, .int .i64 p.tik.kind, .int .i64 p.tik.day, .int .i64 p.tik.min, .string p.rc, .slice h.ar h.nr h.cr, .slice h.ae h.ne h.ce, .bool p.queued]] w (RetB w true) := by
  have HFS := Lib.hid hs
  have HPS := Lib.hid hp
  have HPN := Lib.hid hpn
  have HOK := Lib.hid hs.sl.wf
  have HSMB := Lib.hid (show smallB h = (decide (h.nn ≤ 60) && (decide (h.ng ≤ 60) && (decide (h.np ≤ 60) && (decide (h.nr ≤ 60) && decide (h.ne ≤ 200))))) from rfl)
  have hnl := eql_tab
  clear hs hp hpn
  have HB : (Bx ((w.alloc (.cells #[.slice A n c, .slice A2 n2 c2] 25)).alloc (.cells #[.string p.loc, .string p.off, .slice h.an h.nn h.cn, .slice h.ag h.ng h.cg, .slice h.ap h.np h.cp, .int .i64 p.tik.kind, .int .i64 p.tik.day, .int .i64 p.tik.min, .string p.rc, .slice h.ar h.nr h.cr, .slice h.ae h.ne h.ce, .bool p.queued] 33)) w.heap.size #[.slice A n c, .slice A2 n2 c2] 25 ∧ Bx ((w.alloc (.cells #[.slice A n c, .slice A2 n2 c2] 25)).alloc (.cells #[.string p.loc, .string p.off, .slice h.an h.nn h.cn, .slice h.ag h.ng h.cg, .slice h.ap h.np h.cp, .int .i64 p.tik.kind, .int .i64 p.tik.day, .int .i64 p.tik.min, .string p.rc, .slice h.ar h.nr h.cr, .slice h.ae h.ne h.ce, .bool p.queued] 33)) (w.heap.size + 1) #[.string p.loc, .string p.off, .slice h.an h.nn h.cn, .slice h.ag h.ng h.cg, .slice h.ap h.np h.cp, .int .i64 p.tik.kind, .int .i64 p.tik.day, .int .i64 p.tik.min, .string p.rc, .slice h.ar h.nr h.cr, .slice h.ae h.ne h.ce, .bool p.queued] 33) ∧ Below w.heap.size w ((w.alloc (.cells #[.slice A n c, .slice A2 n2 c2] 25)).alloc (.cells #[.string p.loc, .string p.off, .slice h.an h.nn h.cn, .slice h.ag h.ng h.cg, .slice h.ap h.np h.cp, .int .i64 p.tik.kind, .int .i64 p.tik.day, .int .i64 p.tik.min, .string p.rc, .slice h.ar h.nr h.cr, .slice h.ae h.ne h.ce, .bool p.queued] 33)) := by
    have h2 := two_boxes w #[.slice A n c, .slice A2 n2 c2] #[.string p.loc, .string p.off, .slice h.an h.nn h.cn, .slice h.ag h.ng h.cg, .slice h.ap h.np h.cp, .int .i64 p.tik.kind, .int .i64 p.tik.day, .int .i64 p.tik.min, .string p.rc, .slice h.ar h.nr h.cr, .slice h.ae h.ne h.ce, .bool p.queued] 25 33
    exact ⟨⟨h2.1, h2.2.1⟩, h2.2.2.below⟩
  obtain ⟨an, nn, cn, ag, ng, cg, ap, np, cp, ar, nr, cr, ae, ne, ce⟩ := h
  dsimp only at HB ⊢
  go_enter Tryz.func3, Tryz.ntmps3
  go_upto_region 1 with fail
  refine wp_world (fun V => (Bx V w.heap.size #[.slice A n c, .slice A2 n2 c2] 25 ∧ Bx V (w.heap.size + 1) #[.string p.loc, .string p.off, .slice an nn cn, .slice ag ng cg, .slice ap np cp, .int .i64 p.tik.kind, .int .i64 p.tik.day, .int .i64 p.tik.min, .string p.rc, .slice ar nr cr, .slice ae ne ce, .bool p.queued] 33) ∧ Below w.heap.size w V) HB ?_
  clear HB
  rintro V ⟨⟨bW, bP⟩, hb⟩
  have BWV := Lib.hid bW
  have BPV := Lib.hid bP
  have HBV := Lib.hid hb
  have zV := hb.size
  clear bW bP hb
  go_wp2_with fail
  refine (awake13_any V).mono ?_
  rintro e w1 ⟨rfl, h1⟩
  have BW1 := Lib.hid (BWV.out.below h1 BWV.out.lt)
  have BP1 := Lib.hid (BPV.out.below h1 BPV.out.lt)
  have HB1 := Lib.hid (HBV.out.trans (h1.mono zV))
  have z1 := HB1.out.size
  clear h1 BWV BPV
  have cc1 := BW1.out.cells
  have cc2 := BP1.out.cells
  go_wp2_with fail
  refine (small_any p ⟨an, nn, cn, ag, ng, cg, ap, np, cp, ar, nr, cr, ae, ne, ce⟩ w1).mono ?_
  rintro e w2 ⟨rfl, h2⟩
  have BW2 := Lib.hid (BW1.out.below h2 BW1.out.lt)
  have BP2 := Lib.hid (BP1.out.below h2 BP1.out.lt)
  have HB2 := Lib.hid (HB1.out.trans (h2.mono z1))
  have z2 := HB2.out.size
  clear h2 BW1 BP1 cc1 cc2
  have cc1 := BW2.out.cells
  have cc2 := BP2.out.cells
  rcases Bool.eq_false_or_eq_true (smallB ⟨an, nn, cn, ag, ng, cg, ap, np, cp, ar, nr, cr, ae, ne, ce⟩) with hsb | hsb
  rotate_left
  · rw [hsb]
    clear hsb
    go_wp2
    go_ret
    exact ⟨rfl, HB2.out⟩
  have hsz : ng ≤ 60 ∧ ne ≤ 200 := by
    rw [HSMB.out] at hsb
    simp only [Bool.and_eq_true, decide_eq_true_eq] at hsb
    exact ⟨hsb.2.1, hsb.2.2.2.2⟩
  rw [hsb]
  clear hsb
  by_cases hm : 64 < n
  · have hm' : (64 : Int) < n := by omega
    go_wp2
    go_ret
    exact ⟨rfl, HB2.out⟩
  have hm' : (n : Int) ≤ 64 := by omega
  go_wp2_with fail
  refine (rnew_all rl A n c w2 0 w.heap.size (HFS.out.below HB2.out (Nat.le_refl _)) z2).mono ?_
  generalize hz : newF (rl.map (·.f)) = z
  have HZ := Lib.hid hz
  clear hz
  rintro e w3 ⟨rfl, h3⟩
  have BW3 := Lib.hid (BW2.out.below h3 BW2.out.lt)
  have BP3 := Lib.hid (BP2.out.below h3 BP2.out.lt)
  have HB3 := Lib.hid (HB2.out.trans (h3.mono z2))
  have z3 := HB3.out.size
  clear h3 BW2 BP2 cc1 cc2
  have cc1 := BW3.out.cells
  have cc2 := BP3.out.cells
  by_cases hz : z = 0
  rotate_left
  · go_wp2
    go_ret
    exact ⟨rfl, HB3.out⟩
  subst hz
  have HSM : Hid (∀ r ∈ rl, r.n ≤ 100000) := fun r hr => by
    have h5 := right_few ((newF_right HZ.out).2 _ (List.mem_map_of_mem hr))
    have h6 := (HOK.out r hr).len
    omega
  go_wp2_with fail
  refine (maps_any pl A2 n2 c2 w3 0 w.heap.size (HPS.out.below HB3.out (Nat.le_refl _)) z3).mono ?_
  rintro e w4 ⟨h4, hq⟩
  have hz34 := h4.size
  have BW4 := Lib.hid (BW3.out.below h4 BW3.out.lt)
  have BP4 := Lib.hid (BP3.out.below h4 BP3.out.lt)
  have HB4 := Lib.hid (HB3.out.trans (h4.mono z3))
  have z4 := HB4.out.size
  clear h4 BW3 BP3 cc1 cc2
  have cc1 := BW4.out.cells
  have cc2 := BP4.out.cells
  rcases hq with ⟨hbad, rfl⟩ | ⟨A9, n9, c9, ps, rfl, hpl, hn9, hc9, hks⟩
  · clear hbad
    go_wp2_with fail
    refine (new_any rl A n c w4 0 w.heap.size (HFS.out.below HB4.out (Nat.le_refl _)) (by omega) z4 HSM.out).mono ?_
    rintro e w5 ⟨h5, hq⟩
    have HB5 := Lib.hid (HB4.out.trans (h5.mono z4))
    clear h5 cc1 cc2
    rcases hq with ⟨hbad, _⟩ | ⟨_, t, rs, rfl, ht, htab⟩
    · exact absurd HZ.out hbad
    clear ht htab
    go_wp2
    go_ret
    exact ⟨rfl, HB5.out⟩
  have HPL := Lib.hid hpl
  have HKS := Lib.hid hks
  have HC9 := Lib.hid hc9
  clear hpl hks hc9
  go_wp2_with fail
  refine (new_any rl A n c w4 0 w.heap.size (HFS.out.below HB4.out (Nat.le_refl _)) (by omega) z4 HSM.out).mono ?_
  rintro e w5 ⟨h5, hq⟩
  have H45 := Lib.hid h5
  have hz45 := h5.size
  have BW5 := Lib.hid (BW4.out.below h5 BW4.out.lt)
  have BP5 := Lib.hid (BP4.out.below h5 BP4.out.lt)
  have HB5 := Lib.hid (HB4.out.trans (h5.mono z4))
  have z5 := HB5.out.size
  clear h5 BW4 BP4 cc1 cc2
  have cc1 := BW5.out.cells
  have cc2 := BP5.out.cells
  rcases hq with ⟨hbad, _⟩ | ⟨_, t, rs, rfl, ht, htab⟩
  · exact absurd HZ.out hbad
  have HT := Lib.hid htab
  have HTB := Lib.hid ht
  have HDD : Hid (∀ r ∈ pl, hdR r.p = true) := fun r hr => by
    obtain ⟨i, hi2, rfl⟩ := List.mem_iff_getElem.1 hr
    obtain ⟨x, _, h2⟩ := HKS.out.2 i _ hi2 (List.getElem?_eq_getElem hi2)
    exact h2.1
  clear ht htab
  obtain ⟨q0, hq0⟩ : ∃ q0, fitsF rl pl p = q0 := ⟨_, rfl⟩
  have HF1 := Lib.hid (fun u : Blw w5 => fits_any p ⟨an, nn, cn, ag, ng, cg, ap, np, cp, ar, nr, cr, ae, ne, ce⟩ rl pl rs ps t A9 n9 c9 u.W 0 w.heap.size w3.heap.size (HPN.out.below (HB5.out.trans (u.b.mono z5)) (Nat.le_refl _)) (by show ng ≤ _; omega) (by show ne ≤ _; omega) (Nat.le_trans z5 u.b.size) HT.out ((HTB.out.more hz34).keep u.b) ((HPL.out.keepB fun k _ h2 => (H45.out.trans (u.b.mono hz45)).block k h2).more (Nat.le_trans hz45 u.b.size)) (Nat.le_trans (Nat.le_trans hz34 hz45) u.b.size) (by omega) HC9.out HKS.out hq0)
  have HF2 := Lib.hid (fun u : Blw w5 => rfits_any p ⟨an, nn, cn, ag, ng, cg, ap, np, cp, ar, nr, cr, ae, ne, ce⟩ rl A n c pl A2 n2 c2 u.W 0 w.heap.size (HPN.out.below (HB5.out.trans (u.b.mono z5)) (Nat.le_refl _)) (by show ng ≤ _; omega) (by show ne ≤ _; omega) (HFS.out.below (HB5.out.trans (u.b.mono z5)) (Nat.le_refl _)) (HPS.out.below (HB5.out.trans (u.b.mono z5)) (Nat.le_refl _)) (by omega) (Nat.le_trans z5 u.b.size) HDD.out HT.out.right HSM.out hq0)
  dsimp only at HF1 HF2
  have zq1 := BW5.out.lt
  have zq2 := BP5.out.lt
  have tq : (q0 == q0) = true := by simp
  clear hq0
  go_upto_region 9 with fail
  refine wp_region_below (by kernel_rfl) (by kernel_rfl) ?_
  intro q9
  repeat
    (refine QH.step (fun K9 hK9 => ?_)
     go_simp
     first
     | (refine hK9 _ ?_; clear hK9 K9)
     | (apply Exists.intro
        refine ⟨fun _ => ?_, hK9 _ ?_⟩
        · first | (with_reducible exact Calls.blw _ (HF1.out _)) | (with_reducible exact Calls.blw _ (HF2.out _))
        clear hK9 K9))
  refine QH.nil_ ?_
  clear q9
  rintro ⟨V9, hV9⟩
  dsimp only
  go_wp2
  go_ret
  exact ⟨ret_bool (by simp), HB5.out.trans (hV9.mono z5)⟩
end Go.Proofs.YtlkdefmceghmnaaGreatDoor
