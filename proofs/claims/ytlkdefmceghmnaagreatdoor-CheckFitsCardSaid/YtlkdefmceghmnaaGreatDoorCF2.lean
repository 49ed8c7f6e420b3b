/- check.Fits: the walk. By program. -/
import Derived.Test.YtlkdefmceghmnaaGreatDoorCF
namespace Go.Proofs.YtlkdefmceghmnaaGreatDoor
set_option linter.unusedVariables false
open Go Go.RowKit Go.Sort
theorem live_at : ∀ {segs : List Seg} {d k : Nat} {n : Int}, (liveF d segs)[k]? = some n → ∃ j s, n = ((d + j : Nat) : Int) + 1 ∧ segs[j]? = some s ∧ s.live = true ∧ ∀ (j' : Nat) (x : Seg), j' < j → segs[j']? = some x → x.live = true → ∃ i', i' < k ∧ (liveF d segs)[i']? = some (((d + j' : Nat) : Int) + 1)
  | [], d, k, n, h => by simp [liveF] at h
  | s :: t, d, k, n, h => by
    unfold liveF at h
    by_cases hl : s.live = true
    · rw [if_pos hl] at h
      cases k with
      | zero =>
        simp at h
        exact ⟨0, s, by rw [← h]; rfl, by simp, hl, fun j' x hj => by omega⟩
      | succ k =>
        obtain ⟨j, x, h1, h2, h3, h4⟩ := live_at (by simpa using h)
        refine ⟨j + 1, x, by rw [h1]; congr 2; omega, by simpa using h2, h3, fun j' y hj hy hyl => ?_⟩
        unfold liveF
        rw [if_pos hl]
        cases j' with
        | zero => exact ⟨0, by omega, by simp⟩
        | succ j' =>
          obtain ⟨i', h5, h6⟩ := h4 j' y (by omega) (by simpa using hy) hyl
          exact ⟨i' + 1, by omega, by rw [List.getElem?_cons_succ, h6]; congr 3; omega⟩
    · rw [if_neg hl] at h
      obtain ⟨j, x, h1, h2, h3, h4⟩ := live_at h
      refine ⟨j + 1, x, by rw [h1]; congr 2; omega, by simpa using h2, h3, fun j' y hj hy hyl => ?_⟩
      unfold liveF
      rw [if_neg hl]
      cases j' with
      | zero =>
        obtain rfl : s = y := by simpa using hy
        exact absurd hyl hl
      | succ j' =>
        obtain ⟨i', h5, h6⟩ := h4 j' y (by omega) (by simpa using hy) hyl
        exact ⟨i', h5, by rw [h6]; congr 3; omega⟩
theorem live_all : ∀ {segs : List Seg} {d j : Nat} {s : Seg}, segs[j]? = some s → s.live = true → ∃ i : Nat, (liveF d segs)[i]? = some (((d + j : Nat) : Int) + 1)
  | x :: t, d, 0, s, h, hl => by
    obtain rfl : x = s := by simpa using h
    unfold liveF
    rw [if_pos hl]
    exact ⟨0, by simp⟩
  | x :: t, d, j + 1, s, h, hl => by
    obtain ⟨i, h1⟩ := live_all (d := d + 1) (j := j) (segs := t) (by simpa using h) hl
    unfold liveF
    by_cases hx : x.live = true
    · rw [if_pos hx]
      exact ⟨i + 1, by rw [List.getElem?_cons_succ, h1]; congr 3; omega⟩
    · rw [if_neg hx]
      exact ⟨i, by rw [h1]; congr 3; omega⟩
set_option maxRecDepth 100000 in
set_option maxHeartbeats 16000000 in
theorem fits_any (p : Pnr) (h : Hd) (rl : List FlR) (pl : List PlR) (rs : List FlR) (ps : List PlM) (t : Nat) (A3 : Option Addr) (n3 c3 : Nat) (w : World) (lo hi lt : Nat) (hpn : PAt w lo hi p h) (hng : h.ng ≤ 100000) (hne : h.ne ≤ 100000) (hhi : hi ≤ w.heap.size) (htab : Tab (rl.map (·.f)) (rs.map (·.f))) (htb : TB w lt t rs) (hpls : PLS w lt w.heap.size A3 n3 ps) (hlt0 : lt ≤ w.heap.size) (hn3 : n3 ≤ 100000) (hc3 : A3 = none → c3 = 0) (hks : PlKs pl ps pl.length) {q0 : Int} (hq : fitsF rl pl p = q0) :
    Calls Tryz.prog 9 #[.agg #[.string p.loc, .string p.off, .slice h.an h.nn h.cn, .slice h.ag h.ng h.cg, .slice h.ap h.np h.cp, .int .i64 p.tik.kind, .int .i64 p.tik.day, .int .i64 p.tik.min, .string p.rc, .slice h.ar h.nr h.cr, .slice h.ae h.ne h.ce, .bool p.queued], .pointer (some ⟨t, 0, none⟩), .slice A3 n3 c3] w fun e w' => e = .returned (.int .i64 q0) ∧ Below w.heap.size w w' := by
  have HTAB := Lib.hid htab
  have HTB := Lib.hid htb
  have HPL := Lib.hid hpls
  have HKS := Lib.hid hks
  have HC3 := Lib.hid hc3
  have HQ := Lib.hid hq
  have HPA := Lib.hid hpn
  have HSG := Lib.hid hpn.segs
  have HSE := Lib.hid hpn.seats
  have HGL := Lib.hid hpn.segs.len
  have HEL := Lib.hid hpn.seats.len
  clear htab htb hpls hc3 hks hq hpn
  obtain ⟨an, nn, cn, ag, ng, cg, ap, np, cp, ar, nr, cr, ae, ne, ce⟩ := h
  dsimp only at *
  have HB := box1 w #[.string p.loc, .string p.off, .slice an nn cn, .slice ag ng cg, .slice ap np cp, .int .i64 p.tik.kind, .int .i64 p.tik.day, .int .i64 p.tik.min, .string p.rc, .slice ar nr cr, .slice ae ne ce, .bool p.queued] 33
  go_enter Tryz.func9, Tryz.ntmps9
  go_upto_region 1 with fail
  refine wp_world (fun V => (Bx V w.heap.size #[.string p.loc, .string p.off, .slice an nn cn, .slice ag ng cg, .slice ap np cp, .int .i64 p.tik.kind, .int .i64 p.tik.day, .int .i64 p.tik.min, .string p.rc, .slice ar nr cr, .slice ae ne ce, .bool p.queued] 33) ∧ Below w.heap.size w V) HB ?_
  clear HB
  rintro V ⟨bP, hb⟩
  have BPV := Lib.hid bP
  have HBV := Lib.hid hb
  have zV := hb.size
  have zPV := bP.lt
  have cP := bP.cells
  clear bP hb
  go_wp2_with fail
  refine (live_any p ⟨an, nn, cn, ag, ng, cg, ap, np, cp, ar, nr, cr, ae, ne, ce⟩ V lo hi (HPA.out.below HBV.out hhi) hng (Nat.le_trans hhi zV)).mono ?_
  rintro e w1 ⟨A5, c5, rfl, ho5, h1⟩
  have HL5 := Lib.hid ho5.sl
  have BP1 := Lib.hid (BPV.out.below h1 zPV)
  have HB1 := Lib.hid (HBV.out.trans (h1.mono zV))
  have z1 := HB1.out.size
  have hl5 : (liveF 0 p.segs).length ≤ ng := by have h2 := liveF_len p.segs 0; rw [HGL.out] at h2; exact h2
  obtain ⟨n5, hn5⟩ : ∃ n5, n5 = (liveF 0 p.segs).length := ⟨_, rfl⟩
  rw [← hn5] at HL5 hl5
  have HN5 := Lib.hid hn5
  try rw [← hn5]
  clear h1 ho5 cP hn5
  go_wp2
  go_loopw [18] (fun i wr => ∃ k : Nat, k ≤ n5 ∧ i = .int .i64 k ∧ Hid (∀ (i' j : Nat) (s : Seg), i' < k → (liveF 0 p.segs)[i']? = some ((j : Int) + 1) → p.segs[j]? = some s → errS (rl.map (·.f)) s = 0) ∧ (Bx wr w.heap.size #[.string p.loc, .string p.off, .slice an nn cn, .slice ag ng cg, .slice ap np cp, .int .i64 p.tik.kind, .int .i64 p.tik.day, .int .i64 p.tik.min, .string p.rc, .slice ar nr cr, .slice ae ne ce, .bool p.queued] 33) ∧ Below w1.heap.size w1 wr) (fun i _ => n5 - (intOf i).toNat)
  case atStart => exact ⟨0, Nat.zero_le _, rfl, fun i' j s hj => absurd hj (by omega), BP1.out, Below.refl _ _⟩
  case round =>
    obtain ⟨k, hk, rfl, HNO, bP, hb1⟩ := hrel
    have BP := Lib.hid bP
    have HBL := Lib.hid hb1
    have HB := Lib.hid (HB1.out.trans (hb1.mono z1))
    have zw := HB.out.size
    have zw1 := hb1.size
    have zP := bP.lt
    have cP := bP.cells
    clear bP
    by_cases hlt : k < n5
    · obtain ⟨b6, o6, nv, hA6, _, hb6, hx6, hok6, e0⟩ := (Sl.below HL5.out hb1 (Nat.le_refl _)).int_ hlt
      subst hA6
      have i0 : (0 : Int) ≤ k := by omega
      have i1 : (k : Int) < n5 := by omega
      have hb6w : b6 < wr.heap.size := by omega
      obtain ⟨j, s0, hnv, hs0, hlv, hbefore⟩ := live_at hx6.out
      have hnv2 : nv = (j : Int) + 1 := by rw [hnv]; congr 1; omega
      subst hnv2
      have hjn : j < ng := by rw [← HGL.out]; exact (List.getElem?_eq_some_iff.1 hs0).1
      obtain ⟨b0, o0, s, hA, _, hb0, hx, hok, d0, d1, d2, d3, d4⟩ := (Sl.below HSG.out HB.out hhi).seg_ hjn
      subst hA
      obtain rfl : s = s0 := Option.some.inj (hx.out.symm.trans hs0)
      have j0 : (0 : Int) ≤ j := by omega
      have j1 : (j : Int) < ng := by omega
      have hb0w : b0 < wr.heap.size := by omega
      have hwr : IntKind.i64.wrap ((j : Int) + 1 - 1) = (j : Int) := by rw [IntKind.wrap_i64]; omega
      have HX := Lib.hid hx.out
      have HX6 : Hid ((liveF 0 p.segs)[k]? = some ((j : Int) + 1)) := hx6.out
      have HSO := Lib.hid hok
      have HBF := Lib.hid hbefore
      have HES : Hid (errS (rl.map (·.f)) s = (levelF (rs.map (·.f)) (legOf s) s.cls).2) := by show _ = _; unfold errS; rw [if_pos hlv, HTAB.out.level]
      have hlg : (legOf s).ok := ⟨⟨hok.1, hok.2.1⟩, hok.2.2.1⟩
      have HLG := Lib.hid hlg
      clear hx6 hok6 hnv hs0 hx hok hbefore hb1 hlv hlg
      go_upto_region 5 with fail
      refine wp_world (fun W5 => ∃ ks, (ks = wr.heap.size ∧ Bx W5 ks #[.string s.car, .int .i64 s.num, .int .i64 s.day, .int .u8 s.cls, .bool s.live] 76) ∧ Below wr.heap.size wr W5) ⟨_, ⟨rfl, Bx.new _ _ _⟩, (Below.refl _ _).alloc (Nat.le_refl _) _⟩ ?_
      clear d0 d1 d2 d3 d4 e0 cP
      rintro W5 ⟨ks, ⟨hks5, bS⟩, h5⟩
      try rw [← hks5]
      have cS := bS.cells
      have HB5 := Lib.hid (HB.out.trans (h5.mono zw))
      have H5 := Lib.hid h5
      have z5 := h5.size
      have BP5 := Lib.hid (BP.out.below h5 zP)
      clear hks5 bS h5
      have hlv := tlevel_any rs t lt (legOf s) s.cls W5 (HTB.out.keep HB5.out) HLG.out
      generalize levelF (rs.map (·.f)) (legOf s) s.cls = lv at HES hlv
      unfold RetN2 at hlv
      dsimp only [legOf] at hlv
      have HLV := Lib.hid hlv
      clear hlv
      go_wp2_with fail
      refine HLV.out.mono ?_
      rintro e w6 ⟨rfl, h6⟩
      have HB6 := Lib.hid (HB5.out.trans (h6.mono HB5.out.size))
      have HL6 := Lib.hid (HBL.out.trans ((H5.out.trans (h6.mono z5)).mono zw1))
      have BP6 := Lib.hid (BP5.out.below h6 BP5.out.lt)
      clear h6 cS HLV
      by_cases hz : lv.2 = 0
      · have t0 : (lv.2 != 0) = false := by simp [hz]
        have HN2 : Hid (∀ (i' j' : Nat) (x : Seg), i' < k + 1 → (liveF 0 p.segs)[i']? = some ((j' : Int) + 1) → p.segs[j']? = some x → errS (rl.map (·.f)) x = 0) := fun i' j' x hi hl hx => by
          by_cases hik : i' < k
          · exact HNO.out i' j' x hik hl hx
          · obtain rfl : i' = k := by omega
            rw [HX6.out] at hl
            injection hl with hl
            obtain rfl : j' = j := by omega
            rw [HX.out] at hx
            injection hx with hx
            subst hx
            rw [HES.out]
            exact hz
        clear hz
        go_wp2
        go_roundw
        case rel => exact ⟨k + 1, by omega, by go_num, HN2, BP6.out, HL6.out⟩
        case measure => simp [intOf]; omega
      · have t0 : (lv.2 != 0) = true := by simp [hz]
        have HF : Hid (lv.2 = q0) := by
          show _ = _
          rw [← HQ.out]
          have h1 := lvErr_at (l := rl.map (·.f)) (m := p.segs) (k := j) (s := s) (fun j' x hj hx => by
            by_cases hl : x.live = true
            · obtain ⟨i', h2, h3⟩ := HBF.out j' x hj hx hl
              exact HNO.out i' j' x h2 (by rw [h3]; congr 2; omega) hx
            · unfold errS
              rw [if_neg hl]) HX.out (by rw [HES.out]; exact hz)
          rw [HES.out] at h1
          exact (fits_err h1 hz).symm
        clear hz
        go_wp2
        go_ret
        exact ⟨ret_int HF.out, HB6.out⟩
    · obtain rfl : n5 = k := by omega
      have HE0 : Hid (lvErr (rl.map (·.f)) p.segs = 0) := lvErr_no fun j s hs => by
        by_cases hl : s.live = true
        · obtain ⟨i, h1⟩ := live_all (d := 0) hs hl
          exact HNO.out i j s (by rw [HN5.out]; exact (List.getElem?_eq_some_iff.1 h1).1) (by rw [h1]; congr 2; omega) hs
        · unfold errS
          rw [if_neg hl]
      clear hb1 HNO
      go_wp2_with fail
      refine (hnew_any rs ps t lt A3 n3 c3 wr (HTB.out.keep HB.out) ((HPL.out.keepB fun k _ h2 => HB.out.block k h2).more zw) (by omega) hn3 HC3.out).mono ?_
      rintro e w7 ⟨hi7, pb, b, rfl, hHK, hz7, h7⟩
      have HHK := Lib.hid hHK
      have HB7 := Lib.hid (HB.out.trans (h7.mono zw))
      have BP7 := Lib.hid (BP.out.below h7 zP)
      have z7 := HB7.out.size
      have cP7 := BP7.out.cells
      clear hHK h7 cP BP HB HBL
      go_wp2
      go_loopw [47] (fun i wr => ∃ k : Nat, k ≤ ne ∧ i = .int .i64 k ∧ Hid (∀ (j : Nat) (x : Plc), j < k → p.seats[j]? = some x → okX rl pl p.segs x = true) ∧ (Bx wr w.heap.size #[.string p.loc, .string p.off, .slice an nn cn, .slice ag ng cg, .slice ap np cp, .int .i64 p.tik.kind, .int .i64 p.tik.day, .int .i64 p.tik.min, .string p.rc, .slice ar nr cr, .slice ae ne ce, .bool p.queued] 33) ∧ Below w7.heap.size w7 wr) (fun i _ => ne - (intOf i).toNat)
      case atStart => exact ⟨0, Nat.zero_le _, rfl, fun j s hj => absurd hj (by omega), BP7.out, Below.refl _ _⟩
      case round =>
        clear cP7 zP zw zw1
        obtain ⟨k, hk2, rfl, HNO, bP, hb⟩ := hrel
        have BP := Lib.hid bP
        have HBK := Lib.hid hb
        have HB := Lib.hid (HB7.out.trans (hb.mono z7))
        have zw := HB.out.size
        have zw7 := hb.size
        have zP := bP.lt
        have cP := bP.cells
        have HSK := Lib.hid (HHK.out.keep hb)
        clear bP hb
        by_cases hlt2 : k < ne
        · obtain ⟨b5, o5, x, hA5, _, hb5, hx5, hxok, e0, e1, e2, e3⟩ := (Sl.below HSE.out HB.out hhi).plc_ hlt2
          subst hA5
          have i0 : (0 : Int) ≤ k := by omega
          have i1 : (k : Int) < ne := by omega
          have hb5w : b5 < wr.heap.size := by omega
          have HX5 := Lib.hid hx5.out
          have HXO := Lib.hid hxok
          clear hx5 hxok
          go_upto_region 13 with fail
          refine wp_world (fun W5 => ∃ kx, (kx = wr.heap.size ∧ Bx W5 kx #[.int .i64 x.seg, .int .i64 x.pax, .int .i64 x.row, .int .u8 x.let_] 84) ∧ Below wr.heap.size wr W5) ⟨_, ⟨rfl, Bx.new _ _ _⟩, (Below.refl _ _).alloc (Nat.le_refl _) _⟩ ?_
          clear e0 e1 e2 e3 cP
          rintro W5 ⟨kx, ⟨hkx, bX⟩, h5⟩
          try rw [← hkx]
          have cX := bX.cells
          have zX := bX.lt
          have HB5 := Lib.hid (HB.out.trans (h5.mono zw))
          have HK5 := Lib.hid (HBK.out.trans (h5.mono zw7))
          have BP5 := Lib.hid (BP.out.below h5 zP)
          have HS5 := Lib.hid (HSK.out.keep h5)
          have z5 := HB5.out.size
          have zP5 := BP5.out.lt
          have cP5 := BP5.out.cells
          clear hkx bX h5 BP HB HBK HSK
          by_cases h1 : x.seg < 1
          · have t1 : decide (x.seg < 1) = true := decide_eq_true h1
            have HF : Hid (15 = q0) := by show _ = _; rw [← HQ.out]; exact (fits_bad HE0.out HX5.out (okX_lo h1)).symm
            clear h1
            refine wp_region_below (by kernel_rfl) (by kernel_rfl) ?_
            intro q9
            repeat
              (refine QH.step (fun K9 hK9 => ?_)
               go_simp
               first
               | (refine hK9 _ ?_; clear hK9 K9)
               | (apply Exists.intro
                  refine ⟨fun _ => ?_, hK9 _ ?_⟩
                  · first | fail
                  clear hK9 K9))
            refine QH.nil_ ?_
            clear q9
            rintro ⟨V9, hV9⟩
            dsimp only
            have hB9 := Lib.hid (HB5.out.trans (hV9.mono z5))
            go_wp2
            go_ret
            exact ⟨ret_int HF.out, hB9.out⟩
          have t1 : decide (x.seg < 1) = false := decide_eq_false h1
          by_cases h2 : (ng : Int) < x.seg
          · have t2 : decide (x.seg > (ng : Int)) = true := decide_eq_true h2
            have HF : Hid (15 = q0) := by show _ = _; rw [← HQ.out]; exact (fits_bad HE0.out HX5.out (okX_hi (by rw [HGL.out]; exact h2))).symm
            clear h1 h2
            refine wp_region_below (by kernel_rfl) (by kernel_rfl) ?_
            intro q9
            repeat
              (refine QH.step (fun K9 hK9 => ?_)
               go_simp
               first
               | (refine hK9 _ ?_; clear hK9 K9)
               | (apply Exists.intro
                  refine ⟨fun _ => ?_, hK9 _ ?_⟩
                  · first | fail
                  clear hK9 K9))
            refine QH.nil_ ?_
            clear q9
            rintro ⟨V9, hV9⟩
            dsimp only
            have hB9 := Lib.hid (HB5.out.trans (hV9.mono z5))
            go_wp2
            go_ret
            exact ⟨ret_int HF.out, hB9.out⟩
          have t2 : decide (x.seg > (ng : Int)) = false := decide_eq_false h2
          obtain ⟨j, hj⟩ : ∃ j : Nat, x.seg = (j : Int) + 1 := ⟨(x.seg - 1).toNat, by omega⟩
          have hjn : j < ng := by omega
          obtain ⟨b0, o0, s, hA, _, hb0, hx, hok, d0, d1, d2, d3, d4⟩ := (Sl.below HSG.out HB5.out hhi).seg_ hjn
          subst hA
          have hb0w : b0 < W5.heap.size := by omega
          have j0 : (0 : Int) ≤ j := by omega
          have j1 : (j : Int) < ng := by omega
          have hwr : IntKind.i64.wrap (x.seg - 1) = (j : Int) := by rw [IntKind.wrap_i64]; omega
          have HOX := Lib.hid (okX_at (rl := rl) (pl := pl) hj hx.out)
          have hlg : (legOf s).ok := ⟨⟨hok.1, hok.2.1⟩, hok.2.2.1⟩
          have hsit : (⟨x.row, x.let_⟩ : Sit).ok := ⟨HXO.out.2.2.1, HXO.out.2.2.2⟩
          obtain ⟨hh, hhe⟩ : ∃ hh, hasD rl pl ⟨legOf s, ⟨x.row, x.let_⟩⟩ = hh := ⟨_, rfl⟩
          rw [hhe] at HOX
          have hhb := (fun u : Blw W5 => hhas_any (HS5.out.keep u.b) (fun r hr => HTAB.out.right _ (HTAB.out.perm.mem_iff.1 (List.mem_map_of_mem hr))) (legOf s) ⟨x.row, x.let_⟩ hlg hsit ((hasB_D HTAB.out HKS.out _).trans hhe))
          dsimp only [legOf] at hhb
          have HHB := Lib.hid hhb
          clear h1 h2 hhe hx hok hj hlg hsit hhb
          refine wp_region_below (by kernel_rfl) (by kernel_rfl) ?_
          intro q9
          repeat
            (refine QH.step (fun K9 hK9 => ?_)
             go_simp
             first
             | (refine hK9 _ ?_; clear hK9 K9)
             | (apply Exists.intro
                refine ⟨fun _ => ?_, hK9 _ ?_⟩
                · first | (with_reducible exact Calls.blw _ (HHB.out _))
                clear hK9 K9))
          refine QH.nil_ ?_
          clear q9
          rintro ⟨V9, hV9⟩
          dsimp only
          have hB9 := Lib.hid (HB5.out.trans (hV9.mono z5))
          have bP9 := Lib.hid (BP5.out.below hV9 zP5)
          have hK9 := Lib.hid (HK5.out.trans (hV9.mono HK5.out.size))
          clear hV9 HHB cP5 cX d0 d1 d2 d3 d4
          rcases hh with _ | _
          · have HF : Hid (15 = q0) := by show _ = _; rw [← HQ.out]; exact (fits_bad HE0.out HX5.out HOX.out).symm
            go_wp2
            go_ret
            exact ⟨ret_int HF.out, hB9.out⟩
          · have HN2 : Hid (∀ (j : Nat) (y : Plc), j < k + 1 → p.seats[j]? = some y → okX rl pl p.segs y = true) := fun j y hj hy => by
              by_cases hjk : j < k
              · exact HNO.out j y hjk hy
              · obtain rfl : j = k := by omega
                rw [HX5.out] at hy
                injection hy with hy
                subst hy
                exact HOX.out
            go_wp2
            go_roundw
            case rel => exact ⟨k + 1, by omega, by go_num, HN2, bP9.out, hK9.out⟩
            case measure => simp [intOf]; omega
        · obtain rfl : ne = k := by omega
          have HF : Hid (0 = q0) := by show _ = _; rw [← HQ.out]; exact (fits_ok HE0.out fun k x hx => HNO.out k x (by rw [← HEL.out]; exact (List.getElem?_eq_some_iff.1 hx).1) hx).symm
          go_wp2
          go_ret
          exact ⟨ret_int HF.out, HB.out⟩
end Go.Proofs.YtlkdefmceghmnaaGreatDoor
