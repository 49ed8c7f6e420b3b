/- Does a PNR fit a schedule: the document's answer and the program's. By program. -/
import Derived.Test.YtlkdefmceghmnaaGreatDoorRHas
import Derived.Test.YtlkdefmceghmnaaGreatDoorMChk
import Derived.BigGuardPart
namespace Go.Proofs.YtlkdefmceghmnaaGreatDoor
set_option linter.unusedVariables false
open Go Go.RowKit Go.Sort
def legOf (s : Seg) : Leg := ⟨⟨s.car, s.num⟩, s.day⟩
def errS (l : List Flt) (s : Seg) : Int := if s.live = true then (levelF l (legOf s) s.cls).2 else 0
def lvErr (l : List Flt) : List Seg → Int
  | [] => 0
  | s :: t => if errS l s = 0 then lvErr l t else errS l s
theorem lvErr_no {l : List Flt} : ∀ {m : List Seg}, (∀ (j : Nat) (s : Seg), m[j]? = some s → errS l s = 0) → lvErr l m = 0
  | [], _ => rfl
  | s :: t, h => by
    unfold lvErr
    rw [if_pos (h 0 s (by simp))]
    exact lvErr_no fun j x hx => h (j + 1) x (by simpa using hx)
theorem lvErr_at {l : List Flt} : ∀ {m : List Seg} {k : Nat} {s : Seg}, (∀ (j : Nat) (x : Seg), j < k → m[j]? = some x → errS l x = 0) → m[k]? = some s → errS l s ≠ 0 → lvErr l m = errS l s
  | x :: t, 0, s, _, hx, he => by
    obtain rfl : x = s := by simpa using hx
    unfold lvErr
    rw [if_neg he]
  | x :: t, k + 1, s, h, hx, he => by
    unfold lvErr
    rw [if_pos (h 0 x (by omega) (by simp))]
    exact lvErr_at (k := k) (fun j y hj hy => h (j + 1) y (by omega) (by simpa using hy)) (by simpa using hx) he
/-- Is a seat one of its leg's? -/
def okX (rl : List FlR) (pl : List PlR) (m : List Seg) (x : Plc) : Bool := decide (1 ≤ x.seg) && (decide (x.seg ≤ m.length) && (match m[(x.seg - 1).toNat]? with | some s => hasD rl pl ⟨legOf s, ⟨x.row, x.let_⟩⟩ | none => false))
def fitsF (rl : List FlR) (pl : List PlR) (p : Pnr) : Int := if lvErr (rl.map (·.f)) p.segs = 0 then (if p.seats.all (okX rl pl p.segs) = true then 0 else 15) else lvErr (rl.map (·.f)) p.segs
theorem fits_err {rl : List FlR} {pl : List PlR} {p : Pnr} {e : Int} (h : lvErr (rl.map (·.f)) p.segs = e) (he : e ≠ 0) : fitsF rl pl p = e := by
  unfold fitsF
  rw [h, if_neg he]
theorem fits_bad {rl : List FlR} {pl : List PlR} {p : Pnr} (h : lvErr (rl.map (·.f)) p.segs = 0) {k : Nat} {x : Plc} (hx : p.seats[k]? = some x) (hk : okX rl pl p.segs x = false) : fitsF rl pl p = 15 := by
  unfold fitsF
  rw [if_pos h, if_neg (fun ha => by rw [List.all_eq_true.1 ha x (List.mem_of_getElem? hx)] at hk; cases hk)]
theorem fits_ok {rl : List FlR} {pl : List PlR} {p : Pnr} (h : lvErr (rl.map (·.f)) p.segs = 0) (ha : ∀ (k : Nat) (x : Plc), p.seats[k]? = some x → okX rl pl p.segs x = true) : fitsF rl pl p = 0 := by
  unfold fitsF
  rw [if_pos h, if_pos (List.all_eq_true.2 fun x hx => by obtain ⟨k, hk, rfl⟩ := List.mem_iff_getElem.1 hx; exact ha k _ (List.getElem?_eq_getElem hk))]
theorem okX_lo {rl : List FlR} {pl : List PlR} {m : List Seg} {x : Plc} (h : x.seg < 1) : okX rl pl m x = false := by
  unfold okX
  rw [decide_eq_false (by omega), Bool.false_and]
theorem okX_hi {rl : List FlR} {pl : List PlR} {m : List Seg} {x : Plc} (h : (m.length : Int) < x.seg) : okX rl pl m x = false := by
  unfold okX
  rw [decide_eq_false (by omega : ¬ x.seg ≤ m.length), Bool.false_and, Bool.and_false]
theorem okX_at {rl : List FlR} {pl : List PlR} {m : List Seg} {x : Plc} {j : Nat} {s : Seg} (hj : x.seg = (j : Int) + 1) (hs : m[j]? = some s) : okX rl pl m x = hasD rl pl ⟨legOf s, ⟨x.row, x.let_⟩⟩ := by
  unfold okX
  have hlt := (List.getElem?_eq_some_iff.1 hs).1
  rw [decide_eq_true (by omega), decide_eq_true (by omega), Bool.true_and, Bool.true_and, show (x.seg - 1).toNat = j by omega, hs]
set_option maxRecDepth 100000 in
set_option maxHeartbeats 16000000 in
theorem rfits_any (p : Pnr) (h : Hd) (rl : List FlR) (A : Option Addr) (n c : Nat) (pl : List PlR) (A2 : Option Addr) (n2 c2 : Nat) (w : World) (lo hi : Nat) (hpn : PAt w lo hi p h) (hng : h.ng ≤ 100000) (hne : h.ne ≤ 100000) (hs : FlS w lo hi A n rl) (hp : PlS w lo hi A2 n2 pl) (hn : n ≤ 100000) (hhi : hi ≤ w.heap.size) (hd : ∀ r ∈ pl, hdR r.p = true) (hr : ∀ f ∈ rl.map (·.f), rightB f = true) (hsm : ∀ r ∈ rl, r.n ≤ 100000) {q0 : Int} (hq : fitsF rl pl p = q0) :
    Calls Tryz.prog 10 #[.agg #[.string p.loc, .string p.off, .slice h.an h.nn h.cn, .slice h.ag h.ng h.cg, .slice h.ap h.np h.cp, .int .i64 p.tik.kind, .int .i64 p.tik.day, .int .i64 p.tik.min, .string p.rc, .slice h.ar h.nr h.cr, .slice h.ae h.ne h.ce, .bool p.queued], .slice A n c, .slice A2 n2 c2] w fun e w' => e = .returned (.int .i64 q0) ∧ Below w.heap.size w w' := by
  have HFS := Lib.hid hs
  have HPS := Lib.hid hp
  have HD := Lib.hid hd
  have HR := Lib.hid hr
  have HSM := Lib.hid hsm
  have HQ := Lib.hid hq
  have HSG := Lib.hid hpn.segs
  have HSE := Lib.hid hpn.seats
  have HGL := Lib.hid hpn.segs.len
  have HEL := Lib.hid hpn.seats.len
  clear hs hp hd hr hsm hq hpn
  obtain ⟨an, nn, cn, ag, ng, cg, ap, np, cp, ar, nr, cr, ae, ne, ce⟩ := h
  dsimp only at *
  have HB := box1 w #[.string p.loc, .string p.off, .slice an nn cn, .slice ag ng cg, .slice ap np cp, .int .i64 p.tik.kind, .int .i64 p.tik.day, .int .i64 p.tik.min, .string p.rc, .slice ar nr cr, .slice ae ne ce, .bool p.queued] 33
  go_enter Tryz.func10, Tryz.ntmps10
  go_upto_region 1 with fail
  refine wp_world (fun V => (Bx V w.heap.size #[.string p.loc, .string p.off, .slice an nn cn, .slice ag ng cg, .slice ap np cp, .int .i64 p.tik.kind, .int .i64 p.tik.day, .int .i64 p.tik.min, .string p.rc, .slice ar nr cr, .slice ae ne ce, .bool p.queued] 33) ∧ Below w.heap.size w V) HB ?_
  clear HB
  rintro V ⟨bP, hb⟩
  go_wp2
  go_loopw [7] (fun i wr => ∃ k : Nat, k ≤ ng ∧ i = .int .i64 k ∧ Hid (∀ (j : Nat) (s : Seg), j < k → p.segs[j]? = some s → errS (rl.map (·.f)) s = 0) ∧ (Bx wr w.heap.size #[.string p.loc, .string p.off, .slice an nn cn, .slice ag ng cg, .slice ap np cp, .int .i64 p.tik.kind, .int .i64 p.tik.day, .int .i64 p.tik.min, .string p.rc, .slice ar nr cr, .slice ae ne ce, .bool p.queued] 33) ∧ Below w.heap.size w wr) (fun i _ => ng - (intOf i).toNat)
  case atStart => exact ⟨0, Nat.zero_le _, rfl, fun j s hj => absurd hj (by omega), bP, hb⟩
  case round =>
    clear bP hb
    obtain ⟨k, hk, rfl, HNO, bP, hb⟩ := hrel
    have BP := Lib.hid bP
    have HB := Lib.hid hb
    have zw := hb.size
    have zP := bP.lt
    have cP := bP.cells
    clear bP
    by_cases hlt : k < ng
    · obtain ⟨b0, o0, s, hA, _, hb0, hx, hok, d0, d1, d2, d3, d4⟩ := (Sl.below HSG.out hb hhi).seg_ hlt
      subst hA
      have i0 : (0 : Int) ≤ k := by omega
      have i1 : (k : Int) < ng := by omega
      have hb0w : b0 < wr.heap.size := by omega
      have HX := Lib.hid hx.out
      have HSO := Lib.hid hok
      clear hx hok hb
      by_cases hl : s.live = true
      rotate_left
      · have hl2 : s.live = false := by simpa using hl
        have HN2 : Hid (∀ (j : Nat) (t : Seg), j < k + 1 → p.segs[j]? = some t → errS (rl.map (·.f)) t = 0) := fun j t hj ht => by
          by_cases hjk : j < k
          · exact HNO.out j t hjk ht
          · obtain rfl : j = k := by omega
            rw [HX.out] at ht
            injection ht with ht
            subst ht
            unfold errS
            rw [if_neg hl]
        rw [hl2] at d4
        clear hl hl2
        go_wp2
        go_roundw
        case rel => exact ⟨k + 1, by omega, by go_num, HN2, BP.out, HB.out⟩
        case measure => simp [intOf]; omega
      · have HES : Hid (errS (rl.map (·.f)) s = (levelF (rl.map (·.f)) (legOf s) s.cls).2) := by show _ = _; unfold errS; rw [if_pos hl]
        rw [hl] at d4
        clear hl
        have hlv := fun u : Blw wr => rlevel_any rl A n c (legOf s) s.cls u.W lo hi (HFS.out.below (HB.out.trans (u.b.mono zw)) hhi) hn (Nat.le_trans (Nat.le_trans hhi zw) u.b.size) HSM.out
        generalize levelF (rl.map (·.f)) (legOf s) s.cls = lv at HES hlv
        unfold RetN2 at hlv
        dsimp only [legOf] at hlv
        have HLV := Lib.hid hlv
        clear hlv
        go_upto_region 5 with fail
        refine wp_region_below (by kernel_rfl) (by kernel_rfl) ?_
        intro q9
        repeat
          (refine QH.step (fun K9 hK9 => ?_)
           go_simp
           first
           | (refine hK9 _ ?_; clear hK9 K9)
           | (apply Exists.intro
              refine ⟨fun _ => ?_, hK9 _ ?_⟩
              · first | (with_reducible exact Calls.blw _ (HLV.out _))
              clear hK9 K9))
        refine QH.nil_ ?_
        clear q9
        rintro ⟨V9, hV9⟩
        dsimp only
        have hB9 := Lib.hid (HB.out.trans (hV9.mono zw))
        have bP9 := Lib.hid (BP.out.below hV9 zP)
        clear hV9 HLV cP d0 d1 d2 d3 d4
        by_cases hz : lv.2 = 0
        · have t0 : (lv.2 != 0) = false := by simp [hz]
          have HN2 : Hid (∀ (j : Nat) (t : Seg), j < k + 1 → p.segs[j]? = some t → errS (rl.map (·.f)) t = 0) := fun j t hj ht => by
            by_cases hjk : j < k
            · exact HNO.out j t hjk ht
            · obtain rfl : j = k := by omega
              rw [HX.out] at ht
              injection ht with ht
              subst ht
              rw [HES.out]
              exact hz
          clear hz
          go_wp2
          go_roundw
          case rel => exact ⟨k + 1, by omega, by go_num, HN2, bP9.out, hB9.out⟩
          case measure => simp [intOf]; omega
        · have t0 : (lv.2 != 0) = true := by simp [hz]
          have HF : Hid (lv.2 = q0) := by
            show _ = _
            rw [← HQ.out]
            have h1 := lvErr_at HNO.out HX.out (by rw [HES.out]; exact hz)
            rw [HES.out] at h1
            exact (fits_err h1 hz).symm
          clear hz
          go_wp2
          go_ret
          exact ⟨ret_int HF.out, hB9.out⟩
    · obtain rfl : ng = k := by omega
      have HE0 : Hid (lvErr (rl.map (·.f)) p.segs = 0) := lvErr_no fun j s hs => HNO.out j s (by rw [← HGL.out]; exact (List.getElem?_eq_some_iff.1 hs).1) hs
      have BP0 := BP
      have HB0 := HB
      clear hb HNO
      go_wp2
      go_loopw [10] (fun i wr => ∃ k : Nat, k ≤ ne ∧ i = .int .i64 k ∧ Hid (∀ (j : Nat) (x : Plc), j < k → p.seats[j]? = some x → okX rl pl p.segs x = true) ∧ (Bx wr w.heap.size #[.string p.loc, .string p.off, .slice an nn cn, .slice ag ng cg, .slice ap np cp, .int .i64 p.tik.kind, .int .i64 p.tik.day, .int .i64 p.tik.min, .string p.rc, .slice ar nr cr, .slice ae ne ce, .bool p.queued] 33) ∧ Below w.heap.size w wr) (fun i _ => ne - (intOf i).toNat)
      case atStart => exact ⟨0, Nat.zero_le _, rfl, fun j s hj => absurd hj (by omega), BP0.out, HB0.out⟩
      case round =>
        clear BP0 HB0 BP HB cP zP zw
        obtain ⟨k, hk2, rfl, HNO, bP, hb⟩ := hrel
        have BP := Lib.hid bP
        have HB := Lib.hid hb
        have zw := hb.size
        have zP := bP.lt
        have cP := bP.cells
        clear bP
        by_cases hlt2 : k < ne
        · obtain ⟨b5, o5, x, hA5, _, hb5, hx5, hxok, e0, e1, e2, e3⟩ := (Sl.below HSE.out hb hhi).plc_ hlt2
          subst hA5
          have i0 : (0 : Int) ≤ k := by omega
          have i1 : (k : Int) < ne := by omega
          have hb5w : b5 < wr.heap.size := by omega
          have HX5 := Lib.hid hx5.out
          have hxo := hxok
          clear hx5 hxok
          by_cases h1 : x.seg < 1
          · have t1 : decide (x.seg < 1) = true := decide_eq_true h1
            have HF : Hid (15 = q0) := by show _ = _; rw [← HQ.out]; exact (fits_bad HE0.out HX5.out (okX_lo h1)).symm
            clear h1 hb
            go_upto_region 12 with fail
            refine wp_region_below (by kernel_rfl) (by kernel_rfl) ?_
            intro q9
            repeat
              (refine QH.step (fun K9 hK9 => ?_)
               go_simp
               first
               | (refine hK9 _ ?_; clear hK9 K9)
               | (apply Exists.intro
                  refine ⟨fun _ => ?_, hK9 _ ?_⟩
                  · first | fail
                  clear hK9 K9))
            refine QH.nil_ ?_
            clear q9
            rintro ⟨V9, hV9⟩
            dsimp only
            have hB9 := Lib.hid (HB.out.trans (hV9.mono zw))
            go_wp2
            go_ret
            exact ⟨ret_int HF.out, hB9.out⟩
          have t1 : decide (x.seg < 1) = false := decide_eq_false h1
          by_cases h2 : (ng : Int) < x.seg
          · have t2 : decide (x.seg > (ng : Int)) = true := decide_eq_true h2
            have HF : Hid (15 = q0) := by show _ = _; rw [← HQ.out]; exact (fits_bad HE0.out HX5.out (okX_hi (by rw [HGL.out]; exact h2))).symm
            clear h1 h2 hb
            go_upto_region 12 with fail
            refine wp_region_below (by kernel_rfl) (by kernel_rfl) ?_
            intro q9
            repeat
              (refine QH.step (fun K9 hK9 => ?_)
               go_simp
               first
               | (refine hK9 _ ?_; clear hK9 K9)
               | (apply Exists.intro
                  refine ⟨fun _ => ?_, hK9 _ ?_⟩
                  · first | fail
                  clear hK9 K9))
            refine QH.nil_ ?_
            clear q9
            rintro ⟨V9, hV9⟩
            dsimp only
            have hB9 := Lib.hid (HB.out.trans (hV9.mono zw))
            go_wp2
            go_ret
            exact ⟨ret_int HF.out, hB9.out⟩
          have t2 : decide (x.seg > (ng : Int)) = false := decide_eq_false h2
          obtain ⟨j, hj⟩ : ∃ j : Nat, x.seg = (j : Int) + 1 := ⟨(x.seg - 1).toNat, by omega⟩
          have hjn : j < ng := by omega
          obtain ⟨b0, o0, s, hA, _, hb0, hx, hok, d0, d1, d2, d3, d4⟩ := (Sl.below HSG.out hb hhi).seg_ hjn
          subst hA
          have hb0w : b0 < wr.heap.size := by omega
          have j0 : (0 : Int) ≤ j := by omega
          have j1 : (j : Int) < ng := by omega
          have hwr : IntKind.i64.wrap (x.seg - 1) = (j : Int) := by rw [IntKind.wrap_i64]; omega
          have hwr2 : IntKind.i64.wrap ((j : Int) + 1 - 1) = (j : Int) := by rw [IntKind.wrap_i64]; omega
          have HOX := Lib.hid (okX_at (rl := rl) (pl := pl) hj hx.out)
          obtain ⟨hh, hhe⟩ : ∃ hh, hasD rl pl ⟨legOf s, ⟨x.row, x.let_⟩⟩ = hh := ⟨_, rfl⟩
          rw [hhe] at HOX
          have hhd := (fun u : Blw wr => rhasD_any rl A n c pl A2 n2 c2 (legOf s) ⟨x.row, x.let_⟩ u.W lo hi (HFS.out.below (HB.out.trans (u.b.mono zw)) hhi) (HPS.out.below (HB.out.trans (u.b.mono zw)) hhi) hn (Nat.le_trans (Nat.le_trans hhi zw) u.b.size) HD.out HR.out hhe)
          dsimp only [legOf] at hhd
          have HHD := Lib.hid hhd
          clear h1 h2 hhe hx hok hb hj hhd
          go_upto_region 12 with fail
          refine wp_region_below (by kernel_rfl) (by kernel_rfl) ?_
          intro q9
          repeat
            (refine QH.step (fun K9 hK9 => ?_)
             go_simp
             first
             | (refine hK9 _ ?_; clear hK9 K9)
             | (apply Exists.intro
                refine ⟨fun _ => ?_, hK9 _ ?_⟩
                · first | (with_reducible exact Calls.blw _ (HHD.out _))
                clear hK9 K9))
          refine QH.nil_ ?_
          clear q9
          rintro ⟨V9, hV9⟩
          dsimp only
          have hB9 := Lib.hid (HB.out.trans (hV9.mono zw))
          have bP9 := Lib.hid (BP.out.below hV9 zP)
          clear hV9 HHD cP d0 d1 d2 d3 d4 e0 e1 e2 e3
          rcases hh with _ | _
          · have HF : Hid (15 = q0) := by show _ = _; rw [← HQ.out]; exact (fits_bad HE0.out HX5.out HOX.out).symm
            go_wp2
            go_ret
            exact ⟨ret_int HF.out, hB9.out⟩
          · have HN2 : Hid (∀ (j : Nat) (y : Plc), j < k + 1 → p.seats[j]? = some y → okX rl pl p.segs y = true) := fun j y hj hy => by
              by_cases hjk : j < k
              · exact HNO.out j y hjk hy
              · obtain rfl : j = k := by omega
                rw [HX5.out] at hy
                injection hy with hy
                subst hy
                exact HOX.out
            go_wp2
            go_roundw
            case rel => exact ⟨k + 1, by omega, by go_num, HN2, bP9.out, hB9.out⟩
            case measure => simp [intOf]; omega
        · obtain rfl : ne = k := by omega
          have HF : Hid (0 = q0) := by show _ = _; rw [← HQ.out]; exact (fits_ok HE0.out fun k x hx => HNO.out k x (by rw [← HEL.out]; exact (List.getElem?_eq_some_iff.1 hx).1) hx).symm
          clear hb
          go_wp2
          go_ret
          exact ⟨ret_int HF.out, HB.out⟩
end Go.Proofs.YtlkdefmceghmnaaGreatDoor
