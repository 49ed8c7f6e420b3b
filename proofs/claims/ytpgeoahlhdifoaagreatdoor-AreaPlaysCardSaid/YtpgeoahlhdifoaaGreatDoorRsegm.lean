/- The document's edits of a PNR: a segment. -/
import Derived.Test.YtpgeoahlhdifoaaGreatDoorRadd
import Derived.Deep.RegionLaw
import Derived.Deep.QuietTactic
import Derived.BigQuiet
namespace Go.Proofs.YtpgeoahlhdifoaaGreatDoor
set_option linter.unusedVariables false
open Go Go.RowKit
attribute [local go_sem ↓] Go.wp_at_zero Go.wp_at_succ
set_option maxRecDepth 100000 in
set_option maxHeartbeats 4000000 in
theorem radd_seg (p : Pnr) (h : Hd) (e : Edit) (w : World) (S : Nat → Prop) (hp : PS w S p h) (hS : ∀ b, S b → b < w.heap.size) (hs : p.small 100000) (he : e.ok) (hk : (e.kind == 1) = false) :
    Calls Tryz.prog 73 #[.agg #[.string p.loc, .string p.off, .slice h.an h.nn h.cn, .slice h.ag h.ng h.cg, .slice h.ap h.np h.cp, .int .i64 p.tik.kind, .int .i64 p.tik.day, .int .i64 p.tik.min, .string p.rc, .slice h.ar h.nr h.cr, .slice h.ae h.ne h.ce, .bool p.queued], .agg #[.int .i64 e.kind, .string e.nam.last, .string e.nam.first, .string e.seg.car, .int .i64 e.seg.num, .int .i64 e.seg.day, .int .u8 e.seg.cls, .bool e.seg.live, .int .i64 e.tik.kind, .int .i64 e.tik.day, .int .i64 e.tik.min, .string e.text, .int .i64 e.n, .int .i64 e.pax, .int .i64 e.row, .int .u8 e.let_]] w (RetQ w S (segmentF p e)) := by
  have HP := Lib.hid hp
  have HO := Lib.hid (hp.old hS)
  have HS := Lib.hid (hs.hd (hp.old hS))
  have HE := Lib.hid he
  have HB := Lib.hid hS
  clear hp hS hs
  obtain ⟨e1, e2, e3, e4, e5, e6, e7, e8, e9⟩ := he
  obtain ⟨an, nn, cn, ag, ng, cg, ap, np, cp, ar, nr, cr, ae, ne, ce⟩ := h
  dsimp only
  have hF := FR.start w #[.string p.loc, .string p.off, .slice an nn cn, .slice ag ng cg, .slice ap np cp, .int .i64 p.tik.kind, .int .i64 p.tik.day, .int .i64 p.tik.min, .string p.rc, .slice ar nr cr, .slice ae ne ce, .bool p.queued] #[.int .i64 e.kind, .string e.nam.last, .string e.nam.first, .string e.seg.car, .int .i64 e.seg.num, .int .i64 e.seg.day, .int .u8 e.seg.cls, .bool e.seg.live, .int .i64 e.tik.kind, .int .i64 e.tik.day, .int .i64 e.tik.min, .string e.text, .int .i64 e.n, .int .i64 e.pax, .int .i64 e.row, .int .u8 e.let_] zc
  unfold zc at hF
  have HLn0 := Lib.hid HO.out.segs.len
  have hng := HS.out.ng
  dsimp only at hng
  have HX := Lib.hid (show segmentF p e = (if (segB e.seg && e.seg.live) = false then (p, (4 : Int)) else if dupL p.segs e.seg = true then (p, 8) else if 8 ≤ p.segs.length then (p, 18) else ({ p with segs := p.segs ++ [e.seg] }, 0)) from rfl)
  rcases Bool.eq_false_or_eq_true (segB e.seg) with q1 | q1
  case inr =>
    have hfin := Lib.hid (HX.out.trans (if_pos (by rw [q1]; rfl)))
    go_enter Tryz.func73, Tryz.ntmps73
    go_wp2_with fail
    refine (rsegf_any e.seg _ e3).mono ?_
    rintro en w1 ⟨rfl, hb1⟩
    rw [q1]
    have hF1 := hF.step hb1
    clear hb1
    have v1 := hF1.c1
    have v2 := hF1.c2
    have v6 := hF1.f1
    go_wp2_with (refine store_res rfl (.tmp 4) (.tmp 51) rfl #[.string p.loc, .string p.off, .slice an nn cn, .slice ag ng cg, .slice ap np cp, .int .i64 p.tik.kind, .int .i64 p.tik.day, .int .i64 p.tik.min, .string p.rc, .slice ar nr cr, .slice ae ne ce, .bool p.queued] rfl rfl hF1.r3 rfl rfl (by simp [Value.oneCell']) ?_)
    have hF9 := hF1.put3 #[.string p.loc, .string p.off, .slice an nn cn, .slice ag ng cg, .slice ap np cp, .int .i64 p.tik.kind, .int .i64 p.tik.day, .int .i64 p.tik.min, .string p.rc, .slice ar nr cr, .slice ae ne ce, .bool p.queued]
    refine ret_ct Tryz.results73 hF9.r3 rfl rfl rfl rfl ?_
    exact RetQ.mk' (q := p) (h' := (Hd.mk an nn cn ag ng cg ap np cp ar nr cr ae ne ce)) hfin.out ((HP.out.below hF9.B HB.out).mono fun b hb => .inl hb) hF9.B
  rcases Bool.eq_false_or_eq_true e.seg.live with q2 | q2
  case inr =>
    have hfin := Lib.hid (HX.out.trans (if_pos (by rw [q1, q2]; rfl)))
    have HQ2 := Lib.hid q2
    clear q2
    go_enter Tryz.func73, Tryz.ntmps73
    go_wp2_with fail
    refine (rsegf_any e.seg _ e3).mono ?_
    rintro en w1 ⟨rfl, hb1⟩
    rw [q1]
    have hF1 := hF.step hb1
    clear hb1
    have v1 := hF1.c1
    have v2 := hF1.c2
    have v6 := hF1.f1
    have q2 := HQ2.out
    go_wp2_with (refine store_res rfl (.tmp 4) (.tmp 51) rfl #[.string p.loc, .string p.off, .slice an nn cn, .slice ag ng cg, .slice ap np cp, .int .i64 p.tik.kind, .int .i64 p.tik.day, .int .i64 p.tik.min, .string p.rc, .slice ar nr cr, .slice ae ne ce, .bool p.queued] rfl rfl hF1.r3 rfl rfl (by simp [Value.oneCell']) ?_)
    have hF9 := hF1.put3 #[.string p.loc, .string p.off, .slice an nn cn, .slice ag ng cg, .slice ap np cp, .int .i64 p.tik.kind, .int .i64 p.tik.day, .int .i64 p.tik.min, .string p.rc, .slice ar nr cr, .slice ae ne ce, .bool p.queued]
    refine ret_ct Tryz.results73 hF9.r3 rfl rfl rfl rfl ?_
    exact RetQ.mk' (q := p) (h' := (Hd.mk an nn cn ag ng cg ap np cp ar nr cr ae ne ce)) hfin.out ((HP.out.below hF9.B HB.out).mono fun b hb => .inl hb) hF9.B
  have HX1 := Lib.hid (HX.out.trans (if_neg (by rw [q1, q2]; simp)))
  clear HX
  have HQ2 := Lib.hid q2
  clear q2
  go_enter Tryz.func73, Tryz.ntmps73
  go_wp2_with fail
  refine (rsegf_any e.seg _ e3).mono ?_
  rintro en w1 ⟨rfl, hb1⟩
  rw [q1]
  have hF1 := hF.step hb1
  clear hb1
  have v1 := hF1.c1
  have v2 := hF1.c2
  have v6 := hF1.f1
  have q2 := HQ2.out
  go_upto_region 12 with fail
  clear q2 v1 v2 v6
  go_wp2
  go_loopw [6] (fun i wr => ∃ k : Nat, k ≤ ng ∧ i = .int .i64 k ∧ Hid (dupL (p.segs.take k) e.seg = false) ∧ FR w #[.string p.loc, .string p.off, .slice an nn cn, .slice ag ng cg, .slice ap np cp, .int .i64 p.tik.kind, .int .i64 p.tik.day, .int .i64 p.tik.min, .string p.rc, .slice ar nr cr, .slice ae ne ce, .bool p.queued] #[.int .i64 e.kind, .string e.nam.last, .string e.nam.first, .string e.seg.car, .int .i64 e.seg.num, .int .i64 e.seg.day, .int .u8 e.seg.cls, .bool e.seg.live, .int .i64 e.tik.kind, .int .i64 e.tik.day, .int .i64 e.tik.min, .string e.text, .int .i64 e.n, .int .i64 e.pax, .int .i64 e.row, .int .u8 e.let_] zc wr) (fun i _ => ng - (intOf i).toNat)
  case atStart => exact ⟨0, Nat.zero_le _, rfl, (by rfl), hF1⟩
  case round =>
    obtain ⟨k, hk0, rfl, hdup, hFr⟩ := hrel
    have y1 := hFr.c1
    have y2 := hFr.c2
    by_cases hlt : k < ng
    · obtain ⟨b, o, x, rfl, h1, h2, hx, hok, c0, c1, c2, c3, c4⟩ := (HO.out.below hFr.B (Nat.le_refl _)).segs.seg_ hlt
      obtain ⟨xc, xn, xd, xl, xv⟩ := x
      dsimp only at c0 c1 c2 c3 c4
      have heq := fun u => eql_leg xc e.seg.car xn e.seg.num xd e.seg.day u
      have hle : legEq ⟨xc, xn, xd, xl, xv⟩ e.seg = (decide (xc = e.seg.car) && (decide (xn = e.seg.num) && decide (xd = e.seg.day))) := rfl
      rw [← hle] at heq
      clear hle
      generalize hq : legEq ⟨xc, xn, xd, xl, xv⟩ e.seg = bq at heq
      have HQ := Lib.hid hq
      clear hq
      have hki : (0 : Int) ≤ k := by omega
      have hkl : (k : Int) < ng := by omega
      rcases xv with _ | _ <;> rcases bq with _ | _
      case true.true =>
        have hd : dupL p.segs e.seg = true := List.any_eq_true.2 ⟨_, List.mem_of_getElem? hx.out, by rw [HQ.out]; rfl⟩
        have hfin := Lib.hid (HX1.out.trans (if_pos hd))
        clear hd
        go_wp2
        go_quiet (fail)
        have hFq := hFr.drewN nq
        have z1 := hFq.c1
        go_wp2_with (refine store_res rfl (.tmp 4) (.tmp 77) rfl #[.string p.loc, .string p.off, .slice an nn cn, .slice (some ⟨b, o, none⟩) ng cg, .slice ap np cp, .int .i64 p.tik.kind, .int .i64 p.tik.day, .int .i64 p.tik.min, .string p.rc, .slice ar nr cr, .slice ae ne ce, .bool p.queued] rfl rfl hFq.r3 rfl rfl (by simp [Value.oneCell']) ?_)
        have hF9 := hFq.put3 #[.string p.loc, .string p.off, .slice an nn cn, .slice (some ⟨b, o, none⟩) ng cg, .slice ap np cp, .int .i64 p.tik.kind, .int .i64 p.tik.day, .int .i64 p.tik.min, .string p.rc, .slice ar nr cr, .slice ae ne ce, .bool p.queued]
        refine ret_ct Tryz.results73 hF9.r3 rfl rfl rfl rfl ?_
        exact RetQ.mk' (q := p) (h' := (Hd.mk an nn cn (some ⟨b, o, none⟩) ng cg ap np cp ar nr cr ae ne ce)) hfin.out ((HP.out.below hF9.B HB.out).mono fun b hb => .inl hb) hF9.B
      all_goals
        have hno := Lib.hid (show dupL (p.segs.take (k + 1)) e.seg = false by
          rw [take_succ_of hx.out]
          have := hdup.out
          unfold dupL at this ⊢
          rw [List.any_append, this]
          simp [HQ.out])
        go_wp2
        go_quiet (fail)
        go_wp2
        go_roundw
        case rel => exact ⟨k + 1, by omega, by go_num, hno, hFr.drewN _⟩
        case measure => simp [intOf]; omega
    · obtain rfl : ng = k := by omega
      have hl0 := HLn0.out
      have HX2 := Lib.hid (HX1.out.trans (if_neg (by rw [← List.take_of_length_le (Nat.le_of_eq hl0), hdup.out]; simp)))
      clear HX1 hl0
      by_cases hm : (8 : Int) ≤ (ng : Int)
      · have hfin := Lib.hid (HX2.out.trans (if_pos (by rw [HLn0.out]; first | omega | (dsimp only; omega))))
        go_wp2_with (refine store_res rfl (.tmp 4) (.tmp 82) rfl #[.string p.loc, .string p.off, .slice an nn cn, .slice ag ng cg, .slice ap np cp, .int .i64 p.tik.kind, .int .i64 p.tik.day, .int .i64 p.tik.min, .string p.rc, .slice ar nr cr, .slice ae ne ce, .bool p.queued] rfl rfl hFr.r3 rfl rfl (by simp [Value.oneCell']) ?_)
        have hF9 := hFr.put3 #[.string p.loc, .string p.off, .slice an nn cn, .slice ag ng cg, .slice ap np cp, .int .i64 p.tik.kind, .int .i64 p.tik.day, .int .i64 p.tik.min, .string p.rc, .slice ar nr cr, .slice ae ne ce, .bool p.queued]
        refine ret_ct Tryz.results73 hF9.r3 rfl rfl rfl rfl ?_
        exact RetQ.mk' (q := p) (h' := (Hd.mk an nn cn ag ng cg ap np cp ar nr cr ae ne ce)) hfin.out ((HP.out.below hF9.B HB.out).mono fun b hb => .inl hb) hF9.B
      · have hfin := Lib.hid (HX2.out.trans (if_neg (by rw [HLn0.out]; first | omega | (dsimp only; omega))))
        go_upto_region 19 with fail
        refine wp_world (FR w #[.string p.loc, .string p.off, .slice an nn cn, .slice ag ng cg, .slice ap np cp, .int .i64 p.tik.kind, .int .i64 p.tik.day, .int .i64 p.tik.min, .string p.rc, .slice ar nr cr, .slice ae ne ce, .bool p.queued] #[.int .i64 e.kind, .string e.nam.last, .string e.nam.first, .string e.seg.car, .int .i64 e.seg.num, .int .i64 e.seg.day, .int .u8 e.seg.cls, .bool e.seg.live, .int .i64 e.tik.kind, .int .i64 e.tik.day, .int .i64 e.tik.min, .string e.text, .int .i64 e.n, .int .i64 e.pax, .int .i64 e.row, .int .u8 e.let_] zc) hFr ?_
        intro W0 hF0
        clear y1 y2
        have x1 := hF0.c1
        have x2 := hF0.c2
        have x6 := hF0.f1
        have hFd := hF0
        have hsm := HS.out.ng
        dsimp only at hsm
        have hcp := HP.out.caps.ag
        dsimp only at hcp
        have hcap := Lib.hid hcp
        clear hcp
        have hLn := HO.out.segs.len
        dsimp only at hLn
        have HLn := Lib.hid hLn
        clear hLn
        have zF := hFd.z
        have z0 : w.heap.size < W0.heap.size := by omega
        have z1 : w.heap.size + 1 < W0.heap.size := by omega
        go_region_law (first | (refine step_push (T := tSeg) (v := .slice A3 p.segs.length c3) (l := p.segs) (B := w.heap.size + 1 + 1 + 1) rfl (.tmp 85) (.tmp 88) (by rfl) sl_seg (by rfl) (by first | exact hown3 | exact (hown3.alloc _) | exact (hown3.alloc _).drew) e.seg e3 (by first | exact heap_alloc_new _ _ | exact (hb3.block _ (by simp)).trans (heap_alloc_new _ _)) (by rfl) (by rfl) (by have := hF3.z; first | omega | (simp; omega)) (by rw [HLn.out]; omega) ?_; intro v' w' hown' hgr hb'; obtain ⟨A9, c9, hv9⟩ := hown'.form; rw [List.length_append, List.length_singleton] at hv9; subst hv9; have hF' := FR.grown (by first | exact hF3 | exact hF3.alloc _ | exact (hF3.alloc _).drew) hgr (fun k hk => by have := (hown3.lt k hk).1; omega); have g1 := hF'.c1; have g2 := hF'.f1; have g3 := hF'.z; have g4 : w.heap.size < w'.heap.size := (by omega)) | (go_simp; go_at_call 77; refine (rcopy_seg p.segs ag ng cg _ 0 w.heap.size (HO.out.below (FR.B (by first | exact hFd.drew | exact (hFd.alloc _).drew)) (Nat.le_refl _)).segs hsm (by first | (simp; done) | omega | (simp; omega)) hcap.out).mono ?_; rintro en w3 ⟨A3, c3, rfl, hown3, hb3⟩; have hF3 := FR.step (by first | exact hFd.drew | exact (hFd.alloc _).drew) hb3; replace hown3 := hown3.more (B' := w.heap.size + 1 + 1 + 1) (by first | (simp; done) | omega | (simp; omega)); have x3 := hF3.c1; have x4 := hF3.c2; have x5 := hF3.f1; have z3 := hF3.z; have z4 : w.heap.size < w3.heap.size := (by omega); have z5 : w.heap.size + 1 < w3.heap.size := (by omega)))
        all_goals
          have hF8 := hF'.put1 3 (.slice A9 (p.segs.length + 1) c9)
          have hF7 : FR w #[.string p.loc, .string p.off, .slice an nn cn, .slice A9 (p.segs.length + 1) c9, .slice ap np cp, .int .i64 p.tik.kind, .int .i64 p.tik.day, .int .i64 p.tik.min, .string p.rc, .slice ar nr cr, .slice ae ne ce, .bool p.queued] #[.int .i64 e.kind, .string e.nam.last, .string e.nam.first, .string e.seg.car, .int .i64 e.seg.num, .int .i64 e.seg.day, .int .u8 e.seg.cls, .bool e.seg.live, .int .i64 e.tik.kind, .int .i64 e.tik.day, .int .i64 e.tik.min, .string e.text, .int .i64 e.n, .int .i64 e.pax, .int .i64 e.row, .int .u8 e.let_] zc _ := hF8
          go_wp2_with (refine store_res rfl (.tmp 4) (.tmp 91) rfl #[.string p.loc, .string p.off, .slice an nn cn, .slice A9 (p.segs.length + 1) c9, .slice ap np cp, .int .i64 p.tik.kind, .int .i64 p.tik.day, .int .i64 p.tik.min, .string p.rc, .slice ar nr cr, .slice ae ne ce, .bool p.queued] rfl rfl hF7.r3 rfl rfl (by simp [Value.oneCell']) ?_)
          have hF9 := hF7.put3 #[.string p.loc, .string p.off, .slice an nn cn, .slice A9 (p.segs.length + 1) c9, .slice ap np cp, .int .i64 p.tik.kind, .int .i64 p.tik.day, .int .i64 p.tik.min, .string p.rc, .slice ar nr cr, .slice ae ne ce, .bool p.queued]
          refine ret_ct Tryz.results73 hF9.r3 rfl rfl rfl rfl ?_
          have hO9 := (hown'.setCell (p := ⟨w.heap.size, 3, none⟩) (by first | (simp; done) | omega | (simp; omega)) (.slice A9 (p.segs.length + 1) c9)).setRow (g := w.heap.size + 1 + 1) (by omega) #[.string p.loc, .string p.off, .slice an nn cn, .slice A9 (p.segs.length + 1) c9, .slice ap np cp, .int .i64 p.tik.kind, .int .i64 p.tik.day, .int .i64 p.tik.min, .string p.rc, .slice ar nr cr, .slice ae ne ce, .bool p.queued]
          exact RetQ.mk' (q := { p with segs := p.segs ++ [e.seg] }) (h' := (Hd.mk an nn cn A9 (p.segs.length + 1) c9 ap np cp ar nr cr ae ne ce)) hfin.out (((HP.out.below hF9.B HB.out).mono fun b hb => .inl hb).withSegs (hO9.sls.mono fun b hb => .inr ⟨by omega, hb.2⟩)) hF9.B
end Go.Proofs.YtpgeoahlhdifoaaGreatDoor
