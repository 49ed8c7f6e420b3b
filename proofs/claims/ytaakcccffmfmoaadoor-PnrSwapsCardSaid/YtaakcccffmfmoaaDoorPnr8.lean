/- The program's edits of a PNR: a segment that is cancelled; the edits of whatever kind. -/
import Derived.Test.YtaakcccffmfmoaaDoorPnr6
import Derived.Test.YtaakcccffmfmoaaDoorPnr7
import Derived.Test.YtaakcccffmfmoaaDoorRchange2
import Derived.Test.YtaakcccffmfmoaaDoorRcancel
namespace Go.Proofs.YtaakcccffmfmoaaDoor
set_option linter.unusedVariables false
open Go Go.RowKit
set_option maxRecDepth 100000 in
set_option maxHeartbeats 4000000 in
theorem pchange_7 (p : Pnr) (h : Hd) (e : Edit) (w : World) (B : Nat) (hp : OP w B p h) (hD : Ap h) (hB : B ≤ w.heap.size) (hs : p.small 100000) (he : e.ok) (hk : e.kind = 7) :
    Calls Tryd.prog 52 #[.agg #[.string p.loc, .string p.off, .slice h.an h.nn h.cn, .slice h.ag h.ng h.cg, .slice h.ap h.np h.cp, .int .i64 p.tik.kind, .int .i64 p.tik.day, .int .i64 p.tik.min, .string p.rc, .slice h.ar h.nr h.cr, .slice h.ae h.ne h.ce, .bool p.queued], .agg #[.int .i64 e.kind, .string e.nam.last, .string e.nam.first, .string e.seg.car, .int .i64 e.seg.num, .int .i64 e.seg.day, .int .u8 e.seg.cls, .bool e.seg.live, .int .i64 e.tik.kind, .int .i64 e.tik.day, .int .i64 e.tik.min, .string e.text, .int .i64 e.n, .int .i64 e.pax, .int .i64 e.row, .int .u8 e.let_]] w (RetO w B h (changeF p e)) := by
  have HS := Lib.hid (hp.hd hs)
  have HSM := Lib.hid hs
  have HE := Lib.hid he
  have HD := Lib.hid hD
  obtain ⟨e1, e2, e3, e4, e5, e6, e7, e8, e9⟩ := he
  obtain ⟨an, nn, cn, ag, ng, cg, ap, np, cp, ar, nr, cr, ae, ne, ce⟩ := h
  have HSeg := Lib.hid hp.segs
  have HLg := Lib.hid hp.at.segs.len
  have hF := FO.start hp hB #[.string p.loc, .string p.off, .slice an nn cn, .slice ag ng cg, .slice ap np cp, .int .i64 p.tik.kind, .int .i64 p.tik.day, .int .i64 p.tik.min, .string p.rc, .slice ar nr cr, .slice ae ne ce, .bool p.queued] #[.int .i64 e.kind, .string e.nam.last, .string e.nam.first, .string e.seg.car, .int .i64 e.seg.num, .int .i64 e.seg.day, .int .u8 e.seg.cls, .bool e.seg.live, .int .i64 e.tik.kind, .int .i64 e.tik.day, .int .i64 e.tik.min, .string e.text, .int .i64 e.n, .int .i64 e.pax, .int .i64 e.row, .int .u8 e.let_] zc
  unfold zc at hF
  clear hp hs hD
  dsimp only
  have HX := Lib.hid (show changeF p e = (if liveN p.segs e.n = false then (p, 16) else ({ p with segs := p.segs.modify (e.n - 1).toNat dead, seats := placesF p.seats e.n 0 }, 0)) by unfold changeF cancelF; rw [hk]; rfl)
  have k1 : (e.kind == 1) = false := by rw [hk]; rfl
  have k2 : (e.kind == 2) = false := by rw [hk]; rfl
  have k3 : (e.kind == 3) = false := by rw [hk]; rfl
  have k4 : (e.kind == 4) = false := by rw [hk]; rfl
  have k5 : (e.kind == 5) = false := by rw [hk]; rfl
  have k6 : (e.kind == 6) = false := by rw [hk]; rfl
  have k7 : (e.kind == 7) = true := by rw [hk]; rfl
  have k8 : (e.kind == 8) = false := by rw [hk]; rfl
  have k9 : (e.kind == 9) = false := by rw [hk]; rfl
  clear hk
  have hng := HS.out.ng
  dsimp only at hng
  have hne5 := HS.out.ne
  dsimp only at hne5
  rcases Bool.eq_false_or_eq_true (liveN p.segs e.n) with q1 | q1
  case inr =>
    have hfin := Lib.hid (HX.out.trans (if_pos q1))
    go_enter Tryd.func52, Tryd.ntmps52
    go_wp2_with fail
    refine (plive_any p _ e.n _ 0 _ hF.at0 hng (Nat.le_refl _) e6).mono ?_
    rintro en w1 ⟨rfl, hb1⟩
    rw [q1]
    have hF1 := hF.step hb1
    clear hb1
    have v1 := hF1.c1
    have v2 := hF1.c2
    have v6 := hF1.f1
    go_wp2_with (refine store_res rfl (.tmp 4) (.tmp 74) rfl #[.string p.loc, .string p.off, .slice an nn cn, .slice ag ng cg, .slice ap np cp, .int .i64 p.tik.kind, .int .i64 p.tik.day, .int .i64 p.tik.min, .string p.rc, .slice ar nr cr, .slice ae ne ce, .bool p.queued] rfl rfl hF1.r3 rfl rfl (by simp [Value.oneCell']) ?_)
    have hF9 := hF1.put3 #[.string p.loc, .string p.off, .slice an nn cn, .slice ag ng cg, .slice ap np cp, .int .i64 p.tik.kind, .int .i64 p.tik.day, .int .i64 p.tik.min, .string p.rc, .slice ar nr cr, .slice ae ne ce, .bool p.queued]
    refine ret_ct Tryd.results52 hF9.r3 rfl rfl rfl rfl ?_
    exact RetO.mk' (h' := (Hd.mk an nn cn ag ng cg ap np cp ar nr cr ae ne ce)) hfin.out hF9.op hF9.fb (fun k hk => .inl hk)
  have hfin := Lib.hid (HX.out.trans (if_neg (by rw [q1]; simp)))
  obtain ⟨hn1, x, hx, hxl⟩ := liveN_get q1
  have hX := Lib.hid hx
  have hlt := lt_of_get hx
  clear hx HX
  have hl0 := HLg.out
  dsimp only at hl0
  rw [hl0] at hlt
  clear hl0
  have e6' := e6
  unfold okInt at e6'
  rcases ag with _ | a3
  · rcases HSeg.out.row.2 with ⟨_, h2⟩ | ⟨_, _, _, h1, _⟩
    · have hq := HLg.out
      dsimp only at hq
      omega
    · cases h1
  obtain ⟨g3, _, rfl, _, hBg, _, _, _, _, _⟩ := HSeg.out.open_
  go_enter Tryd.func52, Tryd.ntmps52
  go_wp2_with fail
  refine (plive_any p _ e.n _ 0 _ hF.at0 hng (Nat.le_refl _) e6).mono ?_
  rintro en w1 ⟨rfl, hb1⟩
  rw [q1]
  have hF1 := hF.step hb1
  clear hb1
  have v1 := hF1.c1
  have v2 := hF1.c2
  have v6 := hF1.f1
  clear q1
  go_upto_region 23 with fail
  refine wp_world (FO w B p (Hd.mk an nn cn (some ⟨g3, 0, none⟩) ng cg ap np cp ar nr cr ae ne ce) #[.string p.loc, .string p.off, .slice an nn cn, .slice (some ⟨g3, 0, none⟩) ng cg, .slice ap np cp, .int .i64 p.tik.kind, .int .i64 p.tik.day, .int .i64 p.tik.min, .string p.rc, .slice ar nr cr, .slice ae ne ce, .bool p.queued] #[.int .i64 e.kind, .string e.nam.last, .string e.nam.first, .string e.seg.car, .int .i64 e.seg.num, .int .i64 e.seg.day, .int .u8 e.seg.cls, .bool e.seg.live, .int .i64 e.tik.kind, .int .i64 e.tik.day, .int .i64 e.tik.min, .string e.text, .int .i64 e.n, .int .i64 e.pax, .int .i64 e.row, .int .u8 e.let_] #[.string ⟨#[]⟩, .string ⟨#[]⟩, .slice none 0 0, .slice none 0 0, .slice none 0 0, .int .i64 0, .int .i64 0, .int .i64 0, .string ⟨#[]⟩, .slice none 0 0, .slice none 0 0, .bool false]) hF1 ?_
  clear v1 v2 v6 hF1 hF
  intro W4 hF4
  have v1 := hF4.c1
  have v2 := hF4.c2
  have hz6 := hF4.z
  have hg3 : g3 < w.heap.size := hF4.lt g3 (.inr (.inl rfl))
  have hfr := hF4.op.segs.unfrozen rfl
  obtain ⟨b9, o9, x9, hbo, h1', h2', hx', hok', d0, d1, d2, d3, d4⟩ := hF4.op.segs.sl.seg_ hlt
  injection hbo with hbo
  injection hbo with ee1 ee2 _
  subst ee1 ee2
  have ee3 := hX.out.symm.trans hx'.out
  injection ee3 with ee3
  subst ee3
  have hi1 : (0 : Int) ≤ e.n - 1 := by omega
  have hi2 : e.n - 1 < (ng : Int) := by omega
  have hda : 0 + (e.n - 1).toNat * 5 + 4 = (e.n.toNat - 1) * 5 + 4 := by omega
  rw [hda] at d4
  clear hda d0 d1 d2 d3
  go_upto_region 24 with fail
  have hda : (e.n - 1).toNat * tSeg.sz + 4 = (e.n.toNat - 1) * 5 + 4 := by show (e.n - 1).toNat * 5 + 4 = _; omega
  have hown5 := hF4.op.segs.modify (j := 4) (u := .bool false) hX.out dead hok' rfl (by show 4 < 5; omega)
  rw [hda] at hown5
  have hg5 : W4.grownBy (W4.setCell ⟨g3, (e.n.toNat - 1) * 5 + 4, none⟩ (.bool false)) (some g3) := grown_set (World.grownBy.refl W4 _) _ _
  have hO5 := hF4.op.segs' HD.out hg5 hown5
  have hF5 := hF4.fb.grown hg5 (fun k hk => by injection hk with hk; subst hk; exact ⟨hBg, .inl ⟨.inr (.inl rfl), hg3⟩⟩)
  have HRL := Lib.hid hF4.lt
  refine wp_world (fun W => FB w B (rowP (Hd.mk an nn cn (some ⟨g3, 0, none⟩) ng cg ap np cp ar nr cr ae ne ce)) #[.string p.loc, .string p.off, .slice an nn cn, .slice (some ⟨g3, 0, none⟩) ng cg, .slice ap np cp, .int .i64 p.tik.kind, .int .i64 p.tik.day, .int .i64 p.tik.min, .string p.rc, .slice ar nr cr, .slice ae ne ce, .bool p.queued] #[.int .i64 e.kind, .string e.nam.last, .string e.nam.first, .string e.seg.car, .int .i64 e.seg.num, .int .i64 e.seg.day, .int .u8 e.seg.cls, .bool e.seg.live, .int .i64 e.tik.kind, .int .i64 e.tik.day, .int .i64 e.tik.min, .string e.text, .int .i64 e.n, .int .i64 e.pax, .int .i64 e.row, .int .u8 e.let_] #[.string ⟨#[]⟩, .string ⟨#[]⟩, .slice none 0 0, .slice none 0 0, .slice none 0 0, .int .i64 0, .int .i64 0, .int .i64 0, .string ⟨#[]⟩, .slice none 0 0, .slice none 0 0, .bool false] W ∧ OP W B { p with segs := p.segs.modify (e.n - 1).toNat dead } (Hd.mk an nn cn (some ⟨g3, 0, none⟩) ng cg ap np cp ar nr cr ae ne ce)) ⟨hF5, hO5⟩ ?_
  clear hF5 hO5 hg5 hown5 hF4 v1 v2 d4 hfr hda
  rintro W5 ⟨hF5, hO5⟩
  have v1 := hF5.c1
  have v2 := hF5.c2
  have hz7 := hF5.z
  have hae := hO5.seats.bk_lt
  have hpr := seg_pred e.n (w.heap.size + 1) e W5 (bk ae) (fun h => by have := HRL.out (w.heap.size + 1) (.inr (.inr (.inr (.inr h.symm)))); omega) (by omega) hF5.c2
  go_wp2_with fail
  refine (delete_any (segP e.n) _ _ p.seats ae ne ce W5 B hO5.seats hne5 (by have := hF5.le; omega) hpr eg_seg).mono ?_
  rintro en w6 ⟨rfl, hown6, hg6⟩
  rw [filter_seg] at hown6 ⊢
  have hO6 := hO5.seats' HD.out hg6 hown6
  have hF6 := hF5.grown hg6 (fun k hk => ⟨(hae k hk).1, .inl ⟨.inr (.inr (.inr (.inr hk))), HRL.out k (.inr (.inr (.inr (.inr hk))))⟩⟩)
  clear hpr hown6 hg6 v1 v2 hF5 hO5 hz7 hae
  have u1 := hF6.c1
  have u2 := hF6.c2
  have u6 := hF6.f1
  have hz8 := hF6.z
  have hz9 : w.heap.size < w6.heap.size := by omega
  have hF7 : FB w B (rowP (Hd.mk an nn cn (some ⟨g3, 0, none⟩) ng cg ap np cp ar nr cr ae ne ce)) #[.string p.loc, .string p.off, .slice an nn cn, .slice (some ⟨g3, 0, none⟩) ng cg, .slice ap np cp, .int .i64 p.tik.kind, .int .i64 p.tik.day, .int .i64 p.tik.min, .string p.rc, .slice ar nr cr, .slice ae (placesF p.seats e.n 0).length ce, .bool p.queued] #[.int .i64 e.kind, .string e.nam.last, .string e.nam.first, .string e.seg.car, .int .i64 e.seg.num, .int .i64 e.seg.day, .int .u8 e.seg.cls, .bool e.seg.live, .int .i64 e.tik.kind, .int .i64 e.tik.day, .int .i64 e.tik.min, .string e.text, .int .i64 e.n, .int .i64 e.pax, .int .i64 e.row, .int .u8 e.let_] zc _ := hF6.put1 10 (.slice ae (placesF p.seats e.n 0).length ce)
  go_wp2_with (refine store_res rfl (.tmp 4) (.tmp 101) rfl #[.string p.loc, .string p.off, .slice an nn cn, .slice (some ⟨g3, 0, none⟩) ng cg, .slice ap np cp, .int .i64 p.tik.kind, .int .i64 p.tik.day, .int .i64 p.tik.min, .string p.rc, .slice ar nr cr, .slice ae (placesF p.seats e.n 0).length ce, .bool p.queued] rfl rfl hF7.r3 rfl rfl (by simp [Value.oneCell']) ?_)
  have hF9 := hF7.put3 #[.string p.loc, .string p.off, .slice an nn cn, .slice (some ⟨g3, 0, none⟩) ng cg, .slice ap np cp, .int .i64 p.tik.kind, .int .i64 p.tik.day, .int .i64 p.tik.min, .string p.rc, .slice ar nr cr, .slice ae (placesF p.seats e.n 0).length ce, .bool p.queued]
  refine ret_ct Tryd.results52 hF9.r3 rfl rfl rfl rfl ?_
  exact RetO.mk' (q := { p with segs := p.segs.modify (e.n - 1).toNat dead, seats := placesF p.seats e.n 0 }) (h' := (Hd.mk an nn cn (some ⟨g3, 0, none⟩) ng cg ap np cp ar nr cr ae (placesF p.seats e.n 0).length ce)) hfin.out (hO6.fin (fun k hk => .inl (HRL.out k hk)) 10 _ #[.string p.loc, .string p.off, .slice an nn cn, .slice (some ⟨g3, 0, none⟩) ng cg, .slice ap np cp, .int .i64 p.tik.kind, .int .i64 p.tik.day, .int .i64 p.tik.min, .string p.rc, .slice ar nr cr, .slice ae (placesF p.seats e.n 0).length ce, .bool p.queued]) hF9 (fun k hk => .inl hk)
theorem pchange_any (p : Pnr) (h : Hd) (e : Edit) (w : World) (B : Nat) (hp : OP w B p h) (hD : Ap h) (hB : B ≤ w.heap.size) (hs : p.small 100000) (he : e.ok) :
    Calls Tryd.prog 52 #[.agg #[.string p.loc, .string p.off, .slice h.an h.nn h.cn, .slice h.ag h.ng h.cg, .slice h.ap h.np h.cp, .int .i64 p.tik.kind, .int .i64 p.tik.day, .int .i64 p.tik.min, .string p.rc, .slice h.ar h.nr h.cr, .slice h.ae h.ne h.ce, .bool p.queued], .agg #[.int .i64 e.kind, .string e.nam.last, .string e.nam.first, .string e.seg.car, .int .i64 e.seg.num, .int .i64 e.seg.day, .int .u8 e.seg.cls, .bool e.seg.live, .int .i64 e.tik.kind, .int .i64 e.tik.day, .int .i64 e.tik.min, .string e.text, .int .i64 e.n, .int .i64 e.pax, .int .i64 e.row, .int .u8 e.let_]] w (RetO w B h (changeF p e)) := by
  by_cases h1 : e.kind = 1
  · exact pchange_1 p h e w B hp hD hB hs he h1
  by_cases h2 : e.kind = 2
  · exact pchange_2 p h e w B hp hD hB hs he h2
  by_cases h3 : e.kind = 3
  · exact pchange_3 p h e w B hp hD hB hs he h3
  by_cases h4 : e.kind = 4
  · exact pchange_4 p h e w B hp hD hB hs he h4
  by_cases h5 : e.kind = 5
  · exact pchange_5 p h e w B hp hD hB hs he h5
  by_cases h6 : e.kind = 6
  · exact pchange_6 p h e w B hp hD hB hs he h6
  by_cases h7 : e.kind = 7
  · exact pchange_7 p h e w B hp hD hB hs he h7
  by_cases h8 : e.kind = 8
  · exact pchange_8 p h e w B hp hD hB hs he h8
  by_cases h9 : e.kind = 9
  · exact pchange_9 p h e w B hp hD hB hs he h9
  exact pchange_0 p h e w B hp hD hB hs he fun c c1 c2 => by rw [beq_eq_false_iff_ne]; omega
end Go.Proofs.YtaakcccffmfmoaaDoor

