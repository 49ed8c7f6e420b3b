/- The document's edits of a PNR: a segment that is cancelled, a seat that is given back. -/
import Derived.Test.YtpgeoahlhdifoaaGreatDoorRchange2
import Derived.Test.YtpgeoahlhdifoaaGreatDoorRseat2
namespace Go.Proofs.YtpgeoahlhdifoaaGreatDoor
set_option linter.unusedVariables false
open Go Go.RowKit
theorem FR.other {w : World} {pc ec rc : Array Value} {W : World} (H : FR w pc ec rc W) {p : Addr} (hp : w.heap.size + 1 + 1 < p.block) (u : Value) : FR w pc ec rc (W.setCell p u) :=
  ⟨H.B.setCell (by omega) _, H.r1.other (by omega) u, H.r2.other (by omega) u, H.r3.other (by omega) u⟩
theorem liveN_get {l : List Seg} {n : Int} (h : liveN l n = true) : 1 ≤ n ∧ ∃ x, l[(n - 1).toNat]? = some x ∧ x.live = true := by
  simp only [liveN, Bool.and_eq_true, decide_eq_true_eq, lvI] at h
  refine ⟨h.1, ?_⟩
  cases hx : l[(n - 1).toNat]? with
  | none => rw [hx] at h; simp at h
  | some x => rw [hx] at h; exact ⟨x, rfl, h.2⟩
set_option maxRecDepth 100000 in
set_option maxHeartbeats 4000000 in
theorem rchange_7 (p : Pnr) (h : Hd) (e : Edit) (w : World) (S : Nat → Prop) (hp : PS w S p h) (hS : ∀ b, S b → b < w.heap.size) (hs : p.small 100000) (he : e.ok) (hk : e.kind = 7) :
    Calls Tryz.prog 54 #[.agg #[.string p.loc, .string p.off, .slice h.an h.nn h.cn, .slice h.ag h.ng h.cg, .slice h.ap h.np h.cp, .int .i64 p.tik.kind, .int .i64 p.tik.day, .int .i64 p.tik.min, .string p.rc, .slice h.ar h.nr h.cr, .slice h.ae h.ne h.ce, .bool p.queued], .agg #[.int .i64 e.kind, .string e.nam.last, .string e.nam.first, .string e.seg.car, .int .i64 e.seg.num, .int .i64 e.seg.day, .int .u8 e.seg.cls, .bool e.seg.live, .int .i64 e.tik.kind, .int .i64 e.tik.day, .int .i64 e.tik.min, .string e.text, .int .i64 e.n, .int .i64 e.pax, .int .i64 e.row, .int .u8 e.let_]] w (RetQ w S (changeF p e)) := by
  have HP := Lib.hid hp
  have HO := Lib.hid (hp.old hS)
  have HS := Lib.hid (hs.hd (hp.old hS))
  have HE := Lib.hid he
  have HB := Lib.hid hS
  clear hp hS hs
  obtain ⟨e1, e2, e3, e4, e5, e6, e7, e8, e9⟩ := he
  obtain ⟨an, nn, cn, ag, ng, cg, ap, np, cp, ar, nr, cr, ae, ne, ce⟩ := h
  dsimp only
  have hF := FR.start w #[.string p.loc, .string p.off, .slice an nn cn, .slice ag ng cg, .slice ap np cp, .int .i64 p.tik.kind, .int .i64 p.tik.day, .int .i64 p.tik.min, .string p.rc, .slice ar nr cr, .slice ae ne ce, .bool p.queued] #[.int .i64 e.kind, .string e.nam.last, .string e.nam.first, .string e.seg.car, .int .i64 e.seg.num, .int .i64 e.seg.day, .int .u8 e.seg.cls, .bool e.seg.live, .int .i64 e.tik.kind, .int .i64 e.tik.day, .int .i64 e.tik.min, .string e.text, .int .i64 e.n, .int .i64 e.pax, .int .i64 e.row, .int .u8 e.let_] zc
  unfold zc at hF
  have HX := Lib.hid (show changeF p e = (if liveN p.segs e.n = false then (p, 16) else ({ p with segs := p.segs.modify (e.n - 1).toNat dead, seats := placesF p.seats e.n 0 }, 0)) by unfold changeF cancelF; rw [hk]; rfl)
  have k1 : (e.kind == 1) = false := by rw [hk]; rfl
  have k2 : (e.kind == 2) = false := by rw [hk]; rfl
  have k3 : (e.kind == 3) = false := by rw [hk]; rfl
  have k4 : (e.kind == 4) = false := by rw [hk]; rfl
  have k5 : (e.kind == 5) = false := by rw [hk]; rfl
  have k6 : (e.kind == 6) = false := by rw [hk]; rfl
  have k7 : (e.kind == 7) = true := by rw [hk]; rfl
  have k8 : (e.kind == 8) = false := by rw [hk]; rfl
  have k9 : (e.kind == 9) = false := by rw [hk]; rfl
  clear hk
  have hng := HS.out.ng
  dsimp only at hng
  have hne5 := HS.out.ne
  dsimp only at hne5
  rcases Bool.eq_false_or_eq_true (liveN p.segs e.n) with q1 | q1
  case inr =>
    have hfin := Lib.hid (HX.out.trans (if_pos q1))
    go_enter Tryz.func54, Tryz.ntmps54
    go_wp2_with fail
    refine (islive_any p (Hd.mk an nn cn ag ng cg ap np cp ar nr cr ae ne ce) e.n _ 0 w.heap.size (HO.out.below hF.B (Nat.le_refl _)) hng (by have := hF.z; omega) e6).mono ?_
    rintro en w1 ⟨rfl, hb1⟩
    rw [q1]
    have hF1 := hF.step hb1
    clear hb1
    have v1 := hF1.c1
    have v2 := hF1.c2
    have v6 := hF1.f1
    go_wp2_with (refine store_res rfl (.tmp 4) (.tmp 46) rfl #[.string p.loc, .string p.off, .slice an nn cn, .slice ag ng cg, .slice ap np cp, .int .i64 p.tik.kind, .int .i64 p.tik.day, .int .i64 p.tik.min, .string p.rc, .slice ar nr cr, .slice ae ne ce, .bool p.queued] rfl rfl hF1.r3 rfl rfl (by simp [Value.oneCell']) ?_)
    have hF9 := hF1.put3 #[.string p.loc, .string p.off, .slice an nn cn, .slice ag ng cg, .slice ap np cp, .int .i64 p.tik.kind, .int .i64 p.tik.day, .int .i64 p.tik.min, .string p.rc, .slice ar nr cr, .slice ae ne ce, .bool p.queued]
    refine ret_ct Tryz.results54 hF9.r3 rfl rfl rfl rfl ?_
    exact RetQ.mk' (q := p) (h' := (Hd.mk an nn cn ag ng cg ap np cp ar nr cr ae ne ce)) hfin.out ((HP.out.below hF9.B HB.out).mono fun b hb => .inl hb) hF9.B
  have hfin := Lib.hid (HX.out.trans (if_neg (by rw [q1]; simp)))
  obtain ⟨hn1, x, hx, hxl⟩ := liveN_get q1
  have hX := Lib.hid hx
  have hlt := lt_of_get hx
  clear hx HX
  have e6' := e6
  unfold okInt at e6'
  have HL := Lib.hid HO.out.segs.len
  have hcp := HP.out.caps.ag
  dsimp only at hcp
  have hcap := Lib.hid hcp
  clear hcp
  go_enter Tryz.func54, Tryz.ntmps54
  go_wp2_with fail
  refine (islive_any p (Hd.mk an nn cn ag ng cg ap np cp ar nr cr ae ne ce) e.n _ 0 w.heap.size (HO.out.below hF.B (Nat.le_refl _)) hng (by have := hF.z; omega) e6).mono ?_
  rintro en w1 ⟨rfl, hb1⟩
  rw [q1]
  have hF1 := hF.step hb1
  clear hb1
  have v1 := hF1.c1
  have v2 := hF1.c2
  have v6 := hF1.f1
  clear q1
  have hz1 := hF1.z
  go_wp2_with fail
  refine (rcopy_seg p.segs ag ng cg _ 0 w.heap.size (HO.out.below hF1.B (Nat.le_refl _)).segs hng (by omega) hcap.out).mono ?_
  rintro en w3 ⟨A3, c3, rfl, hown3, hb3⟩
  have hF3 := hF1.step hb3
  clear hb3 v1 v2 v6
  replace hown3 := hown3.more (B' := w.heap.size + 1 + 1 + 1) (by omega)
  obtain ⟨g3, rfl⟩ : ∃ g3, A3 = some ⟨g3, 0, none⟩ := by
    rcases hown3.row.2 with ⟨h1, h2⟩ | ⟨g, _, _, h1, _⟩
    · omega
    · injection h1 with h1 _ _
      exact ⟨g, h1⟩
  have hg3 := hown3.lt g3 rfl
  have v1 := hF3.c1
  have v2 := hF3.c2
  have v6 := hF3.f1
  have hz3 := hF3.z
  have hz4 : w.heap.size < w3.heap.size := by omega
  have hz5 : w.heap.size + 1 < w3.heap.size := by omega
  go_upto_region 19 with fail
  have hF4 : FR w #[.string p.loc, .string p.off, .slice an nn cn, .slice (some ⟨g3, 0, none⟩) p.segs.length c3, .slice ap np cp, .int .i64 p.tik.kind, .int .i64 p.tik.day, .int .i64 p.tik.min, .string p.rc, .slice ar nr cr, .slice ae ne ce, .bool p.queued] #[.int .i64 e.kind, .string e.nam.last, .string e.nam.first, .string e.seg.car, .int .i64 e.seg.num, .int .i64 e.seg.day, .int .u8 e.seg.cls, .bool e.seg.live, .int .i64 e.tik.kind, .int .i64 e.tik.day, .int .i64 e.tik.min, .string e.text, .int .i64 e.n, .int .i64 e.pax, .int .i64 e.row, .int .u8 e.let_] zc _ := hF3.put1 3 (.slice (some ⟨g3, 0, none⟩) p.segs.length c3)
  have hown4 := hown3.setCell (p := ⟨w.heap.size, 3, none⟩) (by simp; omega) (.slice (some ⟨g3, 0, none⟩) p.segs.length c3)
  refine wp_world (fun W => FR w #[.string p.loc, .string p.off, .slice an nn cn, .slice (some ⟨g3, 0, none⟩) p.segs.length c3, .slice ap np cp, .int .i64 p.tik.kind, .int .i64 p.tik.day, .int .i64 p.tik.min, .string p.rc, .slice ar nr cr, .slice ae ne ce, .bool p.queued] #[.int .i64 e.kind, .string e.nam.last, .string e.nam.first, .string e.seg.car, .int .i64 e.seg.num, .int .i64 e.seg.day, .int .u8 e.seg.cls, .bool e.seg.live, .int .i64 e.tik.kind, .int .i64 e.tik.day, .int .i64 e.tik.min, .string e.text, .int .i64 e.n, .int .i64 e.pax, .int .i64 e.row, .int .u8 e.let_] zc W ∧ Own W (w.heap.size + 1 + 1 + 1) 46 tSeg (.slice (some ⟨g3, 0, none⟩) p.segs.length c3) p.segs ∧ g3 < W.heap.size) ⟨hF4, hown4, by simp; omega⟩ ?_
  clear hF4 hown4 v1 v2 v6 hF3 hown3
  rintro W4 ⟨hF4, hown4, hg4⟩
  have v1 := hF4.c1
  have v2 := hF4.c2
  have v6 := hF4.f1
  have hz6 := hF4.z
  have hfr := hown4.unfrozen rfl
  obtain ⟨b9, o9, x9, hbo, h1', h2', hx', hok', d0, d1, d2, d3, d4⟩ := hown4.sl.seg_ hlt
  injection hbo with hbo
  injection hbo with ee1 ee2 _
  subst ee1 ee2
  have ee3 := hX.out.symm.trans hx'.out
  injection ee3 with ee3
  subst ee3
  have hi1 : (0 : Int) ≤ e.n - 1 := by omega
  have hi2 : e.n - 1 < (p.segs.length : Int) := by omega
  have hgn : ¬ g3 = w.heap.size := by omega
  have hgm : ¬ w.heap.size = g3 := by omega
  have hda : 0 + (e.n - 1).toNat * 5 + 4 = (e.n.toNat - 1) * 5 + 4 := by omega
  rw [hda] at d4
  clear hda d0 d1 d2 d3
  go_upto_region 20 with fail
  have hda : (e.n - 1).toNat * tSeg.sz + 4 = (e.n.toNat - 1) * 5 + 4 := by show (e.n - 1).toNat * 5 + 4 = _; omega
  have hown5 := hown4.modify (j := 4) (u := .bool false) hX.out dead hok' rfl (by show 4 < 5; omega)
  rw [hda] at hown5
  have hF5 := hF4.other (p := ⟨g3, (e.n.toNat - 1) * 5 + 4, none⟩) (by simp; omega) (.bool false)
  refine wp_world (fun W => FR w #[.string p.loc, .string p.off, .slice an nn cn, .slice (some ⟨g3, 0, none⟩) p.segs.length c3, .slice ap np cp, .int .i64 p.tik.kind, .int .i64 p.tik.day, .int .i64 p.tik.min, .string p.rc, .slice ar nr cr, .slice ae ne ce, .bool p.queued] #[.int .i64 e.kind, .string e.nam.last, .string e.nam.first, .string e.seg.car, .int .i64 e.seg.num, .int .i64 e.seg.day, .int .u8 e.seg.cls, .bool e.seg.live, .int .i64 e.tik.kind, .int .i64 e.tik.day, .int .i64 e.tik.min, .string e.text, .int .i64 e.n, .int .i64 e.pax, .int .i64 e.row, .int .u8 e.let_] zc W ∧ Own W (w.heap.size + 1 + 1 + 1) 46 tSeg (.slice (some ⟨g3, 0, none⟩) p.segs.length c3) (p.segs.modify (e.n - 1).toNat dead) ∧ g3 < W.heap.size) ⟨hF5, hown5, by simp; omega⟩ ?_
  clear hF5 hown5 hF4 hown4 v1 v2 v6 d4 hfr hda
  rintro W5 ⟨hF5, hown5, hg5⟩
  have v1 := hF5.c1
  have v2 := hF5.c2
  have v6 := hF5.f1
  have hz7 := hF5.z
  go_wp2_with fail
  refine (places_any p.seats ae ne ce e.n 0 _ 0 w.heap.size (HO.out.below hF5.B (Nat.le_refl _)).seats hne5 (by omega)).mono ?_
  rintro en w6 ⟨A5, c5, rfl, hown6, hb6⟩
  have hF6 := hF5.step hb6
  have hown7 := hown5.keep hb6
  have hz8 := hF6.z
  have hz9 : w.heap.size < w6.heap.size := by omega
  have u1 := hF6.c1
  have u2 := hF6.c2
  have u6 := hF6.f1
  replace hown6 := hown6.more (B' := w.heap.size + 1 + 1 + 1) (by omega)
  have hF7 : FR w #[.string p.loc, .string p.off, .slice an nn cn, .slice (some ⟨g3, 0, none⟩) p.segs.length c3, .slice ap np cp, .int .i64 p.tik.kind, .int .i64 p.tik.day, .int .i64 p.tik.min, .string p.rc, .slice ar nr cr, .slice A5 (placesF p.seats e.n 0).length c5, .bool p.queued] #[.int .i64 e.kind, .string e.nam.last, .string e.nam.first, .string e.seg.car, .int .i64 e.seg.num, .int .i64 e.seg.day, .int .u8 e.seg.cls, .bool e.seg.live, .int .i64 e.tik.kind, .int .i64 e.tik.day, .int .i64 e.tik.min, .string e.text, .int .i64 e.n, .int .i64 e.pax, .int .i64 e.row, .int .u8 e.let_] zc _ := hF6.put1 10 (.slice A5 (placesF p.seats e.n 0).length c5)
  go_wp2_with (refine store_res rfl (.tmp 4) (.tmp 64) rfl #[.string p.loc, .string p.off, .slice an nn cn, .slice (some ⟨g3, 0, none⟩) p.segs.length c3, .slice ap np cp, .int .i64 p.tik.kind, .int .i64 p.tik.day, .int .i64 p.tik.min, .string p.rc, .slice ar nr cr, .slice A5 (placesF p.seats e.n 0).length c5, .bool p.queued] rfl rfl hF7.r3 rfl rfl (by simp [Value.oneCell']) ?_)
  have hF9 := hF7.put3 #[.string p.loc, .string p.off, .slice an nn cn, .slice (some ⟨g3, 0, none⟩) p.segs.length c3, .slice ap np cp, .int .i64 p.tik.kind, .int .i64 p.tik.day, .int .i64 p.tik.min, .string p.rc, .slice ar nr cr, .slice A5 (placesF p.seats e.n 0).length c5, .bool p.queued]
  refine ret_ct Tryz.results54 hF9.r3 rfl rfl rfl rfl ?_
  have hO8 := (hown6.setCell (p := ⟨w.heap.size, 10, none⟩) (by simp; omega) (.slice A5 (placesF p.seats e.n 0).length c5)).setRow (g := w.heap.size + 1 + 1) (by omega) #[.string p.loc, .string p.off, .slice an nn cn, .slice (some ⟨g3, 0, none⟩) p.segs.length c3, .slice ap np cp, .int .i64 p.tik.kind, .int .i64 p.tik.day, .int .i64 p.tik.min, .string p.rc, .slice ar nr cr, .slice A5 (placesF p.seats e.n 0).length c5, .bool p.queued]
  have hO9 := (hown7.setCell (p := ⟨w.heap.size, 10, none⟩) (by simp; omega) (.slice A5 (placesF p.seats e.n 0).length c5)).setRow (g := w.heap.size + 1 + 1) (by omega) #[.string p.loc, .string p.off, .slice an nn cn, .slice (some ⟨g3, 0, none⟩) p.segs.length c3, .slice ap np cp, .int .i64 p.tik.kind, .int .i64 p.tik.day, .int .i64 p.tik.min, .string p.rc, .slice ar nr cr, .slice A5 (placesF p.seats e.n 0).length c5, .bool p.queued]
  exact RetQ.mk' (q := { p with segs := p.segs.modify (e.n - 1).toNat dead, seats := placesF p.seats e.n 0 }) (h' := (Hd.mk an nn cn (some ⟨g3, 0, none⟩) p.segs.length c3 ap np cp ar nr cr A5 (placesF p.seats e.n 0).length c5)) hfin.out ((((HP.out.below hF9.B HB.out).mono fun b hb => .inl hb).withSegs (hO9.sls.mono fun b hb => .inr ⟨by omega, hb.2⟩)).withSeats (hO8.sls.mono fun b hb => .inr ⟨by omega, hb.2⟩)) hF9.B
set_option maxRecDepth 100000 in
set_option maxHeartbeats 4000000 in
theorem rchange_9 (p : Pnr) (h : Hd) (e : Edit) (w : World) (S : Nat → Prop) (hp : PS w S p h) (hS : ∀ b, S b → b < w.heap.size) (hs : p.small 100000) (he : e.ok) (hk : e.kind = 9) :
    Calls Tryz.prog 54 #[.agg #[.string p.loc, .string p.off, .slice h.an h.nn h.cn, .slice h.ag h.ng h.cg, .slice h.ap h.np h.cp, .int .i64 p.tik.kind, .int .i64 p.tik.day, .int .i64 p.tik.min, .string p.rc, .slice h.ar h.nr h.cr, .slice h.ae h.ne h.ce, .bool p.queued], .agg #[.int .i64 e.kind, .string e.nam.last, .string e.nam.first, .string e.seg.car, .int .i64 e.seg.num, .int .i64 e.seg.day, .int .u8 e.seg.cls, .bool e.seg.live, .int .i64 e.tik.kind, .int .i64 e.tik.day, .int .i64 e.tik.min, .string e.text, .int .i64 e.n, .int .i64 e.pax, .int .i64 e.row, .int .u8 e.let_]] w (RetQ w S (changeF p e)) := by
  have HP := Lib.hid hp
  have HO := Lib.hid (hp.old hS)
  have HS := Lib.hid (hs.hd (hp.old hS))
  have HE := Lib.hid he
  have HB := Lib.hid hS
  clear hp hS hs
  obtain ⟨e1, e2, e3, e4, e5, e6, e7, e8, e9⟩ := he
  obtain ⟨an, nn, cn, ag, ng, cg, ap, np, cp, ar, nr, cr, ae, ne, ce⟩ := h
  dsimp only
  have hF := FR.start w #[.string p.loc, .string p.off, .slice an nn cn, .slice ag ng cg, .slice ap np cp, .int .i64 p.tik.kind, .int .i64 p.tik.day, .int .i64 p.tik.min, .string p.rc, .slice ar nr cr, .slice ae ne ce, .bool p.queued] #[.int .i64 e.kind, .string e.nam.last, .string e.nam.first, .string e.seg.car, .int .i64 e.seg.num, .int .i64 e.seg.day, .int .u8 e.seg.cls, .bool e.seg.live, .int .i64 e.tik.kind, .int .i64 e.tik.day, .int .i64 e.tik.min, .string e.text, .int .i64 e.n, .int .i64 e.pax, .int .i64 e.row, .int .u8 e.let_] zc
  unfold zc at hF
  have HX := Lib.hid (show changeF p e = (if whoseF p e ≠ 0 then (p, whoseF p e) else if (placesF p.seats e.n e.pax).length = p.seats.length then (p, 9) else ({ p with seats := placesF p.seats e.n e.pax }, 0)) by unfold changeF freeF; rw [hk]; rfl)
  have k1 : (e.kind == 1) = false := by rw [hk]; rfl
  have k2 : (e.kind == 2) = false := by rw [hk]; rfl
  have k3 : (e.kind == 3) = false := by rw [hk]; rfl
  have k4 : (e.kind == 4) = false := by rw [hk]; rfl
  have k5 : (e.kind == 5) = false := by rw [hk]; rfl
  have k6 : (e.kind == 6) = false := by rw [hk]; rfl
  have k7 : (e.kind == 7) = false := by rw [hk]; rfl
  have k8 : (e.kind == 8) = false := by rw [hk]; rfl
  have k9 : (e.kind == 9) = true := by rw [hk]; rfl
  clear hk
  have hne5 := HS.out.ne
  dsimp only at hne5
  have HL := Lib.hid HO.out.seats.len
  rcases whoseF_three p e with q2 | q2
  case inr =>
    have hne : ¬ whoseF p e = 0 := by rcases q2 with q | q <;> rw [q] <;> omega
    have hfin := Lib.hid (HX.out.trans (if_pos hne))
    have q3 : (whoseF p e != 0) = true := by rw [bne_iff_ne]; exact hne
    clear q2 hne
    go_enter Tryz.func54, Tryz.ntmps54
    go_wp2_with fail
    refine (rwhose_any p (Hd.mk an nn cn ag ng cg ap np cp ar nr cr ae ne ce) e _ 0 w.heap.size (HO.out.below hF.B (Nat.le_refl _)) HS.out (by have := hF.z; omega) HE.out).mono ?_
    rintro en w1 ⟨rfl, hb1⟩
    have hF1 := hF.step hb1
    clear hb1
    have v1 := hF1.c1
    have v2 := hF1.c2
    have v6 := hF1.f1
    go_wp2_with (refine store_res rfl (.tmp 4) (.tmp 79) rfl #[.string p.loc, .string p.off, .slice an nn cn, .slice ag ng cg, .slice ap np cp, .int .i64 p.tik.kind, .int .i64 p.tik.day, .int .i64 p.tik.min, .string p.rc, .slice ar nr cr, .slice ae ne ce, .bool p.queued] rfl rfl hF1.r3 rfl rfl (by simp [Value.oneCell']) ?_)
    have hF9 := hF1.put3 #[.string p.loc, .string p.off, .slice an nn cn, .slice ag ng cg, .slice ap np cp, .int .i64 p.tik.kind, .int .i64 p.tik.day, .int .i64 p.tik.min, .string p.rc, .slice ar nr cr, .slice ae ne ce, .bool p.queued]
    refine ret_ct Tryz.results54 hF9.r3 rfl rfl rfl rfl ?_
    exact RetQ.mk' (q := p) (h' := (Hd.mk an nn cn ag ng cg ap np cp ar nr cr ae ne ce)) hfin.out ((HP.out.below hF9.B HB.out).mono fun b hb => .inl hb) hF9.B
  have HX1 := Lib.hid (HX.out.trans (if_neg (by rw [q2]; simp)))
  by_cases hm : (placesF p.seats e.n e.pax).length = ne
  · have hfin := Lib.hid (HX1.out.trans (if_pos (by rw [HL.out]; exact hm)))
    have hm2 : (((placesF p.seats e.n e.pax).length : Int) == (ne : Int)) = true := by rw [beq_iff_eq]; omega
    clear hm
    go_enter Tryz.func54, Tryz.ntmps54
    go_wp2_with fail
    refine (rwhose_any p (Hd.mk an nn cn ag ng cg ap np cp ar nr cr ae ne ce) e _ 0 w.heap.size (HO.out.below hF.B (Nat.le_refl _)) HS.out (by have := hF.z; omega) HE.out).mono ?_
    rintro en w1 ⟨rfl, hb1⟩
    have hF1 := hF.step hb1
    clear hb1
    have v1 := hF1.c1
    have v2 := hF1.c2
    have v6 := hF1.f1
    rw [q2]
    have hz1 := hF1.z
    go_wp2_with fail
    refine (places_any p.seats ae ne ce e.n e.pax _ 0 w.heap.size (HO.out.below hF1.B (Nat.le_refl _)).seats hne5 (by omega)).mono ?_
    rintro en w6 ⟨A5, c5, rfl, hown6, hb6⟩
    have hF6 := hF1.step hb6
    have hz8 := hF6.z
    have hz9 : w.heap.size < w6.heap.size := by omega
    clear v1 v2 v6
    have u1 := hF6.c1
    have u2 := hF6.c2
    have u6 := hF6.f1
    replace hown6 := hown6.more (B' := w.heap.size + 1 + 1 + 1) (by omega)
    go_wp2_with (refine store_res rfl (.tmp 4) (.tmp 94) rfl #[.string p.loc, .string p.off, .slice an nn cn, .slice ag ng cg, .slice ap np cp, .int .i64 p.tik.kind, .int .i64 p.tik.day, .int .i64 p.tik.min, .string p.rc, .slice ar nr cr, .slice ae ne ce, .bool p.queued] rfl rfl hF6.r3 rfl rfl (by simp [Value.oneCell']) ?_)
    have hF9 := hF6.put3 #[.string p.loc, .string p.off, .slice an nn cn, .slice ag ng cg, .slice ap np cp, .int .i64 p.tik.kind, .int .i64 p.tik.day, .int .i64 p.tik.min, .string p.rc, .slice ar nr cr, .slice ae ne ce, .bool p.queued]
    refine ret_ct Tryz.results54 hF9.r3 rfl rfl rfl rfl ?_
    exact RetQ.mk' (q := p) (h' := (Hd.mk an nn cn ag ng cg ap np cp ar nr cr ae ne ce)) hfin.out ((HP.out.below hF9.B HB.out).mono fun b hb => .inl hb) hF9.B
  · have hfin := Lib.hid (HX1.out.trans (if_neg (by rw [HL.out]; exact hm)))
    have hm2 : (((placesF p.seats e.n e.pax).length : Int) == (ne : Int)) = false := by rw [beq_eq_false_iff_ne]; omega
    clear hm
    go_enter Tryz.func54, Tryz.ntmps54
    go_wp2_with fail
    refine (rwhose_any p (Hd.mk an nn cn ag ng cg ap np cp ar nr cr ae ne ce) e _ 0 w.heap.size (HO.out.below hF.B (Nat.le_refl _)) HS.out (by have := hF.z; omega) HE.out).mono ?_
    rintro en w1 ⟨rfl, hb1⟩
    have hF1 := hF.step hb1
    clear hb1
    have v1 := hF1.c1
    have v2 := hF1.c2
    have v6 := hF1.f1
    rw [q2]
    have hz1 := hF1.z
    go_wp2_with fail
    refine (places_any p.seats ae ne ce e.n e.pax _ 0 w.heap.size (HO.out.below hF1.B (Nat.le_refl _)).seats hne5 (by omega)).mono ?_
    rintro en w6 ⟨A5, c5, rfl, hown6, hb6⟩
    have hF6 := hF1.step hb6
    have hz8 := hF6.z
    have hz9 : w.heap.size < w6.heap.size := by omega
    clear v1 v2 v6
    have u1 := hF6.c1
    have u2 := hF6.c2
    have u6 := hF6.f1
    replace hown6 := hown6.more (B' := w.heap.size + 1 + 1 + 1) (by omega)
    have hF7 : FR w #[.string p.loc, .string p.off, .slice an nn cn, .slice ag ng cg, .slice ap np cp, .int .i64 p.tik.kind, .int .i64 p.tik.day, .int .i64 p.tik.min, .string p.rc, .slice ar nr cr, .slice A5 (placesF p.seats e.n e.pax).length c5, .bool p.queued] #[.int .i64 e.kind, .string e.nam.last, .string e.nam.first, .string e.seg.car, .int .i64 e.seg.num, .int .i64 e.seg.day, .int .u8 e.seg.cls, .bool e.seg.live, .int .i64 e.tik.kind, .int .i64 e.tik.day, .int .i64 e.tik.min, .string e.text, .int .i64 e.n, .int .i64 e.pax, .int .i64 e.row, .int .u8 e.let_] zc _ := hF6.put1 10 (.slice A5 (placesF p.seats e.n e.pax).length c5)
    go_wp2_with (refine store_res rfl (.tmp 4) (.tmp 97) rfl #[.string p.loc, .string p.off, .slice an nn cn, .slice ag ng cg, .slice ap np cp, .int .i64 p.tik.kind, .int .i64 p.tik.day, .int .i64 p.tik.min, .string p.rc, .slice ar nr cr, .slice A5 (placesF p.seats e.n e.pax).length c5, .bool p.queued] rfl rfl hF7.r3 rfl rfl (by simp [Value.oneCell']) ?_)
    have hF9 := hF7.put3 #[.string p.loc, .string p.off, .slice an nn cn, .slice ag ng cg, .slice ap np cp, .int .i64 p.tik.kind, .int .i64 p.tik.day, .int .i64 p.tik.min, .string p.rc, .slice ar nr cr, .slice A5 (placesF p.seats e.n e.pax).length c5, .bool p.queued]
    refine ret_ct Tryz.results54 hF9.r3 rfl rfl rfl rfl ?_
    have hO8 := (hown6.setCell (p := ⟨w.heap.size, 10, none⟩) (by simp; omega) (.slice A5 (placesF p.seats e.n e.pax).length c5)).setRow (g := w.heap.size + 1 + 1) (by omega) #[.string p.loc, .string p.off, .slice an nn cn, .slice ag ng cg, .slice ap np cp, .int .i64 p.tik.kind, .int .i64 p.tik.day, .int .i64 p.tik.min, .string p.rc, .slice ar nr cr, .slice A5 (placesF p.seats e.n e.pax).length c5, .bool p.queued]
    exact RetQ.mk' (q := { p with seats := placesF p.seats e.n e.pax }) (h' := (Hd.mk an nn cn ag ng cg ap np cp ar nr cr A5 (placesF p.seats e.n e.pax).length c5)) hfin.out (((HP.out.below hF9.B HB.out).mono fun b hb => .inl hb).withSeats (hO8.sls.mono fun b hb => .inr ⟨by omega, hb.2⟩)) hF9.B
end Go.Proofs.YtpgeoahlhdifoaaGreatDoor
