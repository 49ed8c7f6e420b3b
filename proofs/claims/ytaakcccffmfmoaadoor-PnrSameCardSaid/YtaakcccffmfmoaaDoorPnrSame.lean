/- PnrSame: the walk. -/
import Derived.Test.YtaakcccffmfmoaaDoorBoxes
import Derived.Test.YtaakcccffmfmoaaDoorCopied
import Derived.Test.YtaakcccffmfmoaaDoorLive
import Derived.Deep.RegionHeld3
namespace Go.Proofs.YtaakcccffmfmoaaDoor
set_option linter.unusedVariables false
open Go Go.RowKit
theorem BS.hd1 {w W : World} {x : Nat × Array Value} {L : List (Nat × Array Value)} (h : BS w (x :: L) W) : ∀ i : Nat, W.cell? ⟨x.1, i, none⟩ = x.2[i]? := h.1.2
theorem BS.lt1 {w W : World} {x : Nat × Array Value} {L : List (Nat × Array Value)} (h : BS w (x :: L) W) : x.1 < W.heap.size := h.1.1
theorem BS.tl1 {w W : World} {x : Nat × Array Value} {L : List (Nat × Array Value)} (h : BS w (x :: L) W) : BS w L W := h.2
theorem BS.three (w : World) (cs cs' cs'' : Array Value) (t t' t'' : TypeId) : BS w [(w.heap.size + 1 + 1, cs''), (w.heap.size + 1, cs'), (w.heap.size, cs)] (((w.alloc (.cells cs t)).alloc (.cells cs' t')).alloc (.cells cs'' t'')) := by
  have x := ((BS.alloc (w := w) (L := []) (Below.refl _ w) cs t).alloc cs' t').alloc cs'' t''
  simp only [World.size_alloc] at x
  exact x
set_option maxRecDepth 100000 in
set_option maxHeartbeats 8000000 in
theorem psm_early1 (p q : Pnr) (h g : Hd) (e : Edit) (w : World) (hsb : smallB h = false) :
    Calls Tryd.prog 8 #[.agg #[.string p.loc, .string p.off, .slice h.an h.nn h.cn, .slice h.ag h.ng h.cg, .slice h.ap h.np h.cp, .int .i64 p.tik.kind, .int .i64 p.tik.day, .int .i64 p.tik.min, .string p.rc, .slice h.ar h.nr h.cr, .slice h.ae h.ne h.ce, .bool p.queued], .agg #[.string q.loc, .string q.off, .slice g.an g.nn g.cn, .slice g.ag g.ng g.cg, .slice g.ap g.np g.cp, .int .i64 q.tik.kind, .int .i64 q.tik.day, .int .i64 q.tik.min, .string q.rc, .slice g.ar g.nr g.cr, .slice g.ae g.ne g.ce, .bool q.queued], .agg #[.int .i64 e.kind, .string e.nam.last, .string e.nam.first, .string e.seg.car, .int .i64 e.seg.num, .int .i64 e.seg.day, .int .u8 e.seg.cls, .bool e.seg.live, .int .i64 e.tik.kind, .int .i64 e.tik.day, .int .i64 e.tik.min, .string e.text, .int .i64 e.n, .int .i64 e.pax, .int .i64 e.row, .int .u8 e.let_]] w (RetB w true) := by
  have H0 := BS.three w #[.string p.loc, .string p.off, .slice h.an h.nn h.cn, .slice h.ag h.ng h.cg, .slice h.ap h.np h.cp, .int .i64 p.tik.kind, .int .i64 p.tik.day, .int .i64 p.tik.min, .string p.rc, .slice h.ar h.nr h.cr, .slice h.ae h.ne h.ce, .bool p.queued] #[.string q.loc, .string q.off, .slice g.an g.nn g.cn, .slice g.ag g.ng g.cg, .slice g.ap g.np g.cp, .int .i64 q.tik.kind, .int .i64 q.tik.day, .int .i64 q.tik.min, .string q.rc, .slice g.ar g.nr g.cr, .slice g.ae g.ne g.ce, .bool q.queued] #[.int .i64 e.kind, .string e.nam.last, .string e.nam.first, .string e.seg.car, .int .i64 e.seg.num, .int .i64 e.seg.day, .int .u8 e.seg.cls, .bool e.seg.live, .int .i64 e.tik.kind, .int .i64 e.tik.day, .int .i64 e.tik.min, .string e.text, .int .i64 e.n, .int .i64 e.pax, .int .i64 e.row, .int .u8 e.let_] 29 29 49
  go_enter Tryd.func8, Tryd.ntmps8
  have HI1 := Lib.hid H0
  go_wp2_with fail
  refine (awake12_any _).mono ?_
  rintro en w1 ⟨rfl, hb1⟩
  have GG := HI1.out.step hb1
  have HI2 := Lib.hid GG
  clear H0 HI1
  obtain ⟨⟨z2, x2⟩, ⟨z1, x1⟩, ⟨z0, x0⟩, _⟩ := GG
  dsimp only at z0 x0 z1 x1 z2 x2
  go_wp2_with fail
  refine (small_any p h _).mono ?_
  rintro en w2 ⟨rfl, hb2⟩
  have GG := HI2.out.step hb2
  rw [hsb]
  go_wp2
  go_ret
  exact ⟨rfl, GG.B⟩
set_option maxRecDepth 100000 in
set_option maxHeartbeats 8000000 in
theorem psm_early2 (p q : Pnr) (h g : Hd) (e : Edit) (w : World) (hsb : smallB h = true) (hsc : smallB g = false) :
    Calls Tryd.prog 8 #[.agg #[.string p.loc, .string p.off, .slice h.an h.nn h.cn, .slice h.ag h.ng h.cg, .slice h.ap h.np h.cp, .int .i64 p.tik.kind, .int .i64 p.tik.day, .int .i64 p.tik.min, .string p.rc, .slice h.ar h.nr h.cr, .slice h.ae h.ne h.ce, .bool p.queued], .agg #[.string q.loc, .string q.off, .slice g.an g.nn g.cn, .slice g.ag g.ng g.cg, .slice g.ap g.np g.cp, .int .i64 q.tik.kind, .int .i64 q.tik.day, .int .i64 q.tik.min, .string q.rc, .slice g.ar g.nr g.cr, .slice g.ae g.ne g.ce, .bool q.queued], .agg #[.int .i64 e.kind, .string e.nam.last, .string e.nam.first, .string e.seg.car, .int .i64 e.seg.num, .int .i64 e.seg.day, .int .u8 e.seg.cls, .bool e.seg.live, .int .i64 e.tik.kind, .int .i64 e.tik.day, .int .i64 e.tik.min, .string e.text, .int .i64 e.n, .int .i64 e.pax, .int .i64 e.row, .int .u8 e.let_]] w (RetB w true) := by
  have H0 := BS.three w #[.string p.loc, .string p.off, .slice h.an h.nn h.cn, .slice h.ag h.ng h.cg, .slice h.ap h.np h.cp, .int .i64 p.tik.kind, .int .i64 p.tik.day, .int .i64 p.tik.min, .string p.rc, .slice h.ar h.nr h.cr, .slice h.ae h.ne h.ce, .bool p.queued] #[.string q.loc, .string q.off, .slice g.an g.nn g.cn, .slice g.ag g.ng g.cg, .slice g.ap g.np g.cp, .int .i64 q.tik.kind, .int .i64 q.tik.day, .int .i64 q.tik.min, .string q.rc, .slice g.ar g.nr g.cr, .slice g.ae g.ne g.ce, .bool q.queued] #[.int .i64 e.kind, .string e.nam.last, .string e.nam.first, .string e.seg.car, .int .i64 e.seg.num, .int .i64 e.seg.day, .int .u8 e.seg.cls, .bool e.seg.live, .int .i64 e.tik.kind, .int .i64 e.tik.day, .int .i64 e.tik.min, .string e.text, .int .i64 e.n, .int .i64 e.pax, .int .i64 e.row, .int .u8 e.let_] 29 29 49
  go_enter Tryd.func8, Tryd.ntmps8
  have HI1 := Lib.hid H0
  go_wp2_with fail
  refine (awake12_any _).mono ?_
  rintro en w1 ⟨rfl, hb1⟩
  have GG := HI1.out.step hb1
  have HI2 := Lib.hid GG
  clear H0 HI1
  obtain ⟨⟨z2, x2⟩, ⟨z1, x1⟩, ⟨z0, x0⟩, _⟩ := GG
  dsimp only at z0 x0 z1 x1 z2 x2
  go_wp2_with fail
  refine (small_any p h _).mono ?_
  rintro en w2 ⟨rfl, hb2⟩
  have GG := HI2.out.step hb2
  have HI3 := Lib.hid GG
  rw [hsb]
  clear HI2 z0 x0 z1 x1 z2 x2
  obtain ⟨⟨z2, x2⟩, ⟨z1, x1⟩, ⟨z0, x0⟩, _⟩ := GG
  dsimp only at z0 x0 z1 x1 z2 x2
  go_wp2_with fail
  refine (small_any q g _).mono ?_
  rintro en w3 ⟨rfl, hb3⟩
  have GG := HI3.out.step hb3
  rw [hsc]
  go_wp2
  go_ret
  exact ⟨rfl, GG.B⟩
set_option maxRecDepth 100000 in
set_option maxHeartbeats 8000000 in
theorem psm_main (p q : Pnr) (h g : Hd) (e : Edit) (w : World) (hp : PAt w 0 w.heap.size p h) (hc : Caps h) (hq : PAt w 0 w.heap.size q g) (he : e.ok) (hsb : smallB h = true) (hsc : smallB g = true) :
    Calls Tryd.prog 8 #[.agg #[.string p.loc, .string p.off, .slice h.an h.nn h.cn, .slice h.ag h.ng h.cg, .slice h.ap h.np h.cp, .int .i64 p.tik.kind, .int .i64 p.tik.day, .int .i64 p.tik.min, .string p.rc, .slice h.ar h.nr h.cr, .slice h.ae h.ne h.ce, .bool p.queued], .agg #[.string q.loc, .string q.off, .slice g.an g.nn g.cn, .slice g.ag g.ng g.cg, .slice g.ap g.np g.cp, .int .i64 q.tik.kind, .int .i64 q.tik.day, .int .i64 q.tik.min, .string q.rc, .slice g.ar g.nr g.cr, .slice g.ae g.ne g.ce, .bool q.queued], .agg #[.int .i64 e.kind, .string e.nam.last, .string e.nam.first, .string e.seg.car, .int .i64 e.seg.num, .int .i64 e.seg.day, .int .u8 e.seg.cls, .bool e.seg.live, .int .i64 e.tik.kind, .int .i64 e.tik.day, .int .i64 e.tik.min, .string e.text, .int .i64 e.n, .int .i64 e.pax, .int .i64 e.row, .int .u8 e.let_]] w (RetB w true) := by
  have HP := Lib.hid hp
  have HPS := Lib.hid (hp.ps hc)
  have HQ := Lib.hid hq
  have hps := smallB_pnr hsb hp
  have HSM := Lib.hid (hps.mono (show 200 ≤ 100000 by omega))
  have HSh := Lib.hid (HSM.out.hd hp)
  have HSg := Lib.hid (((smallB_pnr hsc hq).mono (show 200 ≤ 100000 by omega)).hd hq)
  have HRS := Lib.hid ((applyF_small (e := e) hps).mono (show 200 + 1 ≤ 100000 by omega))
  have HLV := Lib.hid (fun (W : World) (hb : Below w.heap.size w W) => live_any p h W 0 w.heap.size (HP.out.below hb (Nat.le_refl _)) HSh.out.ng hb.size)
  have HRL := Lib.hid (fun (W : World) (hb : Below w.heap.size w W) => rlive_any p h W 0 w.heap.size (HP.out.below hb (Nat.le_refl _)) HSh.out.ng hb.size)
  have HPQ := Lib.hid (fun (W : World) (hb : Below w.heap.size w W) => psame_any p q h g W 0 w.heap.size 0 w.heap.size (HP.out.below hb (Nat.le_refl _)) (HQ.out.below hb (Nat.le_refl _)) HSh.out HSg.out hb.size hb.size)
  have HRQ := Lib.hid (fun (W : World) (hb : Below w.heap.size w W) => rsame_any p q h g W 0 w.heap.size 0 w.heap.size (HP.out.below hb (Nat.le_refl _)) (HQ.out.below hb (Nat.le_refl _)) HSh.out HSg.out hb.size hb.size)
  have HCP := Lib.hid (fun (W : World) (hb : Below w.heap.size w W) => lcopied_any p h W (fun b => 0 ≤ b ∧ b < w.heap.size) (HPS.out.below hb (fun b hb => hb.2)) (fun b hb2 => by have := hb.size; omega) HSM.out)
  have hcc := (fun (W : World) (h1 : Hd) (B : Nat) (hb : Below w.heap.size w W) (o : OP W B p h1) => psame_any p p h1 h W B W.heap.size 0 w.heap.size o.at (HP.out.below hb (Nat.le_refl _)) (o.hd HSM.out) HSh.out (Nat.le_refl _) hb.size)
  simp only [eq_self, decide_true] at hcc
  have HCC := Lib.hid hcc
  clear hcc
  have HA := Lib.hid (fun (W : World) (hb : Below w.heap.size w W) => rapply_any p h e W (fun b => 0 ≤ b ∧ b < w.heap.size) (HPS.out.below hb (fun b hb => hb.2)) (fun b hb2 => by have := hb.size; omega) HSM.out he)
  generalize applyF p e = r at HRS HA
  obtain ⟨r, f⟩ := r
  dsimp only at HRS
  have HSR := Lib.hid (fun (W : World) (h1 : Hd) (k : Nat) (hb : Below w.heap.size w W) (o : PAt W 0 k r h1) (hk : k ≤ W.heap.size) => psame_any p r h h1 W 0 w.heap.size 0 k (HP.out.below hb (Nat.le_refl _)) o HSh.out (HRS.out.hd o) hb.size hk)
  have HRR := Lib.hid (fun (W : World) (h1 : Hd) (k : Nat) (hb : Below w.heap.size w W) (o : PAt W 0 k r h1) (hk : k ≤ W.heap.size) => rsame_any p r h h1 W 0 w.heap.size 0 k (HP.out.below hb (Nat.le_refl _)) o HSh.out (HRS.out.hd o) hb.size hk)
  generalize decide (p = q) = bq at HPQ HRQ
  generalize decide (p = r) = br at HSR HRR
  have hll : (liveF 0 p.segs).length ≤ 100000 := by
    have h1 := liveF_len p.segs 0
    have h2 := HSM.out.segs
    omega
  generalize liveF 0 p.segs = l at HLV HRL hll
  clear hp hc hq he hps
  have H0 := BS.three w #[.string p.loc, .string p.off, .slice h.an h.nn h.cn, .slice h.ag h.ng h.cg, .slice h.ap h.np h.cp, .int .i64 p.tik.kind, .int .i64 p.tik.day, .int .i64 p.tik.min, .string p.rc, .slice h.ar h.nr h.cr, .slice h.ae h.ne h.ce, .bool p.queued] #[.string q.loc, .string q.off, .slice g.an g.nn g.cn, .slice g.ag g.ng g.cg, .slice g.ap g.np g.cp, .int .i64 q.tik.kind, .int .i64 q.tik.day, .int .i64 q.tik.min, .string q.rc, .slice g.ar g.nr g.cr, .slice g.ae g.ne g.ce, .bool q.queued] #[.int .i64 e.kind, .string e.nam.last, .string e.nam.first, .string e.seg.car, .int .i64 e.seg.num, .int .i64 e.seg.day, .int .u8 e.seg.cls, .bool e.seg.live, .int .i64 e.tik.kind, .int .i64 e.tik.day, .int .i64 e.tik.min, .string e.text, .int .i64 e.n, .int .i64 e.pax, .int .i64 e.row, .int .u8 e.let_] 29 29 49
  go_enter Tryd.func8, Tryd.ntmps8
  have HI1 := Lib.hid H0
  go_wp2_with fail
  refine (awake12_any _).mono ?_
  rintro en w1 ⟨rfl, hb1⟩
  have GG := HI1.out.step hb1
  have HI2 := Lib.hid GG
  clear H0 HI1
  obtain ⟨⟨z2, x2⟩, ⟨z1, x1⟩, ⟨z0, x0⟩, _⟩ := GG
  dsimp only at z0 x0 z1 x1 z2 x2
  go_wp2_with fail
  refine (small_any p h _).mono ?_
  rintro en w2 ⟨rfl, hb2⟩
  have GG := HI2.out.step hb2
  have HI3 := Lib.hid GG
  rw [hsb]
  clear HI2 z0 x0 z1 x1 z2 x2
  obtain ⟨⟨z2, x2⟩, ⟨z1, x1⟩, ⟨z0, x0⟩, _⟩ := GG
  dsimp only at z0 x0 z1 x1 z2 x2
  go_wp2_with fail
  refine (small_any q g _).mono ?_
  rintro en w3 ⟨rfl, hb3⟩
  have GG := HI3.out.step hb3
  rw [hsc]
  clear HI3 z0 x0 z1 x1 z2 x2
  go_upto_region 5 with fail
  refine wp_world (fun W => BS w [(w.heap.size + 1 + 1, #[.int .i64 e.kind, .string e.nam.last, .string e.nam.first, .string e.seg.car, .int .i64 e.seg.num, .int .i64 e.seg.day, .int .u8 e.seg.cls, .bool e.seg.live, .int .i64 e.tik.kind, .int .i64 e.tik.day, .int .i64 e.tik.min, .string e.text, .int .i64 e.n, .int .i64 e.pax, .int .i64 e.row, .int .u8 e.let_]), (w.heap.size + 1, #[.string q.loc, .string q.off, .slice g.an g.nn g.cn, .slice g.ag g.ng g.cg, .slice g.ap g.np g.cp, .int .i64 q.tik.kind, .int .i64 q.tik.day, .int .i64 q.tik.min, .string q.rc, .slice g.ar g.nr g.cr, .slice g.ae g.ne g.ce, .bool q.queued]), (w.heap.size, #[.string p.loc, .string p.off, .slice h.an h.nn h.cn, .slice h.ag h.ng h.cg, .slice h.ap h.np h.cp, .int .i64 p.tik.kind, .int .i64 p.tik.day, .int .i64 p.tik.min, .string p.rc, .slice h.ar h.nr h.cr, .slice h.ae h.ne h.ce, .bool p.queued])] W) GG ?_
  clear GG
  rintro W HX
  have x0 := HX.tl1.tl1.hd1
  have z0 := HX.tl1.tl1.lt1
  dsimp only at x0 z0
  have HD : Hid (BS w [(w.heap.size + 1 + 1, #[.int .i64 e.kind, .string e.nam.last, .string e.nam.first, .string e.seg.car, .int .i64 e.seg.num, .int .i64 e.seg.day, .int .u8 e.seg.cls, .bool e.seg.live, .int .i64 e.tik.kind, .int .i64 e.tik.day, .int .i64 e.tik.min, .string e.text, .int .i64 e.n, .int .i64 e.pax, .int .i64 e.row, .int .u8 e.let_]), (w.heap.size + 1, #[.string q.loc, .string q.off, .slice g.an g.nn g.cn, .slice g.ag g.ng g.cg, .slice g.ap g.np g.cp, .int .i64 q.tik.kind, .int .i64 q.tik.day, .int .i64 q.tik.min, .string q.rc, .slice g.ar g.nr g.cr, .slice g.ae g.ne g.ce, .bool q.queued]), (w.heap.size, #[.string p.loc, .string p.off, .slice h.an h.nn h.cn, .slice h.ag h.ng h.cg, .slice h.ap h.np h.cp, .int .i64 p.tik.kind, .int .i64 p.tik.day, .int .i64 p.tik.min, .string p.rc, .slice h.ar h.nr h.cr, .slice h.ae h.ne h.ce, .bool p.queued])] W.drew) := HX.step ((Below.refl _ _).drew)
  go_region_held3 (fun w' => ∀ i : Nat, w'.cell? ⟨w.heap.size, i, none⟩ = (#[.string p.loc, .string p.off, .slice h.an h.nn h.cn, .slice h.ag h.ng h.cg, .slice h.ap h.np h.cp, .int .i64 p.tik.kind, .int .i64 p.tik.day, .int .i64 p.tik.min, .string p.rc, .slice h.ar h.nr h.cr, .slice h.ae h.ne h.ce, .bool p.queued] : Array Value)[i]?) (first | (with_reducible exact x0) | (with_reducible exact HR.out.tl1.tl1.hd1) | (with_reducible exact HL.out.tl1.tl1.hd1) | (with_reducible exact HD.out.tl1.tl1.hd1))
    (first | (go_at_call 30; refine (HLV.out _ HD.out.B).mono ?_; rintro en wL ⟨A, c, rfl, hownL, hbL⟩; have HL := Lib.hid (HD.out.step hbL)) | (go_at_call 31; refine (HRL.out _ HL.out.B).mono ?_; rintro en wR ⟨A', c', rfl, hownR, hbR⟩; have HR := Lib.hid (HL.out.step hbR)))
  go_upto_region 6 with fail
  refine wp_world (fun W => BS w [(w.heap.size + 1 + 1, #[.int .i64 e.kind, .string e.nam.last, .string e.nam.first, .string e.seg.car, .int .i64 e.seg.num, .int .i64 e.seg.day, .int .u8 e.seg.cls, .bool e.seg.live, .int .i64 e.tik.kind, .int .i64 e.tik.day, .int .i64 e.tik.min, .string e.text, .int .i64 e.n, .int .i64 e.pax, .int .i64 e.row, .int .u8 e.let_]), (w.heap.size + 1, #[.string q.loc, .string q.off, .slice g.an g.nn g.cn, .slice g.ag g.ng g.cg, .slice g.ap g.np g.cp, .int .i64 q.tik.kind, .int .i64 q.tik.day, .int .i64 q.tik.min, .string q.rc, .slice g.ar g.nr g.cr, .slice g.ae g.ne g.ce, .bool q.queued]), (w.heap.size, #[.string p.loc, .string p.off, .slice h.an h.nn h.cn, .slice h.ag h.ng h.cg, .slice h.ap h.np h.cp, .int .i64 p.tik.kind, .int .i64 p.tik.day, .int .i64 p.tik.min, .string p.rc, .slice h.ar h.nr h.cr, .slice h.ae h.ne h.ce, .bool p.queued])] W ∧ Own W 0 3 tInt (.slice A l.length c) l ∧ Own W 0 3 tInt (.slice A' l.length c') l) ⟨HR.out, (hownL.keep hbR).more (Nat.zero_le _), hownR.more (Nat.zero_le _)⟩ ?_
  clear HR HL HD HX x0 z0 hownL hownR hbL hbR
  rintro W ⟨HX, oa, ob⟩
  go_wp2
  go_loopw [9] (fun i wr => ∃ k : Nat, k ≤ l.length ∧ i = .int .i64 k ∧ BS w [(w.heap.size + 1 + 1, #[.int .i64 e.kind, .string e.nam.last, .string e.nam.first, .string e.seg.car, .int .i64 e.seg.num, .int .i64 e.seg.day, .int .u8 e.seg.cls, .bool e.seg.live, .int .i64 e.tik.kind, .int .i64 e.tik.day, .int .i64 e.tik.min, .string e.text, .int .i64 e.n, .int .i64 e.pax, .int .i64 e.row, .int .u8 e.let_]), (w.heap.size + 1, #[.string q.loc, .string q.off, .slice g.an g.nn g.cn, .slice g.ag g.ng g.cg, .slice g.ap g.np g.cp, .int .i64 q.tik.kind, .int .i64 q.tik.day, .int .i64 q.tik.min, .string q.rc, .slice g.ar g.nr g.cr, .slice g.ae g.ne g.ce, .bool q.queued]), (w.heap.size, #[.string p.loc, .string p.off, .slice h.an h.nn h.cn, .slice h.ag h.ng h.cg, .slice h.ap h.np h.cp, .int .i64 p.tik.kind, .int .i64 p.tik.day, .int .i64 p.tik.min, .string p.rc, .slice h.ar h.nr h.cr, .slice h.ae h.ne h.ce, .bool p.queued])] wr ∧ Own wr 0 3 tInt (.slice A l.length c) l ∧ Own wr 0 3 tInt (.slice A' l.length c') l) (fun i _ => l.length - (intOf i).toNat)
  case atStart => exact ⟨0, Nat.zero_le _, rfl, HX, oa, ob⟩
  case round =>
    clear HX oa ob
    obtain ⟨k, hk, rfl, HX, oa, ob⟩ := hrel
    by_cases hlt : k < l.length
    · obtain ⟨b, o, x, rfl, g1, g2, hx, hok, c0⟩ := oa.sl.int_ hlt
      obtain ⟨b', o', y, rfl, g1', g2', hy, hok', d0⟩ := ob.sl.int_ hlt
      have hxy := hy.out.symm.trans hx.out
      injection hxy with hxy
      subst hxy
      have hk0 : (0 : Int) ≤ k := by omega
      have hkl : (k : Int) < l.length := by omega
      clear hx hy
      go_wp2
      go_quiet (fail)
      go_wp2
      go_roundw
      case rel => exact ⟨k + 1, by omega, by go_num, HX.step (by (repeat (first | with_reducible exact Below.refl _ _ | (with_reducible refine Below.drew ?_) | (with_reducible refine below_drewN ?_ _) | (with_reducible refine Below.alloc ?_ (by first | (simp; done) | omega | (simp; omega)) _) | (with_reducible refine Below.setCell ?_ (by first | (simp; done) | omega | (simp; omega)) _) | with_reducible assumption))), oa.keep (by (repeat (first | with_reducible exact Below.refl _ _ | (with_reducible refine Below.drew ?_) | (with_reducible refine below_drewN ?_ _) | (with_reducible refine Below.alloc ?_ (by first | (simp; done) | omega | (simp; omega)) _) | (with_reducible refine Below.setCell ?_ (by first | (simp; done) | omega | (simp; omega)) _) | with_reducible assumption))), ob.keep (by (repeat (first | with_reducible exact Below.refl _ _ | (with_reducible refine Below.drew ?_) | (with_reducible refine below_drewN ?_ _) | (with_reducible refine Below.alloc ?_ (by first | (simp; done) | omega | (simp; omega)) _) | (with_reducible refine Below.setCell ?_ (by first | (simp; done) | omega | (simp; omega)) _) | with_reducible assumption)))⟩
      case measure => simp [intOf]; omega
    · obtain rfl : l.length = k := by omega
      clear oa ob hk hlt
      have HI4 := Lib.hid HX
      obtain ⟨⟨z2, x2⟩, ⟨z1, x1⟩, ⟨z0, x0⟩, _⟩ := HX
      dsimp only at z0 x0 z1 x1 z2 x2
      go_wp2_with fail
      refine (HA.out _ HI4.out.B).mono ?_
      rintro en w4 ⟨h4, rfl, hP4, hb4⟩
      have GG := HI4.out.step hb4
      have hQ := PS.at (lo := 0) (hi := w4.heap.size) hP4 fun b hb => by
        have := HI4.out.B.size
        have := hb4.size
        rcases hb with hb | hb <;> omega
      dsimp only at hQ
      clear hP4 HI4 z0 x0 z1 x1 z2 x2
      have G1 := GG.alloc #[.string r.loc, .string r.off, .slice h4.an h4.nn h4.cn, .slice h4.ag h4.ng h4.cg, .slice h4.ap h4.np h4.cp, .int .i64 r.tik.kind, .int .i64 r.tik.day, .int .i64 r.tik.min, .string r.rc, .slice h4.ar h4.nr h4.cr, .slice h4.ae h4.ne h4.ce, .bool r.queued] 29
      have hQ1 := hQ.alloc (Nat.le_refl _) (.cells #[.string r.loc, .string r.off, .slice h4.an h4.nn h4.cn, .slice h4.ag h4.ng h4.cg, .slice h4.ap h4.np h4.cp, .int .i64 r.tik.kind, .int .i64 r.tik.day, .int .i64 r.tik.min, .string r.rc, .slice h4.ar h4.nr h4.cr, .slice h4.ae h4.ne h4.ce, .bool r.queued] 29)
      have hz4 : w.heap.size < w4.heap.size := GG.tl1.tl1.lt1
      clear GG hQ hb4
      go_upto_region 14 with fail
      refine wp_world (fun W => BS w [(w4.heap.size, #[.string r.loc, .string r.off, .slice h4.an h4.nn h4.cn, .slice h4.ag h4.ng h4.cg, .slice h4.ap h4.np h4.cp, .int .i64 r.tik.kind, .int .i64 r.tik.day, .int .i64 r.tik.min, .string r.rc, .slice h4.ar h4.nr h4.cr, .slice h4.ae h4.ne h4.ce, .bool r.queued]), (w.heap.size + 1 + 1, #[.int .i64 e.kind, .string e.nam.last, .string e.nam.first, .string e.seg.car, .int .i64 e.seg.num, .int .i64 e.seg.day, .int .u8 e.seg.cls, .bool e.seg.live, .int .i64 e.tik.kind, .int .i64 e.tik.day, .int .i64 e.tik.min, .string e.text, .int .i64 e.n, .int .i64 e.pax, .int .i64 e.row, .int .u8 e.let_]), (w.heap.size + 1, #[.string q.loc, .string q.off, .slice g.an g.nn g.cn, .slice g.ag g.ng g.cg, .slice g.ap g.np g.cp, .int .i64 q.tik.kind, .int .i64 q.tik.day, .int .i64 q.tik.min, .string q.rc, .slice g.ar g.nr g.cr, .slice g.ae g.ne g.ce, .bool q.queued]), (w.heap.size, #[.string p.loc, .string p.off, .slice h.an h.nn h.cn, .slice h.ag h.ng h.cg, .slice h.ap h.np h.cp, .int .i64 p.tik.kind, .int .i64 p.tik.day, .int .i64 p.tik.min, .string p.rc, .slice h.ar h.nr h.cr, .slice h.ae h.ne h.ce, .bool p.queued])] W ∧ PAt W 0 w4.heap.size r h4) ⟨G1, hQ1⟩ ?_
      clear G1 hQ1
      generalize w4.heap.size = g4 at hz4 ⊢
      rintro W ⟨HX, hR⟩
      have x4 := HX.hd1
      have z4 := HX.lt1
      have x0 := HX.tl1.tl1.tl1.hd1
      have z0 := HX.tl1.tl1.tl1.lt1
      dsimp only at x0 z0 x4 z4
      have HD : Hid (BS w [(g4, #[.string r.loc, .string r.off, .slice h4.an h4.nn h4.cn, .slice h4.ag h4.ng h4.cg, .slice h4.ap h4.np h4.cp, .int .i64 r.tik.kind, .int .i64 r.tik.day, .int .i64 r.tik.min, .string r.rc, .slice h4.ar h4.nr h4.cr, .slice h4.ae h4.ne h4.ce, .bool r.queued]), (w.heap.size + 1 + 1, #[.int .i64 e.kind, .string e.nam.last, .string e.nam.first, .string e.seg.car, .int .i64 e.seg.num, .int .i64 e.seg.day, .int .u8 e.seg.cls, .bool e.seg.live, .int .i64 e.tik.kind, .int .i64 e.tik.day, .int .i64 e.tik.min, .string e.text, .int .i64 e.n, .int .i64 e.pax, .int .i64 e.row, .int .u8 e.let_]), (w.heap.size + 1, #[.string q.loc, .string q.off, .slice g.an g.nn g.cn, .slice g.ag g.ng g.cg, .slice g.ap g.np g.cp, .int .i64 q.tik.kind, .int .i64 q.tik.day, .int .i64 q.tik.min, .string q.rc, .slice g.ar g.nr g.cr, .slice g.ae g.ne g.ce, .bool q.queued]), (w.heap.size, #[.string p.loc, .string p.off, .slice h.an h.nn h.cn, .slice h.ag h.ng h.cg, .slice h.ap h.np h.cp, .int .i64 p.tik.kind, .int .i64 p.tik.day, .int .i64 p.tik.min, .string p.rc, .slice h.ar h.nr h.cr, .slice h.ae h.ne h.ce, .bool p.queued])] W.drew) := HX.step ((Below.refl _ _).drew)
      have HRD : Hid (PAt W.drew 0 g4 r h4) := hR.below ((Below.refl _ _).drew) (Nat.le_of_lt z4)
      go_cut [62] (fun s w' => s = .bool false ∧ BS w [(g4, #[.string r.loc, .string r.off, .slice h4.an h4.nn h4.cn, .slice h4.ag h4.ng h4.cg, .slice h4.ap h4.np h4.cp, .int .i64 r.tik.kind, .int .i64 r.tik.day, .int .i64 r.tik.min, .string r.rc, .slice h4.ar h4.nr h4.cr, .slice h4.ae h4.ne h4.ce, .bool r.queued]), (w.heap.size + 1 + 1, #[.int .i64 e.kind, .string e.nam.last, .string e.nam.first, .string e.seg.car, .int .i64 e.seg.num, .int .i64 e.seg.day, .int .u8 e.seg.cls, .bool e.seg.live, .int .i64 e.tik.kind, .int .i64 e.tik.day, .int .i64 e.tik.min, .string e.text, .int .i64 e.n, .int .i64 e.pax, .int .i64 e.row, .int .u8 e.let_]), (w.heap.size + 1, #[.string q.loc, .string q.off, .slice g.an g.nn g.cn, .slice g.ag g.ng g.cg, .slice g.ap g.np g.cp, .int .i64 q.tik.kind, .int .i64 q.tik.day, .int .i64 q.tik.min, .string q.rc, .slice g.ar g.nr g.cr, .slice g.ae g.ne g.ce, .bool q.queued]), (w.heap.size, #[.string p.loc, .string p.off, .slice h.an h.nn h.cn, .slice h.ag h.ng h.cg, .slice h.ap h.np h.cp, .int .i64 p.tik.kind, .int .i64 p.tik.day, .int .i64 p.tik.min, .string p.rc, .slice h.ar h.nr h.cr, .slice h.ae h.ne h.ce, .bool p.queued])] w')
      case first =>
        by_cases hf : f = 0
        · have hf1 : (f == 0) = true := beq_iff_eq.2 hf
          clear hf
          rcases br with _ | _
          all_goals
            go_region_held3 (fun w' => (∀ i : Nat, w'.cell? ⟨w.heap.size, i, none⟩ = (#[.string p.loc, .string p.off, .slice h.an h.nn h.cn, .slice h.ag h.ng h.cg, .slice h.ap h.np h.cp, .int .i64 p.tik.kind, .int .i64 p.tik.day, .int .i64 p.tik.min, .string p.rc, .slice h.ar h.nr h.cr, .slice h.ae h.ne h.ce, .bool p.queued] : Array Value)[i]?) ∧ (∀ i : Nat, w'.cell? ⟨g4, i, none⟩ = (#[.string r.loc, .string r.off, .slice h4.an h4.nn h4.cn, .slice h4.ag h4.ng h4.cg, .slice h4.ap h4.np h4.cp, .int .i64 r.tik.kind, .int .i64 r.tik.day, .int .i64 r.tik.min, .string r.rc, .slice h4.ar h4.nr h4.cr, .slice h4.ae h4.ne h4.ce, .bool r.queued] : Array Value)[i]?)) (first | (with_reducible exact ⟨x0, x4⟩) | (with_reducible exact ⟨HR.out.tl1.tl1.tl1.hd1, HR.out.hd1⟩) | (with_reducible exact ⟨HL.out.tl1.tl1.tl1.hd1, HL.out.hd1⟩) | (with_reducible exact ⟨HD.out.tl1.tl1.tl1.hd1, HD.out.hd1⟩))
              (first | (go_at_call 32; refine (HSR.out _ h4 g4 HD.out.B HRD.out (Nat.le_of_lt HD.out.lt1)).mono ?_; rintro en wL ⟨rfl, hbL⟩; have HL := Lib.hid (HD.out.step hbL); have HRL2 := Lib.hid (HRD.out.below hbL (Nat.le_of_lt HD.out.lt1))) | (go_at_call 26; refine (HRR.out _ h4 g4 HL.out.B HRL2.out (Nat.le_of_lt HL.out.lt1)).mono ?_; rintro en wR ⟨rfl, hbR⟩; have HR := Lib.hid (HL.out.step hbR)))
            go_wp2
            go_meet
            exact ⟨rfl, HR.out⟩
        · have hf1 : (f == 0) = false := beq_eq_false_iff_ne.2 hf
          clear hf
          go_quiet (fail)
          go_wp2
          go_meet
          exact ⟨rfl, HX.step (by (repeat (first | with_reducible exact Below.refl _ _ | (with_reducible refine Below.drew ?_) | (with_reducible refine below_drewN ?_ _) | (with_reducible refine Below.alloc ?_ (by first | (simp; done) | omega | (simp; omega)) _) | (with_reducible refine Below.setCell ?_ (by first | (simp; done) | omega | (simp; omega)) _) | with_reducible assumption)))⟩
      case rest =>
        obtain ⟨rfl, HX⟩ := hcut
        clear x0 z0 x4 z4 hR HD HRD
        go_wp2
        have x0 := HX.tl1.tl1.tl1.hd1
        have z0 := HX.tl1.tl1.tl1.lt1
        have x1 := HX.tl1.tl1.hd1
        have z1 := HX.tl1.tl1.lt1
        dsimp only at x0 z0 x1 z1
        have HD : Hid (BS w [(g4, #[.string r.loc, .string r.off, .slice h4.an h4.nn h4.cn, .slice h4.ag h4.ng h4.cg, .slice h4.ap h4.np h4.cp, .int .i64 r.tik.kind, .int .i64 r.tik.day, .int .i64 r.tik.min, .string r.rc, .slice h4.ar h4.nr h4.cr, .slice h4.ae h4.ne h4.ce, .bool r.queued]), (w.heap.size + 1 + 1, #[.int .i64 e.kind, .string e.nam.last, .string e.nam.first, .string e.seg.car, .int .i64 e.seg.num, .int .i64 e.seg.day, .int .u8 e.seg.cls, .bool e.seg.live, .int .i64 e.tik.kind, .int .i64 e.tik.day, .int .i64 e.tik.min, .string e.text, .int .i64 e.n, .int .i64 e.pax, .int .i64 e.row, .int .u8 e.let_]), (w.heap.size + 1, #[.string q.loc, .string q.off, .slice g.an g.nn g.cn, .slice g.ag g.ng g.cg, .slice g.ap g.np g.cp, .int .i64 q.tik.kind, .int .i64 q.tik.day, .int .i64 q.tik.min, .string q.rc, .slice g.ar g.nr g.cr, .slice g.ae g.ne g.ce, .bool q.queued]), (w.heap.size, #[.string p.loc, .string p.off, .slice h.an h.nn h.cn, .slice h.ag h.ng h.cg, .slice h.ap h.np h.cp, .int .i64 p.tik.kind, .int .i64 p.tik.day, .int .i64 p.tik.min, .string p.rc, .slice h.ar h.nr h.cr, .slice h.ae h.ne h.ce, .bool p.queued])] wc.drew) := HX.step ((Below.refl _ _).drew)
        have tok1 : True := trivial
        rcases bq with _ | _
        all_goals
          go_region_held3 (fun w' => (∀ i : Nat, w'.cell? ⟨w.heap.size, i, none⟩ = (#[.string p.loc, .string p.off, .slice h.an h.nn h.cn, .slice h.ag h.ng h.cg, .slice h.ap h.np h.cp, .int .i64 p.tik.kind, .int .i64 p.tik.day, .int .i64 p.tik.min, .string p.rc, .slice h.ar h.nr h.cr, .slice h.ae h.ne h.ce, .bool p.queued] : Array Value)[i]?) ∧ (∀ i : Nat, w'.cell? ⟨w.heap.size + 1, i, none⟩ = (#[.string q.loc, .string q.off, .slice g.an g.nn g.cn, .slice g.ag g.ng g.cg, .slice g.ap g.np g.cp, .int .i64 q.tik.kind, .int .i64 q.tik.day, .int .i64 q.tik.min, .string q.rc, .slice g.ar g.nr g.cr, .slice g.ae g.ne g.ce, .bool q.queued] : Array Value)[i]?)) (first | (with_reducible exact ⟨x0, x1⟩) | (with_reducible exact ⟨H4.out.tl1.tl1.tl1.hd1, H4.out.tl1.tl1.hd1⟩) | (with_reducible exact ⟨H3.out.tl1.tl1.tl1.hd1, H3.out.tl1.tl1.hd1⟩) | (with_reducible exact ⟨H2.out.tl1.tl1.tl1.hd1, H2.out.tl1.tl1.hd1⟩) | (with_reducible exact ⟨H1.out.tl1.tl1.tl1.hd1, H1.out.tl1.tl1.hd1⟩) | (with_reducible exact ⟨HD.out.tl1.tl1.tl1.hd1, HD.out.tl1.tl1.hd1⟩))
            (first | (go_at_call 32; have _t := tok1; refine (HPQ.out _ HD.out.B).mono ?_; rintro en v1 ⟨rfl, hv1⟩; have H1 := Lib.hid (HD.out.step hv1); clear tok1) | (go_at_call 26; refine (HRQ.out _ H1.out.B).mono ?_; rintro en v2 ⟨rfl, hv2⟩; have H2 := Lib.hid (H1.out.step hv2)) | (go_at_call 24; refine (HCP.out _ H2.out.B).mono ?_; rintro en v3 ⟨h3, rfl, o3, hv3⟩; have H3 := Lib.hid (H2.out.step hv3)) | (go_at_call 32; refine (HCC.out _ h3 _ H3.out.B o3).mono ?_; rintro en v4 ⟨rfl, hv4⟩; have H4 := Lib.hid (H3.out.step hv4)))
          go_wp2
          go_ret
          exact ⟨rfl, H4.out.B⟩
theorem pnrSame_any (p q : Pnr) (h g : Hd) (e : Edit) (w : World) (hp : PAt w 0 w.heap.size p h) (hc : Caps h) (hq : PAt w 0 w.heap.size q g) (hcq : Caps g) (he : e.ok) :
    Calls Tryd.prog 8 #[.agg #[.string p.loc, .string p.off, .slice h.an h.nn h.cn, .slice h.ag h.ng h.cg, .slice h.ap h.np h.cp, .int .i64 p.tik.kind, .int .i64 p.tik.day, .int .i64 p.tik.min, .string p.rc, .slice h.ar h.nr h.cr, .slice h.ae h.ne h.ce, .bool p.queued], .agg #[.string q.loc, .string q.off, .slice g.an g.nn g.cn, .slice g.ag g.ng g.cg, .slice g.ap g.np g.cp, .int .i64 q.tik.kind, .int .i64 q.tik.day, .int .i64 q.tik.min, .string q.rc, .slice g.ar g.nr g.cr, .slice g.ae g.ne g.ce, .bool q.queued], .agg #[.int .i64 e.kind, .string e.nam.last, .string e.nam.first, .string e.seg.car, .int .i64 e.seg.num, .int .i64 e.seg.day, .int .u8 e.seg.cls, .bool e.seg.live, .int .i64 e.tik.kind, .int .i64 e.tik.day, .int .i64 e.tik.min, .string e.text, .int .i64 e.n, .int .i64 e.pax, .int .i64 e.row, .int .u8 e.let_]] w (RetB w true) := by
  rcases Bool.eq_false_or_eq_true (smallB h) with hsb | hsb
  case inr => exact psm_early1 p q h g e w hsb
  rcases Bool.eq_false_or_eq_true (smallB g) with hsc | hsc
  case inr => exact psm_early2 p q h g e w hsb hsc
  exact psm_main p q h g e w hp hc hq he hsb hsc
end Go.Proofs.YtaakcccffmfmoaaDoor
