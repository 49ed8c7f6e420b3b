/- The program's edits of a PNR, more kinds. -/
import Derived.Test.YtaakcccffmfmoaaDoorPnr4
namespace Go.Proofs.YtaakcccffmfmoaaDoor
set_option linter.unusedVariables false
open Go Go.RowKit
set_option maxRecDepth 100000 in
set_option maxHeartbeats 4000000 in
theorem pchange_4 (p : Pnr) (h : Hd) (e : Edit) (w : World) (B : Nat) (hp : OP w B p h) (hD : Ap h) (hB : B ≤ w.heap.size) (hs : p.small 100000) (he : e.ok) (hk : e.kind = 4) :
    Calls Tryd.prog 52 #[.agg #[.string p.loc, .string p.off, .slice h.an h.nn h.cn, .slice h.ag h.ng h.cg, .slice h.ap h.np h.cp, .int .i64 p.tik.kind, .int .i64 p.tik.day, .int .i64 p.tik.min, .string p.rc, .slice h.ar h.nr h.cr, .slice h.ae h.ne h.ce, .bool p.queued], .agg #[.int .i64 e.kind, .string e.nam.last, .string e.nam.first, .string e.seg.car, .int .i64 e.seg.num, .int .i64 e.seg.day, .int .u8 e.seg.cls, .bool e.seg.live, .int .i64 e.tik.kind, .int .i64 e.tik.day, .int .i64 e.tik.min, .string e.text, .int .i64 e.n, .int .i64 e.pax, .int .i64 e.row, .int .u8 e.let_]] w (RetO w B h (changeF p e)) := by
  have HS := Lib.hid (hp.hd hs)
  have HSM := Lib.hid hs
  have HE := Lib.hid he
  have HD := Lib.hid hD
  obtain ⟨e1, e2, e3, e4, e5, e6, e7, e8, e9⟩ := he
  obtain ⟨an, nn, cn, ag, ng, cg, ap, np, cp, ar, nr, cr, ae, ne, ce⟩ := h
  have hF := FO.start hp hB #[.string p.loc, .string p.off, .slice an nn cn, .slice ag ng cg, .slice ap np cp, .int .i64 p.tik.kind, .int .i64 p.tik.day, .int .i64 p.tik.min, .string p.rc, .slice ar nr cr, .slice ae ne ce, .bool p.queued] #[.int .i64 e.kind, .string e.nam.last, .string e.nam.first, .string e.seg.car, .int .i64 e.seg.num, .int .i64 e.seg.day, .int .u8 e.seg.cls, .bool e.seg.live, .int .i64 e.tik.kind, .int .i64 e.tik.day, .int .i64 e.tik.min, .string e.text, .int .i64 e.n, .int .i64 e.pax, .int .i64 e.row, .int .u8 e.let_] zc
  unfold zc at hF
  clear hp hs hD
  dsimp only
  have HX := Lib.hid (show changeF p e = (if tikB e.tik = false then (p, 4) else ({ p with tik := e.tik, queued := false }, 0)) by unfold changeF; rw [hk]; rfl)
  have k1 : (e.kind == 1) = false := by rw [hk]; rfl
  have k2 : (e.kind == 2) = false := by rw [hk]; rfl
  have k3 : (e.kind == 3) = false := by rw [hk]; rfl
  have k4 : (e.kind == 4) = true := by rw [hk]; rfl
  have k5 : (e.kind == 5) = false := by rw [hk]; rfl
  have k6 : (e.kind == 6) = false := by rw [hk]; rfl
  have k7 : (e.kind == 7) = false := by rw [hk]; rfl
  have k8 : (e.kind == 8) = false := by rw [hk]; rfl
  have k9 : (e.kind == 9) = false := by rw [hk]; rfl
  clear hk
  have HT := Lib.hid e4
  rcases Bool.eq_false_or_eq_true (tikB e.tik) with q1 | q1
  case inr =>
    have hfin := Lib.hid (HX.out.trans (if_pos q1))
    go_enter Tryd.func52, Tryd.ntmps52
    go_wp2_with fail
    refine (pticket_any e.tik _).mono ?_
    rintro en w1 ⟨rfl, hb1⟩
    rw [q1]
    have hF1 := hF.step hb1
    clear hb1
    have v1 := hF1.c1
    have v2 := hF1.c2
    have v6 := hF1.f1
    go_wp2_with (refine store_res rfl (.tmp 4) (.tmp 41) rfl #[.string p.loc, .string p.off, .slice an nn cn, .slice ag ng cg, .slice ap np cp, .int .i64 p.tik.kind, .int .i64 p.tik.day, .int .i64 p.tik.min, .string p.rc, .slice ar nr cr, .slice ae ne ce, .bool p.queued] rfl rfl hF1.r3 rfl rfl (by simp [Value.oneCell']) ?_)
    have hF9 := hF1.put3 #[.string p.loc, .string p.off, .slice an nn cn, .slice ag ng cg, .slice ap np cp, .int .i64 p.tik.kind, .int .i64 p.tik.day, .int .i64 p.tik.min, .string p.rc, .slice ar nr cr, .slice ae ne ce, .bool p.queued]
    refine ret_ct Tryd.results52 hF9.r3 rfl rfl rfl rfl ?_
    exact RetO.mk' (h' := (Hd.mk an nn cn ag ng cg ap np cp ar nr cr ae ne ce)) hfin.out hF9.op hF9.fb (fun k hk => .inl hk)
  have hfin := Lib.hid (HX.out.trans (if_neg (by rw [q1]; simp)))
  go_enter Tryd.func52, Tryd.ntmps52
  go_wp2_with fail
  refine (pticket_any e.tik _).mono ?_
  rintro en w1 ⟨rfl, hb1⟩
  rw [q1]
  have hF1 := hF.step hb1
  clear hb1
  have v1 := hF1.c1
  have v2 := hF1.c2
  have v6 := hF1.f1
  have hz1 := hF1.z
  have hz2 : w.heap.size < w1.heap.size := by omega
  have hF7 : FO w B p (Hd.mk an nn cn ag ng cg ap np cp ar nr cr ae ne ce) #[.string p.loc, .string p.off, .slice an nn cn, .slice ag ng cg, .slice ap np cp, .int .i64 e.tik.kind, .int .i64 e.tik.day, .int .i64 e.tik.min, .string p.rc, .slice ar nr cr, .slice ae ne ce, .bool false] #[.int .i64 e.kind, .string e.nam.last, .string e.nam.first, .string e.seg.car, .int .i64 e.seg.num, .int .i64 e.seg.day, .int .u8 e.seg.cls, .bool e.seg.live, .int .i64 e.tik.kind, .int .i64 e.tik.day, .int .i64 e.tik.min, .string e.text, .int .i64 e.n, .int .i64 e.pax, .int .i64 e.row, .int .u8 e.let_] zc _ := (((hF1.put1 5 (.int .i64 e.tik.kind)).put1 6 (.int .i64 e.tik.day)).put1 7 (.int .i64 e.tik.min)).put1 11 (.bool false)
  go_wp2_with (refine store_res rfl (.tmp 4) (.tmp 101) rfl #[.string p.loc, .string p.off, .slice an nn cn, .slice ag ng cg, .slice ap np cp, .int .i64 e.tik.kind, .int .i64 e.tik.day, .int .i64 e.tik.min, .string p.rc, .slice ar nr cr, .slice ae ne ce, .bool false] rfl rfl hF7.r3 rfl rfl (by simp [Value.oneCell']) ?_)
  have hF9 := hF7.put3 #[.string p.loc, .string p.off, .slice an nn cn, .slice ag ng cg, .slice ap np cp, .int .i64 e.tik.kind, .int .i64 e.tik.day, .int .i64 e.tik.min, .string p.rc, .slice ar nr cr, .slice ae ne ce, .bool false]
  refine ret_ct Tryd.results52 hF9.r3 rfl rfl rfl rfl ?_
  have hO := hF9.op
  exact RetO.mk' (q := { p with tik := e.tik, queued := false }) (h' := (Hd.mk an nn cn ag ng cg ap np cp ar nr cr ae ne ce)) hfin.out ⟨hO.loc, hO.off, hO.rc, HT.out, hO.names, hO.segs, hO.phones, hO.remarks, hO.seats⟩ hF9.fb (fun k hk => .inl hk)
set_option maxRecDepth 100000 in
set_option maxHeartbeats 4000000 in
theorem pchange_5 (p : Pnr) (h : Hd) (e : Edit) (w : World) (B : Nat) (hp : OP w B p h) (hD : Ap h) (hB : B ≤ w.heap.size) (hs : p.small 100000) (he : e.ok) (hk : e.kind = 5) :
    Calls Tryd.prog 52 #[.agg #[.string p.loc, .string p.off, .slice h.an h.nn h.cn, .slice h.ag h.ng h.cg, .slice h.ap h.np h.cp, .int .i64 p.tik.kind, .int .i64 p.tik.day, .int .i64 p.tik.min, .string p.rc, .slice h.ar h.nr h.cr, .slice h.ae h.ne h.ce, .bool p.queued], .agg #[.int .i64 e.kind, .string e.nam.last, .string e.nam.first, .string e.seg.car, .int .i64 e.seg.num, .int .i64 e.seg.day, .int .u8 e.seg.cls, .bool e.seg.live, .int .i64 e.tik.kind, .int .i64 e.tik.day, .int .i64 e.tik.min, .string e.text, .int .i64 e.n, .int .i64 e.pax, .int .i64 e.row, .int .u8 e.let_]] w (RetO w B h (changeF p e)) := by
  have HS := Lib.hid (hp.hd hs)
  have HSM := Lib.hid hs
  have HE := Lib.hid he
  have HD := Lib.hid hD
  obtain ⟨e1, e2, e3, e4, e5, e6, e7, e8, e9⟩ := he
  obtain ⟨an, nn, cn, ag, ng, cg, ap, np, cp, ar, nr, cr, ae, ne, ce⟩ := h
  have hF := FO.start hp hB #[.string p.loc, .string p.off, .slice an nn cn, .slice ag ng cg, .slice ap np cp, .int .i64 p.tik.kind, .int .i64 p.tik.day, .int .i64 p.tik.min, .string p.rc, .slice ar nr cr, .slice ae ne ce, .bool p.queued] #[.int .i64 e.kind, .string e.nam.last, .string e.nam.first, .string e.seg.car, .int .i64 e.seg.num, .int .i64 e.seg.day, .int .u8 e.seg.cls, .bool e.seg.live, .int .i64 e.tik.kind, .int .i64 e.tik.day, .int .i64 e.tik.min, .string e.text, .int .i64 e.n, .int .i64 e.pax, .int .i64 e.row, .int .u8 e.let_] zc
  unfold zc at hF
  clear hp hs hD
  dsimp only
  have HX := Lib.hid (show changeF p e = (if freeB e.text = false then (p, 4) else ({ p with rc := e.text }, 0)) by unfold changeF; rw [hk]; rfl)
  have k1 : (e.kind == 1) = false := by rw [hk]; rfl
  have k2 : (e.kind == 2) = false := by rw [hk]; rfl
  have k3 : (e.kind == 3) = false := by rw [hk]; rfl
  have k4 : (e.kind == 4) = false := by rw [hk]; rfl
  have k5 : (e.kind == 5) = true := by rw [hk]; rfl
  have k6 : (e.kind == 6) = false := by rw [hk]; rfl
  have k7 : (e.kind == 7) = false := by rw [hk]; rfl
  have k8 : (e.kind == 8) = false := by rw [hk]; rfl
  have k9 : (e.kind == 9) = false := by rw [hk]; rfl
  clear hk
  rcases Bool.eq_false_or_eq_true (freeB e.text) with q1 | q1
  case inr =>
    have hfin := Lib.hid (HX.out.trans (if_pos q1))
    go_enter Tryd.func52, Tryd.ntmps52
    go_wp2_with fail
    refine (free_any e.text _ e5).mono ?_
    rintro en w1 ⟨rfl, hb1⟩
    rw [q1]
    have hF1 := hF.step hb1
    clear hb1
    have v1 := hF1.c1
    have v2 := hF1.c2
    have v6 := hF1.f1
    go_wp2_with (refine store_res rfl (.tmp 4) (.tmp 52) rfl #[.string p.loc, .string p.off, .slice an nn cn, .slice ag ng cg, .slice ap np cp, .int .i64 p.tik.kind, .int .i64 p.tik.day, .int .i64 p.tik.min, .string p.rc, .slice ar nr cr, .slice ae ne ce, .bool p.queued] rfl rfl hF1.r3 rfl rfl (by simp [Value.oneCell']) ?_)
    have hF9 := hF1.put3 #[.string p.loc, .string p.off, .slice an nn cn, .slice ag ng cg, .slice ap np cp, .int .i64 p.tik.kind, .int .i64 p.tik.day, .int .i64 p.tik.min, .string p.rc, .slice ar nr cr, .slice ae ne ce, .bool p.queued]
    refine ret_ct Tryd.results52 hF9.r3 rfl rfl rfl rfl ?_
    exact RetO.mk' (h' := (Hd.mk an nn cn ag ng cg ap np cp ar nr cr ae ne ce)) hfin.out hF9.op hF9.fb (fun k hk => .inl hk)
  have hfin := Lib.hid (HX.out.trans (if_neg (by rw [q1]; simp)))
  go_enter Tryd.func52, Tryd.ntmps52
  go_wp2_with fail
  refine (free_any e.text _ e5).mono ?_
  rintro en w1 ⟨rfl, hb1⟩
  rw [q1]
  have hF1 := hF.step hb1
  clear hb1
  have v1 := hF1.c1
  have v2 := hF1.c2
  have v6 := hF1.f1
  have hz1 := hF1.z
  have hz2 : w.heap.size < w1.heap.size := by omega
  have hrc := Lib.hid e5
  have hF7 : FO w B p (Hd.mk an nn cn ag ng cg ap np cp ar nr cr ae ne ce) #[.string p.loc, .string p.off, .slice an nn cn, .slice ag ng cg, .slice ap np cp, .int .i64 p.tik.kind, .int .i64 p.tik.day, .int .i64 p.tik.min, .string e.text, .slice ar nr cr, .slice ae ne ce, .bool p.queued] #[.int .i64 e.kind, .string e.nam.last, .string e.nam.first, .string e.seg.car, .int .i64 e.seg.num, .int .i64 e.seg.day, .int .u8 e.seg.cls, .bool e.seg.live, .int .i64 e.tik.kind, .int .i64 e.tik.day, .int .i64 e.tik.min, .string e.text, .int .i64 e.n, .int .i64 e.pax, .int .i64 e.row, .int .u8 e.let_] zc _ := hF1.put1 8 (.string e.text)
  go_wp2_with (refine store_res rfl (.tmp 4) (.tmp 101) rfl #[.string p.loc, .string p.off, .slice an nn cn, .slice ag ng cg, .slice ap np cp, .int .i64 p.tik.kind, .int .i64 p.tik.day, .int .i64 p.tik.min, .string e.text, .slice ar nr cr, .slice ae ne ce, .bool p.queued] rfl rfl hF7.r3 rfl rfl (by simp [Value.oneCell']) ?_)
  have hF9 := hF7.put3 #[.string p.loc, .string p.off, .slice an nn cn, .slice ag ng cg, .slice ap np cp, .int .i64 p.tik.kind, .int .i64 p.tik.day, .int .i64 p.tik.min, .string e.text, .slice ar nr cr, .slice ae ne ce, .bool p.queued]
  refine ret_ct Tryd.results52 hF9.r3 rfl rfl rfl rfl ?_
  have hO := hF9.op
  exact RetO.mk' (q := { p with rc := e.text }) (h' := (Hd.mk an nn cn ag ng cg ap np cp ar nr cr ae ne ce)) hfin.out ⟨hO.loc, hO.off, hrc.out, hO.tik, hO.names, hO.segs, hO.phones, hO.remarks, hO.seats⟩ hF9.fb (fun k hk => .inl hk)
set_option maxRecDepth 100000 in
set_option maxHeartbeats 4000000 in
theorem pchange_0 (p : Pnr) (h : Hd) (e : Edit) (w : World) (B : Nat) (hp : OP w B p h) (hD : Ap h) (hB : B ≤ w.heap.size) (hs : p.small 100000) (he : e.ok) (hk : ∀ c : Int, 1 ≤ c → c ≤ 9 → (e.kind == c) = false) :
    Calls Tryd.prog 52 #[.agg #[.string p.loc, .string p.off, .slice h.an h.nn h.cn, .slice h.ag h.ng h.cg, .slice h.ap h.np h.cp, .int .i64 p.tik.kind, .int .i64 p.tik.day, .int .i64 p.tik.min, .string p.rc, .slice h.ar h.nr h.cr, .slice h.ae h.ne h.ce, .bool p.queued], .agg #[.int .i64 e.kind, .string e.nam.last, .string e.nam.first, .string e.seg.car, .int .i64 e.seg.num, .int .i64 e.seg.day, .int .u8 e.seg.cls, .bool e.seg.live, .int .i64 e.tik.kind, .int .i64 e.tik.day, .int .i64 e.tik.min, .string e.text, .int .i64 e.n, .int .i64 e.pax, .int .i64 e.row, .int .u8 e.let_]] w (RetO w B h (changeF p e)) := by
  have HS := Lib.hid (hp.hd hs)
  have HSM := Lib.hid hs
  have HE := Lib.hid he
  have HD := Lib.hid hD
  obtain ⟨e1, e2, e3, e4, e5, e6, e7, e8, e9⟩ := he
  obtain ⟨an, nn, cn, ag, ng, cg, ap, np, cp, ar, nr, cr, ae, ne, ce⟩ := h
  have hF := FO.start hp hB #[.string p.loc, .string p.off, .slice an nn cn, .slice ag ng cg, .slice ap np cp, .int .i64 p.tik.kind, .int .i64 p.tik.day, .int .i64 p.tik.min, .string p.rc, .slice ar nr cr, .slice ae ne ce, .bool p.queued] #[.int .i64 e.kind, .string e.nam.last, .string e.nam.first, .string e.seg.car, .int .i64 e.seg.num, .int .i64 e.seg.day, .int .u8 e.seg.cls, .bool e.seg.live, .int .i64 e.tik.kind, .int .i64 e.tik.day, .int .i64 e.tik.min, .string e.text, .int .i64 e.n, .int .i64 e.pax, .int .i64 e.row, .int .u8 e.let_] zc
  unfold zc at hF
  clear hp hs hD
  dsimp only
  have hfin := Lib.hid (show changeF p e = (p, 4) by
    unfold changeF
    have g := fun (c : Int) (h1 : 1 ≤ c) (h2 : c ≤ 9) => beq_eq_false_iff_ne.1 (hk c h1 h2)
    rw [if_neg (g 1 (by omega) (by omega)), if_neg (g 2 (by omega) (by omega)), if_neg (g 3 (by omega) (by omega)), if_neg (g 4 (by omega) (by omega)), if_neg (g 5 (by omega) (by omega)), if_neg (g 6 (by omega) (by omega)), if_neg (g 7 (by omega) (by omega)), if_neg (g 8 (by omega) (by omega)), if_neg (g 9 (by omega) (by omega))])
  have k1 := hk 1 (by omega) (by omega)
  have k2 := hk 2 (by omega) (by omega)
  have k3 := hk 3 (by omega) (by omega)
  have k4 := hk 4 (by omega) (by omega)
  have k5 := hk 5 (by omega) (by omega)
  have k6 := hk 6 (by omega) (by omega)
  have k7 := hk 7 (by omega) (by omega)
  have k8 := hk 8 (by omega) (by omega)
  have k9 := hk 9 (by omega) (by omega)
  clear hk
  go_enter Tryd.func52, Tryd.ntmps52
  go_upto_region 3 with fail
  refine wp_world (FO w B p (Hd.mk an nn cn ag ng cg ap np cp ar nr cr ae ne ce) #[.string p.loc, .string p.off, .slice an nn cn, .slice ag ng cg, .slice ap np cp, .int .i64 p.tik.kind, .int .i64 p.tik.day, .int .i64 p.tik.min, .string p.rc, .slice ar nr cr, .slice ae ne ce, .bool p.queued] #[.int .i64 e.kind, .string e.nam.last, .string e.nam.first, .string e.seg.car, .int .i64 e.seg.num, .int .i64 e.seg.day, .int .u8 e.seg.cls, .bool e.seg.live, .int .i64 e.tik.kind, .int .i64 e.tik.day, .int .i64 e.tik.min, .string e.text, .int .i64 e.n, .int .i64 e.pax, .int .i64 e.row, .int .u8 e.let_] #[.string ⟨#[]⟩, .string ⟨#[]⟩, .slice none 0 0, .slice none 0 0, .slice none 0 0, .int .i64 0, .int .i64 0, .int .i64 0, .string ⟨#[]⟩, .slice none 0 0, .slice none 0 0, .bool false]) hF ?_
  intro W0 hF0
  have x1 := hF0.c1
  go_wp2_with (refine store_res rfl (.tmp 4) (.tmp 9) rfl #[.string p.loc, .string p.off, .slice an nn cn, .slice ag ng cg, .slice ap np cp, .int .i64 p.tik.kind, .int .i64 p.tik.day, .int .i64 p.tik.min, .string p.rc, .slice ar nr cr, .slice ae ne ce, .bool p.queued] rfl rfl hF0.r3 rfl rfl (by simp [Value.oneCell']) ?_)
  have hF9 := hF0.put3 #[.string p.loc, .string p.off, .slice an nn cn, .slice ag ng cg, .slice ap np cp, .int .i64 p.tik.kind, .int .i64 p.tik.day, .int .i64 p.tik.min, .string p.rc, .slice ar nr cr, .slice ae ne ce, .bool p.queued]
  refine ret_ct Tryd.results52 hF9.r3 rfl rfl rfl rfl ?_
  exact RetO.mk' (h' := (Hd.mk an nn cn ag ng cg ap np cp ar nr cr ae ne ce)) hfin.out hF9.op hF9.fb (fun k hk => .inl hk)
set_option maxRecDepth 100000 in
set_option maxHeartbeats 4000000 in
theorem pchange_6 (p : Pnr) (h : Hd) (e : Edit) (w : World) (B : Nat) (hp : OP w B p h) (hD : Ap h) (hB : B ≤ w.heap.size) (hs : p.small 100000) (he : e.ok) (hk : e.kind = 6) :
    Calls Tryd.prog 52 #[.agg #[.string p.loc, .string p.off, .slice h.an h.nn h.cn, .slice h.ag h.ng h.cg, .slice h.ap h.np h.cp, .int .i64 p.tik.kind, .int .i64 p.tik.day, .int .i64 p.tik.min, .string p.rc, .slice h.ar h.nr h.cr, .slice h.ae h.ne h.ce, .bool p.queued], .agg #[.int .i64 e.kind, .string e.nam.last, .string e.nam.first, .string e.seg.car, .int .i64 e.seg.num, .int .i64 e.seg.day, .int .u8 e.seg.cls, .bool e.seg.live, .int .i64 e.tik.kind, .int .i64 e.tik.day, .int .i64 e.tik.min, .string e.text, .int .i64 e.n, .int .i64 e.pax, .int .i64 e.row, .int .u8 e.let_]] w (RetO w B h (changeF p e)) := by
  have HS := Lib.hid (hp.hd hs)
  have HSM := Lib.hid hs
  have HE := Lib.hid he
  have HD := Lib.hid hD
  obtain ⟨e1, e2, e3, e4, e5, e6, e7, e8, e9⟩ := he
  obtain ⟨an, nn, cn, ag, ng, cg, ap, np, cp, ar, nr, cr, ae, ne, ce⟩ := h
  have hF := FO.start hp hB #[.string p.loc, .string p.off, .slice an nn cn, .slice ag ng cg, .slice ap np cp, .int .i64 p.tik.kind, .int .i64 p.tik.day, .int .i64 p.tik.min, .string p.rc, .slice ar nr cr, .slice ae ne ce, .bool p.queued] #[.int .i64 e.kind, .string e.nam.last, .string e.nam.first, .string e.seg.car, .int .i64 e.seg.num, .int .i64 e.seg.day, .int .u8 e.seg.cls, .bool e.seg.live, .int .i64 e.tik.kind, .int .i64 e.tik.day, .int .i64 e.tik.min, .string e.text, .int .i64 e.n, .int .i64 e.pax, .int .i64 e.row, .int .u8 e.let_] zc
  unfold zc at hF
  clear hp hs hD
  dsimp only
  have hfin := Lib.hid (show changeF p e = ({ p with remarks := (textF p.remarks e.text 10).1 }, (textF p.remarks e.text 10).2) by unfold changeF; rw [hk]; rfl)
  have k1 : (e.kind == 1) = false := by rw [hk]; rfl
  have k2 : (e.kind == 2) = false := by rw [hk]; rfl
  have k3 : (e.kind == 3) = false := by rw [hk]; rfl
  have k4 : (e.kind == 4) = false := by rw [hk]; rfl
  have k5 : (e.kind == 5) = false := by rw [hk]; rfl
  have k6 : (e.kind == 6) = true := by rw [hk]; rfl
  have k7 : (e.kind == 7) = false := by rw [hk]; rfl
  have k8 : (e.kind == 8) = false := by rw [hk]; rfl
  have k9 : (e.kind == 9) = false := by rw [hk]; rfl
  clear hk
  have hsm := HSM.out.remarks
  have HLx := Lib.hid hF.op.remarks.sl.len
  go_enter Tryd.func52, Tryd.ntmps52
  go_wp2_with fail
  refine (ptext1_any p.remarks ar nr cr e.text 10 _ B hF.op.remarks (by rw [← HLx.out]; omega) (by have := hF.fb.le; have := hF.z; omega) e5).mono ?_
  rintro en w1 ⟨A9, c9, rfl, hown', hgr, hb'⟩
  have hF' := hF.fb.grown hgr (fun k hk => ⟨(hF.op.remarks.bk_lt k hk).1, .inl ⟨(.inr (.inr (.inr (.inl hk)))), hF.lt k (.inr (.inr (.inr (.inl hk))))⟩⟩)
  have hzF := hF.z
  have hO' := hF.op.remarks' HD.out hgr hown'
  have hrow2 : ∀ k, bk A9 = some k → rowP (Hd.mk an nn cn ag ng cg ap np cp ar nr cr ae ne ce) k ∨ w.heap.size + 1 + 1 < k := fun k hk => by
    rcases hb' with hb | hb
    · rw [hb] at hk
      exact .inl (.inr (.inr (.inr (.inl hk))))
    · have := hb k hk
      exact .inr (by omega)
  have hro : ∀ k, rowP (Hd.mk an nn cn ag ng cg ap np cp A9 (textF p.remarks e.text 10).1.length c9 ae ne ce) k → rowP (Hd.mk an nn cn ag ng cg ap np cp ar nr cr ae ne ce) k ∨ w.heap.size + 1 + 1 < k := fun k hk => by
    rcases hk with hk | hk | hk | hk | hk <;> first | exact hrow2 k hk | exact .inl (.inl hk) | exact .inl (.inr (.inl hk)) | exact .inl (.inr (.inr (.inl hk))) | exact .inl (.inr (.inr (.inr (.inl hk)))) | exact .inl (.inr (.inr (.inr (.inr hk))))
  have HRL := Lib.hid hF.lt
  clear hown' hgr hb' hrow2 hF
  have g1 := hF'.c1
  have g2 := hF'.f1
  have g3 := hF'.z
  have g4 : w.heap.size < w1.heap.size := by omega
  generalize htl : (textF p.remarks e.text 10) = tx at hfin hO' hro ⊢
  have HTL := Lib.hid htl
  clear htl
  obtain ⟨tl, tn⟩ := tx
  dsimp only at hO' hro
  dsimp only
  have hF7 : FB w B (rowP (Hd.mk an nn cn ag ng cg ap np cp ar nr cr ae ne ce)) #[.string p.loc, .string p.off, .slice an nn cn, .slice ag ng cg, .slice ap np cp, .int .i64 p.tik.kind, .int .i64 p.tik.day, .int .i64 p.tik.min, .string p.rc, .slice A9 tl.length c9, .slice ae ne ce, .bool p.queued] #[.int .i64 e.kind, .string e.nam.last, .string e.nam.first, .string e.seg.car, .int .i64 e.seg.num, .int .i64 e.seg.day, .int .u8 e.seg.cls, .bool e.seg.live, .int .i64 e.tik.kind, .int .i64 e.tik.day, .int .i64 e.tik.min, .string e.text, .int .i64 e.n, .int .i64 e.pax, .int .i64 e.row, .int .u8 e.let_] zc _ := hF'.put1 9 (.slice A9 tl.length c9)
  go_wp2_with (refine store_res rfl (.tmp 4) (.tmp 101) rfl #[.string p.loc, .string p.off, .slice an nn cn, .slice ag ng cg, .slice ap np cp, .int .i64 p.tik.kind, .int .i64 p.tik.day, .int .i64 p.tik.min, .string p.rc, .slice A9 tl.length c9, .slice ae ne ce, .bool p.queued] rfl rfl hF7.r3 rfl rfl (by simp [Value.oneCell']) ?_)
  have hF9 := hF7.put3 #[.string p.loc, .string p.off, .slice an nn cn, .slice ag ng cg, .slice ap np cp, .int .i64 p.tik.kind, .int .i64 p.tik.day, .int .i64 p.tik.min, .string p.rc, .slice A9 tl.length c9, .slice ae ne ce, .bool p.queued]
  refine ret_ct Tryd.results52 hF9.r3 rfl rfl rfl rfl ?_
  exact RetO.mk' (q := { p with remarks := tl }) (h' := (Hd.mk an nn cn ag ng cg ap np cp A9 tl.length c9 ae ne ce)) hfin.out (hO'.fin (fun k hk => (hro k hk).elim (fun h => .inl (HRL.out k h)) (fun h => .inr h)) 9 _ #[.string p.loc, .string p.off, .slice an nn cn, .slice ag ng cg, .slice ap np cp, .int .i64 p.tik.kind, .int .i64 p.tik.day, .int .i64 p.tik.min, .string p.rc, .slice A9 tl.length c9, .slice ae ne ce, .bool p.queued]) hF9 (fun k hk => (hro k hk).elim (fun h => .inl h) (fun h => .inr (by omega)))
end Go.Proofs.YtaakcccffmfmoaaDoor
