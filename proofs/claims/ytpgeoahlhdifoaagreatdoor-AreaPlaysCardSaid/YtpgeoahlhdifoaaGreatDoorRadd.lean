/- The document's edits of a PNR: a name, a segment, texts. -/
import Derived.Test.YtpgeoahlhdifoaaGreatDoorRseat2
import Derived.Deep.RegionLaw
namespace Go.Proofs.YtpgeoahlhdifoaaGreatDoor
set_option linter.unusedVariables false
open Go Go.RowKit
attribute [local go_sem ↓] Go.wp_at_zero Go.wp_at_succ
set_option maxRecDepth 100000 in
set_option maxHeartbeats 4000000 in
theorem rwrite_ph (p : Pnr) (h : Hd) (e : Edit) (w : World) (S : Nat → Prop) (hp : PS w S p h) (hS : ∀ b, S b → b < w.heap.size) (hs : p.small 100000) (he : e.ok) (hk : e.kind = 3) :
    Calls Tryz.prog 74 #[.agg #[.string p.loc, .string p.off, .slice h.an h.nn h.cn, .slice h.ag h.ng h.cg, .slice h.ap h.np h.cp, .int .i64 p.tik.kind, .int .i64 p.tik.day, .int .i64 p.tik.min, .string p.rc, .slice h.ar h.nr h.cr, .slice h.ae h.ne h.ce, .bool p.queued], .agg #[.int .i64 e.kind, .string e.nam.last, .string e.nam.first, .string e.seg.car, .int .i64 e.seg.num, .int .i64 e.seg.day, .int .u8 e.seg.cls, .bool e.seg.live, .int .i64 e.tik.kind, .int .i64 e.tik.day, .int .i64 e.tik.min, .string e.text, .int .i64 e.n, .int .i64 e.pax, .int .i64 e.row, .int .u8 e.let_]] w (RetQ w S (({ p with phones := (textF p.phones e.text 4).1 }, (textF p.phones e.text 4).2))) := by
  have HP := Lib.hid hp
  have HO := Lib.hid (hp.old hS)
  have HS := Lib.hid (hs.hd (hp.old hS))
  have HE := Lib.hid he
  have HB := Lib.hid hS
  clear hp hS hs
  obtain ⟨e1, e2, e3, e4, e5, e6, e7, e8, e9⟩ := he
  obtain ⟨an, nn, cn, ag, ng, cg, ap, np, cp, ar, nr, cr, ae, ne, ce⟩ := h
  dsimp only
  have hF := FR.start w #[.string p.loc, .string p.off, .slice an nn cn, .slice ag ng cg, .slice ap np cp, .int .i64 p.tik.kind, .int .i64 p.tik.day, .int .i64 p.tik.min, .string p.rc, .slice ar nr cr, .slice ae ne ce, .bool p.queued] #[.int .i64 e.kind, .string e.nam.last, .string e.nam.first, .string e.seg.car, .int .i64 e.seg.num, .int .i64 e.seg.day, .int .u8 e.seg.cls, .bool e.seg.live, .int .i64 e.tik.kind, .int .i64 e.tik.day, .int .i64 e.tik.min, .string e.text, .int .i64 e.n, .int .i64 e.pax, .int .i64 e.row, .int .u8 e.let_] zc
  unfold zc at hF
  have q5 : (e.kind == 5) = false := by rw [hk]; rfl
  have q3 : (e.kind == 3) = true := by rw [hk]; rfl
  clear hk
  have HX := Lib.hid (show ({ p with phones := (textF p.phones e.text 4).1 }, (textF p.phones e.text 4).2) = (if freeB e.text = false then (p, (4 : Int)) else if ((4 : Int) ≤ p.phones.length) then (p, 18) else ({ p with phones := p.phones ++ [e.text] }, 0)) by unfold textF; split <;> first | rfl | (split <;> rfl))
  have HLn0 := Lib.hid HO.out.phones.len
  rcases Bool.eq_false_or_eq_true (freeB e.text) with q1 | q1
  case inr =>
    have hfin := Lib.hid (HX.out.trans (if_pos q1))
    go_enter Tryz.func74, Tryz.ntmps74
    go_wp2_with fail
    refine (rfree_any e.text _ e5).mono ?_
    rintro en w1 ⟨rfl, rfl⟩
    rw [q1]
    go_wp2_with (refine store_res rfl (.tmp 4) (.tmp 10) rfl #[.string p.loc, .string p.off, .slice an nn cn, .slice ag ng cg, .slice ap np cp, .int .i64 p.tik.kind, .int .i64 p.tik.day, .int .i64 p.tik.min, .string p.rc, .slice ar nr cr, .slice ae ne ce, .bool p.queued] rfl rfl hF.r3 rfl rfl (by simp [Value.oneCell']) ?_)
    have hF9 := hF.put3 #[.string p.loc, .string p.off, .slice an nn cn, .slice ag ng cg, .slice ap np cp, .int .i64 p.tik.kind, .int .i64 p.tik.day, .int .i64 p.tik.min, .string p.rc, .slice ar nr cr, .slice ae ne ce, .bool p.queued]
    refine ret_ct Tryz.results74 hF9.r3 rfl rfl rfl rfl ?_
    exact RetQ.mk' (q := p) (h' := (Hd.mk an nn cn ag ng cg ap np cp ar nr cr ae ne ce)) hfin.out ((HP.out.below hF9.B HB.out).mono fun b hb => .inl hb) hF9.B
  have HX1 := Lib.hid (HX.out.trans (if_neg (by rw [q1]; simp)))
  by_cases hm : (4 : Int) ≤ (np : Int)
  case pos =>
    have hfin := Lib.hid (HX1.out.trans (if_pos (by rw [HLn0.out]; exact hm)))
    go_enter Tryz.func74, Tryz.ntmps74
    go_wp2_with fail
    refine (rfree_any e.text _ e5).mono ?_
    rintro en w1 ⟨rfl, rfl⟩
    rw [q1]
    go_wp2_with (refine store_res rfl (.tmp 4) (.tmp 25) rfl #[.string p.loc, .string p.off, .slice an nn cn, .slice ag ng cg, .slice ap np cp, .int .i64 p.tik.kind, .int .i64 p.tik.day, .int .i64 p.tik.min, .string p.rc, .slice ar nr cr, .slice ae ne ce, .bool p.queued] rfl rfl hF.r3 rfl rfl (by simp [Value.oneCell']) ?_)
    have hF9 := hF.put3 #[.string p.loc, .string p.off, .slice an nn cn, .slice ag ng cg, .slice ap np cp, .int .i64 p.tik.kind, .int .i64 p.tik.day, .int .i64 p.tik.min, .string p.rc, .slice ar nr cr, .slice ae ne ce, .bool p.queued]
    refine ret_ct Tryz.results74 hF9.r3 rfl rfl rfl rfl ?_
    exact RetQ.mk' (q := p) (h' := (Hd.mk an nn cn ag ng cg ap np cp ar nr cr ae ne ce)) hfin.out ((HP.out.below hF9.B HB.out).mono fun b hb => .inl hb) hF9.B
  have hfin := Lib.hid (HX1.out.trans (if_neg (by rw [HLn0.out]; exact hm)))
  go_enter Tryz.func74, Tryz.ntmps74
  go_wp2_with fail
  refine (rfree_any e.text _ e5).mono ?_
  rintro en w1 ⟨rfl, rfl⟩
  rw [q1]
  go_wp2
  refine wp_world (FR w #[.string p.loc, .string p.off, .slice an nn cn, .slice ag ng cg, .slice ap np cp, .int .i64 p.tik.kind, .int .i64 p.tik.day, .int .i64 p.tik.min, .string p.rc, .slice ar nr cr, .slice ae ne ce, .bool p.queued] #[.int .i64 e.kind, .string e.nam.last, .string e.nam.first, .string e.seg.car, .int .i64 e.seg.num, .int .i64 e.seg.day, .int .u8 e.seg.cls, .bool e.seg.live, .int .i64 e.tik.kind, .int .i64 e.tik.day, .int .i64 e.tik.min, .string e.text, .int .i64 e.n, .int .i64 e.pax, .int .i64 e.row, .int .u8 e.let_] zc) hF ?_
  intro W0 hF0
  have x1 := hF0.c1
  have x2 := hF0.c2
  have x6 := hF0.f1
  have hFd := hF0
  have hsm := HS.out.np
  dsimp only at hsm
  have hcp := HP.out.caps.ap
  dsimp only at hcp
  have hcap := Lib.hid hcp
  clear hcp
  have hLn := HO.out.phones.len
  dsimp only at hLn
  have HLn := Lib.hid hLn
  clear hLn
  have zF := hFd.z
  have z0 : w.heap.size < W0.heap.size := by omega
  have z1 : w.heap.size + 1 < W0.heap.size := by omega
  go_region_law (first | (refine step_push (T := tStr) (v := .slice A3 p.phones.length c3) (l := p.phones) (B := w.heap.size + 1 + 1 + 1) rfl (.tmp 28) (.tmp 31) (by rfl) sl_str (by rfl) (by first | exact hown3 | exact (hown3.alloc _) | exact (hown3.alloc _).drew) e.text e5 (by first | exact heap_alloc_new _ _ | exact (hb3.block _ (by simp)).trans (heap_alloc_new _ _)) (by rfl) (by rfl) (by have := hF3.z; first | omega | (simp; omega)) (by rw [HLn.out]; omega) ?_; intro v' w' hown' hgr hb'; obtain ⟨A9, c9, hv9⟩ := hown'.form; rw [List.length_append, List.length_singleton] at hv9; subst hv9; have hF' := FR.grown (by first | exact hF3 | exact hF3.alloc _ | exact (hF3.alloc _).drew) hgr (fun k hk => by have := (hown3.lt k hk).1; omega); have g1 := hF'.c1; have g2 := hF'.f1; have g3 := hF'.z; have g4 : w.heap.size < w'.heap.size := (by omega)) | (go_simp; go_at_call 95; refine (rcopy_str p.phones ap np cp _ 0 w.heap.size (HO.out.below (FR.B (by first | exact hFd.drew | exact (hFd.alloc _).drew)) (Nat.le_refl _)).phones hsm (by first | (simp; done) | omega | (simp; omega)) hcap.out).mono ?_; rintro en w3 ⟨A3, c3, rfl, hown3, hb3⟩; have hF3 := FR.step (by first | exact hFd.drew | exact (hFd.alloc _).drew) hb3; replace hown3 := hown3.more (B' := w.heap.size + 1 + 1 + 1) (by first | (simp; done) | omega | (simp; omega)); have x3 := hF3.c1; have x4 := hF3.c2; have x5 := hF3.f1; have z3 := hF3.z; have z4 : w.heap.size < w3.heap.size := (by omega); have z5 : w.heap.size + 1 < w3.heap.size := (by omega)))
  all_goals
    have hF8 := hF'.put1 4 (.slice A9 (p.phones.length + 1) c9)
    have hF7 : FR w #[.string p.loc, .string p.off, .slice an nn cn, .slice ag ng cg, .slice A9 (p.phones.length + 1) c9, .int .i64 p.tik.kind, .int .i64 p.tik.day, .int .i64 p.tik.min, .string p.rc, .slice ar nr cr, .slice ae ne ce, .bool p.queued] #[.int .i64 e.kind, .string e.nam.last, .string e.nam.first, .string e.seg.car, .int .i64 e.seg.num, .int .i64 e.seg.day, .int .u8 e.seg.cls, .bool e.seg.live, .int .i64 e.tik.kind, .int .i64 e.tik.day, .int .i64 e.tik.min, .string e.text, .int .i64 e.n, .int .i64 e.pax, .int .i64 e.row, .int .u8 e.let_] zc _ := hF8
    go_wp2_with (refine store_res rfl (.tmp 4) (.tmp 34) rfl #[.string p.loc, .string p.off, .slice an nn cn, .slice ag ng cg, .slice A9 (p.phones.length + 1) c9, .int .i64 p.tik.kind, .int .i64 p.tik.day, .int .i64 p.tik.min, .string p.rc, .slice ar nr cr, .slice ae ne ce, .bool p.queued] rfl rfl hF7.r3 rfl rfl (by simp [Value.oneCell']) ?_)
    have hF9 := hF7.put3 #[.string p.loc, .string p.off, .slice an nn cn, .slice ag ng cg, .slice A9 (p.phones.length + 1) c9, .int .i64 p.tik.kind, .int .i64 p.tik.day, .int .i64 p.tik.min, .string p.rc, .slice ar nr cr, .slice ae ne ce, .bool p.queued]
    refine ret_ct Tryz.results74 hF9.r3 rfl rfl rfl rfl ?_
    have hO9 := (hown'.setCell (p := ⟨w.heap.size, 4, none⟩) (by first | (simp; done) | omega | (simp; omega)) (.slice A9 (p.phones.length + 1) c9)).setRow (g := w.heap.size + 1 + 1) (by omega) #[.string p.loc, .string p.off, .slice an nn cn, .slice ag ng cg, .slice A9 (p.phones.length + 1) c9, .int .i64 p.tik.kind, .int .i64 p.tik.day, .int .i64 p.tik.min, .string p.rc, .slice ar nr cr, .slice ae ne ce, .bool p.queued]
    exact RetQ.mk' (q := { p with phones := p.phones ++ [e.text] }) (h' := (Hd.mk an nn cn ag ng cg A9 (p.phones.length + 1) c9 ar nr cr ae ne ce)) hfin.out (((HP.out.below hF9.B HB.out).mono fun b hb => .inl hb).withPhones (hO9.sls.mono fun b hb => .inr ⟨by omega, hb.2⟩)) hF9.B

set_option maxRecDepth 100000 in
set_option maxHeartbeats 4000000 in
theorem rwrite_rm (p : Pnr) (h : Hd) (e : Edit) (w : World) (S : Nat → Prop) (hp : PS w S p h) (hS : ∀ b, S b → b < w.heap.size) (hs : p.small 100000) (he : e.ok) (hk : e.kind = 6) :
    Calls Tryz.prog 74 #[.agg #[.string p.loc, .string p.off, .slice h.an h.nn h.cn, .slice h.ag h.ng h.cg, .slice h.ap h.np h.cp, .int .i64 p.tik.kind, .int .i64 p.tik.day, .int .i64 p.tik.min, .string p.rc, .slice h.ar h.nr h.cr, .slice h.ae h.ne h.ce, .bool p.queued], .agg #[.int .i64 e.kind, .string e.nam.last, .string e.nam.first, .string e.seg.car, .int .i64 e.seg.num, .int .i64 e.seg.day, .int .u8 e.seg.cls, .bool e.seg.live, .int .i64 e.tik.kind, .int .i64 e.tik.day, .int .i64 e.tik.min, .string e.text, .int .i64 e.n, .int .i64 e.pax, .int .i64 e.row, .int .u8 e.let_]] w (RetQ w S (({ p with remarks := (textF p.remarks e.text 10).1 }, (textF p.remarks e.text 10).2))) := by
  have HP := Lib.hid hp
  have HO := Lib.hid (hp.old hS)
  have HS := Lib.hid (hs.hd (hp.old hS))
  have HE := Lib.hid he
  have HB := Lib.hid hS
  clear hp hS hs
  obtain ⟨e1, e2, e3, e4, e5, e6, e7, e8, e9⟩ := he
  obtain ⟨an, nn, cn, ag, ng, cg, ap, np, cp, ar, nr, cr, ae, ne, ce⟩ := h
  dsimp only
  have hF := FR.start w #[.string p.loc, .string p.off, .slice an nn cn, .slice ag ng cg, .slice ap np cp, .int .i64 p.tik.kind, .int .i64 p.tik.day, .int .i64 p.tik.min, .string p.rc, .slice ar nr cr, .slice ae ne ce, .bool p.queued] #[.int .i64 e.kind, .string e.nam.last, .string e.nam.first, .string e.seg.car, .int .i64 e.seg.num, .int .i64 e.seg.day, .int .u8 e.seg.cls, .bool e.seg.live, .int .i64 e.tik.kind, .int .i64 e.tik.day, .int .i64 e.tik.min, .string e.text, .int .i64 e.n, .int .i64 e.pax, .int .i64 e.row, .int .u8 e.let_] zc
  unfold zc at hF
  have q5 : (e.kind == 5) = false := by rw [hk]; rfl
  have q3 : (e.kind == 3) = false := by rw [hk]; rfl
  clear hk
  have HX := Lib.hid (show ({ p with remarks := (textF p.remarks e.text 10).1 }, (textF p.remarks e.text 10).2) = (if freeB e.text = false then (p, (4 : Int)) else if ((10 : Int) ≤ p.remarks.length) then (p, 18) else ({ p with remarks := p.remarks ++ [e.text] }, 0)) by unfold textF; split <;> first | rfl | (split <;> rfl))
  have HLn0 := Lib.hid HO.out.remarks.len
  rcases Bool.eq_false_or_eq_true (freeB e.text) with q1 | q1
  case inr =>
    have hfin := Lib.hid (HX.out.trans (if_pos q1))
    go_enter Tryz.func74, Tryz.ntmps74
    go_wp2_with fail
    refine (rfree_any e.text _ e5).mono ?_
    rintro en w1 ⟨rfl, rfl⟩
    rw [q1]
    go_wp2_with (refine store_res rfl (.tmp 4) (.tmp 10) rfl #[.string p.loc, .string p.off, .slice an nn cn, .slice ag ng cg, .slice ap np cp, .int .i64 p.tik.kind, .int .i64 p.tik.day, .int .i64 p.tik.min, .string p.rc, .slice ar nr cr, .slice ae ne ce, .bool p.queued] rfl rfl hF.r3 rfl rfl (by simp [Value.oneCell']) ?_)
    have hF9 := hF.put3 #[.string p.loc, .string p.off, .slice an nn cn, .slice ag ng cg, .slice ap np cp, .int .i64 p.tik.kind, .int .i64 p.tik.day, .int .i64 p.tik.min, .string p.rc, .slice ar nr cr, .slice ae ne ce, .bool p.queued]
    refine ret_ct Tryz.results74 hF9.r3 rfl rfl rfl rfl ?_
    exact RetQ.mk' (q := p) (h' := (Hd.mk an nn cn ag ng cg ap np cp ar nr cr ae ne ce)) hfin.out ((HP.out.below hF9.B HB.out).mono fun b hb => .inl hb) hF9.B
  have HX1 := Lib.hid (HX.out.trans (if_neg (by rw [q1]; simp)))
  by_cases hm : (10 : Int) ≤ (nr : Int)
  case pos =>
    have hfin := Lib.hid (HX1.out.trans (if_pos (by rw [HLn0.out]; exact hm)))
    go_enter Tryz.func74, Tryz.ntmps74
    go_wp2_with fail
    refine (rfree_any e.text _ e5).mono ?_
    rintro en w1 ⟨rfl, rfl⟩
    rw [q1]
    go_wp2_with (refine store_res rfl (.tmp 4) (.tmp 39) rfl #[.string p.loc, .string p.off, .slice an nn cn, .slice ag ng cg, .slice ap np cp, .int .i64 p.tik.kind, .int .i64 p.tik.day, .int .i64 p.tik.min, .string p.rc, .slice ar nr cr, .slice ae ne ce, .bool p.queued] rfl rfl hF.r3 rfl rfl (by simp [Value.oneCell']) ?_)
    have hF9 := hF.put3 #[.string p.loc, .string p.off, .slice an nn cn, .slice ag ng cg, .slice ap np cp, .int .i64 p.tik.kind, .int .i64 p.tik.day, .int .i64 p.tik.min, .string p.rc, .slice ar nr cr, .slice ae ne ce, .bool p.queued]
    refine ret_ct Tryz.results74 hF9.r3 rfl rfl rfl rfl ?_
    exact RetQ.mk' (q := p) (h' := (Hd.mk an nn cn ag ng cg ap np cp ar nr cr ae ne ce)) hfin.out ((HP.out.below hF9.B HB.out).mono fun b hb => .inl hb) hF9.B
  have hfin := Lib.hid (HX1.out.trans (if_neg (by rw [HLn0.out]; exact hm)))
  go_enter Tryz.func74, Tryz.ntmps74
  go_wp2_with fail
  refine (rfree_any e.text _ e5).mono ?_
  rintro en w1 ⟨rfl, rfl⟩
  rw [q1]
  go_wp2
  refine wp_world (FR w #[.string p.loc, .string p.off, .slice an nn cn, .slice ag ng cg, .slice ap np cp, .int .i64 p.tik.kind, .int .i64 p.tik.day, .int .i64 p.tik.min, .string p.rc, .slice ar nr cr, .slice ae ne ce, .bool p.queued] #[.int .i64 e.kind, .string e.nam.last, .string e.nam.first, .string e.seg.car, .int .i64 e.seg.num, .int .i64 e.seg.day, .int .u8 e.seg.cls, .bool e.seg.live, .int .i64 e.tik.kind, .int .i64 e.tik.day, .int .i64 e.tik.min, .string e.text, .int .i64 e.n, .int .i64 e.pax, .int .i64 e.row, .int .u8 e.let_] zc) hF ?_
  intro W0 hF0
  have x1 := hF0.c1
  have x2 := hF0.c2
  have x6 := hF0.f1
  have hFd := hF0
  have hsm := HS.out.nr
  dsimp only at hsm
  have hcp := HP.out.caps.ar
  dsimp only at hcp
  have hcap := Lib.hid hcp
  clear hcp
  have hLn := HO.out.remarks.len
  dsimp only at hLn
  have HLn := Lib.hid hLn
  clear hLn
  have zF := hFd.z
  have z0 : w.heap.size < W0.heap.size := by omega
  have z1 : w.heap.size + 1 < W0.heap.size := by omega
  go_region_law (first | (refine step_push (T := tStr) (v := .slice A3 p.remarks.length c3) (l := p.remarks) (B := w.heap.size + 1 + 1 + 1) rfl (.tmp 42) (.tmp 45) (by rfl) sl_str (by rfl) (by first | exact hown3 | exact (hown3.alloc _) | exact (hown3.alloc _).drew) e.text e5 (by first | exact heap_alloc_new _ _ | exact (hb3.block _ (by simp)).trans (heap_alloc_new _ _)) (by rfl) (by rfl) (by have := hF3.z; first | omega | (simp; omega)) (by rw [HLn.out]; omega) ?_; intro v' w' hown' hgr hb'; obtain ⟨A9, c9, hv9⟩ := hown'.form; rw [List.length_append, List.length_singleton] at hv9; subst hv9; have hF' := FR.grown (by first | exact hF3 | exact hF3.alloc _ | exact (hF3.alloc _).drew) hgr (fun k hk => by have := (hown3.lt k hk).1; omega); have g1 := hF'.c1; have g2 := hF'.f1; have g3 := hF'.z; have g4 : w.heap.size < w'.heap.size := (by omega)) | (go_simp; go_at_call 95; refine (rcopy_str p.remarks ar nr cr _ 0 w.heap.size (HO.out.below (FR.B (by first | exact hFd.drew | exact (hFd.alloc _).drew)) (Nat.le_refl _)).remarks hsm (by first | (simp; done) | omega | (simp; omega)) hcap.out).mono ?_; rintro en w3 ⟨A3, c3, rfl, hown3, hb3⟩; have hF3 := FR.step (by first | exact hFd.drew | exact (hFd.alloc _).drew) hb3; replace hown3 := hown3.more (B' := w.heap.size + 1 + 1 + 1) (by first | (simp; done) | omega | (simp; omega)); have x3 := hF3.c1; have x4 := hF3.c2; have x5 := hF3.f1; have z3 := hF3.z; have z4 : w.heap.size < w3.heap.size := (by omega); have z5 : w.heap.size + 1 < w3.heap.size := (by omega)))
  all_goals
    have hF8 := hF'.put1 9 (.slice A9 (p.remarks.length + 1) c9)
    have hF7 : FR w #[.string p.loc, .string p.off, .slice an nn cn, .slice ag ng cg, .slice ap np cp, .int .i64 p.tik.kind, .int .i64 p.tik.day, .int .i64 p.tik.min, .string p.rc, .slice A9 (p.remarks.length + 1) c9, .slice ae ne ce, .bool p.queued] #[.int .i64 e.kind, .string e.nam.last, .string e.nam.first, .string e.seg.car, .int .i64 e.seg.num, .int .i64 e.seg.day, .int .u8 e.seg.cls, .bool e.seg.live, .int .i64 e.tik.kind, .int .i64 e.tik.day, .int .i64 e.tik.min, .string e.text, .int .i64 e.n, .int .i64 e.pax, .int .i64 e.row, .int .u8 e.let_] zc _ := hF8
    go_wp2_with (refine store_res rfl (.tmp 4) (.tmp 48) rfl #[.string p.loc, .string p.off, .slice an nn cn, .slice ag ng cg, .slice ap np cp, .int .i64 p.tik.kind, .int .i64 p.tik.day, .int .i64 p.tik.min, .string p.rc, .slice A9 (p.remarks.length + 1) c9, .slice ae ne ce, .bool p.queued] rfl rfl hF7.r3 rfl rfl (by simp [Value.oneCell']) ?_)
    have hF9 := hF7.put3 #[.string p.loc, .string p.off, .slice an nn cn, .slice ag ng cg, .slice ap np cp, .int .i64 p.tik.kind, .int .i64 p.tik.day, .int .i64 p.tik.min, .string p.rc, .slice A9 (p.remarks.length + 1) c9, .slice ae ne ce, .bool p.queued]
    refine ret_ct Tryz.results74 hF9.r3 rfl rfl rfl rfl ?_
    have hO9 := (hown'.setCell (p := ⟨w.heap.size, 9, none⟩) (by first | (simp; done) | omega | (simp; omega)) (.slice A9 (p.remarks.length + 1) c9)).setRow (g := w.heap.size + 1 + 1) (by omega) #[.string p.loc, .string p.off, .slice an nn cn, .slice ag ng cg, .slice ap np cp, .int .i64 p.tik.kind, .int .i64 p.tik.day, .int .i64 p.tik.min, .string p.rc, .slice A9 (p.remarks.length + 1) c9, .slice ae ne ce, .bool p.queued]
    exact RetQ.mk' (q := { p with remarks := p.remarks ++ [e.text] }) (h' := (Hd.mk an nn cn ag ng cg ap np cp A9 (p.remarks.length + 1) c9 ae ne ce)) hfin.out (((HP.out.below hF9.B HB.out).mono fun b hb => .inl hb).withRemarks (hO9.sls.mono fun b hb => .inr ⟨by omega, hb.2⟩)) hF9.B

set_option maxRecDepth 100000 in
set_option maxHeartbeats 4000000 in
theorem rwrite_rc (p : Pnr) (h : Hd) (e : Edit) (w : World) (S : Nat → Prop) (hp : PS w S p h) (hS : ∀ b, S b → b < w.heap.size) (hs : p.small 100000) (he : e.ok) (hk : e.kind = 5) :
    Calls Tryz.prog 74 #[.agg #[.string p.loc, .string p.off, .slice h.an h.nn h.cn, .slice h.ag h.ng h.cg, .slice h.ap h.np h.cp, .int .i64 p.tik.kind, .int .i64 p.tik.day, .int .i64 p.tik.min, .string p.rc, .slice h.ar h.nr h.cr, .slice h.ae h.ne h.ce, .bool p.queued], .agg #[.int .i64 e.kind, .string e.nam.last, .string e.nam.first, .string e.seg.car, .int .i64 e.seg.num, .int .i64 e.seg.day, .int .u8 e.seg.cls, .bool e.seg.live, .int .i64 e.tik.kind, .int .i64 e.tik.day, .int .i64 e.tik.min, .string e.text, .int .i64 e.n, .int .i64 e.pax, .int .i64 e.row, .int .u8 e.let_]] w (RetQ w S (if freeB e.text = false then (p, 4) else ({ p with rc := e.text }, 0))) := by
  have HP := Lib.hid hp
  have HO := Lib.hid (hp.old hS)
  have HS := Lib.hid (hs.hd (hp.old hS))
  have HE := Lib.hid he
  have HB := Lib.hid hS
  clear hp hS hs
  obtain ⟨e1, e2, e3, e4, e5, e6, e7, e8, e9⟩ := he
  obtain ⟨an, nn, cn, ag, ng, cg, ap, np, cp, ar, nr, cr, ae, ne, ce⟩ := h
  dsimp only
  have hF := FR.start w #[.string p.loc, .string p.off, .slice an nn cn, .slice ag ng cg, .slice ap np cp, .int .i64 p.tik.kind, .int .i64 p.tik.day, .int .i64 p.tik.min, .string p.rc, .slice ar nr cr, .slice ae ne ce, .bool p.queued] #[.int .i64 e.kind, .string e.nam.last, .string e.nam.first, .string e.seg.car, .int .i64 e.seg.num, .int .i64 e.seg.day, .int .u8 e.seg.cls, .bool e.seg.live, .int .i64 e.tik.kind, .int .i64 e.tik.day, .int .i64 e.tik.min, .string e.text, .int .i64 e.n, .int .i64 e.pax, .int .i64 e.row, .int .u8 e.let_] zc
  unfold zc at hF
  have q5 : (e.kind == 5) = true := by rw [hk]; rfl
  clear hk
  rcases Bool.eq_false_or_eq_true (freeB e.text) with q1 | q1
  case inr =>
    rw [if_pos q1]
    go_enter Tryz.func74, Tryz.ntmps74
    go_wp2_with fail
    refine (rfree_any e.text _ e5).mono ?_
    rintro en w1 ⟨rfl, rfl⟩
    rw [q1]
    go_wp2_with (refine store_res rfl (.tmp 4) (.tmp 10) rfl #[.string p.loc, .string p.off, .slice an nn cn, .slice ag ng cg, .slice ap np cp, .int .i64 p.tik.kind, .int .i64 p.tik.day, .int .i64 p.tik.min, .string p.rc, .slice ar nr cr, .slice ae ne ce, .bool p.queued] rfl rfl hF.r3 rfl rfl (by simp [Value.oneCell']) ?_)
    have hF9 := hF.put3 #[.string p.loc, .string p.off, .slice an nn cn, .slice ag ng cg, .slice ap np cp, .int .i64 p.tik.kind, .int .i64 p.tik.day, .int .i64 p.tik.min, .string p.rc, .slice ar nr cr, .slice ae ne ce, .bool p.queued]
    refine ret_ct Tryz.results74 hF9.r3 rfl rfl rfl rfl ?_
    exact RetQ.mk' (q := p) (h' := (Hd.mk an nn cn ag ng cg ap np cp ar nr cr ae ne ce)) rfl ((HP.out.below hF9.B HB.out).mono fun b hb => .inl hb) hF9.B
  rw [if_neg (by rw [q1]; simp)]
  have hrc := e5
  go_enter Tryz.func74, Tryz.ntmps74
  go_wp2_with fail
  refine (rfree_any e.text _ e5).mono ?_
  rintro en w1 ⟨rfl, rfl⟩
  rw [q1]
  go_upto_region 4 with fail
  refine wp_world (FR w #[.string p.loc, .string p.off, .slice an nn cn, .slice ag ng cg, .slice ap np cp, .int .i64 p.tik.kind, .int .i64 p.tik.day, .int .i64 p.tik.min, .string p.rc, .slice ar nr cr, .slice ae ne ce, .bool p.queued] #[.int .i64 e.kind, .string e.nam.last, .string e.nam.first, .string e.seg.car, .int .i64 e.seg.num, .int .i64 e.seg.day, .int .u8 e.seg.cls, .bool e.seg.live, .int .i64 e.tik.kind, .int .i64 e.tik.day, .int .i64 e.tik.min, .string e.text, .int .i64 e.n, .int .i64 e.pax, .int .i64 e.row, .int .u8 e.let_] zc) hF ?_
  intro W0 hF0
  have x1 := hF0.c1
  have x2 := hF0.c2
  have x6 := hF0.f1
  have hF7 : FR w #[.string p.loc, .string p.off, .slice an nn cn, .slice ag ng cg, .slice ap np cp, .int .i64 p.tik.kind, .int .i64 p.tik.day, .int .i64 p.tik.min, .string e.text, .slice ar nr cr, .slice ae ne ce, .bool p.queued] #[.int .i64 e.kind, .string e.nam.last, .string e.nam.first, .string e.seg.car, .int .i64 e.seg.num, .int .i64 e.seg.day, .int .u8 e.seg.cls, .bool e.seg.live, .int .i64 e.tik.kind, .int .i64 e.tik.day, .int .i64 e.tik.min, .string e.text, .int .i64 e.n, .int .i64 e.pax, .int .i64 e.row, .int .u8 e.let_] zc _ := hF0.put1 8 (.string e.text)
  go_wp2_with (refine store_res rfl (.tmp 4) (.tmp 17) rfl #[.string p.loc, .string p.off, .slice an nn cn, .slice ag ng cg, .slice ap np cp, .int .i64 p.tik.kind, .int .i64 p.tik.day, .int .i64 p.tik.min, .string e.text, .slice ar nr cr, .slice ae ne ce, .bool p.queued] rfl rfl hF7.r3 rfl rfl (by simp [Value.oneCell']) ?_)
  have hF9 := hF7.put3 #[.string p.loc, .string p.off, .slice an nn cn, .slice ag ng cg, .slice ap np cp, .int .i64 p.tik.kind, .int .i64 p.tik.day, .int .i64 p.tik.min, .string e.text, .slice ar nr cr, .slice ae ne ce, .bool p.queued]
  refine ret_ct Tryz.results74 hF9.r3 rfl rfl rfl rfl ?_
  have hP9 := (HP.out.below hF9.B HB.out).mono (S' := fun b => S b ∨ (w.heap.size ≤ b ∧ b < (((W0.setCell ⟨w.heap.size, 8, none⟩ (.string e.text)).setRow (w.heap.size + 1 + 1) #[.string p.loc, .string p.off, .slice an nn cn, .slice ag ng cg, .slice ap np cp, .int .i64 p.tik.kind, .int .i64 p.tik.day, .int .i64 p.tik.min, .string e.text, .slice ar nr cr, .slice ae ne ce, .bool p.queued])).heap.size)) fun b hb => .inl hb
  exact RetQ.mk' (q := { p with rc := e.text }) (h' := (Hd.mk an nn cn ag ng cg ap np cp ar nr cr ae ne ce)) rfl ⟨hP9.loc, hP9.off, hrc, hP9.tik, hP9.names, hP9.segs, hP9.phones, hP9.remarks, hP9.seats⟩ hF9.B

set_option maxRecDepth 100000 in
set_option maxHeartbeats 4000000 in
theorem radd_name (p : Pnr) (h : Hd) (e : Edit) (w : World) (S : Nat → Prop) (hp : PS w S p h) (hS : ∀ b, S b → b < w.heap.size) (hs : p.small 100000) (he : e.ok) (hk : e.kind = 1) :
    Calls Tryz.prog 73 #[.agg #[.string p.loc, .string p.off, .slice h.an h.nn h.cn, .slice h.ag h.ng h.cg, .slice h.ap h.np h.cp, .int .i64 p.tik.kind, .int .i64 p.tik.day, .int .i64 p.tik.min, .string p.rc, .slice h.ar h.nr h.cr, .slice h.ae h.ne h.ce, .bool p.queued], .agg #[.int .i64 e.kind, .string e.nam.last, .string e.nam.first, .string e.seg.car, .int .i64 e.seg.num, .int .i64 e.seg.day, .int .u8 e.seg.cls, .bool e.seg.live, .int .i64 e.tik.kind, .int .i64 e.tik.day, .int .i64 e.tik.min, .string e.text, .int .i64 e.n, .int .i64 e.pax, .int .i64 e.row, .int .u8 e.let_]] w (RetQ w S (nameF p e)) := by
  have HP := Lib.hid hp
  have HO := Lib.hid (hp.old hS)
  have HS := Lib.hid (hs.hd (hp.old hS))
  have HE := Lib.hid he
  have HB := Lib.hid hS
  clear hp hS hs
  obtain ⟨e1, e2, e3, e4, e5, e6, e7, e8, e9⟩ := he
  obtain ⟨an, nn, cn, ag, ng, cg, ap, np, cp, ar, nr, cr, ae, ne, ce⟩ := h
  dsimp only
  have hF := FR.start w #[.string p.loc, .string p.off, .slice an nn cn, .slice ag ng cg, .slice ap np cp, .int .i64 p.tik.kind, .int .i64 p.tik.day, .int .i64 p.tik.min, .string p.rc, .slice ar nr cr, .slice ae ne ce, .bool p.queued] #[.int .i64 e.kind, .string e.nam.last, .string e.nam.first, .string e.seg.car, .int .i64 e.seg.num, .int .i64 e.seg.day, .int .u8 e.seg.cls, .bool e.seg.live, .int .i64 e.tik.kind, .int .i64 e.tik.day, .int .i64 e.tik.min, .string e.text, .int .i64 e.n, .int .i64 e.pax, .int .i64 e.row, .int .u8 e.let_] zc
  unfold zc at hF
  have q5 : (e.kind == 1) = true := by rw [hk]; rfl
  clear hk
  have HLn0 := Lib.hid HO.out.names.len
  have HX := Lib.hid (show nameF p e = (if nmB e.nam = false then (p, (4 : Int)) else if p.loc.toList.isEmpty = false then (p, 7) else if 9 ≤ p.names.length then (p, 18) else ({ p with names := p.names ++ [e.nam] }, 0)) from rfl)
  have hnm := Lib.hid (show nmB e.nam = (wordB e.nam.last 1 16 && wordB e.nam.first 1 16) from rfl)
  rcases Bool.eq_false_or_eq_true (wordB e.nam.last 1 16) with q1 | q1
  case inr =>
    have hfin := Lib.hid (HX.out.trans (if_pos (by rw [hnm.out, q1]; rfl)))
    go_enter Tryz.func73, Tryz.ntmps73
    go_wp2_with fail
    refine (rperson_any e.nam.last _ e2.1).mono ?_
    rintro en w1 ⟨rfl, rfl⟩
    rw [q1]
    go_wp2_with (refine store_res rfl (.tmp 4) (.tmp 22) rfl #[.string p.loc, .string p.off, .slice an nn cn, .slice ag ng cg, .slice ap np cp, .int .i64 p.tik.kind, .int .i64 p.tik.day, .int .i64 p.tik.min, .string p.rc, .slice ar nr cr, .slice ae ne ce, .bool p.queued] rfl rfl hF.r3 rfl rfl (by simp [Value.oneCell']) ?_)
    have hF9 := hF.put3 #[.string p.loc, .string p.off, .slice an nn cn, .slice ag ng cg, .slice ap np cp, .int .i64 p.tik.kind, .int .i64 p.tik.day, .int .i64 p.tik.min, .string p.rc, .slice ar nr cr, .slice ae ne ce, .bool p.queued]
    refine ret_ct Tryz.results73 hF9.r3 rfl rfl rfl rfl ?_
    exact RetQ.mk' (q := p) (h' := (Hd.mk an nn cn ag ng cg ap np cp ar nr cr ae ne ce)) hfin.out ((HP.out.below hF9.B HB.out).mono fun b hb => .inl hb) hF9.B
  rcases Bool.eq_false_or_eq_true (wordB e.nam.first 1 16) with q2 | q2
  case inr =>
    have hfin := Lib.hid (HX.out.trans (if_pos (by rw [hnm.out, q1, q2]; rfl)))
    go_enter Tryz.func73, Tryz.ntmps73
    go_wp2_with fail
    refine (rperson_any e.nam.last _ e2.1).mono ?_
    rintro en w1 ⟨rfl, rfl⟩
    rw [q1]
    go_wp2_with fail
    refine (rperson_any e.nam.first _ e2.2).mono ?_
    rintro en w2 ⟨rfl, rfl⟩
    rw [q2]
    go_wp2_with (refine store_res rfl (.tmp 4) (.tmp 22) rfl #[.string p.loc, .string p.off, .slice an nn cn, .slice ag ng cg, .slice ap np cp, .int .i64 p.tik.kind, .int .i64 p.tik.day, .int .i64 p.tik.min, .string p.rc, .slice ar nr cr, .slice ae ne ce, .bool p.queued] rfl rfl hF.r3 rfl rfl (by simp [Value.oneCell']) ?_)
    have hF9 := hF.put3 #[.string p.loc, .string p.off, .slice an nn cn, .slice ag ng cg, .slice ap np cp, .int .i64 p.tik.kind, .int .i64 p.tik.day, .int .i64 p.tik.min, .string p.rc, .slice ar nr cr, .slice ae ne ce, .bool p.queued]
    refine ret_ct Tryz.results73 hF9.r3 rfl rfl rfl rfl ?_
    exact RetQ.mk' (q := p) (h' := (Hd.mk an nn cn ag ng cg ap np cp ar nr cr ae ne ce)) hfin.out ((HP.out.below hF9.B HB.out).mono fun b hb => .inl hb) hF9.B
  have HX1 := Lib.hid (HX.out.trans (if_neg (by rw [hnm.out, q1, q2]; simp)))
  rcases Bool.eq_false_or_eq_true p.loc.toList.isEmpty with q4 | q4
  case inr =>
    have hfin := Lib.hid (HX1.out.trans (if_pos q4))
    go_enter Tryz.func73, Tryz.ntmps73
    go_wp2_with fail
    refine (rperson_any e.nam.last _ e2.1).mono ?_
    rintro en w1 ⟨rfl, rfl⟩
    rw [q1]
    go_wp2_with fail
    refine (rperson_any e.nam.first _ e2.2).mono ?_
    rintro en w2 ⟨rfl, rfl⟩
    rw [q2]
    go_wp2_with (refine store_res rfl (.tmp 4) (.tmp 26) rfl #[.string p.loc, .string p.off, .slice an nn cn, .slice ag ng cg, .slice ap np cp, .int .i64 p.tik.kind, .int .i64 p.tik.day, .int .i64 p.tik.min, .string p.rc, .slice ar nr cr, .slice ae ne ce, .bool p.queued] rfl rfl hF.r3 rfl rfl (by simp [Value.oneCell']) ?_)
    have hF9 := hF.put3 #[.string p.loc, .string p.off, .slice an nn cn, .slice ag ng cg, .slice ap np cp, .int .i64 p.tik.kind, .int .i64 p.tik.day, .int .i64 p.tik.min, .string p.rc, .slice ar nr cr, .slice ae ne ce, .bool p.queued]
    refine ret_ct Tryz.results73 hF9.r3 rfl rfl rfl rfl ?_
    exact RetQ.mk' (q := p) (h' := (Hd.mk an nn cn ag ng cg ap np cp ar nr cr ae ne ce)) hfin.out ((HP.out.below hF9.B HB.out).mono fun b hb => .inl hb) hF9.B
  have HX2 := Lib.hid (HX1.out.trans (if_neg (by rw [q4]; simp)))
  by_cases hm : (9 : Int) ≤ (nn : Int)
  case pos =>
    have hfin := Lib.hid (HX2.out.trans (if_pos (by rw [HLn0.out]; dsimp only; omega)))
    go_enter Tryz.func73, Tryz.ntmps73
    go_wp2_with fail
    refine (rperson_any e.nam.last _ e2.1).mono ?_
    rintro en w1 ⟨rfl, rfl⟩
    rw [q1]
    go_wp2_with fail
    refine (rperson_any e.nam.first _ e2.2).mono ?_
    rintro en w2 ⟨rfl, rfl⟩
    rw [q2]
    go_wp2_with (refine store_res rfl (.tmp 4) (.tmp 31) rfl #[.string p.loc, .string p.off, .slice an nn cn, .slice ag ng cg, .slice ap np cp, .int .i64 p.tik.kind, .int .i64 p.tik.day, .int .i64 p.tik.min, .string p.rc, .slice ar nr cr, .slice ae ne ce, .bool p.queued] rfl rfl hF.r3 rfl rfl (by simp [Value.oneCell']) ?_)
    have hF9 := hF.put3 #[.string p.loc, .string p.off, .slice an nn cn, .slice ag ng cg, .slice ap np cp, .int .i64 p.tik.kind, .int .i64 p.tik.day, .int .i64 p.tik.min, .string p.rc, .slice ar nr cr, .slice ae ne ce, .bool p.queued]
    refine ret_ct Tryz.results73 hF9.r3 rfl rfl rfl rfl ?_
    exact RetQ.mk' (q := p) (h' := (Hd.mk an nn cn ag ng cg ap np cp ar nr cr ae ne ce)) hfin.out ((HP.out.below hF9.B HB.out).mono fun b hb => .inl hb) hF9.B
  have hfin := Lib.hid (HX2.out.trans (if_neg (by rw [HLn0.out]; dsimp only; omega)))
  go_enter Tryz.func73, Tryz.ntmps73
  go_wp2_with fail
  refine (rperson_any e.nam.last _ e2.1).mono ?_
  rintro en w1 ⟨rfl, rfl⟩
  rw [q1]
  go_wp2_with fail
  refine (rperson_any e.nam.first _ e2.2).mono ?_
  rintro en w2 ⟨rfl, rfl⟩
  rw [q2]
  go_wp2
  refine wp_world (FR w #[.string p.loc, .string p.off, .slice an nn cn, .slice ag ng cg, .slice ap np cp, .int .i64 p.tik.kind, .int .i64 p.tik.day, .int .i64 p.tik.min, .string p.rc, .slice ar nr cr, .slice ae ne ce, .bool p.queued] #[.int .i64 e.kind, .string e.nam.last, .string e.nam.first, .string e.seg.car, .int .i64 e.seg.num, .int .i64 e.seg.day, .int .u8 e.seg.cls, .bool e.seg.live, .int .i64 e.tik.kind, .int .i64 e.tik.day, .int .i64 e.tik.min, .string e.text, .int .i64 e.n, .int .i64 e.pax, .int .i64 e.row, .int .u8 e.let_] zc) hF ?_
  intro W0 hF0
  have x1 := hF0.c1
  have x2 := hF0.c2
  have x6 := hF0.f1
  have hFd := hF0
  have hsm := HS.out.nn
  dsimp only at hsm
  have hcp := HP.out.caps.an
  dsimp only at hcp
  have hcap := Lib.hid hcp
  clear hcp
  have hLn := HO.out.names.len
  dsimp only at hLn
  have HLn := Lib.hid hLn
  clear hLn
  have zF := hFd.z
  have z0 : w.heap.size < W0.heap.size := by omega
  have z1 : w.heap.size + 1 < W0.heap.size := by omega
  go_region_law (first | (refine step_push (T := tNam) (v := .slice A3 p.names.length c3) (l := p.names) (B := w.heap.size + 1 + 1 + 1) rfl (.tmp 34) (.tmp 37) (by rfl) sl_nam (by rfl) (by first | exact hown3 | exact (hown3.alloc _) | exact (hown3.alloc _).drew) e.nam e2 (by first | exact heap_alloc_new _ _ | exact (hb3.block _ (by simp)).trans (heap_alloc_new _ _)) (by rfl) (by rfl) (by have := hF3.z; first | omega | (simp; omega)) (by rw [HLn.out]; omega) ?_; intro v' w' hown' hgr hb'; obtain ⟨A9, c9, hv9⟩ := hown'.form; rw [List.length_append, List.length_singleton] at hv9; subst hv9; have hF' := FR.grown (by first | exact hF3 | exact hF3.alloc _ | exact (hF3.alloc _).drew) hgr (fun k hk => by have := (hown3.lt k hk).1; omega); have g1 := hF'.c1; have g2 := hF'.f1; have g3 := hF'.z; have g4 : w.heap.size < w'.heap.size := (by omega)) | (go_simp; go_at_call 92; refine (rcopy_nam p.names an nn cn _ 0 w.heap.size (HO.out.below (FR.B (by first | exact hFd.drew | exact (hFd.alloc _).drew)) (Nat.le_refl _)).names hsm (by first | (simp; done) | omega | (simp; omega)) hcap.out).mono ?_; rintro en w3 ⟨A3, c3, rfl, hown3, hb3⟩; have hF3 := FR.step (by first | exact hFd.drew | exact (hFd.alloc _).drew) hb3; replace hown3 := hown3.more (B' := w.heap.size + 1 + 1 + 1) (by first | (simp; done) | omega | (simp; omega)); have x3 := hF3.c1; have x4 := hF3.c2; have x5 := hF3.f1; have z3 := hF3.z; have z4 : w.heap.size < w3.heap.size := (by omega); have z5 : w.heap.size + 1 < w3.heap.size := (by omega)))
  all_goals
    have hF8 := hF'.put1 2 (.slice A9 (p.names.length + 1) c9)
    have hF7 : FR w #[.string p.loc, .string p.off, .slice A9 (p.names.length + 1) c9, .slice ag ng cg, .slice ap np cp, .int .i64 p.tik.kind, .int .i64 p.tik.day, .int .i64 p.tik.min, .string p.rc, .slice ar nr cr, .slice ae ne ce, .bool p.queued] #[.int .i64 e.kind, .string e.nam.last, .string e.nam.first, .string e.seg.car, .int .i64 e.seg.num, .int .i64 e.seg.day, .int .u8 e.seg.cls, .bool e.seg.live, .int .i64 e.tik.kind, .int .i64 e.tik.day, .int .i64 e.tik.min, .string e.text, .int .i64 e.n, .int .i64 e.pax, .int .i64 e.row, .int .u8 e.let_] zc _ := hF8
    go_wp2_with (refine store_res rfl (.tmp 4) (.tmp 40) rfl #[.string p.loc, .string p.off, .slice A9 (p.names.length + 1) c9, .slice ag ng cg, .slice ap np cp, .int .i64 p.tik.kind, .int .i64 p.tik.day, .int .i64 p.tik.min, .string p.rc, .slice ar nr cr, .slice ae ne ce, .bool p.queued] rfl rfl hF7.r3 rfl rfl (by simp [Value.oneCell']) ?_)
    have hF9 := hF7.put3 #[.string p.loc, .string p.off, .slice A9 (p.names.length + 1) c9, .slice ag ng cg, .slice ap np cp, .int .i64 p.tik.kind, .int .i64 p.tik.day, .int .i64 p.tik.min, .string p.rc, .slice ar nr cr, .slice ae ne ce, .bool p.queued]
    refine ret_ct Tryz.results73 hF9.r3 rfl rfl rfl rfl ?_
    have hO9 := (hown'.setCell (p := ⟨w.heap.size, 2, none⟩) (by first | (simp; done) | omega | (simp; omega)) (.slice A9 (p.names.length + 1) c9)).setRow (g := w.heap.size + 1 + 1) (by omega) #[.string p.loc, .string p.off, .slice A9 (p.names.length + 1) c9, .slice ag ng cg, .slice ap np cp, .int .i64 p.tik.kind, .int .i64 p.tik.day, .int .i64 p.tik.min, .string p.rc, .slice ar nr cr, .slice ae ne ce, .bool p.queued]
    exact RetQ.mk' (q := { p with names := p.names ++ [e.nam] }) (h' := (Hd.mk A9 (p.names.length + 1) c9 ag ng cg ap np cp ar nr cr ae ne ce)) hfin.out (((HP.out.below hF9.B HB.out).mono fun b hb => .inl hb).withNames (hO9.sls.mono fun b hb => .inr ⟨by omega, hb.2⟩)) hF9.B
end Go.Proofs.YtpgeoahlhdifoaaGreatDoor
