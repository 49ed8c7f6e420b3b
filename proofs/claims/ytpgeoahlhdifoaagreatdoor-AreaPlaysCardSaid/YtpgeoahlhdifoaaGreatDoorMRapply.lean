/- Put together by program of: Rchange, Rapply. -/
import Derived.Test.YtpgeoahlhdifoaaGreatDoorRadd
import Derived.Test.YtpgeoahlhdifoaaGreatDoorRsegm
import Derived.Test.YtpgeoahlhdifoaaGreatDoorRcancel
namespace Go.Proofs.YtpgeoahlhdifoaaGreatDoor
set_option linter.unusedVariables false
open Go Go.RowKit
theorem RetQ.pass {w w1 : World} {S : Nat → Prop} {r : Pnr × Int} {q : Pnr} {n : Int} {h' : Hd} {pc ec rc : Array Value} (e : r = (q, n)) (hS : ∀ b, S b → b < w.heap.size) (hF : FR w pc ec rc w1)
    (hp : PS w1 (fun b => S b ∨ (w.heap.size + 1 + 1 + 1 ≤ b ∧ b < w1.heap.size)) q h') : RetQ w S r (.returned (.tuple #[.agg #[.string q.loc, .string q.off, .slice h'.an h'.nn h'.cn, .slice h'.ag h'.ng h'.cg, .slice h'.ap h'.np h'.cp, .int .i64 q.tik.kind, .int .i64 q.tik.day, .int .i64 q.tik.min, .string q.rc, .slice h'.ar h'.nr h'.cr, .slice h'.ae h'.ne h'.ce, .bool q.queued], .int .i64 n])) (w1.setRow (w.heap.size + 1 + 1) #[.string q.loc, .string q.off, .slice h'.an h'.nn h'.cn, .slice h'.ag h'.ng h'.cg, .slice h'.ap h'.np h'.cp, .int .i64 q.tik.kind, .int .i64 q.tik.day, .int .i64 q.tik.min, .string q.rc, .slice h'.ar h'.nr h'.cr, .slice h'.ae h'.ne h'.ce, .bool q.queued]) := by
  refine RetQ.mk' e (PS.mono (PS.keep hp ?_) ?_) (hF.put3 _).B
  · intro a ha
    refine cell_setRow_other _ _ _ _ ?_
    rcases ha with h | h
    · have := hS _ h; omega
    · omega
  · intro b hb
    rcases hb with h | h
    · exact .inl h
    · exact .inr ⟨by omega, by have := h.2; simpa using this⟩
set_option maxRecDepth 100000 in
set_option maxHeartbeats 4000000 in
theorem rchange_1 (p : Pnr) (h : Hd) (e : Edit) (w : World) (S : Nat → Prop) (hp : PS w S p h) (hS : ∀ b, S b → b < w.heap.size) (hs : p.small 100000) (he : e.ok) (hk : e.kind = 1) :
    Calls Tryz.prog 54 #[.agg #[.string p.loc, .string p.off, .slice h.an h.nn h.cn, .slice h.ag h.ng h.cg, .slice h.ap h.np h.cp, .int .i64 p.tik.kind, .int .i64 p.tik.day, .int .i64 p.tik.min, .string p.rc, .slice h.ar h.nr h.cr, .slice h.ae h.ne h.ce, .bool p.queued], .agg #[.int .i64 e.kind, .string e.nam.last, .string e.nam.first, .string e.seg.car, .int .i64 e.seg.num, .int .i64 e.seg.day, .int .u8 e.seg.cls, .bool e.seg.live, .int .i64 e.tik.kind, .int .i64 e.tik.day, .int .i64 e.tik.min, .string e.text, .int .i64 e.n, .int .i64 e.pax, .int .i64 e.row, .int .u8 e.let_]] w (RetQ w S (changeF p e)) := by
  have HP := Lib.hid hp
  have HO := Lib.hid (hp.old hS)
  have HS := Lib.hid (hs.hd (hp.old hS))
  have HE := Lib.hid he
  have HSM := Lib.hid hs
  have HB := Lib.hid hS
  clear hp hS hs
  obtain ⟨e1, e2, e3, e4, e5, e6, e7, e8, e9⟩ := he
  obtain ⟨an, nn, cn, ag, ng, cg, ap, np, cp, ar, nr, cr, ae, ne, ce⟩ := h
  dsimp only
  have hF := FR.start w #[.string p.loc, .string p.off, .slice an nn cn, .slice ag ng cg, .slice ap np cp, .int .i64 p.tik.kind, .int .i64 p.tik.day, .int .i64 p.tik.min, .string p.rc, .slice ar nr cr, .slice ae ne ce, .bool p.queued] #[.int .i64 e.kind, .string e.nam.last, .string e.nam.first, .string e.seg.car, .int .i64 e.seg.num, .int .i64 e.seg.day, .int .u8 e.seg.cls, .bool e.seg.live, .int .i64 e.tik.kind, .int .i64 e.tik.day, .int .i64 e.tik.min, .string e.text, .int .i64 e.n, .int .i64 e.pax, .int .i64 e.row, .int .u8 e.let_] zc
  unfold zc at hF
  have hfin := Lib.hid (show changeF p e = nameF p e by unfold changeF; rw [hk]; rfl)
  have HK := Lib.hid hk
  have k1 : (e.kind == 1) = true := by rw [hk]; rfl
  have k2 : (e.kind == 2) = false := by rw [hk]; rfl
  have k3 : (e.kind == 3) = false := by rw [hk]; rfl
  have k4 : (e.kind == 4) = false := by rw [hk]; rfl
  have k5 : (e.kind == 5) = false := by rw [hk]; rfl
  have k6 : (e.kind == 6) = false := by rw [hk]; rfl
  have k7 : (e.kind == 7) = false := by rw [hk]; rfl
  have k8 : (e.kind == 8) = false := by rw [hk]; rfl
  have k9 : (e.kind == 9) = false := by rw [hk]; rfl
  clear hk
  go_enter Tryz.func54, Tryz.ntmps54
  go_wp2_with fail
  refine (radd_name p (Hd.mk an nn cn ag ng cg ap np cp ar nr cr ae ne ce) e _ S (HP.out.below hF.B HB.out) (fun b hb => by have := HB.out b hb; have := hF.z; omega) HSM.out HE.out HK.out).mono ?_
  rintro en w1 ⟨h1, rfl, hP1, hb1⟩
  have hF1 := hF.step hb1
  have hB1 := hF.B
  have hz1 := hF.z
  generalize hr : nameF p e = r at hfin hP1
  have HR := Lib.hid hr
  clear hr
  obtain ⟨q, n⟩ := r
  go_wp2_with (refine store_res rfl (.tmp 4) (.tmp 16) rfl #[.string q.loc, .string q.off, .slice h1.an h1.nn h1.cn, .slice h1.ag h1.ng h1.cg, .slice h1.ap h1.np h1.cp, .int .i64 q.tik.kind, .int .i64 q.tik.day, .int .i64 q.tik.min, .string q.rc, .slice h1.ar h1.nr h1.cr, .slice h1.ae h1.ne h1.ce, .bool q.queued] rfl rfl hF1.r3 rfl rfl (by simp [Value.oneCell']) ?_)
  have hF9 := hF1.put3 #[.string q.loc, .string q.off, .slice h1.an h1.nn h1.cn, .slice h1.ag h1.ng h1.cg, .slice h1.ap h1.np h1.cp, .int .i64 q.tik.kind, .int .i64 q.tik.day, .int .i64 q.tik.min, .string q.rc, .slice h1.ar h1.nr h1.cr, .slice h1.ae h1.ne h1.ce, .bool q.queued]
  refine ret_ct Tryz.results54 hF9.r3 rfl rfl rfl rfl ?_
  exact RetQ.pass hfin.out HB.out hF1 (PS.mono hP1 fun b hb => by
    rcases hb with h | h
    · exact .inl h
    · exact .inr ⟨by have := h.1; simp at this; omega, h.2⟩)

set_option maxRecDepth 100000 in
set_option maxHeartbeats 4000000 in
theorem rchange_2 (p : Pnr) (h : Hd) (e : Edit) (w : World) (S : Nat → Prop) (hp : PS w S p h) (hS : ∀ b, S b → b < w.heap.size) (hs : p.small 100000) (he : e.ok) (hk : e.kind = 2) :
    Calls Tryz.prog 54 #[.agg #[.string p.loc, .string p.off, .slice h.an h.nn h.cn, .slice h.ag h.ng h.cg, .slice h.ap h.np h.cp, .int .i64 p.tik.kind, .int .i64 p.tik.day, .int .i64 p.tik.min, .string p.rc, .slice h.ar h.nr h.cr, .slice h.ae h.ne h.ce, .bool p.queued], .agg #[.int .i64 e.kind, .string e.nam.last, .string e.nam.first, .string e.seg.car, .int .i64 e.seg.num, .int .i64 e.seg.day, .int .u8 e.seg.cls, .bool e.seg.live, .int .i64 e.tik.kind, .int .i64 e.tik.day, .int .i64 e.tik.min, .string e.text, .int .i64 e.n, .int .i64 e.pax, .int .i64 e.row, .int .u8 e.let_]] w (RetQ w S (changeF p e)) := by
  have HP := Lib.hid hp
  have HO := Lib.hid (hp.old hS)
  have HS := Lib.hid (hs.hd (hp.old hS))
  have HE := Lib.hid he
  have HSM := Lib.hid hs
  have HB := Lib.hid hS
  clear hp hS hs
  obtain ⟨e1, e2, e3, e4, e5, e6, e7, e8, e9⟩ := he
  obtain ⟨an, nn, cn, ag, ng, cg, ap, np, cp, ar, nr, cr, ae, ne, ce⟩ := h
  dsimp only
  have hF := FR.start w #[.string p.loc, .string p.off, .slice an nn cn, .slice ag ng cg, .slice ap np cp, .int .i64 p.tik.kind, .int .i64 p.tik.day, .int .i64 p.tik.min, .string p.rc, .slice ar nr cr, .slice ae ne ce, .bool p.queued] #[.int .i64 e.kind, .string e.nam.last, .string e.nam.first, .string e.seg.car, .int .i64 e.seg.num, .int .i64 e.seg.day, .int .u8 e.seg.cls, .bool e.seg.live, .int .i64 e.tik.kind, .int .i64 e.tik.day, .int .i64 e.tik.min, .string e.text, .int .i64 e.n, .int .i64 e.pax, .int .i64 e.row, .int .u8 e.let_] zc
  unfold zc at hF
  have hfin := Lib.hid (show changeF p e = segmentF p e by unfold changeF; rw [hk]; rfl)
  have HK := Lib.hid hk
  have k1 : (e.kind == 1) = false := by rw [hk]; rfl
  have k2 : (e.kind == 2) = true := by rw [hk]; rfl
  have k3 : (e.kind == 3) = false := by rw [hk]; rfl
  have k4 : (e.kind == 4) = false := by rw [hk]; rfl
  have k5 : (e.kind == 5) = false := by rw [hk]; rfl
  have k6 : (e.kind == 6) = false := by rw [hk]; rfl
  have k7 : (e.kind == 7) = false := by rw [hk]; rfl
  have k8 : (e.kind == 8) = false := by rw [hk]; rfl
  have k9 : (e.kind == 9) = false := by rw [hk]; rfl
  clear hk
  go_enter Tryz.func54, Tryz.ntmps54
  go_wp2_with fail
  refine (radd_seg p (Hd.mk an nn cn ag ng cg ap np cp ar nr cr ae ne ce) e _ S (HP.out.below hF.B HB.out) (fun b hb => by have := HB.out b hb; have := hF.z; omega) HSM.out HE.out (by rw [HK.out]; rfl)).mono ?_
  rintro en w1 ⟨h1, rfl, hP1, hb1⟩
  have hF1 := hF.step hb1
  have hB1 := hF.B
  have hz1 := hF.z
  generalize hr : segmentF p e = r at hfin hP1
  have HR := Lib.hid hr
  clear hr
  obtain ⟨q, n⟩ := r
  go_wp2_with (refine store_res rfl (.tmp 4) (.tmp 16) rfl #[.string q.loc, .string q.off, .slice h1.an h1.nn h1.cn, .slice h1.ag h1.ng h1.cg, .slice h1.ap h1.np h1.cp, .int .i64 q.tik.kind, .int .i64 q.tik.day, .int .i64 q.tik.min, .string q.rc, .slice h1.ar h1.nr h1.cr, .slice h1.ae h1.ne h1.ce, .bool q.queued] rfl rfl hF1.r3 rfl rfl (by simp [Value.oneCell']) ?_)
  have hF9 := hF1.put3 #[.string q.loc, .string q.off, .slice h1.an h1.nn h1.cn, .slice h1.ag h1.ng h1.cg, .slice h1.ap h1.np h1.cp, .int .i64 q.tik.kind, .int .i64 q.tik.day, .int .i64 q.tik.min, .string q.rc, .slice h1.ar h1.nr h1.cr, .slice h1.ae h1.ne h1.ce, .bool q.queued]
  refine ret_ct Tryz.results54 hF9.r3 rfl rfl rfl rfl ?_
  exact RetQ.pass hfin.out HB.out hF1 (PS.mono hP1 fun b hb => by
    rcases hb with h | h
    · exact .inl h
    · exact .inr ⟨by have := h.1; simp at this; omega, h.2⟩)

set_option maxRecDepth 100000 in
set_option maxHeartbeats 4000000 in
theorem rchange_3 (p : Pnr) (h : Hd) (e : Edit) (w : World) (S : Nat → Prop) (hp : PS w S p h) (hS : ∀ b, S b → b < w.heap.size) (hs : p.small 100000) (he : e.ok) (hk : e.kind = 3) :
    Calls Tryz.prog 54 #[.agg #[.string p.loc, .string p.off, .slice h.an h.nn h.cn, .slice h.ag h.ng h.cg, .slice h.ap h.np h.cp, .int .i64 p.tik.kind, .int .i64 p.tik.day, .int .i64 p.tik.min, .string p.rc, .slice h.ar h.nr h.cr, .slice h.ae h.ne h.ce, .bool p.queued], .agg #[.int .i64 e.kind, .string e.nam.last, .string e.nam.first, .string e.seg.car, .int .i64 e.seg.num, .int .i64 e.seg.day, .int .u8 e.seg.cls, .bool e.seg.live, .int .i64 e.tik.kind, .int .i64 e.tik.day, .int .i64 e.tik.min, .string e.text, .int .i64 e.n, .int .i64 e.pax, .int .i64 e.row, .int .u8 e.let_]] w (RetQ w S (changeF p e)) := by
  have HP := Lib.hid hp
  have HO := Lib.hid (hp.old hS)
  have HS := Lib.hid (hs.hd (hp.old hS))
  have HE := Lib.hid he
  have HSM := Lib.hid hs
  have HB := Lib.hid hS
  clear hp hS hs
  obtain ⟨e1, e2, e3, e4, e5, e6, e7, e8, e9⟩ := he
  obtain ⟨an, nn, cn, ag, ng, cg, ap, np, cp, ar, nr, cr, ae, ne, ce⟩ := h
  dsimp only
  have hF := FR.start w #[.string p.loc, .string p.off, .slice an nn cn, .slice ag ng cg, .slice ap np cp, .int .i64 p.tik.kind, .int .i64 p.tik.day, .int .i64 p.tik.min, .string p.rc, .slice ar nr cr, .slice ae ne ce, .bool p.queued] #[.int .i64 e.kind, .string e.nam.last, .string e.nam.first, .string e.seg.car, .int .i64 e.seg.num, .int .i64 e.seg.day, .int .u8 e.seg.cls, .bool e.seg.live, .int .i64 e.tik.kind, .int .i64 e.tik.day, .int .i64 e.tik.min, .string e.text, .int .i64 e.n, .int .i64 e.pax, .int .i64 e.row, .int .u8 e.let_] zc
  unfold zc at hF
  have hfin := Lib.hid (show changeF p e = ({ p with phones := (textF p.phones e.text 4).1 }, (textF p.phones e.text 4).2) by unfold changeF; rw [hk]; rfl)
  have HK := Lib.hid hk
  have k1 : (e.kind == 1) = false := by rw [hk]; rfl
  have k2 : (e.kind == 2) = false := by rw [hk]; rfl
  have k3 : (e.kind == 3) = true := by rw [hk]; rfl
  have k4 : (e.kind == 4) = false := by rw [hk]; rfl
  have k5 : (e.kind == 5) = false := by rw [hk]; rfl
  have k6 : (e.kind == 6) = false := by rw [hk]; rfl
  have k7 : (e.kind == 7) = false := by rw [hk]; rfl
  have k8 : (e.kind == 8) = false := by rw [hk]; rfl
  have k9 : (e.kind == 9) = false := by rw [hk]; rfl
  clear hk
  go_enter Tryz.func54, Tryz.ntmps54
  go_wp2_with fail
  refine (rwrite_ph p (Hd.mk an nn cn ag ng cg ap np cp ar nr cr ae ne ce) e _ S (HP.out.below hF.B HB.out) (fun b hb => by have := HB.out b hb; have := hF.z; omega) HSM.out HE.out HK.out).mono ?_
  rintro en w1 ⟨h1, rfl, hP1, hb1⟩
  have hF1 := hF.step hb1
  have hB1 := hF.B
  have hz1 := hF.z
  generalize hr : ({ p with phones := (textF p.phones e.text 4).1 }, (textF p.phones e.text 4).2) = r at hfin hP1
  have HR := Lib.hid hr
  clear hr
  obtain ⟨q, n⟩ := r
  go_wp2_with (refine store_res rfl (.tmp 4) (.tmp 25) rfl #[.string q.loc, .string q.off, .slice h1.an h1.nn h1.cn, .slice h1.ag h1.ng h1.cg, .slice h1.ap h1.np h1.cp, .int .i64 q.tik.kind, .int .i64 q.tik.day, .int .i64 q.tik.min, .string q.rc, .slice h1.ar h1.nr h1.cr, .slice h1.ae h1.ne h1.ce, .bool q.queued] rfl rfl hF1.r3 rfl rfl (by simp [Value.oneCell']) ?_)
  have hF9 := hF1.put3 #[.string q.loc, .string q.off, .slice h1.an h1.nn h1.cn, .slice h1.ag h1.ng h1.cg, .slice h1.ap h1.np h1.cp, .int .i64 q.tik.kind, .int .i64 q.tik.day, .int .i64 q.tik.min, .string q.rc, .slice h1.ar h1.nr h1.cr, .slice h1.ae h1.ne h1.ce, .bool q.queued]
  refine ret_ct Tryz.results54 hF9.r3 rfl rfl rfl rfl ?_
  exact RetQ.pass hfin.out HB.out hF1 (PS.mono hP1 fun b hb => by
    rcases hb with h | h
    · exact .inl h
    · exact .inr ⟨by have := h.1; simp at this; omega, h.2⟩)

set_option maxRecDepth 100000 in
set_option maxHeartbeats 4000000 in
theorem rchange_5 (p : Pnr) (h : Hd) (e : Edit) (w : World) (S : Nat → Prop) (hp : PS w S p h) (hS : ∀ b, S b → b < w.heap.size) (hs : p.small 100000) (he : e.ok) (hk : e.kind = 5) :
    Calls Tryz.prog 54 #[.agg #[.string p.loc, .string p.off, .slice h.an h.nn h.cn, .slice h.ag h.ng h.cg, .slice h.ap h.np h.cp, .int .i64 p.tik.kind, .int .i64 p.tik.day, .int .i64 p.tik.min, .string p.rc, .slice h.ar h.nr h.cr, .slice h.ae h.ne h.ce, .bool p.queued], .agg #[.int .i64 e.kind, .string e.nam.last, .string e.nam.first, .string e.seg.car, .int .i64 e.seg.num, .int .i64 e.seg.day, .int .u8 e.seg.cls, .bool e.seg.live, .int .i64 e.tik.kind, .int .i64 e.tik.day, .int .i64 e.tik.min, .string e.text, .int .i64 e.n, .int .i64 e.pax, .int .i64 e.row, .int .u8 e.let_]] w (RetQ w S (changeF p e)) := by
  have HP := Lib.hid hp
  have HO := Lib.hid (hp.old hS)
  have HS := Lib.hid (hs.hd (hp.old hS))
  have HE := Lib.hid he
  have HSM := Lib.hid hs
  have HB := Lib.hid hS
  clear hp hS hs
  obtain ⟨e1, e2, e3, e4, e5, e6, e7, e8, e9⟩ := he
  obtain ⟨an, nn, cn, ag, ng, cg, ap, np, cp, ar, nr, cr, ae, ne, ce⟩ := h
  dsimp only
  have hF := FR.start w #[.string p.loc, .string p.off, .slice an nn cn, .slice ag ng cg, .slice ap np cp, .int .i64 p.tik.kind, .int .i64 p.tik.day, .int .i64 p.tik.min, .string p.rc, .slice ar nr cr, .slice ae ne ce, .bool p.queued] #[.int .i64 e.kind, .string e.nam.last, .string e.nam.first, .string e.seg.car, .int .i64 e.seg.num, .int .i64 e.seg.day, .int .u8 e.seg.cls, .bool e.seg.live, .int .i64 e.tik.kind, .int .i64 e.tik.day, .int .i64 e.tik.min, .string e.text, .int .i64 e.n, .int .i64 e.pax, .int .i64 e.row, .int .u8 e.let_] zc
  unfold zc at hF
  have hfin := Lib.hid (show changeF p e = ((if freeB e.text = false then (p, 4) else ({ p with rc := e.text }, 0)) : Pnr × Int) by unfold changeF; rw [hk]; rfl)
  have HK := Lib.hid hk
  have k1 : (e.kind == 1) = false := by rw [hk]; rfl
  have k2 : (e.kind == 2) = false := by rw [hk]; rfl
  have k3 : (e.kind == 3) = false := by rw [hk]; rfl
  have k4 : (e.kind == 4) = false := by rw [hk]; rfl
  have k5 : (e.kind == 5) = true := by rw [hk]; rfl
  have k6 : (e.kind == 6) = false := by rw [hk]; rfl
  have k7 : (e.kind == 7) = false := by rw [hk]; rfl
  have k8 : (e.kind == 8) = false := by rw [hk]; rfl
  have k9 : (e.kind == 9) = false := by rw [hk]; rfl
  clear hk
  go_enter Tryz.func54, Tryz.ntmps54
  go_wp2_with fail
  refine (rwrite_rc p (Hd.mk an nn cn ag ng cg ap np cp ar nr cr ae ne ce) e _ S (HP.out.below hF.B HB.out) (fun b hb => by have := HB.out b hb; have := hF.z; omega) HSM.out HE.out HK.out).mono ?_
  rintro en w1 ⟨h1, rfl, hP1, hb1⟩
  have hF1 := hF.step hb1
  have hB1 := hF.B
  have hz1 := hF.z
  generalize hr : ((if freeB e.text = false then (p, 4) else ({ p with rc := e.text }, 0)) : Pnr × Int) = r at hfin hP1
  have HR := Lib.hid hr
  clear hr
  obtain ⟨q, n⟩ := r
  go_wp2_with (refine store_res rfl (.tmp 4) (.tmp 25) rfl #[.string q.loc, .string q.off, .slice h1.an h1.nn h1.cn, .slice h1.ag h1.ng h1.cg, .slice h1.ap h1.np h1.cp, .int .i64 q.tik.kind, .int .i64 q.tik.day, .int .i64 q.tik.min, .string q.rc, .slice h1.ar h1.nr h1.cr, .slice h1.ae h1.ne h1.ce, .bool q.queued] rfl rfl hF1.r3 rfl rfl (by simp [Value.oneCell']) ?_)
  have hF9 := hF1.put3 #[.string q.loc, .string q.off, .slice h1.an h1.nn h1.cn, .slice h1.ag h1.ng h1.cg, .slice h1.ap h1.np h1.cp, .int .i64 q.tik.kind, .int .i64 q.tik.day, .int .i64 q.tik.min, .string q.rc, .slice h1.ar h1.nr h1.cr, .slice h1.ae h1.ne h1.ce, .bool q.queued]
  refine ret_ct Tryz.results54 hF9.r3 rfl rfl rfl rfl ?_
  exact RetQ.pass hfin.out HB.out hF1 (PS.mono hP1 fun b hb => by
    rcases hb with h | h
    · exact .inl h
    · exact .inr ⟨by have := h.1; simp at this; omega, h.2⟩)

set_option maxRecDepth 100000 in
set_option maxHeartbeats 4000000 in
theorem rchange_6 (p : Pnr) (h : Hd) (e : Edit) (w : World) (S : Nat → Prop) (hp : PS w S p h) (hS : ∀ b, S b → b < w.heap.size) (hs : p.small 100000) (he : e.ok) (hk : e.kind = 6) :
    Calls Tryz.prog 54 #[.agg #[.string p.loc, .string p.off, .slice h.an h.nn h.cn, .slice h.ag h.ng h.cg, .slice h.ap h.np h.cp, .int .i64 p.tik.kind, .int .i64 p.tik.day, .int .i64 p.tik.min, .string p.rc, .slice h.ar h.nr h.cr, .slice h.ae h.ne h.ce, .bool p.queued], .agg #[.int .i64 e.kind, .string e.nam.last, .string e.nam.first, .string e.seg.car, .int .i64 e.seg.num, .int .i64 e.seg.day, .int .u8 e.seg.cls, .bool e.seg.live, .int .i64 e.tik.kind, .int .i64 e.tik.day, .int .i64 e.tik.min, .string e.text, .int .i64 e.n, .int .i64 e.pax, .int .i64 e.row, .int .u8 e.let_]] w (RetQ w S (changeF p e)) := by
  have HP := Lib.hid hp
  have HO := Lib.hid (hp.old hS)
  have HS := Lib.hid (hs.hd (hp.old hS))
  have HE := Lib.hid he
  have HSM := Lib.hid hs
  have HB := Lib.hid hS
  clear hp hS hs
  obtain ⟨e1, e2, e3, e4, e5, e6, e7, e8, e9⟩ := he
  obtain ⟨an, nn, cn, ag, ng, cg, ap, np, cp, ar, nr, cr, ae, ne, ce⟩ := h
  dsimp only
  have hF := FR.start w #[.string p.loc, .string p.off, .slice an nn cn, .slice ag ng cg, .slice ap np cp, .int .i64 p.tik.kind, .int .i64 p.tik.day, .int .i64 p.tik.min, .string p.rc, .slice ar nr cr, .slice ae ne ce, .bool p.queued] #[.int .i64 e.kind, .string e.nam.last, .string e.nam.first, .string e.seg.car, .int .i64 e.seg.num, .int .i64 e.seg.day, .int .u8 e.seg.cls, .bool e.seg.live, .int .i64 e.tik.kind, .int .i64 e.tik.day, .int .i64 e.tik.min, .string e.text, .int .i64 e.n, .int .i64 e.pax, .int .i64 e.row, .int .u8 e.let_] zc
  unfold zc at hF
  have hfin := Lib.hid (show changeF p e = ({ p with remarks := (textF p.remarks e.text 10).1 }, (textF p.remarks e.text 10).2) by unfold changeF; rw [hk]; rfl)
  have HK := Lib.hid hk
  have k1 : (e.kind == 1) = false := by rw [hk]; rfl
  have k2 : (e.kind == 2) = false := by rw [hk]; rfl
  have k3 : (e.kind == 3) = false := by rw [hk]; rfl
  have k4 : (e.kind == 4) = false := by rw [hk]; rfl
  have k5 : (e.kind == 5) = false := by rw [hk]; rfl
  have k6 : (e.kind == 6) = true := by rw [hk]; rfl
  have k7 : (e.kind == 7) = false := by rw [hk]; rfl
  have k8 : (e.kind == 8) = false := by rw [hk]; rfl
  have k9 : (e.kind == 9) = false := by rw [hk]; rfl
  clear hk
  go_enter Tryz.func54, Tryz.ntmps54
  go_wp2_with fail
  refine (rwrite_rm p (Hd.mk an nn cn ag ng cg ap np cp ar nr cr ae ne ce) e _ S (HP.out.below hF.B HB.out) (fun b hb => by have := HB.out b hb; have := hF.z; omega) HSM.out HE.out HK.out).mono ?_
  rintro en w1 ⟨h1, rfl, hP1, hb1⟩
  have hF1 := hF.step hb1
  have hB1 := hF.B
  have hz1 := hF.z
  generalize hr : ({ p with remarks := (textF p.remarks e.text 10).1 }, (textF p.remarks e.text 10).2) = r at hfin hP1
  have HR := Lib.hid hr
  clear hr
  obtain ⟨q, n⟩ := r
  go_wp2_with (refine store_res rfl (.tmp 4) (.tmp 25) rfl #[.string q.loc, .string q.off, .slice h1.an h1.nn h1.cn, .slice h1.ag h1.ng h1.cg, .slice h1.ap h1.np h1.cp, .int .i64 q.tik.kind, .int .i64 q.tik.day, .int .i64 q.tik.min, .string q.rc, .slice h1.ar h1.nr h1.cr, .slice h1.ae h1.ne h1.ce, .bool q.queued] rfl rfl hF1.r3 rfl rfl (by simp [Value.oneCell']) ?_)
  have hF9 := hF1.put3 #[.string q.loc, .string q.off, .slice h1.an h1.nn h1.cn, .slice h1.ag h1.ng h1.cg, .slice h1.ap h1.np h1.cp, .int .i64 q.tik.kind, .int .i64 q.tik.day, .int .i64 q.tik.min, .string q.rc, .slice h1.ar h1.nr h1.cr, .slice h1.ae h1.ne h1.ce, .bool q.queued]
  refine ret_ct Tryz.results54 hF9.r3 rfl rfl rfl rfl ?_
  exact RetQ.pass hfin.out HB.out hF1 (PS.mono hP1 fun b hb => by
    rcases hb with h | h
    · exact .inl h
    · exact .inr ⟨by have := h.1; simp at this; omega, h.2⟩)

set_option maxRecDepth 100000 in
set_option maxHeartbeats 4000000 in
theorem rchange_8 (p : Pnr) (h : Hd) (e : Edit) (w : World) (S : Nat → Prop) (hp : PS w S p h) (hS : ∀ b, S b → b < w.heap.size) (hs : p.small 100000) (he : e.ok) (hk : e.kind = 8) :
    Calls Tryz.prog 54 #[.agg #[.string p.loc, .string p.off, .slice h.an h.nn h.cn, .slice h.ag h.ng h.cg, .slice h.ap h.np h.cp, .int .i64 p.tik.kind, .int .i64 p.tik.day, .int .i64 p.tik.min, .string p.rc, .slice h.ar h.nr h.cr, .slice h.ae h.ne h.ce, .bool p.queued], .agg #[.int .i64 e.kind, .string e.nam.last, .string e.nam.first, .string e.seg.car, .int .i64 e.seg.num, .int .i64 e.seg.day, .int .u8 e.seg.cls, .bool e.seg.live, .int .i64 e.tik.kind, .int .i64 e.tik.day, .int .i64 e.tik.min, .string e.text, .int .i64 e.n, .int .i64 e.pax, .int .i64 e.row, .int .u8 e.let_]] w (RetQ w S (changeF p e)) := by
  have HP := Lib.hid hp
  have HO := Lib.hid (hp.old hS)
  have HS := Lib.hid (hs.hd (hp.old hS))
  have HE := Lib.hid he
  have HSM := Lib.hid hs
  have HB := Lib.hid hS
  clear hp hS hs
  obtain ⟨e1, e2, e3, e4, e5, e6, e7, e8, e9⟩ := he
  obtain ⟨an, nn, cn, ag, ng, cg, ap, np, cp, ar, nr, cr, ae, ne, ce⟩ := h
  dsimp only
  have hF := FR.start w #[.string p.loc, .string p.off, .slice an nn cn, .slice ag ng cg, .slice ap np cp, .int .i64 p.tik.kind, .int .i64 p.tik.day, .int .i64 p.tik.min, .string p.rc, .slice ar nr cr, .slice ae ne ce, .bool p.queued] #[.int .i64 e.kind, .string e.nam.last, .string e.nam.first, .string e.seg.car, .int .i64 e.seg.num, .int .i64 e.seg.day, .int .u8 e.seg.cls, .bool e.seg.live, .int .i64 e.tik.kind, .int .i64 e.tik.day, .int .i64 e.tik.min, .string e.text, .int .i64 e.n, .int .i64 e.pax, .int .i64 e.row, .int .u8 e.let_] zc
  unfold zc at hF
  have hfin := Lib.hid (show changeF p e = seatF p e by unfold changeF; rw [hk]; rfl)
  have HK := Lib.hid hk
  have k1 : (e.kind == 1) = false := by rw [hk]; rfl
  have k2 : (e.kind == 2) = false := by rw [hk]; rfl
  have k3 : (e.kind == 3) = false := by rw [hk]; rfl
  have k4 : (e.kind == 4) = false := by rw [hk]; rfl
  have k5 : (e.kind == 5) = false := by rw [hk]; rfl
  have k6 : (e.kind == 6) = false := by rw [hk]; rfl
  have k7 : (e.kind == 7) = false := by rw [hk]; rfl
  have k8 : (e.kind == 8) = true := by rw [hk]; rfl
  have k9 : (e.kind == 9) = false := by rw [hk]; rfl
  clear hk
  go_enter Tryz.func54, Tryz.ntmps54
  go_wp2_with fail
  refine (rseat_any p (Hd.mk an nn cn ag ng cg ap np cp ar nr cr ae ne ce) e _ S (HP.out.below hF.B HB.out) (fun b hb => by have := HB.out b hb; have := hF.z; omega) HSM.out HE.out).mono ?_
  rintro en w1 ⟨h1, rfl, hP1, hb1⟩
  have hF1 := hF.step hb1
  have hB1 := hF.B
  have hz1 := hF.z
  generalize hr : seatF p e = r at hfin hP1
  have HR := Lib.hid hr
  clear hr
  obtain ⟨q, n⟩ := r
  go_wp2_with (refine store_res rfl (.tmp 4) (.tmp 70) rfl #[.string q.loc, .string q.off, .slice h1.an h1.nn h1.cn, .slice h1.ag h1.ng h1.cg, .slice h1.ap h1.np h1.cp, .int .i64 q.tik.kind, .int .i64 q.tik.day, .int .i64 q.tik.min, .string q.rc, .slice h1.ar h1.nr h1.cr, .slice h1.ae h1.ne h1.ce, .bool q.queued] rfl rfl hF1.r3 rfl rfl (by simp [Value.oneCell']) ?_)
  have hF9 := hF1.put3 #[.string q.loc, .string q.off, .slice h1.an h1.nn h1.cn, .slice h1.ag h1.ng h1.cg, .slice h1.ap h1.np h1.cp, .int .i64 q.tik.kind, .int .i64 q.tik.day, .int .i64 q.tik.min, .string q.rc, .slice h1.ar h1.nr h1.cr, .slice h1.ae h1.ne h1.ce, .bool q.queued]
  refine ret_ct Tryz.results54 hF9.r3 rfl rfl rfl rfl ?_
  exact RetQ.pass hfin.out HB.out hF1 (PS.mono hP1 fun b hb => by
    rcases hb with h | h
    · exact .inl h
    · exact .inr ⟨by have := h.1; simp at this; omega, h.2⟩)
end Go.Proofs.YtpgeoahlhdifoaaGreatDoor
namespace Go.Proofs.YtpgeoahlhdifoaaGreatDoor
set_option linter.unusedVariables false
open Go Go.RowKit
theorem rchange_any (p : Pnr) (h : Hd) (e : Edit) (w : World) (S : Nat → Prop) (hp : PS w S p h) (hS : ∀ b, S b → b < w.heap.size) (hs : p.small 100000) (he : e.ok) :
    Calls Tryz.prog 54 #[.agg #[.string p.loc, .string p.off, .slice h.an h.nn h.cn, .slice h.ag h.ng h.cg, .slice h.ap h.np h.cp, .int .i64 p.tik.kind, .int .i64 p.tik.day, .int .i64 p.tik.min, .string p.rc, .slice h.ar h.nr h.cr, .slice h.ae h.ne h.ce, .bool p.queued], .agg #[.int .i64 e.kind, .string e.nam.last, .string e.nam.first, .string e.seg.car, .int .i64 e.seg.num, .int .i64 e.seg.day, .int .u8 e.seg.cls, .bool e.seg.live, .int .i64 e.tik.kind, .int .i64 e.tik.day, .int .i64 e.tik.min, .string e.text, .int .i64 e.n, .int .i64 e.pax, .int .i64 e.row, .int .u8 e.let_]] w (RetQ w S (changeF p e)) := by
  by_cases h1 : e.kind = 1
  · exact rchange_1 p h e w S hp hS hs he h1
  by_cases h2 : e.kind = 2
  · exact rchange_2 p h e w S hp hS hs he h2
  by_cases h3 : e.kind = 3
  · exact rchange_3 p h e w S hp hS hs he h3
  by_cases h4 : e.kind = 4
  · exact rchange_4 p h e w S hp hS hs he h4
  by_cases h5 : e.kind = 5
  · exact rchange_5 p h e w S hp hS hs he h5
  by_cases h6 : e.kind = 6
  · exact rchange_6 p h e w S hp hS hs he h6
  by_cases h7 : e.kind = 7
  · exact rchange_7 p h e w S hp hS hs he h7
  by_cases h8 : e.kind = 8
  · exact rchange_8 p h e w S hp hS hs he h8
  by_cases h9 : e.kind = 9
  · exact rchange_9 p h e w S hp hS hs he h9
  exact rchange_0 p h e w S hp hS hs he fun c c1 c2 => by rw [beq_eq_false_iff_ne]; omega
theorem pnr0_ps (w : World) (S : Nat → Prop) : PS w S pnr0 (Hd.mk none 0 0 none 0 0 none 0 0 none 0 0 none 0 0) :=
  ⟨by simp [okStr, pnr0, ByteArray.size], by simp [okStr, pnr0, ByteArray.size], by simp [okStr, pnr0, ByteArray.size], by simp [Tik.ok, okInt, pnr0], SlS.nil_ _ _ _, SlS.nil_ _ _ _, SlS.nil_ _ _ _, SlS.nil_ _ _ _, SlS.nil_ _ _ _⟩
set_option maxRecDepth 100000 in
set_option maxHeartbeats 4000000 in
theorem rapply_any (p : Pnr) (h : Hd) (e : Edit) (w : World) (S : Nat → Prop) (hp : PS w S p h) (hS : ∀ b, S b → b < w.heap.size) (hs : p.small 100000) (he : e.ok) :
    Calls Tryz.prog 44 #[.agg #[.string p.loc, .string p.off, .slice h.an h.nn h.cn, .slice h.ag h.ng h.cg, .slice h.ap h.np h.cp, .int .i64 p.tik.kind, .int .i64 p.tik.day, .int .i64 p.tik.min, .string p.rc, .slice h.ar h.nr h.cr, .slice h.ae h.ne h.ce, .bool p.queued], .agg #[.int .i64 e.kind, .string e.nam.last, .string e.nam.first, .string e.seg.car, .int .i64 e.seg.num, .int .i64 e.seg.day, .int .u8 e.seg.cls, .bool e.seg.live, .int .i64 e.tik.kind, .int .i64 e.tik.day, .int .i64 e.tik.min, .string e.text, .int .i64 e.n, .int .i64 e.pax, .int .i64 e.row, .int .u8 e.let_]] w (RetQ w S (applyF p e)) := by
  have HP := Lib.hid hp
  have HE := Lib.hid he
  have HSM := Lib.hid hs
  have HB := Lib.hid hS
  clear hp hS hs he
  have hF := FR.start w #[.string p.loc, .string p.off, .slice h.an h.nn h.cn, .slice h.ag h.ng h.cg, .slice h.ap h.np h.cp, .int .i64 p.tik.kind, .int .i64 p.tik.day, .int .i64 p.tik.min, .string p.rc, .slice h.ar h.nr h.cr, .slice h.ae h.ne h.ce, .bool p.queued] #[.int .i64 e.kind, .string e.nam.last, .string e.nam.first, .string e.seg.car, .int .i64 e.seg.num, .int .i64 e.seg.day, .int .u8 e.seg.cls, .bool e.seg.live, .int .i64 e.tik.kind, .int .i64 e.tik.day, .int .i64 e.tik.min, .string e.text, .int .i64 e.n, .int .i64 e.pax, .int .i64 e.row, .int .u8 e.let_] zc
  unfold zc at hF
  have HX := Lib.hid (show applyF p e = (if (changeF p e).2 ≠ 0 then (pnr0, (changeF p e).2) else ((changeF p e).1, 0)) from rfl)
  go_enter Tryz.func44, Tryz.ntmps44
  go_wp2_with fail
  refine (rchange_any p h e _ S (HP.out.below hF.B HB.out) (fun b hb => by have := HB.out b hb; have := hF.z; omega) HSM.out HE.out).mono ?_
  rintro en w1 ⟨h1, rfl, hP1, hb1⟩
  have hF1 := hF.step hb1
  have hP2 := PS.mono (S' := fun b => S b ∨ (w.heap.size + 1 + 1 + 1 ≤ b ∧ b < w1.heap.size)) hP1 fun b hb => by
    rcases hb with h | h
    · exact .inl h
    · exact .inr ⟨by have := h.1; simp at this; omega, h.2⟩
  clear hP1 hb1 hF
  generalize hr : changeF p e = r at HX hP2
  have HR := Lib.hid hr
  clear hr
  obtain ⟨q, n⟩ := r
  dsimp only at hP2
  have z1 := hF1.z
  by_cases hn : n = 0
  · have hfin := Lib.hid (show applyF p e = (q, 0) by rw [HX.out, if_neg (by simpa using hn)])
    have hn2 : (n != 0) = false := by rw [bne_eq_false_iff_eq]; exact hn
    clear hn
    have hF2 := hF1.alloc (.cells #[.string q.loc, .string q.off, .slice h1.an h1.nn h1.cn, .slice h1.ag h1.ng h1.cg, .slice h1.ap h1.np h1.cp, .int .i64 q.tik.kind, .int .i64 q.tik.day, .int .i64 q.tik.min, .string q.rc, .slice h1.ar h1.nr h1.cr, .slice h1.ae h1.ne h1.ce, .bool q.queued] 29)
    have hP3 := PS.below (B := w1.heap.size) hP2 ((Below.refl _ _).alloc (Nat.le_refl _) (.cells #[.string q.loc, .string q.off, .slice h1.an h1.nn h1.cn, .slice h1.ag h1.ng h1.cg, .slice h1.ap h1.np h1.cp, .int .i64 q.tik.kind, .int .i64 q.tik.day, .int .i64 q.tik.min, .string q.rc, .slice h1.ar h1.nr h1.cr, .slice h1.ae h1.ne h1.ce, .bool q.queued] 29)) fun b hb => by
      rcases hb with h | h
      · have := HB.out b h; omega
      · exact h.2
    go_wp2_with (refine store_res rfl (.tmp 4) (.tmp 18) rfl #[.string q.loc, .string q.off, .slice h1.an h1.nn h1.cn, .slice h1.ag h1.ng h1.cg, .slice h1.ap h1.np h1.cp, .int .i64 q.tik.kind, .int .i64 q.tik.day, .int .i64 q.tik.min, .string q.rc, .slice h1.ar h1.nr h1.cr, .slice h1.ae h1.ne h1.ce, .bool q.queued] rfl rfl hF2.r3 rfl rfl (by simp [Value.oneCell']) ?_)
    have hF9 := hF2.put3 #[.string q.loc, .string q.off, .slice h1.an h1.nn h1.cn, .slice h1.ag h1.ng h1.cg, .slice h1.ap h1.np h1.cp, .int .i64 q.tik.kind, .int .i64 q.tik.day, .int .i64 q.tik.min, .string q.rc, .slice h1.ar h1.nr h1.cr, .slice h1.ae h1.ne h1.ce, .bool q.queued]
    refine ret_ct Tryz.results44 hF9.r3 rfl rfl rfl rfl ?_
    exact RetQ.pass hfin.out HB.out hF2 (PS.mono hP3 fun b hb => by
      rcases hb with h | h
      · exact .inl h
      · exact .inr ⟨h.1, by simp; omega⟩)
  · have hfin := Lib.hid (show applyF p e = (pnr0, n) by rw [HX.out, if_pos (by simpa using hn)])
    have hn2 : (n != 0) = true := by rw [bne_iff_ne]; exact hn
    clear hn
    have hF2 := hF1.alloc (.cells #[.string q.loc, .string q.off, .slice h1.an h1.nn h1.cn, .slice h1.ag h1.ng h1.cg, .slice h1.ap h1.np h1.cp, .int .i64 q.tik.kind, .int .i64 q.tik.day, .int .i64 q.tik.min, .string q.rc, .slice h1.ar h1.nr h1.cr, .slice h1.ae h1.ne h1.ce, .bool q.queued] 29)
    go_wp2_with (refine store_res rfl (.tmp 4) (.tmp 16) rfl #[.string ⟨#[]⟩, .string ⟨#[]⟩, .slice none 0 0, .slice none 0 0, .slice none 0 0, .int .i64 0, .int .i64 0, .int .i64 0, .string ⟨#[]⟩, .slice none 0 0, .slice none 0 0, .bool false] rfl rfl hF2.r3 rfl rfl (by simp [Value.oneCell']) ?_)
    have hF9 := hF2.put3 #[.string ⟨#[]⟩, .string ⟨#[]⟩, .slice none 0 0, .slice none 0 0, .slice none 0 0, .int .i64 0, .int .i64 0, .int .i64 0, .string ⟨#[]⟩, .slice none 0 0, .slice none 0 0, .bool false]
    refine ret_ct Tryz.results44 hF9.r3 rfl rfl rfl rfl ?_
    exact RetQ.mk' (q := pnr0) (h' := Hd.mk none 0 0 none 0 0 none 0 0 none 0 0 none 0 0) hfin.out (pnr0_ps _ _) hF9.B
end Go.Proofs.YtpgeoahlhdifoaaGreatDoor
