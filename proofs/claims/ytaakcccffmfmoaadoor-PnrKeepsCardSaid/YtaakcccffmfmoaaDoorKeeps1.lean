/- PnrKeeps: the walk, where a list grows. -/
import Derived.Test.YtaakcccffmfmoaaDoorBoxes
namespace Go.Proofs.YtaakcccffmfmoaaDoor
set_option linter.unusedVariables false
open Go Go.RowKit
theorem Own.cap {α : Type} {w : World} {B n c : Nat} {E : TypeId} {T : Ty α} {A : Option Addr} {l : List α} (h : Own w B E T (.slice A n c) l) (hn : 0 < n) : n ≤ c := by
  cases A with
  | none =>
    rcases h.row.2 with ⟨_, h2⟩ | ⟨_, _, _, h1, _⟩
    · have := h.sl.len; omega
    · cases h1
  | some a =>
    obtain ⟨_, _, _, _, _, h1, _⟩ := h.open_
    exact h1
theorem Sl.cut {α : Type} {w : World} {lo hi n m : Nat} {T : Ty α} {A : Option Addr} {l : List α} (h : Sl w lo hi T A n l) (hm : m ≤ n) : Sl w lo hi T A m (l.take m) := by
  refine ⟨by rw [List.length_take, h.len]; omega, fun x hx => h.wf x (List.mem_of_mem_take hx), fun hpos => ?_⟩
  obtain ⟨b, o, e, h1, h2, hc⟩ := h.cells (by omega)
  refine ⟨b, o, e, h1, h2, fun k x hx j u hu => hc k x ?_ j u hu⟩
  rw [List.getElem?_take] at hx
  split at hx
  · exact hx
  · cases hx
theorem OP.aside {W : World} {B g : Nat} {q : Pnr} {h : Hd} (H : OP W B q h) (hg : ¬ rowP h g) (i : Nat) (u : Value) : OP (W.setCell ⟨g, i, none⟩ u) B q h :=
  H.grown (g := g) (fun k hk e => hg (e ▸ hk)) ⟨rfl, rfl, rfl, by simp, fun k _ hne => Below.heap_setCell W _ u k (fun e => hne (by rw [e]))⟩
set_option maxRecDepth 100000 in
set_option maxHeartbeats 8000000 in
theorem keeps_1 (p : Pnr) (h : Hd) (e : Edit) (w : World) (hp : PAt w 0 w.heap.size p h) (hc : Caps h) (he : e.ok) (hsb : smallB h = true) (hk : e.kind = 1) (hq : applyF p e = ({ p with names := p.names ++ [e.nam] }, 0)) :
    Calls Tryd.prog 10 #[.agg #[.string p.loc, .string p.off, .slice h.an h.nn h.cn, .slice h.ag h.ng h.cg, .slice h.ap h.np h.cp, .int .i64 p.tik.kind, .int .i64 p.tik.day, .int .i64 p.tik.min, .string p.rc, .slice h.ar h.nr h.cr, .slice h.ae h.ne h.ce, .bool p.queued], .agg #[.int .i64 e.kind, .string e.nam.last, .string e.nam.first, .string e.seg.car, .int .i64 e.seg.num, .int .i64 e.seg.day, .int .u8 e.seg.cls, .bool e.seg.live, .int .i64 e.tik.kind, .int .i64 e.tik.day, .int .i64 e.tik.min, .string e.text, .int .i64 e.n, .int .i64 e.pax, .int .i64 e.row, .int .u8 e.let_]] w (RetB w true) := by
  have hps := smallB_pnr hsb hp
  have HSM := Lib.hid (hps.mono (show 200 ≤ 100000 by omega))
  have HP := Lib.hid (hp.ps hc)
  have HLnames := Lib.hid hp.names.len
  have HLsegs := Lib.hid hp.segs.len
  have HLphones := Lib.hid hp.phones.len
  have HLremarks := Lib.hid hp.remarks.len
  obtain ⟨s1, s2, s3, s4, s5⟩ := smallB_yes hsb
  obtain ⟨an, nn, cn, ag, ng, cg, ap, np, cp, ar, nr, cr, ae, ne, ce⟩ := h
  dsimp only at s1 s2 s3 s4 s5
  dsimp only
  have H0 : BS w [(w.heap.size + 1, #[.int .i64 e.kind, .string e.nam.last, .string e.nam.first, .string e.seg.car, .int .i64 e.seg.num, .int .i64 e.seg.day, .int .u8 e.seg.cls, .bool e.seg.live, .int .i64 e.tik.kind, .int .i64 e.tik.day, .int .i64 e.tik.min, .string e.text, .int .i64 e.n, .int .i64 e.pax, .int .i64 e.row, .int .u8 e.let_]), (w.heap.size, #[.string p.loc, .string p.off, .slice an nn cn, .slice ag ng cg, .slice ap np cp, .int .i64 p.tik.kind, .int .i64 p.tik.day, .int .i64 p.tik.min, .string p.rc, .slice ar nr cr, .slice ae ne ce, .bool p.queued])] ((w.alloc (.cells #[.string p.loc, .string p.off, .slice an nn cn, .slice ag ng cg, .slice ap np cp, .int .i64 p.tik.kind, .int .i64 p.tik.day, .int .i64 p.tik.min, .string p.rc, .slice ar nr cr, .slice ae ne ce, .bool p.queued] 29)).alloc (.cells #[.int .i64 e.kind, .string e.nam.last, .string e.nam.first, .string e.seg.car, .int .i64 e.seg.num, .int .i64 e.seg.day, .int .u8 e.seg.cls, .bool e.seg.live, .int .i64 e.tik.kind, .int .i64 e.tik.day, .int .i64 e.tik.min, .string e.text, .int .i64 e.n, .int .i64 e.pax, .int .i64 e.row, .int .u8 e.let_] 49)) := by
    have a := BS.alloc (w := w) (L := []) (Below.refl _ w) #[.string p.loc, .string p.off, .slice an nn cn, .slice ag ng cg, .slice ap np cp, .int .i64 p.tik.kind, .int .i64 p.tik.day, .int .i64 p.tik.min, .string p.rc, .slice ar nr cr, .slice ae ne ce, .bool p.queued] 29
    have b := a.alloc #[.int .i64 e.kind, .string e.nam.last, .string e.nam.first, .string e.seg.car, .int .i64 e.seg.num, .int .i64 e.seg.day, .int .u8 e.seg.cls, .bool e.seg.live, .int .i64 e.tik.kind, .int .i64 e.tik.day, .int .i64 e.tik.min, .string e.text, .int .i64 e.n, .int .i64 e.pax, .int .i64 e.row, .int .u8 e.let_] 49
    rw [World.size_alloc] at b
    exact b
  have ha1 := fun (W : World) (S : Nat → Prop) (a : PS W S p (Hd.mk an nn cn ag ng cg ap np cp ar nr cr ae ne ce)) (b : ∀ k, S k → k < W.heap.size) => papply_any p (Hd.mk an nn cn ag ng cg ap np cp ar nr cr ae ne ce) e W S a b HSM.out he
  rw [hq] at ha1
  have HA1 := Lib.hid ha1
  have k1 : (e.kind == 1) = true := by rw [hk]; rfl
  have k2 : (e.kind == 2) = false := by rw [hk]; rfl
  have k3 : (e.kind == 3) = false := by rw [hk]; rfl
  have k4 : (e.kind == 4) = false := by rw [hk]; rfl
  have k5 : (e.kind == 5) = false := by rw [hk]; rfl
  have k6 : (e.kind == 6) = false := by rw [hk]; rfl
  have k7 : (e.kind == 7) = false := by rw [hk]; rfl
  have HSB := Lib.hid hsb
  clear ha1 hp hps hc he hq hk hsb
  go_enter Tryd.func10, Tryd.ntmps10
  have HI1 := Lib.hid H0
  have HB1 := Lib.hid HI1.out.B
  go_wp2_with fail
  refine (awake12_any _).mono ?_
  rintro en w1 ⟨rfl, hb1⟩
  have hsz1 := hb1.size
  try simp only [World.size_alloc] at hsz1
  have GG := HI1.out.step hb1
  have HI2 := Lib.hid GG
  have HB2 := Lib.hid HI2.out.B
  clear H0 HI1
  obtain ⟨⟨z0, x0⟩, ⟨z1, x1⟩, _⟩ := GG
  dsimp only at z0 x0 z1 x1
  go_wp2_with fail
  refine (small_any p (Hd.mk an nn cn ag ng cg ap np cp ar nr cr ae ne ce) _).mono ?_
  rintro en w2 ⟨rfl, hb2⟩
  have hsz2 := hb2.size
  try simp only [World.size_alloc] at hsz2
  rw [HSB.out]
  have GG := HI2.out.step hb2
  have HI3 := Lib.hid GG
  have HB3 := Lib.hid HI3.out.B
  clear z0 x0 z1 x1 HI2
  obtain ⟨⟨z0, x0⟩, ⟨z1, x1⟩, _⟩ := GG
  dsimp only at z0 x0 z1 x1
  go_wp2_with fail
  refine (HA1.out _ (fun b => 0 ≤ b ∧ b < w.heap.size) (HP.out.below HB3.out (fun b hb => hb.2)) (fun b hb => by have := HB3.out.size; omega)).mono ?_
  rintro en v1 ⟨h1, rfl, o1, hc1⟩
  dsimp only at o1
  clear z0 x0 z1 x1
  obtain ⟨an1, nn1, cn1, ag1, ng1, cg1, ap1, np1, cp1, ar1, nr1, cr1, ae1, ne1, ce1⟩ := h1
  have hl1 := o1.names.sl.len
  dsimp only at hl1
  rw [List.length_append, HLnames.out, List.length_singleton] at hl1
  have HNN := Lib.hid hl1
  clear hl1
  have GG := HI3.out.step hc1
  obtain ⟨⟨z0, x0⟩, ⟨z1, x1⟩, _⟩ := id GG
  dsimp only at z0 x0 z1 x1
  have hq1 := Bx.new v1 #[.string p.loc, .string p.off, .slice an1 nn1 cn1, .slice ag1 ng1 cg1, .slice ap1 np1 cp1, .int .i64 p.tik.kind, .int .i64 p.tik.day, .int .i64 p.tik.min, .string p.rc, .slice ar1 nr1 cr1, .slice ae1 ne1 ce1, .bool p.queued] 29
  have hq2 := Bx.new (v1.alloc (.cells #[.string p.loc, .string p.off, .slice an1 nn1 cn1, .slice ag1 ng1 cg1, .slice ap1 np1 cp1, .int .i64 p.tik.kind, .int .i64 p.tik.day, .int .i64 p.tik.min, .string p.rc, .slice ar1 nr1 cr1, .slice ae1 ne1 ce1, .bool p.queued] 29)) #[.string p.loc, .string p.off, .slice an1 nn1 cn1, .slice ag1 ng1 cg1, .slice ap1 np1 cp1, .int .i64 p.tik.kind, .int .i64 p.tik.day, .int .i64 p.tik.min, .string p.rc, .slice ar1 nr1 cr1, .slice ae1 ne1 ce1, .bool p.queued] 29
  rw [World.size_alloc] at hq2
  have hrb := o1.rb
  have o1a := ((o1.alloc (.cells #[.string p.loc, .string p.off, .slice an1 nn1 cn1, .slice ag1 ng1 cg1, .slice ap1 np1 cp1, .int .i64 p.tik.kind, .int .i64 p.tik.day, .int .i64 p.tik.min, .string p.rc, .slice ar1 nr1 cr1, .slice ae1 ne1 ce1, .bool p.queued] 29)).alloc (.cells #[.string p.loc, .string p.off, .slice an1 nn1 cn1, .slice ag1 ng1 cg1, .slice ap1 np1 cp1, .int .i64 p.tik.kind, .int .i64 p.tik.day, .int .i64 p.tik.min, .string p.rc, .slice ar1 nr1 cr1, .slice ae1 ne1 ce1, .bool p.queued] 29)).more (Nat.zero_le _)
  have G1 := (GG.alloc #[.string p.loc, .string p.off, .slice an1 nn1 cn1, .slice ag1 ng1 cg1, .slice ap1 np1 cp1, .int .i64 p.tik.kind, .int .i64 p.tik.day, .int .i64 p.tik.min, .string p.rc, .slice ar1 nr1 cr1, .slice ae1 ne1 ce1, .bool p.queued] 29).alloc #[.string p.loc, .string p.off, .slice an1 nn1 cn1, .slice ag1 ng1 cg1, .slice ap1 np1 cp1, .int .i64 p.tik.kind, .int .i64 p.tik.day, .int .i64 p.tik.min, .string p.rc, .slice ar1 nr1 cr1, .slice ae1 ne1 ce1, .bool p.queued] 29
  rw [World.size_alloc] at G1
  have hvw : w.heap.size + 1 < v1.heap.size := GG.1.1
  go_upto_region 9 with fail
  refine wp_world (fun W => BS w [(v1.heap.size + 1, #[.string p.loc, .string p.off, .slice an1 nn1 cn1, .slice ag1 ng1 cg1, .slice ap1 np1 cp1, .int .i64 p.tik.kind, .int .i64 p.tik.day, .int .i64 p.tik.min, .string p.rc, .slice ar1 nr1 cr1, .slice ae1 ne1 ce1, .bool p.queued]), (v1.heap.size, #[.string p.loc, .string p.off, .slice an1 nn1 cn1, .slice ag1 ng1 cg1, .slice ap1 np1 cp1, .int .i64 p.tik.kind, .int .i64 p.tik.day, .int .i64 p.tik.min, .string p.rc, .slice ar1 nr1 cr1, .slice ae1 ne1 ce1, .bool p.queued]), (w.heap.size + 1, #[.int .i64 e.kind, .string e.nam.last, .string e.nam.first, .string e.seg.car, .int .i64 e.seg.num, .int .i64 e.seg.day, .int .u8 e.seg.cls, .bool e.seg.live, .int .i64 e.tik.kind, .int .i64 e.tik.day, .int .i64 e.tik.min, .string e.text, .int .i64 e.n, .int .i64 e.pax, .int .i64 e.row, .int .u8 e.let_]), (w.heap.size, #[.string p.loc, .string p.off, .slice an nn cn, .slice ag ng cg, .slice ap np cp, .int .i64 p.tik.kind, .int .i64 p.tik.day, .int .i64 p.tik.min, .string p.rc, .slice ar nr cr, .slice ae ne ce, .bool p.queued])] W ∧ Bx W (v1.heap.size + 1) #[.string p.loc, .string p.off, .slice an1 nn1 cn1, .slice ag1 ng1 cg1, .slice ap1 np1 cp1, .int .i64 p.tik.kind, .int .i64 p.tik.day, .int .i64 p.tik.min, .string p.rc, .slice ar1 nr1 cr1, .slice ae1 ne1 ce1, .bool p.queued] 29 ∧ OP W 0 ({ p with names := p.names ++ [e.nam] }) (Hd.mk an1 nn1 cn1 ag1 ng1 cg1 ap1 np1 cp1 ar1 nr1 cr1 ae1 ne1 ce1)) ⟨G1, hq2, o1a⟩ ?_
  clear z0 x0 z1 x1 G1 o1a GG hc1 hq1 hq2 o1
  rintro W1 ⟨G1, hr, o1⟩
  have HRB := Lib.hid hrb
  clear hrb
  generalize v1.heap.size = g1 at G1 hr HRB hvw
  have HB4 := Lib.hid G1.B
  have m1 : ¬ (w.heap.size = g1 + 1) := by omega
  have m2 : ¬ (g1 + 1 = w.heap.size) := by omega
  have m3 : ¬ (w.heap.size = g1) := by omega
  have m4 : ¬ (g1 = w.heap.size) := by omega
  have m5 : ¬ (w.heap.size + 1 = g1) := by omega
  have m6 : ¬ (g1 = w.heap.size + 1) := by omega
  obtain ⟨⟨y1, u1⟩, ⟨y0, u0⟩, ⟨z0, x0⟩, ⟨z1, x1⟩, _⟩ := G1
  dsimp only at y0 u0 y1 u1 z0 x0 z1 x1
  have hfr := hr.free
  have HO1 := Lib.hid o1
  have HR1 := Lib.hid hr
  have hcap : nn1 ≤ cn1 := Own.cap HO1.out.names (by have := HNN.out; omega)
  have hle : ((nn : Int)) ≤ (cn1 : Int) := by have := HNN.out; omega
  clear hcap
  have e1 : ((nn1 : Int) != (nn : Int) + 1) = false := by have := HNN.out; rw [bne_eq_false_iff_eq]; omega
  clear o1 hr
  go_wp2_with fail
  have hr9 : Bx _ (g1 + 1) #[.string p.loc, .string p.off, .slice an1 nn cn1, .slice ag1 ng1 cg1, .slice ap1 np1 cp1, .int .i64 p.tik.kind, .int .i64 p.tik.day, .int .i64 p.tik.min, .string p.rc, .slice ar1 nr1 cr1, .slice ae1 ne1 ce1, .bool p.queued] 29 := (HR1.out).put 2 (.slice an1 nn cn1)
  have hb9 := (HB4.out).setCell (p := ⟨g1 + 1, 2, none⟩) (by simp; omega) (.slice an1 nn cn1)
  have o9 := OP.aside (g := g1 + 1) (HO1.out) (fun hk => by have := HRB.out _ hk; omega) 2 (.slice an1 nn cn1)
  have hP9 := (HP.out.below hb9 (fun b hb => hb.2)).at (lo := 0) (hi := w.heap.size) (fun b hb => hb)
  have hA9 := o9.at
  have hQ9 : PAt _ 0 _ p (Hd.mk an1 nn cn1 ag1 ng1 cg1 ap1 np1 cp1 ar1 nr1 cr1 ae1 ne1 ce1) := ⟨hP9.loc, hP9.off, hP9.rc, hP9.tik, (by have hx := hA9.names.cut (show nn ≤ nn1 by have := HNN.out; omega); rwa [List.take_left' HLnames.out] at hx), hA9.segs, hA9.phones, hA9.remarks, hA9.seats⟩
  have hcall := rsame_any p p (Hd.mk an1 nn cn1 ag1 ng1 cg1 ap1 np1 cp1 ar1 nr1 cr1 ae1 ne1 ce1) (Hd.mk an nn cn ag ng cg ap np cp ar nr cr ae ne ce) _ _ _ _ _ hQ9 hP9 (HSM.out.hd hQ9) (HSM.out.hd hP9) (Nat.le_refl _) hb9.size
  dsimp only at hcall
  have HB9 := Lib.hid hb9
  clear hb9 hP9 hA9 hQ9 o9 hr9
  refine hcall.mono ?_
  rintro en w7 ⟨rfl, hb7⟩
  clear hcall
  rw [show decide (p = p) = true from decide_eq_true rfl]
  go_wp2
  go_ret
  exact ⟨rfl, HB9.out.trans (hb7.mono HB9.out.size)⟩
set_option maxRecDepth 100000 in
set_option maxHeartbeats 8000000 in
theorem keeps_2 (p : Pnr) (h : Hd) (e : Edit) (w : World) (hp : PAt w 0 w.heap.size p h) (hc : Caps h) (he : e.ok) (hsb : smallB h = true) (hk : e.kind = 2) (hq : applyF p e = ({ p with segs := p.segs ++ [e.seg] }, 0)) :
    Calls Tryd.prog 10 #[.agg #[.string p.loc, .string p.off, .slice h.an h.nn h.cn, .slice h.ag h.ng h.cg, .slice h.ap h.np h.cp, .int .i64 p.tik.kind, .int .i64 p.tik.day, .int .i64 p.tik.min, .string p.rc, .slice h.ar h.nr h.cr, .slice h.ae h.ne h.ce, .bool p.queued], .agg #[.int .i64 e.kind, .string e.nam.last, .string e.nam.first, .string e.seg.car, .int .i64 e.seg.num, .int .i64 e.seg.day, .int .u8 e.seg.cls, .bool e.seg.live, .int .i64 e.tik.kind, .int .i64 e.tik.day, .int .i64 e.tik.min, .string e.text, .int .i64 e.n, .int .i64 e.pax, .int .i64 e.row, .int .u8 e.let_]] w (RetB w true) := by
  have hps := smallB_pnr hsb hp
  have HSM := Lib.hid (hps.mono (show 200 ≤ 100000 by omega))
  have HP := Lib.hid (hp.ps hc)
  have HLnames := Lib.hid hp.names.len
  have HLsegs := Lib.hid hp.segs.len
  have HLphones := Lib.hid hp.phones.len
  have HLremarks := Lib.hid hp.remarks.len
  obtain ⟨s1, s2, s3, s4, s5⟩ := smallB_yes hsb
  obtain ⟨an, nn, cn, ag, ng, cg, ap, np, cp, ar, nr, cr, ae, ne, ce⟩ := h
  dsimp only at s1 s2 s3 s4 s5
  dsimp only
  have H0 : BS w [(w.heap.size + 1, #[.int .i64 e.kind, .string e.nam.last, .string e.nam.first, .string e.seg.car, .int .i64 e.seg.num, .int .i64 e.seg.day, .int .u8 e.seg.cls, .bool e.seg.live, .int .i64 e.tik.kind, .int .i64 e.tik.day, .int .i64 e.tik.min, .string e.text, .int .i64 e.n, .int .i64 e.pax, .int .i64 e.row, .int .u8 e.let_]), (w.heap.size, #[.string p.loc, .string p.off, .slice an nn cn, .slice ag ng cg, .slice ap np cp, .int .i64 p.tik.kind, .int .i64 p.tik.day, .int .i64 p.tik.min, .string p.rc, .slice ar nr cr, .slice ae ne ce, .bool p.queued])] ((w.alloc (.cells #[.string p.loc, .string p.off, .slice an nn cn, .slice ag ng cg, .slice ap np cp, .int .i64 p.tik.kind, .int .i64 p.tik.day, .int .i64 p.tik.min, .string p.rc, .slice ar nr cr, .slice ae ne ce, .bool p.queued] 29)).alloc (.cells #[.int .i64 e.kind, .string e.nam.last, .string e.nam.first, .string e.seg.car, .int .i64 e.seg.num, .int .i64 e.seg.day, .int .u8 e.seg.cls, .bool e.seg.live, .int .i64 e.tik.kind, .int .i64 e.tik.day, .int .i64 e.tik.min, .string e.text, .int .i64 e.n, .int .i64 e.pax, .int .i64 e.row, .int .u8 e.let_] 49)) := by
    have a := BS.alloc (w := w) (L := []) (Below.refl _ w) #[.string p.loc, .string p.off, .slice an nn cn, .slice ag ng cg, .slice ap np cp, .int .i64 p.tik.kind, .int .i64 p.tik.day, .int .i64 p.tik.min, .string p.rc, .slice ar nr cr, .slice ae ne ce, .bool p.queued] 29
    have b := a.alloc #[.int .i64 e.kind, .string e.nam.last, .string e.nam.first, .string e.seg.car, .int .i64 e.seg.num, .int .i64 e.seg.day, .int .u8 e.seg.cls, .bool e.seg.live, .int .i64 e.tik.kind, .int .i64 e.tik.day, .int .i64 e.tik.min, .string e.text, .int .i64 e.n, .int .i64 e.pax, .int .i64 e.row, .int .u8 e.let_] 49
    rw [World.size_alloc] at b
    exact b
  have ha1 := fun (W : World) (S : Nat → Prop) (a : PS W S p (Hd.mk an nn cn ag ng cg ap np cp ar nr cr ae ne ce)) (b : ∀ k, S k → k < W.heap.size) => papply_any p (Hd.mk an nn cn ag ng cg ap np cp ar nr cr ae ne ce) e W S a b HSM.out he
  rw [hq] at ha1
  have HA1 := Lib.hid ha1
  have k1 : (e.kind == 1) = false := by rw [hk]; rfl
  have k2 : (e.kind == 2) = true := by rw [hk]; rfl
  have k3 : (e.kind == 3) = false := by rw [hk]; rfl
  have k4 : (e.kind == 4) = false := by rw [hk]; rfl
  have k5 : (e.kind == 5) = false := by rw [hk]; rfl
  have k6 : (e.kind == 6) = false := by rw [hk]; rfl
  have k7 : (e.kind == 7) = false := by rw [hk]; rfl
  have HSB := Lib.hid hsb
  clear ha1 hp hps hc he hq hk hsb
  go_enter Tryd.func10, Tryd.ntmps10
  have HI1 := Lib.hid H0
  have HB1 := Lib.hid HI1.out.B
  go_wp2_with fail
  refine (awake12_any _).mono ?_
  rintro en w1 ⟨rfl, hb1⟩
  have hsz1 := hb1.size
  try simp only [World.size_alloc] at hsz1
  have GG := HI1.out.step hb1
  have HI2 := Lib.hid GG
  have HB2 := Lib.hid HI2.out.B
  clear H0 HI1
  obtain ⟨⟨z0, x0⟩, ⟨z1, x1⟩, _⟩ := GG
  dsimp only at z0 x0 z1 x1
  go_wp2_with fail
  refine (small_any p (Hd.mk an nn cn ag ng cg ap np cp ar nr cr ae ne ce) _).mono ?_
  rintro en w2 ⟨rfl, hb2⟩
  have hsz2 := hb2.size
  try simp only [World.size_alloc] at hsz2
  rw [HSB.out]
  have GG := HI2.out.step hb2
  have HI3 := Lib.hid GG
  have HB3 := Lib.hid HI3.out.B
  clear z0 x0 z1 x1 HI2
  obtain ⟨⟨z0, x0⟩, ⟨z1, x1⟩, _⟩ := GG
  dsimp only at z0 x0 z1 x1
  go_wp2_with fail
  refine (HA1.out _ (fun b => 0 ≤ b ∧ b < w.heap.size) (HP.out.below HB3.out (fun b hb => hb.2)) (fun b hb => by have := HB3.out.size; omega)).mono ?_
  rintro en v1 ⟨h1, rfl, o1, hc1⟩
  dsimp only at o1
  clear z0 x0 z1 x1
  obtain ⟨an1, nn1, cn1, ag1, ng1, cg1, ap1, np1, cp1, ar1, nr1, cr1, ae1, ne1, ce1⟩ := h1
  have hl1 := o1.segs.sl.len
  dsimp only at hl1
  rw [List.length_append, HLsegs.out, List.length_singleton] at hl1
  have HNN := Lib.hid hl1
  clear hl1
  have GG := HI3.out.step hc1
  obtain ⟨⟨z0, x0⟩, ⟨z1, x1⟩, _⟩ := id GG
  dsimp only at z0 x0 z1 x1
  have hq1 := Bx.new v1 #[.string p.loc, .string p.off, .slice an1 nn1 cn1, .slice ag1 ng1 cg1, .slice ap1 np1 cp1, .int .i64 p.tik.kind, .int .i64 p.tik.day, .int .i64 p.tik.min, .string p.rc, .slice ar1 nr1 cr1, .slice ae1 ne1 ce1, .bool p.queued] 29
  have hq2 := Bx.new (v1.alloc (.cells #[.string p.loc, .string p.off, .slice an1 nn1 cn1, .slice ag1 ng1 cg1, .slice ap1 np1 cp1, .int .i64 p.tik.kind, .int .i64 p.tik.day, .int .i64 p.tik.min, .string p.rc, .slice ar1 nr1 cr1, .slice ae1 ne1 ce1, .bool p.queued] 29)) #[.string p.loc, .string p.off, .slice an1 nn1 cn1, .slice ag1 ng1 cg1, .slice ap1 np1 cp1, .int .i64 p.tik.kind, .int .i64 p.tik.day, .int .i64 p.tik.min, .string p.rc, .slice ar1 nr1 cr1, .slice ae1 ne1 ce1, .bool p.queued] 29
  rw [World.size_alloc] at hq2
  have hrb := o1.rb
  have o1a := ((o1.alloc (.cells #[.string p.loc, .string p.off, .slice an1 nn1 cn1, .slice ag1 ng1 cg1, .slice ap1 np1 cp1, .int .i64 p.tik.kind, .int .i64 p.tik.day, .int .i64 p.tik.min, .string p.rc, .slice ar1 nr1 cr1, .slice ae1 ne1 ce1, .bool p.queued] 29)).alloc (.cells #[.string p.loc, .string p.off, .slice an1 nn1 cn1, .slice ag1 ng1 cg1, .slice ap1 np1 cp1, .int .i64 p.tik.kind, .int .i64 p.tik.day, .int .i64 p.tik.min, .string p.rc, .slice ar1 nr1 cr1, .slice ae1 ne1 ce1, .bool p.queued] 29)).more (Nat.zero_le _)
  have G1 := (GG.alloc #[.string p.loc, .string p.off, .slice an1 nn1 cn1, .slice ag1 ng1 cg1, .slice ap1 np1 cp1, .int .i64 p.tik.kind, .int .i64 p.tik.day, .int .i64 p.tik.min, .string p.rc, .slice ar1 nr1 cr1, .slice ae1 ne1 ce1, .bool p.queued] 29).alloc #[.string p.loc, .string p.off, .slice an1 nn1 cn1, .slice ag1 ng1 cg1, .slice ap1 np1 cp1, .int .i64 p.tik.kind, .int .i64 p.tik.day, .int .i64 p.tik.min, .string p.rc, .slice ar1 nr1 cr1, .slice ae1 ne1 ce1, .bool p.queued] 29
  rw [World.size_alloc] at G1
  have hvw : w.heap.size + 1 < v1.heap.size := GG.1.1
  go_upto_region 9 with fail
  refine wp_world (fun W => BS w [(v1.heap.size + 1, #[.string p.loc, .string p.off, .slice an1 nn1 cn1, .slice ag1 ng1 cg1, .slice ap1 np1 cp1, .int .i64 p.tik.kind, .int .i64 p.tik.day, .int .i64 p.tik.min, .string p.rc, .slice ar1 nr1 cr1, .slice ae1 ne1 ce1, .bool p.queued]), (v1.heap.size, #[.string p.loc, .string p.off, .slice an1 nn1 cn1, .slice ag1 ng1 cg1, .slice ap1 np1 cp1, .int .i64 p.tik.kind, .int .i64 p.tik.day, .int .i64 p.tik.min, .string p.rc, .slice ar1 nr1 cr1, .slice ae1 ne1 ce1, .bool p.queued]), (w.heap.size + 1, #[.int .i64 e.kind, .string e.nam.last, .string e.nam.first, .string e.seg.car, .int .i64 e.seg.num, .int .i64 e.seg.day, .int .u8 e.seg.cls, .bool e.seg.live, .int .i64 e.tik.kind, .int .i64 e.tik.day, .int .i64 e.tik.min, .string e.text, .int .i64 e.n, .int .i64 e.pax, .int .i64 e.row, .int .u8 e.let_]), (w.heap.size, #[.string p.loc, .string p.off, .slice an nn cn, .slice ag ng cg, .slice ap np cp, .int .i64 p.tik.kind, .int .i64 p.tik.day, .int .i64 p.tik.min, .string p.rc, .slice ar nr cr, .slice ae ne ce, .bool p.queued])] W ∧ Bx W (v1.heap.size + 1) #[.string p.loc, .string p.off, .slice an1 nn1 cn1, .slice ag1 ng1 cg1, .slice ap1 np1 cp1, .int .i64 p.tik.kind, .int .i64 p.tik.day, .int .i64 p.tik.min, .string p.rc, .slice ar1 nr1 cr1, .slice ae1 ne1 ce1, .bool p.queued] 29 ∧ OP W 0 ({ p with segs := p.segs ++ [e.seg] }) (Hd.mk an1 nn1 cn1 ag1 ng1 cg1 ap1 np1 cp1 ar1 nr1 cr1 ae1 ne1 ce1)) ⟨G1, hq2, o1a⟩ ?_
  clear z0 x0 z1 x1 G1 o1a GG hc1 hq1 hq2 o1
  rintro W1 ⟨G1, hr, o1⟩
  have HRB := Lib.hid hrb
  clear hrb
  generalize v1.heap.size = g1 at G1 hr HRB hvw
  have HB4 := Lib.hid G1.B
  have m1 : ¬ (w.heap.size = g1 + 1) := by omega
  have m2 : ¬ (g1 + 1 = w.heap.size) := by omega
  have m3 : ¬ (w.heap.size = g1) := by omega
  have m4 : ¬ (g1 = w.heap.size) := by omega
  have m5 : ¬ (w.heap.size + 1 = g1) := by omega
  have m6 : ¬ (g1 = w.heap.size + 1) := by omega
  obtain ⟨⟨y1, u1⟩, ⟨y0, u0⟩, ⟨z0, x0⟩, ⟨z1, x1⟩, _⟩ := G1
  dsimp only at y0 u0 y1 u1 z0 x0 z1 x1
  have hfr := hr.free
  have HO1 := Lib.hid o1
  have HR1 := Lib.hid hr
  have hcap : ng1 ≤ cg1 := Own.cap HO1.out.segs (by have := HNN.out; omega)
  have hle : ((ng : Int)) ≤ (cg1 : Int) := by have := HNN.out; omega
  clear hcap
  have e1 : ((ng1 : Int) != (ng : Int) + 1) = false := by have := HNN.out; rw [bne_eq_false_iff_eq]; omega
  clear o1 hr
  go_wp2_with fail
  have hr9 : Bx _ (g1 + 1) #[.string p.loc, .string p.off, .slice an1 nn1 cn1, .slice ag1 ng cg1, .slice ap1 np1 cp1, .int .i64 p.tik.kind, .int .i64 p.tik.day, .int .i64 p.tik.min, .string p.rc, .slice ar1 nr1 cr1, .slice ae1 ne1 ce1, .bool p.queued] 29 := (HR1.out).put 3 (.slice ag1 ng cg1)
  have hb9 := (HB4.out).setCell (p := ⟨g1 + 1, 3, none⟩) (by simp; omega) (.slice ag1 ng cg1)
  have o9 := OP.aside (g := g1 + 1) (HO1.out) (fun hk => by have := HRB.out _ hk; omega) 3 (.slice ag1 ng cg1)
  have hP9 := (HP.out.below hb9 (fun b hb => hb.2)).at (lo := 0) (hi := w.heap.size) (fun b hb => hb)
  have hA9 := o9.at
  have hQ9 : PAt _ 0 _ p (Hd.mk an1 nn1 cn1 ag1 ng cg1 ap1 np1 cp1 ar1 nr1 cr1 ae1 ne1 ce1) := ⟨hP9.loc, hP9.off, hP9.rc, hP9.tik, hA9.names, (by have hx := hA9.segs.cut (show ng ≤ ng1 by have := HNN.out; omega); rwa [List.take_left' HLsegs.out] at hx), hA9.phones, hA9.remarks, hA9.seats⟩
  have hcall := rsame_any p p (Hd.mk an1 nn1 cn1 ag1 ng cg1 ap1 np1 cp1 ar1 nr1 cr1 ae1 ne1 ce1) (Hd.mk an nn cn ag ng cg ap np cp ar nr cr ae ne ce) _ _ _ _ _ hQ9 hP9 (HSM.out.hd hQ9) (HSM.out.hd hP9) (Nat.le_refl _) hb9.size
  dsimp only at hcall
  have HB9 := Lib.hid hb9
  clear hb9 hP9 hA9 hQ9 o9 hr9
  refine hcall.mono ?_
  rintro en w7 ⟨rfl, hb7⟩
  clear hcall
  rw [show decide (p = p) = true from decide_eq_true rfl]
  go_wp2
  go_ret
  exact ⟨rfl, HB9.out.trans (hb7.mono HB9.out.size)⟩
set_option maxRecDepth 100000 in
set_option maxHeartbeats 8000000 in
theorem keeps_3 (p : Pnr) (h : Hd) (e : Edit) (w : World) (hp : PAt w 0 w.heap.size p h) (hc : Caps h) (he : e.ok) (hsb : smallB h = true) (hk : e.kind = 3) (hq : applyF p e = ({ p with phones := p.phones ++ [e.text] }, 0)) :
    Calls Tryd.prog 10 #[.agg #[.string p.loc, .string p.off, .slice h.an h.nn h.cn, .slice h.ag h.ng h.cg, .slice h.ap h.np h.cp, .int .i64 p.tik.kind, .int .i64 p.tik.day, .int .i64 p.tik.min, .string p.rc, .slice h.ar h.nr h.cr, .slice h.ae h.ne h.ce, .bool p.queued], .agg #[.int .i64 e.kind, .string e.nam.last, .string e.nam.first, .string e.seg.car, .int .i64 e.seg.num, .int .i64 e.seg.day, .int .u8 e.seg.cls, .bool e.seg.live, .int .i64 e.tik.kind, .int .i64 e.tik.day, .int .i64 e.tik.min, .string e.text, .int .i64 e.n, .int .i64 e.pax, .int .i64 e.row, .int .u8 e.let_]] w (RetB w true) := by
  have hps := smallB_pnr hsb hp
  have HSM := Lib.hid (hps.mono (show 200 ≤ 100000 by omega))
  have HP := Lib.hid (hp.ps hc)
  have HLnames := Lib.hid hp.names.len
  have HLsegs := Lib.hid hp.segs.len
  have HLphones := Lib.hid hp.phones.len
  have HLremarks := Lib.hid hp.remarks.len
  obtain ⟨s1, s2, s3, s4, s5⟩ := smallB_yes hsb
  obtain ⟨an, nn, cn, ag, ng, cg, ap, np, cp, ar, nr, cr, ae, ne, ce⟩ := h
  dsimp only at s1 s2 s3 s4 s5
  dsimp only
  have H0 : BS w [(w.heap.size + 1, #[.int .i64 e.kind, .string e.nam.last, .string e.nam.first, .string e.seg.car, .int .i64 e.seg.num, .int .i64 e.seg.day, .int .u8 e.seg.cls, .bool e.seg.live, .int .i64 e.tik.kind, .int .i64 e.tik.day, .int .i64 e.tik.min, .string e.text, .int .i64 e.n, .int .i64 e.pax, .int .i64 e.row, .int .u8 e.let_]), (w.heap.size, #[.string p.loc, .string p.off, .slice an nn cn, .slice ag ng cg, .slice ap np cp, .int .i64 p.tik.kind, .int .i64 p.tik.day, .int .i64 p.tik.min, .string p.rc, .slice ar nr cr, .slice ae ne ce, .bool p.queued])] ((w.alloc (.cells #[.string p.loc, .string p.off, .slice an nn cn, .slice ag ng cg, .slice ap np cp, .int .i64 p.tik.kind, .int .i64 p.tik.day, .int .i64 p.tik.min, .string p.rc, .slice ar nr cr, .slice ae ne ce, .bool p.queued] 29)).alloc (.cells #[.int .i64 e.kind, .string e.nam.last, .string e.nam.first, .string e.seg.car, .int .i64 e.seg.num, .int .i64 e.seg.day, .int .u8 e.seg.cls, .bool e.seg.live, .int .i64 e.tik.kind, .int .i64 e.tik.day, .int .i64 e.tik.min, .string e.text, .int .i64 e.n, .int .i64 e.pax, .int .i64 e.row, .int .u8 e.let_] 49)) := by
    have a := BS.alloc (w := w) (L := []) (Below.refl _ w) #[.string p.loc, .string p.off, .slice an nn cn, .slice ag ng cg, .slice ap np cp, .int .i64 p.tik.kind, .int .i64 p.tik.day, .int .i64 p.tik.min, .string p.rc, .slice ar nr cr, .slice ae ne ce, .bool p.queued] 29
    have b := a.alloc #[.int .i64 e.kind, .string e.nam.last, .string e.nam.first, .string e.seg.car, .int .i64 e.seg.num, .int .i64 e.seg.day, .int .u8 e.seg.cls, .bool e.seg.live, .int .i64 e.tik.kind, .int .i64 e.tik.day, .int .i64 e.tik.min, .string e.text, .int .i64 e.n, .int .i64 e.pax, .int .i64 e.row, .int .u8 e.let_] 49
    rw [World.size_alloc] at b
    exact b
  have ha1 := fun (W : World) (S : Nat → Prop) (a : PS W S p (Hd.mk an nn cn ag ng cg ap np cp ar nr cr ae ne ce)) (b : ∀ k, S k → k < W.heap.size) => papply_any p (Hd.mk an nn cn ag ng cg ap np cp ar nr cr ae ne ce) e W S a b HSM.out he
  rw [hq] at ha1
  have HA1 := Lib.hid ha1
  have k1 : (e.kind == 1) = false := by rw [hk]; rfl
  have k2 : (e.kind == 2) = false := by rw [hk]; rfl
  have k3 : (e.kind == 3) = true := by rw [hk]; rfl
  have k4 : (e.kind == 4) = false := by rw [hk]; rfl
  have k5 : (e.kind == 5) = false := by rw [hk]; rfl
  have k6 : (e.kind == 6) = false := by rw [hk]; rfl
  have k7 : (e.kind == 7) = false := by rw [hk]; rfl
  have HSB := Lib.hid hsb
  clear ha1 hp hps hc he hq hk hsb
  go_enter Tryd.func10, Tryd.ntmps10
  have HI1 := Lib.hid H0
  have HB1 := Lib.hid HI1.out.B
  go_wp2_with fail
  refine (awake12_any _).mono ?_
  rintro en w1 ⟨rfl, hb1⟩
  have hsz1 := hb1.size
  try simp only [World.size_alloc] at hsz1
  have GG := HI1.out.step hb1
  have HI2 := Lib.hid GG
  have HB2 := Lib.hid HI2.out.B
  clear H0 HI1
  obtain ⟨⟨z0, x0⟩, ⟨z1, x1⟩, _⟩ := GG
  dsimp only at z0 x0 z1 x1
  go_wp2_with fail
  refine (small_any p (Hd.mk an nn cn ag ng cg ap np cp ar nr cr ae ne ce) _).mono ?_
  rintro en w2 ⟨rfl, hb2⟩
  have hsz2 := hb2.size
  try simp only [World.size_alloc] at hsz2
  rw [HSB.out]
  have GG := HI2.out.step hb2
  have HI3 := Lib.hid GG
  have HB3 := Lib.hid HI3.out.B
  clear z0 x0 z1 x1 HI2
  obtain ⟨⟨z0, x0⟩, ⟨z1, x1⟩, _⟩ := GG
  dsimp only at z0 x0 z1 x1
  go_wp2_with fail
  refine (HA1.out _ (fun b => 0 ≤ b ∧ b < w.heap.size) (HP.out.below HB3.out (fun b hb => hb.2)) (fun b hb => by have := HB3.out.size; omega)).mono ?_
  rintro en v1 ⟨h1, rfl, o1, hc1⟩
  dsimp only at o1
  clear z0 x0 z1 x1
  obtain ⟨an1, nn1, cn1, ag1, ng1, cg1, ap1, np1, cp1, ar1, nr1, cr1, ae1, ne1, ce1⟩ := h1
  have hl1 := o1.phones.sl.len
  dsimp only at hl1
  rw [List.length_append, HLphones.out, List.length_singleton] at hl1
  have HNN := Lib.hid hl1
  clear hl1
  have GG := HI3.out.step hc1
  obtain ⟨⟨z0, x0⟩, ⟨z1, x1⟩, _⟩ := id GG
  dsimp only at z0 x0 z1 x1
  have hq1 := Bx.new v1 #[.string p.loc, .string p.off, .slice an1 nn1 cn1, .slice ag1 ng1 cg1, .slice ap1 np1 cp1, .int .i64 p.tik.kind, .int .i64 p.tik.day, .int .i64 p.tik.min, .string p.rc, .slice ar1 nr1 cr1, .slice ae1 ne1 ce1, .bool p.queued] 29
  have hq2 := Bx.new (v1.alloc (.cells #[.string p.loc, .string p.off, .slice an1 nn1 cn1, .slice ag1 ng1 cg1, .slice ap1 np1 cp1, .int .i64 p.tik.kind, .int .i64 p.tik.day, .int .i64 p.tik.min, .string p.rc, .slice ar1 nr1 cr1, .slice ae1 ne1 ce1, .bool p.queued] 29)) #[.string p.loc, .string p.off, .slice an1 nn1 cn1, .slice ag1 ng1 cg1, .slice ap1 np1 cp1, .int .i64 p.tik.kind, .int .i64 p.tik.day, .int .i64 p.tik.min, .string p.rc, .slice ar1 nr1 cr1, .slice ae1 ne1 ce1, .bool p.queued] 29
  rw [World.size_alloc] at hq2
  have hrb := o1.rb
  have o1a := ((o1.alloc (.cells #[.string p.loc, .string p.off, .slice an1 nn1 cn1, .slice ag1 ng1 cg1, .slice ap1 np1 cp1, .int .i64 p.tik.kind, .int .i64 p.tik.day, .int .i64 p.tik.min, .string p.rc, .slice ar1 nr1 cr1, .slice ae1 ne1 ce1, .bool p.queued] 29)).alloc (.cells #[.string p.loc, .string p.off, .slice an1 nn1 cn1, .slice ag1 ng1 cg1, .slice ap1 np1 cp1, .int .i64 p.tik.kind, .int .i64 p.tik.day, .int .i64 p.tik.min, .string p.rc, .slice ar1 nr1 cr1, .slice ae1 ne1 ce1, .bool p.queued] 29)).more (Nat.zero_le _)
  have G1 := (GG.alloc #[.string p.loc, .string p.off, .slice an1 nn1 cn1, .slice ag1 ng1 cg1, .slice ap1 np1 cp1, .int .i64 p.tik.kind, .int .i64 p.tik.day, .int .i64 p.tik.min, .string p.rc, .slice ar1 nr1 cr1, .slice ae1 ne1 ce1, .bool p.queued] 29).alloc #[.string p.loc, .string p.off, .slice an1 nn1 cn1, .slice ag1 ng1 cg1, .slice ap1 np1 cp1, .int .i64 p.tik.kind, .int .i64 p.tik.day, .int .i64 p.tik.min, .string p.rc, .slice ar1 nr1 cr1, .slice ae1 ne1 ce1, .bool p.queued] 29
  rw [World.size_alloc] at G1
  have hvw : w.heap.size + 1 < v1.heap.size := GG.1.1
  go_upto_region 9 with fail
  refine wp_world (fun W => BS w [(v1.heap.size + 1, #[.string p.loc, .string p.off, .slice an1 nn1 cn1, .slice ag1 ng1 cg1, .slice ap1 np1 cp1, .int .i64 p.tik.kind, .int .i64 p.tik.day, .int .i64 p.tik.min, .string p.rc, .slice ar1 nr1 cr1, .slice ae1 ne1 ce1, .bool p.queued]), (v1.heap.size, #[.string p.loc, .string p.off, .slice an1 nn1 cn1, .slice ag1 ng1 cg1, .slice ap1 np1 cp1, .int .i64 p.tik.kind, .int .i64 p.tik.day, .int .i64 p.tik.min, .string p.rc, .slice ar1 nr1 cr1, .slice ae1 ne1 ce1, .bool p.queued]), (w.heap.size + 1, #[.int .i64 e.kind, .string e.nam.last, .string e.nam.first, .string e.seg.car, .int .i64 e.seg.num, .int .i64 e.seg.day, .int .u8 e.seg.cls, .bool e.seg.live, .int .i64 e.tik.kind, .int .i64 e.tik.day, .int .i64 e.tik.min, .string e.text, .int .i64 e.n, .int .i64 e.pax, .int .i64 e.row, .int .u8 e.let_]), (w.heap.size, #[.string p.loc, .string p.off, .slice an nn cn, .slice ag ng cg, .slice ap np cp, .int .i64 p.tik.kind, .int .i64 p.tik.day, .int .i64 p.tik.min, .string p.rc, .slice ar nr cr, .slice ae ne ce, .bool p.queued])] W ∧ Bx W (v1.heap.size + 1) #[.string p.loc, .string p.off, .slice an1 nn1 cn1, .slice ag1 ng1 cg1, .slice ap1 np1 cp1, .int .i64 p.tik.kind, .int .i64 p.tik.day, .int .i64 p.tik.min, .string p.rc, .slice ar1 nr1 cr1, .slice ae1 ne1 ce1, .bool p.queued] 29 ∧ OP W 0 ({ p with phones := p.phones ++ [e.text] }) (Hd.mk an1 nn1 cn1 ag1 ng1 cg1 ap1 np1 cp1 ar1 nr1 cr1 ae1 ne1 ce1)) ⟨G1, hq2, o1a⟩ ?_
  clear z0 x0 z1 x1 G1 o1a GG hc1 hq1 hq2 o1
  rintro W1 ⟨G1, hr, o1⟩
  have HRB := Lib.hid hrb
  clear hrb
  generalize v1.heap.size = g1 at G1 hr HRB hvw
  have HB4 := Lib.hid G1.B
  have m1 : ¬ (w.heap.size = g1 + 1) := by omega
  have m2 : ¬ (g1 + 1 = w.heap.size) := by omega
  have m3 : ¬ (w.heap.size = g1) := by omega
  have m4 : ¬ (g1 = w.heap.size) := by omega
  have m5 : ¬ (w.heap.size + 1 = g1) := by omega
  have m6 : ¬ (g1 = w.heap.size + 1) := by omega
  obtain ⟨⟨y1, u1⟩, ⟨y0, u0⟩, ⟨z0, x0⟩, ⟨z1, x1⟩, _⟩ := G1
  dsimp only at y0 u0 y1 u1 z0 x0 z1 x1
  have hfr := hr.free
  have HO1 := Lib.hid o1
  have HR1 := Lib.hid hr
  have hcap : np1 ≤ cp1 := Own.cap HO1.out.phones (by have := HNN.out; omega)
  have hle : ((np : Int)) ≤ (cp1 : Int) := by have := HNN.out; omega
  clear hcap
  have e1 : ((np1 : Int) != (np : Int) + 1) = false := by have := HNN.out; rw [bne_eq_false_iff_eq]; omega
  clear o1 hr
  go_wp2_with fail
  have hr9 : Bx _ (g1 + 1) #[.string p.loc, .string p.off, .slice an1 nn1 cn1, .slice ag1 ng1 cg1, .slice ap1 np cp1, .int .i64 p.tik.kind, .int .i64 p.tik.day, .int .i64 p.tik.min, .string p.rc, .slice ar1 nr1 cr1, .slice ae1 ne1 ce1, .bool p.queued] 29 := (HR1.out).put 4 (.slice ap1 np cp1)
  have hb9 := (HB4.out).setCell (p := ⟨g1 + 1, 4, none⟩) (by simp; omega) (.slice ap1 np cp1)
  have o9 := OP.aside (g := g1 + 1) (HO1.out) (fun hk => by have := HRB.out _ hk; omega) 4 (.slice ap1 np cp1)
  have hP9 := (HP.out.below hb9 (fun b hb => hb.2)).at (lo := 0) (hi := w.heap.size) (fun b hb => hb)
  have hA9 := o9.at
  have hQ9 : PAt _ 0 _ p (Hd.mk an1 nn1 cn1 ag1 ng1 cg1 ap1 np cp1 ar1 nr1 cr1 ae1 ne1 ce1) := ⟨hP9.loc, hP9.off, hP9.rc, hP9.tik, hA9.names, hA9.segs, (by have hx := hA9.phones.cut (show np ≤ np1 by have := HNN.out; omega); rwa [List.take_left' HLphones.out] at hx), hA9.remarks, hA9.seats⟩
  have hcall := rsame_any p p (Hd.mk an1 nn1 cn1 ag1 ng1 cg1 ap1 np cp1 ar1 nr1 cr1 ae1 ne1 ce1) (Hd.mk an nn cn ag ng cg ap np cp ar nr cr ae ne ce) _ _ _ _ _ hQ9 hP9 (HSM.out.hd hQ9) (HSM.out.hd hP9) (Nat.le_refl _) hb9.size
  dsimp only at hcall
  have HB9 := Lib.hid hb9
  clear hb9 hP9 hA9 hQ9 o9 hr9
  refine hcall.mono ?_
  rintro en w7 ⟨rfl, hb7⟩
  clear hcall
  rw [show decide (p = p) = true from decide_eq_true rfl]
  go_wp2
  go_ret
  exact ⟨rfl, HB9.out.trans (hb7.mono HB9.out.size)⟩
set_option maxRecDepth 100000 in
set_option maxHeartbeats 8000000 in
theorem keeps_6 (p : Pnr) (h : Hd) (e : Edit) (w : World) (hp : PAt w 0 w.heap.size p h) (hc : Caps h) (he : e.ok) (hsb : smallB h = true) (hk : e.kind = 6) (hq : applyF p e = ({ p with remarks := p.remarks ++ [e.text] }, 0)) :
    Calls Tryd.prog 10 #[.agg #[.string p.loc, .string p.off, .slice h.an h.nn h.cn, .slice h.ag h.ng h.cg, .slice h.ap h.np h.cp, .int .i64 p.tik.kind, .int .i64 p.tik.day, .int .i64 p.tik.min, .string p.rc, .slice h.ar h.nr h.cr, .slice h.ae h.ne h.ce, .bool p.queued], .agg #[.int .i64 e.kind, .string e.nam.last, .string e.nam.first, .string e.seg.car, .int .i64 e.seg.num, .int .i64 e.seg.day, .int .u8 e.seg.cls, .bool e.seg.live, .int .i64 e.tik.kind, .int .i64 e.tik.day, .int .i64 e.tik.min, .string e.text, .int .i64 e.n, .int .i64 e.pax, .int .i64 e.row, .int .u8 e.let_]] w (RetB w true) := by
  have hps := smallB_pnr hsb hp
  have HSM := Lib.hid (hps.mono (show 200 ≤ 100000 by omega))
  have HP := Lib.hid (hp.ps hc)
  have HLnames := Lib.hid hp.names.len
  have HLsegs := Lib.hid hp.segs.len
  have HLphones := Lib.hid hp.phones.len
  have HLremarks := Lib.hid hp.remarks.len
  obtain ⟨s1, s2, s3, s4, s5⟩ := smallB_yes hsb
  obtain ⟨an, nn, cn, ag, ng, cg, ap, np, cp, ar, nr, cr, ae, ne, ce⟩ := h
  dsimp only at s1 s2 s3 s4 s5
  dsimp only
  have H0 : BS w [(w.heap.size + 1, #[.int .i64 e.kind, .string e.nam.last, .string e.nam.first, .string e.seg.car, .int .i64 e.seg.num, .int .i64 e.seg.day, .int .u8 e.seg.cls, .bool e.seg.live, .int .i64 e.tik.kind, .int .i64 e.tik.day, .int .i64 e.tik.min, .string e.text, .int .i64 e.n, .int .i64 e.pax, .int .i64 e.row, .int .u8 e.let_]), (w.heap.size, #[.string p.loc, .string p.off, .slice an nn cn, .slice ag ng cg, .slice ap np cp, .int .i64 p.tik.kind, .int .i64 p.tik.day, .int .i64 p.tik.min, .string p.rc, .slice ar nr cr, .slice ae ne ce, .bool p.queued])] ((w.alloc (.cells #[.string p.loc, .string p.off, .slice an nn cn, .slice ag ng cg, .slice ap np cp, .int .i64 p.tik.kind, .int .i64 p.tik.day, .int .i64 p.tik.min, .string p.rc, .slice ar nr cr, .slice ae ne ce, .bool p.queued] 29)).alloc (.cells #[.int .i64 e.kind, .string e.nam.last, .string e.nam.first, .string e.seg.car, .int .i64 e.seg.num, .int .i64 e.seg.day, .int .u8 e.seg.cls, .bool e.seg.live, .int .i64 e.tik.kind, .int .i64 e.tik.day, .int .i64 e.tik.min, .string e.text, .int .i64 e.n, .int .i64 e.pax, .int .i64 e.row, .int .u8 e.let_] 49)) := by
    have a := BS.alloc (w := w) (L := []) (Below.refl _ w) #[.string p.loc, .string p.off, .slice an nn cn, .slice ag ng cg, .slice ap np cp, .int .i64 p.tik.kind, .int .i64 p.tik.day, .int .i64 p.tik.min, .string p.rc, .slice ar nr cr, .slice ae ne ce, .bool p.queued] 29
    have b := a.alloc #[.int .i64 e.kind, .string e.nam.last, .string e.nam.first, .string e.seg.car, .int .i64 e.seg.num, .int .i64 e.seg.day, .int .u8 e.seg.cls, .bool e.seg.live, .int .i64 e.tik.kind, .int .i64 e.tik.day, .int .i64 e.tik.min, .string e.text, .int .i64 e.n, .int .i64 e.pax, .int .i64 e.row, .int .u8 e.let_] 49
    rw [World.size_alloc] at b
    exact b
  have ha1 := fun (W : World) (S : Nat → Prop) (a : PS W S p (Hd.mk an nn cn ag ng cg ap np cp ar nr cr ae ne ce)) (b : ∀ k, S k → k < W.heap.size) => papply_any p (Hd.mk an nn cn ag ng cg ap np cp ar nr cr ae ne ce) e W S a b HSM.out he
  rw [hq] at ha1
  have HA1 := Lib.hid ha1
  have k1 : (e.kind == 1) = false := by rw [hk]; rfl
  have k2 : (e.kind == 2) = false := by rw [hk]; rfl
  have k3 : (e.kind == 3) = false := by rw [hk]; rfl
  have k4 : (e.kind == 4) = false := by rw [hk]; rfl
  have k5 : (e.kind == 5) = false := by rw [hk]; rfl
  have k6 : (e.kind == 6) = true := by rw [hk]; rfl
  have k7 : (e.kind == 7) = false := by rw [hk]; rfl
  have HSB := Lib.hid hsb
  clear ha1 hp hps hc he hq hk hsb
  go_enter Tryd.func10, Tryd.ntmps10
  have HI1 := Lib.hid H0
  have HB1 := Lib.hid HI1.out.B
  go_wp2_with fail
  refine (awake12_any _).mono ?_
  rintro en w1 ⟨rfl, hb1⟩
  have hsz1 := hb1.size
  try simp only [World.size_alloc] at hsz1
  have GG := HI1.out.step hb1
  have HI2 := Lib.hid GG
  have HB2 := Lib.hid HI2.out.B
  clear H0 HI1
  obtain ⟨⟨z0, x0⟩, ⟨z1, x1⟩, _⟩ := GG
  dsimp only at z0 x0 z1 x1
  go_wp2_with fail
  refine (small_any p (Hd.mk an nn cn ag ng cg ap np cp ar nr cr ae ne ce) _).mono ?_
  rintro en w2 ⟨rfl, hb2⟩
  have hsz2 := hb2.size
  try simp only [World.size_alloc] at hsz2
  rw [HSB.out]
  have GG := HI2.out.step hb2
  have HI3 := Lib.hid GG
  have HB3 := Lib.hid HI3.out.B
  clear z0 x0 z1 x1 HI2
  obtain ⟨⟨z0, x0⟩, ⟨z1, x1⟩, _⟩ := GG
  dsimp only at z0 x0 z1 x1
  go_wp2_with fail
  refine (HA1.out _ (fun b => 0 ≤ b ∧ b < w.heap.size) (HP.out.below HB3.out (fun b hb => hb.2)) (fun b hb => by have := HB3.out.size; omega)).mono ?_
  rintro en v1 ⟨h1, rfl, o1, hc1⟩
  dsimp only at o1
  clear z0 x0 z1 x1
  obtain ⟨an1, nn1, cn1, ag1, ng1, cg1, ap1, np1, cp1, ar1, nr1, cr1, ae1, ne1, ce1⟩ := h1
  have hl1 := o1.remarks.sl.len
  dsimp only at hl1
  rw [List.length_append, HLremarks.out, List.length_singleton] at hl1
  have HNN := Lib.hid hl1
  clear hl1
  have GG := HI3.out.step hc1
  obtain ⟨⟨z0, x0⟩, ⟨z1, x1⟩, _⟩ := id GG
  dsimp only at z0 x0 z1 x1
  have hq1 := Bx.new v1 #[.string p.loc, .string p.off, .slice an1 nn1 cn1, .slice ag1 ng1 cg1, .slice ap1 np1 cp1, .int .i64 p.tik.kind, .int .i64 p.tik.day, .int .i64 p.tik.min, .string p.rc, .slice ar1 nr1 cr1, .slice ae1 ne1 ce1, .bool p.queued] 29
  have hq2 := Bx.new (v1.alloc (.cells #[.string p.loc, .string p.off, .slice an1 nn1 cn1, .slice ag1 ng1 cg1, .slice ap1 np1 cp1, .int .i64 p.tik.kind, .int .i64 p.tik.day, .int .i64 p.tik.min, .string p.rc, .slice ar1 nr1 cr1, .slice ae1 ne1 ce1, .bool p.queued] 29)) #[.string p.loc, .string p.off, .slice an1 nn1 cn1, .slice ag1 ng1 cg1, .slice ap1 np1 cp1, .int .i64 p.tik.kind, .int .i64 p.tik.day, .int .i64 p.tik.min, .string p.rc, .slice ar1 nr1 cr1, .slice ae1 ne1 ce1, .bool p.queued] 29
  rw [World.size_alloc] at hq2
  have hrb := o1.rb
  have o1a := ((o1.alloc (.cells #[.string p.loc, .string p.off, .slice an1 nn1 cn1, .slice ag1 ng1 cg1, .slice ap1 np1 cp1, .int .i64 p.tik.kind, .int .i64 p.tik.day, .int .i64 p.tik.min, .string p.rc, .slice ar1 nr1 cr1, .slice ae1 ne1 ce1, .bool p.queued] 29)).alloc (.cells #[.string p.loc, .string p.off, .slice an1 nn1 cn1, .slice ag1 ng1 cg1, .slice ap1 np1 cp1, .int .i64 p.tik.kind, .int .i64 p.tik.day, .int .i64 p.tik.min, .string p.rc, .slice ar1 nr1 cr1, .slice ae1 ne1 ce1, .bool p.queued] 29)).more (Nat.zero_le _)
  have G1 := (GG.alloc #[.string p.loc, .string p.off, .slice an1 nn1 cn1, .slice ag1 ng1 cg1, .slice ap1 np1 cp1, .int .i64 p.tik.kind, .int .i64 p.tik.day, .int .i64 p.tik.min, .string p.rc, .slice ar1 nr1 cr1, .slice ae1 ne1 ce1, .bool p.queued] 29).alloc #[.string p.loc, .string p.off, .slice an1 nn1 cn1, .slice ag1 ng1 cg1, .slice ap1 np1 cp1, .int .i64 p.tik.kind, .int .i64 p.tik.day, .int .i64 p.tik.min, .string p.rc, .slice ar1 nr1 cr1, .slice ae1 ne1 ce1, .bool p.queued] 29
  rw [World.size_alloc] at G1
  have hvw : w.heap.size + 1 < v1.heap.size := GG.1.1
  go_upto_region 9 with fail
  refine wp_world (fun W => BS w [(v1.heap.size + 1, #[.string p.loc, .string p.off, .slice an1 nn1 cn1, .slice ag1 ng1 cg1, .slice ap1 np1 cp1, .int .i64 p.tik.kind, .int .i64 p.tik.day, .int .i64 p.tik.min, .string p.rc, .slice ar1 nr1 cr1, .slice ae1 ne1 ce1, .bool p.queued]), (v1.heap.size, #[.string p.loc, .string p.off, .slice an1 nn1 cn1, .slice ag1 ng1 cg1, .slice ap1 np1 cp1, .int .i64 p.tik.kind, .int .i64 p.tik.day, .int .i64 p.tik.min, .string p.rc, .slice ar1 nr1 cr1, .slice ae1 ne1 ce1, .bool p.queued]), (w.heap.size + 1, #[.int .i64 e.kind, .string e.nam.last, .string e.nam.first, .string e.seg.car, .int .i64 e.seg.num, .int .i64 e.seg.day, .int .u8 e.seg.cls, .bool e.seg.live, .int .i64 e.tik.kind, .int .i64 e.tik.day, .int .i64 e.tik.min, .string e.text, .int .i64 e.n, .int .i64 e.pax, .int .i64 e.row, .int .u8 e.let_]), (w.heap.size, #[.string p.loc, .string p.off, .slice an nn cn, .slice ag ng cg, .slice ap np cp, .int .i64 p.tik.kind, .int .i64 p.tik.day, .int .i64 p.tik.min, .string p.rc, .slice ar nr cr, .slice ae ne ce, .bool p.queued])] W ∧ Bx W (v1.heap.size + 1) #[.string p.loc, .string p.off, .slice an1 nn1 cn1, .slice ag1 ng1 cg1, .slice ap1 np1 cp1, .int .i64 p.tik.kind, .int .i64 p.tik.day, .int .i64 p.tik.min, .string p.rc, .slice ar1 nr1 cr1, .slice ae1 ne1 ce1, .bool p.queued] 29 ∧ OP W 0 ({ p with remarks := p.remarks ++ [e.text] }) (Hd.mk an1 nn1 cn1 ag1 ng1 cg1 ap1 np1 cp1 ar1 nr1 cr1 ae1 ne1 ce1)) ⟨G1, hq2, o1a⟩ ?_
  clear z0 x0 z1 x1 G1 o1a GG hc1 hq1 hq2 o1
  rintro W1 ⟨G1, hr, o1⟩
  have HRB := Lib.hid hrb
  clear hrb
  generalize v1.heap.size = g1 at G1 hr HRB hvw
  have HB4 := Lib.hid G1.B
  have m1 : ¬ (w.heap.size = g1 + 1) := by omega
  have m2 : ¬ (g1 + 1 = w.heap.size) := by omega
  have m3 : ¬ (w.heap.size = g1) := by omega
  have m4 : ¬ (g1 = w.heap.size) := by omega
  have m5 : ¬ (w.heap.size + 1 = g1) := by omega
  have m6 : ¬ (g1 = w.heap.size + 1) := by omega
  obtain ⟨⟨y1, u1⟩, ⟨y0, u0⟩, ⟨z0, x0⟩, ⟨z1, x1⟩, _⟩ := G1
  dsimp only at y0 u0 y1 u1 z0 x0 z1 x1
  have hfr := hr.free
  have HO1 := Lib.hid o1
  have HR1 := Lib.hid hr
  have hcap : nr1 ≤ cr1 := Own.cap HO1.out.remarks (by have := HNN.out; omega)
  have hle : ((nr : Int)) ≤ (cr1 : Int) := by have := HNN.out; omega
  clear hcap
  have e1 : ((nr1 : Int) != (nr : Int) + 1) = false := by have := HNN.out; rw [bne_eq_false_iff_eq]; omega
  clear o1 hr
  go_wp2_with fail
  have hr9 : Bx _ (g1 + 1) #[.string p.loc, .string p.off, .slice an1 nn1 cn1, .slice ag1 ng1 cg1, .slice ap1 np1 cp1, .int .i64 p.tik.kind, .int .i64 p.tik.day, .int .i64 p.tik.min, .string p.rc, .slice ar1 nr cr1, .slice ae1 ne1 ce1, .bool p.queued] 29 := (HR1.out).put 9 (.slice ar1 nr cr1)
  have hb9 := (HB4.out).setCell (p := ⟨g1 + 1, 9, none⟩) (by simp; omega) (.slice ar1 nr cr1)
  have o9 := OP.aside (g := g1 + 1) (HO1.out) (fun hk => by have := HRB.out _ hk; omega) 9 (.slice ar1 nr cr1)
  have hP9 := (HP.out.below hb9 (fun b hb => hb.2)).at (lo := 0) (hi := w.heap.size) (fun b hb => hb)
  have hA9 := o9.at
  have hQ9 : PAt _ 0 _ p (Hd.mk an1 nn1 cn1 ag1 ng1 cg1 ap1 np1 cp1 ar1 nr cr1 ae1 ne1 ce1) := ⟨hP9.loc, hP9.off, hP9.rc, hP9.tik, hA9.names, hA9.segs, hA9.phones, (by have hx := hA9.remarks.cut (show nr ≤ nr1 by have := HNN.out; omega); rwa [List.take_left' HLremarks.out] at hx), hA9.seats⟩
  have hcall := rsame_any p p (Hd.mk an1 nn1 cn1 ag1 ng1 cg1 ap1 np1 cp1 ar1 nr cr1 ae1 ne1 ce1) (Hd.mk an nn cn ag ng cg ap np cp ar nr cr ae ne ce) _ _ _ _ _ hQ9 hP9 (HSM.out.hd hQ9) (HSM.out.hd hP9) (Nat.le_refl _) hb9.size
  dsimp only at hcall
  have HB9 := Lib.hid hb9
  clear hb9 hP9 hA9 hQ9 o9 hr9
  refine hcall.mono ?_
  rintro en w7 ⟨rfl, hb7⟩
  clear hcall
  rw [show decide (p = p) = true from decide_eq_true rfl]
  go_wp2
  go_ret
  exact ⟨rfl, HB9.out.trans (hb7.mono HB9.out.size)⟩
end Go.Proofs.YtaakcccffmfmoaaDoor
