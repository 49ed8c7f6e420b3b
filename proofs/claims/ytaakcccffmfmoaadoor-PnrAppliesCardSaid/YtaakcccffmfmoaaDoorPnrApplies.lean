/- PnrApplies: the walk. -/
import Derived.Test.YtaakcccffmfmoaaDoorBoxes
import Derived.Test.YtaakcccffmfmoaaDoorCopied
import Derived.Test.YtaakcccffmfmoaaDoorSpoil
namespace Go.Proofs.YtaakcccffmfmoaaDoor
set_option linter.unusedVariables false
open Go Go.RowKit
set_option maxRecDepth 100000 in
set_option maxHeartbeats 8000000 in
theorem pnrApplies_any (p : Pnr) (h : Hd) (e : Edit) (w : World) (hp : PAt w 0 w.heap.size p h) (hc : Caps h) (he : e.ok) :
    Calls Tryd.prog 6 #[.agg #[.string p.loc, .string p.off, .slice h.an h.nn h.cn, .slice h.ag h.ng h.cg, .slice h.ap h.np h.cp, .int .i64 p.tik.kind, .int .i64 p.tik.day, .int .i64 p.tik.min, .string p.rc, .slice h.ar h.nr h.cr, .slice h.ae h.ne h.ce, .bool p.queued], .agg #[.int .i64 e.kind, .string e.nam.last, .string e.nam.first, .string e.seg.car, .int .i64 e.seg.num, .int .i64 e.seg.day, .int .u8 e.seg.cls, .bool e.seg.live, .int .i64 e.tik.kind, .int .i64 e.tik.day, .int .i64 e.tik.min, .string e.text, .int .i64 e.n, .int .i64 e.pax, .int .i64 e.row, .int .u8 e.let_]] w (RetB w true) := by
  have HP := Lib.hid (hp.ps hc)
  have HE := Lib.hid he
  have H0 : BS w [(w.heap.size + 1, #[.int .i64 e.kind, .string e.nam.last, .string e.nam.first, .string e.seg.car, .int .i64 e.seg.num, .int .i64 e.seg.day, .int .u8 e.seg.cls, .bool e.seg.live, .int .i64 e.tik.kind, .int .i64 e.tik.day, .int .i64 e.tik.min, .string e.text, .int .i64 e.n, .int .i64 e.pax, .int .i64 e.row, .int .u8 e.let_]), (w.heap.size, #[.string p.loc, .string p.off, .slice h.an h.nn h.cn, .slice h.ag h.ng h.cg, .slice h.ap h.np h.cp, .int .i64 p.tik.kind, .int .i64 p.tik.day, .int .i64 p.tik.min, .string p.rc, .slice h.ar h.nr h.cr, .slice h.ae h.ne h.ce, .bool p.queued])] ((w.alloc (.cells #[.string p.loc, .string p.off, .slice h.an h.nn h.cn, .slice h.ag h.ng h.cg, .slice h.ap h.np h.cp, .int .i64 p.tik.kind, .int .i64 p.tik.day, .int .i64 p.tik.min, .string p.rc, .slice h.ar h.nr h.cr, .slice h.ae h.ne h.ce, .bool p.queued] 29)).alloc (.cells #[.int .i64 e.kind, .string e.nam.last, .string e.nam.first, .string e.seg.car, .int .i64 e.seg.num, .int .i64 e.seg.day, .int .u8 e.seg.cls, .bool e.seg.live, .int .i64 e.tik.kind, .int .i64 e.tik.day, .int .i64 e.tik.min, .string e.text, .int .i64 e.n, .int .i64 e.pax, .int .i64 e.row, .int .u8 e.let_] 49)) := by
    have a := BS.alloc (w := w) (L := []) (Below.refl _ w) #[.string p.loc, .string p.off, .slice h.an h.nn h.cn, .slice h.ag h.ng h.cg, .slice h.ap h.np h.cp, .int .i64 p.tik.kind, .int .i64 p.tik.day, .int .i64 p.tik.min, .string p.rc, .slice h.ar h.nr h.cr, .slice h.ae h.ne h.ce, .bool p.queued] 29
    have b := a.alloc #[.int .i64 e.kind, .string e.nam.last, .string e.nam.first, .string e.seg.car, .int .i64 e.seg.num, .int .i64 e.seg.day, .int .u8 e.seg.cls, .bool e.seg.live, .int .i64 e.tik.kind, .int .i64 e.tik.day, .int .i64 e.tik.min, .string e.text, .int .i64 e.n, .int .i64 e.pax, .int .i64 e.row, .int .u8 e.let_] 49
    rw [World.size_alloc] at b
    exact b
  rcases Bool.eq_false_or_eq_true (smallB h) with hsb | hsb
  case inr =>
    go_enter Tryd.func6, Tryd.ntmps6
    have HI1 := Lib.hid H0
    have HB1 := Lib.hid HI1.out.B
    go_wp2_with fail
    refine (awake12_any _).mono ?_
    rintro en w1 ⟨rfl, hb1⟩
    have hsz1 := hb1.size
    try simp only [World.size_alloc] at hsz1
    have GG := HI1.out.step hb1
    have HI2 := Lib.hid GG
    have HB2 := Lib.hid HI2.out.B
    clear H0 HI1
    obtain ⟨⟨z0, x0⟩, ⟨z1, x1⟩, _⟩ := GG
    dsimp only at z0 x0 z1 x1
    go_wp2_with fail
    refine (small_any p h _).mono ?_
    rintro en w2 ⟨rfl, hb2⟩
    have hsz2 := hb2.size
    try simp only [World.size_alloc] at hsz2
    rw [hsb]
    have GG := HI2.out.step hb2
    have HI3 := Lib.hid GG
    have HB3 := Lib.hid HI3.out.B
    clear z0 x0 z1 x1 HI2
    obtain ⟨⟨z0, x0⟩, ⟨z1, x1⟩, _⟩ := GG
    dsimp only at z0 x0 z1 x1
    go_wp2
    go_ret
    exact ⟨rfl, HB3.out⟩
  have hps := smallB_pnr hsb hp
  have HSM := Lib.hid (hps.mono (show 200 ≤ 100000 by omega))
  have HQS := Lib.hid ((applyF_small (e := e) hps).mono (show 200 + 1 ≤ 100000 by omega))
  have HSh := Lib.hid (HSM.out.hd hp)
  clear hp hps hc he
  have HA1 := Lib.hid (fun (h1 : Hd) (W : World) (S : Nat → Prop) (a : PS W S p h1) (b : ∀ k, S k → k < W.heap.size) => papply_any p h1 e W S a b HSM.out HE.out)
  have HA2 := Lib.hid (fun (W : World) (S : Nat → Prop) (a : PS W S p h) (b : ∀ k, S k → k < W.heap.size) => rapply_any p h e W S a b HSM.out HE.out)
  generalize applyF p e = r at HQS HA1 HA2
  obtain ⟨q, n⟩ := r
  dsimp only at HQS
  have hn0 : (n != n) = false := by simp
  have HN1 : Hid (decide (q = q) = true) := decide_eq_true rfl
  have HN2 : Hid (decide (p = p) = true) := decide_eq_true rfl
  go_enter Tryd.func6, Tryd.ntmps6
  have HI1 := Lib.hid H0
  have HB1 := Lib.hid HI1.out.B
  go_wp2_with fail
  refine (awake12_any _).mono ?_
  rintro en w1 ⟨rfl, hb1⟩
  have hsz1 := hb1.size
  try simp only [World.size_alloc] at hsz1
  have GG := HI1.out.step hb1
  have HI2 := Lib.hid GG
  have HB2 := Lib.hid HI2.out.B
  clear H0 HI1
  obtain ⟨⟨z0, x0⟩, ⟨z1, x1⟩, _⟩ := GG
  dsimp only at z0 x0 z1 x1
  go_wp2_with fail
  refine (small_any p h _).mono ?_
  rintro en w2 ⟨rfl, hb2⟩
  have hsz2 := hb2.size
  try simp only [World.size_alloc] at hsz2
  rw [hsb]
  have GG := HI2.out.step hb2
  have HI3 := Lib.hid GG
  have HB3 := Lib.hid HI3.out.B
  clear z0 x0 z1 x1 HI2
  obtain ⟨⟨z0, x0⟩, ⟨z1, x1⟩, _⟩ := GG
  dsimp only at z0 x0 z1 x1
  go_wp2_with fail
  refine (lcopied_any p h _ (fun b => 0 ≤ b ∧ b < w.heap.size) (HP.out.below HB3.out (fun b hb => hb.2)) (fun b hb => by have := HB3.out.size; omega) HSM.out).mono ?_
  rintro en w3 ⟨hm, rfl, om, hb3⟩
  have hsz3 := hb3.size
  try simp only [World.size_alloc] at hsz3
  have HRM := Lib.hid om.rb
  replace om := Lib.hid (om.alloc (.cells #[.string p.loc, .string p.off, .slice hm.an hm.nn hm.cn, .slice hm.ag hm.ng hm.cg, .slice hm.ap hm.np hm.cp, .int .i64 p.tik.kind, .int .i64 p.tik.day, .int .i64 p.tik.min, .string p.rc, .slice hm.ar hm.nr hm.cr, .slice hm.ae hm.ne hm.ce, .bool p.queued] 29))
  have GG := HI3.out.step hb3
  have HI4 := Lib.hid (GG.alloc #[.string p.loc, .string p.off, .slice hm.an hm.nn hm.cn, .slice hm.ag hm.ng hm.cg, .slice hm.ap hm.np hm.cp, .int .i64 p.tik.kind, .int .i64 p.tik.day, .int .i64 p.tik.min, .string p.rc, .slice hm.ar hm.nr hm.cr, .slice hm.ae hm.ne hm.ce, .bool p.queued] 29)
  have HB4 := Lib.hid HI4.out.B
  clear z0 x0 z1 x1 HI3
  obtain ⟨⟨z0, x0⟩, ⟨z1, x1⟩, _⟩ := GG
  dsimp only at z0 x0 z1 x1
  go_wp2_with fail
  refine (HA1.out hm _ _ om.out.ps (fun k hk => hk.2)).mono ?_
  rintro en w4 ⟨h1, rfl, oq, hb4⟩
  have hsz4 := hb4.size
  try simp only [World.size_alloc] at hsz4
  have HGE := Lib.hid oq.ge
  have HRB := Lib.hid oq.rb
  have oq := Lib.hid (oq.alloc (.cells #[.string q.loc, .string q.off, .slice h1.an h1.nn h1.cn, .slice h1.ag h1.ng h1.cg, .slice h1.ap h1.np h1.cp, .int .i64 q.tik.kind, .int .i64 q.tik.day, .int .i64 q.tik.min, .string q.rc, .slice h1.ar h1.nr h1.cr, .slice h1.ae h1.ne h1.ce, .bool q.queued] 29))
  have GG := HI4.out.step hb4
  have HI5 := Lib.hid (GG.alloc #[.string q.loc, .string q.off, .slice h1.an h1.nn h1.cn, .slice h1.ag h1.ng h1.cg, .slice h1.ap h1.np h1.cp, .int .i64 q.tik.kind, .int .i64 q.tik.day, .int .i64 q.tik.min, .string q.rc, .slice h1.ar h1.nr h1.cr, .slice h1.ae h1.ne h1.ce, .bool q.queued] 29)
  have HB5 := Lib.hid HI5.out.B
  replace om := Lib.hid ((om.out.keep hb4).alloc (.cells #[.string q.loc, .string q.off, .slice h1.an h1.nn h1.cn, .slice h1.ag h1.ng h1.cg, .slice h1.ap h1.np h1.cp, .int .i64 q.tik.kind, .int .i64 q.tik.day, .int .i64 q.tik.min, .string q.rc, .slice h1.ar h1.nr h1.cr, .slice h1.ae h1.ne h1.ce, .bool q.queued] 29))
  clear z0 x0 z1 x1 HI4
  obtain ⟨⟨z0, x0⟩, ⟨z1, x1⟩, ⟨z2, x2⟩, _⟩ := GG
  dsimp only at z0 x0 z1 x1 z2 x2
  go_wp2_with fail
  refine (HA2.out _ (fun b => 0 ≤ b ∧ b < w.heap.size) (HP.out.below HB5.out (fun b hb => hb.2)) (fun b hb => by have := HB5.out.size; omega)).mono ?_
  rintro en w5 ⟨h2, rfl, pw, hb5⟩
  have hsz5 := hb5.size
  try simp only [World.size_alloc] at hsz5
  have HPB : Hid (∀ b, ((0 ≤ b ∧ b < w.heap.size) ∨ ((w4.alloc (.cells #[.string q.loc, .string q.off, .slice h1.an h1.nn h1.cn, .slice h1.ag h1.ng h1.cg, .slice h1.ap h1.np h1.cp, .int .i64 q.tik.kind, .int .i64 q.tik.day, .int .i64 q.tik.min, .string q.rc, .slice h1.ar h1.nr h1.cr, .slice h1.ae h1.ne h1.ce, .bool q.queued] 29)).heap.size ≤ b ∧ b < w5.heap.size)) → b < w5.heap.size) := fun b hb => by have := HB5.out.size; rcases hb with hb | hb <;> omega
  replace pw := Lib.hid (PS.below (B := w5.heap.size) pw ((Below.refl _ _).alloc (Nat.le_refl _) (.cells #[.string q.loc, .string q.off, .slice h2.an h2.nn h2.cn, .slice h2.ag h2.ng h2.cg, .slice h2.ap h2.np h2.cp, .int .i64 q.tik.kind, .int .i64 q.tik.day, .int .i64 q.tik.min, .string q.rc, .slice h2.ar h2.nr h2.cr, .slice h2.ae h2.ne h2.ce, .bool q.queued] 29)) HPB.out)
  have GG := HI5.out.step hb5
  have HI6 := Lib.hid (GG.alloc #[.string q.loc, .string q.off, .slice h2.an h2.nn h2.cn, .slice h2.ag h2.ng h2.cg, .slice h2.ap h2.np h2.cp, .int .i64 q.tik.kind, .int .i64 q.tik.day, .int .i64 q.tik.min, .string q.rc, .slice h2.ar h2.nr h2.cr, .slice h2.ae h2.ne h2.ce, .bool q.queued] 29)
  have HB6 := Lib.hid HI6.out.B
  replace om := Lib.hid ((om.out.keep hb5).alloc (.cells #[.string q.loc, .string q.off, .slice h2.an h2.nn h2.cn, .slice h2.ag h2.ng h2.cg, .slice h2.ap h2.np h2.cp, .int .i64 q.tik.kind, .int .i64 q.tik.day, .int .i64 q.tik.min, .string q.rc, .slice h2.ar h2.nr h2.cr, .slice h2.ae h2.ne h2.ce, .bool q.queued] 29))
  replace oq := Lib.hid ((oq.out.keep hb5).alloc (.cells #[.string q.loc, .string q.off, .slice h2.an h2.nn h2.cn, .slice h2.ag h2.ng h2.cg, .slice h2.ap h2.np h2.cp, .int .i64 q.tik.kind, .int .i64 q.tik.day, .int .i64 q.tik.min, .string q.rc, .slice h2.ar h2.nr h2.cr, .slice h2.ae h2.ne h2.ce, .bool q.queued] 29))
  clear z0 x0 z1 x1 z2 x2 HI5
  obtain ⟨⟨z0, x0⟩, ⟨z1, x1⟩, ⟨z2, x2⟩, ⟨z3, x3⟩, _⟩ := GG
  dsimp only at z0 x0 z1 x1 z2 x2 z3 x3
  go_wp2_with fail
  refine (rsame_any q q h1 h2 _ _ _ _ _ oq.out.at (pw.out.at (lo := 0) (hi := w5.heap.size) (fun b hb => ⟨Nat.zero_le _, HPB.out b hb⟩)) (oq.out.hd HQS.out) (HQS.out.hd (pw.out.at (lo := 0) (hi := w5.heap.size) (fun b hb => ⟨Nat.zero_le _, HPB.out b hb⟩))) (Nat.le_refl _) (by simp)).mono ?_
  rintro en w6 ⟨rfl, hb6⟩
  have hsz6 := hb6.size
  try simp only [World.size_alloc] at hsz6
  rw [show decide (q = q) = true from decide_eq_true rfl]
  replace pw := Lib.hid (PS.below (B := (w5.alloc (.cells #[.string q.loc, .string q.off, .slice h2.an h2.nn h2.cn, .slice h2.ag h2.ng h2.cg, .slice h2.ap h2.np h2.cp, .int .i64 q.tik.kind, .int .i64 q.tik.day, .int .i64 q.tik.min, .string q.rc, .slice h2.ar h2.nr h2.cr, .slice h2.ae h2.ne h2.ce, .bool q.queued] 29)).heap.size) pw.out (hb6.mono (by first | (simp; done) | (simp; omega) | omega)) (fun b hb => by have := HPB.out b hb; simp; omega))
  have GG := HI6.out.step hb6
  have HI7 := Lib.hid GG
  have HB7 := Lib.hid HI7.out.B
  replace om := Lib.hid ((om.out.keep hb6))
  replace oq := Lib.hid ((oq.out.keep hb6))
  clear z0 x0 z1 x1 z2 x2 z3 x3 HI6
  obtain ⟨⟨z0, x0⟩, ⟨z1, x1⟩, ⟨z2, x2⟩, ⟨z3, x3⟩, ⟨z4, x4⟩, _⟩ := GG
  dsimp only at z0 x0 z1 x1 z2 x2 z3 x3 z4 x4
  go_wp2_with fail
  refine (spoil_any q h1 _ _ oq.out (by simp; omega) HQS.out).mono ?_
  rintro en w7 ⟨rfl, hb7, hkk⟩
  have hsz7 := hb7.size
  try simp only [World.size_alloc] at hsz7
  replace om := Lib.hid (om.out.below hb7 (fun k hk => by have h1 := HRM.out k hk; simp; omega))
  replace pw := Lib.hid (pw.out.keep (fun a ha => World.cell?_of_block (hkk a.block (by have h1 := HPB.out _ ha; omega) (fun hr => by have h1 := HGE.out _ hr; have h2 := HRB.out _ hr; (try simp only [World.size_alloc] at h1); rcases ha with ha | ha; all_goals (first | omega | (simp at ha; omega))))))
  have GG := HI7.out.turn (R := rowP h1) (hb7.mono (by simp; omega)) hkk (fun x hx hr => by have h1 := HGE.out _ hr; have h2 := HRB.out _ hr; (try simp only [World.size_alloc] at h1); simp only [List.mem_cons, List.not_mem_nil, or_false] at hx; rcases hx with rfl | rfl | rfl | rfl | rfl <;> dsimp only at h1 h2 <;> omega)
  have HI8 := Lib.hid GG
  have HB8 := Lib.hid HI8.out.B
  clear z0 x0 z1 x1 z2 x2 z3 x3 z4 x4 HI7
  obtain ⟨⟨z0, x0⟩, ⟨z1, x1⟩, ⟨z2, x2⟩, ⟨z3, x3⟩, ⟨z4, x4⟩, _⟩ := GG
  dsimp only at z0 x0 z1 x1 z2 x2 z3 x3 z4 x4
  clear hkk oq
  go_wp2_with fail
  refine (HA1.out hm _ _ om.out.ps (fun k hk => hk.2)).mono ?_
  rintro en w8 ⟨h3, rfl, ox, hb8⟩
  have hsz8 := hb8.size
  try simp only [World.size_alloc] at hsz8
  replace pw := Lib.hid ((PS.below (B := w7.heap.size) pw.out hb8 (fun b hb => by have h1 := HPB.out b hb; omega)).below (B := w8.heap.size) ((Below.refl _ _).alloc (Nat.le_refl _) (.cells #[.string q.loc, .string q.off, .slice h3.an h3.nn h3.cn, .slice h3.ag h3.ng h3.cg, .slice h3.ap h3.np h3.cp, .int .i64 q.tik.kind, .int .i64 q.tik.day, .int .i64 q.tik.min, .string q.rc, .slice h3.ar h3.nr h3.cr, .slice h3.ae h3.ne h3.ce, .bool q.queued] 29)) (fun b hb => by have h1 := HPB.out b hb; omega))
  have ox := Lib.hid (ox.alloc (.cells #[.string q.loc, .string q.off, .slice h3.an h3.nn h3.cn, .slice h3.ag h3.ng h3.cg, .slice h3.ap h3.np h3.cp, .int .i64 q.tik.kind, .int .i64 q.tik.day, .int .i64 q.tik.min, .string q.rc, .slice h3.ar h3.nr h3.cr, .slice h3.ae h3.ne h3.ce, .bool q.queued] 29))
  have GG := HI8.out.step hb8
  have HI9 := Lib.hid (GG.alloc #[.string q.loc, .string q.off, .slice h3.an h3.nn h3.cn, .slice h3.ag h3.ng h3.cg, .slice h3.ap h3.np h3.cp, .int .i64 q.tik.kind, .int .i64 q.tik.day, .int .i64 q.tik.min, .string q.rc, .slice h3.ar h3.nr h3.cr, .slice h3.ae h3.ne h3.ce, .bool q.queued] 29)
  have HB9 := Lib.hid HI9.out.B
  replace om := Lib.hid ((om.out.keep hb8).alloc (.cells #[.string q.loc, .string q.off, .slice h3.an h3.nn h3.cn, .slice h3.ag h3.ng h3.cg, .slice h3.ap h3.np h3.cp, .int .i64 q.tik.kind, .int .i64 q.tik.day, .int .i64 q.tik.min, .string q.rc, .slice h3.ar h3.nr h3.cr, .slice h3.ae h3.ne h3.ce, .bool q.queued] 29))
  clear z0 x0 z1 x1 z2 x2 z3 x3 z4 x4 HI8
  obtain ⟨⟨z0, x0⟩, ⟨z1, x1⟩, ⟨z2, x2⟩, ⟨z3, x3⟩, ⟨z4, x4⟩, _⟩ := GG
  dsimp only at z0 x0 z1 x1 z2 x2 z3 x3 z4 x4
  go_wp2_with fail
  refine (rsame_any p p hm h _ _ _ _ _ om.out.at ((HP.out.below HB9.out (fun b hb => hb.2)).at (lo := 0) (hi := w.heap.size) (fun b hb => hb)) (om.out.hd HSM.out) HSh.out (Nat.le_refl _) (by have := HB9.out.size; omega)).mono ?_
  rintro en w9 ⟨rfl, hb9⟩
  have hsz9 := hb9.size
  try simp only [World.size_alloc] at hsz9
  rw [show decide (p = p) = true from decide_eq_true rfl]
  replace pw := Lib.hid (PS.below (B := (w8.alloc (.cells #[.string q.loc, .string q.off, .slice h3.an h3.nn h3.cn, .slice h3.ag h3.ng h3.cg, .slice h3.ap h3.np h3.cp, .int .i64 q.tik.kind, .int .i64 q.tik.day, .int .i64 q.tik.min, .string q.rc, .slice h3.ar h3.nr h3.cr, .slice h3.ae h3.ne h3.ce, .bool q.queued] 29)).heap.size) pw.out hb9 (fun b hb => by have h1 := HPB.out b hb; simp; omega))
  have GG := HI9.out.step hb9
  have HI10 := Lib.hid GG
  have HB10 := Lib.hid HI10.out.B
  replace om := Lib.hid ((om.out.keep hb9))
  replace ox := Lib.hid ((ox.out.keep hb9))
  clear z0 x0 z1 x1 z2 x2 z3 x3 z4 x4 HI9
  obtain ⟨⟨z0, x0⟩, ⟨z1, x1⟩, ⟨z2, x2⟩, ⟨z3, x3⟩, ⟨z4, x4⟩, ⟨z5, x5⟩, _⟩ := GG
  dsimp only at z0 x0 z1 x1 z2 x2 z3 x3 z4 x4 z5 x5
  go_wp2_with fail
  refine (rsame_any q q h3 h2 _ _ _ _ _ ox.out.at (pw.out.at (lo := 0) (hi := w9.heap.size) (fun b hb => ⟨Nat.zero_le _, by have h1 := HPB.out b hb; omega⟩)) (ox.out.hd HQS.out) (HQS.out.hd (pw.out.at (lo := 0) (hi := w9.heap.size) (fun b hb => ⟨Nat.zero_le _, by have h1 := HPB.out b hb; omega⟩))) (Nat.le_refl _) (Nat.le_refl _)).mono ?_
  rintro en w10 ⟨rfl, hb10⟩
  rw [show decide (q = q) = true from decide_eq_true rfl]
  go_wp2
  go_ret
  exact ⟨rfl, HB10.out.trans (hb10.mono HB10.out.size)⟩
end Go.Proofs.YtaakcccffmfmoaaDoor
