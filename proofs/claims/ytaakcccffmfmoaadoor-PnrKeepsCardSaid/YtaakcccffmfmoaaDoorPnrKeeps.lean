/- PnrKeeps: the walk. -/
import Derived.Test.YtaakcccffmfmoaaDoorKeeps1
import Derived.Test.YtaakcccffmfmoaaDoorKeeps2
namespace Go.Proofs.YtaakcccffmfmoaaDoor
set_option linter.unusedVariables false
open Go Go.RowKit
set_option maxRecDepth 100000 in
set_option maxHeartbeats 8000000 in
theorem keeps_early (p : Pnr) (h : Hd) (e : Edit) (w : World) (hp : PAt w 0 w.heap.size p h) (hc : Caps h) (he : e.ok) (hsb : smallB h = false) :
    Calls Tryd.prog 10 #[.agg #[.string p.loc, .string p.off, .slice h.an h.nn h.cn, .slice h.ag h.ng h.cg, .slice h.ap h.np h.cp, .int .i64 p.tik.kind, .int .i64 p.tik.day, .int .i64 p.tik.min, .string p.rc, .slice h.ar h.nr h.cr, .slice h.ae h.ne h.ce, .bool p.queued], .agg #[.int .i64 e.kind, .string e.nam.last, .string e.nam.first, .string e.seg.car, .int .i64 e.seg.num, .int .i64 e.seg.day, .int .u8 e.seg.cls, .bool e.seg.live, .int .i64 e.tik.kind, .int .i64 e.tik.day, .int .i64 e.tik.min, .string e.text, .int .i64 e.n, .int .i64 e.pax, .int .i64 e.row, .int .u8 e.let_]] w (RetB w true) := by
  have H0 : BS w [(w.heap.size + 1, #[.int .i64 e.kind, .string e.nam.last, .string e.nam.first, .string e.seg.car, .int .i64 e.seg.num, .int .i64 e.seg.day, .int .u8 e.seg.cls, .bool e.seg.live, .int .i64 e.tik.kind, .int .i64 e.tik.day, .int .i64 e.tik.min, .string e.text, .int .i64 e.n, .int .i64 e.pax, .int .i64 e.row, .int .u8 e.let_]), (w.heap.size, #[.string p.loc, .string p.off, .slice h.an h.nn h.cn, .slice h.ag h.ng h.cg, .slice h.ap h.np h.cp, .int .i64 p.tik.kind, .int .i64 p.tik.day, .int .i64 p.tik.min, .string p.rc, .slice h.ar h.nr h.cr, .slice h.ae h.ne h.ce, .bool p.queued])] ((w.alloc (.cells #[.string p.loc, .string p.off, .slice h.an h.nn h.cn, .slice h.ag h.ng h.cg, .slice h.ap h.np h.cp, .int .i64 p.tik.kind, .int .i64 p.tik.day, .int .i64 p.tik.min, .string p.rc, .slice h.ar h.nr h.cr, .slice h.ae h.ne h.ce, .bool p.queued] 29)).alloc (.cells #[.int .i64 e.kind, .string e.nam.last, .string e.nam.first, .string e.seg.car, .int .i64 e.seg.num, .int .i64 e.seg.day, .int .u8 e.seg.cls, .bool e.seg.live, .int .i64 e.tik.kind, .int .i64 e.tik.day, .int .i64 e.tik.min, .string e.text, .int .i64 e.n, .int .i64 e.pax, .int .i64 e.row, .int .u8 e.let_] 49)) := by
    have a := BS.alloc (w := w) (L := []) (Below.refl _ w) #[.string p.loc, .string p.off, .slice h.an h.nn h.cn, .slice h.ag h.ng h.cg, .slice h.ap h.np h.cp, .int .i64 p.tik.kind, .int .i64 p.tik.day, .int .i64 p.tik.min, .string p.rc, .slice h.ar h.nr h.cr, .slice h.ae h.ne h.ce, .bool p.queued] 29
    have b := a.alloc #[.int .i64 e.kind, .string e.nam.last, .string e.nam.first, .string e.seg.car, .int .i64 e.seg.num, .int .i64 e.seg.day, .int .u8 e.seg.cls, .bool e.seg.live, .int .i64 e.tik.kind, .int .i64 e.tik.day, .int .i64 e.tik.min, .string e.text, .int .i64 e.n, .int .i64 e.pax, .int .i64 e.row, .int .u8 e.let_] 49
    rw [World.size_alloc] at b
    exact b
  go_enter Tryd.func10, Tryd.ntmps10
  have HI1 := Lib.hid H0
  have HB1 := Lib.hid HI1.out.B
  go_wp2_with fail
  refine (awake12_any _).mono ?_
  rintro en w1 ⟨rfl, hb1⟩
  have hsz1 := hb1.size
  try simp only [World.size_alloc] at hsz1
  have GG := HI1.out.step hb1
  have HI2 := Lib.hid GG
  have HB2 := Lib.hid HI2.out.B
  clear H0 HI1
  obtain ⟨⟨z0, x0⟩, ⟨z1, x1⟩, _⟩ := GG
  dsimp only at z0 x0 z1 x1
  go_wp2_with fail
  refine (small_any p h _).mono ?_
  rintro en w2 ⟨rfl, hb2⟩
  have hsz2 := hb2.size
  try simp only [World.size_alloc] at hsz2
  rw [hsb]
  have GG := HI2.out.step hb2
  have HI3 := Lib.hid GG
  have HB3 := Lib.hid HI3.out.B
  clear z0 x0 z1 x1 HI2
  obtain ⟨⟨z0, x0⟩, ⟨z1, x1⟩, _⟩ := GG
  dsimp only at z0 x0 z1 x1
  go_wp2
  go_ret
  exact ⟨rfl, HB3.out⟩
set_option maxRecDepth 100000 in
set_option maxHeartbeats 8000000 in
theorem keeps_err (p : Pnr) (h : Hd) (e : Edit) (w : World) (hp : PAt w 0 w.heap.size p h) (hc : Caps h) (he : e.ok) (hsb : smallB h = true) (n : Int) (hn : n ≠ 0) (hq : applyF p e = (pnr0, n)) :
    Calls Tryd.prog 10 #[.agg #[.string p.loc, .string p.off, .slice h.an h.nn h.cn, .slice h.ag h.ng h.cg, .slice h.ap h.np h.cp, .int .i64 p.tik.kind, .int .i64 p.tik.day, .int .i64 p.tik.min, .string p.rc, .slice h.ar h.nr h.cr, .slice h.ae h.ne h.ce, .bool p.queued], .agg #[.int .i64 e.kind, .string e.nam.last, .string e.nam.first, .string e.seg.car, .int .i64 e.seg.num, .int .i64 e.seg.day, .int .u8 e.seg.cls, .bool e.seg.live, .int .i64 e.tik.kind, .int .i64 e.tik.day, .int .i64 e.tik.min, .string e.text, .int .i64 e.n, .int .i64 e.pax, .int .i64 e.row, .int .u8 e.let_]] w (RetB w true) := by
  have H0 : BS w [(w.heap.size + 1, #[.int .i64 e.kind, .string e.nam.last, .string e.nam.first, .string e.seg.car, .int .i64 e.seg.num, .int .i64 e.seg.day, .int .u8 e.seg.cls, .bool e.seg.live, .int .i64 e.tik.kind, .int .i64 e.tik.day, .int .i64 e.tik.min, .string e.text, .int .i64 e.n, .int .i64 e.pax, .int .i64 e.row, .int .u8 e.let_]), (w.heap.size, #[.string p.loc, .string p.off, .slice h.an h.nn h.cn, .slice h.ag h.ng h.cg, .slice h.ap h.np h.cp, .int .i64 p.tik.kind, .int .i64 p.tik.day, .int .i64 p.tik.min, .string p.rc, .slice h.ar h.nr h.cr, .slice h.ae h.ne h.ce, .bool p.queued])] ((w.alloc (.cells #[.string p.loc, .string p.off, .slice h.an h.nn h.cn, .slice h.ag h.ng h.cg, .slice h.ap h.np h.cp, .int .i64 p.tik.kind, .int .i64 p.tik.day, .int .i64 p.tik.min, .string p.rc, .slice h.ar h.nr h.cr, .slice h.ae h.ne h.ce, .bool p.queued] 29)).alloc (.cells #[.int .i64 e.kind, .string e.nam.last, .string e.nam.first, .string e.seg.car, .int .i64 e.seg.num, .int .i64 e.seg.day, .int .u8 e.seg.cls, .bool e.seg.live, .int .i64 e.tik.kind, .int .i64 e.tik.day, .int .i64 e.tik.min, .string e.text, .int .i64 e.n, .int .i64 e.pax, .int .i64 e.row, .int .u8 e.let_] 49)) := by
    have a := BS.alloc (w := w) (L := []) (Below.refl _ w) #[.string p.loc, .string p.off, .slice h.an h.nn h.cn, .slice h.ag h.ng h.cg, .slice h.ap h.np h.cp, .int .i64 p.tik.kind, .int .i64 p.tik.day, .int .i64 p.tik.min, .string p.rc, .slice h.ar h.nr h.cr, .slice h.ae h.ne h.ce, .bool p.queued] 29
    have b := a.alloc #[.int .i64 e.kind, .string e.nam.last, .string e.nam.first, .string e.seg.car, .int .i64 e.seg.num, .int .i64 e.seg.day, .int .u8 e.seg.cls, .bool e.seg.live, .int .i64 e.tik.kind, .int .i64 e.tik.day, .int .i64 e.tik.min, .string e.text, .int .i64 e.n, .int .i64 e.pax, .int .i64 e.row, .int .u8 e.let_] 49
    rw [World.size_alloc] at b
    exact b
  have hps := smallB_pnr hsb hp
  have HSM := Lib.hid (hps.mono (show 200 ≤ 100000 by omega))
  have HP := Lib.hid (hp.ps hc)
  have HSB := Lib.hid hsb
  have ha1 := fun (W : World) (S : Nat → Prop) (a : PS W S p h) (b : ∀ k, S k → k < W.heap.size) => papply_any p h e W S a b HSM.out he
  rw [hq] at ha1
  obtain ⟨z, hz⟩ : ∃ z, z = pnr0 := ⟨_, rfl⟩
  rw [← hz] at ha1
  have HZ : Hid (decide (z = pnr0) = true) := decide_eq_true hz
  have HZS : Hid (z.small 100000) := by show z.small 100000; rw [hz]; exact ⟨by simp [pnr0], by simp [pnr0], by simp [pnr0], by simp [pnr0], by simp [pnr0]⟩
  have HA1 := Lib.hid ha1
  have hn1 : (n != 0) = true := bne_iff_ne.2 hn
  clear ha1 hp hps hc he hq hz hsb hn
  go_enter Tryd.func10, Tryd.ntmps10
  have HI1 := Lib.hid H0
  have HB1 := Lib.hid HI1.out.B
  go_wp2_with fail
  refine (awake12_any _).mono ?_
  rintro en w1 ⟨rfl, hb1⟩
  have hsz1 := hb1.size
  try simp only [World.size_alloc] at hsz1
  have GG := HI1.out.step hb1
  have HI2 := Lib.hid GG
  have HB2 := Lib.hid HI2.out.B
  clear H0 HI1
  obtain ⟨⟨z0, x0⟩, ⟨z1, x1⟩, _⟩ := GG
  dsimp only at z0 x0 z1 x1
  go_wp2_with fail
  refine (small_any p h _).mono ?_
  rintro en w2 ⟨rfl, hb2⟩
  have hsz2 := hb2.size
  try simp only [World.size_alloc] at hsz2
  rw [HSB.out]
  have GG := HI2.out.step hb2
  have HI3 := Lib.hid GG
  have HB3 := Lib.hid HI3.out.B
  clear z0 x0 z1 x1 HI2
  obtain ⟨⟨z0, x0⟩, ⟨z1, x1⟩, _⟩ := GG
  dsimp only at z0 x0 z1 x1
  go_wp2_with fail
  refine (HA1.out _ (fun b => 0 ≤ b ∧ b < w.heap.size) (HP.out.below HB3.out (fun b hb => hb.2)) (fun b hb => by have := HB3.out.size; omega)).mono ?_
  rintro en w3 ⟨h1, rfl, o1, hb3⟩
  have hsz3 := hb3.size
  try simp only [World.size_alloc] at hsz3
  dsimp only at o1
  replace o1 := Lib.hid (o1.alloc (.cells #[.string z.loc, .string z.off, .slice h1.an h1.nn h1.cn, .slice h1.ag h1.ng h1.cg, .slice h1.ap h1.np h1.cp, .int .i64 z.tik.kind, .int .i64 z.tik.day, .int .i64 z.tik.min, .string z.rc, .slice h1.ar h1.nr h1.cr, .slice h1.ae h1.ne h1.ce, .bool z.queued] 29))
  have GG := HI3.out.step hb3
  have HI4 := Lib.hid (GG.alloc #[.string z.loc, .string z.off, .slice h1.an h1.nn h1.cn, .slice h1.ag h1.ng h1.cg, .slice h1.ap h1.np h1.cp, .int .i64 z.tik.kind, .int .i64 z.tik.day, .int .i64 z.tik.min, .string z.rc, .slice h1.ar h1.nr h1.cr, .slice h1.ae h1.ne h1.ce, .bool z.queued] 29)
  have HB4 := Lib.hid HI4.out.B
  clear z0 x0 z1 x1 HI3
  obtain ⟨⟨z0, x0⟩, ⟨z1, x1⟩, _⟩ := GG
  dsimp only at z0 x0 z1 x1
  go_wp2_with fail
  have hcall := rsame_any z pnr0 h1 hd0 _ _ _ 0 0 o1.out.at ((pnr0_ps _ (fun _ => False)).at (fun _ h => h.elim)) (o1.out.hd HZS.out) ⟨by simp [hd0], by simp [hd0], by simp [hd0], by simp [hd0], by simp [hd0]⟩ (Nat.le_refl _) (Nat.zero_le _)
  refine hcall.mono ?_
  rintro en w7 ⟨rfl, hb7⟩
  clear hcall
  rw [HZ.out]
  go_wp2
  go_ret
  exact ⟨rfl, HB4.out.trans (hb7.mono HB4.out.size)⟩
theorem pnrKeeps_any (p : Pnr) (h : Hd) (e : Edit) (w : World) (hp : PAt w 0 w.heap.size p h) (hc : Caps h) (he : e.ok) :
    Calls Tryd.prog 10 #[.agg #[.string p.loc, .string p.off, .slice h.an h.nn h.cn, .slice h.ag h.ng h.cg, .slice h.ap h.np h.cp, .int .i64 p.tik.kind, .int .i64 p.tik.day, .int .i64 p.tik.min, .string p.rc, .slice h.ar h.nr h.cr, .slice h.ae h.ne h.ce, .bool p.queued], .agg #[.int .i64 e.kind, .string e.nam.last, .string e.nam.first, .string e.seg.car, .int .i64 e.seg.num, .int .i64 e.seg.day, .int .u8 e.seg.cls, .bool e.seg.live, .int .i64 e.tik.kind, .int .i64 e.tik.day, .int .i64 e.tik.min, .string e.text, .int .i64 e.n, .int .i64 e.pax, .int .i64 e.row, .int .u8 e.let_]] w (RetB w true) := by
  rcases Bool.eq_false_or_eq_true (smallB h) with hsb | hsb
  case inr => exact keeps_early p h e w hp hc he hsb
  generalize hr : applyF p e = r
  obtain ⟨q, n⟩ := r
  by_cases hn : n = 0
  · subst hn
    rcases applyF_ok hr with ⟨hk, _, _, _⟩ | ⟨hk, _, _, _, _⟩ | ⟨hk, _, _⟩ | ⟨hk, _⟩ | ⟨hk, _⟩ | ⟨hk, _, _⟩ | ⟨hk, _⟩ | ⟨hk, _, _, _⟩ | ⟨hk, _⟩
    · exact keeps_1 p h e w hp hc he hsb hk hr
    · exact keeps_2 p h e w hp hc he hsb hk hr
    · exact keeps_3 p h e w hp hc he hsb hk hr
    · exact keeps_4 p h e w hp hc he hsb hk hr
    · exact keeps_5 p h e w hp hc he hsb hk hr
    · exact keeps_6 p h e w hp hc he hsb hk hr
    · exact keeps_7 p h e w hp hc he hsb hk hr
    · exact keeps_8 p h e w hp hc he hsb hk hr
    · exact keeps_9 p h e w hp hc he hsb hk hr
  · have hq : applyF p e = (pnr0, n) := by
      have h2 := hr
      unfold applyF at h2
      split at h2
      · injection h2 with h3 h4
        rw [hr, ← h3]
      · injection h2 with h3 h4
        exact absurd h4.symm hn
    exact keeps_err p h e w hp hc he hsb n hn hq
end Go.Proofs.YtaakcccffmfmoaaDoor
