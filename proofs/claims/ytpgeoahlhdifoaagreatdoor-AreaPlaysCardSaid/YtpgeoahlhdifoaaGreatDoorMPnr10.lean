/- Put together by program of: Pnr9, Pnr10. -/
import Derived.Test.YtpgeoahlhdifoaaGreatDoorPnr5
import Derived.Test.YtpgeoahlhdifoaaGreatDoorMPnr8
import Derived.Test.YtpgeoahlhdifoaaGreatDoorMRapply
import Derived.Deep.RegionHeld3
import Derived.Deep.DeepCutAuto
namespace Go.Proofs.YtpgeoahlhdifoaaGreatDoor
set_option linter.unusedVariables false
open Go Go.RowKit
attribute [local go_sem ↓] Go.wp_at_zero Go.wp_at_succ
/-- What an edit of a PNR hands back: a PNR in new memory; all old memory is as it was. -/
def RetN (w : World) (r : Pnr × Int) (en : Ending) (w' : World) : Prop :=
  ∃ h', en = .returned (.tuple #[.agg #[.string r.1.loc, .string r.1.off, .slice h'.an h'.nn h'.cn, .slice h'.ag h'.ng h'.cg, .slice h'.ap h'.np h'.cp, .int .i64 r.1.tik.kind, .int .i64 r.1.tik.day, .int .i64 r.1.tik.min, .string r.1.rc, .slice h'.ar h'.nr h'.cr, .slice h'.ae h'.ne h'.ce, .bool r.1.queued], .int .i64 r.2]) ∧ OP w' w.heap.size r.1 h' ∧ Below w.heap.size w w'
def hd0 : Hd := Hd.mk none 0 0 none 0 0 none 0 0 none 0 0 none 0 0
theorem pnr0_op (w : World) (B : Nat) : OP w B pnr0 hd0 :=
  ⟨by simp [okStr, pnr0, ByteArray.size], by simp [okStr, pnr0, ByteArray.size], by simp [okStr, pnr0, ByteArray.size], by simp [Tik.ok, okInt, pnr0], Own.nil_ _ _ _ _, Own.nil_ _ _ _ _, Own.nil_ _ _ _ _, Own.nil_ _ _ _ _, Own.nil_ _ _ _ _⟩
theorem OP.rowAt {W : World} {B g : Nat} {q : Pnr} {h : Hd} (H : OP W B q h) (hg : g < B) (cs : Array Value) : OP (W.setRow g cs) B q h :=
  ⟨H.loc, H.off, H.rc, H.tik, H.names.setRow hg cs, H.segs.setRow hg cs, H.phones.setRow hg cs, H.remarks.setRow hg cs, H.seats.setRow hg cs⟩
theorem OP.not_row {W : World} {B g : Nat} {q : Pnr} {h : Hd} (H : OP W B q h) (hg : g < B) : ¬ rowP h g := fun hr => by
  rcases hr with h | h | h | h | h
  · have := (H.names.bk_lt _ h).1; omega
  · have := (H.segs.bk_lt _ h).1; omega
  · have := (H.phones.bk_lt _ h).1; omega
  · have := (H.remarks.bk_lt _ h).1; omega
  · have := (H.seats.bk_lt _ h).1; omega
/-- Twelve stores are one row. -/
theorem set12 {W : World} {g : Nat} (hr : Bx W g #[.string ⟨#[]⟩, .string ⟨#[]⟩, .slice none 0 0, .slice none 0 0, .slice none 0 0, .int .i64 0, .int .i64 0, .int .i64 0, .string ⟨#[]⟩, .slice none 0 0, .slice none 0 0, .bool false] 29) (a0 a1 a2 a3 a4 a5 a6 a7 a8 a9 a10 a11 : Value) : ((((((((((((W.setCell ⟨g, 0, none⟩ a0).setCell ⟨g, 1, none⟩ a1).setCell ⟨g, 2, none⟩ a2).setCell ⟨g, 3, none⟩ a3).setCell ⟨g, 4, none⟩ a4).setCell ⟨g, 5, none⟩ a5).setCell ⟨g, 6, none⟩ a6).setCell ⟨g, 7, none⟩ a7).setCell ⟨g, 8, none⟩ a8).setCell ⟨g, 9, none⟩ a9).setCell ⟨g, 10, none⟩ a10).setCell ⟨g, 11, none⟩ a11) = W.setRow g #[a0, a1, a2, a3, a4, a5, a6, a7, a8, a9, a10, a11] := by
  have hr' : W.heap[g]? = some (.cells #[.string ⟨#[]⟩, .string ⟨#[]⟩, .slice none 0 0, .slice none 0 0, .slice none 0 0, .int .i64 0, .int .i64 0, .int .i64 0, .string ⟨#[]⟩, .slice none 0 0, .slice none 0 0, .bool false] 29 (0, 0)) := hr
  have s : ∀ (cs : Array Value) (i : Nat) (u : Value), (W.setRow g cs).setCell ⟨g, i, none⟩ u = W.setRow g (cs.setIfInBounds i u) := fun cs i u => by
    rw [setCell_eq_setRow (W.setRow g cs) g i cs _ (0, 0) u (setRow_heap W g _ cs _ _ hr'), setRow_setRow]
  rw [setCell_eq_setRow W g 0 _ _ (0, 0) a0 hr', s, s, s, s, s, s, s, s, s, s, s]
  simp
theorem local_done {w W : World} {g D : Nat} {pc ec rc : Array Value} {q : Pnr} {h2 : Hd} (hF : FR w pc ec rc W) (hg : w.heap.size + 1 + 1 < g) (hO : OP W D q h2) (hng : ¬ rowP h2 g) (hbx : Bx W g #[.string ⟨#[]⟩, .string ⟨#[]⟩, .slice none 0 0, .slice none 0 0, .slice none 0 0, .int .i64 0, .int .i64 0, .int .i64 0, .string ⟨#[]⟩, .slice none 0 0, .slice none 0 0, .bool false] 29) :
    FR w pc ec rc (W.setRow g #[.string q.loc, .string q.off, .slice h2.an h2.nn h2.cn, .slice h2.ag h2.ng h2.cg, .slice h2.ap h2.np h2.cp, .int .i64 q.tik.kind, .int .i64 q.tik.day, .int .i64 q.tik.min, .string q.rc, .slice h2.ar h2.nr h2.cr, .slice h2.ae h2.ne h2.ce, .bool q.queued]) ∧ OP (W.setRow g #[.string q.loc, .string q.off, .slice h2.an h2.nn h2.cn, .slice h2.ag h2.ng h2.cg, .slice h2.ap h2.np h2.cp, .int .i64 q.tik.kind, .int .i64 q.tik.day, .int .i64 q.tik.min, .string q.rc, .slice h2.ar h2.nr h2.cr, .slice h2.ae h2.ne h2.ce, .bool q.queued]) D q h2 ∧ (∀ i, (W.setRow g #[.string q.loc, .string q.off, .slice h2.an h2.nn h2.cn, .slice h2.ag h2.ng h2.cg, .slice h2.ap h2.np h2.cp, .int .i64 q.tik.kind, .int .i64 q.tik.day, .int .i64 q.tik.min, .string q.rc, .slice h2.ar h2.nr h2.cr, .slice h2.ae h2.ne h2.ce, .bool q.queued]).cell? ⟨g, i, none⟩ = (#[.string q.loc, .string q.off, .slice h2.an h2.nn h2.cn, .slice h2.ag h2.ng h2.cg, .slice h2.ap h2.np h2.cp, .int .i64 q.tik.kind, .int .i64 q.tik.day, .int .i64 q.tik.min, .string q.rc, .slice h2.ar h2.nr h2.cr, .slice h2.ae h2.ne h2.ce, .bool q.queued] : Array Value)[i]?) ∧ g < (W.setRow g #[.string q.loc, .string q.off, .slice h2.an h2.nn h2.cn, .slice h2.ag h2.ng h2.cg, .slice h2.ap h2.np h2.cp, .int .i64 q.tik.kind, .int .i64 q.tik.day, .int .i64 q.tik.min, .string q.rc, .slice h2.ar h2.nr h2.cr, .slice h2.ae h2.ne h2.ce, .bool q.queued]).heap.size :=
  ⟨⟨below_setRow hF.B (by omega) _, hF.r1.rowOther (by omega) _, hF.r2.rowOther (by omega) _, hF.r3.rowOther (by omega) _⟩,
    hO.grown (g := g) (fun k hk e => hng (e ▸ hk)) ⟨rfl, rfl, rfl, by simp, fun k _ hne => setRow_other W g k _ (fun e => hne (by rw [e]))⟩,
    Bx.cells (hbx.row _), by have := hbx.lt; simp; omega⟩
set_option maxRecDepth 100000 in
set_option maxHeartbeats 8000000 in
theorem papply_any (p : Pnr) (h : Hd) (e : Edit) (w : World) (S : Nat → Prop) (hp : PS w S p h) (hS : ∀ b, S b → b < w.heap.size) (hs : p.small 100000) (he : e.ok) :
    Calls Tryz.prog 41 #[.agg #[.string p.loc, .string p.off, .slice h.an h.nn h.cn, .slice h.ag h.ng h.cg, .slice h.ap h.np h.cp, .int .i64 p.tik.kind, .int .i64 p.tik.day, .int .i64 p.tik.min, .string p.rc, .slice h.ar h.nr h.cr, .slice h.ae h.ne h.ce, .bool p.queued], .agg #[.int .i64 e.kind, .string e.nam.last, .string e.nam.first, .string e.seg.car, .int .i64 e.seg.num, .int .i64 e.seg.day, .int .u8 e.seg.cls, .bool e.seg.live, .int .i64 e.tik.kind, .int .i64 e.tik.day, .int .i64 e.tik.min, .string e.text, .int .i64 e.n, .int .i64 e.pax, .int .i64 e.row, .int .u8 e.let_]] w (RetN w (applyF p e)) := by
  have HP := Lib.hid hp
  have HSM := Lib.hid hs
  have HB := Lib.hid hS
  have HX := Lib.hid (show applyF p e = (if (changeF p e).2 ≠ 0 then (pnr0, (changeF p e).2) else ((changeF p e).1, 0)) from rfl)
  have HCh := Lib.hid (fun (h1 : Hd) (W : World) (D : Nat) (h1' : OP W D p h1) (h2 : Ap h1) (h3 : D ≤ W.heap.size) => pchange_any p h1 e W D h1' h2 h3 hs he)
  generalize changeF p e = r at HX HCh
  obtain ⟨q, n⟩ := r
  clear hp hS hs
  obtain ⟨an, nn, cn, ag, ng, cg, ap, np, cp, ar, nr, cr, ae, ne, ce⟩ := h
  have hF := FR.start w #[.string p.loc, .string p.off, .slice an nn cn, .slice ag ng cg, .slice ap np cp, .int .i64 p.tik.kind, .int .i64 p.tik.day, .int .i64 p.tik.min, .string p.rc, .slice ar nr cr, .slice ae ne ce, .bool p.queued] #[.int .i64 e.kind, .string e.nam.last, .string e.nam.first, .string e.seg.car, .int .i64 e.seg.num, .int .i64 e.seg.day, .int .u8 e.seg.cls, .bool e.seg.live, .int .i64 e.tik.kind, .int .i64 e.tik.day, .int .i64 e.tik.min, .string e.text, .int .i64 e.n, .int .i64 e.pax, .int .i64 e.row, .int .u8 e.let_] zc
  unfold zc at hF
  dsimp only
  go_enter Tryz.func41, Tryz.ntmps41
  go_upto_region 1 with fail
  refine wp_world (FR w #[.string p.loc, .string p.off, .slice an nn cn, .slice ag ng cg, .slice ap np cp, .int .i64 p.tik.kind, .int .i64 p.tik.day, .int .i64 p.tik.min, .string p.rc, .slice ar nr cr, .slice ae ne ce, .bool p.queued] #[.int .i64 e.kind, .string e.nam.last, .string e.nam.first, .string e.seg.car, .int .i64 e.seg.num, .int .i64 e.seg.day, .int .u8 e.seg.cls, .bool e.seg.live, .int .i64 e.tik.kind, .int .i64 e.tik.day, .int .i64 e.tik.min, .string e.text, .int .i64 e.n, .int .i64 e.pax, .int .i64 e.row, .int .u8 e.let_] #[.string ⟨#[]⟩, .string ⟨#[]⟩, .slice none 0 0, .slice none 0 0, .slice none 0 0, .int .i64 0, .int .i64 0, .int .i64 0, .string ⟨#[]⟩, .slice none 0 0, .slice none 0 0, .bool false]) hF ?_
  clear hF
  intro W hF
  have x1 := hF.c1
  have x2 := hF.c2
  have z1 := hF.z
  have z0 : w.heap.size < W.heap.size := by omega
  have z2 : w.heap.size + 1 < W.heap.size := by omega
  go_cut [6, 7] (fun s6 s7 w' => ∃ g h2, s6 = .pointer (some ⟨g, 0, none⟩) ∧ s7 = .int .i64 n ∧ FR w #[.string p.loc, .string p.off, .slice an nn cn, .slice ag ng cg, .slice ap np cp, .int .i64 p.tik.kind, .int .i64 p.tik.day, .int .i64 p.tik.min, .string p.rc, .slice ar nr cr, .slice ae ne ce, .bool p.queued] #[.int .i64 e.kind, .string e.nam.last, .string e.nam.first, .string e.seg.car, .int .i64 e.seg.num, .int .i64 e.seg.day, .int .u8 e.seg.cls, .bool e.seg.live, .int .i64 e.tik.kind, .int .i64 e.tik.day, .int .i64 e.tik.min, .string e.text, .int .i64 e.n, .int .i64 e.pax, .int .i64 e.row, .int .u8 e.let_] #[.string ⟨#[]⟩, .string ⟨#[]⟩, .slice none 0 0, .slice none 0 0, .slice none 0 0, .int .i64 0, .int .i64 0, .int .i64 0, .string ⟨#[]⟩, .slice none 0 0, .slice none 0 0, .bool false] w' ∧ OP w' (w.heap.size + 1 + 1 + 1) q h2 ∧ (∀ i, w'.cell? ⟨g, i, none⟩ = (#[.string q.loc, .string q.off, .slice h2.an h2.nn h2.cn, .slice h2.ag h2.ng h2.cg, .slice h2.ap h2.np h2.cp, .int .i64 q.tik.kind, .int .i64 q.tik.day, .int .i64 q.tik.min, .string q.rc, .slice h2.ar h2.nr h2.cr, .slice h2.ae h2.ne h2.ce, .bool q.queued] : Array Value)[i]?) ∧ g < w'.heap.size)
  case first =>
    go_region_held3 (fun w' => (∀ i : Nat, w'.cell? ⟨w.heap.size, i, none⟩ = (#[.string p.loc, .string p.off, .slice an nn cn, .slice ag ng cg, .slice ap np cp, .int .i64 p.tik.kind, .int .i64 p.tik.day, .int .i64 p.tik.min, .string p.rc, .slice ar nr cr, .slice ae ne ce, .bool p.queued] : Array Value)[i]?) ∧ (∀ i : Nat, w'.cell? ⟨w.heap.size + 1, i, none⟩ = (#[.int .i64 e.kind, .string e.nam.last, .string e.nam.first, .string e.seg.car, .int .i64 e.seg.num, .int .i64 e.seg.day, .int .u8 e.seg.cls, .bool e.seg.live, .int .i64 e.tik.kind, .int .i64 e.tik.day, .int .i64 e.tik.min, .string e.text, .int .i64 e.n, .int .i64 e.pax, .int .i64 e.row, .int .u8 e.let_] : Array Value)[i]?)) (refine ⟨?_, ?_⟩ <;> (repeat (refine boxed_set ?_ _ (by first | omega | (simp; omega)) _)) <;> first | exact hF2.c1 | exact (hF2.alloc _).c1 | exact hF1.c1 | exact (hF1.alloc _).c1 | exact hF.drew.c1 | exact (hF.drew.alloc _).c1 | exact hF2.c2 | exact (hF2.alloc _).c2 | exact hF1.c2 | exact (hF1.alloc _).c2 | exact hF.drew.c2 | exact (hF.drew.alloc _).c2) (first
      | (go_at_call 48; refine (copied_any p _ W.drew S (HP.out.below hF.drew.B HB.out) (fun b hb => by have := HB.out b hb; have := hF.drew.z; omega) HSM.out).mono ?_; rintro en w1 ⟨h1, rfl, hO1, hA1, hb1⟩; have hF1 := hF.drew.step hb1; have hs1 := hb1.size; have y1 := hF1.c1; have y2 := hF1.c2; have y3 := hF1.z; have y4 : w.heap.size < w1.heap.size := (by omega); have y5 : w.heap.size + 1 < w1.heap.size := (by omega))
      | (go_at_call 48; refine (copied_any p _ (W.drew.alloc (.cells #[.string ⟨#[]⟩, .string ⟨#[]⟩, .slice none 0 0, .slice none 0 0, .slice none 0 0, .int .i64 0, .int .i64 0, .int .i64 0, .string ⟨#[]⟩, .slice none 0 0, .slice none 0 0, .bool false] 29)) S (HP.out.below (hF.drew.alloc _).B HB.out) (fun b hb => by have := HB.out b hb; have := hF.drew.z; simp; omega) HSM.out).mono ?_; rintro en w1 ⟨h1, rfl, hO1, hA1, hb1⟩; have hF1 := (hF.drew.alloc _).step hb1; have hbx1 : Bx w1 W.heap.size #[.string ⟨#[]⟩, .string ⟨#[]⟩, .slice none 0 0, .slice none 0 0, .slice none 0 0, .int .i64 0, .int .i64 0, .int .i64 0, .string ⟨#[]⟩, .slice none 0 0, .slice none 0 0, .bool false] 29 := Bx.below (Bx.new W.drew #[.string ⟨#[]⟩, .string ⟨#[]⟩, .slice none 0 0, .slice none 0 0, .slice none 0 0, .int .i64 0, .int .i64 0, .int .i64 0, .string ⟨#[]⟩, .slice none 0 0, .slice none 0 0, .bool false] 29) hb1 (by simp); have hs1 := hb1.size; have hg1 : W.heap.size < (W.drew.alloc (.cells #[.string ⟨#[]⟩, .string ⟨#[]⟩, .slice none 0 0, .slice none 0 0, .slice none 0 0, .int .i64 0, .int .i64 0, .int .i64 0, .string ⟨#[]⟩, .slice none 0 0, .slice none 0 0, .bool false] 29)).heap.size := (by simp); have y1 := hF1.c1; have y2 := hF1.c2; have y3 := hF1.z; have y4 : w.heap.size < w1.heap.size := (by omega); have y5 : w.heap.size + 1 < w1.heap.size := (by omega))
      | (go_at_call 53; refine (HCh.out h1 w1 _ hO1 hA1 hs1).mono ?_; rintro en w2 ⟨h2, rfl, hO2, hb2, hk2, hr2⟩; have hbx2 := (hk2 _ (by omega) (hO1.not_row hg1)).trans hbx1; have hq1 := Bx.cells hbx2; have hq2 := Bx.free hbx2; have hng : ¬ rowP h2 W.heap.size := (fun hr => (hr2 _ hr).elim (fun h => hO1.not_row hg1 h) (fun h => by have := hO1.at; simp at hs1; omega)); have hF2 := hF1.over (hb2.mono (by simp; omega)); have hs2 := hF2.z; have u4 : w.heap.size < w2.heap.size := (by omega))
      | (go_at_call 53; refine (HCh.out h1 w1 _ hO1 hA1 hs1).mono ?_; rintro en w2 ⟨h2, rfl, hO2, hb2, hk2, hr2⟩; have hF2 := hF1.over (hb2.mono (by simp; omega)); have hs2 := hF2.z; have u4 : w.heap.size < w2.heap.size := (by omega))
      | (go_at_call 53; refine (HCh.out h1 (w1.alloc (.cells #[.string ⟨#[]⟩, .string ⟨#[]⟩, .slice none 0 0, .slice none 0 0, .slice none 0 0, .int .i64 0, .int .i64 0, .int .i64 0, .string ⟨#[]⟩, .slice none 0 0, .slice none 0 0, .bool false] 29)) _ (hO1.alloc _) hA1 (Nat.le_trans hs1 (by simp))).mono ?_; rintro en w2 ⟨h2, rfl, hO2, hb2, hk2, hr2⟩; have hbx2 := (hk2 w1.heap.size (by simp) (fun hr => Nat.lt_irrefl _ (hO1.rb _ hr))).trans (Bx.new w1 #[.string ⟨#[]⟩, .string ⟨#[]⟩, .slice none 0 0, .slice none 0 0, .slice none 0 0, .int .i64 0, .int .i64 0, .int .i64 0, .string ⟨#[]⟩, .slice none 0 0, .slice none 0 0, .bool false] 29); have hq1 := Bx.cells hbx2; have hq2 := Bx.free hbx2; have hng : ¬ rowP h2 w1.heap.size := (fun hr => (hr2 _ hr).elim (fun h => Nat.lt_irrefl _ (hO1.rb _ h)) (fun h => by simp at h; omega)); have hF2 := (hF1.alloc _).over (hb2.mono (by simp; omega)); have hs2 := hF2.z; have u4 : w.heap.size < w2.heap.size := (by omega)))
    all_goals
      have hO3 := hO2.more (B' := w.heap.size + 1 + 1 + 1) (by simp; omega)
      first
        | (rw [set12 hbx2]
           have key := local_done hF2 (by omega) hO3 hng hbx2
           first
             | generalize w2.setRow w1.heap.size #[.string q.loc, .string q.off, .slice h2.an h2.nn h2.cn, .slice h2.ag h2.ng h2.cg, .slice h2.ap h2.np h2.cp, .int .i64 q.tik.kind, .int .i64 q.tik.day, .int .i64 q.tik.min, .string q.rc, .slice h2.ar h2.nr h2.cr, .slice h2.ae h2.ne h2.ce, .bool q.queued] = W9 at key ⊢
             | generalize w2.setRow W.heap.size #[.string q.loc, .string q.off, .slice h2.an h2.nn h2.cn, .slice h2.ag h2.ng h2.cg, .slice h2.ap h2.np h2.cp, .int .i64 q.tik.kind, .int .i64 q.tik.day, .int .i64 q.tik.min, .string q.rc, .slice h2.ar h2.nr h2.cr, .slice h2.ae h2.ne h2.ce, .bool q.queued] = W9 at key ⊢
           go_wp2
           go_meet
           exact ⟨_, h2, rfl, rfl, key⟩)
        | (have key : FR w #[.string p.loc, .string p.off, .slice an nn cn, .slice ag ng cg, .slice ap np cp, .int .i64 p.tik.kind, .int .i64 p.tik.day, .int .i64 p.tik.min, .string p.rc, .slice ar nr cr, .slice ae ne ce, .bool p.queued] #[.int .i64 e.kind, .string e.nam.last, .string e.nam.first, .string e.seg.car, .int .i64 e.seg.num, .int .i64 e.seg.day, .int .u8 e.seg.cls, .bool e.seg.live, .int .i64 e.tik.kind, .int .i64 e.tik.day, .int .i64 e.tik.min, .string e.text, .int .i64 e.n, .int .i64 e.pax, .int .i64 e.row, .int .u8 e.let_] #[.string ⟨#[]⟩, .string ⟨#[]⟩, .slice none 0 0, .slice none 0 0, .slice none 0 0, .int .i64 0, .int .i64 0, .int .i64 0, .string ⟨#[]⟩, .slice none 0 0, .slice none 0 0, .bool false] (w2.alloc (.cells #[.string q.loc, .string q.off, .slice h2.an h2.nn h2.cn, .slice h2.ag h2.ng h2.cg, .slice h2.ap h2.np h2.cp, .int .i64 q.tik.kind, .int .i64 q.tik.day, .int .i64 q.tik.min, .string q.rc, .slice h2.ar h2.nr h2.cr, .slice h2.ae h2.ne h2.ce, .bool q.queued] 29)) ∧ OP (w2.alloc (.cells #[.string q.loc, .string q.off, .slice h2.an h2.nn h2.cn, .slice h2.ag h2.ng h2.cg, .slice h2.ap h2.np h2.cp, .int .i64 q.tik.kind, .int .i64 q.tik.day, .int .i64 q.tik.min, .string q.rc, .slice h2.ar h2.nr h2.cr, .slice h2.ae h2.ne h2.ce, .bool q.queued] 29)) (w.heap.size + 1 + 1 + 1) q h2 ∧ (∀ i, (w2.alloc (.cells #[.string q.loc, .string q.off, .slice h2.an h2.nn h2.cn, .slice h2.ag h2.ng h2.cg, .slice h2.ap h2.np h2.cp, .int .i64 q.tik.kind, .int .i64 q.tik.day, .int .i64 q.tik.min, .string q.rc, .slice h2.ar h2.nr h2.cr, .slice h2.ae h2.ne h2.ce, .bool q.queued] 29)).cell? ⟨w2.heap.size, i, none⟩ = (#[.string q.loc, .string q.off, .slice h2.an h2.nn h2.cn, .slice h2.ag h2.ng h2.cg, .slice h2.ap h2.np h2.cp, .int .i64 q.tik.kind, .int .i64 q.tik.day, .int .i64 q.tik.min, .string q.rc, .slice h2.ar h2.nr h2.cr, .slice h2.ae h2.ne h2.ce, .bool q.queued] : Array Value)[i]?) ∧ w2.heap.size < (w2.alloc (.cells #[.string q.loc, .string q.off, .slice h2.an h2.nn h2.cn, .slice h2.ag h2.ng h2.cg, .slice h2.ap h2.np h2.cp, .int .i64 q.tik.kind, .int .i64 q.tik.day, .int .i64 q.tik.min, .string q.rc, .slice h2.ar h2.nr h2.cr, .slice h2.ae h2.ne h2.ce, .bool q.queued] 29)).heap.size := ⟨hF2.alloc _, hO3.alloc _, boxed_new w2 _ _, by simp⟩
           generalize w2.alloc (.cells #[.string q.loc, .string q.off, .slice h2.an h2.nn h2.cn, .slice h2.ag h2.ng h2.cg, .slice h2.ap h2.np h2.cp, .int .i64 q.tik.kind, .int .i64 q.tik.day, .int .i64 q.tik.min, .string q.rc, .slice h2.ar h2.nr h2.cr, .slice h2.ae h2.ne h2.ce, .bool q.queued] 29) = W9 at key ⊢
           go_wp2
           go_meet
           exact ⟨_, h2, rfl, rfl, key⟩)
  case rest =>
  clear hF x1 x2 z1 z0 z2
  obtain ⟨g, h2, rfl, rfl, hF, hO, hbx, hg⟩ := hcut
  have hz := hF.z
  by_cases hn : n = 0
  · have hfin := Lib.hid (show applyF p e = (q, 0) by rw [HX.out, if_neg (by simpa using hn)])
    have hn2 : (n != 0) = false := by rw [bne_eq_false_iff_eq]; exact hn
    clear hn
    go_wp2_with (refine store_res rfl (.tmp 4) (.tmp 19) rfl #[.string q.loc, .string q.off, .slice h2.an h2.nn h2.cn, .slice h2.ag h2.ng h2.cg, .slice h2.ap h2.np h2.cp, .int .i64 q.tik.kind, .int .i64 q.tik.day, .int .i64 q.tik.min, .string q.rc, .slice h2.ar h2.nr h2.cr, .slice h2.ae h2.ne h2.ce, .bool q.queued] rfl rfl hF.r3 rfl rfl (by simp [Value.oneCell']) ?_)
    have hF9 := hF.put3 #[.string q.loc, .string q.off, .slice h2.an h2.nn h2.cn, .slice h2.ag h2.ng h2.cg, .slice h2.ap h2.np h2.cp, .int .i64 q.tik.kind, .int .i64 q.tik.day, .int .i64 q.tik.min, .string q.rc, .slice h2.ar h2.nr h2.cr, .slice h2.ae h2.ne h2.ce, .bool q.queued]
    refine ret_ct Tryz.results41 hF9.r3 rfl rfl rfl rfl ?_
    rw [hfin.out]
    exact ⟨h2, rfl, (hO.rowAt (by omega) _).more (by omega), hF9.B⟩
  · have hfin := Lib.hid (show applyF p e = (pnr0, n) by rw [HX.out, if_pos (by simpa using hn)])
    have hn2 : (n != 0) = true := by rw [bne_iff_ne]; exact hn
    clear hn
    go_wp2_with (refine store_res rfl (.tmp 4) (.tmp 17) rfl #[.string ⟨#[]⟩, .string ⟨#[]⟩, .slice none 0 0, .slice none 0 0, .slice none 0 0, .int .i64 0, .int .i64 0, .int .i64 0, .string ⟨#[]⟩, .slice none 0 0, .slice none 0 0, .bool false] rfl rfl hF.r3 rfl rfl (by simp [Value.oneCell']) ?_)
    have hF9 := hF.put3 #[.string ⟨#[]⟩, .string ⟨#[]⟩, .slice none 0 0, .slice none 0 0, .slice none 0 0, .int .i64 0, .int .i64 0, .int .i64 0, .string ⟨#[]⟩, .slice none 0 0, .slice none 0 0, .bool false]
    refine ret_ct Tryz.results41 hF9.r3 rfl rfl rfl rfl ?_
    rw [hfin.out]
    exact ⟨hd0, rfl, pnr0_op _ _, hF9.B⟩
end Go.Proofs.YtpgeoahlhdifoaaGreatDoor
namespace Go.Proofs.YtpgeoahlhdifoaaGreatDoor
set_option linter.unusedVariables false
open Go Go.RowKit
theorem Sl.edit_ {w : World} {lo hi n : Nat} {A : Option Addr} {k : Nat} {l : List Edit} (h : Sl w lo hi tEdit A n l) (hk : k < n) :
    ∃ b o x, A = some ⟨b, o, none⟩ ∧ lo ≤ b ∧ b < hi ∧ Hid (l[k]? = some x) ∧ Edit.ok x ∧ w.cell? ⟨b, o + k * 16, none⟩ = some (.int .i64 x.kind) ∧ w.cell? ⟨b, o + k * 16 + 1, none⟩ = some (.string x.nam.last) ∧ w.cell? ⟨b, o + k * 16 + 2, none⟩ = some (.string x.nam.first) ∧ w.cell? ⟨b, o + k * 16 + 3, none⟩ = some (.string x.seg.car) ∧ w.cell? ⟨b, o + k * 16 + 4, none⟩ = some (.int .i64 x.seg.num) ∧ w.cell? ⟨b, o + k * 16 + 5, none⟩ = some (.int .i64 x.seg.day) ∧ w.cell? ⟨b, o + k * 16 + 6, none⟩ = some (.int .u8 x.seg.cls) ∧ w.cell? ⟨b, o + k * 16 + 7, none⟩ = some (.bool x.seg.live) ∧ w.cell? ⟨b, o + k * 16 + 8, none⟩ = some (.int .i64 x.tik.kind) ∧ w.cell? ⟨b, o + k * 16 + 9, none⟩ = some (.int .i64 x.tik.day) ∧ w.cell? ⟨b, o + k * 16 + 10, none⟩ = some (.int .i64 x.tik.min) ∧ w.cell? ⟨b, o + k * 16 + 11, none⟩ = some (.string x.text) ∧ w.cell? ⟨b, o + k * 16 + 12, none⟩ = some (.int .i64 x.n) ∧ w.cell? ⟨b, o + k * 16 + 13, none⟩ = some (.int .i64 x.pax) ∧ w.cell? ⟨b, o + k * 16 + 14, none⟩ = some (.int .i64 x.row) ∧ w.cell? ⟨b, o + k * 16 + 15, none⟩ = some (.int .u8 x.let_) := by
  obtain ⟨b, o, x, h1, h2, h3, h4, h5, hc⟩ := h.at_ hk
  exact ⟨b, o, x, h1, h2, h3, h4, h5, by simpa [tEdit] using hc 0 _ rfl, by simpa [tEdit] using hc 1 _ rfl, by simpa [tEdit] using hc 2 _ rfl, by simpa [tEdit] using hc 3 _ rfl, by simpa [tEdit] using hc 4 _ rfl, by simpa [tEdit] using hc 5 _ rfl, by simpa [tEdit] using hc 6 _ rfl, by simpa [tEdit] using hc 7 _ rfl, by simpa [tEdit] using hc 8 _ rfl, by simpa [tEdit] using hc 9 _ rfl, by simpa [tEdit] using hc 10 _ rfl, by simpa [tEdit] using hc 11 _ rfl, by simpa [tEdit] using hc 12 _ rfl, by simpa [tEdit] using hc 13 _ rfl, by simpa [tEdit] using hc 14 _ rfl, by simpa [tEdit] using hc 15 _ rfl⟩
/-- The fold, so many edits further. -/
def addF (k : Nat) (r : Pnr × Nat × Int) : Pnr × Nat × Int := (r.1, k + r.2.1, r.2.2)
theorem fold_step {q : Pnr} {es : List Edit} {k : Nat} {x : Edit} (hx : es[k]? = some x) (h0 : (applyF q x).2 = 0) : addF k (foldF q (es.drop k)) = addF (k + 1) (foldF (applyF q x).1 (es.drop (k + 1))) := by
  have hk := lt_of_get hx
  have hd : es.drop k = x :: es.drop (k + 1) := by
    rw [List.drop_eq_getElem_cons hk]
    congr 1
    rw [List.getElem?_eq_getElem hk] at hx
    injection hx
  rw [hd]
  simp only [foldF, addF]
  rw [if_neg (by simpa using h0)]
  simp only [Prod.mk.injEq, true_and, and_true]
  omega
theorem fold_stop {q : Pnr} {es : List Edit} {k : Nat} {x : Edit} (hx : es[k]? = some x) (h0 : (applyF q x).2 ≠ 0) : addF k (foldF q (es.drop k)) = (q, k, (applyF q x).2) := by
  have hk := lt_of_get hx
  have hd : es.drop k = x :: es.drop (k + 1) := by
    rw [List.drop_eq_getElem_cons hk]
    congr 1
    rw [List.getElem?_eq_getElem hk] at hx
    injection hx
  rw [hd]
  simp only [foldF, addF]
  rw [if_pos h0]
  simp
theorem fold_end {q : Pnr} {es : List Edit} {k : Nat} (hk : es.length = k) : addF k (foldF q (es.drop k)) = (q, k, 0) := by
  rw [List.drop_of_length_le (by omega)]
  simp [foldF, addF]
theorem applyF_small {p : Pnr} {e : Edit} {N : Nat} (h : p.small N) : (applyF p e).1.small (N + 1) := by
  unfold applyF
  split
  · exact ⟨by simp [pnr0], by simp [pnr0], by simp [pnr0], by simp [pnr0], by simp [pnr0]⟩
  · exact changeF_small h

/-- What a fold of edits hands back. -/
def FoldQ (w : World) (r : Pnr × Nat × Int) (en : Ending) (w' : World) : Prop :=
  ∃ h', en = .returned (.tuple #[.agg #[.string r.1.loc, .string r.1.off, .slice h'.an h'.nn h'.cn, .slice h'.ag h'.ng h'.cg, .slice h'.ap h'.np h'.cp, .int .i64 r.1.tik.kind, .int .i64 r.1.tik.day, .int .i64 r.1.tik.min, .string r.1.rc, .slice h'.ar h'.nr h'.cr, .slice h'.ae h'.ne h'.ce, .bool r.1.queued], .int .i64 r.2.1, .int .i64 r.2.2]) ∧ OP w' w.heap.size r.1 h' ∧ Below w.heap.size w w'
theorem FoldQ.mk' {w w' : World} {r : Pnr × Nat × Int} {q : Pnr} {k : Nat} {n : Int} {h' : Hd} (e : r = (q, k, n)) (hp : OP w' w.heap.size q h') (hb : Below w.heap.size w w') : FoldQ w r (.returned (.tuple #[.agg #[.string q.loc, .string q.off, .slice h'.an h'.nn h'.cn, .slice h'.ag h'.ng h'.cg, .slice h'.ap h'.np h'.cp, .int .i64 q.tik.kind, .int .i64 q.tik.day, .int .i64 q.tik.min, .string q.rc, .slice h'.ar h'.nr h'.cr, .slice h'.ae h'.ne h'.ce, .bool q.queued], .int .i64 k, .int .i64 n])) w' := by
  subst e
  exact ⟨h', rfl, hp, hb⟩
set_option maxRecDepth 100000 in
set_option maxHeartbeats 8000000 in
theorem pfold_any (p : Pnr) (h : Hd) (es : List Edit) (A : Option Addr) (n c : Nat) (w : World) (S : Nat → Prop) (lo hi : Nat) (hp : PS w S p h) (hS : ∀ b, S b → b < w.heap.size) (hs : p.small 1000) (hes : Sl w lo hi tEdit A n es) (hn : n ≤ 1000) (hhi : hi ≤ w.heap.size) :
    Calls Tryz.prog 36 #[.agg #[.string p.loc, .string p.off, .slice h.an h.nn h.cn, .slice h.ag h.ng h.cg, .slice h.ap h.np h.cp, .int .i64 p.tik.kind, .int .i64 p.tik.day, .int .i64 p.tik.min, .string p.rc, .slice h.ar h.nr h.cr, .slice h.ae h.ne h.ce, .bool p.queued], .slice A n c] w (FoldQ w (foldF p es)) := by
  have HP := Lib.hid hp
  have HSM := Lib.hid (hs.mono (show 1000 ≤ 100000 by omega))
  have HS0 := Lib.hid hs
  have HB := Lib.hid hS
  have HES := Lib.hid hes
  have HLE := Lib.hid hes.len
  clear hp hS hs hes
  obtain ⟨an, nn, cn, ag, ng, cg, ap, np, cp, ar, nr, cr, ae, ne, ce⟩ := h
  have hF := FC.start w #[.string p.loc, .string p.off, .slice an nn cn, .slice ag ng cg, .slice ap np cp, .int .i64 p.tik.kind, .int .i64 p.tik.day, .int .i64 p.tik.min, .string p.rc, .slice ar nr cr, .slice ae ne ce, .bool p.queued] zc
  unfold zc at hF
  dsimp only
  go_enter Tryz.func36, Tryz.ntmps36
  go_wp2_with fail
  refine (copied_any p _ _ S (HP.out.below hF.B HB.out) (fun b hb => by have := HB.out b hb; have := hF.z; omega) HSM.out).mono ?_
  rintro en w1 ⟨h1, rfl, hO1, _, hb1⟩
  have hF1 := hF.step hb1
  have hO1' := hO1.more (B' := w.heap.size + 1 + 1) (by simp)
  clear hF hO1 hb1
  go_upto_region 2 with (refine store_res rfl (.tmp 4) (.tmp 12) rfl #[.string p.loc, .string p.off, .slice h1.an h1.nn h1.cn, .slice h1.ag h1.ng h1.cg, .slice h1.ap h1.np h1.cp, .int .i64 p.tik.kind, .int .i64 p.tik.day, .int .i64 p.tik.min, .string p.rc, .slice h1.ar h1.nr h1.cr, .slice h1.ae h1.ne h1.ce, .bool p.queued] rfl rfl hF1.r2 rfl rfl (by simp [Value.oneCell']) ?_)
  have hF2 := hF1.put2 #[.string p.loc, .string p.off, .slice h1.an h1.nn h1.cn, .slice h1.ag h1.ng h1.cg, .slice h1.ap h1.np h1.cp, .int .i64 p.tik.kind, .int .i64 p.tik.day, .int .i64 p.tik.min, .string p.rc, .slice h1.ar h1.nr h1.cr, .slice h1.ae h1.ne h1.ce, .bool p.queued]
  have hO2 := hO1'.rowAt (g := w.heap.size + 1) (by omega) #[.string p.loc, .string p.off, .slice h1.an h1.nn h1.cn, .slice h1.ag h1.ng h1.cg, .slice h1.ap h1.np h1.cp, .int .i64 p.tik.kind, .int .i64 p.tik.day, .int .i64 p.tik.min, .string p.rc, .slice h1.ar h1.nr h1.cr, .slice h1.ae h1.ne h1.ce, .bool p.queued]
  refine wp_world (fun W => FC w #[.string p.loc, .string p.off, .slice an nn cn, .slice ag ng cg, .slice ap np cp, .int .i64 p.tik.kind, .int .i64 p.tik.day, .int .i64 p.tik.min, .string p.rc, .slice ar nr cr, .slice ae ne ce, .bool p.queued] #[.string p.loc, .string p.off, .slice h1.an h1.nn h1.cn, .slice h1.ag h1.ng h1.cg, .slice h1.ap h1.np h1.cp, .int .i64 p.tik.kind, .int .i64 p.tik.day, .int .i64 p.tik.min, .string p.rc, .slice h1.ar h1.nr h1.cr, .slice h1.ae h1.ne h1.ce, .bool p.queued] W ∧ OP W (w.heap.size + 1 + 1) p h1) ⟨hF2, hO2⟩ ?_
  clear hF1 hO1' hF2 hO2
  rintro V ⟨hF, hO⟩
  go_wp2
  go_loopw [7, 8, 9, 10, 15] (fun _ _ _ _ i wr => ∃ (k : Nat) (q : Pnr) (hq : Hd), k ≤ n ∧ i = .int .i64 k ∧ Hid (foldF p es = addF k (foldF q (es.drop k))) ∧ Hid (q.small (1000 + k)) ∧ FC w #[.string p.loc, .string p.off, .slice an nn cn, .slice ag ng cg, .slice ap np cp, .int .i64 p.tik.kind, .int .i64 p.tik.day, .int .i64 p.tik.min, .string p.rc, .slice ar nr cr, .slice ae ne ce, .bool p.queued] #[.string q.loc, .string q.off, .slice hq.an hq.nn hq.cn, .slice hq.ag hq.ng hq.cg, .slice hq.ap hq.np hq.cp, .int .i64 q.tik.kind, .int .i64 q.tik.day, .int .i64 q.tik.min, .string q.rc, .slice hq.ar hq.nr hq.cr, .slice hq.ae hq.ne hq.ce, .bool q.queued] wr ∧ OP wr (w.heap.size + 1 + 1) q hq) (fun _ _ _ _ i _ => n - (intOf i).toNat)
  case atStart => exact ⟨0, p, h1, Nat.zero_le _, rfl, (by show foldF p es = addF 0 (foldF p es); simp [addF]), HS0, hF, hO⟩
  case round =>
    clear hF hO
    obtain ⟨k, q, hq, hk, rfl, hfo, hsm, hF, hO⟩ := hrel
    have x1 := hF.r2.cells
    have z1 := hF.z
    by_cases hlt : k < n
    · obtain ⟨b, o, x, rfl, g1, g2, hx, hok, c0, c1, c2, c3, c4, c5, c6, c7, c8, c9, c10, c11, c12, c13, c14, c15⟩ := (HES.out.below hF.B hhi).edit_ hlt
      have HOK := Lib.hid hok
      have hk0 : (0 : Int) ≤ k := by omega
      have hkl : (k : Int) < n := by omega
      have hbs : b < wr.heap.size := by omega
      have z2 : w.heap.size + 1 < wr.heap.size := z1
      have hnxt := applyF_small (e := x) hsm.out
      have HA := Lib.hid (fun (W : World) (h1 : wr.heap.size < W.heap.size) (h2 : PS W (fun b => w.heap.size + 1 + 1 ≤ b ∧ b < wr.heap.size) q hq) => papply_any q hq x W _ h2 (fun b hb => by omega) (hsm.out.mono (by omega)) hok)
      have hst := fun (h0 : (applyF q x).2 = 0) => Lib.hid (hfo.out.trans (fold_step hx.out h0))
      have hsp := fun (h0 : (applyF q x).2 ≠ 0) => Lib.hid (hfo.out.trans (fold_stop hx.out h0))
      generalize hr : applyF q x = r at hnxt HA hst hsp
      have HR := Lib.hid hr
      clear hr
      obtain ⟨q2, f2⟩ := r
      dsimp only at hst hsp hnxt
      have hps := hO.ps.below (B := wr.heap.size) ((Below.refl _ _).alloc (Nat.le_refl _) (.cells #[.int .i64 x.kind, .string x.nam.last, .string x.nam.first, .string x.seg.car, .int .i64 x.seg.num, .int .i64 x.seg.day, .int .u8 x.seg.cls, .bool x.seg.live, .int .i64 x.tik.kind, .int .i64 x.tik.day, .int .i64 x.tik.min, .string x.text, .int .i64 x.n, .int .i64 x.pax, .int .i64 x.row, .int .u8 x.let_] 50)) (fun b hb => hb.2)
      have hFa := hF.step ((Below.refl _ _).alloc (Nat.le_refl _) (.cells #[.int .i64 x.kind, .string x.nam.last, .string x.nam.first, .string x.seg.car, .int .i64 x.seg.num, .int .i64 x.seg.day, .int .u8 x.seg.cls, .bool x.seg.live, .int .i64 x.tik.kind, .int .i64 x.tik.day, .int .i64 x.tik.min, .string x.text, .int .i64 x.n, .int .i64 x.pax, .int .i64 x.row, .int .u8 x.let_] 50))
      have hOa := hO.alloc (.cells #[.int .i64 x.kind, .string x.nam.last, .string x.nam.first, .string x.seg.car, .int .i64 x.seg.num, .int .i64 x.seg.day, .int .u8 x.seg.cls, .bool x.seg.live, .int .i64 x.tik.kind, .int .i64 x.tik.day, .int .i64 x.tik.min, .string x.text, .int .i64 x.n, .int .i64 x.pax, .int .i64 x.row, .int .u8 x.let_] 50)
      go_wp2_with fail
      refine (HA.out _ (by simp) hps).mono ?_
      rintro en w4 ⟨h4, rfl, hO4, hb4⟩
      have hF4 := hFa.step hb4
      have hO4' := hOa.keep hb4
      have hz4 := hb4.size
      simp only [World.size_alloc] at hz4
      have z3 : w.heap.size + 1 < w4.heap.size := by omega
      clear c0 c1 c2 c3 c4 c5 c6 c7 c8 c9 c10 c11 c12 c13 c14 c15 x1 HA hps
      have y1 := hF4.r2.cells
      have hbx := boxed_new w4 #[.string q2.loc, .string q2.off, .slice h4.an h4.nn h4.cn, .slice h4.ag h4.ng h4.cg, .slice h4.ap h4.np h4.cp, .int .i64 q2.tik.kind, .int .i64 q2.tik.day, .int .i64 q2.tik.min, .string q2.rc, .slice h4.ar h4.nr h4.cr, .slice h4.ae h4.ne h4.ce, .bool q2.queued] 29
      have hF5 := hF4.step ((Below.refl _ _).alloc (Nat.le_refl _) (.cells #[.string q2.loc, .string q2.off, .slice h4.an h4.nn h4.cn, .slice h4.ag h4.ng h4.cg, .slice h4.ap h4.np h4.cp, .int .i64 q2.tik.kind, .int .i64 q2.tik.day, .int .i64 q2.tik.min, .string q2.rc, .slice h4.ar h4.nr h4.cr, .slice h4.ae h4.ne h4.ce, .bool q2.queued] 29))
      have hO5 := (hO4.more (B' := w.heap.size + 1 + 1) (by simp; omega)).alloc (.cells #[.string q2.loc, .string q2.off, .slice h4.an h4.nn h4.cn, .slice h4.ag h4.ng h4.cg, .slice h4.ap h4.np h4.cp, .int .i64 q2.tik.kind, .int .i64 q2.tik.day, .int .i64 q2.tik.min, .string q2.rc, .slice h4.ar h4.nr h4.cr, .slice h4.ae h4.ne h4.ce, .bool q2.queued] 29)
      have hO5' := hO4'.alloc (.cells #[.string q2.loc, .string q2.off, .slice h4.an h4.nn h4.cn, .slice h4.ag h4.ng h4.cg, .slice h4.ap h4.np h4.cp, .int .i64 q2.tik.kind, .int .i64 q2.tik.day, .int .i64 q2.tik.min, .string q2.rc, .slice h4.ar h4.nr h4.cr, .slice h4.ae h4.ne h4.ce, .bool q2.queued] 29)
      by_cases hf0 : f2 = 0
      · have hst' := hst hf0
        have hne : (f2 != 0) = false := by rw [bne_eq_false_iff_eq]; exact hf0
        clear hst hsp hf0
        go_wp2_with (refine store_res rfl (.tmp 4) (.tmp 31) rfl #[.string q2.loc, .string q2.off, .slice h4.an h4.nn h4.cn, .slice h4.ag h4.ng h4.cg, .slice h4.ap h4.np h4.cp, .int .i64 q2.tik.kind, .int .i64 q2.tik.day, .int .i64 q2.tik.min, .string q2.rc, .slice h4.ar h4.nr h4.cr, .slice h4.ae h4.ne h4.ce, .bool q2.queued] rfl rfl hF5.r2 rfl rfl (by simp [Value.oneCell']) ?_)
        go_roundw
        case rel => exact ⟨k + 1, q2, h4, by omega, by go_num, hst', hnxt, hF5.put2 _, hO5.rowAt (by omega) _⟩
        case measure => simp [intOf]; omega
      · have hsp' := hsp hf0
        have hne : (f2 != 0) = true := by rw [bne_iff_ne]; exact hf0
        clear hst hsp hf0
        go_wp2_with (refine store_res rfl (.tmp 4) (.tmp 28) rfl #[.string q.loc, .string q.off, .slice hq.an hq.nn hq.cn, .slice hq.ag hq.ng hq.cg, .slice hq.ap hq.np hq.cp, .int .i64 q.tik.kind, .int .i64 q.tik.day, .int .i64 q.tik.min, .string q.rc, .slice hq.ar hq.nr hq.cr, .slice hq.ae hq.ne hq.ce, .bool q.queued] rfl rfl hF5.r2 rfl rfl (by simp [Value.oneCell']) ?_)
        have hF9 := hF5.put2 #[.string q.loc, .string q.off, .slice hq.an hq.nn hq.cn, .slice hq.ag hq.ng hq.cg, .slice hq.ap hq.np hq.cp, .int .i64 q.tik.kind, .int .i64 q.tik.day, .int .i64 q.tik.min, .string q.rc, .slice hq.ar hq.nr hq.cr, .slice hq.ae hq.ne hq.ce, .bool q.queued]
        refine ret_cuv Tryz.results36 hF9.r2 rfl rfl rfl rfl rfl ?_
        exact FoldQ.mk' hsp'.out ((hO5'.rowAt (by omega) _).more (by omega)) hF9.B
    · obtain rfl : n = k := by omega
      have hfin := Lib.hid (hfo.out.trans (fold_end HLE.out))
      go_wp2_with (refine store_res rfl (.tmp 4) (.tmp 33) rfl #[.string q.loc, .string q.off, .slice hq.an hq.nn hq.cn, .slice hq.ag hq.ng hq.cg, .slice hq.ap hq.np hq.cp, .int .i64 q.tik.kind, .int .i64 q.tik.day, .int .i64 q.tik.min, .string q.rc, .slice hq.ar hq.nr hq.cr, .slice hq.ae hq.ne hq.ce, .bool q.queued] rfl rfl hF.r2 rfl rfl (by simp [Value.oneCell']) ?_)
      have hF9 := hF.put2 #[.string q.loc, .string q.off, .slice hq.an hq.nn hq.cn, .slice hq.ag hq.ng hq.cg, .slice hq.ap hq.np hq.cp, .int .i64 q.tik.kind, .int .i64 q.tik.day, .int .i64 q.tik.min, .string q.rc, .slice hq.ar hq.nr hq.cr, .slice hq.ae hq.ne hq.ce, .bool q.queued]
      refine ret_cuv Tryz.results36 hF9.r2 rfl rfl rfl rfl rfl ?_
      exact FoldQ.mk' hfin.out ((hO.rowAt (by omega) _).more (by omega)) hF9.B
end Go.Proofs.YtpgeoahlhdifoaaGreatDoor
