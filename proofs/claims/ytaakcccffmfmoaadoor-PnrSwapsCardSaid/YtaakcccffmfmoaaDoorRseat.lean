/- The document's edits of a PNR: whose seat it is, and a seat. -/
import Derived.Test.YtaakcccffmfmoaaDoorRpnr
import Derived.Test.YtaakcccffmfmoaaDoorLib2
namespace Go.Proofs.YtaakcccffmfmoaaDoor
set_option linter.unusedVariables false
open Go Go.RowKit
def RetI (w : World) (n : Int) (e : Ending) (w' : World) : Prop := e = .returned (.int .i64 n) ∧ Below w.heap.size w w'
/-- A PNR and an edit in boxes of the call's own. -/
structure SWE (w : World) (p : Pnr) (h : Hd) (e : Edit) (W : World) : Prop where
  B : Below w.heap.size w W
  box1 : ∀ i, W.cell? ⟨w.heap.size, i, none⟩ = (#[.string p.loc, .string p.off, .slice h.an h.nn h.cn, .slice h.ag h.ng h.cg, .slice h.ap h.np h.cp, .int .i64 p.tik.kind, .int .i64 p.tik.day, .int .i64 p.tik.min, .string p.rc, .slice h.ar h.nr h.cr, .slice h.ae h.ne h.ce, .bool p.queued] : Array Value)[i]?
  box2 : ∀ i, W.cell? ⟨w.heap.size + 1, i, none⟩ = (#[.int .i64 e.kind, .string e.nam.last, .string e.nam.first, .string e.seg.car, .int .i64 e.seg.num, .int .i64 e.seg.day, .int .u8 e.seg.cls, .bool e.seg.live, .int .i64 e.tik.kind, .int .i64 e.tik.day, .int .i64 e.tik.min, .string e.text, .int .i64 e.n, .int .i64 e.pax, .int .i64 e.row, .int .u8 e.let_] : Array Value)[i]?
  z : w.heap.size + 1 < W.heap.size
section
variable {w : World} {p : Pnr} {h : Hd} {e : Edit} {W W1 : World}
theorem SWE.start (w : World) (p : Pnr) (h : Hd) (e : Edit) (t t' : TypeId) : SWE w p h e ((w.alloc (.cells #[.string p.loc, .string p.off, .slice h.an h.nn h.cn, .slice h.ag h.ng h.cg, .slice h.ap h.np h.cp, .int .i64 p.tik.kind, .int .i64 p.tik.day, .int .i64 p.tik.min, .string p.rc, .slice h.ar h.nr h.cr, .slice h.ae h.ne h.ce, .bool p.queued] t)).alloc (.cells #[.int .i64 e.kind, .string e.nam.last, .string e.nam.first, .string e.seg.car, .int .i64 e.seg.num, .int .i64 e.seg.day, .int .u8 e.seg.cls, .bool e.seg.live, .int .i64 e.tik.kind, .int .i64 e.tik.day, .int .i64 e.tik.min, .string e.text, .int .i64 e.n, .int .i64 e.pax, .int .i64 e.row, .int .u8 e.let_] t')) :=
  ⟨((Below.refl _ _).alloc (Nat.le_refl _) _).alloc (by simp) _, boxed_alloc (boxed_new w _ _) (by simp) _, by have := boxed_new (w.alloc (.cells #[.string p.loc, .string p.off, .slice h.an h.nn h.cn, .slice h.ag h.ng h.cg, .slice h.ap h.np h.cp, .int .i64 p.tik.kind, .int .i64 p.tik.day, .int .i64 p.tik.min, .string p.rc, .slice h.ar h.nr h.cr, .slice h.ae h.ne h.ce, .bool p.queued] t)) #[.int .i64 e.kind, .string e.nam.last, .string e.nam.first, .string e.seg.car, .int .i64 e.seg.num, .int .i64 e.seg.day, .int .u8 e.seg.cls, .bool e.seg.live, .int .i64 e.tik.kind, .int .i64 e.tik.day, .int .i64 e.tik.min, .string e.text, .int .i64 e.n, .int .i64 e.pax, .int .i64 e.row, .int .u8 e.let_] t'; rw [World.size_alloc] at this; exact this, by simp⟩
theorem SWE.step (H : SWE w p h e W) (hb : Below W.heap.size W W1) : SWE w p h e W1 :=
  ⟨H.B.trans (hb.mono (by have := H.z; omega)), boxed_below H.box1 hb (by have := H.z; omega), boxed_below H.box2 hb H.z, Nat.lt_of_lt_of_le H.z hb.size⟩
theorem SWE.alloc (H : SWE w p h e W) (o : Obj) : SWE w p h e (W.alloc o) := H.step ((Below.refl _ _).alloc (Nat.le_refl _) _)
theorem SWE.drewN (H : SWE w p h e W) (n : Nat) : SWE w p h e (W.drewN n) := ⟨below_drewN H.B n, H.box1, H.box2, H.z⟩
end
set_option maxRecDepth 100000 in
set_option maxHeartbeats 1000000 in
theorem rwhose_any (p : Pnr) (h : Hd) (e : Edit) (w : World) (lo hi : Nat) (hp : PAt w lo hi p h) (hs : Small h) (hhi : hi ≤ w.heap.size) (he : e.ok) :
    Calls Tryd.prog 81 #[.agg #[.string p.loc, .string p.off, .slice h.an h.nn h.cn, .slice h.ag h.ng h.cg, .slice h.ap h.np h.cp, .int .i64 p.tik.kind, .int .i64 p.tik.day, .int .i64 p.tik.min, .string p.rc, .slice h.ar h.nr h.cr, .slice h.ae h.ne h.ce, .bool p.queued], .agg #[.int .i64 e.kind, .string e.nam.last, .string e.nam.first, .string e.seg.car, .int .i64 e.seg.num, .int .i64 e.seg.day, .int .u8 e.seg.cls, .bool e.seg.live, .int .i64 e.tik.kind, .int .i64 e.tik.day, .int .i64 e.tik.min, .string e.text, .int .i64 e.n, .int .i64 e.pax, .int .i64 e.row, .int .u8 e.let_]] w (RetI w (whoseF p e)) := by
  have HP := Lib.hid hp
  have HL := Lib.hid hp.names.len
  clear hp
  obtain ⟨sn, sg, sp, sr, se⟩ := hs
  obtain ⟨e1, e2, e3, e4, e5, e6, e7, e8, e9⟩ := he
  have HO := Lib.hid e6
  unfold okInt at e6 e7
  have hS := SWE.start w p h e 29 49
  go_enter Tryd.func81, Tryd.ntmps81
  go_wp2_with fail
  refine (islive_any p _ e.n _ lo hi (HP.out.below hS.B hhi) sg (by have := hS.z; omega) HO.out).mono ?_
  rintro en w1 ⟨rfl, hb⟩
  have hS1 := hS.step hb
  clear hb hS
  have hx1 := hS1.box1
  have hx2 := hS1.box2
  rcases Bool.eq_false_or_eq_true (liveN p.segs e.n) with q1 | q1
  case inr =>
    have hw : Hid (whoseF p e = 16) := by show whoseF p e = 16; unfold whoseF; rw [q1]; rfl
    rw [q1]
    go_wp2
    go_ret
    exact ⟨ret_int hw.out.symm, hS1.B⟩
  rw [q1]
  have hw : Hid (whoseF p e = if 1 ≤ e.pax ∧ e.pax ≤ (h.nn : Int) then 0 else 17) := by show whoseF p e = _; unfold whoseF; rw [q1, ← HL.out]; rfl
  clear q1
  go_wp2
  all_goals go_ret
  all_goals exact ⟨ret_int (by rw [hw.out]; first | (rw [if_pos (by omega)]; done) | (rw [if_neg (by omega)]; done)), hS1.B⟩
end Go.Proofs.YtaakcccffmfmoaaDoor
