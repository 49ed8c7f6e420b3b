/- Two PNRs are alike: the program's answer and the document's. -/
import Derived.Test.YtpgeoahlhdifoaaGreatDoorEqual
import Derived.BigGuardPart
namespace Go.Proofs.YtpgeoahlhdifoaaGreatDoor
set_option linter.unusedVariables false
open Go Go.RowKit
instance : DecidableEq Pnr := fun a b => decidable_of_iff (a.loc = b.loc ∧ a.off = b.off ∧ a.names = b.names ∧ a.segs = b.segs ∧ a.phones = b.phones ∧ a.tik = b.tik ∧ a.rc = b.rc ∧ a.remarks = b.remarks ∧ a.seats = b.seats ∧ a.queued = b.queued) (by cases a; cases b; simp)
theorem pnr_eq (p q : Pnr) : decide (p = q) = (decide (p.loc = q.loc) && (decide (p.off = q.off) && (decide (p.names = q.names) && (decide (p.segs = q.segs) && (decide (p.phones = q.phones) && (decide (p.tik = q.tik) && (decide (p.rc = q.rc) && (decide (p.remarks = q.remarks) && (decide (p.seats = q.seats) && decide (p.queued = q.queued)))))))))) := by
  rw [Bool.eq_iff_iff]
  cases p; cases q
  simp
/-- Two PNRs in boxes of the call's own. -/
structure SW2 (w : World) (p q : Pnr) (h g : Hd) (W : World) : Prop where
  B : Below w.heap.size w W
  box1 : ∀ i, W.cell? ⟨w.heap.size, i, none⟩ = (#[.string p.loc, .string p.off, .slice h.an h.nn h.cn, .slice h.ag h.ng h.cg, .slice h.ap h.np h.cp, .int .i64 p.tik.kind, .int .i64 p.tik.day, .int .i64 p.tik.min, .string p.rc, .slice h.ar h.nr h.cr, .slice h.ae h.ne h.ce, .bool p.queued] : Array Value)[i]?
  box2 : ∀ i, W.cell? ⟨w.heap.size + 1, i, none⟩ = (#[.string q.loc, .string q.off, .slice g.an g.nn g.cn, .slice g.ag g.ng g.cg, .slice g.ap g.np g.cp, .int .i64 q.tik.kind, .int .i64 q.tik.day, .int .i64 q.tik.min, .string q.rc, .slice g.ar g.nr g.cr, .slice g.ae g.ne g.ce, .bool q.queued] : Array Value)[i]?
  z : w.heap.size + 1 < W.heap.size
section
variable {w : World} {p q : Pnr} {h g : Hd} {W W1 : World}
theorem SW2.start (w : World) (p q : Pnr) (h g : Hd) (t : TypeId) : SW2 w p q h g ((w.alloc (.cells #[.string p.loc, .string p.off, .slice h.an h.nn h.cn, .slice h.ag h.ng h.cg, .slice h.ap h.np h.cp, .int .i64 p.tik.kind, .int .i64 p.tik.day, .int .i64 p.tik.min, .string p.rc, .slice h.ar h.nr h.cr, .slice h.ae h.ne h.ce, .bool p.queued] t)).alloc (.cells #[.string q.loc, .string q.off, .slice g.an g.nn g.cn, .slice g.ag g.ng g.cg, .slice g.ap g.np g.cp, .int .i64 q.tik.kind, .int .i64 q.tik.day, .int .i64 q.tik.min, .string q.rc, .slice g.ar g.nr g.cr, .slice g.ae g.ne g.ce, .bool q.queued] t)) :=
  ⟨((Below.refl _ _).alloc (Nat.le_refl _) _).alloc (by simp) _, boxed_alloc (boxed_new w _ _) (by simp) _, by have := boxed_new (w.alloc (.cells #[.string p.loc, .string p.off, .slice h.an h.nn h.cn, .slice h.ag h.ng h.cg, .slice h.ap h.np h.cp, .int .i64 p.tik.kind, .int .i64 p.tik.day, .int .i64 p.tik.min, .string p.rc, .slice h.ar h.nr h.cr, .slice h.ae h.ne h.ce, .bool p.queued] t)) #[.string q.loc, .string q.off, .slice g.an g.nn g.cn, .slice g.ag g.ng g.cg, .slice g.ap g.np g.cp, .int .i64 q.tik.kind, .int .i64 q.tik.day, .int .i64 q.tik.min, .string q.rc, .slice g.ar g.nr g.cr, .slice g.ae g.ne g.ce, .bool q.queued] t; rw [World.size_alloc] at this; exact this, by simp⟩
theorem SW2.step (H : SW2 w p q h g W) (hb : Below W.heap.size W W1) : SW2 w p q h g W1 :=
  ⟨H.B.trans (hb.mono (by have := H.z; omega)), boxed_below H.box1 hb (by have := H.z; omega), boxed_below H.box2 hb H.z, Nat.lt_of_lt_of_le H.z hb.size⟩
theorem SW2.alloc (H : SW2 w p q h g W) (o : Obj) : SW2 w p q h g (W.alloc o) := H.step ((Below.refl _ _).alloc (Nat.le_refl _) _)
theorem SW2.drewN (H : SW2 w p q h g W) (n : Nat) : SW2 w p q h g (W.drewN n) := ⟨below_drewN H.B n, H.box1, H.box2, H.z⟩
end
end Go.Proofs.YtpgeoahlhdifoaaGreatDoor
