/- Two PNRs are alike: the program's answer and the document's. -/
import Derived.Test.YtaakcccffmfmoaaDoorEqual
import Derived.BigGuardPart
namespace Go.Proofs.YtaakcccffmfmoaaDoor
set_option linter.unusedVariables false
open Go Go.RowKit
instance : DecidableEq Pnr := fun a b => decidable_of_iff (a.loc = b.loc ∧ a.off = b.off ∧ a.names = b.names ∧ a.segs = b.segs ∧ a.phones = b.phones ∧ a.tik = b.tik ∧ a.rc = b.rc ∧ a.remarks = b.remarks ∧ a.seats = b.seats ∧ a.queued = b.queued) (by cases a; cases b; simp)
theorem pnr_eq (p q : Pnr) : decide (p = q) = (decide (p.loc = q.loc) && (decide (p.off = q.off) && (decide (p.names = q.names) && (decide (p.segs = q.segs) && (decide (p.phones = q.phones) && (decide (p.tik = q.tik) && (decide (p.rc = q.rc) && (decide (p.remarks = q.remarks) && (decide (p.seats = q.seats) && decide (p.queued = q.queued)))))))))) := by
  rw [Bool.eq_iff_iff]
  cases p; cases q
  simp
/-- Two PNRs in boxes of the call's own. -/
structure SW2 (w : World) (p q : Pnr) (h g : Hd) (W : World) : Prop where
  B : Below w.heap.size w W
  box1 : ∀ i, W.cell? ⟨w.heap.size, i, none⟩ = (#[.string p.loc, .string p.off, .slice h.an h.nn h.cn, .slice h.ag h.ng h.cg, .slice h.ap h.np h.cp, .int .i64 p.tik.kind, .int .i64 p.tik.day, .int .i64 p.tik.min, .string p.rc, .slice h.ar h.nr h.cr, .slice h.ae h.ne h.ce, .bool p.queued] : Array Value)[i]?
  box2 : ∀ i, W.cell? ⟨w.heap.size + 1, i, none⟩ = (#[.string q.loc, .string q.off, .slice g.an g.nn g.cn, .slice g.ag g.ng g.cg, .slice g.ap g.np g.cp, .int .i64 q.tik.kind, .int .i64 q.tik.day, .int .i64 q.tik.min, .string q.rc, .slice g.ar g.nr g.cr, .slice g.ae g.ne g.ce, .bool q.queued] : Array Value)[i]?
  z : w.heap.size + 1 < W.heap.size
section
variable {w : World} {p q : Pnr} {h g : Hd} {W W1 : World}
theorem SW2.start (w : World) (p q : Pnr) (h g : Hd) (t : TypeId) : SW2 w p q h g ((w.alloc (.cells #[.string p.loc, .string p.off, .slice h.an h.nn h.cn, .slice h.ag h.ng h.cg, .slice h.ap h.np h.cp, .int .i64 p.tik.kind, .int .i64 p.tik.day, .int .i64 p.tik.min, .string p.rc, .slice h.ar h.nr h.cr, .slice h.ae h.ne h.ce, .bool p.queued] t)).alloc (.cells #[.string q.loc, .string q.off, .slice g.an g.nn g.cn, .slice g.ag g.ng g.cg, .slice g.ap g.np g.cp, .int .i64 q.tik.kind, .int .i64 q.tik.day, .int .i64 q.tik.min, .string q.rc, .slice g.ar g.nr g.cr, .slice g.ae g.ne g.ce, .bool q.queued] t)) :=
  ⟨((Below.refl _ _).alloc (Nat.le_refl _) _).alloc (by simp) _, boxed_alloc (boxed_new w _ _) (by simp) _, by have := boxed_new (w.alloc (.cells #[.string p.loc, .string p.off, .slice h.an h.nn h.cn, .slice h.ag h.ng h.cg, .slice h.ap h.np h.cp, .int .i64 p.tik.kind, .int .i64 p.tik.day, .int .i64 p.tik.min, .string p.rc, .slice h.ar h.nr h.cr, .slice h.ae h.ne h.ce, .bool p.queued] t)) #[.string q.loc, .string q.off, .slice g.an g.nn g.cn, .slice g.ag g.ng g.cg, .slice g.ap g.np g.cp, .int .i64 q.tik.kind, .int .i64 q.tik.day, .int .i64 q.tik.min, .string q.rc, .slice g.ar g.nr g.cr, .slice g.ae g.ne g.ce, .bool q.queued] t; rw [World.size_alloc] at this; exact this, by simp⟩
theorem SW2.step (H : SW2 w p q h g W) (hb : Below W.heap.size W W1) : SW2 w p q h g W1 :=
  ⟨H.B.trans (hb.mono (by have := H.z; omega)), boxed_below H.box1 hb (by have := H.z; omega), boxed_below H.box2 hb H.z, Nat.lt_of_lt_of_le H.z hb.size⟩
theorem SW2.alloc (H : SW2 w p q h g W) (o : Obj) : SW2 w p q h g (W.alloc o) := H.step ((Below.refl _ _).alloc (Nat.le_refl _) _)
theorem SW2.drewN (H : SW2 w p q h g W) (n : Nat) : SW2 w p q h g (W.drewN n) := ⟨below_drewN H.B n, H.box1, H.box2, H.z⟩
end
set_option maxRecDepth 100000 in
set_option maxHeartbeats 4000000 in
theorem psame_any (p q : Pnr) (h g : Hd) (w : World) (lo hi lo' hi' : Nat) (hp : PAt w lo hi p h) (hq : PAt w lo' hi' q g) (hs : Small h) (hs' : Small g) (hhi : hi ≤ w.heap.size) (hhi' : hi' ≤ w.heap.size) :
    Calls Tryd.prog 32 #[.agg #[.string p.loc, .string p.off, .slice h.an h.nn h.cn, .slice h.ag h.ng h.cg, .slice h.ap h.np h.cp, .int .i64 p.tik.kind, .int .i64 p.tik.day, .int .i64 p.tik.min, .string p.rc, .slice h.ar h.nr h.cr, .slice h.ae h.ne h.ce, .bool p.queued], .agg #[.string q.loc, .string q.off, .slice g.an g.nn g.cn, .slice g.ag g.ng g.cg, .slice g.ap g.np g.cp, .int .i64 q.tik.kind, .int .i64 q.tik.day, .int .i64 q.tik.min, .string q.rc, .slice g.ar g.nr g.cr, .slice g.ae g.ne g.ce, .bool q.queued]] w (RetB w (decide (p = q))) := by
  have HP := Lib.hid hp
  have HQ := Lib.hid hq
  clear hp hq
  obtain ⟨sn, sg, sp, sr, se⟩ := hs
  obtain ⟨sn', sg', sp', sr', se'⟩ := hs'
  have hS := SW2.start w p q h g 29
  have HEo := pnr_eq p q
  have e1 := eqL p.loc q.loc
  have e2 := eqL p.off q.off
  have e7 := eqL p.rc q.rc
  have e6 := fun u => eql_ticket p.tik.kind q.tik.kind p.tik.day q.tik.day p.tik.min q.tik.min u
  have t6 : (decide (p.tik.kind = q.tik.kind) && (decide (p.tik.day = q.tik.day) && decide (p.tik.min = q.tik.min))) = decide (p.tik = q.tik) := by
    rw [Bool.eq_iff_iff]; cases p.tik; cases q.tik; simp
  rw [t6] at e6
  clear t6
  have e10 := eqB p.queued q.queued
  generalize k1 : decide (p.loc = q.loc) = b1 at e1 HEo
  have K1 := Lib.hid k1
  clear k1
  generalize k2 : decide (p.off = q.off) = b2 at e2 HEo
  have K2 := Lib.hid k2
  clear k2
  generalize k3 : decide (p.names = q.names) = b3 at HEo
  have K3 := Lib.hid k3
  clear k3
  generalize k4 : decide (p.segs = q.segs) = b4 at HEo
  have K4 := Lib.hid k4
  clear k4
  generalize k5 : decide (p.phones = q.phones) = b5 at HEo
  have K5 := Lib.hid k5
  clear k5
  generalize k6 : decide (p.tik = q.tik) = b6 at e6 HEo
  have K6 := Lib.hid k6
  clear k6
  generalize k7 : decide (p.rc = q.rc) = b7 at e7 HEo
  have K7 := Lib.hid k7
  clear k7
  generalize k8 : decide (p.remarks = q.remarks) = b8 at HEo
  have K8 := Lib.hid k8
  clear k8
  generalize k9 : decide (p.seats = q.seats) = b9 at HEo
  have K9 := Lib.hid k9
  clear k9
  generalize k10 : decide (p.queued = q.queued) = b10 at e10 HEo
  have K10 := Lib.hid k10
  clear k10
  have HE := Lib.hid HEo
  clear HEo
  have tok1 : True := trivial
  go_enter Tryd.func32, Tryd.ntmps32
  go_wp2_with (first
    | (go_at_call 55; refine (equal_nam p.names q.names _ _ _ _ _ _ _ lo hi lo' hi' (HP.out.below hS.B hhi).names (HQ.out.below hS.B hhi').names sn sn' (by have := hS.z; omega) (by have := hS.z; omega)).mono ?_; rintro e w3 ⟨rfl, hb⟩; rw [K3.out]; replace hS := hS.step hb; clear hb; have hx3 := hS.box1; have hy3 := hS.box2)
    | (go_at_call 56; refine (equal_seg p.segs q.segs _ _ _ _ _ _ _ lo hi lo' hi' (HP.out.below hS.B hhi).segs (HQ.out.below hS.B hhi').segs sg sg' (by have := hS.z; omega) (by have := hS.z; omega)).mono ?_; rintro e w4 ⟨rfl, hb⟩; rw [K4.out]; replace hS := hS.step hb; clear hb; have hx4 := hS.box1; have hy4 := hS.box2)
    | (go_at_call 57; have _t := tok1; refine (equal_str p.phones q.phones _ _ _ _ _ _ _ lo hi lo' hi' (HP.out.below hS.B hhi).phones (HQ.out.below hS.B hhi').phones sp sp' (by have := hS.z; omega) (by have := hS.z; omega)).mono ?_; rintro e w5 ⟨rfl, hb⟩; rw [K5.out]; replace hS := hS.step hb; clear hb; have hx5 := hS.box1; have hy5 := hS.box2; clear tok1)
    | (go_at_call 57; refine (equal_str p.remarks q.remarks _ _ _ _ _ _ _ lo hi lo' hi' (HP.out.below hS.B hhi).remarks (HQ.out.below hS.B hhi').remarks sr sr' (by have := hS.z; omega) (by have := hS.z; omega)).mono ?_; rintro e w8 ⟨rfl, hb⟩; rw [K8.out]; replace hS := hS.step hb; clear hb; have hx8 := hS.box1; have hy8 := hS.box2)
    | (go_at_call 58; refine (equal_plc p.seats q.seats _ _ _ _ _ _ _ lo hi lo' hi' (HP.out.below hS.B hhi).seats (HQ.out.below hS.B hhi').seats se se' (by have := hS.z; omega) (by have := hS.z; omega)).mono ?_; rintro e w9 ⟨rfl, hb⟩; rw [K9.out]; replace hS := hS.step hb; clear hb; have hx9 := hS.box1; have hy9 := hS.box2))
  all_goals go_ret
  all_goals exact ⟨ret_bool (by rw [HE.out]; simp [*]), hS.B⟩
end Go.Proofs.YtaakcccffmfmoaaDoor
