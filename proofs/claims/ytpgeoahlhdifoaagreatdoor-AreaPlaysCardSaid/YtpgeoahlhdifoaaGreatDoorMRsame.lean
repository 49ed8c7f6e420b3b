/- Put together by program of: Rsame2, Rsame3, Rsame. -/
import Derived.Test.YtpgeoahlhdifoaaGreatDoorSame
import Derived.Deep.QuietTactic
import Derived.BigQuiet
import Derived.Test.YtpgeoahlhdifoaaGreatDoorRsame1
namespace Go.Proofs.YtpgeoahlhdifoaaGreatDoor
set_option linter.unusedVariables false
open Go Go.RowKit
set_option maxRecDepth 100000 in
set_option maxHeartbeats 8000000 in
theorem rsame_5 (p q : Pnr) (h g : Hd) (w : World) (lo hi lo' hi' : Nat) (hp : PAt w lo hi p h) (hq : PAt w lo' hi' q g) (hs : Small h) (hs' : Small g) (hhi : hi ≤ w.heap.size) (hhi' : hi' ≤ w.heap.size) (vb1 : decide (p.loc = q.loc) = true) (vb2 : decide (p.off = q.off) = true) (vb6 : decide (p.tik = q.tik) = true) (vb7 : decide (p.rc = q.rc) = true) (vb10 : decide (p.queued = q.queued) = true) (vc3 : decide (h.nn = g.nn) = false) :
    Calls Tryz.prog 10 #[.agg #[.string p.loc, .string p.off, .slice h.an h.nn h.cn, .slice h.ag h.ng h.cg, .slice h.ap h.np h.cp, .int .i64 p.tik.kind, .int .i64 p.tik.day, .int .i64 p.tik.min, .string p.rc, .slice h.ar h.nr h.cr, .slice h.ae h.ne h.ce, .bool p.queued], .agg #[.string q.loc, .string q.off, .slice g.an g.nn g.cn, .slice g.ag g.ng g.cg, .slice g.ap g.np g.cp, .int .i64 q.tik.kind, .int .i64 q.tik.day, .int .i64 q.tik.min, .string q.rc, .slice g.ar g.nr g.cr, .slice g.ae g.ne g.ce, .bool q.queued]] w (RetB w (decide (p = q))) := by
  have HP := Lib.hid hp
  have HQ := Lib.hid hq
  clear hp hq
  obtain ⟨sn, sg, sp, sr, se⟩ := hs
  obtain ⟨sn', sg', sp', sr', se'⟩ := hs'
  obtain ⟨an, nn, cn, ag, ng, cg, ap, np, cp, ar, nr, cr, ae, ne, ce⟩ := h
  obtain ⟨an', nn', cn', ag', ng', cg', ap', np', cp', ar', nr', cr', ae', ne', ce'⟩ := g
  dsimp only at sn sg sp sr se sn' sg' sp' sr' se'
  dsimp only
  have L3 := Lib.hid HP.out.names.len
  have L4 := Lib.hid HP.out.segs.len
  have L9 := Lib.hid HP.out.seats.len
  have M3 := Lib.hid HQ.out.names.len
  have M4 := Lib.hid HQ.out.segs.len
  have M9 := Lib.hid HQ.out.seats.len
  dsimp only at L3 L4 L9 M3 M4 M9
  have hS := SW2.start w p q (Hd.mk an nn cn ag ng cg ap np cp ar nr cr ae ne ce) (Hd.mk an' nn' cn' ag' ng' cg' ap' np' cp' ar' nr' cr' ae' ne' ce') 29
  dsimp only at hS
  have HEo := pnr_eq p q
  have e1 := eqL p.loc q.loc
  have e2 := eqL p.off q.off
  have e7 := eqL p.rc q.rc
  have e6 := fun u => neq_ticket p.tik.kind q.tik.kind p.tik.day q.tik.day p.tik.min q.tik.min u
  have t6 : (decide (p.tik.kind = q.tik.kind) && (decide (p.tik.day = q.tik.day) && decide (p.tik.min = q.tik.min))) = decide (p.tik = q.tik) := by
    rw [Bool.eq_iff_iff]; cases p.tik; cases q.tik; simp
  rw [t6] at e6
  clear t6
  have e10 := eqB p.queued q.queued
  have f1 : (p.loc.toList != q.loc.toList) = !(p.loc.toList == q.loc.toList) := rfl
  have f2 : (p.off.toList != q.off.toList) = !(p.off.toList == q.off.toList) := rfl
  have f7 : (p.rc.toList != q.rc.toList) = !(p.rc.toList == q.rc.toList) := rfl
  have f10 : (p.queued != q.queued) = !(p.queued == q.queued) := rfl
  generalize k1 : decide (p.loc = q.loc) = b1 at e1 HEo
  have K1 := Lib.hid k1
  clear k1
  generalize k2 : decide (p.off = q.off) = b2 at e2 HEo
  have K2 := Lib.hid k2
  clear k2
  generalize k3 : decide (p.names = q.names) = b3 at HEo
  have K3 := Lib.hid k3
  clear k3
  generalize k4 : decide (p.segs = q.segs) = b4 at HEo
  have K4 := Lib.hid k4
  clear k4
  generalize k5 : decide (p.phones = q.phones) = b5 at HEo
  have K5 := Lib.hid k5
  clear k5
  generalize k6 : decide (p.tik = q.tik) = b6 at e6 HEo
  have K6 := Lib.hid k6
  clear k6
  generalize k7 : decide (p.rc = q.rc) = b7 at e7 HEo
  have K7 := Lib.hid k7
  clear k7
  generalize k8 : decide (p.remarks = q.remarks) = b8 at HEo
  have K8 := Lib.hid k8
  clear k8
  generalize k9 : decide (p.seats = q.seats) = b9 at HEo
  have K9 := Lib.hid k9
  clear k9
  generalize k10 : decide (p.queued = q.queued) = b10 at e10 HEo
  have K10 := Lib.hid k10
  clear k10
  rw [e1] at f1
  rw [e2] at f2
  rw [e7] at f7
  rw [e10] at f10
  have f3 : ((nn : Int) != (nn' : Int)) = !decide (nn = nn') := by rw [Bool.eq_iff_iff]; simp; omega
  have f4 : ((ng : Int) != (ng' : Int)) = !decide (ng = ng') := by rw [Bool.eq_iff_iff]; simp; omega
  have f9 : ((ne : Int) != (ne' : Int)) = !decide (ne = ne') := by rw [Bool.eq_iff_iff]; simp; omega
  generalize k3 : decide (nn = nn') = c3 at f3
  generalize k4 : decide (ng = ng') = c4 at f4
  generalize k9 : decide (ne = ne') = c9 at f9
  have C3 := Lib.hid k3
  have C4 := Lib.hid k4
  have C9 := Lib.hid k9
  clear k3 k4 k9
  have HE := Lib.hid HEo
  clear HEo
  have tok1 : True := trivial
  obtain rfl : b1 = true := K1.out.symm.trans vb1
  obtain rfl : b2 = true := K2.out.symm.trans vb2
  obtain rfl : b6 = true := K6.out.symm.trans vb6
  obtain rfl : b7 = true := K7.out.symm.trans vb7
  obtain rfl : b10 = true := K10.out.symm.trans vb10
  obtain rfl : c3 = false := C3.out.symm.trans vc3
  clear vb1 vb2 vb6 vb7 vb10 vc3
  have hbb : b3 = false := K3.out.symm.trans (ne_of_len (by rw [L3.out, M3.out]; exact of_decide_eq_false C3.out))
  subst hbb
  go_enter Tryz.func10, Tryz.ntmps10
  go_wp2
  go_ret
  exact ⟨ret_bool (by rw [HE.out]; simp), hS.B⟩
set_option maxRecDepth 100000 in
set_option maxHeartbeats 8000000 in
theorem rsame_6 (p q : Pnr) (h g : Hd) (w : World) (lo hi lo' hi' : Nat) (hp : PAt w lo hi p h) (hq : PAt w lo' hi' q g) (hs : Small h) (hs' : Small g) (hhi : hi ≤ w.heap.size) (hhi' : hi' ≤ w.heap.size) (vb1 : decide (p.loc = q.loc) = true) (vb2 : decide (p.off = q.off) = true) (vb6 : decide (p.tik = q.tik) = true) (vb7 : decide (p.rc = q.rc) = true) (vb10 : decide (p.queued = q.queued) = true) (vc3 : decide (h.nn = g.nn) = true) (vc4 : decide (h.ng = g.ng) = false) :
    Calls Tryz.prog 10 #[.agg #[.string p.loc, .string p.off, .slice h.an h.nn h.cn, .slice h.ag h.ng h.cg, .slice h.ap h.np h.cp, .int .i64 p.tik.kind, .int .i64 p.tik.day, .int .i64 p.tik.min, .string p.rc, .slice h.ar h.nr h.cr, .slice h.ae h.ne h.ce, .bool p.queued], .agg #[.string q.loc, .string q.off, .slice g.an g.nn g.cn, .slice g.ag g.ng g.cg, .slice g.ap g.np g.cp, .int .i64 q.tik.kind, .int .i64 q.tik.day, .int .i64 q.tik.min, .string q.rc, .slice g.ar g.nr g.cr, .slice g.ae g.ne g.ce, .bool q.queued]] w (RetB w (decide (p = q))) := by
  have HP := Lib.hid hp
  have HQ := Lib.hid hq
  clear hp hq
  obtain ⟨sn, sg, sp, sr, se⟩ := hs
  obtain ⟨sn', sg', sp', sr', se'⟩ := hs'
  obtain ⟨an, nn, cn, ag, ng, cg, ap, np, cp, ar, nr, cr, ae, ne, ce⟩ := h
  obtain ⟨an', nn', cn', ag', ng', cg', ap', np', cp', ar', nr', cr', ae', ne', ce'⟩ := g
  dsimp only at sn sg sp sr se sn' sg' sp' sr' se'
  dsimp only
  have L3 := Lib.hid HP.out.names.len
  have L4 := Lib.hid HP.out.segs.len
  have L9 := Lib.hid HP.out.seats.len
  have M3 := Lib.hid HQ.out.names.len
  have M4 := Lib.hid HQ.out.segs.len
  have M9 := Lib.hid HQ.out.seats.len
  dsimp only at L3 L4 L9 M3 M4 M9
  have hS := SW2.start w p q (Hd.mk an nn cn ag ng cg ap np cp ar nr cr ae ne ce) (Hd.mk an' nn' cn' ag' ng' cg' ap' np' cp' ar' nr' cr' ae' ne' ce') 29
  dsimp only at hS
  have HEo := pnr_eq p q
  have e1 := eqL p.loc q.loc
  have e2 := eqL p.off q.off
  have e7 := eqL p.rc q.rc
  have e6 := fun u => neq_ticket p.tik.kind q.tik.kind p.tik.day q.tik.day p.tik.min q.tik.min u
  have t6 : (decide (p.tik.kind = q.tik.kind) && (decide (p.tik.day = q.tik.day) && decide (p.tik.min = q.tik.min))) = decide (p.tik = q.tik) := by
    rw [Bool.eq_iff_iff]; cases p.tik; cases q.tik; simp
  rw [t6] at e6
  clear t6
  have e10 := eqB p.queued q.queued
  have f1 : (p.loc.toList != q.loc.toList) = !(p.loc.toList == q.loc.toList) := rfl
  have f2 : (p.off.toList != q.off.toList) = !(p.off.toList == q.off.toList) := rfl
  have f7 : (p.rc.toList != q.rc.toList) = !(p.rc.toList == q.rc.toList) := rfl
  have f10 : (p.queued != q.queued) = !(p.queued == q.queued) := rfl
  generalize k1 : decide (p.loc = q.loc) = b1 at e1 HEo
  have K1 := Lib.hid k1
  clear k1
  generalize k2 : decide (p.off = q.off) = b2 at e2 HEo
  have K2 := Lib.hid k2
  clear k2
  generalize k3 : decide (p.names = q.names) = b3 at HEo
  have K3 := Lib.hid k3
  clear k3
  generalize k4 : decide (p.segs = q.segs) = b4 at HEo
  have K4 := Lib.hid k4
  clear k4
  generalize k5 : decide (p.phones = q.phones) = b5 at HEo
  have K5 := Lib.hid k5
  clear k5
  generalize k6 : decide (p.tik = q.tik) = b6 at e6 HEo
  have K6 := Lib.hid k6
  clear k6
  generalize k7 : decide (p.rc = q.rc) = b7 at e7 HEo
  have K7 := Lib.hid k7
  clear k7
  generalize k8 : decide (p.remarks = q.remarks) = b8 at HEo
  have K8 := Lib.hid k8
  clear k8
  generalize k9 : decide (p.seats = q.seats) = b9 at HEo
  have K9 := Lib.hid k9
  clear k9
  generalize k10 : decide (p.queued = q.queued) = b10 at e10 HEo
  have K10 := Lib.hid k10
  clear k10
  rw [e1] at f1
  rw [e2] at f2
  rw [e7] at f7
  rw [e10] at f10
  have f3 : ((nn : Int) != (nn' : Int)) = !decide (nn = nn') := by rw [Bool.eq_iff_iff]; simp; omega
  have f4 : ((ng : Int) != (ng' : Int)) = !decide (ng = ng') := by rw [Bool.eq_iff_iff]; simp; omega
  have f9 : ((ne : Int) != (ne' : Int)) = !decide (ne = ne') := by rw [Bool.eq_iff_iff]; simp; omega
  generalize k3 : decide (nn = nn') = c3 at f3
  generalize k4 : decide (ng = ng') = c4 at f4
  generalize k9 : decide (ne = ne') = c9 at f9
  have C3 := Lib.hid k3
  have C4 := Lib.hid k4
  have C9 := Lib.hid k9
  clear k3 k4 k9
  have HE := Lib.hid HEo
  clear HEo
  have tok1 : True := trivial
  obtain rfl : b1 = true := K1.out.symm.trans vb1
  obtain rfl : b2 = true := K2.out.symm.trans vb2
  obtain rfl : b6 = true := K6.out.symm.trans vb6
  obtain rfl : b7 = true := K7.out.symm.trans vb7
  obtain rfl : b10 = true := K10.out.symm.trans vb10
  obtain rfl : c3 = true := C3.out.symm.trans vc3
  obtain rfl : c4 = false := C4.out.symm.trans vc4
  clear vb1 vb2 vb6 vb7 vb10 vc3 vc4
  have hbb : b4 = false := K4.out.symm.trans (ne_of_len (by rw [L4.out, M4.out]; exact of_decide_eq_false C4.out))
  subst hbb
  go_enter Tryz.func10, Tryz.ntmps10
  go_wp2
  go_ret
  exact ⟨ret_bool (by rw [HE.out]; simp), hS.B⟩
set_option maxRecDepth 100000 in
set_option maxHeartbeats 8000000 in
theorem rsame_7 (p q : Pnr) (h g : Hd) (w : World) (lo hi lo' hi' : Nat) (hp : PAt w lo hi p h) (hq : PAt w lo' hi' q g) (hs : Small h) (hs' : Small g) (hhi : hi ≤ w.heap.size) (hhi' : hi' ≤ w.heap.size) (vb1 : decide (p.loc = q.loc) = true) (vb2 : decide (p.off = q.off) = true) (vb6 : decide (p.tik = q.tik) = true) (vb7 : decide (p.rc = q.rc) = true) (vb10 : decide (p.queued = q.queued) = true) (vc3 : decide (h.nn = g.nn) = true) (vc4 : decide (h.ng = g.ng) = true) (vc9 : decide (h.ne = g.ne) = false) :
    Calls Tryz.prog 10 #[.agg #[.string p.loc, .string p.off, .slice h.an h.nn h.cn, .slice h.ag h.ng h.cg, .slice h.ap h.np h.cp, .int .i64 p.tik.kind, .int .i64 p.tik.day, .int .i64 p.tik.min, .string p.rc, .slice h.ar h.nr h.cr, .slice h.ae h.ne h.ce, .bool p.queued], .agg #[.string q.loc, .string q.off, .slice g.an g.nn g.cn, .slice g.ag g.ng g.cg, .slice g.ap g.np g.cp, .int .i64 q.tik.kind, .int .i64 q.tik.day, .int .i64 q.tik.min, .string q.rc, .slice g.ar g.nr g.cr, .slice g.ae g.ne g.ce, .bool q.queued]] w (RetB w (decide (p = q))) := by
  have HP := Lib.hid hp
  have HQ := Lib.hid hq
  clear hp hq
  obtain ⟨sn, sg, sp, sr, se⟩ := hs
  obtain ⟨sn', sg', sp', sr', se'⟩ := hs'
  obtain ⟨an, nn, cn, ag, ng, cg, ap, np, cp, ar, nr, cr, ae, ne, ce⟩ := h
  obtain ⟨an', nn', cn', ag', ng', cg', ap', np', cp', ar', nr', cr', ae', ne', ce'⟩ := g
  dsimp only at sn sg sp sr se sn' sg' sp' sr' se'
  dsimp only
  have L3 := Lib.hid HP.out.names.len
  have L4 := Lib.hid HP.out.segs.len
  have L9 := Lib.hid HP.out.seats.len
  have M3 := Lib.hid HQ.out.names.len
  have M4 := Lib.hid HQ.out.segs.len
  have M9 := Lib.hid HQ.out.seats.len
  dsimp only at L3 L4 L9 M3 M4 M9
  have hS := SW2.start w p q (Hd.mk an nn cn ag ng cg ap np cp ar nr cr ae ne ce) (Hd.mk an' nn' cn' ag' ng' cg' ap' np' cp' ar' nr' cr' ae' ne' ce') 29
  dsimp only at hS
  have HEo := pnr_eq p q
  have e1 := eqL p.loc q.loc
  have e2 := eqL p.off q.off
  have e7 := eqL p.rc q.rc
  have e6 := fun u => neq_ticket p.tik.kind q.tik.kind p.tik.day q.tik.day p.tik.min q.tik.min u
  have t6 : (decide (p.tik.kind = q.tik.kind) && (decide (p.tik.day = q.tik.day) && decide (p.tik.min = q.tik.min))) = decide (p.tik = q.tik) := by
    rw [Bool.eq_iff_iff]; cases p.tik; cases q.tik; simp
  rw [t6] at e6
  clear t6
  have e10 := eqB p.queued q.queued
  have f1 : (p.loc.toList != q.loc.toList) = !(p.loc.toList == q.loc.toList) := rfl
  have f2 : (p.off.toList != q.off.toList) = !(p.off.toList == q.off.toList) := rfl
  have f7 : (p.rc.toList != q.rc.toList) = !(p.rc.toList == q.rc.toList) := rfl
  have f10 : (p.queued != q.queued) = !(p.queued == q.queued) := rfl
  generalize k1 : decide (p.loc = q.loc) = b1 at e1 HEo
  have K1 := Lib.hid k1
  clear k1
  generalize k2 : decide (p.off = q.off) = b2 at e2 HEo
  have K2 := Lib.hid k2
  clear k2
  generalize k3 : decide (p.names = q.names) = b3 at HEo
  have K3 := Lib.hid k3
  clear k3
  generalize k4 : decide (p.segs = q.segs) = b4 at HEo
  have K4 := Lib.hid k4
  clear k4
  generalize k5 : decide (p.phones = q.phones) = b5 at HEo
  have K5 := Lib.hid k5
  clear k5
  generalize k6 : decide (p.tik = q.tik) = b6 at e6 HEo
  have K6 := Lib.hid k6
  clear k6
  generalize k7 : decide (p.rc = q.rc) = b7 at e7 HEo
  have K7 := Lib.hid k7
  clear k7
  generalize k8 : decide (p.remarks = q.remarks) = b8 at HEo
  have K8 := Lib.hid k8
  clear k8
  generalize k9 : decide (p.seats = q.seats) = b9 at HEo
  have K9 := Lib.hid k9
  clear k9
  generalize k10 : decide (p.queued = q.queued) = b10 at e10 HEo
  have K10 := Lib.hid k10
  clear k10
  rw [e1] at f1
  rw [e2] at f2
  rw [e7] at f7
  rw [e10] at f10
  have f3 : ((nn : Int) != (nn' : Int)) = !decide (nn = nn') := by rw [Bool.eq_iff_iff]; simp; omega
  have f4 : ((ng : Int) != (ng' : Int)) = !decide (ng = ng') := by rw [Bool.eq_iff_iff]; simp; omega
  have f9 : ((ne : Int) != (ne' : Int)) = !decide (ne = ne') := by rw [Bool.eq_iff_iff]; simp; omega
  generalize k3 : decide (nn = nn') = c3 at f3
  generalize k4 : decide (ng = ng') = c4 at f4
  generalize k9 : decide (ne = ne') = c9 at f9
  have C3 := Lib.hid k3
  have C4 := Lib.hid k4
  have C9 := Lib.hid k9
  clear k3 k4 k9
  have HE := Lib.hid HEo
  clear HEo
  have tok1 : True := trivial
  obtain rfl : b1 = true := K1.out.symm.trans vb1
  obtain rfl : b2 = true := K2.out.symm.trans vb2
  obtain rfl : b6 = true := K6.out.symm.trans vb6
  obtain rfl : b7 = true := K7.out.symm.trans vb7
  obtain rfl : b10 = true := K10.out.symm.trans vb10
  obtain rfl : c3 = true := C3.out.symm.trans vc3
  obtain rfl : c4 = true := C4.out.symm.trans vc4
  obtain rfl : c9 = false := C9.out.symm.trans vc9
  clear vb1 vb2 vb6 vb7 vb10 vc3 vc4 vc9
  have hbb : b9 = false := K9.out.symm.trans (ne_of_len (by rw [L9.out, M9.out]; exact of_decide_eq_false C9.out))
  subst hbb
  go_enter Tryz.func10, Tryz.ntmps10
  go_wp2
  go_ret
  exact ⟨ret_bool (by rw [HE.out]; simp), hS.B⟩
set_option maxRecDepth 100000 in
set_option maxHeartbeats 8000000 in
theorem rsame_8 (p q : Pnr) (h g : Hd) (w : World) (lo hi lo' hi' : Nat) (hp : PAt w lo hi p h) (hq : PAt w lo' hi' q g) (hs : Small h) (hs' : Small g) (hhi : hi ≤ w.heap.size) (hhi' : hi' ≤ w.heap.size) (vb1 : decide (p.loc = q.loc) = true) (vb2 : decide (p.off = q.off) = true) (vb6 : decide (p.tik = q.tik) = true) (vb7 : decide (p.rc = q.rc) = true) (vb10 : decide (p.queued = q.queued) = true) (vc3 : decide (h.nn = g.nn) = true) (vc4 : decide (h.ng = g.ng) = true) (vc9 : decide (h.ne = g.ne) = true) (vb5 : decide (p.phones = q.phones) = false) :
    Calls Tryz.prog 10 #[.agg #[.string p.loc, .string p.off, .slice h.an h.nn h.cn, .slice h.ag h.ng h.cg, .slice h.ap h.np h.cp, .int .i64 p.tik.kind, .int .i64 p.tik.day, .int .i64 p.tik.min, .string p.rc, .slice h.ar h.nr h.cr, .slice h.ae h.ne h.ce, .bool p.queued], .agg #[.string q.loc, .string q.off, .slice g.an g.nn g.cn, .slice g.ag g.ng g.cg, .slice g.ap g.np g.cp, .int .i64 q.tik.kind, .int .i64 q.tik.day, .int .i64 q.tik.min, .string q.rc, .slice g.ar g.nr g.cr, .slice g.ae g.ne g.ce, .bool q.queued]] w (RetB w (decide (p = q))) := by
  have HP := Lib.hid hp
  have HQ := Lib.hid hq
  clear hp hq
  obtain ⟨sn, sg, sp, sr, se⟩ := hs
  obtain ⟨sn', sg', sp', sr', se'⟩ := hs'
  obtain ⟨an, nn, cn, ag, ng, cg, ap, np, cp, ar, nr, cr, ae, ne, ce⟩ := h
  obtain ⟨an', nn', cn', ag', ng', cg', ap', np', cp', ar', nr', cr', ae', ne', ce'⟩ := g
  dsimp only at sn sg sp sr se sn' sg' sp' sr' se'
  dsimp only
  have L3 := Lib.hid HP.out.names.len
  have L4 := Lib.hid HP.out.segs.len
  have L9 := Lib.hid HP.out.seats.len
  have M3 := Lib.hid HQ.out.names.len
  have M4 := Lib.hid HQ.out.segs.len
  have M9 := Lib.hid HQ.out.seats.len
  dsimp only at L3 L4 L9 M3 M4 M9
  have hS := SW2.start w p q (Hd.mk an nn cn ag ng cg ap np cp ar nr cr ae ne ce) (Hd.mk an' nn' cn' ag' ng' cg' ap' np' cp' ar' nr' cr' ae' ne' ce') 29
  dsimp only at hS
  have HEo := pnr_eq p q
  have e1 := eqL p.loc q.loc
  have e2 := eqL p.off q.off
  have e7 := eqL p.rc q.rc
  have e6 := fun u => neq_ticket p.tik.kind q.tik.kind p.tik.day q.tik.day p.tik.min q.tik.min u
  have t6 : (decide (p.tik.kind = q.tik.kind) && (decide (p.tik.day = q.tik.day) && decide (p.tik.min = q.tik.min))) = decide (p.tik = q.tik) := by
    rw [Bool.eq_iff_iff]; cases p.tik; cases q.tik; simp
  rw [t6] at e6
  clear t6
  have e10 := eqB p.queued q.queued
  have f1 : (p.loc.toList != q.loc.toList) = !(p.loc.toList == q.loc.toList) := rfl
  have f2 : (p.off.toList != q.off.toList) = !(p.off.toList == q.off.toList) := rfl
  have f7 : (p.rc.toList != q.rc.toList) = !(p.rc.toList == q.rc.toList) := rfl
  have f10 : (p.queued != q.queued) = !(p.queued == q.queued) := rfl
  generalize k1 : decide (p.loc = q.loc) = b1 at e1 HEo
  have K1 := Lib.hid k1
  clear k1
  generalize k2 : decide (p.off = q.off) = b2 at e2 HEo
  have K2 := Lib.hid k2
  clear k2
  generalize k3 : decide (p.names = q.names) = b3 at HEo
  have K3 := Lib.hid k3
  clear k3
  generalize k4 : decide (p.segs = q.segs) = b4 at HEo
  have K4 := Lib.hid k4
  clear k4
  generalize k5 : decide (p.phones = q.phones) = b5 at HEo
  have K5 := Lib.hid k5
  clear k5
  generalize k6 : decide (p.tik = q.tik) = b6 at e6 HEo
  have K6 := Lib.hid k6
  clear k6
  generalize k7 : decide (p.rc = q.rc) = b7 at e7 HEo
  have K7 := Lib.hid k7
  clear k7
  generalize k8 : decide (p.remarks = q.remarks) = b8 at HEo
  have K8 := Lib.hid k8
  clear k8
  generalize k9 : decide (p.seats = q.seats) = b9 at HEo
  have K9 := Lib.hid k9
  clear k9
  generalize k10 : decide (p.queued = q.queued) = b10 at e10 HEo
  have K10 := Lib.hid k10
  clear k10
  rw [e1] at f1
  rw [e2] at f2
  rw [e7] at f7
  rw [e10] at f10
  have f3 : ((nn : Int) != (nn' : Int)) = !decide (nn = nn') := by rw [Bool.eq_iff_iff]; simp; omega
  have f4 : ((ng : Int) != (ng' : Int)) = !decide (ng = ng') := by rw [Bool.eq_iff_iff]; simp; omega
  have f9 : ((ne : Int) != (ne' : Int)) = !decide (ne = ne') := by rw [Bool.eq_iff_iff]; simp; omega
  generalize k3 : decide (nn = nn') = c3 at f3
  generalize k4 : decide (ng = ng') = c4 at f4
  generalize k9 : decide (ne = ne') = c9 at f9
  have C3 := Lib.hid k3
  have C4 := Lib.hid k4
  have C9 := Lib.hid k9
  clear k3 k4 k9
  have HE := Lib.hid HEo
  clear HEo
  have tok1 : True := trivial
  obtain rfl : b1 = true := K1.out.symm.trans vb1
  obtain rfl : b2 = true := K2.out.symm.trans vb2
  obtain rfl : b6 = true := K6.out.symm.trans vb6
  obtain rfl : b7 = true := K7.out.symm.trans vb7
  obtain rfl : b10 = true := K10.out.symm.trans vb10
  obtain rfl : c3 = true := C3.out.symm.trans vc3
  obtain rfl : c4 = true := C4.out.symm.trans vc4
  obtain rfl : c9 = true := C9.out.symm.trans vc9
  obtain rfl : b5 = false := K5.out.symm.trans vb5
  clear vb1 vb2 vb6 vb7 vb10 vc3 vc4 vc9 vb5
  go_enter Tryz.func10, Tryz.ntmps10
  go_wp2_with (first | (go_at_call 35; have _t := tok1; refine (equal_rtx p.phones q.phones _ _ _ _ _ _ _ lo hi lo' hi' (HP.out.below hS.B hhi).phones (HQ.out.below hS.B hhi').phones sp sp' (by have := hS.z; omega) (by have := hS.z; omega)).mono ?_; rintro e w5 ⟨rfl, hb⟩; rw [K5.out]; replace hS := hS.step hb; clear hb; have hx5 := hS.box1; have hy5 := hS.box2; dsimp only at hx5 hy5; clear tok1) | (go_at_call 35; refine (equal_rtx p.remarks q.remarks _ _ _ _ _ _ _ lo hi lo' hi' (HP.out.below hS.B hhi).remarks (HQ.out.below hS.B hhi').remarks sr sr' (by have := hS.z; omega) (by have := hS.z; omega)).mono ?_; rintro e w8 ⟨rfl, hb⟩; rw [K8.out]; replace hS := hS.step hb; clear hb; have hx8 := hS.box1; have hy8 := hS.box2; dsimp only at hx8 hy8))
  go_ret
  exact ⟨ret_bool (by rw [HE.out]; simp), hS.B⟩
set_option maxRecDepth 100000 in
set_option maxHeartbeats 8000000 in
theorem rsame_9 (p q : Pnr) (h g : Hd) (w : World) (lo hi lo' hi' : Nat) (hp : PAt w lo hi p h) (hq : PAt w lo' hi' q g) (hs : Small h) (hs' : Small g) (hhi : hi ≤ w.heap.size) (hhi' : hi' ≤ w.heap.size) (vb1 : decide (p.loc = q.loc) = true) (vb2 : decide (p.off = q.off) = true) (vb6 : decide (p.tik = q.tik) = true) (vb7 : decide (p.rc = q.rc) = true) (vb10 : decide (p.queued = q.queued) = true) (vc3 : decide (h.nn = g.nn) = true) (vc4 : decide (h.ng = g.ng) = true) (vc9 : decide (h.ne = g.ne) = true) (vb5 : decide (p.phones = q.phones) = true) (vb8 : decide (p.remarks = q.remarks) = false) :
    Calls Tryz.prog 10 #[.agg #[.string p.loc, .string p.off, .slice h.an h.nn h.cn, .slice h.ag h.ng h.cg, .slice h.ap h.np h.cp, .int .i64 p.tik.kind, .int .i64 p.tik.day, .int .i64 p.tik.min, .string p.rc, .slice h.ar h.nr h.cr, .slice h.ae h.ne h.ce, .bool p.queued], .agg #[.string q.loc, .string q.off, .slice g.an g.nn g.cn, .slice g.ag g.ng g.cg, .slice g.ap g.np g.cp, .int .i64 q.tik.kind, .int .i64 q.tik.day, .int .i64 q.tik.min, .string q.rc, .slice g.ar g.nr g.cr, .slice g.ae g.ne g.ce, .bool q.queued]] w (RetB w (decide (p = q))) := by
  have HP := Lib.hid hp
  have HQ := Lib.hid hq
  clear hp hq
  obtain ⟨sn, sg, sp, sr, se⟩ := hs
  obtain ⟨sn', sg', sp', sr', se'⟩ := hs'
  obtain ⟨an, nn, cn, ag, ng, cg, ap, np, cp, ar, nr, cr, ae, ne, ce⟩ := h
  obtain ⟨an', nn', cn', ag', ng', cg', ap', np', cp', ar', nr', cr', ae', ne', ce'⟩ := g
  dsimp only at sn sg sp sr se sn' sg' sp' sr' se'
  dsimp only
  have L3 := Lib.hid HP.out.names.len
  have L4 := Lib.hid HP.out.segs.len
  have L9 := Lib.hid HP.out.seats.len
  have M3 := Lib.hid HQ.out.names.len
  have M4 := Lib.hid HQ.out.segs.len
  have M9 := Lib.hid HQ.out.seats.len
  dsimp only at L3 L4 L9 M3 M4 M9
  have hS := SW2.start w p q (Hd.mk an nn cn ag ng cg ap np cp ar nr cr ae ne ce) (Hd.mk an' nn' cn' ag' ng' cg' ap' np' cp' ar' nr' cr' ae' ne' ce') 29
  dsimp only at hS
  have HEo := pnr_eq p q
  have e1 := eqL p.loc q.loc
  have e2 := eqL p.off q.off
  have e7 := eqL p.rc q.rc
  have e6 := fun u => neq_ticket p.tik.kind q.tik.kind p.tik.day q.tik.day p.tik.min q.tik.min u
  have t6 : (decide (p.tik.kind = q.tik.kind) && (decide (p.tik.day = q.tik.day) && decide (p.tik.min = q.tik.min))) = decide (p.tik = q.tik) := by
    rw [Bool.eq_iff_iff]; cases p.tik; cases q.tik; simp
  rw [t6] at e6
  clear t6
  have e10 := eqB p.queued q.queued
  have f1 : (p.loc.toList != q.loc.toList) = !(p.loc.toList == q.loc.toList) := rfl
  have f2 : (p.off.toList != q.off.toList) = !(p.off.toList == q.off.toList) := rfl
  have f7 : (p.rc.toList != q.rc.toList) = !(p.rc.toList == q.rc.toList) := rfl
  have f10 : (p.queued != q.queued) = !(p.queued == q.queued) := rfl
  generalize k1 : decide (p.loc = q.loc) = b1 at e1 HEo
  have K1 := Lib.hid k1
  clear k1
  generalize k2 : decide (p.off = q.off) = b2 at e2 HEo
  have K2 := Lib.hid k2
  clear k2
  generalize k3 : decide (p.names = q.names) = b3 at HEo
  have K3 := Lib.hid k3
  clear k3
  generalize k4 : decide (p.segs = q.segs) = b4 at HEo
  have K4 := Lib.hid k4
  clear k4
  generalize k5 : decide (p.phones = q.phones) = b5 at HEo
  have K5 := Lib.hid k5
  clear k5
  generalize k6 : decide (p.tik = q.tik) = b6 at e6 HEo
  have K6 := Lib.hid k6
  clear k6
  generalize k7 : decide (p.rc = q.rc) = b7 at e7 HEo
  have K7 := Lib.hid k7
  clear k7
  generalize k8 : decide (p.remarks = q.remarks) = b8 at HEo
  have K8 := Lib.hid k8
  clear k8
  generalize k9 : decide (p.seats = q.seats) = b9 at HEo
  have K9 := Lib.hid k9
  clear k9
  generalize k10 : decide (p.queued = q.queued) = b10 at e10 HEo
  have K10 := Lib.hid k10
  clear k10
  rw [e1] at f1
  rw [e2] at f2
  rw [e7] at f7
  rw [e10] at f10
  have f3 : ((nn : Int) != (nn' : Int)) = !decide (nn = nn') := by rw [Bool.eq_iff_iff]; simp; omega
  have f4 : ((ng : Int) != (ng' : Int)) = !decide (ng = ng') := by rw [Bool.eq_iff_iff]; simp; omega
  have f9 : ((ne : Int) != (ne' : Int)) = !decide (ne = ne') := by rw [Bool.eq_iff_iff]; simp; omega
  generalize k3 : decide (nn = nn') = c3 at f3
  generalize k4 : decide (ng = ng') = c4 at f4
  generalize k9 : decide (ne = ne') = c9 at f9
  have C3 := Lib.hid k3
  have C4 := Lib.hid k4
  have C9 := Lib.hid k9
  clear k3 k4 k9
  have HE := Lib.hid HEo
  clear HEo
  have tok1 : True := trivial
  obtain rfl : b1 = true := K1.out.symm.trans vb1
  obtain rfl : b2 = true := K2.out.symm.trans vb2
  obtain rfl : b6 = true := K6.out.symm.trans vb6
  obtain rfl : b7 = true := K7.out.symm.trans vb7
  obtain rfl : b10 = true := K10.out.symm.trans vb10
  obtain rfl : c3 = true := C3.out.symm.trans vc3
  obtain rfl : c4 = true := C4.out.symm.trans vc4
  obtain rfl : c9 = true := C9.out.symm.trans vc9
  obtain rfl : b5 = true := K5.out.symm.trans vb5
  obtain rfl : b8 = false := K8.out.symm.trans vb8
  clear vb1 vb2 vb6 vb7 vb10 vc3 vc4 vc9 vb5 vb8
  go_enter Tryz.func10, Tryz.ntmps10
  go_wp2_with (first | (go_at_call 35; have _t := tok1; refine (equal_rtx p.phones q.phones _ _ _ _ _ _ _ lo hi lo' hi' (HP.out.below hS.B hhi).phones (HQ.out.below hS.B hhi').phones sp sp' (by have := hS.z; omega) (by have := hS.z; omega)).mono ?_; rintro e w5 ⟨rfl, hb⟩; rw [K5.out]; replace hS := hS.step hb; clear hb; have hx5 := hS.box1; have hy5 := hS.box2; dsimp only at hx5 hy5; clear tok1) | (go_at_call 35; refine (equal_rtx p.remarks q.remarks _ _ _ _ _ _ _ lo hi lo' hi' (HP.out.below hS.B hhi).remarks (HQ.out.below hS.B hhi').remarks sr sr' (by have := hS.z; omega) (by have := hS.z; omega)).mono ?_; rintro e w8 ⟨rfl, hb⟩; rw [K8.out]; replace hS := hS.step hb; clear hb; have hx8 := hS.box1; have hy8 := hS.box2; dsimp only at hx8 hy8))
  go_ret
  exact ⟨ret_bool (by rw [HE.out]; simp), hS.B⟩
end Go.Proofs.YtpgeoahlhdifoaaGreatDoor
namespace Go.Proofs.YtpgeoahlhdifoaaGreatDoor
set_option linter.unusedVariables false
open Go Go.RowKit
theorem all_dec {α : Type} [DecidableEq α] {l m : List α} {n : Nat} (hl : l.length = n) (hm : m.length = n) (h : allP (sameI l m) n = true) : decide (l = m) = true :=
  decide_eq_true (same_all (hl.trans hm.symm) (by rw [hl]; exact h))
set_option maxRecDepth 100000 in
set_option maxHeartbeats 8000000 in
theorem rsame_10 (p q : Pnr) (h g : Hd) (w : World) (lo hi lo' hi' : Nat) (hp : PAt w lo hi p h) (hq : PAt w lo' hi' q g) (hs : Small h) (hs' : Small g) (hhi : hi ≤ w.heap.size) (hhi' : hi' ≤ w.heap.size) (vb1 : decide (p.loc = q.loc) = true) (vb2 : decide (p.off = q.off) = true) (vb6 : decide (p.tik = q.tik) = true) (vb7 : decide (p.rc = q.rc) = true) (vb10 : decide (p.queued = q.queued) = true) (vc3 : decide (h.nn = g.nn) = true) (vc4 : decide (h.ng = g.ng) = true) (vc9 : decide (h.ne = g.ne) = true) (vb5 : decide (p.phones = q.phones) = true) (vb8 : decide (p.remarks = q.remarks) = true) :
    Calls Tryz.prog 10 #[.agg #[.string p.loc, .string p.off, .slice h.an h.nn h.cn, .slice h.ag h.ng h.cg, .slice h.ap h.np h.cp, .int .i64 p.tik.kind, .int .i64 p.tik.day, .int .i64 p.tik.min, .string p.rc, .slice h.ar h.nr h.cr, .slice h.ae h.ne h.ce, .bool p.queued], .agg #[.string q.loc, .string q.off, .slice g.an g.nn g.cn, .slice g.ag g.ng g.cg, .slice g.ap g.np g.cp, .int .i64 q.tik.kind, .int .i64 q.tik.day, .int .i64 q.tik.min, .string q.rc, .slice g.ar g.nr g.cr, .slice g.ae g.ne g.ce, .bool q.queued]] w (RetB w (decide (p = q))) := by
  have HP := Lib.hid hp
  have HQ := Lib.hid hq
  clear hp hq
  obtain ⟨sn, sg, sp, sr, se⟩ := hs
  obtain ⟨sn', sg', sp', sr', se'⟩ := hs'
  obtain ⟨an, nn, cn, ag, ng, cg, ap, np, cp, ar, nr, cr, ae, ne, ce⟩ := h
  obtain ⟨an', nn', cn', ag', ng', cg', ap', np', cp', ar', nr', cr', ae', ne', ce'⟩ := g
  dsimp only at sn sg sp sr se sn' sg' sp' sr' se'
  dsimp only
  have L3 := Lib.hid HP.out.names.len
  have L4 := Lib.hid HP.out.segs.len
  have L9 := Lib.hid HP.out.seats.len
  have M3 := Lib.hid HQ.out.names.len
  have M4 := Lib.hid HQ.out.segs.len
  have M9 := Lib.hid HQ.out.seats.len
  dsimp only at L3 L4 L9 M3 M4 M9
  have hS := SW2.start w p q (Hd.mk an nn cn ag ng cg ap np cp ar nr cr ae ne ce) (Hd.mk an' nn' cn' ag' ng' cg' ap' np' cp' ar' nr' cr' ae' ne' ce') 29
  dsimp only at hS
  have HEo := pnr_eq p q
  have e1 := eqL p.loc q.loc
  have e2 := eqL p.off q.off
  have e7 := eqL p.rc q.rc
  have e6 := fun u => neq_ticket p.tik.kind q.tik.kind p.tik.day q.tik.day p.tik.min q.tik.min u
  have t6 : (decide (p.tik.kind = q.tik.kind) && (decide (p.tik.day = q.tik.day) && decide (p.tik.min = q.tik.min))) = decide (p.tik = q.tik) := by
    rw [Bool.eq_iff_iff]; cases p.tik; cases q.tik; simp
  rw [t6] at e6
  clear t6
  have e10 := eqB p.queued q.queued
  have f1 : (p.loc.toList != q.loc.toList) = !(p.loc.toList == q.loc.toList) := rfl
  have f2 : (p.off.toList != q.off.toList) = !(p.off.toList == q.off.toList) := rfl
  have f7 : (p.rc.toList != q.rc.toList) = !(p.rc.toList == q.rc.toList) := rfl
  have f10 : (p.queued != q.queued) = !(p.queued == q.queued) := rfl
  generalize k1 : decide (p.loc = q.loc) = b1 at e1 HEo
  have K1 := Lib.hid k1
  clear k1
  generalize k2 : decide (p.off = q.off) = b2 at e2 HEo
  have K2 := Lib.hid k2
  clear k2
  generalize k3 : decide (p.names = q.names) = b3 at HEo
  have K3 := Lib.hid k3
  clear k3
  generalize k4 : decide (p.segs = q.segs) = b4 at HEo
  have K4 := Lib.hid k4
  clear k4
  generalize k5 : decide (p.phones = q.phones) = b5 at HEo
  have K5 := Lib.hid k5
  clear k5
  generalize k6 : decide (p.tik = q.tik) = b6 at e6 HEo
  have K6 := Lib.hid k6
  clear k6
  generalize k7 : decide (p.rc = q.rc) = b7 at e7 HEo
  have K7 := Lib.hid k7
  clear k7
  generalize k8 : decide (p.remarks = q.remarks) = b8 at HEo
  have K8 := Lib.hid k8
  clear k8
  generalize k9 : decide (p.seats = q.seats) = b9 at HEo
  have K9 := Lib.hid k9
  clear k9
  generalize k10 : decide (p.queued = q.queued) = b10 at e10 HEo
  have K10 := Lib.hid k10
  clear k10
  rw [e1] at f1
  rw [e2] at f2
  rw [e7] at f7
  rw [e10] at f10
  have f3 : ((nn : Int) != (nn' : Int)) = !decide (nn = nn') := by rw [Bool.eq_iff_iff]; simp; omega
  have f4 : ((ng : Int) != (ng' : Int)) = !decide (ng = ng') := by rw [Bool.eq_iff_iff]; simp; omega
  have f9 : ((ne : Int) != (ne' : Int)) = !decide (ne = ne') := by rw [Bool.eq_iff_iff]; simp; omega
  generalize k3 : decide (nn = nn') = c3 at f3
  generalize k4 : decide (ng = ng') = c4 at f4
  generalize k9 : decide (ne = ne') = c9 at f9
  have C3 := Lib.hid k3
  have C4 := Lib.hid k4
  have C9 := Lib.hid k9
  clear k3 k4 k9
  have HE := Lib.hid HEo
  clear HEo
  have tok1 : True := trivial
  obtain rfl : b1 = true := K1.out.symm.trans vb1
  obtain rfl : b2 = true := K2.out.symm.trans vb2
  obtain rfl : b6 = true := K6.out.symm.trans vb6
  obtain rfl : b7 = true := K7.out.symm.trans vb7
  obtain rfl : b10 = true := K10.out.symm.trans vb10
  obtain rfl : c3 = true := C3.out.symm.trans vc3
  obtain rfl : c4 = true := C4.out.symm.trans vc4
  obtain rfl : c9 = true := C9.out.symm.trans vc9
  obtain rfl : b5 = true := K5.out.symm.trans vb5
  obtain rfl : b8 = true := K8.out.symm.trans vb8
  clear vb1 vb2 vb6 vb7 vb10 vc3 vc4 vc9 vb5 vb8
  go_enter Tryz.func10, Tryz.ntmps10
  go_wp2_with (first | (go_at_call 35; have _t := tok1; refine (equal_rtx p.phones q.phones _ _ _ _ _ _ _ lo hi lo' hi' (HP.out.below hS.B hhi).phones (HQ.out.below hS.B hhi').phones sp sp' (by have := hS.z; omega) (by have := hS.z; omega)).mono ?_; rintro e w5 ⟨rfl, hb⟩; rw [K5.out]; replace hS := hS.step hb; clear hb; have hx5 := hS.box1; have hy5 := hS.box2; dsimp only at hx5 hy5; clear tok1) | (go_at_call 35; refine (equal_rtx p.remarks q.remarks _ _ _ _ _ _ _ lo hi lo' hi' (HP.out.below hS.B hhi).remarks (HQ.out.below hS.B hhi').remarks sr sr' (by have := hS.z; omega) (by have := hS.z; omega)).mono ?_; rintro e w8 ⟨rfl, hb⟩; rw [K8.out]; replace hS := hS.step hb; clear hb; have hx8 := hS.box1; have hy8 := hS.box2; dsimp only at hx8 hy8))
  have hx := hS.box1
  have hy := hS.box2
  dsimp only at hx hy
  go_loopw [5] (fun i wr => ∃ k : Nat, k ≤ nn ∧ i = .int .i64 k ∧ Hid (allP (sameI p.names q.names) k = true) ∧ SW2 w p q (Hd.mk an nn cn ag ng cg ap np cp ar nr cr ae ne ce) (Hd.mk an' nn' cn' ag' ng' cg' ap' np' cp' ar' nr' cr' ae' ne' ce') wr) (fun i _ => nn - (intOf i).toNat)
  case atStart => exact ⟨0, Nat.zero_le _, rfl, rfl, hS⟩
  case round =>
    clear hS hx hy
    obtain ⟨k, hk, rfl, hall, hS⟩ := hrel
    have hx := hS.box1
    have hy := hS.box2
    have hz := hS.z
    dsimp only at hx hy
    by_cases hlt : k < nn
    · obtain ⟨b, o, x, hA, h1, h2, hxx, hok, c0, c1⟩ := (HP.out.below hS.B hhi).names.nam_ hlt
      obtain ⟨b', o', y, hA', h1', h2', hyy, hok', d0, d1⟩ := (HQ.out.below hS.B hhi').names.nam_ (show k < nn' by have := (of_decide_eq_true C3.out); omega)
      have hsm : sameI p.names q.names k = decide (x = y) := by unfold sameI; rw [hxx.out, hyy.out]; rw [Bool.eq_iff_iff]; simp
      have HSM := Lib.hid hsm
      clear hsm
      obtain ⟨x0, x1⟩ := x
      obtain ⟨y0, y1⟩ := y
      dsimp only at c0 c1 d0 d1
      have hne := fun u => neq_name x0 y0 x1 y1 u
      have hdec : (decide (x0 = y0) && decide (x1 = y1)) = decide ((⟨x0, x1⟩ : Nam) = (⟨y0, y1⟩ : Nam)) := by rw [Bool.eq_iff_iff]; simp
      rw [hdec] at hne
      dsimp only at hA hA'
      subst hA hA'
      have hk0 : (0 : Int) ≤ k := by omega
      have hkl : (k : Int) < nn := by omega
      have hkm : (k : Int) < nn' := by have := (of_decide_eq_true C3.out); omega
      generalize hq : decide ((⟨x0, x1⟩ : Nam) = (⟨y0, y1⟩ : Nam)) = bq at hne HSM
      have HQ2 := Lib.hid hq
      clear hq
      rcases bq with _ | _
      · have hno := Lib.hid (K3.out.symm.trans (same_not HSM.out))
        go_wp2
        go_quiet (fail)
        go_wp2
        go_ret
        exact ⟨ret_bool (by rw [HE.out, hno.out]; simp), (hS.drewN _).B⟩
      · go_wp2
        go_quiet (fail)
        go_wp2
        go_roundw
        case rel => exact ⟨k + 1, by omega, by go_num, allP_step hall.out HSM.out, hS.drewN _⟩
        case measure => simp [intOf]; omega
    · obtain rfl : nn = k := by omega
      have hyes := Lib.hid (K3.out.symm.trans (all_dec L3.out (M3.out.trans (of_decide_eq_true C3.out).symm) hall.out))
      obtain rfl := hyes.out
      go_wp2
      go_loopw [6] (fun i wr => ∃ k : Nat, k ≤ ng ∧ i = .int .i64 k ∧ Hid (allP (sameI p.segs q.segs) k = true) ∧ SW2 w p q (Hd.mk an nn cn ag ng cg ap np cp ar nr cr ae ne ce) (Hd.mk an' nn' cn' ag' ng' cg' ap' np' cp' ar' nr' cr' ae' ne' ce') wr) (fun i _ => ng - (intOf i).toNat)
      case atStart => exact ⟨0, Nat.zero_le _, rfl, rfl, hS⟩
      case round =>
        clear hS hx hy
        obtain ⟨k, hk, rfl, hall, hS⟩ := hrel
        have hx := hS.box1
        have hy := hS.box2
        have hz := hS.z
        dsimp only at hx hy
        by_cases hlt : k < ng
        · obtain ⟨b, o, x, hA, h1, h2, hxx, hok, c0, c1, c2, c3, c4⟩ := (HP.out.below hS.B hhi).segs.seg_ hlt
          obtain ⟨b', o', y, hA', h1', h2', hyy, hok', d0, d1, d2, d3, d4⟩ := (HQ.out.below hS.B hhi').segs.seg_ (show k < ng' by have := (of_decide_eq_true C4.out); omega)
          have hsm : sameI p.segs q.segs k = decide (x = y) := by unfold sameI; rw [hxx.out, hyy.out]; rw [Bool.eq_iff_iff]; simp
          have HSM := Lib.hid hsm
          clear hsm
          obtain ⟨x0, x1, x2, x3, x4⟩ := x
          obtain ⟨y0, y1, y2, y3, y4⟩ := y
          dsimp only at c0 c1 c2 c3 c4 d0 d1 d2 d3 d4
          have hne := fun u => neq_segment x0 y0 x1 y1 x2 y2 x3 y3 x4 y4 u
          have hdec : (decide (x0 = y0) && (decide (x1 = y1) && (decide (x2 = y2) && (decide (x3 = y3) && decide (x4 = y4))))) = decide ((⟨x0, x1, x2, x3, x4⟩ : Seg) = (⟨y0, y1, y2, y3, y4⟩ : Seg)) := by rw [Bool.eq_iff_iff]; simp
          rw [hdec] at hne
          dsimp only at hA hA'
          subst hA hA'
          have hk0 : (0 : Int) ≤ k := by omega
          have hkl : (k : Int) < ng := by omega
          have hkm : (k : Int) < ng' := by have := (of_decide_eq_true C4.out); omega
          generalize hq : decide ((⟨x0, x1, x2, x3, x4⟩ : Seg) = (⟨y0, y1, y2, y3, y4⟩ : Seg)) = bq at hne HSM
          have HQ2 := Lib.hid hq
          clear hq
          rcases bq with _ | _
          · have hno := Lib.hid (K4.out.symm.trans (same_not HSM.out))
            go_wp2
            go_quiet (fail)
            go_wp2
            go_ret
            exact ⟨ret_bool (by rw [HE.out, hno.out]; simp), (hS.drewN _).B⟩
          · go_wp2
            go_quiet (fail)
            go_wp2
            go_roundw
            case rel => exact ⟨k + 1, by omega, by go_num, allP_step hall.out HSM.out, hS.drewN _⟩
            case measure => simp [intOf]; omega
        · obtain rfl : ng = k := by omega
          have hyes := Lib.hid (K4.out.symm.trans (all_dec L4.out (M4.out.trans (of_decide_eq_true C4.out).symm) hall.out))
          obtain rfl := hyes.out
          go_wp2
          go_loopw [7] (fun i wr => ∃ k : Nat, k ≤ ne ∧ i = .int .i64 k ∧ Hid (allP (sameI p.seats q.seats) k = true) ∧ SW2 w p q (Hd.mk an nn cn ag ng cg ap np cp ar nr cr ae ne ce) (Hd.mk an' nn' cn' ag' ng' cg' ap' np' cp' ar' nr' cr' ae' ne' ce') wr) (fun i _ => ne - (intOf i).toNat)
          case atStart => exact ⟨0, Nat.zero_le _, rfl, rfl, hS⟩
          case round =>
            clear hS hx hy
            obtain ⟨k, hk, rfl, hall, hS⟩ := hrel
            have hx := hS.box1
            have hy := hS.box2
            have hz := hS.z
            dsimp only at hx hy
            by_cases hlt : k < ne
            · obtain ⟨b, o, x, hA, h1, h2, hxx, hok, c0, c1, c2, c3⟩ := (HP.out.below hS.B hhi).seats.plc_ hlt
              obtain ⟨b', o', y, hA', h1', h2', hyy, hok', d0, d1, d2, d3⟩ := (HQ.out.below hS.B hhi').seats.plc_ (show k < ne' by have := (of_decide_eq_true C9.out); omega)
              have hsm : sameI p.seats q.seats k = decide (x = y) := by unfold sameI; rw [hxx.out, hyy.out]; rw [Bool.eq_iff_iff]; simp
              have HSM := Lib.hid hsm
              clear hsm
              obtain ⟨x0, x1, x2, x3⟩ := x
              obtain ⟨y0, y1, y2, y3⟩ := y
              dsimp only at c0 c1 c2 c3 d0 d1 d2 d3
              have hne := fun u => neq_place x0 y0 x1 y1 x2 y2 x3 y3 u
              have hdec : (decide (x0 = y0) && (decide (x1 = y1) && (decide (x2 = y2) && decide (x3 = y3)))) = decide ((⟨x0, x1, x2, x3⟩ : Plc) = (⟨y0, y1, y2, y3⟩ : Plc)) := by rw [Bool.eq_iff_iff]; simp
              rw [hdec] at hne
              dsimp only at hA hA'
              subst hA hA'
              have hk0 : (0 : Int) ≤ k := by omega
              have hkl : (k : Int) < ne := by omega
              have hkm : (k : Int) < ne' := by have := (of_decide_eq_true C9.out); omega
              generalize hq : decide ((⟨x0, x1, x2, x3⟩ : Plc) = (⟨y0, y1, y2, y3⟩ : Plc)) = bq at hne HSM
              have HQ2 := Lib.hid hq
              clear hq
              rcases bq with _ | _
              · have hno := Lib.hid (K9.out.symm.trans (same_not HSM.out))
                go_wp2
                go_quiet (fail)
                go_wp2
                go_ret
                exact ⟨ret_bool (by rw [HE.out, hno.out]; simp), (hS.drewN _).B⟩
              · go_wp2
                go_quiet (fail)
                go_wp2
                go_roundw
                case rel => exact ⟨k + 1, by omega, by go_num, allP_step hall.out HSM.out, hS.drewN _⟩
                case measure => simp [intOf]; omega
            · obtain rfl : ne = k := by omega
              have hyes := Lib.hid (K9.out.symm.trans (all_dec L9.out (M9.out.trans (of_decide_eq_true C9.out).symm) hall.out))
              obtain rfl := hyes.out
              go_wp2
              go_ret
              exact ⟨ret_bool (by rw [HE.out]; simp), hS.B⟩
end Go.Proofs.YtpgeoahlhdifoaaGreatDoor
namespace Go.Proofs.YtpgeoahlhdifoaaGreatDoor
set_option linter.unusedVariables false
open Go Go.RowKit
theorem rsame_any (p q : Pnr) (h g : Hd) (w : World) (lo hi lo' hi' : Nat) (hp : PAt w lo hi p h) (hq : PAt w lo' hi' q g) (hs : Small h) (hs' : Small g) (hhi : hi ≤ w.heap.size) (hhi' : hi' ≤ w.heap.size) :
    Calls Tryz.prog 10 #[.agg #[.string p.loc, .string p.off, .slice h.an h.nn h.cn, .slice h.ag h.ng h.cg, .slice h.ap h.np h.cp, .int .i64 p.tik.kind, .int .i64 p.tik.day, .int .i64 p.tik.min, .string p.rc, .slice h.ar h.nr h.cr, .slice h.ae h.ne h.ce, .bool p.queued], .agg #[.string q.loc, .string q.off, .slice g.an g.nn g.cn, .slice g.ag g.ng g.cg, .slice g.ap g.np g.cp, .int .i64 q.tik.kind, .int .i64 q.tik.day, .int .i64 q.tik.min, .string q.rc, .slice g.ar g.nr g.cr, .slice g.ae g.ne g.ce, .bool q.queued]] w (RetB w (decide (p = q))) := by
  rcases Bool.eq_false_or_eq_true (decide (p.loc = q.loc)) with v0 | v0
  case inr => exact rsame_0 p q h g w lo hi lo' hi' hp hq hs hs' hhi hhi' v0
  rcases Bool.eq_false_or_eq_true (decide (p.off = q.off)) with v1 | v1
  case inr => exact rsame_1 p q h g w lo hi lo' hi' hp hq hs hs' hhi hhi' v0 v1
  rcases Bool.eq_false_or_eq_true (decide (p.tik = q.tik)) with v2 | v2
  case inr => exact rsame_2 p q h g w lo hi lo' hi' hp hq hs hs' hhi hhi' v0 v1 v2
  rcases Bool.eq_false_or_eq_true (decide (p.rc = q.rc)) with v3 | v3
  case inr => exact rsame_3 p q h g w lo hi lo' hi' hp hq hs hs' hhi hhi' v0 v1 v2 v3
  rcases Bool.eq_false_or_eq_true (decide (p.queued = q.queued)) with v4 | v4
  case inr => exact rsame_4 p q h g w lo hi lo' hi' hp hq hs hs' hhi hhi' v0 v1 v2 v3 v4
  rcases Bool.eq_false_or_eq_true (decide (h.nn = g.nn)) with v5 | v5
  case inr => exact rsame_5 p q h g w lo hi lo' hi' hp hq hs hs' hhi hhi' v0 v1 v2 v3 v4 v5
  rcases Bool.eq_false_or_eq_true (decide (h.ng = g.ng)) with v6 | v6
  case inr => exact rsame_6 p q h g w lo hi lo' hi' hp hq hs hs' hhi hhi' v0 v1 v2 v3 v4 v5 v6
  rcases Bool.eq_false_or_eq_true (decide (h.ne = g.ne)) with v7 | v7
  case inr => exact rsame_7 p q h g w lo hi lo' hi' hp hq hs hs' hhi hhi' v0 v1 v2 v3 v4 v5 v6 v7
  rcases Bool.eq_false_or_eq_true (decide (p.phones = q.phones)) with v8 | v8
  case inr => exact rsame_8 p q h g w lo hi lo' hi' hp hq hs hs' hhi hhi' v0 v1 v2 v3 v4 v5 v6 v7 v8
  rcases Bool.eq_false_or_eq_true (decide (p.remarks = q.remarks)) with v9 | v9
  case inr => exact rsame_9 p q h g w lo hi lo' hi' hp hq hs hs' hhi hhi' v0 v1 v2 v3 v4 v5 v6 v7 v8 v9
  exact rsame_10 p q h g w lo hi lo' hi' hp hq hs hs' hhi hhi' v0 v1 v2 v3 v4 v5 v6 v7 v8 v9
end Go.Proofs.YtpgeoahlhdifoaaGreatDoor
