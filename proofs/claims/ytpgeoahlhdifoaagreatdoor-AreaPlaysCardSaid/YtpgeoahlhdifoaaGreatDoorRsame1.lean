/- Two PNRs are alike: the document's answer, in parts. -/
import Derived.Test.YtpgeoahlhdifoaaGreatDoorSame
import Derived.Deep.QuietTactic
import Derived.BigQuiet
namespace Go.Proofs.YtpgeoahlhdifoaaGreatDoor
set_option linter.unusedVariables false
open Go Go.RowKit
set_option maxRecDepth 100000 in
set_option maxHeartbeats 8000000 in
theorem rsame_0 (p q : Pnr) (h g : Hd) (w : World) (lo hi lo' hi' : Nat) (hp : PAt w lo hi p h) (hq : PAt w lo' hi' q g) (hs : Small h) (hs' : Small g) (hhi : hi ≤ w.heap.size) (hhi' : hi' ≤ w.heap.size) (vb1 : decide (p.loc = q.loc) = false) :
    Calls Tryz.prog 10 #[.agg #[.string p.loc, .string p.off, .slice h.an h.nn h.cn, .slice h.ag h.ng h.cg, .slice h.ap h.np h.cp, .int .i64 p.tik.kind, .int .i64 p.tik.day, .int .i64 p.tik.min, .string p.rc, .slice h.ar h.nr h.cr, .slice h.ae h.ne h.ce, .bool p.queued], .agg #[.string q.loc, .string q.off, .slice g.an g.nn g.cn, .slice g.ag g.ng g.cg, .slice g.ap g.np g.cp, .int .i64 q.tik.kind, .int .i64 q.tik.day, .int .i64 q.tik.min, .string q.rc, .slice g.ar g.nr g.cr, .slice g.ae g.ne g.ce, .bool q.queued]] w (RetB w (decide (p = q))) := by
  have HP := Lib.hid hp
  have HQ := Lib.hid hq
  clear hp hq
  obtain ⟨sn, sg, sp, sr, se⟩ := hs
  obtain ⟨sn', sg', sp', sr', se'⟩ := hs'
  obtain ⟨an, nn, cn, ag, ng, cg, ap, np, cp, ar, nr, cr, ae, ne, ce⟩ := h
  obtain ⟨an', nn', cn', ag', ng', cg', ap', np', cp', ar', nr', cr', ae', ne', ce'⟩ := g
  dsimp only at sn sg sp sr se sn' sg' sp' sr' se'
  dsimp only
  have L3 := Lib.hid HP.out.names.len
  have L4 := Lib.hid HP.out.segs.len
  have L9 := Lib.hid HP.out.seats.len
  have M3 := Lib.hid HQ.out.names.len
  have M4 := Lib.hid HQ.out.segs.len
  have M9 := Lib.hid HQ.out.seats.len
  dsimp only at L3 L4 L9 M3 M4 M9
  have hS := SW2.start w p q (Hd.mk an nn cn ag ng cg ap np cp ar nr cr ae ne ce) (Hd.mk an' nn' cn' ag' ng' cg' ap' np' cp' ar' nr' cr' ae' ne' ce') 29
  dsimp only at hS
  have HEo := pnr_eq p q
  have e1 := eqL p.loc q.loc
  have e2 := eqL p.off q.off
  have e7 := eqL p.rc q.rc
  have e6 := fun u => neq_ticket p.tik.kind q.tik.kind p.tik.day q.tik.day p.tik.min q.tik.min u
  have t6 : (decide (p.tik.kind = q.tik.kind) && (decide (p.tik.day = q.tik.day) && decide (p.tik.min = q.tik.min))) = decide (p.tik = q.tik) := by
    rw [Bool.eq_iff_iff]; cases p.tik; cases q.tik; simp
  rw [t6] at e6
  clear t6
  have e10 := eqB p.queued q.queued
  have f1 : (p.loc.toList != q.loc.toList) = !(p.loc.toList == q.loc.toList) := rfl
  have f2 : (p.off.toList != q.off.toList) = !(p.off.toList == q.off.toList) := rfl
  have f7 : (p.rc.toList != q.rc.toList) = !(p.rc.toList == q.rc.toList) := rfl
  have f10 : (p.queued != q.queued) = !(p.queued == q.queued) := rfl
  generalize k1 : decide (p.loc = q.loc) = b1 at e1 HEo
  have K1 := Lib.hid k1
  clear k1
  generalize k2 : decide (p.off = q.off) = b2 at e2 HEo
  have K2 := Lib.hid k2
  clear k2
  generalize k3 : decide (p.names = q.names) = b3 at HEo
  have K3 := Lib.hid k3
  clear k3
  generalize k4 : decide (p.segs = q.segs) = b4 at HEo
  have K4 := Lib.hid k4
  clear k4
  generalize k5 : decide (p.phones = q.phones) = b5 at HEo
  have K5 := Lib.hid k5
  clear k5
  generalize k6 : decide (p.tik = q.tik) = b6 at e6 HEo
  have K6 := Lib.hid k6
  clear k6
  generalize k7 : decide (p.rc = q.rc) = b7 at e7 HEo
  have K7 := Lib.hid k7
  clear k7
  generalize k8 : decide (p.remarks = q.remarks) = b8 at HEo
  have K8 := Lib.hid k8
  clear k8
  generalize k9 : decide (p.seats = q.seats) = b9 at HEo
  have K9 := Lib.hid k9
  clear k9
  generalize k10 : decide (p.queued = q.queued) = b10 at e10 HEo
  have K10 := Lib.hid k10
  clear k10
  rw [e1] at f1
  rw [e2] at f2
  rw [e7] at f7
  rw [e10] at f10
  have f3 : ((nn : Int) != (nn' : Int)) = !decide (nn = nn') := by rw [Bool.eq_iff_iff]; simp; omega
  have f4 : ((ng : Int) != (ng' : Int)) = !decide (ng = ng') := by rw [Bool.eq_iff_iff]; simp; omega
  have f9 : ((ne : Int) != (ne' : Int)) = !decide (ne = ne') := by rw [Bool.eq_iff_iff]; simp; omega
  generalize k3 : decide (nn = nn') = c3 at f3
  generalize k4 : decide (ng = ng') = c4 at f4
  generalize k9 : decide (ne = ne') = c9 at f9
  have C3 := Lib.hid k3
  have C4 := Lib.hid k4
  have C9 := Lib.hid k9
  clear k3 k4 k9
  have HE := Lib.hid HEo
  clear HEo
  have tok1 : True := trivial
  obtain rfl : b1 = false := K1.out.symm.trans vb1
  clear vb1
  go_enter Tryz.func10, Tryz.ntmps10
  go_wp2
  go_ret
  exact ⟨ret_bool (by rw [HE.out]; simp), hS.B⟩
set_option maxRecDepth 100000 in
set_option maxHeartbeats 8000000 in
theorem rsame_1 (p q : Pnr) (h g : Hd) (w : World) (lo hi lo' hi' : Nat) (hp : PAt w lo hi p h) (hq : PAt w lo' hi' q g) (hs : Small h) (hs' : Small g) (hhi : hi ≤ w.heap.size) (hhi' : hi' ≤ w.heap.size) (vb1 : decide (p.loc = q.loc) = true) (vb2 : decide (p.off = q.off) = false) :
    Calls Tryz.prog 10 #[.agg #[.string p.loc, .string p.off, .slice h.an h.nn h.cn, .slice h.ag h.ng h.cg, .slice h.ap h.np h.cp, .int .i64 p.tik.kind, .int .i64 p.tik.day, .int .i64 p.tik.min, .string p.rc, .slice h.ar h.nr h.cr, .slice h.ae h.ne h.ce, .bool p.queued], .agg #[.string q.loc, .string q.off, .slice g.an g.nn g.cn, .slice g.ag g.ng g.cg, .slice g.ap g.np g.cp, .int .i64 q.tik.kind, .int .i64 q.tik.day, .int .i64 q.tik.min, .string q.rc, .slice g.ar g.nr g.cr, .slice g.ae g.ne g.ce, .bool q.queued]] w (RetB w (decide (p = q))) := by
  have HP := Lib.hid hp
  have HQ := Lib.hid hq
  clear hp hq
  obtain ⟨sn, sg, sp, sr, se⟩ := hs
  obtain ⟨sn', sg', sp', sr', se'⟩ := hs'
  obtain ⟨an, nn, cn, ag, ng, cg, ap, np, cp, ar, nr, cr, ae, ne, ce⟩ := h
  obtain ⟨an', nn', cn', ag', ng', cg', ap', np', cp', ar', nr', cr', ae', ne', ce'⟩ := g
  dsimp only at sn sg sp sr se sn' sg' sp' sr' se'
  dsimp only
  have L3 := Lib.hid HP.out.names.len
  have L4 := Lib.hid HP.out.segs.len
  have L9 := Lib.hid HP.out.seats.len
  have M3 := Lib.hid HQ.out.names.len
  have M4 := Lib.hid HQ.out.segs.len
  have M9 := Lib.hid HQ.out.seats.len
  dsimp only at L3 L4 L9 M3 M4 M9
  have hS := SW2.start w p q (Hd.mk an nn cn ag ng cg ap np cp ar nr cr ae ne ce) (Hd.mk an' nn' cn' ag' ng' cg' ap' np' cp' ar' nr' cr' ae' ne' ce') 29
  dsimp only at hS
  have HEo := pnr_eq p q
  have e1 := eqL p.loc q.loc
  have e2 := eqL p.off q.off
  have e7 := eqL p.rc q.rc
  have e6 := fun u => neq_ticket p.tik.kind q.tik.kind p.tik.day q.tik.day p.tik.min q.tik.min u
  have t6 : (decide (p.tik.kind = q.tik.kind) && (decide (p.tik.day = q.tik.day) && decide (p.tik.min = q.tik.min))) = decide (p.tik = q.tik) := by
    rw [Bool.eq_iff_iff]; cases p.tik; cases q.tik; simp
  rw [t6] at e6
  clear t6
  have e10 := eqB p.queued q.queued
  have f1 : (p.loc.toList != q.loc.toList) = !(p.loc.toList == q.loc.toList) := rfl
  have f2 : (p.off.toList != q.off.toList) = !(p.off.toList == q.off.toList) := rfl
  have f7 : (p.rc.toList != q.rc.toList) = !(p.rc.toList == q.rc.toList) := rfl
  have f10 : (p.queued != q.queued) = !(p.queued == q.queued) := rfl
  generalize k1 : decide (p.loc = q.loc) = b1 at e1 HEo
  have K1 := Lib.hid k1
  clear k1
  generalize k2 : decide (p.off = q.off) = b2 at e2 HEo
  have K2 := Lib.hid k2
  clear k2
  generalize k3 : decide (p.names = q.names) = b3 at HEo
  have K3 := Lib.hid k3
  clear k3
  generalize k4 : decide (p.segs = q.segs) = b4 at HEo
  have K4 := Lib.hid k4
  clear k4
  generalize k5 : decide (p.phones = q.phones) = b5 at HEo
  have K5 := Lib.hid k5
  clear k5
  generalize k6 : decide (p.tik = q.tik) = b6 at e6 HEo
  have K6 := Lib.hid k6
  clear k6
  generalize k7 : decide (p.rc = q.rc) = b7 at e7 HEo
  have K7 := Lib.hid k7
  clear k7
  generalize k8 : decide (p.remarks = q.remarks) = b8 at HEo
  have K8 := Lib.hid k8
  clear k8
  generalize k9 : decide (p.seats = q.seats) = b9 at HEo
  have K9 := Lib.hid k9
  clear k9
  generalize k10 : decide (p.queued = q.queued) = b10 at e10 HEo
  have K10 := Lib.hid k10
  clear k10
  rw [e1] at f1
  rw [e2] at f2
  rw [e7] at f7
  rw [e10] at f10
  have f3 : ((nn : Int) != (nn' : Int)) = !decide (nn = nn') := by rw [Bool.eq_iff_iff]; simp; omega
  have f4 : ((ng : Int) != (ng' : Int)) = !decide (ng = ng') := by rw [Bool.eq_iff_iff]; simp; omega
  have f9 : ((ne : Int) != (ne' : Int)) = !decide (ne = ne') := by rw [Bool.eq_iff_iff]; simp; omega
  generalize k3 : decide (nn = nn') = c3 at f3
  generalize k4 : decide (ng = ng') = c4 at f4
  generalize k9 : decide (ne = ne') = c9 at f9
  have C3 := Lib.hid k3
  have C4 := Lib.hid k4
  have C9 := Lib.hid k9
  clear k3 k4 k9
  have HE := Lib.hid HEo
  clear HEo
  have tok1 : True := trivial
  obtain rfl : b1 = true := K1.out.symm.trans vb1
  obtain rfl : b2 = false := K2.out.symm.trans vb2
  clear vb1 vb2
  go_enter Tryz.func10, Tryz.ntmps10
  go_wp2
  go_ret
  exact ⟨ret_bool (by rw [HE.out]; simp), hS.B⟩
set_option maxRecDepth 100000 in
set_option maxHeartbeats 8000000 in
theorem rsame_2 (p q : Pnr) (h g : Hd) (w : World) (lo hi lo' hi' : Nat) (hp : PAt w lo hi p h) (hq : PAt w lo' hi' q g) (hs : Small h) (hs' : Small g) (hhi : hi ≤ w.heap.size) (hhi' : hi' ≤ w.heap.size) (vb1 : decide (p.loc = q.loc) = true) (vb2 : decide (p.off = q.off) = true) (vb6 : decide (p.tik = q.tik) = false) :
    Calls Tryz.prog 10 #[.agg #[.string p.loc, .string p.off, .slice h.an h.nn h.cn, .slice h.ag h.ng h.cg, .slice h.ap h.np h.cp, .int .i64 p.tik.kind, .int .i64 p.tik.day, .int .i64 p.tik.min, .string p.rc, .slice h.ar h.nr h.cr, .slice h.ae h.ne h.ce, .bool p.queued], .agg #[.string q.loc, .string q.off, .slice g.an g.nn g.cn, .slice g.ag g.ng g.cg, .slice g.ap g.np g.cp, .int .i64 q.tik.kind, .int .i64 q.tik.day, .int .i64 q.tik.min, .string q.rc, .slice g.ar g.nr g.cr, .slice g.ae g.ne g.ce, .bool q.queued]] w (RetB w (decide (p = q))) := by
  have HP := Lib.hid hp
  have HQ := Lib.hid hq
  clear hp hq
  obtain ⟨sn, sg, sp, sr, se⟩ := hs
  obtain ⟨sn', sg', sp', sr', se'⟩ := hs'
  obtain ⟨an, nn, cn, ag, ng, cg, ap, np, cp, ar, nr, cr, ae, ne, ce⟩ := h
  obtain ⟨an', nn', cn', ag', ng', cg', ap', np', cp', ar', nr', cr', ae', ne', ce'⟩ := g
  dsimp only at sn sg sp sr se sn' sg' sp' sr' se'
  dsimp only
  have L3 := Lib.hid HP.out.names.len
  have L4 := Lib.hid HP.out.segs.len
  have L9 := Lib.hid HP.out.seats.len
  have M3 := Lib.hid HQ.out.names.len
  have M4 := Lib.hid HQ.out.segs.len
  have M9 := Lib.hid HQ.out.seats.len
  dsimp only at L3 L4 L9 M3 M4 M9
  have hS := SW2.start w p q (Hd.mk an nn cn ag ng cg ap np cp ar nr cr ae ne ce) (Hd.mk an' nn' cn' ag' ng' cg' ap' np' cp' ar' nr' cr' ae' ne' ce') 29
  dsimp only at hS
  have HEo := pnr_eq p q
  have e1 := eqL p.loc q.loc
  have e2 := eqL p.off q.off
  have e7 := eqL p.rc q.rc
  have e6 := fun u => neq_ticket p.tik.kind q.tik.kind p.tik.day q.tik.day p.tik.min q.tik.min u
  have t6 : (decide (p.tik.kind = q.tik.kind) && (decide (p.tik.day = q.tik.day) && decide (p.tik.min = q.tik.min))) = decide (p.tik = q.tik) := by
    rw [Bool.eq_iff_iff]; cases p.tik; cases q.tik; simp
  rw [t6] at e6
  clear t6
  have e10 := eqB p.queued q.queued
  have f1 : (p.loc.toList != q.loc.toList) = !(p.loc.toList == q.loc.toList) := rfl
  have f2 : (p.off.toList != q.off.toList) = !(p.off.toList == q.off.toList) := rfl
  have f7 : (p.rc.toList != q.rc.toList) = !(p.rc.toList == q.rc.toList) := rfl
  have f10 : (p.queued != q.queued) = !(p.queued == q.queued) := rfl
  generalize k1 : decide (p.loc = q.loc) = b1 at e1 HEo
  have K1 := Lib.hid k1
  clear k1
  generalize k2 : decide (p.off = q.off) = b2 at e2 HEo
  have K2 := Lib.hid k2
  clear k2
  generalize k3 : decide (p.names = q.names) = b3 at HEo
  have K3 := Lib.hid k3
  clear k3
  generalize k4 : decide (p.segs = q.segs) = b4 at HEo
  have K4 := Lib.hid k4
  clear k4
  generalize k5 : decide (p.phones = q.phones) = b5 at HEo
  have K5 := Lib.hid k5
  clear k5
  generalize k6 : decide (p.tik = q.tik) = b6 at e6 HEo
  have K6 := Lib.hid k6
  clear k6
  generalize k7 : decide (p.rc = q.rc) = b7 at e7 HEo
  have K7 := Lib.hid k7
  clear k7
  generalize k8 : decide (p.remarks = q.remarks) = b8 at HEo
  have K8 := Lib.hid k8
  clear k8
  generalize k9 : decide (p.seats = q.seats) = b9 at HEo
  have K9 := Lib.hid k9
  clear k9
  generalize k10 : decide (p.queued = q.queued) = b10 at e10 HEo
  have K10 := Lib.hid k10
  clear k10
  rw [e1] at f1
  rw [e2] at f2
  rw [e7] at f7
  rw [e10] at f10
  have f3 : ((nn : Int) != (nn' : Int)) = !decide (nn = nn') := by rw [Bool.eq_iff_iff]; simp; omega
  have f4 : ((ng : Int) != (ng' : Int)) = !decide (ng = ng') := by rw [Bool.eq_iff_iff]; simp; omega
  have f9 : ((ne : Int) != (ne' : Int)) = !decide (ne = ne') := by rw [Bool.eq_iff_iff]; simp; omega
  generalize k3 : decide (nn = nn') = c3 at f3
  generalize k4 : decide (ng = ng') = c4 at f4
  generalize k9 : decide (ne = ne') = c9 at f9
  have C3 := Lib.hid k3
  have C4 := Lib.hid k4
  have C9 := Lib.hid k9
  clear k3 k4 k9
  have HE := Lib.hid HEo
  clear HEo
  have tok1 : True := trivial
  obtain rfl : b1 = true := K1.out.symm.trans vb1
  obtain rfl : b2 = true := K2.out.symm.trans vb2
  obtain rfl : b6 = false := K6.out.symm.trans vb6
  clear vb1 vb2 vb6
  go_enter Tryz.func10, Tryz.ntmps10
  go_wp2
  go_ret
  exact ⟨ret_bool (by rw [HE.out]; simp), hS.B⟩
set_option maxRecDepth 100000 in
set_option maxHeartbeats 8000000 in
theorem rsame_3 (p q : Pnr) (h g : Hd) (w : World) (lo hi lo' hi' : Nat) (hp : PAt w lo hi p h) (hq : PAt w lo' hi' q g) (hs : Small h) (hs' : Small g) (hhi : hi ≤ w.heap.size) (hhi' : hi' ≤ w.heap.size) (vb1 : decide (p.loc = q.loc) = true) (vb2 : decide (p.off = q.off) = true) (vb6 : decide (p.tik = q.tik) = true) (vb7 : decide (p.rc = q.rc) = false) :
    Calls Tryz.prog 10 #[.agg #[.string p.loc, .string p.off, .slice h.an h.nn h.cn, .slice h.ag h.ng h.cg, .slice h.ap h.np h.cp, .int .i64 p.tik.kind, .int .i64 p.tik.day, .int .i64 p.tik.min, .string p.rc, .slice h.ar h.nr h.cr, .slice h.ae h.ne h.ce, .bool p.queued], .agg #[.string q.loc, .string q.off, .slice g.an g.nn g.cn, .slice g.ag g.ng g.cg, .slice g.ap g.np g.cp, .int .i64 q.tik.kind, .int .i64 q.tik.day, .int .i64 q.tik.min, .string q.rc, .slice g.ar g.nr g.cr, .slice g.ae g.ne g.ce, .bool q.queued]] w (RetB w (decide (p = q))) := by
  have HP := Lib.hid hp
  have HQ := Lib.hid hq
  clear hp hq
  obtain ⟨sn, sg, sp, sr, se⟩ := hs
  obtain ⟨sn', sg', sp', sr', se'⟩ := hs'
  obtain ⟨an, nn, cn, ag, ng, cg, ap, np, cp, ar, nr, cr, ae, ne, ce⟩ := h
  obtain ⟨an', nn', cn', ag', ng', cg', ap', np', cp', ar', nr', cr', ae', ne', ce'⟩ := g
  dsimp only at sn sg sp sr se sn' sg' sp' sr' se'
  dsimp only
  have L3 := Lib.hid HP.out.names.len
  have L4 := Lib.hid HP.out.segs.len
  have L9 := Lib.hid HP.out.seats.len
  have M3 := Lib.hid HQ.out.names.len
  have M4 := Lib.hid HQ.out.segs.len
  have M9 := Lib.hid HQ.out.seats.len
  dsimp only at L3 L4 L9 M3 M4 M9
  have hS := SW2.start w p q (Hd.mk an nn cn ag ng cg ap np cp ar nr cr ae ne ce) (Hd.mk an' nn' cn' ag' ng' cg' ap' np' cp' ar' nr' cr' ae' ne' ce') 29
  dsimp only at hS
  have HEo := pnr_eq p q
  have e1 := eqL p.loc q.loc
  have e2 := eqL p.off q.off
  have e7 := eqL p.rc q.rc
  have e6 := fun u => neq_ticket p.tik.kind q.tik.kind p.tik.day q.tik.day p.tik.min q.tik.min u
  have t6 : (decide (p.tik.kind = q.tik.kind) && (decide (p.tik.day = q.tik.day) && decide (p.tik.min = q.tik.min))) = decide (p.tik = q.tik) := by
    rw [Bool.eq_iff_iff]; cases p.tik; cases q.tik; simp
  rw [t6] at e6
  clear t6
  have e10 := eqB p.queued q.queued
  have f1 : (p.loc.toList != q.loc.toList) = !(p.loc.toList == q.loc.toList) := rfl
  have f2 : (p.off.toList != q.off.toList) = !(p.off.toList == q.off.toList) := rfl
  have f7 : (p.rc.toList != q.rc.toList) = !(p.rc.toList == q.rc.toList) := rfl
  have f10 : (p.queued != q.queued) = !(p.queued == q.queued) := rfl
  generalize k1 : decide (p.loc = q.loc) = b1 at e1 HEo
  have K1 := Lib.hid k1
  clear k1
  generalize k2 : decide (p.off = q.off) = b2 at e2 HEo
  have K2 := Lib.hid k2
  clear k2
  generalize k3 : decide (p.names = q.names) = b3 at HEo
  have K3 := Lib.hid k3
  clear k3
  generalize k4 : decide (p.segs = q.segs) = b4 at HEo
  have K4 := Lib.hid k4
  clear k4
  generalize k5 : decide (p.phones = q.phones) = b5 at HEo
  have K5 := Lib.hid k5
  clear k5
  generalize k6 : decide (p.tik = q.tik) = b6 at e6 HEo
  have K6 := Lib.hid k6
  clear k6
  generalize k7 : decide (p.rc = q.rc) = b7 at e7 HEo
  have K7 := Lib.hid k7
  clear k7
  generalize k8 : decide (p.remarks = q.remarks) = b8 at HEo
  have K8 := Lib.hid k8
  clear k8
  generalize k9 : decide (p.seats = q.seats) = b9 at HEo
  have K9 := Lib.hid k9
  clear k9
  generalize k10 : decide (p.queued = q.queued) = b10 at e10 HEo
  have K10 := Lib.hid k10
  clear k10
  rw [e1] at f1
  rw [e2] at f2
  rw [e7] at f7
  rw [e10] at f10
  have f3 : ((nn : Int) != (nn' : Int)) = !decide (nn = nn') := by rw [Bool.eq_iff_iff]; simp; omega
  have f4 : ((ng : Int) != (ng' : Int)) = !decide (ng = ng') := by rw [Bool.eq_iff_iff]; simp; omega
  have f9 : ((ne : Int) != (ne' : Int)) = !decide (ne = ne') := by rw [Bool.eq_iff_iff]; simp; omega
  generalize k3 : decide (nn = nn') = c3 at f3
  generalize k4 : decide (ng = ng') = c4 at f4
  generalize k9 : decide (ne = ne') = c9 at f9
  have C3 := Lib.hid k3
  have C4 := Lib.hid k4
  have C9 := Lib.hid k9
  clear k3 k4 k9
  have HE := Lib.hid HEo
  clear HEo
  have tok1 : True := trivial
  obtain rfl : b1 = true := K1.out.symm.trans vb1
  obtain rfl : b2 = true := K2.out.symm.trans vb2
  obtain rfl : b6 = true := K6.out.symm.trans vb6
  obtain rfl : b7 = false := K7.out.symm.trans vb7
  clear vb1 vb2 vb6 vb7
  go_enter Tryz.func10, Tryz.ntmps10
  go_wp2
  go_ret
  exact ⟨ret_bool (by rw [HE.out]; simp), hS.B⟩
set_option maxRecDepth 100000 in
set_option maxHeartbeats 8000000 in
theorem rsame_4 (p q : Pnr) (h g : Hd) (w : World) (lo hi lo' hi' : Nat) (hp : PAt w lo hi p h) (hq : PAt w lo' hi' q g) (hs : Small h) (hs' : Small g) (hhi : hi ≤ w.heap.size) (hhi' : hi' ≤ w.heap.size) (vb1 : decide (p.loc = q.loc) = true) (vb2 : decide (p.off = q.off) = true) (vb6 : decide (p.tik = q.tik) = true) (vb7 : decide (p.rc = q.rc) = true) (vb10 : decide (p.queued = q.queued) = false) :
    Calls Tryz.prog 10 #[.agg #[.string p.loc, .string p.off, .slice h.an h.nn h.cn, .slice h.ag h.ng h.cg, .slice h.ap h.np h.cp, .int .i64 p.tik.kind, .int .i64 p.tik.day, .int .i64 p.tik.min, .string p.rc, .slice h.ar h.nr h.cr, .slice h.ae h.ne h.ce, .bool p.queued], .agg #[.string q.loc, .string q.off, .slice g.an g.nn g.cn, .slice g.ag g.ng g.cg, .slice g.ap g.np g.cp, .int .i64 q.tik.kind, .int .i64 q.tik.day, .int .i64 q.tik.min, .string q.rc, .slice g.ar g.nr g.cr, .slice g.ae g.ne g.ce, .bool q.queued]] w (RetB w (decide (p = q))) := by
  have HP := Lib.hid hp
  have HQ := Lib.hid hq
  clear hp hq
  obtain ⟨sn, sg, sp, sr, se⟩ := hs
  obtain ⟨sn', sg', sp', sr', se'⟩ := hs'
  obtain ⟨an, nn, cn, ag, ng, cg, ap, np, cp, ar, nr, cr, ae, ne, ce⟩ := h
  obtain ⟨an', nn', cn', ag', ng', cg', ap', np', cp', ar', nr', cr', ae', ne', ce'⟩ := g
  dsimp only at sn sg sp sr se sn' sg' sp' sr' se'
  dsimp only
  have L3 := Lib.hid HP.out.names.len
  have L4 := Lib.hid HP.out.segs.len
  have L9 := Lib.hid HP.out.seats.len
  have M3 := Lib.hid HQ.out.names.len
  have M4 := Lib.hid HQ.out.segs.len
  have M9 := Lib.hid HQ.out.seats.len
  dsimp only at L3 L4 L9 M3 M4 M9
  have hS := SW2.start w p q (Hd.mk an nn cn ag ng cg ap np cp ar nr cr ae ne ce) (Hd.mk an' nn' cn' ag' ng' cg' ap' np' cp' ar' nr' cr' ae' ne' ce') 29
  dsimp only at hS
  have HEo := pnr_eq p q
  have e1 := eqL p.loc q.loc
  have e2 := eqL p.off q.off
  have e7 := eqL p.rc q.rc
  have e6 := fun u => neq_ticket p.tik.kind q.tik.kind p.tik.day q.tik.day p.tik.min q.tik.min u
  have t6 : (decide (p.tik.kind = q.tik.kind) && (decide (p.tik.day = q.tik.day) && decide (p.tik.min = q.tik.min))) = decide (p.tik = q.tik) := by
    rw [Bool.eq_iff_iff]; cases p.tik; cases q.tik; simp
  rw [t6] at e6
  clear t6
  have e10 := eqB p.queued q.queued
  have f1 : (p.loc.toList != q.loc.toList) = !(p.loc.toList == q.loc.toList) := rfl
  have f2 : (p.off.toList != q.off.toList) = !(p.off.toList == q.off.toList) := rfl
  have f7 : (p.rc.toList != q.rc.toList) = !(p.rc.toList == q.rc.toList) := rfl
  have f10 : (p.queued != q.queued) = !(p.queued == q.queued) := rfl
  generalize k1 : decide (p.loc = q.loc) = b1 at e1 HEo
  have K1 := Lib.hid k1
  clear k1
  generalize k2 : decide (p.off = q.off) = b2 at e2 HEo
  have K2 := Lib.hid k2
  clear k2
  generalize k3 : decide (p.names = q.names) = b3 at HEo
  have K3 := Lib.hid k3
  clear k3
  generalize k4 : decide (p.segs = q.segs) = b4 at HEo
  have K4 := Lib.hid k4
  clear k4
  generalize k5 : decide (p.phones = q.phones) = b5 at HEo
  have K5 := Lib.hid k5
  clear k5
  generalize k6 : decide (p.tik = q.tik) = b6 at e6 HEo
  have K6 := Lib.hid k6
  clear k6
  generalize k7 : decide (p.rc = q.rc) = b7 at e7 HEo
  have K7 := Lib.hid k7
  clear k7
  generalize k8 : decide (p.remarks = q.remarks) = b8 at HEo
  have K8 := Lib.hid k8
  clear k8
  generalize k9 : decide (p.seats = q.seats) = b9 at HEo
  have K9 := Lib.hid k9
  clear k9
  generalize k10 : decide (p.queued = q.queued) = b10 at e10 HEo
  have K10 := Lib.hid k10
  clear k10
  rw [e1] at f1
  rw [e2] at f2
  rw [e7] at f7
  rw [e10] at f10
  have f3 : ((nn : Int) != (nn' : Int)) = !decide (nn = nn') := by rw [Bool.eq_iff_iff]; simp; omega
  have f4 : ((ng : Int) != (ng' : Int)) = !decide (ng = ng') := by rw [Bool.eq_iff_iff]; simp; omega
  have f9 : ((ne : Int) != (ne' : Int)) = !decide (ne = ne') := by rw [Bool.eq_iff_iff]; simp; omega
  generalize k3 : decide (nn = nn') = c3 at f3
  generalize k4 : decide (ng = ng') = c4 at f4
  generalize k9 : decide (ne = ne') = c9 at f9
  have C3 := Lib.hid k3
  have C4 := Lib.hid k4
  have C9 := Lib.hid k9
  clear k3 k4 k9
  have HE := Lib.hid HEo
  clear HEo
  have tok1 : True := trivial
  obtain rfl : b1 = true := K1.out.symm.trans vb1
  obtain rfl : b2 = true := K2.out.symm.trans vb2
  obtain rfl : b6 = true := K6.out.symm.trans vb6
  obtain rfl : b7 = true := K7.out.symm.trans vb7
  obtain rfl : b10 = false := K10.out.symm.trans vb10
  clear vb1 vb2 vb6 vb7 vb10
  go_enter Tryz.func10, Tryz.ntmps10
  go_wp2
  go_ret
  exact ⟨ret_bool (by rw [HE.out]; simp), hS.B⟩
end Go.Proofs.YtpgeoahlhdifoaaGreatDoor
