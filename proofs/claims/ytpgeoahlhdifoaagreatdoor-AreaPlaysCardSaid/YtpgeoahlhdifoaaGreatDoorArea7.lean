/- Areas: another PNR. -/
import Derived.Test.YtpgeoahlhdifoaaGreatDoorArea5
namespace Go.Proofs.YtpgeoahlhdifoaaGreatDoor
set_option linter.unusedVariables false
open Go Go.RowKit
set_option maxRecDepth 100000 in
set_option maxHeartbeats 8000000 in
theorem load_do (a : Ar) (h : AH) (p : Pnr) (hp : Hd) (v : Int) (w : World) (S : Nat → Prop) (ha : AS w S a h) (hpp : PS w S p hp) (hS : ∀ b, S b → b < w.heap.size) (hs : a.small 1000) (hps : p.small 1000) (hv : okU64 v) (hno : noOne a = false) (hz : a.edits = []) :
    Calls Tryz.prog 21 #[.agg #[.string a.agent, .string a.off, .bool a.open_, .string a.base.loc, .string a.base.off, .slice h.b.an h.b.nn h.b.cn, .slice h.b.ag h.b.ng h.b.cg, .slice h.b.ap h.b.np h.b.cp, .int .i64 a.base.tik.kind, .int .i64 a.base.tik.day, .int .i64 a.base.tik.min, .string a.base.rc, .slice h.b.ar h.b.nr h.b.cr, .slice h.b.ae h.b.ne h.b.ce, .bool a.base.queued, .int .u64 a.ver, .slice h.ad h.nd h.cd, .slice h.al h.nl h.cl, .bool a.working, .int .i64 a.queue], .agg #[.string p.loc, .string p.off, .slice hp.an hp.nn hp.cn, .slice hp.ag hp.ng hp.cg, .slice hp.ap hp.np hp.cp, .int .i64 p.tik.kind, .int .i64 p.tik.day, .int .i64 p.tik.min, .string p.rc, .slice hp.ar hp.nr hp.cr, .slice hp.ae hp.ne hp.ce, .bool p.queued], .int .u64 v] w (RetA w ({ a with open_ := true, ver := v, base := p }, 0)) := by
  have hi := fun (W : World) (h1 : AS W S a h) (h2 : ∀ b, S b → b < W.heap.size) => idle_any a h W S h1 h2 hs
  rw [show idleF a = (a, 0) by unfold idleF; rw [hno, hz]; rfl] at hi
  have HI := Lib.hid hi
  have HP := Lib.hid ha
  have HQ := Lib.hid hpp
  have HB := Lib.hid hS
  clear hi ha hpp hS hs hno hz
  have hF := F3.start w (aC a h) 53 #[.string p.loc, .string p.off, .slice hp.an hp.nn hp.cn, .slice hp.ag hp.ng hp.cg, .slice hp.ap hp.np hp.cp, .int .i64 p.tik.kind, .int .i64 p.tik.day, .int .i64 p.tik.min, .string p.rc, .slice hp.ar hp.nr hp.cr, .slice hp.ae hp.ne hp.ce, .bool p.queued] 29 aZ 53
  go_enter Tryz.func21, Tryz.ntmps21
  go_wp2_with (refine load_ra rfl (.tmp 3) rfl rfl hF.r1 rfl ?_)
  refine (HI.out _ (HP.out.below hF.B HB.out) (fun b hb => by have := HB.out b hb; have := hF.z; omega)).mono ?_
  rintro en w1 ⟨h1, rfl, o1, hb1⟩
  have hF1 := hF.step hb1
  replace o1 := o1.more (B' := w.heap.size + 1 + 1 + 1) (by simp)
  clear hF hb1
  go_upto_region 2 with (refine store_ra rfl (.tmp 3) (.tmp 12) rfl (aC a h1) rfl rfl hF1.r1 rfl rfl (aC_one _ _) ?_)
  refine wp_world (fun W => F3 w (aC a h1) 53 #[.string p.loc, .string p.off, .slice hp.an hp.nn hp.cn, .slice hp.ag hp.ng hp.cg, .slice hp.ap hp.np hp.cp, .int .i64 p.tik.kind, .int .i64 p.tik.day, .int .i64 p.tik.min, .string p.rc, .slice hp.ar hp.nr hp.cr, .slice hp.ae hp.ne hp.ce, .bool p.queued] 29 aZ 53 W ∧ OA W (w.heap.size + 1 + 1 + 1) a h1) ⟨hF1.row1 _, o1.rowAt (by omega) _⟩ ?_
  clear hF1 o1
  rintro V ⟨hF, o1⟩
  have x1 := hF.x1
  try dsimp only [aC] at x1
  try dsimp only [aZ] at x1
  have y1 := hF.y1
  have z3 := hF.z
  have z1 : w.heap.size < V.heap.size := by omega
  go_upto_region 4 with fail
  refine wp_world (fun W => F3 w #[.string a.agent, .string a.off, .bool true, .string a.base.loc, .string a.base.off, .slice h1.b.an h1.b.nn h1.b.cn, .slice h1.b.ag h1.b.ng h1.b.cg, .slice h1.b.ap h1.b.np h1.b.cp, .int .i64 a.base.tik.kind, .int .i64 a.base.tik.day, .int .i64 a.base.tik.min, .string a.base.rc, .slice h1.b.ar h1.b.nr h1.b.cr, .slice h1.b.ae h1.b.ne h1.b.ce, .bool a.base.queued, .int .u64 v, .slice h1.ad h1.nd h1.cd, .slice h1.al h1.nl h1.cl, .bool a.working, .int .i64 a.queue] 53 #[.string p.loc, .string p.off, .slice hp.an hp.nn hp.cn, .slice hp.ag hp.ng hp.cg, .slice hp.ap hp.np hp.cp, .int .i64 p.tik.kind, .int .i64 p.tik.day, .int .i64 p.tik.min, .string p.rc, .slice hp.ar hp.nr hp.cr, .slice hp.ae hp.ne hp.ce, .bool p.queued] 29 aZ 53 W ∧ OA W (w.heap.size + 1 + 1 + 1) a h1) ⟨(hF.put1 2 (.bool true)).put1 15 (.int .u64 v), (o1.cell (by simp; omega) _).cell (by simp; omega) _⟩ ?_
  clear x1 y1 z3 z1 hF o1
  rintro V2 ⟨hF, o1⟩
  have x2 := hF.x2
  try dsimp only [aC] at x2
  try dsimp only [aZ] at x2
  have z3 := hF.z
  have z2 : w.heap.size + 1 < V2.heap.size := by omega
  go_wp2_with fail
  refine (pfold_any p hp [] none 0 0 _ S 0 0 (HQ.out.below hF.B HB.out) (fun b hb => by have := HB.out b hb; omega) hps (Sl.nil_ none) (by omega) (Nat.zero_le _)).mono ?_
  rintro en w2 ⟨h2, rfl, o2, hb2⟩
  have hF2 := hF.step hb2
  have o3 := o1.keep hb2
  replace o2 : OP w2 (w.heap.size + 1 + 1 + 1) p h2 := o2.more (by omega)
  clear hF o1 x2 hb2
  go_upto_region 5 with (refine store_mid rfl (.tmp 25) (.tmp 22) rfl #[.string p.loc, .string p.off, .slice h2.an h2.nn h2.cn, .slice h2.ag h2.ng h2.cg, .slice h2.ap h2.np h2.cp, .int .i64 p.tik.kind, .int .i64 p.tik.day, .int .i64 p.tik.min, .string p.rc, .slice h2.ar h2.nr h2.cr, .slice h2.ae h2.ne h2.ce, .bool p.queued] #[.string a.agent, .string a.off, .bool true, .string p.loc, .string p.off, .slice h2.an h2.nn h2.cn, .slice h2.ag h2.ng h2.cg, .slice h2.ap h2.np h2.cp, .int .i64 p.tik.kind, .int .i64 p.tik.day, .int .i64 p.tik.min, .string p.rc, .slice h2.ar h2.nr h2.cr, .slice h2.ae h2.ne h2.ce, .bool p.queued, .int .u64 v, .slice h1.ad h1.nd h1.cd, .slice h1.al h1.nl h1.cl, .bool a.working, .int .i64 a.queue] rfl rfl hF2.r1 info_pnr (by show 3 + 12 ≤ 20; omega) (by simp [Value.oneCell']) lay12 ?_)
  refine wp_world (fun W => F3 w #[.string a.agent, .string a.off, .bool true, .string p.loc, .string p.off, .slice h2.an h2.nn h2.cn, .slice h2.ag h2.ng h2.cg, .slice h2.ap h2.np h2.cp, .int .i64 p.tik.kind, .int .i64 p.tik.day, .int .i64 p.tik.min, .string p.rc, .slice h2.ar h2.nr h2.cr, .slice h2.ae h2.ne h2.ce, .bool p.queued, .int .u64 v, .slice h1.ad h1.nd h1.cd, .slice h1.al h1.nl h1.cl, .bool a.working, .int .i64 a.queue] 53 #[.string p.loc, .string p.off, .slice hp.an hp.nn hp.cn, .slice hp.ag hp.ng hp.cg, .slice hp.ap hp.np hp.cp, .int .i64 p.tik.kind, .int .i64 p.tik.day, .int .i64 p.tik.min, .string p.rc, .slice hp.ar hp.nr hp.cr, .slice hp.ae hp.ne hp.ce, .bool p.queued] 29 aZ 53 W ∧ OA W (w.heap.size + 1 + 1 + 1) { a with open_ := true, ver := v, base := p } (AH.mk h2 h1.ad h1.nd h1.cd h1.al h1.nl h1.cl)) ⟨hF2.row1 _, OA.rowAt (a := { a with open_ := true, ver := v, base := p }) (h := (AH.mk h2 h1.ad h1.nd h1.cd h1.al h1.nl h1.cl)) ⟨o3.agent, o3.off, hv, o3.queue, o2, o3.edits, o3.legs⟩ (by omega) _⟩ ?_
  clear hF2 o3 o2 z3 z2
  rintro V3 ⟨hF, o⟩
  have x1 := hF.x1
  try dsimp only [aC] at x1
  try dsimp only [aZ] at x1
  have z3 := hF.z
  have z1 : w.heap.size < V3.heap.size := by omega
  go_wp2_with (first | (refine load_ra rfl (.tmp 3) rfl rfl hF.r1 rfl ?_) | refine store_ra rfl (.tmp 6) (.tmp 26) rfl #[.string a.agent, .string a.off, .bool true, .string p.loc, .string p.off, .slice h2.an h2.nn h2.cn, .slice h2.ag h2.ng h2.cg, .slice h2.ap h2.np h2.cp, .int .i64 p.tik.kind, .int .i64 p.tik.day, .int .i64 p.tik.min, .string p.rc, .slice h2.ar h2.nr h2.cr, .slice h2.ae h2.ne h2.ce, .bool p.queued, .int .u64 v, .slice h1.ad h1.nd h1.cd, .slice h1.al h1.nl h1.cl, .bool a.working, .int .i64 a.queue] rfl rfl hF.r3 rfl rfl (by simp [Value.oneCell']) ?_)
  have hF9 := hF.row3 #[.string a.agent, .string a.off, .bool true, .string p.loc, .string p.off, .slice h2.an h2.nn h2.cn, .slice h2.ag h2.ng h2.cg, .slice h2.ap h2.np h2.cp, .int .i64 p.tik.kind, .int .i64 p.tik.day, .int .i64 p.tik.min, .string p.rc, .slice h2.ar h2.nr h2.cr, .slice h2.ae h2.ne h2.ce, .bool p.queued, .int .u64 v, .slice h1.ad h1.nd h1.cd, .slice h1.al h1.nl h1.cl, .bool a.working, .int .i64 a.queue]
  refine ret_at Tryz.results21 hF9.r3 rfl rfl rfl rfl ?_
  exact RetA.mk' (a := { a with open_ := true, ver := v, base := p }) (h' := (AH.mk h2 h1.ad h1.nd h1.cd h1.al h1.nl h1.cl)) rfl ((o.rowAt (by omega) _).more (by omega)) hF9.B
end Go.Proofs.YtpgeoahlhdifoaaGreatDoor
