/- The program's copy of a PNR. -/
import Derived.Test.YtpgeoahlhdifoaaGreatDoorMOwnp
import Derived.Deep.RegionLaw
import Derived.Deep.DeepCutAuto
namespace Go.Proofs.YtpgeoahlhdifoaaGreatDoor
set_option linter.unusedVariables false
open Go Go.RowKit
attribute [local go_sem ↓] Go.wp_at_zero Go.wp_at_succ
/-- A PNR in a box, and the block of the result. -/
structure FC (w : World) (pc rc : Array Value) (W : World) : Prop where
  B : Below w.heap.size w W
  r1 : Bx W w.heap.size pc 29
  r2 : Bx W (w.heap.size + 1) rc 29
section
variable {w W W1 : World} {pc rc : Array Value}
theorem FC.start (w : World) (pc rc : Array Value) : FC w pc rc ((w.alloc (.cells pc 29)).alloc (.cells rc 29)) :=
  ⟨((Below.refl _ _).alloc (Nat.le_refl _) _).alloc (by simp) _, (Bx.new _ _ _).alloc _, by have := Bx.new (w.alloc (.cells pc 29)) rc 29; rw [World.size_alloc] at this; exact this⟩
theorem FC.z (H : FC w pc rc W) : w.heap.size + 1 < W.heap.size := H.r2.lt
theorem FC.step (H : FC w pc rc W) (hb : Below W.heap.size W W1) : FC w pc rc W1 :=
  ⟨H.B.trans (hb.mono (by have := H.z; omega)), H.r1.below hb H.r1.lt, H.r2.below hb H.r2.lt⟩
theorem FC.drew (H : FC w pc rc W) : FC w pc rc W.drew := H.step (below_drewN (Below.refl _ _) 1)
theorem FC.put1 (H : FC w pc rc W) (i : Nat) (u : Value) : FC w (pc.setIfInBounds i u) rc (W.setCell ⟨w.heap.size, i, none⟩ u) :=
  ⟨H.B.setCell (Nat.le_refl _) _, H.r1.put i u, H.r2.other (by simp) u⟩
theorem FC.put2 (H : FC w pc rc W) (cs : Array Value) : FC w pc cs (W.setRow (w.heap.size + 1) cs) :=
  ⟨below_setRow H.B (by omega) _, H.r1.rowOther (by omega) _, H.r2.row cs⟩
theorem FC.c1 (H : FC w pc rc W) : ∀ i, W.cell? ⟨w.heap.size, i, none⟩ = pc[i]? := H.r1.cells
theorem FC.f1 (H : FC w pc rc W) : ∀ i, W.frozen? ⟨w.heap.size, i, none⟩ = false := H.r1.free
end
theorem results_cell1 {fn : Func} {p : Tmp} {ty : TypeId} (h : fn.results = #[.cell p ty]) (tmps : Array Value) (P : Program) (w : World) :
    (results fn tmps).run P w = ((asAddr (tmps.getD p undef)).run P w).andThen fun a w₁ => (loadVar ty a).run P w₁ := by
  simp only [results, h]
  simp [Sem.run_bind, Result.andThen]
theorem results_cell_two {fn : Func} {p u v : Tmp} {ty : TypeId} (h : fn.results = #[.cell p ty, .tmp u, .tmp v]) (tmps : Array Value) (P : Program) (w : World) :
    (results fn tmps).run P w = ((asAddr (tmps.getD p undef)).run P w).andThen fun a w₁ => ((loadVar ty a).run P w₁).andThen fun x w₂ => .ok (.tuple #[x, tmps.getD u undef, tmps.getD v undef]) w₂ := by
  simp only [results, h]
  simp [Sem.run_bind, Result.andThen]
theorem ret_c1 {fn : Func} {p : Tmp} (h : fn.results = #[.cell p 29]) {R : Ending → World → Prop} {a : Act} {w : World} {g : Nat} {cs : Array Value}
    (hr : Bx w g cs 29) (hs : cs.size = 12) (hp : a.tmps.getD p undef = .pointer (some ⟨g, 0, none⟩)) (hd : a.defers = []) (hR : R (.returned (.agg cs)) w) : bodyPost Tryz.prog fn R .ret a w := by
  refine bodyPost_ret (v := .agg cs) ?_ hd hR
  rw [results_cell1 h, hp]
  have hl := run_loadVar_row (P := Tryz.prog) w g 29 29 cs (0, 0) _ hr Tryz.underlying29 rfl (by rw [hs]; exact info_pnr)
  simp [asAddr, hl, Result.andThen]
/-- The end of a call that hands back a PNR out of its block, and two numbers. -/
theorem ret_cuv {fn : Func} {p u v : Tmp} (h : fn.results = #[.cell p 29, .tmp u, .tmp v]) {R : Ending → World → Prop} {a : Act} {w : World} {g : Nat} {cs : Array Value} {x y : Value}
    (hr : Bx w g cs 29) (hs : cs.size = 12) (hp : a.tmps.getD p undef = .pointer (some ⟨g, 0, none⟩)) (hx : a.tmps.getD u undef = x) (hy : a.tmps.getD v undef = y) (hd : a.defers = []) (hR : R (.returned (.tuple #[.agg cs, x, y])) w) : bodyPost Tryz.prog fn R .ret a w := by
  refine bodyPost_ret (v := .tuple #[.agg cs, x, y]) ?_ hd hR
  rw [results_cell_two h, hp]
  have hl := run_loadVar_row (P := Tryz.prog) w g 29 29 cs (0, 0) _ hr Tryz.underlying29 rfl (by rw [hs]; exact info_pnr)
  simp [asAddr, hl, hx, hy, Result.andThen]
/-- A row that was made later lies elsewhere. -/
theorem df_later {α β : Type} {T : Ty α} {T' : Ty β} {E E' : TypeId} {W W' : World} {B : Nat} {A A' : Option Addr} {n c n' c' : Nat} {l : List α} {l' : List β} (h : Own W B E T (.slice A n c) l) (h' : Own W' W.heap.size E' T' (.slice A' n' c') l') : Df A A' := by
  intro x y hx hy e
  have h1 := (h.bk_lt x.block (by rw [hx]; rfl)).2
  have h2 := (h'.bk_lt y.block (by rw [hy]; rfl)).1
  omega
set_option maxRecDepth 100000 in
set_option maxHeartbeats 4000000 in
theorem copied_any (p : Pnr) (h : Hd) (w : World) (S : Nat → Prop) (hp : PS w S p h) (hS : ∀ b, S b → b < w.heap.size) (hs : p.small 100000) :
    Calls Tryz.prog 48 #[.agg #[.string p.loc, .string p.off, .slice h.an h.nn h.cn, .slice h.ag h.ng h.cg, .slice h.ap h.np h.cp, .int .i64 p.tik.kind, .int .i64 p.tik.day, .int .i64 p.tik.min, .string p.rc, .slice h.ar h.nr h.cr, .slice h.ae h.ne h.ce, .bool p.queued]] w (fun e w' => ∃ h', e = .returned (.agg #[.string p.loc, .string p.off, .slice h'.an h'.nn h'.cn, .slice h'.ag h'.ng h'.cg, .slice h'.ap h'.np h'.cp, .int .i64 p.tik.kind, .int .i64 p.tik.day, .int .i64 p.tik.min, .string p.rc, .slice h'.ar h'.nr h'.cr, .slice h'.ae h'.ne h'.ce, .bool p.queued]) ∧ OP w' w.heap.size p h' ∧ Ap h' ∧ Below w.heap.size w w') := by
  have HP := Lib.hid (hp.old hS)
  have HS := Lib.hid (hs.hd (hp.old hS))
  have HC := Lib.hid hp.caps
  clear hp hS hs
  obtain ⟨an, nn, cn, ag, ng, cg, ap, np, cp, ar, nr, cr, ae, ne, ce⟩ := h
  have hF := FC.start w #[.string p.loc, .string p.off, .slice an nn cn, .slice ag ng cg, .slice ap np cp, .int .i64 p.tik.kind, .int .i64 p.tik.day, .int .i64 p.tik.min, .string p.rc, .slice ar nr cr, .slice ae ne ce, .bool p.queued] zc
  unfold zc at hF
  dsimp only
  obtain ⟨s1, s2, s3, s4, s5⟩ := HS.out
  dsimp only at s1 s2 s3 s4 s5
  go_enter Tryz.func48, Tryz.ntmps48
  go_upto_region 1 with fail
  refine wp_world (FC w #[.string p.loc, .string p.off, .slice an nn cn, .slice ag ng cg, .slice ap np cp, .int .i64 p.tik.kind, .int .i64 p.tik.day, .int .i64 p.tik.min, .string p.rc, .slice ar nr cr, .slice ae ne ce, .bool p.queued] #[.string ⟨#[]⟩, .string ⟨#[]⟩, .slice none 0 0, .slice none 0 0, .slice none 0 0, .int .i64 0, .int .i64 0, .int .i64 0, .string ⟨#[]⟩, .slice none 0 0, .slice none 0 0, .bool false]) hF ?_
  clear hF
  intro W hF
  have x1 := hF.c1
  have x2 := hF.f1
  have z1 := hF.z
  have z0 : w.heap.size < W.heap.size := by omega
  go_cut [14] (fun _ w' => ∃ A1 c1 A2 c2 A3 c3, FC w #[.string p.loc, .string p.off, .slice A1 p.names.length c1, .slice A2 p.segs.length c2, .slice A3 p.phones.length c3, .int .i64 p.tik.kind, .int .i64 p.tik.day, .int .i64 p.tik.min, .string p.rc, .slice ar nr cr, .slice ae ne ce, .bool p.queued] #[.string ⟨#[]⟩, .string ⟨#[]⟩, .slice none 0 0, .slice none 0 0, .slice none 0 0, .int .i64 0, .int .i64 0, .int .i64 0, .string ⟨#[]⟩, .slice none 0 0, .slice none 0 0, .bool false] w' ∧ Own w' (w.heap.size + 1 + 1) 40 tNam (.slice A1 p.names.length c1) p.names ∧ Own w' (w.heap.size + 1 + 1) 46 tSeg (.slice A2 p.segs.length c2) p.segs ∧ Own w' (w.heap.size + 1 + 1) 9 tStr (.slice A3 p.phones.length c3) p.phones ∧ Df A1 A2 ∧ Df A1 A3 ∧ Df A2 A3)
  case first =>
    go_region_law (first
      | (go_simp; go_at_call 58; refine (clone_nam p.names an nn cn _ 0 w.heap.size (HP.out.below hF.drew.B (Nat.le_refl _)).names s1 (by have := hF.drew.z; omega) HC.out.an).mono ?_; rintro e w1 ⟨A1, c1, rfl, hown1, hb1⟩; have hF1 := hF.drew.step hb1; have y1 := hF1.c1; have y2 := hF1.f1; have y3 := hF1.z; have y4 : w.heap.size < w1.heap.size := (by omega))
      | (go_simp; go_at_call 59; refine (clone_seg p.segs ag ng cg _ 0 w.heap.size (HP.out.below hF1.B (Nat.le_refl _)).segs s2 (by have := hF1.z; omega) HC.out.ag).mono ?_; rintro e w2 ⟨A2, c2, rfl, hown2, hb2⟩; have hF2 := hF1.step hb2; have u1 := hF2.c1; have u2 := hF2.f1; have u3 := hF2.z; have u4 : w.heap.size < w2.heap.size := (by omega))
      | (go_simp; go_at_call 60; refine (clone_str p.phones ap np cp _ 0 w.heap.size (HP.out.below hF2.B (Nat.le_refl _)).phones s3 (by have := hF2.z; omega) HC.out.ap).mono ?_; rintro e w3 ⟨A3, c3, rfl, hown3, hb3⟩; have hF3 := hF2.step hb3; have v1 := hF3.c1; have v2 := hF3.f1; have v3 := hF3.z; have v4 : w.heap.size < w3.heap.size := (by omega)))
    all_goals
      have o1 := ((hown1.keep hb2).keep hb3).more (B' := w.heap.size + 1 + 1) (by simp; omega)
      have o2 := (hown2.keep hb3).more (B' := w.heap.size + 1 + 1) (by omega)
      have o3 := hown3.more (B' := w.heap.size + 1 + 1) (by omega)
      have d12 : Df A1 A2 := df_later hown1 hown2
      have d13 : Df A1 A3 := df_later (hown1.keep hb2) hown3
      have d23 : Df A2 A3 := df_later hown2 hown3
      go_wp2
      go_meet
      exact ⟨A1, c1, A2, c2, A3, c3, (by first | exact (((hF3.put1 2 (.slice A1 p.names.length c1)).put1 3 (.slice A2 p.segs.length c2)).put1 4 (.slice A3 p.phones.length c3)) | exact (((hF3.put1 2 (.slice A1 p.names.length c1)).put1 4 (.slice A3 p.phones.length c3)).put1 3 (.slice A2 p.segs.length c2)) | exact (((hF3.put1 3 (.slice A2 p.segs.length c2)).put1 2 (.slice A1 p.names.length c1)).put1 4 (.slice A3 p.phones.length c3)) | exact (((hF3.put1 3 (.slice A2 p.segs.length c2)).put1 4 (.slice A3 p.phones.length c3)).put1 2 (.slice A1 p.names.length c1)) | exact (((hF3.put1 4 (.slice A3 p.phones.length c3)).put1 2 (.slice A1 p.names.length c1)).put1 3 (.slice A2 p.segs.length c2)) | exact (((hF3.put1 4 (.slice A3 p.phones.length c3)).put1 3 (.slice A2 p.segs.length c2)).put1 2 (.slice A1 p.names.length c1))), ((o1.setCell (by simp; omega) _).setCell (by simp; omega) _).setCell (by simp; omega) _, ((o2.setCell (by simp; omega) _).setCell (by simp; omega) _).setCell (by simp; omega) _, ((o3.setCell (by simp; omega) _).setCell (by simp; omega) _).setCell (by simp; omega) _, d12, d13, d23⟩
  case rest =>
  clear hF x1 x2 z1 z0
  obtain ⟨A1, c1, A2, c2, A3, c3, hF, o1, o2, o3, d12, d13, d23⟩ := hcut
  go_upto_region 2 with fail
  refine wp_world (fun W => FC w #[.string p.loc, .string p.off, .slice A1 p.names.length c1, .slice A2 p.segs.length c2, .slice A3 p.phones.length c3, .int .i64 p.tik.kind, .int .i64 p.tik.day, .int .i64 p.tik.min, .string p.rc, .slice ar nr cr, .slice ae ne ce, .bool p.queued] #[.string ⟨#[]⟩, .string ⟨#[]⟩, .slice none 0 0, .slice none 0 0, .slice none 0 0, .int .i64 0, .int .i64 0, .int .i64 0, .string ⟨#[]⟩, .slice none 0 0, .slice none 0 0, .bool false] W ∧ Own W (w.heap.size + 1 + 1) 40 tNam (.slice A1 p.names.length c1) p.names ∧ Own W (w.heap.size + 1 + 1) 46 tSeg (.slice A2 p.segs.length c2) p.segs ∧ Own W (w.heap.size + 1 + 1) 9 tStr (.slice A3 p.phones.length c3) p.phones) ⟨hF, o1, o2, o3⟩ ?_
  clear hF o1 o2 o3
  rintro V ⟨hF, o1, o2, o3⟩
  have x1 := hF.c1
  have x2 := hF.f1
  have z1 := hF.z
  have z0 : w.heap.size < V.heap.size := by omega
  go_cut [22] (fun _ w' => ∃ A4 c4 A5 c5, FC w #[.string p.loc, .string p.off, .slice A1 p.names.length c1, .slice A2 p.segs.length c2, .slice A3 p.phones.length c3, .int .i64 p.tik.kind, .int .i64 p.tik.day, .int .i64 p.tik.min, .string p.rc, .slice A4 p.remarks.length c4, .slice A5 p.seats.length c5, .bool p.queued] #[.string ⟨#[]⟩, .string ⟨#[]⟩, .slice none 0 0, .slice none 0 0, .slice none 0 0, .int .i64 0, .int .i64 0, .int .i64 0, .string ⟨#[]⟩, .slice none 0 0, .slice none 0 0, .bool false] w' ∧ Own w' (w.heap.size + 1 + 1) 40 tNam (.slice A1 p.names.length c1) p.names ∧ Own w' (w.heap.size + 1 + 1) 46 tSeg (.slice A2 p.segs.length c2) p.segs ∧ Own w' (w.heap.size + 1 + 1) 9 tStr (.slice A3 p.phones.length c3) p.phones ∧ Own w' (w.heap.size + 1 + 1) 9 tStr (.slice A4 p.remarks.length c4) p.remarks ∧ Own w' (w.heap.size + 1 + 1) 87 tPlc (.slice A5 p.seats.length c5) p.seats ∧ Df A1 A4 ∧ Df A2 A4 ∧ Df A3 A4 ∧ Df A1 A5 ∧ Df A2 A5 ∧ Df A3 A5 ∧ Df A4 A5)
  case first =>
    go_region_law (first
      | (go_simp; go_at_call 60; refine (clone_str p.remarks ar nr cr _ 0 w.heap.size (HP.out.below hF.drew.B (Nat.le_refl _)).remarks s4 (by have := hF.drew.z; omega) HC.out.ar).mono ?_; rintro e w1 ⟨A4, c4, rfl, hown4, hb1⟩; have hF1 := hF.drew.step hb1; have y1 := hF1.c1; have y2 := hF1.f1; have y3 := hF1.z; have y4 : w.heap.size < w1.heap.size := (by omega))
      | (go_simp; go_at_call 61; refine (clone_plc p.seats ae ne ce _ 0 w.heap.size (HP.out.below hF1.B (Nat.le_refl _)).seats s5 (by have := hF1.z; omega) HC.out.ae).mono ?_; rintro e w2 ⟨A5, c5, rfl, hown5, hb2⟩; have hF2 := hF1.step hb2; have u1 := hF2.c1; have u2 := hF2.f1; have u3 := hF2.z; have u4 : w.heap.size < w2.heap.size := (by omega)))
    all_goals
      have e1 := (o1.drewN 1).keep hb1
      have e2 := (o2.drewN 1).keep hb1
      have e3 := (o3.drewN 1).keep hb1
      have k1 := e1.keep hb2
      have k2 := e2.keep hb2
      have k3 := e3.keep hb2
      have k4 := (hown4.keep hb2).more (B' := w.heap.size + 1 + 1) (by simp; omega)
      have k5 := hown5.more (B' := w.heap.size + 1 + 1) (by omega)
      have d14 : Df A1 A4 := df_later (o1.drewN 1) hown4
      have d24 : Df A2 A4 := df_later (o2.drewN 1) hown4
      have d34 : Df A3 A4 := df_later (o3.drewN 1) hown4
      have d15 : Df A1 A5 := df_later e1 hown5
      have d25 : Df A2 A5 := df_later e2 hown5
      have d35 : Df A3 A5 := df_later e3 hown5
      have d45 : Df A4 A5 := df_later hown4 hown5
      go_wp2
      go_meet
      exact ⟨A4, c4, A5, c5, (by first | exact ((hF2.put1 9 (.slice A4 p.remarks.length c4)).put1 10 (.slice A5 p.seats.length c5)) | exact ((hF2.put1 10 (.slice A5 p.seats.length c5)).put1 9 (.slice A4 p.remarks.length c4))), (k1.setCell (by simp; omega) _).setCell (by simp; omega) _, (k2.setCell (by simp; omega) _).setCell (by simp; omega) _, (k3.setCell (by simp; omega) _).setCell (by simp; omega) _, (k4.setCell (by simp; omega) _).setCell (by simp; omega) _, (k5.setCell (by simp; omega) _).setCell (by simp; omega) _, d14, d24, d34, d15, d25, d35, d45⟩
  case rest =>
  clear hF x1 x2 z1 z0 o1 o2 o3
  obtain ⟨A4, c4, A5, c5, hF, o1, o2, o3, o4, o5, d14, d24, d34, d15, d25, d35, d45⟩ := hcut
  have x1 := hF.c1
  have z1 := hF.z
  go_wp2_with (refine store_res rfl (.tmp 2) (.tmp 23) rfl #[.string p.loc, .string p.off, .slice A1 p.names.length c1, .slice A2 p.segs.length c2, .slice A3 p.phones.length c3, .int .i64 p.tik.kind, .int .i64 p.tik.day, .int .i64 p.tik.min, .string p.rc, .slice A4 p.remarks.length c4, .slice A5 p.seats.length c5, .bool p.queued] rfl rfl hF.r2 rfl rfl (by simp [Value.oneCell']) ?_)
  have hF9 := hF.put2 #[.string p.loc, .string p.off, .slice A1 p.names.length c1, .slice A2 p.segs.length c2, .slice A3 p.phones.length c3, .int .i64 p.tik.kind, .int .i64 p.tik.day, .int .i64 p.tik.min, .string p.rc, .slice A4 p.remarks.length c4, .slice A5 p.seats.length c5, .bool p.queued]
  refine ret_c1 Tryz.results48 hF9.r2 rfl rfl rfl ?_
  have hOP : OP _ (w.heap.size + 1 + 1) p (Hd.mk A1 p.names.length c1 A2 p.segs.length c2 A3 p.phones.length c3 A4 p.remarks.length c4 A5 p.seats.length c5) := ⟨HP.out.loc, HP.out.off, HP.out.rc, HP.out.tik, o1.setRow (g := w.heap.size + 1) (by omega) #[.string p.loc, .string p.off, .slice A1 p.names.length c1, .slice A2 p.segs.length c2, .slice A3 p.phones.length c3, .int .i64 p.tik.kind, .int .i64 p.tik.day, .int .i64 p.tik.min, .string p.rc, .slice A4 p.remarks.length c4, .slice A5 p.seats.length c5, .bool p.queued], o2.setRow (g := w.heap.size + 1) (by omega) #[.string p.loc, .string p.off, .slice A1 p.names.length c1, .slice A2 p.segs.length c2, .slice A3 p.phones.length c3, .int .i64 p.tik.kind, .int .i64 p.tik.day, .int .i64 p.tik.min, .string p.rc, .slice A4 p.remarks.length c4, .slice A5 p.seats.length c5, .bool p.queued], o3.setRow (g := w.heap.size + 1) (by omega) #[.string p.loc, .string p.off, .slice A1 p.names.length c1, .slice A2 p.segs.length c2, .slice A3 p.phones.length c3, .int .i64 p.tik.kind, .int .i64 p.tik.day, .int .i64 p.tik.min, .string p.rc, .slice A4 p.remarks.length c4, .slice A5 p.seats.length c5, .bool p.queued], o4.setRow (g := w.heap.size + 1) (by omega) #[.string p.loc, .string p.off, .slice A1 p.names.length c1, .slice A2 p.segs.length c2, .slice A3 p.phones.length c3, .int .i64 p.tik.kind, .int .i64 p.tik.day, .int .i64 p.tik.min, .string p.rc, .slice A4 p.remarks.length c4, .slice A5 p.seats.length c5, .bool p.queued], o5.setRow (g := w.heap.size + 1) (by omega) #[.string p.loc, .string p.off, .slice A1 p.names.length c1, .slice A2 p.segs.length c2, .slice A3 p.phones.length c3, .int .i64 p.tik.kind, .int .i64 p.tik.day, .int .i64 p.tik.min, .string p.rc, .slice A4 p.remarks.length c4, .slice A5 p.seats.length c5, .bool p.queued]⟩
  exact ⟨_, rfl, hOP.more (by omega), ⟨d12, d13, d14, d15, d23, d24, d25, d34, d35, d45⟩, hF9.B⟩
end Go.Proofs.YtpgeoahlhdifoaaGreatDoor
