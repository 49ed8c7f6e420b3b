/- Areas: frames; a copy; who has signed in. -/
import Derived.Test.YtpgeoahlhdifoaaGreatDoorArea2
import Derived.Test.YtpgeoahlhdifoaaGreatDoorClone2
import Derived.Deep.RegionLaw
import Derived.Deep.DeepCutAuto
namespace Go.Proofs.YtpgeoahlhdifoaaGreatDoor
set_option linter.unusedVariables false
open Go Go.RowKit
/-- Two (three) boxes of the call's own. -/
structure F2 (w : World) (c1 : Array Value) (t1 : TypeId) (c2 : Array Value) (t2 : TypeId) (W : World) : Prop where
  B : Below w.heap.size w W
  r1 : Bx W w.heap.size c1 t1
  r2 : Bx W (w.heap.size + 1) c2 t2
structure F3 (w : World) (c1 : Array Value) (t1 : TypeId) (c2 : Array Value) (t2 : TypeId) (c3 : Array Value) (t3 : TypeId) (W : World) : Prop where
  B : Below w.heap.size w W
  r1 : Bx W w.heap.size c1 t1
  r2 : Bx W (w.heap.size + 1) c2 t2
  r3 : Bx W (w.heap.size + 1 + 1) c3 t3
section
variable {w W W1 : World} {c1 c2 c3 : Array Value} {t1 t2 t3 : TypeId}
theorem F2.start (w : World) (c1 : Array Value) (t1 : TypeId) (c2 : Array Value) (t2 : TypeId) : F2 w c1 t1 c2 t2 ((w.alloc (.cells c1 t1)).alloc (.cells c2 t2)) :=
  ⟨((Below.refl _ _).alloc (Nat.le_refl _) _).alloc (by simp) _, (Bx.new _ _ _).alloc _, by have := Bx.new (w.alloc (.cells c1 t1)) c2 t2; rw [World.size_alloc] at this; exact this⟩
theorem F2.z (H : F2 w c1 t1 c2 t2 W) : w.heap.size + 1 < W.heap.size := H.r2.lt
theorem F2.step (H : F2 w c1 t1 c2 t2 W) (hb : Below W.heap.size W W1) : F2 w c1 t1 c2 t2 W1 :=
  ⟨H.B.trans (hb.mono (by have := H.z; omega)), H.r1.below hb H.r1.lt, H.r2.below hb H.r2.lt⟩
theorem F2.drew (H : F2 w c1 t1 c2 t2 W) : F2 w c1 t1 c2 t2 W.drew := H.step (below_drewN (Below.refl _ _) 1)
theorem F2.alloc (H : F2 w c1 t1 c2 t2 W) (o : Obj) : F2 w c1 t1 c2 t2 (W.alloc o) := H.step ((Below.refl _ _).alloc (Nat.le_refl _) o)
theorem F2.put1 (H : F2 w c1 t1 c2 t2 W) (i : Nat) (u : Value) : F2 w (c1.setIfInBounds i u) t1 c2 t2 (W.setCell ⟨w.heap.size, i, none⟩ u) :=
  ⟨H.B.setCell (Nat.le_refl _) _, H.r1.put i u, H.r2.other (by simp) u⟩
theorem F2.row1 (H : F2 w c1 t1 c2 t2 W) (cs : Array Value) : F2 w cs t1 c2 t2 (W.setRow w.heap.size cs) :=
  ⟨below_setRow H.B (Nat.le_refl _) _, H.r1.row cs, H.r2.rowOther (by omega) _⟩
theorem F2.row2 (H : F2 w c1 t1 c2 t2 W) (cs : Array Value) : F2 w c1 t1 cs t2 (W.setRow (w.heap.size + 1) cs) :=
  ⟨below_setRow H.B (by omega) _, H.r1.rowOther (by omega) _, H.r2.row cs⟩
theorem F2.x1 (H : F2 w c1 t1 c2 t2 W) : ∀ i, W.cell? ⟨w.heap.size, i, none⟩ = c1[i]? := H.r1.cells
theorem F2.y1 (H : F2 w c1 t1 c2 t2 W) : ∀ i, W.frozen? ⟨w.heap.size, i, none⟩ = false := H.r1.free
theorem F2.beside (H : F2 w c1 t1 c2 t2 W) {g : Nat} (hg : w.heap.size + 1 < g) (cs : Array Value) : F2 w c1 t1 c2 t2 (W.setRow g cs) :=
  ⟨below_setRow H.B (by omega) _, H.r1.rowOther (by omega) _, H.r2.rowOther (by omega) _⟩
theorem F3.start (w : World) (c1 : Array Value) (t1 : TypeId) (c2 : Array Value) (t2 : TypeId) (c3 : Array Value) (t3 : TypeId) : F3 w c1 t1 c2 t2 c3 t3 (((w.alloc (.cells c1 t1)).alloc (.cells c2 t2)).alloc (.cells c3 t3)) :=
  ⟨(((Below.refl _ _).alloc (Nat.le_refl _) _).alloc (by simp) _).alloc (by simp; omega) _, ((Bx.new _ _ _).alloc _).alloc _,
    by have := (Bx.new (w.alloc (.cells c1 t1)) c2 t2).alloc (.cells c3 t3); rw [World.size_alloc] at this; exact this,
    by have := Bx.new ((w.alloc (.cells c1 t1)).alloc (.cells c2 t2)) c3 t3; rw [World.size_alloc, World.size_alloc] at this; exact this⟩
theorem F3.z (H : F3 w c1 t1 c2 t2 c3 t3 W) : w.heap.size + 1 + 1 < W.heap.size := H.r3.lt
theorem F3.step (H : F3 w c1 t1 c2 t2 c3 t3 W) (hb : Below W.heap.size W W1) : F3 w c1 t1 c2 t2 c3 t3 W1 :=
  ⟨H.B.trans (hb.mono (by have := H.z; omega)), H.r1.below hb H.r1.lt, H.r2.below hb H.r2.lt, H.r3.below hb H.r3.lt⟩
theorem F3.drew (H : F3 w c1 t1 c2 t2 c3 t3 W) : F3 w c1 t1 c2 t2 c3 t3 W.drew := H.step (below_drewN (Below.refl _ _) 1)
theorem F3.alloc (H : F3 w c1 t1 c2 t2 c3 t3 W) (o : Obj) : F3 w c1 t1 c2 t2 c3 t3 (W.alloc o) := H.step ((Below.refl _ _).alloc (Nat.le_refl _) o)
theorem F3.put1 (H : F3 w c1 t1 c2 t2 c3 t3 W) (i : Nat) (u : Value) : F3 w (c1.setIfInBounds i u) t1 c2 t2 c3 t3 (W.setCell ⟨w.heap.size, i, none⟩ u) :=
  ⟨H.B.setCell (Nat.le_refl _) _, H.r1.put i u, H.r2.other (by simp) u, H.r3.other (by simp; omega) u⟩
theorem F3.row1 (H : F3 w c1 t1 c2 t2 c3 t3 W) (cs : Array Value) : F3 w cs t1 c2 t2 c3 t3 (W.setRow w.heap.size cs) :=
  ⟨below_setRow H.B (Nat.le_refl _) _, H.r1.row cs, H.r2.rowOther (by omega) _, H.r3.rowOther (by omega) _⟩
theorem F3.row3 (H : F3 w c1 t1 c2 t2 c3 t3 W) (cs : Array Value) : F3 w c1 t1 c2 t2 cs t3 (W.setRow (w.heap.size + 1 + 1) cs) :=
  ⟨below_setRow H.B (by omega) _, H.r1.rowOther (by omega) _, H.r2.rowOther (by omega) _, H.r3.row cs⟩
theorem F3.x1 (H : F3 w c1 t1 c2 t2 c3 t3 W) : ∀ i, W.cell? ⟨w.heap.size, i, none⟩ = c1[i]? := H.r1.cells
theorem F3.x2 (H : F3 w c1 t1 c2 t2 c3 t3 W) : ∀ i, W.cell? ⟨w.heap.size + 1, i, none⟩ = c2[i]? := H.r2.cells
theorem F3.y1 (H : F3 w c1 t1 c2 t2 c3 t3 W) : ∀ i, W.frozen? ⟨w.heap.size, i, none⟩ = false := H.r1.free
end
theorem OA.rowAt {W : World} {B g : Nat} {a : Ar} {h : AH} (H : OA W B a h) (hg : g < B) (cs : Array Value) : OA (W.setRow g cs) B a h :=
  ⟨H.agent, H.off, H.ver, H.queue, H.base.rowAt hg cs, H.edits.setRow hg cs, H.legs.setRow hg cs⟩
theorem OA.cell {W : World} {B : Nat} {a : Ar} {h : AH} (H : OA W B a h) {p : Addr} (hp : p.block < B) (u : Value) : OA (W.setCell p u) B a h :=
  ⟨H.agent, H.off, H.ver, H.queue, H.base.set hp u, H.edits.setCell hp u, H.legs.setCell hp u⟩
/-- The edits' row is none of the others. -/
structure DA (h : AH) : Prop where
  base : ∀ k, bk h.ad = some k → ¬ rowP h.b k
  legs : ∀ k, bk h.ad = some k → bk h.al ≠ some k
theorem da0 : DA ah0 := ⟨fun k hk => (by cases hk), fun k hk => (by cases hk)⟩
def RetS (w : World) (r : Ar × Int) (en : Ending) (w' : World) : Prop :=
  ∃ h', en = .returned (.tuple #[.agg #[.string r.1.agent, .string r.1.off, .bool r.1.open_, .string r.1.base.loc, .string r.1.base.off, .slice h'.b.an h'.b.nn h'.b.cn, .slice h'.b.ag h'.b.ng h'.b.cg, .slice h'.b.ap h'.b.np h'.b.cp, .int .i64 r.1.base.tik.kind, .int .i64 r.1.base.tik.day, .int .i64 r.1.base.tik.min, .string r.1.base.rc, .slice h'.b.ar h'.b.nr h'.b.cr, .slice h'.b.ae h'.b.ne h'.b.ce, .bool r.1.base.queued, .int .u64 r.1.ver, .slice h'.ad h'.nd h'.cd, .slice h'.al h'.nl h'.cl, .bool r.1.working, .int .i64 r.1.queue], .int .i64 r.2]) ∧ OA w' w.heap.size r.1 h' ∧ DA h' ∧ Below w.heap.size w w'
theorem RetS.mk' {w w' : World} {r : Ar × Int} {a : Ar} {n : Int} {h' : AH} (e : r = (a, n)) (hp : OA w' w.heap.size a h') (d : DA h') (hb : Below w.heap.size w w') : RetS w r (.returned (.tuple #[.agg #[.string a.agent, .string a.off, .bool a.open_, .string a.base.loc, .string a.base.off, .slice h'.b.an h'.b.nn h'.b.cn, .slice h'.b.ag h'.b.ng h'.b.cg, .slice h'.b.ap h'.b.np h'.b.cp, .int .i64 a.base.tik.kind, .int .i64 a.base.tik.day, .int .i64 a.base.tik.min, .string a.base.rc, .slice h'.b.ar h'.b.nr h'.b.cr, .slice h'.b.ae h'.b.ne h'.b.ce, .bool a.base.queued, .int .u64 a.ver, .slice h'.ad h'.nd h'.cd, .slice h'.al h'.nl h'.cl, .bool a.working, .int .i64 a.queue], .int .i64 n])) w' := by
  subst e
  exact ⟨h', rfl, hp, d, hb⟩
/-- A whole area is stored. -/
theorem store_ra {ops : Array Oper} {rest : List Oper} {o : Oper} {a : Act} {W : World} {Q : Exit → Act → World → Prop} (hgd : o.guard = none) (x y : Operand) (ho : o.op = .store 53 x y) {g : Nat} (cells : Array Value) {old : Array Value}
    (hx : a.eval x = .pointer (some ⟨g, 0, none⟩)) (hy : a.eval y = .agg cells) (hr : Bx W g old 53) (h12 : cells.size = 20) (ho12 : old.size = 20) (h1 : (cells.all fun v => v.oneCell') = true)
    (h : wpList Tryz.prog ops Q rest (a.put o.dst undef) (W.setRow g cells)) : wpList Tryz.prog ops Q (o :: rest) a W :=
  wpList_store_row hgd _ x y ho g cells hx hy _ old hr (by rw [h12]; exact info_area) (by rw [ho12, h12]) h1 h
/-- A whole area is loaded (cell by cell the kernel's work doubles with each cell). -/
theorem load_ra {ops : Array Oper} {rest : List Oper} {o : Oper} {a : Act} {W : World} {Q : Exit → Act → World → Prop} (hgd : o.guard = none) (x : Operand) (ho : o.op = .load 53 x) {g : Nat} {cs : Array Value}
    (hx : a.eval x = .pointer (some ⟨g, 0, none⟩)) (hr : Bx W g cs 53) (h20 : cs.size = 20)
    (h : wpList Tryz.prog ops Q rest (a.put o.dst (.agg cs)) W) : wpList Tryz.prog ops Q (o :: rest) a W :=
  wpList_load_row hgd _ x ho g hx _ cs _ _ hr Tryz.underlying53 rfl (by rw [h20]; exact info_area) h
theorem ret_a1 {fn : Func} {p : Tmp} (h : fn.results = #[.cell p 53]) {R : Ending → World → Prop} {a : Act} {w : World} {g : Nat} {cs : Array Value}
    (hr : Bx w g cs 53) (hs : cs.size = 20) (hp : a.tmps.getD p undef = .pointer (some ⟨g, 0, none⟩)) (hd : a.defers = []) (hR : R (.returned (.agg cs)) w) : bodyPost Tryz.prog fn R .ret a w := by
  refine bodyPost_ret (v := .agg cs) ?_ hd hR
  rw [results_cell1 h, hp]
  have hl := run_loadVar_row (P := Tryz.prog) w g 53 53 cs (0, 0) _ hr Tryz.underlying53 rfl (by rw [hs]; exact info_area)
  simp [asAddr, hl, Result.andThen]
theorem ret_at {fn : Func} {p u : Tmp} (h : fn.results = #[.cell p 53, .tmp u]) {R : Ending → World → Prop} {a : Act} {w : World} {g : Nat} {cs : Array Value} {v : Value}
    (hr : Bx w g cs 53) (hs : cs.size = 20) (hp : a.tmps.getD p undef = .pointer (some ⟨g, 0, none⟩)) (hv : a.tmps.getD u undef = v) (hd : a.defers = []) (hR : R (.returned (.tuple #[.agg cs, v])) w) : bodyPost Tryz.prog fn R .ret a w := by
  refine bodyPost_ret (v := .tuple #[.agg cs, v]) ?_ hd hR
  rw [results_cell_tmp h, hp]
  have hl := run_loadVar_row (P := Tryz.prog) w g 53 53 cs (0, 0) _ hr Tryz.underlying53 rfl (by rw [hs]; exact info_area)
  simp [asAddr, hl, hv, Result.andThen]
set_option maxRecDepth 100000 in
set_option maxHeartbeats 8000000 in
theorem acopied_any (a : Ar) (h : AH) (w : World) (S : Nat → Prop) (hp : AS w S a h) (hS : ∀ b, S b → b < w.heap.size) (hs : a.small 1000) :
    Calls Tryz.prog 52 #[.agg #[.string a.agent, .string a.off, .bool a.open_, .string a.base.loc, .string a.base.off, .slice h.b.an h.b.nn h.b.cn, .slice h.b.ag h.b.ng h.b.cg, .slice h.b.ap h.b.np h.b.cp, .int .i64 a.base.tik.kind, .int .i64 a.base.tik.day, .int .i64 a.base.tik.min, .string a.base.rc, .slice h.b.ar h.b.nr h.b.cr, .slice h.b.ae h.b.ne h.b.ce, .bool a.base.queued, .int .u64 a.ver, .slice h.ad h.nd h.cd, .slice h.al h.nl h.cl, .bool a.working, .int .i64 a.queue]] w (fun e w' => ∃ h', e = .returned (.agg #[.string a.agent, .string a.off, .bool a.open_, .string a.base.loc, .string a.base.off, .slice h'.b.an h'.b.nn h'.b.cn, .slice h'.b.ag h'.b.ng h'.b.cg, .slice h'.b.ap h'.b.np h'.b.cp, .int .i64 a.base.tik.kind, .int .i64 a.base.tik.day, .int .i64 a.base.tik.min, .string a.base.rc, .slice h'.b.ar h'.b.nr h'.b.cr, .slice h'.b.ae h'.b.ne h'.b.ce, .bool a.base.queued, .int .u64 a.ver, .slice h'.ad h'.nd h'.cd, .slice h'.al h'.nl h'.cl, .bool a.working, .int .i64 a.queue]) ∧ OA w' w.heap.size a h' ∧ DA h' ∧ Below w.heap.size w w') := by
  have HP := Lib.hid hp
  have HB := Lib.hid hS
  have HS := Lib.hid hs
  clear hp hS hs
  have hF := F2.start w (aC a h) 53 aZ 53
  go_enter Tryz.func52, Tryz.ntmps52
  go_wp2_with fail
  refine (pfold_any a.base h.b [] none 0 0 _ S 0 0 (HP.out.base.below hF.B HB.out) (fun b hb => by have := HB.out b hb; have := hF.z; omega) HS.out.base (Sl.nil_ none) (by omega) (Nat.zero_le _)).mono ?_
  rintro en w1 ⟨h1, rfl, o1, hb1⟩
  have hF1 := hF.step hb1
  replace o1 := o1.more (B' := w.heap.size + 1 + 1) (by simp)
  clear hF hb1
  go_upto_region 2 with (refine store_mid rfl (.tmp 10) (.tmp 7) rfl #[.string a.base.loc, .string a.base.off, .slice h1.an h1.nn h1.cn, .slice h1.ag h1.ng h1.cg, .slice h1.ap h1.np h1.cp, .int .i64 a.base.tik.kind, .int .i64 a.base.tik.day, .int .i64 a.base.tik.min, .string a.base.rc, .slice h1.ar h1.nr h1.cr, .slice h1.ae h1.ne h1.ce, .bool a.base.queued] #[.string a.agent, .string a.off, .bool a.open_, .string a.base.loc, .string a.base.off, .slice h1.an h1.nn h1.cn, .slice h1.ag h1.ng h1.cg, .slice h1.ap h1.np h1.cp, .int .i64 a.base.tik.kind, .int .i64 a.base.tik.day, .int .i64 a.base.tik.min, .string a.base.rc, .slice h1.ar h1.nr h1.cr, .slice h1.ae h1.ne h1.ce, .bool a.base.queued, .int .u64 a.ver, .slice h.ad h.nd h.cd, .slice h.al h.nl h.cl, .bool a.working, .int .i64 a.queue] rfl rfl hF1.r1 info_pnr (by show 3 + 12 ≤ 20; omega) (by simp [Value.oneCell']) lay12 ?_)
  refine wp_world (fun W => F2 w #[.string a.agent, .string a.off, .bool a.open_, .string a.base.loc, .string a.base.off, .slice h1.an h1.nn h1.cn, .slice h1.ag h1.ng h1.cg, .slice h1.ap h1.np h1.cp, .int .i64 a.base.tik.kind, .int .i64 a.base.tik.day, .int .i64 a.base.tik.min, .string a.base.rc, .slice h1.ar h1.nr h1.cr, .slice h1.ae h1.ne h1.ce, .bool a.base.queued, .int .u64 a.ver, .slice h.ad h.nd h.cd, .slice h.al h.nl h.cl, .bool a.working, .int .i64 a.queue] 53 aZ 53 W ∧ OP W (w.heap.size + 1 + 1) a.base h1) ⟨hF1.row1 _, o1.rowAt (by omega) _⟩ ?_
  clear hF1 o1
  rintro V ⟨hF, o⟩
  as_aux_lemma =>
    have x1 := hF.x1
    try dsimp only [aC] at x1
    try dsimp only [aZ] at x1
    have x2 := hF.y1
    have z1 := hF.z
    have z0 : w.heap.size < V.heap.size := by omega
    go_simp
    go_cut [16] (fun _ w' => ∃ A1 c1 A2 c2, F2 w #[.string a.agent, .string a.off, .bool a.open_, .string a.base.loc, .string a.base.off, .slice h1.an h1.nn h1.cn, .slice h1.ag h1.ng h1.cg, .slice h1.ap h1.np h1.cp, .int .i64 a.base.tik.kind, .int .i64 a.base.tik.day, .int .i64 a.base.tik.min, .string a.base.rc, .slice h1.ar h1.nr h1.cr, .slice h1.ae h1.ne h1.ce, .bool a.base.queued, .int .u64 a.ver, .slice A1 a.edits.length c1, .slice A2 a.legs.length c2, .bool a.working, .int .i64 a.queue] 53 aZ 53 w' ∧ OP w' (w.heap.size + 1 + 1) a.base h1 ∧ Own w' (w.heap.size + 1 + 1) 50 tEdit (.slice A1 a.edits.length c1) a.edits ∧ Own w' (w.heap.size + 1 + 1) 44 tLeg (.slice A2 a.legs.length c2) a.legs ∧ DA (AH.mk h1 A1 a.edits.length c1 A2 a.legs.length c2))
    case first =>
      go_region_law (first
        | (go_simp; go_at_call 62; refine (clone_edi a.edits h.ad h.nd h.cd _ 0 w.heap.size ((HP.out.edits.below hF.drew.B HB.out).sl fun b hb => ⟨Nat.zero_le _, HB.out b hb⟩) (by have h5 := HS.out.edits; have h6 := HP.out.edits.len; omega) (by have := hF.drew.z; omega) HP.out.edits.nil).mono ?_; rintro e w1 ⟨A1, c1, rfl, hown1, hb1⟩; have hF1 := hF.drew.step hb1; have y1 := hF1.x1; have y2 := hF1.y1; have y3 := hF1.z; have y4 : w.heap.size < w1.heap.size := (by omega))
        | (go_simp; go_at_call 47; refine (clone_leg a.legs h.al h.nl h.cl _ 0 w.heap.size ((HP.out.legs.below hF1.B HB.out).sl fun b hb => ⟨Nat.zero_le _, HB.out b hb⟩) (by have h5 := HS.out.legs; have h6 := HP.out.legs.len; omega) (by have := hF1.z; omega) HP.out.legs.nil).mono ?_; rintro e w2 ⟨A2, c2, rfl, hown2, hb2⟩; have hF2 := hF1.step hb2; have u1 := hF2.x1; have u2 := hF2.y1; have u3 := hF2.z; have u4 : w.heap.size < w2.heap.size := (by omega)))
      all_goals
        have e1 := ((o.drewN 1).keep hb1).keep hb2
        have k4 := (hown1.keep hb2).more (B' := w.heap.size + 1 + 1) (by simp; omega)
        have k5 := hown2.more (B' := w.heap.size + 1 + 1) (by omega)
        go_wp2
        go_meet
        exact ⟨A1, c1, A2, c2, (by first | exact ((hF2.put1 16 (.slice A1 a.edits.length c1)).put1 17 (.slice A2 a.legs.length c2)) | exact ((hF2.put1 17 (.slice A2 a.legs.length c2)).put1 16 (.slice A1 a.edits.length c1))), (e1.set (by simp; omega) _).set (by simp; omega) _, (k4.setCell (by simp; omega) _).setCell (by simp; omega) _, (k5.setCell (by simp; omega) _).setCell (by simp; omega) _, ⟨fun k hk hr => by have q1 := o.rb k hr; have q2 := (hown1.bk_lt k hk).1; simp at q2; omega, fun k hk => (df_later hown1 hown2).symm.bk k hk⟩⟩
    case rest =>
      clear hF x1 x2 z1 z0 o
      obtain ⟨A1, c1, A2, c2, hF, o1, o2, o3, d⟩ := hcut
      have z1 := hF.z
      go_wp2_with (first | (refine load_ra rfl (.tmp 1) rfl rfl hF.r1 rfl ?_) | (refine store_ra rfl (.tmp 2) (.tmp 19) rfl #[.string a.agent, .string a.off, .bool a.open_, .string a.base.loc, .string a.base.off, .slice h1.an h1.nn h1.cn, .slice h1.ag h1.ng h1.cg, .slice h1.ap h1.np h1.cp, .int .i64 a.base.tik.kind, .int .i64 a.base.tik.day, .int .i64 a.base.tik.min, .string a.base.rc, .slice h1.ar h1.nr h1.cr, .slice h1.ae h1.ne h1.ce, .bool a.base.queued, .int .u64 a.ver, .slice A1 a.edits.length c1, .slice A2 a.legs.length c2, .bool a.working, .int .i64 a.queue] rfl rfl hF.r2 rfl rfl (by simp [Value.oneCell']) ?_))
      have hF9 := hF.row2 #[.string a.agent, .string a.off, .bool a.open_, .string a.base.loc, .string a.base.off, .slice h1.an h1.nn h1.cn, .slice h1.ag h1.ng h1.cg, .slice h1.ap h1.np h1.cp, .int .i64 a.base.tik.kind, .int .i64 a.base.tik.day, .int .i64 a.base.tik.min, .string a.base.rc, .slice h1.ar h1.nr h1.cr, .slice h1.ae h1.ne h1.ce, .bool a.base.queued, .int .u64 a.ver, .slice A1 a.edits.length c1, .slice A2 a.legs.length c2, .bool a.working, .int .i64 a.queue]
      refine ret_a1 Tryz.results52 hF9.r2 rfl rfl rfl ?_
      have hOA : OA _ (w.heap.size + 1 + 1) a (AH.mk h1 A1 a.edits.length c1 A2 a.legs.length c2) := ⟨HP.out.agent, HP.out.off, HP.out.ver, HP.out.queue, o1.rowAt (g := w.heap.size + 1) (by omega) #[.string a.agent, .string a.off, .bool a.open_, .string a.base.loc, .string a.base.off, .slice h1.an h1.nn h1.cn, .slice h1.ag h1.ng h1.cg, .slice h1.ap h1.np h1.cp, .int .i64 a.base.tik.kind, .int .i64 a.base.tik.day, .int .i64 a.base.tik.min, .string a.base.rc, .slice h1.ar h1.nr h1.cr, .slice h1.ae h1.ne h1.ce, .bool a.base.queued, .int .u64 a.ver, .slice A1 a.edits.length c1, .slice A2 a.legs.length c2, .bool a.working, .int .i64 a.queue], o2.setRow (g := w.heap.size + 1) (by omega) #[.string a.agent, .string a.off, .bool a.open_, .string a.base.loc, .string a.base.off, .slice h1.an h1.nn h1.cn, .slice h1.ag h1.ng h1.cg, .slice h1.ap h1.np h1.cp, .int .i64 a.base.tik.kind, .int .i64 a.base.tik.day, .int .i64 a.base.tik.min, .string a.base.rc, .slice h1.ar h1.nr h1.cr, .slice h1.ae h1.ne h1.ce, .bool a.base.queued, .int .u64 a.ver, .slice A1 a.edits.length c1, .slice A2 a.legs.length c2, .bool a.working, .int .i64 a.queue], o3.setRow (g := w.heap.size + 1) (by omega) #[.string a.agent, .string a.off, .bool a.open_, .string a.base.loc, .string a.base.off, .slice h1.an h1.nn h1.cn, .slice h1.ag h1.ng h1.cg, .slice h1.ap h1.np h1.cp, .int .i64 a.base.tik.kind, .int .i64 a.base.tik.day, .int .i64 a.base.tik.min, .string a.base.rc, .slice h1.ar h1.nr h1.cr, .slice h1.ae h1.ne h1.ce, .bool a.base.queued, .int .u64 a.ver, .slice A1 a.edits.length c1, .slice A2 a.legs.length c2, .bool a.working, .int .i64 a.queue]⟩
      exact ⟨(AH.mk h1 A1 a.edits.length c1 A2 a.legs.length c2), rfl, hOA.more (by omega), d, hF9.B⟩
end Go.Proofs.YtpgeoahlhdifoaaGreatDoor
