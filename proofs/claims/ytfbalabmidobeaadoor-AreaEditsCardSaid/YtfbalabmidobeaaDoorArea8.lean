/- AreaEdits: the statement's own locals; stores of whole structs. -/
import Derived.Test.YtfbalabmidobeaaDoorArea7
namespace Go.Proofs.YtfbalabmidobeaaDoor
set_option linter.unusedVariables false
open Go Go.RowKit
set_option maxRecDepth 100000 in
theorem setAll12 {W : World} {g : Nat} {old : Array Value} {t : TypeId} (hr : Bx W g old t) (hs : old.size = 12) (a0 a1 a2 a3 a4 a5 a6 a7 a8 a9 a10 a11 : Value) : ((((((((((((W.setCell ⟨g, 0, none⟩ a0).setCell ⟨g, 1, none⟩ a1).setCell ⟨g, 2, none⟩ a2).setCell ⟨g, 3, none⟩ a3).setCell ⟨g, 4, none⟩ a4).setCell ⟨g, 5, none⟩ a5).setCell ⟨g, 6, none⟩ a6).setCell ⟨g, 7, none⟩ a7).setCell ⟨g, 8, none⟩ a8).setCell ⟨g, 9, none⟩ a9).setCell ⟨g, 10, none⟩ a10).setCell ⟨g, 11, none⟩ a11) = W.setRow g #[a0, a1, a2, a3, a4, a5, a6, a7, a8, a9, a10, a11] := by
  have hr' : W.heap[g]? = some (.cells old t (0, 0)) := hr
  have s : ∀ (cs : Array Value) (i : Nat) (u : Value), (W.setRow g cs).setCell ⟨g, i, none⟩ u = W.setRow g (cs.setIfInBounds i u) := fun cs i u => by
    rw [setCell_eq_setRow (W.setRow g cs) g i cs _ (0, 0) u (setRow_heap W g _ cs _ _ hr'), setRow_setRow]
  rw [setCell_eq_setRow W g 0 _ _ (0, 0) a0 hr', s, s, s, s, s, s, s, s, s, s, s]
  obtain ⟨l⟩ := old
  match l, hs with
  | [x0, x1, x2, x3, x4, x5, x6, x7, x8, x9, x10, x11], _ => simp
set_option maxRecDepth 100000 in
theorem setAll20 {W : World} {g : Nat} {old : Array Value} {t : TypeId} (hr : Bx W g old t) (hs : old.size = 20) (a0 a1 a2 a3 a4 a5 a6 a7 a8 a9 a10 a11 a12 a13 a14 a15 a16 a17 a18 a19 : Value) : ((((((((((((((((((((W.setCell ⟨g, 0, none⟩ a0).setCell ⟨g, 1, none⟩ a1).setCell ⟨g, 2, none⟩ a2).setCell ⟨g, 3, none⟩ a3).setCell ⟨g, 4, none⟩ a4).setCell ⟨g, 5, none⟩ a5).setCell ⟨g, 6, none⟩ a6).setCell ⟨g, 7, none⟩ a7).setCell ⟨g, 8, none⟩ a8).setCell ⟨g, 9, none⟩ a9).setCell ⟨g, 10, none⟩ a10).setCell ⟨g, 11, none⟩ a11).setCell ⟨g, 12, none⟩ a12).setCell ⟨g, 13, none⟩ a13).setCell ⟨g, 14, none⟩ a14).setCell ⟨g, 15, none⟩ a15).setCell ⟨g, 16, none⟩ a16).setCell ⟨g, 17, none⟩ a17).setCell ⟨g, 18, none⟩ a18).setCell ⟨g, 19, none⟩ a19) = W.setRow g #[a0, a1, a2, a3, a4, a5, a6, a7, a8, a9, a10, a11, a12, a13, a14, a15, a16, a17, a18, a19] := by
  have hr' : W.heap[g]? = some (.cells old t (0, 0)) := hr
  have s : ∀ (cs : Array Value) (i : Nat) (u : Value), (W.setRow g cs).setCell ⟨g, i, none⟩ u = W.setRow g (cs.setIfInBounds i u) := fun cs i u => by
    rw [setCell_eq_setRow (W.setRow g cs) g i cs _ (0, 0) u (setRow_heap W g _ cs _ _ hr'), setRow_setRow]
  rw [setCell_eq_setRow W g 0 _ _ (0, 0) a0 hr', s, s, s, s, s, s, s, s, s, s, s, s, s, s, s, s, s, s, s]
  obtain ⟨l⟩ := old
  match l, hs with
  | [x0, x1, x2, x3, x4, x5, x6, x7, x8, x9, x10, x11, x12, x13, x14, x15, x16, x17, x18, x19], _ => simp
/-- The statement's locals: p's box, the area's, the wanted PNR's. -/
structure RE (w : World) (p : Pnr) (hp : Hd) (g5 g7 : Nat) (a : Ar) (h1 : AH) (q : Pnr) (hq : Hd) (W : World) : Prop where
  B : Below w.heap.size w W
  bp : Bx W w.heap.size #[.string p.loc, .string p.off, .slice hp.an hp.nn hp.cn, .slice hp.ag hp.ng hp.cg, .slice hp.ap hp.np hp.cp, .int .i64 p.tik.kind, .int .i64 p.tik.day, .int .i64 p.tik.min, .string p.rc, .slice hp.ar hp.nr hp.cr, .slice hp.ae hp.ne hp.ce, .bool p.queued] 29
  b5 : Bx W g5 #[.string a.agent, .string a.off, .bool a.open_, .string a.base.loc, .string a.base.off, .slice h1.b.an h1.b.nn h1.b.cn, .slice h1.b.ag h1.b.ng h1.b.cg, .slice h1.b.ap h1.b.np h1.b.cp, .int .i64 a.base.tik.kind, .int .i64 a.base.tik.day, .int .i64 a.base.tik.min, .string a.base.rc, .slice h1.b.ar h1.b.nr h1.b.cr, .slice h1.b.ae h1.b.ne h1.b.ce, .bool a.base.queued, .int .u64 a.ver, .slice h1.ad h1.nd h1.cd, .slice h1.al h1.nl h1.cl, .bool a.working, .int .i64 a.queue] 36
  b7 : Bx W g7 #[.string q.loc, .string q.off, .slice hq.an hq.nn hq.cn, .slice hq.ag hq.ng hq.cg, .slice hq.ap hq.np hq.cp, .int .i64 q.tik.kind, .int .i64 q.tik.day, .int .i64 q.tik.min, .string q.rc, .slice hq.ar hq.nr hq.cr, .slice hq.ae hq.ne hq.ce, .bool q.queued] 29
  A : AS W (fun b => b ≠ g5 ∧ b ≠ g7 ∧ b < W.heap.size) a h1
  Q : PS W (fun b => b ≠ g5 ∧ b ≠ g7 ∧ b < W.heap.size) q hq
  z : w.heap.size < g5
  z5 : g5 < g7
section
variable {w W W1 : World} {p q : Pnr} {hp hq : Hd} {g5 g7 : Nat} {a : Ar} {h1 : AH}
theorem RE.z7 (H : RE w p hp g5 g7 a h1 q hq W) : g7 < W.heap.size := H.b7.lt
theorem RE.step (H : RE w p hp g5 g7 a h1 q hq W) (hb : Below W.heap.size W W1) : RE w p hp g5 g7 a h1 q hq W1 :=
  ⟨H.B.trans (hb.mono H.B.size), H.bp.below hb H.bp.lt, H.b5.below hb H.b5.lt, H.b7.below hb H.b7.lt,
    (H.A.below (D := W.heap.size) hb fun b h => h.2.2).mono fun b h => ⟨h.1, h.2.1, Nat.lt_of_lt_of_le h.2.2 hb.size⟩,
    (PS.below (B := W.heap.size) H.Q hb fun b h => h.2.2).mono fun b h => ⟨h.1, h.2.1, Nat.lt_of_lt_of_le h.2.2 hb.size⟩, H.z, H.z5⟩
theorem RE.drew (H : RE w p hp g5 g7 a h1 q hq W) : RE w p hp g5 g7 a h1 q hq W.drew := H.step ((Below.refl _ _).drew)
theorem RE.alloc (H : RE w p hp g5 g7 a h1 q hq W) (o : Obj) : RE w p hp g5 g7 a h1 q hq (W.alloc o) := H.step ((Below.refl _ _).alloc (Nat.le_refl _) o)
/-- A row beside them is written. -/
theorem RE.row (H : RE w p hp g5 g7 a h1 q hq W) {g : Nat} (hg : g7 < g) (cs : Array Value) (hA : AS (W.setRow g cs) (fun b => b ≠ g5 ∧ b ≠ g7 ∧ b < (W.setRow g cs).heap.size) a h1) (hQ : PS (W.setRow g cs) (fun b => b ≠ g5 ∧ b ≠ g7 ∧ b < (W.setRow g cs).heap.size) q hq) : RE w p hp g5 g7 a h1 q hq (W.setRow g cs) :=
  ⟨below_setRow H.B (by have := H.z; have := H.z5; omega) _, H.bp.rowOther (by have := H.z; have := H.z5; omega) _, H.b5.rowOther (by have := H.z5; omega) _, H.b7.rowOther (by omega) _, hA, hQ, H.z, H.z5⟩
/-- Both locals are written. -/
theorem RE.turn {a2 : Ar} {h2 : AH} {q2 : Pnr} {hq2 : Hd} (H : RE w p hp g5 g7 a h1 q hq W) (hA : AS W (fun b => b ≠ g5 ∧ b ≠ g7 ∧ b < W.heap.size) a2 h2) (hQ : PS W (fun b => b ≠ g5 ∧ b ≠ g7 ∧ b < W.heap.size) q2 hq2) :
    RE w p hp g5 g7 a2 h2 q2 hq2 ((W.setRow g5 #[.string a2.agent, .string a2.off, .bool a2.open_, .string a2.base.loc, .string a2.base.off, .slice h2.b.an h2.b.nn h2.b.cn, .slice h2.b.ag h2.b.ng h2.b.cg, .slice h2.b.ap h2.b.np h2.b.cp, .int .i64 a2.base.tik.kind, .int .i64 a2.base.tik.day, .int .i64 a2.base.tik.min, .string a2.base.rc, .slice h2.b.ar h2.b.nr h2.b.cr, .slice h2.b.ae h2.b.ne h2.b.ce, .bool a2.base.queued, .int .u64 a2.ver, .slice h2.ad h2.nd h2.cd, .slice h2.al h2.nl h2.cl, .bool a2.working, .int .i64 a2.queue]).setRow g7 #[.string q2.loc, .string q2.off, .slice hq2.an hq2.nn hq2.cn, .slice hq2.ag hq2.ng hq2.cg, .slice hq2.ap hq2.np hq2.cp, .int .i64 q2.tik.kind, .int .i64 q2.tik.day, .int .i64 q2.tik.min, .string q2.rc, .slice hq2.ar hq2.nr hq2.cr, .slice hq2.ae hq2.ne hq2.ce, .bool q2.queued]) := by
  have e1 := H.z
  have e2 := H.z5
  have k : ∀ b : Addr, (b.block ≠ g5 ∧ b.block ≠ g7 ∧ b.block < W.heap.size) → ((W.setRow g5 #[.string a2.agent, .string a2.off, .bool a2.open_, .string a2.base.loc, .string a2.base.off, .slice h2.b.an h2.b.nn h2.b.cn, .slice h2.b.ag h2.b.ng h2.b.cg, .slice h2.b.ap h2.b.np h2.b.cp, .int .i64 a2.base.tik.kind, .int .i64 a2.base.tik.day, .int .i64 a2.base.tik.min, .string a2.base.rc, .slice h2.b.ar h2.b.nr h2.b.cr, .slice h2.b.ae h2.b.ne h2.b.ce, .bool a2.base.queued, .int .u64 a2.ver, .slice h2.ad h2.nd h2.cd, .slice h2.al h2.nl h2.cl, .bool a2.working, .int .i64 a2.queue]).setRow g7 #[.string q2.loc, .string q2.off, .slice hq2.an hq2.nn hq2.cn, .slice hq2.ag hq2.ng hq2.cg, .slice hq2.ap hq2.np hq2.cp, .int .i64 q2.tik.kind, .int .i64 q2.tik.day, .int .i64 q2.tik.min, .string q2.rc, .slice hq2.ar hq2.nr hq2.cr, .slice hq2.ae hq2.ne hq2.ce, .bool q2.queued]).cell? b = W.cell? b := fun b hb => (cell_setRow_other _ _ _ _ hb.2.1).trans (cell_setRow_other _ _ _ _ hb.1)
  exact ⟨below_setRow (below_setRow H.B (by omega) _) (by omega) _, (H.bp.rowOther (by omega) _).rowOther (by omega) _, (H.b5.row _).rowOther (by omega) _, (H.b7.rowOther (by omega) _).row _,
    (hA.keep k).mono fun b h => ⟨h.1, h.2.1, by simpa using h.2.2⟩, (PS.keep hQ k).mono fun b h => ⟨h.1, h.2.1, by simpa using h.2.2⟩, H.z, H.z5⟩
end
end Go.Proofs.YtfbalabmidobeaaDoor
