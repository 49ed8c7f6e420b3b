/- A round that applies an edit out of a slice: its frame, and how it ends. -/
import Derived.Test.YtaakcccffmfmoaaDoorPnr10
import Derived.Test.YtaakcccffmfmoaaDoorGrow1
namespace Go.Proofs.YtaakcccffmfmoaaDoor
set_option linter.unusedVariables false
open Go Go.RowKit
/-- An edit's cells. -/
def C16 (W : World) (b i : Nat) (x : Edit) : Prop := W.cell? ⟨b, i, none⟩ = some (.int .i64 x.kind) ∧ W.cell? ⟨b, i + 1, none⟩ = some (.string x.nam.last) ∧ W.cell? ⟨b, i + 2, none⟩ = some (.string x.nam.first) ∧ W.cell? ⟨b, i + 3, none⟩ = some (.string x.seg.car) ∧ W.cell? ⟨b, i + 4, none⟩ = some (.int .i64 x.seg.num) ∧ W.cell? ⟨b, i + 5, none⟩ = some (.int .i64 x.seg.day) ∧ W.cell? ⟨b, i + 6, none⟩ = some (.int .u8 x.seg.cls) ∧ W.cell? ⟨b, i + 7, none⟩ = some (.bool x.seg.live) ∧ W.cell? ⟨b, i + 8, none⟩ = some (.int .i64 x.tik.kind) ∧ W.cell? ⟨b, i + 9, none⟩ = some (.int .i64 x.tik.day) ∧ W.cell? ⟨b, i + 10, none⟩ = some (.int .i64 x.tik.min) ∧ W.cell? ⟨b, i + 11, none⟩ = some (.string x.text) ∧ W.cell? ⟨b, i + 12, none⟩ = some (.int .i64 x.n) ∧ W.cell? ⟨b, i + 13, none⟩ = some (.int .i64 x.pax) ∧ W.cell? ⟨b, i + 14, none⟩ = some (.int .i64 x.row) ∧ W.cell? ⟨b, i + 15, none⟩ = some (.int .u8 x.let_)
theorem C16.keep {W W' : World} {b i : Nat} {x : Edit} (h : C16 W b i x) (hk : ∀ j, W'.cell? ⟨b, j, none⟩ = W.cell? ⟨b, j, none⟩) : C16 W' b i x := by
  obtain ⟨c0, c1, c2, c3, c4, c5, c6, c7, c8, c9, c10, c11, c12, c13, c14, c15⟩ := h
  exact ⟨(hk _).trans c0, (hk _).trans c1, (hk _).trans c2, (hk _).trans c3, (hk _).trans c4, (hk _).trans c5, (hk _).trans c6, (hk _).trans c7, (hk _).trans c8, (hk _).trans c9, (hk _).trans c10, (hk _).trans c11, (hk _).trans c12, (hk _).trans c13, (hk _).trans c14, (hk _).trans c15⟩
theorem C16.set {W : World} {b i : Nat} {x : Edit} (h : C16 W b i x) {p : Addr} (hp : b ≠ p.block) (u : Value) : C16 (W.setCell p u) b i x :=
  h.keep fun j => World.cell?_setCell_other W p _ u (fun e => hp (by rw [e]))
theorem C16.below {W W' : World} {b i B : Nat} {x : Edit} (h : C16 W b i x) (hb : Below B W W') (hB : b < B) : C16 W' b i x := h.keep fun j => hb.cell hB
/-- One box of the call's own. -/
structure F1 (w : World) (pc : Array Value) (W : World) : Prop where
  B : Below w.heap.size w W
  r1 : Bx W w.heap.size pc 29
section
variable {w W W1 : World} {pc : Array Value}
theorem F1.start (w : World) (pc : Array Value) : F1 w pc (w.alloc (.cells pc 29)) := ⟨(Below.refl _ _).alloc (Nat.le_refl _) _, Bx.new _ _ _⟩
theorem F1.z (H : F1 w pc W) : w.heap.size < W.heap.size := H.r1.lt
theorem F1.step (H : F1 w pc W) (hb : Below W.heap.size W W1) : F1 w pc W1 := ⟨H.B.trans (hb.mono (Nat.le_of_lt H.z)), H.r1.below hb H.r1.lt⟩
theorem F1.drew (H : F1 w pc W) : F1 w pc W.drew := H.step (below_drewN (Below.refl _ _) 1)
theorem F1.alloc (H : F1 w pc W) (o : Obj) : F1 w pc (W.alloc o) := H.step ((Below.refl _ _).alloc (Nat.le_refl _) o)
theorem F1.put (H : F1 w pc W) (cs : Array Value) : F1 w cs (W.setRow w.heap.size cs) := ⟨below_setRow H.B (Nat.le_refl _) _, H.r1.row _⟩
theorem F1.c1 (H : F1 w pc W) : ∀ i, W.cell? ⟨w.heap.size, i, none⟩ = pc[i]? := H.r1.cells
theorem F1.f1 (H : F1 w pc W) : ∀ i, W.frozen? ⟨w.heap.size, i, none⟩ = false := H.r1.free
theorem PS.over {w W W1 : World} {q : Pnr} {h : Hd} (hP : PS W (fun b => b ≠ w.heap.size ∧ b < W.heap.size) q h) (hb : Below W.heap.size W W1) : PS W1 (fun b => b ≠ w.heap.size ∧ b < W1.heap.size) q h :=
  (PS.below (B := W.heap.size) hP hb fun b hb => hb.2).mono fun b h => ⟨h.1, Nat.lt_of_lt_of_le h.2 hb.size⟩
theorem PS.put {w W : World} {q : Pnr} {h : Hd} (hP : PS W (fun b => b ≠ w.heap.size ∧ b < W.heap.size) q h) (cs : Array Value) : PS (W.setRow w.heap.size cs) (fun b => b ≠ w.heap.size ∧ b < (W.setRow w.heap.size cs).heap.size) q h :=
  (PS.keep hP fun a ha => cell_setRow_other _ _ _ _ ha.1).mono fun b h => ⟨h.1, by simpa using h.2⟩
/-- The end of the round's first part: the call first, then the box .. -/
theorem end_alloc {w wr w2 : World} {q q2 : Pnr} {hq h2 : Hd} (hF2 : F1 w pc w2) (hz : w.heap.size < wr.heap.size) (hP : PS w2 (fun b => b ≠ w.heap.size ∧ b < wr.heap.size) q hq) (hs : wr.heap.size ≤ w2.heap.size) (o2 : OP w2 wr.heap.size q2 h2) :
    F1 w pc (w2.alloc (.cells #[.string q2.loc, .string q2.off, .slice h2.an h2.nn h2.cn, .slice h2.ag h2.ng h2.cg, .slice h2.ap h2.np h2.cp, .int .i64 q2.tik.kind, .int .i64 q2.tik.day, .int .i64 q2.tik.min, .string q2.rc, .slice h2.ar h2.nr h2.cr, .slice h2.ae h2.ne h2.ce, .bool q2.queued] 29)) ∧ PS (w2.alloc (.cells #[.string q2.loc, .string q2.off, .slice h2.an h2.nn h2.cn, .slice h2.ag h2.ng h2.cg, .slice h2.ap h2.np h2.cp, .int .i64 q2.tik.kind, .int .i64 q2.tik.day, .int .i64 q2.tik.min, .string q2.rc, .slice h2.ar h2.nr h2.cr, .slice h2.ae h2.ne h2.ce, .bool q2.queued] 29)) (fun b => b ≠ w.heap.size ∧ b < (w2.alloc (.cells #[.string q2.loc, .string q2.off, .slice h2.an h2.nn h2.cn, .slice h2.ag h2.ng h2.cg, .slice h2.ap h2.np h2.cp, .int .i64 q2.tik.kind, .int .i64 q2.tik.day, .int .i64 q2.tik.min, .string q2.rc, .slice h2.ar h2.nr h2.cr, .slice h2.ae h2.ne h2.ce, .bool q2.queued] 29)).heap.size) q hq ∧ PS (w2.alloc (.cells #[.string q2.loc, .string q2.off, .slice h2.an h2.nn h2.cn, .slice h2.ag h2.ng h2.cg, .slice h2.ap h2.np h2.cp, .int .i64 q2.tik.kind, .int .i64 q2.tik.day, .int .i64 q2.tik.min, .string q2.rc, .slice h2.ar h2.nr h2.cr, .slice h2.ae h2.ne h2.ce, .bool q2.queued] 29)) (fun b => b ≠ w.heap.size ∧ b < (w2.alloc (.cells #[.string q2.loc, .string q2.off, .slice h2.an h2.nn h2.cn, .slice h2.ag h2.ng h2.cg, .slice h2.ap h2.np h2.cp, .int .i64 q2.tik.kind, .int .i64 q2.tik.day, .int .i64 q2.tik.min, .string q2.rc, .slice h2.ar h2.nr h2.cr, .slice h2.ae h2.ne h2.ce, .bool q2.queued] 29)).heap.size) q2 h2 ∧ Bx (w2.alloc (.cells #[.string q2.loc, .string q2.off, .slice h2.an h2.nn h2.cn, .slice h2.ag h2.ng h2.cg, .slice h2.ap h2.np h2.cp, .int .i64 q2.tik.kind, .int .i64 q2.tik.day, .int .i64 q2.tik.min, .string q2.rc, .slice h2.ar h2.nr h2.cr, .slice h2.ae h2.ne h2.ce, .bool q2.queued] 29)) w2.heap.size #[.string q2.loc, .string q2.off, .slice h2.an h2.nn h2.cn, .slice h2.ag h2.ng h2.cg, .slice h2.ap h2.np h2.cp, .int .i64 q2.tik.kind, .int .i64 q2.tik.day, .int .i64 q2.tik.min, .string q2.rc, .slice h2.ar h2.nr h2.cr, .slice h2.ae h2.ne h2.ce, .bool q2.queued] 29 ∧ w.heap.size < w2.heap.size :=
  ⟨hF2.alloc _, PS.over (hP.mono fun b h => ⟨h.1, by omega⟩) ((Below.refl _ _).alloc (Nat.le_refl _) _), PS.over (o2.ps.mono fun b h => ⟨by omega, h.2⟩) ((Below.refl _ _).alloc (Nat.le_refl _) _), Bx.new _ _ _, hF2.z⟩
/-- .. or the box first. -/
theorem end_store {w wr w2 : World} {q q2 : Pnr} {hq h2 : Hd} {zs : Array Value} (hF2 : F1 w pc w2) (hz : w.heap.size < wr.heap.size) (hP : PS w2 (fun b => b ≠ w.heap.size ∧ b < wr.heap.size) q hq) (hs : wr.heap.size < w2.heap.size) (o2 : OP w2 (wr.heap.size + 1) q2 h2) (hbx : Bx w2 wr.heap.size zs 29) :
    F1 w pc (w2.setRow wr.heap.size #[.string q2.loc, .string q2.off, .slice h2.an h2.nn h2.cn, .slice h2.ag h2.ng h2.cg, .slice h2.ap h2.np h2.cp, .int .i64 q2.tik.kind, .int .i64 q2.tik.day, .int .i64 q2.tik.min, .string q2.rc, .slice h2.ar h2.nr h2.cr, .slice h2.ae h2.ne h2.ce, .bool q2.queued]) ∧ PS (w2.setRow wr.heap.size #[.string q2.loc, .string q2.off, .slice h2.an h2.nn h2.cn, .slice h2.ag h2.ng h2.cg, .slice h2.ap h2.np h2.cp, .int .i64 q2.tik.kind, .int .i64 q2.tik.day, .int .i64 q2.tik.min, .string q2.rc, .slice h2.ar h2.nr h2.cr, .slice h2.ae h2.ne h2.ce, .bool q2.queued]) (fun b => b ≠ w.heap.size ∧ b < (w2.setRow wr.heap.size #[.string q2.loc, .string q2.off, .slice h2.an h2.nn h2.cn, .slice h2.ag h2.ng h2.cg, .slice h2.ap h2.np h2.cp, .int .i64 q2.tik.kind, .int .i64 q2.tik.day, .int .i64 q2.tik.min, .string q2.rc, .slice h2.ar h2.nr h2.cr, .slice h2.ae h2.ne h2.ce, .bool q2.queued]).heap.size) q hq ∧ PS (w2.setRow wr.heap.size #[.string q2.loc, .string q2.off, .slice h2.an h2.nn h2.cn, .slice h2.ag h2.ng h2.cg, .slice h2.ap h2.np h2.cp, .int .i64 q2.tik.kind, .int .i64 q2.tik.day, .int .i64 q2.tik.min, .string q2.rc, .slice h2.ar h2.nr h2.cr, .slice h2.ae h2.ne h2.ce, .bool q2.queued]) (fun b => b ≠ w.heap.size ∧ b < (w2.setRow wr.heap.size #[.string q2.loc, .string q2.off, .slice h2.an h2.nn h2.cn, .slice h2.ag h2.ng h2.cg, .slice h2.ap h2.np h2.cp, .int .i64 q2.tik.kind, .int .i64 q2.tik.day, .int .i64 q2.tik.min, .string q2.rc, .slice h2.ar h2.nr h2.cr, .slice h2.ae h2.ne h2.ce, .bool q2.queued]).heap.size) q2 h2 ∧ Bx (w2.setRow wr.heap.size #[.string q2.loc, .string q2.off, .slice h2.an h2.nn h2.cn, .slice h2.ag h2.ng h2.cg, .slice h2.ap h2.np h2.cp, .int .i64 q2.tik.kind, .int .i64 q2.tik.day, .int .i64 q2.tik.min, .string q2.rc, .slice h2.ar h2.nr h2.cr, .slice h2.ae h2.ne h2.ce, .bool q2.queued]) wr.heap.size #[.string q2.loc, .string q2.off, .slice h2.an h2.nn h2.cn, .slice h2.ag h2.ng h2.cg, .slice h2.ap h2.np h2.cp, .int .i64 q2.tik.kind, .int .i64 q2.tik.day, .int .i64 q2.tik.min, .string q2.rc, .slice h2.ar h2.nr h2.cr, .slice h2.ae h2.ne h2.ce, .bool q2.queued] 29 ∧ w.heap.size < wr.heap.size :=
  ⟨⟨below_setRow hF2.B (Nat.le_of_lt hz) _, hF2.r1.rowOther (by omega) _⟩, (PS.keep hP fun a ha => cell_setRow_other _ _ _ _ (by have := ha.2; omega)).mono fun b h => ⟨h.1, by have := h.2; simp; omega⟩,
    (PS.keep o2.ps fun a ha => cell_setRow_other _ _ _ _ (by have := ha.1; omega)).mono fun b h => ⟨by have := h.1; omega, by have := h.2; simpa using this⟩, hbx.row _, hz⟩
end
theorem get_eq {α : Type} {l : List α} {k : Nat} {x : α} (h : l[k]? = some x) : l[k]'(lt_of_get h) = x := by
  have h2 := h
  rw [List.getElem?_eq_getElem (lt_of_get h)] at h2
  injection h2
theorem pnr0_small (N : Nat) : pnr0.small N := ⟨by simp [pnr0], by simp [pnr0], by simp [pnr0], by simp [pnr0], by simp [pnr0]⟩
end Go.Proofs.YtaakcccffmfmoaaDoor

