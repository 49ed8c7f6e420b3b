/- AreaEdits: the frames of a round. -/
import Derived.Test.YtfbalabmidobeaaDoorArea9
import Derived.Deep.WholeRow
namespace Go.Proofs.YtfbalabmidobeaaDoor
set_option linter.unusedVariables false
open Go Go.RowKit
/-- An edit's cells. -/
def C16 (W : World) (b i : Nat) (x : Edit) : Prop := W.cell? ⟨b, i, none⟩ = some (.int .i64 x.kind) ∧ W.cell? ⟨b, i + 1, none⟩ = some (.string x.nam.last) ∧ W.cell? ⟨b, i + 2, none⟩ = some (.string x.nam.first) ∧ W.cell? ⟨b, i + 3, none⟩ = some (.string x.seg.car) ∧ W.cell? ⟨b, i + 4, none⟩ = some (.int .i64 x.seg.num) ∧ W.cell? ⟨b, i + 5, none⟩ = some (.int .i64 x.seg.day) ∧ W.cell? ⟨b, i + 6, none⟩ = some (.int .u8 x.seg.cls) ∧ W.cell? ⟨b, i + 7, none⟩ = some (.bool x.seg.live) ∧ W.cell? ⟨b, i + 8, none⟩ = some (.int .i64 x.tik.kind) ∧ W.cell? ⟨b, i + 9, none⟩ = some (.int .i64 x.tik.day) ∧ W.cell? ⟨b, i + 10, none⟩ = some (.int .i64 x.tik.min) ∧ W.cell? ⟨b, i + 11, none⟩ = some (.string x.text) ∧ W.cell? ⟨b, i + 12, none⟩ = some (.int .i64 x.n) ∧ W.cell? ⟨b, i + 13, none⟩ = some (.int .i64 x.pax) ∧ W.cell? ⟨b, i + 14, none⟩ = some (.int .i64 x.row) ∧ W.cell? ⟨b, i + 15, none⟩ = some (.int .u8 x.let_)
theorem C16.keep {W W' : World} {b i : Nat} {x : Edit} (h : C16 W b i x) (hk : ∀ j, W'.cell? ⟨b, j, none⟩ = W.cell? ⟨b, j, none⟩) : C16 W' b i x := by
  obtain ⟨c0, c1, c2, c3, c4, c5, c6, c7, c8, c9, c10, c11, c12, c13, c14, c15⟩ := h
  exact ⟨(hk _).trans c0, (hk _).trans c1, (hk _).trans c2, (hk _).trans c3, (hk _).trans c4, (hk _).trans c5, (hk _).trans c6, (hk _).trans c7, (hk _).trans c8, (hk _).trans c9, (hk _).trans c10, (hk _).trans c11, (hk _).trans c12, (hk _).trans c13, (hk _).trans c14, (hk _).trans c15⟩
theorem C16.set {W : World} {b i : Nat} {x : Edit} (h : C16 W b i x) {p : Addr} (hp : b ≠ p.block) (u : Value) : C16 (W.setCell p u) b i x :=
  h.keep fun j => World.cell?_setCell_other W p _ u (fun e => hp (by rw [e]))
theorem C16.below {W W' : World} {b i B : Nat} {x : Edit} (h : C16 W b i x) (hb : Below B W W') (hB : b < B) : C16 W' b i x := h.keep fun j => hb.cell hB
theorem Bx.set12 {W : World} {g : Nat} {cs : Array Value} {t : TypeId} (h : Bx W g cs t) {g' : Nat} (hne : g ≠ g') (a0 a1 a2 a3 a4 a5 a6 a7 a8 a9 a10 a11 : Value) : Bx ((((((((((((W.setCell ⟨g', 0, none⟩ a0).setCell ⟨g', 1, none⟩ a1).setCell ⟨g', 2, none⟩ a2).setCell ⟨g', 3, none⟩ a3).setCell ⟨g', 4, none⟩ a4).setCell ⟨g', 5, none⟩ a5).setCell ⟨g', 6, none⟩ a6).setCell ⟨g', 7, none⟩ a7).setCell ⟨g', 8, none⟩ a8).setCell ⟨g', 9, none⟩ a9).setCell ⟨g', 10, none⟩ a10).setCell ⟨g', 11, none⟩ a11) g cs t := (Bx.other (p := ⟨g', 11, none⟩) (Bx.other (p := ⟨g', 10, none⟩) (Bx.other (p := ⟨g', 9, none⟩) (Bx.other (p := ⟨g', 8, none⟩) (Bx.other (p := ⟨g', 7, none⟩) (Bx.other (p := ⟨g', 6, none⟩) (Bx.other (p := ⟨g', 5, none⟩) (Bx.other (p := ⟨g', 4, none⟩) (Bx.other (p := ⟨g', 3, none⟩) (Bx.other (p := ⟨g', 2, none⟩) (Bx.other (p := ⟨g', 1, none⟩) (Bx.other (p := ⟨g', 0, none⟩) h hne a0) hne a1) hne a2) hne a3) hne a4) hne a5) hne a6) hne a7) hne a8) hne a9) hne a10) hne a11)
theorem C16.row {W : World} {b i : Nat} {x : Edit} (h : C16 W b i x) {g : Nat} (hg : b ≠ g) (cs : Array Value) : C16 (W.setRow g cs) b i x := h.keep fun j => cell_setRow_other _ _ _ _ hg
/-- The round's first part: the document's new PNR in a box. -/
structure R10 (w : World) (p : Pnr) (hp : Hd) (g5 g7 : Nat) (a : Ar) (h1 : AH) (q : Pnr) (hq : Hd) (g10 : Nat) (q2 : Pnr) (hq2 : Hd) (W : World) : Prop where
  H : RE w p hp g5 g7 a h1 q hq W
  b10 : Bx W g10 #[.string q2.loc, .string q2.off, .slice hq2.an hq2.nn hq2.cn, .slice hq2.ag hq2.ng hq2.cg, .slice hq2.ap hq2.np hq2.cp, .int .i64 q2.tik.kind, .int .i64 q2.tik.day, .int .i64 q2.tik.min, .string q2.rc, .slice hq2.ar hq2.nr hq2.cr, .slice hq2.ae hq2.ne hq2.ce, .bool q2.queued] 29
  Q2 : PS W (fun b => b ≠ g5 ∧ b ≠ g7 ∧ b ≠ g10 ∧ b < W.heap.size) q2 hq2
  z10 : g7 < g10
section
variable {w W W1 W2 : World} {p q q2 : Pnr} {hp hq hq2 : Hd} {g5 g7 g10 : Nat} {a : Ar} {h1 : AH}
/-- A new box that is written behind a call. -/
theorem RE.boxed (H : RE w p hp g5 g7 a h1 q hq W) {o : Obj} (hb : Below (W.alloc o).heap.size (W.alloc o) W2) (cs : Array Value) : RE w p hp g5 g7 a h1 q hq (W2.setRow W.heap.size cs) := by
  have hb1 : Below W.heap.size W W2 := ((Below.refl _ _).alloc (Nat.le_refl _) o).trans (hb.mono (by simp))
  have hz : W.heap.size < W2.heap.size := by have := hb.size; simp at this; omega
  exact (H.step hb1).row H.z7 cs ((((H.A.below (D := W.heap.size) hb1 fun b h => h.2.2)).keep fun u hu => cell_setRow_other _ _ _ _ (by have := hu.2.2; omega)).mono fun b h => ⟨h.1, h.2.1, by have := h.2.2; simp; omega⟩)
    ((PS.keep (PS.below (B := W.heap.size) H.Q hb1 fun b h => h.2.2) fun u hu => cell_setRow_other _ _ _ _ (by have := hu.2.2; omega)).mono fun b h => ⟨h.1, h.2.1, by have := h.2.2; simp; omega⟩)
theorem R10.step (H : R10 w p hp g5 g7 a h1 q hq g10 q2 hq2 W) (hb : Below W.heap.size W W1) : R10 w p hp g5 g7 a h1 q hq g10 q2 hq2 W1 :=
  ⟨H.H.step hb, H.b10.below hb H.b10.lt, (PS.below (B := W.heap.size) H.Q2 hb fun b h => h.2.2.2).mono fun b h => ⟨h.1, h.2.1, h.2.2.1, Nat.lt_of_lt_of_le h.2.2.2 hb.size⟩, H.z10⟩
theorem R10.drew (H : R10 w p hp g5 g7 a h1 q hq g10 q2 hq2 W) : R10 w p hp g5 g7 a h1 q hq g10 q2 hq2 W.drew := H.step ((Below.refl _ _).drew)
theorem R10.alloc (H : R10 w p hp g5 g7 a h1 q hq g10 q2 hq2 W) (o : Obj) : R10 w p hp g5 g7 a h1 q hq g10 q2 hq2 (W.alloc o) := H.step ((Below.refl _ _).alloc (Nat.le_refl _) o)
theorem R10.boxed (H : R10 w p hp g5 g7 a h1 q hq g10 q2 hq2 W) {o : Obj} (hb : Below (W.alloc o).heap.size (W.alloc o) W2) (cs : Array Value) : R10 w p hp g5 g7 a h1 q hq g10 q2 hq2 (W2.setRow W.heap.size cs) := by
  have hb1 : Below W.heap.size W W2 := ((Below.refl _ _).alloc (Nat.le_refl _) o).trans (hb.mono (by simp))
  have hz : W.heap.size < W2.heap.size := by have := hb.size; simp at this; omega
  have hl := H.b10.lt
  exact ⟨H.H.boxed hb cs, (H.b10.below hb1 hl).rowOther (by omega) _, (PS.keep (PS.below (B := W.heap.size) H.Q2 hb1 fun b h => h.2.2.2) fun u hu => cell_setRow_other _ _ _ _ (by have := hu.2.2.2; omega)).mono fun b h => ⟨h.1, h.2.1, h.2.2.1, by have := h.2.2.2; simp; omega⟩, H.z10⟩
/-- The call first, then the box. -/
theorem R10.of1 {t : TypeId} (H : RE w p hp g5 g7 a h1 q hq W) (hb : Below W.heap.size W W2) (p2 : PS W2 (fun b => (b ≠ g5 ∧ b ≠ g7 ∧ b < W.heap.size) ∨ (W.heap.size ≤ b ∧ b < W2.heap.size)) q2 hq2) (ht : t = 29) : R10 w p hp g5 g7 a h1 q hq W2.heap.size q2 hq2 (W2.alloc (.cells #[.string q2.loc, .string q2.off, .slice hq2.an hq2.nn hq2.cn, .slice hq2.ag hq2.ng hq2.cg, .slice hq2.ap hq2.np hq2.cp, .int .i64 q2.tik.kind, .int .i64 q2.tik.day, .int .i64 q2.tik.min, .string q2.rc, .slice hq2.ar hq2.nr hq2.cr, .slice hq2.ae hq2.ne hq2.ce, .bool q2.queued] t)) := by
  subst ht
  have hz := H.z7
  have hz5 := H.z5
  have hs := hb.size
  exact ⟨(H.step hb).alloc _, Bx.new _ _ _, (PS.below (B := W2.heap.size) p2 ((Below.refl _ _).alloc (Nat.le_refl _) _) (fun b hb => by rcases hb with hb | hb; have := hb.2.2; omega; exact hb.2)).mono (fun b hb => by
    rcases hb with hb | hb
    · have v4 := hb.2.2
      exact ⟨hb.1, hb.2.1, by omega, by simp; omega⟩
    · have v2 := hb.1
      have v3 := hb.2
      exact ⟨by omega, by omega, by omega, by simp; omega⟩), by omega⟩
/-- The box first, then the call. -/
theorem R10.of2 (H : RE w p hp g5 g7 a h1 q hq W) {zs : Array Value} (hb : Below (W.alloc (.cells zs 29)).heap.size (W.alloc (.cells zs 29)) W2) (p2 : PS W2 (fun b => (b ≠ g5 ∧ b ≠ g7 ∧ b < W.heap.size) ∨ ((W.alloc (.cells zs 29)).heap.size ≤ b ∧ b < W2.heap.size)) q2 hq2) : R10 w p hp g5 g7 a h1 q hq W.heap.size q2 hq2 (W2.setRow W.heap.size #[.string q2.loc, .string q2.off, .slice hq2.an hq2.nn hq2.cn, .slice hq2.ag hq2.ng hq2.cg, .slice hq2.ap hq2.np hq2.cp, .int .i64 q2.tik.kind, .int .i64 q2.tik.day, .int .i64 q2.tik.min, .string q2.rc, .slice hq2.ar hq2.nr hq2.cr, .slice hq2.ae hq2.ne hq2.ce, .bool q2.queued]) := by
  have hz := H.z7
  have hz5 := H.z5
  have hs := hb.size
  simp only [World.size_alloc] at hs
  exact ⟨H.boxed hb _, ((Bx.new W zs 29).below hb (by simp)).row _, (PS.keep p2 (fun u hu => cell_setRow_other _ _ _ _ (by rcases hu with hu | hu; have := hu.2.2; omega; have := hu.1; simp at this; omega))).mono (fun b hb => by
    rcases hb with hb | hb
    · have v4 := hb.2.2
      exact ⟨hb.1, hb.2.1, by omega, by simp; omega⟩
    · have v2 := hb.1
      have v3 := hb.2
      simp at v2
      exact ⟨by omega, by omega, by omega, by simp; omega⟩), hz⟩
end
/-- The round's second part: the edited area in a box besides. -/
structure R12 (w : World) (p : Pnr) (hp : Hd) (g5 g7 : Nat) (a : Ar) (h1 : AH) (q : Pnr) (hq : Hd) (g10 : Nat) (q2 : Pnr) (hq2 : Hd) (g12 : Nat) (a2 : Ar) (h2 : AH) (W : World) : Prop where
  H : R10 w p hp g5 g7 a h1 q hq g10 q2 hq2 W
  b12 : Bx W g12 #[.string a2.agent, .string a2.off, .bool a2.open_, .string a2.base.loc, .string a2.base.off, .slice h2.b.an h2.b.nn h2.b.cn, .slice h2.b.ag h2.b.ng h2.b.cg, .slice h2.b.ap h2.b.np h2.b.cp, .int .i64 a2.base.tik.kind, .int .i64 a2.base.tik.day, .int .i64 a2.base.tik.min, .string a2.base.rc, .slice h2.b.ar h2.b.nr h2.b.cr, .slice h2.b.ae h2.b.ne h2.b.ce, .bool a2.base.queued, .int .u64 a2.ver, .slice h2.ad h2.nd h2.cd, .slice h2.al h2.nl h2.cl, .bool a2.working, .int .i64 a2.queue] 36
  A2 : AS W (fun b => b ≠ g5 ∧ b ≠ g7 ∧ b < W.heap.size) a2 h2
  z12 : g10 < g12
section
variable {w W W1 W2 : World} {p q q2 : Pnr} {hp hq hq2 : Hd} {g5 g7 g10 : Nat} {a a2 : Ar} {h1 h2 : AH}
theorem R12.of1 (H : R10 w p hp g5 g7 a h1 q hq g10 q2 hq2 W) (hb : Below W.heap.size W W2) (o : OA W2 W.heap.size a2 h2) : R12 w p hp g5 g7 a h1 q hq g10 q2 hq2 W2.heap.size a2 h2 (W2.alloc (.cells #[.string a2.agent, .string a2.off, .bool a2.open_, .string a2.base.loc, .string a2.base.off, .slice h2.b.an h2.b.nn h2.b.cn, .slice h2.b.ag h2.b.ng h2.b.cg, .slice h2.b.ap h2.b.np h2.b.cp, .int .i64 a2.base.tik.kind, .int .i64 a2.base.tik.day, .int .i64 a2.base.tik.min, .string a2.base.rc, .slice h2.b.ar h2.b.nr h2.b.cr, .slice h2.b.ae h2.b.ne h2.b.ce, .bool a2.base.queued, .int .u64 a2.ver, .slice h2.ad h2.nd h2.cd, .slice h2.al h2.nl h2.cl, .bool a2.working, .int .i64 a2.queue] 36)) := by
  have hz := H.b10.lt
  have hz5 := H.H.z5
  have hz7 := H.z10
  have hs := hb.size
  exact ⟨(H.step hb).alloc _, Bx.new _ _ _, (o.alloc _).as.mono fun b h => ⟨by omega, by omega, h.2⟩, by omega⟩
theorem R12.of2 (H : R10 w p hp g5 g7 a h1 q hq g10 q2 hq2 W) {zs : Array Value} (hb : Below (W.alloc (.cells zs 36)).heap.size (W.alloc (.cells zs 36)) W2) (o : OA W2 (W.heap.size + 1) a2 h2) : R12 w p hp g5 g7 a h1 q hq g10 q2 hq2 W.heap.size a2 h2 (W2.setRow W.heap.size #[.string a2.agent, .string a2.off, .bool a2.open_, .string a2.base.loc, .string a2.base.off, .slice h2.b.an h2.b.nn h2.b.cn, .slice h2.b.ag h2.b.ng h2.b.cg, .slice h2.b.ap h2.b.np h2.b.cp, .int .i64 a2.base.tik.kind, .int .i64 a2.base.tik.day, .int .i64 a2.base.tik.min, .string a2.base.rc, .slice h2.b.ar h2.b.nr h2.b.cr, .slice h2.b.ae h2.b.ne h2.b.ce, .bool a2.base.queued, .int .u64 a2.ver, .slice h2.ad h2.nd h2.cd, .slice h2.al h2.nl h2.cl, .bool a2.working, .int .i64 a2.queue]) := by
  have hz := H.b10.lt
  have hz5 := H.H.z5
  have hz7 := H.z10
  exact ⟨H.boxed hb _, ((Bx.new W zs 36).below hb (by simp)).row _, (o.rowAt (Nat.lt_succ_self _) _).as.mono fun b h => ⟨by omega, by omega, h.2⟩, hz⟩
end
/-- A whole area's store as one word. -/
noncomputable def storeA (p v : Value) : Sem Unit := Instr.storeAt 36 p v
theorem storeA_eq (p v : Value) : Instr.storeAt 36 p v = storeA p v := rfl
theorem sta_of {W : World} {g : Nat} {cs old : Array Value} (hr : Bx W g old 36) (h20 : cs.size = 20) (ho : old.size = 20) (h1 : (cs.all fun v => v.oneCell') = true) : (storeA (.pointer (some ⟨g, 0, none⟩)) (.agg cs)).run Tryd.prog W = .ok () (W.setRow g cs) := by
  unfold storeA
  simp only [Instr.storeAt, Instr.sureAddr, Sem.run_bind, Sem.run_pure, Result.andThen_ok, run_storeVar_row (P := Tryd.prog) W g 36 36 old cs hr (by rw [h20]; exact info_area) (by rw [h20, ho]) h1]
theorem sta_new (W : World) {cs zs : Array Value} (h20 : cs.size = 20) (ho : zs.size = 20) (h1 : (cs.all fun v => v.oneCell') = true) : (storeA (.pointer (some ⟨W.heap.size, 0, none⟩)) (.agg cs)).run Tryd.prog (W.alloc (.cells zs 36)) = .ok () (W.alloc (.cells cs 36)) :=
  run_storeAt_new W 36 zs cs (by rw [h20]; exact info_area) (by rw [h20, ho]) h1
/-- One PNR in two places. -/
theorem psame (p : Pnr) (h g : Hd) (W : World) (S S' : Nat → Prop) (h1 : PS W S p h) (h2 : PS W S' p g) (b1 : ∀ b, S b → b < W.heap.size) (b2 : ∀ b, S' b → b < W.heap.size) (hs : p.small 100000) :
    Calls Tryd.prog 10 #[.agg #[.string p.loc, .string p.off, .slice h.an h.nn h.cn, .slice h.ag h.ng h.cg, .slice h.ap h.np h.cp, .int .i64 p.tik.kind, .int .i64 p.tik.day, .int .i64 p.tik.min, .string p.rc, .slice h.ar h.nr h.cr, .slice h.ae h.ne h.ce, .bool p.queued], .agg #[.string p.loc, .string p.off, .slice g.an g.nn g.cn, .slice g.ag g.ng g.cg, .slice g.ap g.np g.cp, .int .i64 p.tik.kind, .int .i64 p.tik.day, .int .i64 p.tik.min, .string p.rc, .slice g.ar g.nr g.cr, .slice g.ae g.ne g.ce, .bool p.queued]] W (RetB W true) := by
  have t1 : PAt W 0 W.heap.size p h := h1.at fun b hb => ⟨Nat.zero_le _, b1 b hb⟩
  have t2 : PAt W 0 W.heap.size p g := h2.at fun b hb => ⟨Nat.zero_le _, b2 b hb⟩
  have key := rsame_any p p h g W 0 W.heap.size 0 W.heap.size t1 t2 (hs.hd t1) (hs.hd t2) (Nat.le_refl _) (Nat.le_refl _)
  rw [show decide (p = p) = true from decide_eq_true rfl] at key
  exact key
theorem psame2 {p p' : Pnr} (e : p' = p) (h g : Hd) (W : World) (S S' : Nat → Prop) (h1 : PS W S p' h) (h2 : PS W S' p g) (b1 : ∀ b, S b → b < W.heap.size) (b2 : ∀ b, S' b → b < W.heap.size) (hs : p.small 100000) :
    Calls Tryd.prog 10 #[.agg #[.string p'.loc, .string p'.off, .slice h.an h.nn h.cn, .slice h.ag h.ng h.cg, .slice h.ap h.np h.cp, .int .i64 p'.tik.kind, .int .i64 p'.tik.day, .int .i64 p'.tik.min, .string p'.rc, .slice h.ar h.nr h.cr, .slice h.ae h.ne h.ce, .bool p'.queued], .agg #[.string p.loc, .string p.off, .slice g.an g.nn g.cn, .slice g.ag g.ng g.cg, .slice g.ap g.np g.cp, .int .i64 p.tik.kind, .int .i64 p.tik.day, .int .i64 p.tik.min, .string p.rc, .slice g.ar g.nr g.cr, .slice g.ae g.ne g.ce, .bool p.queued]] W (RetB W true) := by
  subst e
  exact psame p' h g W S S' h1 h2 b1 b2 hs
/-- What an edit more makes of an area. -/
theorem ed_round {a a3 : Ar} {q q2 : Pnr} {x : Edit} {e3 f2 : Int} (hs : noOne a = false) (h : Took a q) (h3 : editF a x = (a3, e3)) (h2 : applyF q x = (q2, f2)) :
    (100 ≤ a.edits.length → e3 = 18) ∧ (a.edits.length < 100 → f2 ≠ 0 → e3 = f2) ∧ (a.edits.length < 100 → f2 = 0 → e3 = 0 ∧ Took a3 q2 ∧ a3.base = a.base ∧ a3.ver = a.ver ∧ noOne a3 = false ∧ a3.edits.length = a.edits.length + 1 ∧ a3.legs = a.legs) := by
  refine ⟨fun hn => ?_, fun hn h0 => ?_, fun hn h0 => ?_⟩
  · have := edit_many (x := x) hs hn
    rw [h3] at this
    exact congrArg Prod.snd this
  · have := (edit_law (x := x) hs h hn).2 (by rw [h2]; exact h0)
    rw [h3, h2] at this
    exact congrArg Prod.snd this
  · obtain ⟨l1, l2⟩ := (edit_law (x := x) hs h hn).1 (by rw [h2]; exact h0)
    rw [h3] at l1
    rw [h2] at l2
    obtain ⟨rfl, rfl⟩ := Prod.mk.inj l1
    exact ⟨rfl, l2, rfl, rfl, hs, by simp, rfl⟩
section
variable {w W W1 : World} {p q : Pnr} {hp hq : Hd} {g5 g7 : Nat} {a : Ar} {h1 : AH}
/-- Both locals are written, the other one first. -/
theorem RE.turn2 {a2 : Ar} {h2 : AH} {q2 : Pnr} {hq2 : Hd} (H : RE w p hp g5 g7 a h1 q hq W) (hA : AS W (fun b => b ≠ g5 ∧ b ≠ g7 ∧ b < W.heap.size) a2 h2) (hQ : PS W (fun b => b ≠ g5 ∧ b ≠ g7 ∧ b < W.heap.size) q2 hq2) :
    RE w p hp g5 g7 a2 h2 q2 hq2 ((W.setRow g7 #[.string q2.loc, .string q2.off, .slice hq2.an hq2.nn hq2.cn, .slice hq2.ag hq2.ng hq2.cg, .slice hq2.ap hq2.np hq2.cp, .int .i64 q2.tik.kind, .int .i64 q2.tik.day, .int .i64 q2.tik.min, .string q2.rc, .slice hq2.ar hq2.nr hq2.cr, .slice hq2.ae hq2.ne hq2.ce, .bool q2.queued]).setRow g5 #[.string a2.agent, .string a2.off, .bool a2.open_, .string a2.base.loc, .string a2.base.off, .slice h2.b.an h2.b.nn h2.b.cn, .slice h2.b.ag h2.b.ng h2.b.cg, .slice h2.b.ap h2.b.np h2.b.cp, .int .i64 a2.base.tik.kind, .int .i64 a2.base.tik.day, .int .i64 a2.base.tik.min, .string a2.base.rc, .slice h2.b.ar h2.b.nr h2.b.cr, .slice h2.b.ae h2.b.ne h2.b.ce, .bool a2.base.queued, .int .u64 a2.ver, .slice h2.ad h2.nd h2.cd, .slice h2.al h2.nl h2.cl, .bool a2.working, .int .i64 a2.queue]) := by
  have e1 := H.z
  have e2 := H.z5
  have k : ∀ b : Addr, (b.block ≠ g5 ∧ b.block ≠ g7 ∧ b.block < W.heap.size) → ((W.setRow g7 #[.string q2.loc, .string q2.off, .slice hq2.an hq2.nn hq2.cn, .slice hq2.ag hq2.ng hq2.cg, .slice hq2.ap hq2.np hq2.cp, .int .i64 q2.tik.kind, .int .i64 q2.tik.day, .int .i64 q2.tik.min, .string q2.rc, .slice hq2.ar hq2.nr hq2.cr, .slice hq2.ae hq2.ne hq2.ce, .bool q2.queued]).setRow g5 #[.string a2.agent, .string a2.off, .bool a2.open_, .string a2.base.loc, .string a2.base.off, .slice h2.b.an h2.b.nn h2.b.cn, .slice h2.b.ag h2.b.ng h2.b.cg, .slice h2.b.ap h2.b.np h2.b.cp, .int .i64 a2.base.tik.kind, .int .i64 a2.base.tik.day, .int .i64 a2.base.tik.min, .string a2.base.rc, .slice h2.b.ar h2.b.nr h2.b.cr, .slice h2.b.ae h2.b.ne h2.b.ce, .bool a2.base.queued, .int .u64 a2.ver, .slice h2.ad h2.nd h2.cd, .slice h2.al h2.nl h2.cl, .bool a2.working, .int .i64 a2.queue]).cell? b = W.cell? b := fun b hb => (cell_setRow_other _ _ _ _ hb.1).trans (cell_setRow_other _ _ _ _ hb.2.1)
  exact ⟨below_setRow (below_setRow H.B (by omega) _) (by omega) _, (H.bp.rowOther (by omega) _).rowOther (by omega) _, (H.b5.rowOther (by omega) _).row _, (H.b7.row _).rowOther (by omega) _,
    (hA.keep k).mono fun b h => ⟨h.1, h.2.1, by simpa using h.2.2⟩, (PS.keep hQ k).mono fun b h => ⟨h.1, h.2.1, by simpa using h.2.2⟩, H.z, H.z5⟩
end
end Go.Proofs.YtfbalabmidobeaaDoor
