/- Blocks known whole: a call's boxes for a PNR and an edit, and the block of its result; what such a call hands back. -/
import Derived.Test.YtpgeoahlhdifoaaGreatDoorMApply
import Derived.Laws.ResultCell
namespace Go.Proofs.YtpgeoahlhdifoaaGreatDoor
set_option linter.unusedVariables false
open Go Go.RowKit
/-- Block b holds just these cells, and may be written. -/
def Bx (w : World) (b : Nat) (cs : Array Value) (t : TypeId) : Prop := w.heap[b]? = some (.cells cs t (0, 0))
section
variable {w w1 : World} {b : Nat} {cs : Array Value} {t : TypeId}
theorem Bx.new (w : World) (cs : Array Value) (t : TypeId) : Bx (w.alloc (.cells cs t)) w.heap.size cs t := heap_alloc_new w _
theorem Bx.lt (h : Bx w b cs t) : b < w.heap.size := (Array.getElem?_eq_some_iff.1 h).1
theorem Bx.below {B : Nat} (h : Bx w b cs t) (hb : Below B w w1) (hB : b < B) : Bx w1 b cs t := (hb.block b hB).trans h
theorem Bx.alloc (h : Bx w b cs t) (o : Obj) : Bx (w.alloc o) b cs t := (heap_alloc_old w o h.lt).trans h
theorem Bx.drewN (h : Bx w b cs t) (n : Nat) : Bx (w.drewN n) b cs t := h
theorem Bx.cells (h : Bx w b cs t) : ∀ i, w.cell? ⟨b, i, none⟩ = cs[i]? := fun i => cell_of_row w b i cs t (0, 0) h
theorem Bx.free (h : Bx w b cs t) : ∀ i, w.frozen? ⟨b, i, none⟩ = false := fun i => by have h' : w.heap[b]? = _ := h; simp [World.frozen?, h']
theorem Bx.put (h : Bx w b cs t) (i : Nat) (u : Value) : Bx (w.setCell ⟨b, i, none⟩ u) b (cs.setIfInBounds i u) t := by
  unfold Bx
  rw [setCell_eq_setRow w b i cs t (0, 0) u h]
  exact setRow_heap w b cs _ t _ h
theorem Bx.other (h : Bx w b cs t) {p : Addr} (hp : b ≠ p.block) (u : Value) : Bx (w.setCell p u) b cs t := (Below.heap_setCell w p u b hp).trans h
theorem Bx.row (h : Bx w b cs t) (cs' : Array Value) : Bx (w.setRow b cs') b cs' t := setRow_heap w b cs _ t _ h
theorem Bx.rowOther {g : Nat} (h : Bx w b cs t) (hg : b ≠ g) (cs' : Array Value) : Bx (w.setRow g cs') b cs t := (setRow_other w g b cs' hg).trans h
theorem Bx.grown {row : Option Nat} (h : Bx w b cs t) (hg : w.grownBy w1 row) (hr : row ≠ some b) : Bx w1 b cs t := (hg.block b h.lt (Ne.symm hr)).trans h
theorem below_setRow {B g : Nat} {a : World} (h : Below B a w) (hg : B ≤ g) (cs' : Array Value) : Below B a (w.setRow g cs') :=
  h.trans ⟨rfl, rfl, rfl, by simp, fun k hk => setRow_other w g k cs' (by omega)⟩
end
/-- A PNR (its cells pc) and an edit in boxes of the call's own, and the block of the result (its cells rc). -/
structure FR (w : World) (pc ec rc : Array Value) (W : World) : Prop where
  B : Below w.heap.size w W
  r1 : Bx W w.heap.size pc 29
  r2 : Bx W (w.heap.size + 1) ec 50
  r3 : Bx W (w.heap.size + 1 + 1) rc 29
/-- The cells of the empty PNR. -/
def zc : Array Value := #[.string ⟨#[]⟩, .string ⟨#[]⟩, .slice none 0 0, .slice none 0 0, .slice none 0 0, .int .i64 0, .int .i64 0, .int .i64 0, .string ⟨#[]⟩, .slice none 0 0, .slice none 0 0, .bool false]
section
variable {w : World} {pc ec rc : Array Value} {W W1 : World}
theorem FR.start (w : World) (pc ec rc : Array Value) : FR w pc ec rc (((w.alloc (.cells pc 29)).alloc (.cells ec 50)).alloc (.cells rc 29)) :=
  ⟨(((Below.refl _ _).alloc (Nat.le_refl _) _).alloc (by simp) _).alloc (by simp; omega) _, ((Bx.new _ _ _).alloc _).alloc _,
    by have := (Bx.new (w.alloc (.cells pc 29)) ec 50).alloc (.cells rc 29); rw [World.size_alloc] at this; exact this,
    by have := Bx.new ((w.alloc (.cells pc 29)).alloc (.cells ec 50)) rc 29; rw [World.size_alloc, World.size_alloc] at this; exact this⟩
theorem FR.z (H : FR w pc ec rc W) : w.heap.size + 1 + 1 < W.heap.size := H.r3.lt
theorem FR.step (H : FR w pc ec rc W) (hb : Below W.heap.size W W1) : FR w pc ec rc W1 :=
  ⟨H.B.trans (hb.mono (by have := H.z; omega)), H.r1.below hb H.r1.lt, H.r2.below hb H.r2.lt, H.r3.below hb H.r3.lt⟩
/-- A call that turned blocks from w.heap.size + 3 on alone. -/
theorem FR.over (H : FR w pc ec rc W) (hb : Below (w.heap.size + 3) W W1) : FR w pc ec rc W1 :=
  ⟨H.B.trans (hb.mono (by omega)), H.r1.below hb (by omega), H.r2.below hb (by omega), H.r3.below hb (by omega)⟩
theorem FR.alloc (H : FR w pc ec rc W) (o : Obj) : FR w pc ec rc (W.alloc o) := H.step ((Below.refl _ _).alloc (Nat.le_refl _) _)
theorem FR.drewN (H : FR w pc ec rc W) (n : Nat) : FR w pc ec rc (W.drewN n) := ⟨below_drewN H.B n, H.r1, H.r2, H.r3⟩
theorem FR.drew (H : FR w pc ec rc W) : FR w pc ec rc W.drew := H.drewN 1
theorem FR.put1 (H : FR w pc ec rc W) (i : Nat) (u : Value) : FR w (pc.setIfInBounds i u) ec rc (W.setCell ⟨w.heap.size, i, none⟩ u) :=
  ⟨H.B.setCell (Nat.le_refl _) _, H.r1.put i u, H.r2.other (by simp) u, H.r3.other (by simp; omega) u⟩
theorem FR.put3 (H : FR w pc ec rc W) (cs : Array Value) : FR w pc ec cs (W.setRow (w.heap.size + 1 + 1) cs) :=
  ⟨below_setRow H.B (by omega) _, H.r1.rowOther (by omega) _, H.r2.rowOther (by omega) _, H.r3.row cs⟩
theorem FR.c1 (H : FR w pc ec rc W) : ∀ i, W.cell? ⟨w.heap.size, i, none⟩ = pc[i]? := H.r1.cells
theorem FR.c2 (H : FR w pc ec rc W) : ∀ i, W.cell? ⟨w.heap.size + 1, i, none⟩ = ec[i]? := H.r2.cells
theorem FR.c3 (H : FR w pc ec rc W) : ∀ i, W.cell? ⟨w.heap.size + 1 + 1, i, none⟩ = rc[i]? := H.r3.cells
theorem FR.f1 (H : FR w pc ec rc W) : ∀ i, W.frozen? ⟨w.heap.size, i, none⟩ = false := H.r1.free
theorem FR.f3 (H : FR w pc ec rc W) : ∀ i, W.frozen? ⟨w.heap.size + 1 + 1, i, none⟩ = false := H.r3.free
end
theorem info_pnr : (Tryz.prog.info? 29).map (·.size) = some 12 := by kernel_rfl
/-- The end of a call that hands back a PNR out of its block, and a number. -/
theorem ret_ct {fn : Func} {p u : Tmp} (h : fn.results = #[.cell p 29, .tmp u]) {R : Ending → World → Prop} {a : Act} {w : World} {g : Nat} {cs : Array Value} {v : Value}
    (hr : Bx w g cs 29) (hs : cs.size = 12) (hp : a.tmps.getD p undef = .pointer (some ⟨g, 0, none⟩)) (hv : a.tmps.getD u undef = v) (hd : a.defers = []) (hR : R (.returned (.tuple #[.agg cs, v])) w) : bodyPost Tryz.prog fn R .ret a w := by
  refine bodyPost_ret (v := .tuple #[.agg cs, v]) ?_ hd hR
  rw [results_cell_tmp h, hp]
  have hl := run_loadVar_row (P := Tryz.prog) w g 29 29 cs (0, 0) _ hr Tryz.underlying29 rfl (by rw [hs]; exact info_pnr)
  simp [asAddr, hl, hv, Result.andThen]
/-- What an edit hands back: a PNR in old or new memory, and an error's number. -/
def RetQ (w : World) (S : Nat → Prop) (r : Pnr × Int) (en : Ending) (w' : World) : Prop :=
  ∃ h', en = .returned (.tuple #[.agg #[.string r.1.loc, .string r.1.off, .slice h'.an h'.nn h'.cn, .slice h'.ag h'.ng h'.cg, .slice h'.ap h'.np h'.cp, .int .i64 r.1.tik.kind, .int .i64 r.1.tik.day, .int .i64 r.1.tik.min, .string r.1.rc, .slice h'.ar h'.nr h'.cr, .slice h'.ae h'.ne h'.ce, .bool r.1.queued], .int .i64 r.2]) ∧ PS w' (fun b => S b ∨ (w.heap.size ≤ b ∧ b < w'.heap.size)) r.1 h' ∧ Below w.heap.size w w'
theorem RetQ.mk' {w w' : World} {S : Nat → Prop} {r : Pnr × Int} {q : Pnr} {n : Int} {h' : Hd} (e : r = (q, n)) (hp : PS w' (fun b => S b ∨ (w.heap.size ≤ b ∧ b < w'.heap.size)) q h') (hb : Below w.heap.size w w') :
    RetQ w S r (.returned (.tuple #[.agg #[.string q.loc, .string q.off, .slice h'.an h'.nn h'.cn, .slice h'.ag h'.ng h'.cg, .slice h'.ap h'.np h'.cp, .int .i64 q.tik.kind, .int .i64 q.tik.day, .int .i64 q.tik.min, .string q.rc, .slice h'.ar h'.nr h'.cr, .slice h'.ae h'.ne h'.ce, .bool q.queued], .int .i64 n])) w' := by
  subst e
  exact ⟨h', rfl, hp, hb⟩
end Go.Proofs.YtpgeoahlhdifoaaGreatDoor
