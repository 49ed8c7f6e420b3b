/- Blocks known whole. Over any program. -/
import Derived.Test.YtlkdefmceghmnaaGreatDoorLib
import Derived.Laws.ResultCell
import Derived.Laws.Tables
namespace Go.Proofs.YtlkdefmceghmnaaGreatDoor
set_option linter.unusedVariables false
open Go Go.RowKit
/-- Block b holds just these cells, and may be written. -/
def Bx (w : World) (b : Nat) (cs : Array Value) (t : TypeId) : Prop := w.heap[b]? = some (.cells cs t (0, 0))
section
variable {w w1 : World} {b : Nat} {cs : Array Value} {t : TypeId}
theorem Bx.new (w : World) (cs : Array Value) (t : TypeId) : Bx (w.alloc (.cells cs t)) w.heap.size cs t := heap_alloc_new w _
theorem Bx.lt (h : Bx w b cs t) : b < w.heap.size := (Array.getElem?_eq_some_iff.1 h).1
theorem Bx.below {B : Nat} (h : Bx w b cs t) (hb : Below B w w1) (hB : b < B) : Bx w1 b cs t := (hb.block b hB).trans h
theorem Bx.alloc (h : Bx w b cs t) (o : Obj) : Bx (w.alloc o) b cs t := (heap_alloc_old w o h.lt).trans h
theorem Bx.drewN (h : Bx w b cs t) (n : Nat) : Bx (w.drewN n) b cs t := h
theorem Bx.cells (h : Bx w b cs t) : ∀ i, w.cell? ⟨b, i, none⟩ = cs[i]? := fun i => cell_of_row w b i cs t (0, 0) h
theorem Bx.free (h : Bx w b cs t) : ∀ i, w.frozen? ⟨b, i, none⟩ = false := fun i => by have h' : w.heap[b]? = _ := h; simp [World.frozen?, h']
theorem Bx.put (h : Bx w b cs t) (i : Nat) (u : Value) : Bx (w.setCell ⟨b, i, none⟩ u) b (cs.setIfInBounds i u) t := by
  unfold Bx
  rw [setCell_eq_setRow w b i cs t (0, 0) u h]
  exact setRow_heap w b cs _ t _ h
theorem Bx.other (h : Bx w b cs t) {p : Addr} (hp : b ≠ p.block) (u : Value) : Bx (w.setCell p u) b cs t := (Below.heap_setCell w p u b hp).trans h
theorem Bx.row (h : Bx w b cs t) (cs' : Array Value) : Bx (w.setRow b cs') b cs' t := setRow_heap w b cs _ t _ h
theorem Bx.rowOther {g : Nat} (h : Bx w b cs t) (hg : b ≠ g) (cs' : Array Value) : Bx (w.setRow g cs') b cs t := (setRow_other w g b cs' hg).trans h
theorem Bx.grown {row : Option Nat} (h : Bx w b cs t) (hg : w.grownBy w1 row) (hr : row ≠ some b) : Bx w1 b cs t := (hg.block b h.lt (Ne.symm hr)).trans h
theorem below_setRow {B g : Nat} {a : World} (h : Below B a w) (hg : B ≤ g) (cs' : Array Value) : Below B a (w.setRow g cs') :=
  h.trans ⟨rfl, rfl, rfl, by simp, fun k hk => setRow_other w g k cs' (by omega)⟩
end
end Go.Proofs.YtlkdefmceghmnaaGreatDoor
