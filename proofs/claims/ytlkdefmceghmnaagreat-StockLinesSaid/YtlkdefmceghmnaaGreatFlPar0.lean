/- Pairs of flights, in rows; what a right flight's times are. -/
import Derived.Test.YtlkdefmceghmnaaGreatFlRef3
namespace Go.Proofs.YtlkdefmceghmnaaGreat
set_option linter.unusedVariables false
open Go Go.RowKit
abbrev Par := FlR × FlR
def flatP (l : List Par) : List FlR := l.flatMap fun x => [x.1, x.2]
def parF (x : Par) : Flt × Flt := (x.1.f, x.2.f)
theorem mem_flatP {l : List Par} {r : FlR} : r ∈ flatP l ↔ ∃ x ∈ l, r = x.1 ∨ r = x.2 := by
  unfold flatP
  rw [List.mem_flatMap]
  simp
theorem flatP_append (l m : List Par) : flatP (l ++ m) = flatP l ++ flatP m := by simp [flatP]
theorem right_min {f : Flt} (h : rightB f = true) : 0 ≤ f.dep ∧ f.dep < 1440 ∧ 0 ≤ f.arr ∧ f.arr < 1440 := by
  unfold rightB minB at h
  simp only [Bool.and_eq_true, decide_eq_true_eq] at h
  omega
theorem eqTx_yes {a b : ByteArray} (h : eqTx a b = true) : a.toList = b.toList := by rw [← eqTx_l] at h; simpa using h
theorem eqTx_of {a b : ByteArray} (h : a.toList = b.toList) : eqTx a b = true := by rw [← eqTx_l]; simpa using h
/-- Two boxes that are made in a drawn order. -/
theorem Bx.two1 (w : World) (A B : Array Value) (t s : TypeId) : Bx ((w.alloc (.cells A t)).alloc (.cells B s)).drew w.heap.size A t := (Bx.new w A t).alloc (.cells B s)
theorem Bx.two2 (w : World) (A B : Array Value) (t s : TypeId) : Bx ((w.alloc (.cells A t)).alloc (.cells B s)).drew (w.heap.size + 1) B s := by
  have h := Bx.new (w.alloc (.cells A t)) B s
  rw [World.size_alloc] at h
  exact h
theorem Bx.two3 (w : World) (A B : Array Value) (t s : TypeId) : Below w.heap.size w ((w.alloc (.cells A t)).alloc (.cells B s)).drew := (((Below.refl _ _).alloc (Nat.le_refl _) _).alloc (by simp) _).drew
end Go.Proofs.YtlkdefmceghmnaaGreat
