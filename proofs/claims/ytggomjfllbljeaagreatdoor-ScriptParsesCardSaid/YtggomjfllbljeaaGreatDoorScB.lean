/- Scripts: what blocks may turn; a cursor in a box. -/
import Derived.Test.YtggomjfllbljeaaGreatDoorMMaps
import Derived.Test.YtggomjfllbljeaaGreatDoorGen
import Derived.Deep.RegionHeld3
import Derived.Deep.QuietTactic
import Derived.BigQuiet
namespace Go.Proofs.YtggomjfllbljeaaGreatDoor
set_option linter.unusedVariables false
open Go Go.RowKit
/-- Blocks beside S lie as they lay. -/
structure Kp (S : Nat → Prop) (W W' : World) : Prop where
  os : W'.os = W.os
  tape : W'.tape = W.tape
  output : W'.output = W.output
  size : W.heap.size ≤ W'.heap.size
  block : ∀ k, k < W.heap.size → ¬ S k → W'.heap[k]? = W.heap[k]?
section
variable {S S' : Nat → Prop} {W W1 W2 : World} {B : Nat} {a : World}
theorem Kp.refl (S : Nat → Prop) (W : World) : Kp S W W := ⟨rfl, rfl, rfl, Nat.le_refl _, fun _ _ _ => rfl⟩
theorem Kp.of (h : Below W.heap.size W W1) : Kp S W W1 := ⟨h.os, h.tape, h.output, h.size, fun k hk _ => h.block k hk⟩
theorem Kp.trans (h : Kp S W W1) (h2 : Kp S' W1 W2) (hS : ∀ b, b < W.heap.size → S' b → S b) : Kp S W W2 :=
  ⟨h2.os.trans h.os, h2.tape.trans h.tape, h2.output.trans h.output, Nat.le_trans h.size h2.size, fun k hk hn => (h2.block k (Nat.lt_of_lt_of_le hk h.size) fun e => hn (hS k hk e)).trans (h.block k hk hn)⟩
theorem Kp.mono (h : Kp S W W1) (hS : ∀ b, S b → S' b) : Kp S' W W1 := ⟨h.os, h.tape, h.output, h.size, fun k hk hn => h.block k hk fun e => hn (hS k e)⟩
theorem Kp.below (h : Kp S W W1) (hb : Below B a W) (h0 : B ≤ a.heap.size) (hB : ∀ b, b < W.heap.size → S b → B ≤ b) : Below B a W1 :=
  hb.trans ⟨h.os, h.tape, h.output, by have := hb.size; have := h.size; omega, fun k hk => h.block k (by have := hb.size; omega) fun e => by have := hB k (by have := hb.size; omega) e; omega⟩
theorem Kp.bx (h : Kp S W W1) {b : Nat} {cs : Array Value} {t : TypeId} (hx : Bx W b cs t) (hn : ¬ S b) : Bx W1 b cs t := (h.block b hx.lt hn).trans hx
theorem Kp.set (h : Kp S W W1) {p : Addr} (hp : S p.block) (u : Value) : Kp S W (W1.setCell p u) :=
  ⟨h.os, h.tape, h.output, by simpa using h.size, fun k hk hn => (Below.heap_setCell W1 p u k (fun e => hn (by rw [e]; exact hp))).trans (h.block k hk hn)⟩
theorem Kp.drewN (h : Kp S W W1) (n : Nat) : Kp S W (W1.drewN n) := ⟨h.os, h.tape, h.output, h.size, h.block⟩
theorem Kp.drew (h : Kp S W W1) : Kp S W W1.drew := ⟨h.os, h.tape, h.output, h.size, h.block⟩
theorem Kp.alloc (h : Kp S W W1) (o : Obj) : Kp S W (W1.alloc o) := h.trans (S' := S) (Kp.of ((Below.refl _ _).alloc (Nat.le_refl _) o)) fun _ _ e => e
end
/-- A cursor in a block: its text, its place. -/
structure Cu (W : World) (b : Nat) (s : ByteArray) (a : Int) : Prop where
  t : W.cell? ⟨b, 0, none⟩ = some (.string s)
  a : W.cell? ⟨b, 1, none⟩ = some (.int .i64 a)
  f : W.frozen? ⟨b, 1, none⟩ = false
  lt : b < W.heap.size
section
variable {W W1 : World} {b : Nat} {s : ByteArray} {a : Int}
theorem Cu.keep (h : Cu W b s a) (hb : W1.heap[b]? = W.heap[b]?) (hz : W.heap.size ≤ W1.heap.size) : Cu W1 b s a :=
  ⟨(World.cell?_of_block (a := ⟨b, 0, none⟩) hb).trans h.t, (World.cell?_of_block (a := ⟨b, 1, none⟩) hb).trans h.a, (World.frozen?_of_block (a := ⟨b, 1, none⟩) hb).trans h.f, Nat.lt_of_lt_of_le h.lt hz⟩
theorem Cu.set (h : Cu W b s a) (a' : Int) : Cu (W.setCell ⟨b, 1, none⟩ (.int .i64 a')) b s a' :=
  ⟨(World.cell?_setCell_other W _ _ _ (by simp)).trans h.t, World.cell?_setCell_same _ _ _ h.a, by rw [World.frozen?_setCell]; exact h.f, by simpa using h.lt⟩
end
end Go.Proofs.YtggomjfllbljeaaGreatDoor
