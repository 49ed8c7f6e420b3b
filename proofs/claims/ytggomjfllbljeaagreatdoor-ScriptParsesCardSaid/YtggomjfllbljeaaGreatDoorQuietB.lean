/- A region that draws its order, whose operations read old memory and whose calls make new memory at most: one walk in the order of the text. Over any program. -/
import Derived.Test.YtggomjfllbljeaaGreatDoorMLib
import Derived.Deep.QuietTactic
import Derived.BigQuiet
namespace Go.Proofs.YtggomjfllbljeaaGreatDoor
set_option linter.unusedVariables false
open Go Go.RowKit
/-- A world that is w, but for new memory. -/
structure Blw (w : World) where
  W : World
  b : Below w.heap.size w W
instance (w : World) : Nonempty (Blw w) := ⟨⟨w, Below.refl _ _⟩⟩
theorem Blw.cells (w : World) (t : Blw w) (b o : Nat) (h : b < w.heap.size) : t.W.cell? ⟨b, o, none⟩ = w.cell? ⟨b, o, none⟩ := t.b.cell (p := ⟨b, o, none⟩) h
/-- The lexical walk, behind a wall: no elaborator unfolds it. -/
structure QH (P : Program) (ops : Array Oper) (C : World → Prop) (Q : Act → Prop) (l : List Oper) (a : Act) : Prop where
  h : wpQuiet P ops C Q l a
theorem QH.step {P : Program} {ops : Array Oper} {C : World → Prop} {Q : Act → Prop} {a : Act} {o : Oper} {rest : List Oper}
    (h : ∀ K : Act → Prop, (∀ a, QH P ops C Q rest a → K a) → if Region.wanted o (yielded ops a.tmps) then o.quiet P a C K else K (a.put o.dst undef)) : QH P ops C Q (o :: rest) a :=
  ⟨wpQuiet_step fun K hK => h K fun a h => hK a h.h⟩
theorem QH.nil_ {P : Program} {ops : Array Oper} {C : World → Prop} {Q : Act → Prop} {a : Act} (h : Q a) : QH P ops C Q [] a := ⟨wpQuiet_nil h⟩
theorem wp_region_below {P : Program} {id : Nat} {Q : Exit → Act → World → Prop} {w : World} {a : Act} {l : List Oper} (hm : P.follows .mixedOrders = true) (hB : Region.lexB .any l.toArray = true)
    (h : (∀ (t : Blw w) (b o : Nat), b < w.heap.size → t.W.cell? ⟨b, o, none⟩ = w.cell? ⟨b, o, none⟩) → QH P l.toArray (fun w' => ∃ t : Blw w, w' = t.W) (fun a' => ∀ t : Blw w, Q .normal a' t.W) l a) : (Code.region id l.toArray true).wp P Q a w := by
  refine wp_region_quiet (C := fun w' => ∃ t : Blw w, w' = t.W) hm hB ⟨⟨_, (Below.refl _ _).drew⟩, rfl⟩ ?_
  have h2 := (h (Blw.cells w)).h
  have e : (fun a' => ∀ t : Blw w, Q .normal a' t.W) = fun a' => ∀ w', (∃ t : Blw w, w' = t.W) → Q .normal a' w' := by
    funext a'
    exact propext ⟨fun h w' ⟨t, ht⟩ => ht ▸ h t, fun h t => h _ ⟨t, rfl⟩⟩
  rw [e] at h2
  simpa using h2
/-- A callee's contract in such a region. -/
theorem Calls.blw {P : Program} {f : FuncId} {args : Array Value} {w : World} {v : Value} (t : Blw w)
    (h : Calls P f args t.W fun e w' => e = .returned v ∧ Below t.W.heap.size t.W w') : Calls P f args t.W fun e w' => e = .returned v ∧ ∃ t' : Blw w, w' = t'.W :=
  h.mono fun _ w' ⟨he, h2⟩ => ⟨he, ⟨w', t.b.trans (h2.mono t.b.size)⟩, rfl⟩
end Go.Proofs.YtggomjfllbljeaaGreatDoor
