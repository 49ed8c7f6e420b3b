/- The document's put: a flight into a list in its place, by time or by key. By program. -/
import Derived.Test.YtlkdefmceghmnaaGreatDoorFlPut
import Derived.Test.YtlkdefmceghmnaaGreatDoorQuietB
namespace Go.Proofs.YtlkdefmceghmnaaGreatDoor
set_option linter.unusedVariables false
open Go Go.RowKit Go.Sort
section
variable {α : Type} (lt : α → α → Bool) (r : α)
/-- What the rounds make: the list so far, and whether the thing stands in it. -/
def stepP (p : List α × Bool) (x : α) : List α × Bool := if p.2 then (p.1 ++ [x], true) else if lt r x then (p.1 ++ [r] ++ [x], true) else (p.1 ++ [x], false)
def putP (l : List α) : List α × Bool := l.foldl (stepP lt r) ([], false)
theorem putP_snoc (l : List α) (x : α) : putP lt r (l ++ [x]) = stepP lt r (putP lt r l) x := by simp [putP]
theorem foldP_true : ∀ (l acc : List α), l.foldl (stepP lt r) (acc, true) = (acc ++ l, true) := by
  intro l
  induction l with
  | nil => intro acc; simp
  | cons x l ih => intro acc; rw [List.foldl_cons]; show l.foldl _ (acc ++ [x], true) = _; rw [ih]; simp
theorem foldP_fin : ∀ (l acc : List α), (let p := l.foldl (stepP lt r) (acc, false); if p.2 then p.1 else p.1 ++ [r]) = acc ++ insL lt r l := by
  intro l
  induction l with
  | nil => intro acc; simp [insL]
  | cons x l ih =>
    intro acc
    rw [List.foldl_cons]
    unfold insL
    by_cases h : lt r x = true
    · rw [show stepP lt r (acc, false) x = (acc ++ [r] ++ [x], true) by simp [stepP, h], foldP_true, if_pos h]
      simp
    · rw [show stepP lt r (acc, false) x = (acc ++ [x], false) by simp [stepP, h], if_neg h]
      have := ih (acc ++ [x])
      rw [this]
      simp
theorem putP_yes {l : List α} (h : (putP lt r l).2 = true) : insL lt r l = (putP lt r l).1 := by
  have := foldP_fin lt r l []
  unfold putP at h ⊢
  simp only [h, if_true, List.nil_append] at this
  exact this.symm
theorem putP_no {l : List α} (h : (putP lt r l).2 = false) : insL lt r l = (putP lt r l).1 ++ [r] := by
  have := foldP_fin lt r l []
  unfold putP at h ⊢
  simp only [h, List.nil_append] at this
  exact this.symm
theorem putP_len : ∀ (l acc : List α) (b : Bool), (l.foldl (stepP lt r) (acc, b)).1.length ≤ acc.length + l.length + 1
  | [], acc, b => by simp
  | x :: l, acc, b => by
    rw [List.foldl_cons]
    cases b with
    | true =>
      have := putP_len l (acc ++ [x]) true
      rw [show stepP lt r (acc, true) x = (acc ++ [x], true) from rfl]
      simp at this ⊢
      omega
    | false =>
      by_cases h : lt r x = true
      · rw [show stepP lt r (acc, false) x = (acc ++ [r] ++ [x], true) by simp [stepP, h], foldP_true]
        simp
        omega
      · rw [show stepP lt r (acc, false) x = (acc ++ [x], false) by simp [stepP, h]]
        have := putP_len l (acc ++ [x]) false
        simp at this ⊢
        omega
end
theorem FB.over {w W W1 : World} {r : FlR} (h : FB w r W) (hb : Below (w.heap.size + 1) W W1) : FB w r W1 := ⟨h.1.below hb (by omega), h.2.trans (hb.mono (by omega))⟩
def byF (lt : Flt → Flt → Bool) (a b : FlR) : Bool := lt a.f b.f
theorem take_snoc' {α : Type} {l : List α} {k : Nat} {x : α} (h : l[k]? = some x) : l.take (k + 1) = l.take k ++ [x] := by
  rw [List.take_add_one, h]; rfl

end Go.Proofs.YtlkdefmceghmnaaGreatDoor
