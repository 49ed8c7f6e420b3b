/- Flights in another order, and those of a day alone: the plain laws. No program walked. -/
import Derived.Test.YtodholjbefifeaaDoorFlLinkL
import Derived.Test.YtodholjbefifeaaDoorFlRef2
namespace Go.Proofs.YtodholjbefifeaaDoor
set_option linter.unusedVariables false
open Go Go.RowKit
theorem newF_perm {l m : List Flt} (h : l.Perm m) : newF l = newF m := by
  have e1 : l.length = m.length := h.length_eq
  have e2 : l.all rightB = m.all rightB := by
    rw [Bool.eq_iff_iff, List.all_eq_true, List.all_eq_true]
    exact ⟨fun g x hx => g x (h.mem_iff.2 hx), fun g x hx => g x (h.mem_iff.1 hx)⟩
  have e3 : (l.map Flt.key).Nodup ↔ (m.map Flt.key).Nodup := (h.map _).nodup_iff
  unfold newF
  rw [e1, e2]
  simp only [e3]
theorem Tab.same {l m L M : List Flt} (h : Tab l L) (h2 : Tab m M) (hp : ∀ x, x ∈ l ↔ x ∈ m) : L = M := RisL.eq lts_f h.ris h2.ris fun x => by rw [h.mem, h2.mem, hp]
theorem betw_on (l : List Flt) (d : Int) (a b : ByteArray) : betwF (l.filter fun f => onB f d) d a b = betwF l d a b := by
  unfold betwF
  rw [List.filter_filter]
  congr 1
  refine List.filter_congr fun x _ => ?_
  unfold wayB
  cases onB x d <;> simp
theorem links_on (l : List Flt) (d : Int) (a b : ByteArray) : linksF (l.filter fun f => onB f d) d a b = linksF l d a b := by
  unfold linksF
  rw [List.filter_filter]
  simp only [Bool.and_self]
theorem Tab.newsub {l L m : List Flt} (T : Tab l L) (h : m.Sublist l) : newF m = 0 :=
  newF_ok (by have := h.length_le; have := T.most; omega) (fun f hf => T.right f (h.subset hf)) (T.nod.sublist (h.map _))
theorem Tab.onf {l L : List Flt} (T : Tab l L) {f : Flt} (hf : f ∈ l) (d : Int) : fliesF l ⟨f.key, d⟩ = onB f d := by
  unfold fliesF
  show (match findF l f.key with | some f => onB f d | none => false) = _
  rw [T.nok.find hf]
end Go.Proofs.YtodholjbefifeaaDoor
