/- The document's All and Between. -/
import Derived.Test.YtlkdefmceghmnaaGreatDoorFlRef2
namespace Go.Proofs.YtlkdefmceghmnaaGreatDoor
set_option linter.unusedVariables false
open Go Go.RowKit Go.Sort
section
variable {α : Type} (lt : α → α → Bool)
theorem allL_snoc (l : List α) (x : α) : allL lt (l ++ [x]) = insL lt x (allL lt l) := by simp [allL]
theorem mem_foldIns : ∀ (l acc : List α) (y : α), y ∈ l.foldl (fun acc x => insL lt x acc) acc ↔ y ∈ acc ∨ y ∈ l
  | [], acc, y => by simp
  | a :: l, acc, y => by
    rw [List.foldl_cons, mem_foldIns l, mem_insL, List.mem_cons]
    constructor
    · rintro ((h | h) | h)
      · exact .inr (.inl h)
      · exact .inl h
      · exact .inr (.inr h)
    · rintro (h | h | h)
      · exact .inl (.inr h)
      · exact .inl (.inl h)
      · exact .inr h
theorem mem_allL (l : List α) (y : α) : y ∈ allL lt l ↔ y ∈ l := by unfold allL; rw [mem_foldIns]; simp
theorem len_foldIns : ∀ (l acc : List α), (l.foldl (fun acc x => insL lt x acc) acc).length = acc.length + l.length
  | [], acc => by simp
  | a :: l, acc => by rw [List.foldl_cons, len_foldIns l, length_insL, List.length_cons]; omega
theorem len_allL (l : List α) : (allL lt l).length = l.length := by unfold allL; rw [len_foldIns]; simp
end
theorem insL_f (lt : Flt → Flt → Bool) (r : FlR) : ∀ l : List FlR, (insL (byF lt) r l).map (·.f) = insL lt r.f (l.map (·.f))
  | [] => rfl
  | s :: l => by
    unfold insL
    rw [List.map_cons]
    by_cases h : lt r.f s.f = true
    · rw [if_pos (show byF lt r s = true from h)]
      simp only [h, if_true, List.map_cons]
    · rw [if_neg (show ¬ byF lt r s = true from h)]
      rw [List.map_cons, insL_f lt r l]
      simp only [h]
      rfl
theorem foldIns_f (lt : Flt → Flt → Bool) : ∀ l acc : List FlR, (l.foldl (fun acc x => insL (byF lt) x acc) acc).map (·.f) = (l.map (·.f)).foldl (fun acc x => insL lt x acc) (acc.map (·.f))
  | [], acc => rfl
  | a :: l, acc => by rw [List.foldl_cons, foldIns_f lt l, insL_f]; rfl
theorem allL_f (lt : Flt → Flt → Bool) (l : List FlR) : (allL (byF lt) l).map (·.f) = allL lt (l.map (·.f)) := foldIns_f lt l []
theorem filter_f (p : Flt → Bool) (l : List FlR) : (l.filter fun r => p r.f).map (·.f) = (l.map (·.f)).filter p := by
  rw [List.filter_map]; rfl
/-- A list of rows out of an old one, in new memory. -/
theorem fls_own {w W : World} {lo hi n c B : Nat} {A A' : Option Addr} {m : Nat} {rl out : List FlR} {E : TypeId} (hs : FlS w lo hi A n rl) (hb : Below w.heap.size w W) (hhi : hi ≤ w.heap.size) (ho : Own W B E tFl (.slice A' m c) out) (hm : ∀ r ∈ out, r ∈ rl) : FlS W 0 W.heap.size A' m out :=
  ⟨ho.sl.more (Nat.zero_le _) (Nat.le_refl _), fun r hr => ((hs.cl r (hm r hr)).below hb hhi).more (Nat.zero_le _) (Nat.le_trans hhi hb.size)⟩
end Go.Proofs.YtlkdefmceghmnaaGreatDoor
