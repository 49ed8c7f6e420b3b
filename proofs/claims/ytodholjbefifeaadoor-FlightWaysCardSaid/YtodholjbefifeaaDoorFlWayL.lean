/- The document's Links in rows: they tell the pairs of the document's. No program walked. -/
import Derived.Test.YtodholjbefifeaaDoorFlRef3
import Derived.Test.YtodholjbefifeaaDoorFlPar0
namespace Go.Proofs.YtodholjbefifeaaDoor
set_option linter.unusedVariables false
open Go Go.RowKit
/-- The links whose first flight is a, in l's order. -/
def rowR (l : List FlR) (fr to_ : ByteArray) (a : FlR) : List Par := (l.filter fun b => linkB fr to_ a.f b.f).map fun b => (a, b)
def rlG (al l : List FlR) (fr to_ : ByteArray) : List Par := l.flatMap (rowR al fr to_)
theorem rlG_snoc (al l : List FlR) (fr to_ : ByteArray) (a : FlR) : rlG al (l ++ [a]) fr to_ = rlG al l fr to_ ++ rowR al fr to_ a := by simp [rlG]
theorem rowR_f (l : List FlR) (fr to_ : ByteArray) (a : FlR) : (rowR l fr to_ a).map parF = ((l.map (·.f)).filter (linkB fr to_ a.f)).map fun y => (a.f, y) := by
  rw [← filter_f (linkB fr to_ a.f) l]
  unfold rowR
  rw [List.map_map, List.map_map]
  rfl
theorem rlG_f (al : List FlR) (fr to_ : ByteArray) : ∀ l : List FlR, (rlG al l fr to_).map parF = pairsF (l.map (·.f)) (al.map (·.f)) (linkB fr to_)
  | [] => rfl
  | a :: l => by
    have h := rlG_f al fr to_ l
    unfold rlG pairsF at h ⊢
    rw [List.map_cons, List.flatMap_cons, List.flatMap_cons, List.map_append, rowR_f, h]
/-- The flights of the day, by time. -/
def dayR (rl : List FlR) (d : Int) : List FlR := allL (byF ltT) (rl.filter fun r => onB r.f d)
theorem rlinks_f (rl : List FlR) (d : Int) (fr to_ : ByteArray) : (rlG (dayR rl d) (dayR rl d) fr to_).map parF = linksF (rl.map (·.f)) d fr to_ := by
  rw [rlG_f]
  unfold dayR
  rw [allL_f, filter_f fun f => onB f d]
  rfl
theorem mem_rlG {rl : List FlR} {d : Int} {fr to_ : ByteArray} {r : FlR} (h : r ∈ flatP (rlG (dayR rl d) (dayR rl d) fr to_)) : r ∈ rl := by
  obtain ⟨x, hx, hr⟩ := mem_flatP.1 h
  obtain ⟨a, ha, hx⟩ := List.mem_flatMap.1 hx
  obtain ⟨b, hb, rfl⟩ := List.mem_map.1 hx
  have hb := (List.mem_filter.1 hb).1
  have g : ∀ y, y ∈ dayR rl d → y ∈ rl := fun y hy => (List.mem_filter.1 ((mem_allL _ _ _).1 hy)).1
  rcases hr with rfl | rfl
  · exact g _ ha
  · exact g _ hb
theorem rowR_len (l : List FlR) (fr to_ : ByteArray) (a : FlR) : (rowR l fr to_ a).length ≤ l.length := by
  unfold rowR
  rw [List.length_map]
  exact List.length_filter_le _ _
theorem rlG_len (al : List FlR) (fr to_ : ByteArray) : ∀ l : List FlR, (rlG al l fr to_).length ≤ l.length * al.length
  | [] => by simp [rlG]
  | a :: l => by
    have h := rlG_len al fr to_ l
    unfold rlG at h ⊢
    rw [List.flatMap_cons, List.length_append, List.length_cons, Nat.succ_mul]
    have := rowR_len al fr to_ a
    omega
end Go.Proofs.YtodholjbefifeaaDoor
