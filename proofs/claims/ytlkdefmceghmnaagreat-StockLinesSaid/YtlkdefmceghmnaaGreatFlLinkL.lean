/- What is true of every link that is told: its flights are told from city to city, and no link is told twice. No program walked. -/
import Derived.Test.YtlkdefmceghmnaaGreatFlRef3
namespace Go.Proofs.YtlkdefmceghmnaaGreat
set_option linter.unusedVariables false
open Go Go.RowKit
theorem mem_betw {l : List Flt} (h : Nok l) {d : Int} {a b : ByteArray} {x : Flt} : x ∈ betwF l d a b ↔ x ∈ l ∧ wayB d a b x = true := by
  unfold betwF
  rw [(h.filter _).all.2, List.mem_filter]
theorem linkB_all {a b : ByteArray} {x y : Flt} (h : linkB a b x y = true) : x.frm = a ∧ x.to_ = y.frm ∧ y.to_ = b ∧ x.dep ≤ x.arr ∧ x.arr + 45 ≤ y.dep := by
  unfold linkB at h
  simp only [Bool.and_eq_true, decide_eq_true_eq] at h
  obtain ⟨h1, h2, h3, h4, h5⟩ := h
  exact ⟨h1, h2, h3, h4, by omega⟩
theorem links_two {l : List Flt} (h : Nok l) {d : Int} {a b : ByteArray} {x : Flt × Flt} (hx : x ∈ linksF l d a b) :
    x.1 ∈ betwF l d a x.1.to_ ∧ x.2 ∈ betwF l d x.1.to_ b ∧ x.1.arr + 45 ≤ x.2.dep ∧ x.1.dep ≤ x.1.arr := by
  obtain ⟨⟨h1, h2⟩, ⟨h3, h4⟩, h5⟩ := (mem_links h).1 hx
  obtain ⟨g1, g2, g3, g4, g5⟩ := linkB_all h5
  refine ⟨(mem_betw h).2 ⟨h1, ?_⟩, (mem_betw h).2 ⟨h3, ?_⟩, g5, g4⟩
  · unfold wayB; simp [h2, g1]
  · unfold wayB; simp [h4, g2, g3]
theorem links_apart {l : List Flt} (h : Nok l) {d : Int} {a b : ByteArray} {i k : Nat} {x y : Flt × Flt} (hx : (linksF l d a b)[i]? = some x) (hy : (linksF l d a b)[k]? = some y) (hk : k < i)
    (h1 : y.1.key = x.1.key) (h2 : y.2.key = x.2.key) : False := by
  have hr := links_ris h d a b
  obtain ⟨hi, rfl⟩ := List.getElem?_eq_some_iff.1 hx
  obtain ⟨hk', rfl⟩ := List.getElem?_eq_some_iff.1 hy
  have hl := List.pairwise_iff_getElem.1 hr k i hk' hi hk
  obtain ⟨⟨p1, _⟩, ⟨p2, _⟩, _⟩ := (mem_links h).1 (List.getElem_mem hi)
  obtain ⟨⟨q1, _⟩, ⟨q2, _⟩, _⟩ := (mem_links h).1 (List.getElem_mem hk')
  have e : (linksF l d a b)[k] = (linksF l d a b)[i] := Prod.ext (h.inj q1 p1 h1) (h.inj q2 p2 h2)
  rw [e, lts_p.irr] at hl
  cases hl
theorem pairs_len (m : List Flt) (p : Flt → Flt → Bool) : ∀ l : List Flt, (pairsF l m p).length ≤ l.length * m.length
  | [] => by simp [pairsF]
  | a :: l => by
    have h := pairs_len m p l
    unfold pairsF at h ⊢
    rw [List.flatMap_cons, List.length_append, List.length_map, List.length_cons, Nat.succ_mul]
    have := List.length_filter_le (p a) m
    omega
theorem links_len (l : List Flt) (d : Int) (a b : ByteArray) : (linksF l d a b).length ≤ l.length * l.length := by
  unfold linksF
  refine Nat.le_trans (pairs_len _ _ _) ?_
  rw [len_allL]
  exact Nat.mul_le_mul (List.length_filter_le _ _) (List.length_filter_le _ _)
end Go.Proofs.YtlkdefmceghmnaaGreat
