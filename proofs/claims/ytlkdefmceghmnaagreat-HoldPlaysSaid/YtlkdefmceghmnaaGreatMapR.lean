/- A range over a map, in whatever order: its laws, whatever the keys are. Over any program. -/
import Derived.Test.YtlkdefmceghmnaaGreatMp
import Derived.Maps.RangeWalk
import Derived.Sort.MapsRangeIn
import Derived.RangeFuncSeq
namespace Go.Proofs.YtlkdefmceghmnaaGreat
set_option linter.unusedVariables false
open Go Go.RowKit
open Go.MapKept Go.ChangeMaps
/-- The iterator at block r goes over the map at block b; the stamps that it has handed out. -/
structure Rg (w : World) (b r : Nat) (es : Array MapEntry) (clock : Nat) (seen : Array Nat) : Prop where
  it : w.heap[r]? = some (.mapIter (some b) clock seen clock)
  mp : w.heap[b]? = some (.map es clock)
  lt : ∀ x ∈ es.toList, x.born < clock
section
variable {P : Program} {w w' : World} {b r : Nat} {es : Array MapEntry} {clock : Nat} {seen : Array Nat}
theorem Rg.keep (h : Rg w b r es clock seen) (h1 : w'.heap[r]? = w.heap[r]?) (h2 : w'.heap[b]? = w.heap[b]?) : Rg w' b r es clock seen := ⟨h1.trans h.it, h2.trans h.mp, h.lt⟩
theorem Rg.ne (h : Rg w b r es clock seen) : b ≠ r := fun e => by
  subst e
  have h1 := h.it
  rw [h.mp] at h1
  cases h1
theorem Rg.rlt (h : Rg w b r es clock seen) : r < w.heap.size := (Array.getElem?_eq_some_iff.1 h.it).1
theorem Rg.blt (h : Rg w b r es clock seen) : b < w.heap.size := (Array.getElem?_eq_some_iff.1 h.mp).1
theorem Rg.seen_eq (h : Rg w b r es clock seen) : w.iterSeen r = seen := by unfold World.iterSeen; rw [h.it]
theorem Rg.walk (h : Rg w b r es clock seen) : ∃ o : Obj, w.heap[r]? = some o ∧ o.isWalk = true := ⟨_, h.it, rfl⟩
theorem Rg.next (h : Rg w b r es clock seen) (hn : (es.toList.map (·.born)).Nodup) (ty : TypeId) :
    ((leftOf es seen).size = 0 ∧ (Instr.next (.pointer (some ⟨r, 0, none⟩)) false ty).run P w = .ok (.tuple #[.bool false]) w) ∨
    ∃ e ∈ (leftOf es seen).toList, ∃ w', (Instr.next (.pointer (some ⟨r, 0, none⟩)) false ty).run P w = .ok (.tuple #[.bool true, e.key, e.val]) w' ∧ Rg w' b r es clock (seen.push e.born) ∧
      w.grownBy w' (some r) ∧ w'.heap.size = w.heap.size ∧ (Instr.entry (.pointer (some ⟨r, 0, none⟩))).run P w' = .ok (.tuple #[e.key, e.val]) w' := by
  rcases run_next_at (P := P) w ty r b clock clock seen es clock h.it h.mp h.lt (Nat.le_refl _) with h0 | ⟨e, he, w1, hw1, hr⟩
  · exact .inl h0
  · have hh : w1.heap = w.heap := by rcases hw1 with rfl | rfl <;> rfl
    have h1 : w1.heap[r]? = some (.mapIter (some b) clock seen clock) := by rw [hh]; exact h.it
    have hW : Wr r w1 (setBlock w1 r (.mapIter (some b) clock (seen.push e.born) clock)) := ⟨_, rfl⟩
    have hg : Rg (setBlock w1 r (.mapIter (some b) clock (seen.push e.born) clock)) b r es clock (seen.push e.born) :=
      ⟨by have hlt := (Array.getElem?_eq_some_iff.1 h1).1; simp [setBlock, hlt], (hW.block h.ne).trans (by rw [hh]; exact h.mp), h.lt⟩
    refine .inr ⟨e, he, _, hr, hg, ⟨?_, ?_, ?_, ?_, fun k _ hk => (hW.block fun e => hk (by rw [e])).trans (by rw [hh])⟩, ?_, run_entry_at _ r b clock seen es clock e hg.it hg.mp (mem_left he).1 hn⟩
    · rcases hw1 with rfl | rfl <;> rfl
    · rcases hw1 with rfl | rfl <;> rfl
    · rcases hw1 with rfl | rfl <;> rfl
    · rw [hW.size, hh]; exact Nat.le_refl _
    · rw [hW.size, hh]
end
/-- The entries that have come, each once. -/
structure Come (es : Array MapEntry) (seen : Array Nat) (ls : List MapEntry) : Prop where
  nod : ls.Nodup
  mem : ∀ x, x ∈ ls ↔ x ∈ es.toList ∧ seen.contains x.born = true
section
variable {es : Array MapEntry} {seen : Array Nat} {ls : List MapEntry} {e : MapEntry}
theorem nodup_of_born {l : List MapEntry} (hn : (l.map (·.born)).Nodup) : l.Nodup := (List.pairwise_map.1 hn).imp fun h e => h (by rw [e])
theorem Come.start (es : Array MapEntry) : Come es #[] [] := ⟨List.nodup_nil, fun x => by simp⟩
theorem Come.step (h : Come es seen ls) (hn : (es.toList.map (·.born)).Nodup) (he : e ∈ (leftOf es seen).toList) : Come es (seen.push e.born) (ls ++ [e]) := by
  obtain ⟨h1, h2⟩ := mem_left he
  refine ⟨List.nodup_append.2 ⟨h.nod, by simp, fun x hx y hy e1 => ?_⟩, fun x => ?_⟩
  · rw [List.mem_singleton.1 hy] at e1
    subst e1
    rw [((h.mem x).1 hx).2] at h2
    cases h2
  · rw [List.mem_append, List.mem_singleton, h.mem, contains_push, Bool.or_eq_true, beq_iff_eq]
    constructor
    · rintro (⟨a1, a2⟩ | rfl)
      · exact ⟨a1, .inl a2⟩
      · exact ⟨h1, .inr rfl⟩
    · rintro ⟨a1, a2 | a2⟩
      · exact .inl ⟨a1, a2⟩
      · exact .inr (born_inj hn a1 h1 a2)
theorem Come.all (h : Come es seen ls) (hn : (es.toList.map (·.born)).Nodup) (h0 : (leftOf es seen).size = 0) : ls.Perm es.toList :=
  (List.perm_ext_iff_of_nodup h.nod (nodup_of_born hn)).2 fun x => by
    rw [h.mem]
    exact ⟨fun h => h.1, fun hx => ⟨hx, all_seen es seen h0 x hx⟩⟩
theorem Come.len (h : Come es seen ls) (hn : (es.toList.map (·.born)).Nodup) (he : e ∈ (leftOf es seen).toList) : ls.length < es.size := by
  have h2 := h.step hn he
  have hp : (ls ++ [e]).Perm (es.toList.filter fun x => (seen.push e.born).contains x.born) :=
    (List.perm_ext_iff_of_nodup h2.nod ((nodup_of_born hn).sublist List.filter_sublist)).2 fun x => by rw [h2.mem, List.mem_filter]
  have h3 := hp.length_eq
  have h4 := List.length_filter_le (fun x : MapEntry => (seen.push e.born).contains x.born) es.toList
  rw [List.length_append, List.length_singleton] at h3
  have h5 : es.toList.length = es.size := Array.length_toList
  omega
end
section
variable {α β : Type} {P : Program} {w : World} {ops : Array Oper} {rest : List Oper} {o : Oper} {a : Act} {Q : Exit → Act → World → Prop} {k e t : TypeId} {b r : Nat} {es : Array MapEntry} {clock : Nat} {seen : Array Nat}
/-- 'range m'. -/
theorem wpList_range_rg (hg : o.guard = none) (m : Operand) (hop : o.op = Op.range t m) (ht : P.underlying t = some (.map k e)) (hm : a.eval m = .map (some b)) (hb : w.heap[b]? = some (.map es clock)) (hlt : ∀ x ∈ es.toList, x.born < clock)
    (hK : ∀ w', Rg w' b w.heap.size es clock #[] → Below w.heap.size w w' → wpList P ops Q rest (a.put o.dst (.pointer (some ⟨w.heap.size, 0, none⟩))) w') : wpList P ops Q (o :: rest) a w := by
  refine wpList_plain hg fun K' hK' => ?_
  unfold Oper.wp
  simp only [execOp, hop, hm, Sem.run_bind, Sem.run_pure, run_range_map w t k e b es clock ht hb, Result.andThen]
  exact hK' _ _ (hK _ ⟨heap_alloc_new w _, (Below.heap_alloc w _ b (Array.getElem?_eq_some_iff.1 hb).1).trans hb, hlt⟩ ((Below.refl _ _).alloc (Nat.le_refl _) _))
/-- The step. -/
theorem wpList_next_rg (hg : o.guard = none) (it : Operand) (hop : o.op = Op.next it false) (mkK : α → Value) (mkV : β → Value) (hit : a.eval it = .pointer (some ⟨r, 0, none⟩)) (h : Rg w b r es clock seen) (hn : (es.toList.map (·.born)).Nodup)
    (invK : ∀ x ∈ es.toList, ∃ y, x.key = mkK y) (invV : ∀ x ∈ es.toList, ∃ y, x.val = mkV y)
    (hDone : (leftOf es seen).size = 0 → wpList P ops Q rest (a.put o.dst (.tuple #[.bool false])) w)
    (hMore : ∀ (x : MapEntry) (y : α) (z : β) (w' : World), x ∈ (leftOf es seen).toList → x.key = mkK y → x.val = mkV z → Rg w' b r es clock (seen.push x.born) → w.grownBy w' (some r) → w'.heap.size = w.heap.size →
      (Instr.entry (.pointer (some ⟨r, 0, none⟩))).run P w' = .ok (.tuple #[mkK y, mkV z]) w' → wpList P ops Q rest (a.put o.dst (.tuple #[.bool true, mkK y, mkV z])) w') : wpList P ops Q (o :: rest) a w := by
  refine wpList_plain hg fun K' hK' => ?_
  unfold Oper.wp
  rcases h.next (P := P) hn o.type with ⟨h0, hrun⟩ | ⟨x, hx, w', hrun, hr, hgr, hsz, hen⟩
  · simp [execOp, hop, hit, hrun, Result.andThen]
    exact hK' _ _ (hDone h0)
  · obtain ⟨y, hy⟩ := invK x (mem_left hx).1
    obtain ⟨z, hz⟩ := invV x (mem_left hx).1
    rw [hy, hz] at hrun hen
    simp [execOp, hop, hit, hrun, Result.andThen]
    exact hK' _ _ (hMore x y z w' hx hy hz hr hgr hsz hen)
variable {F : Fence} {n : Nat}
/-- 'range m', inside a fence. -/
theorem wpListIn_range_rg (hg : o.guard = none) (m : Operand) (hop : o.op = Op.range t m) (ht : P.underlying t = some (.map k e)) (hm : a.eval m = .map (some b)) (hb : w.heap[b]? = some (.map es clock)) (hlt : ∀ x ∈ es.toList, x.born < clock)
    (hK : ∀ w', Rg w' b w.heap.size es clock #[] → w.grownBy w' none → w'.heap.size = w.heap.size + 1 → wpListIn F n P ops Q rest (a.put o.dst (.pointer (some ⟨w.heap.size, 0, none⟩))) w') : wpListIn F n P ops Q (o :: rest) a w := by
  refine wpListIn_plain hg fun K' hK' => ?_
  unfold Oper.wpIn
  refine ⟨by simp [Oper.about, hop], ?_⟩
  rw [Oper.semAt_plain F _ _ (by rw [hop]; intro c hc'; cases hc')]
  simp only [execOp, hop, hm, Sem.run_bind, Sem.run_pure, run_range_map w t k e b es clock ht hb, Result.andThen]
  exact hK' _ _ (hK _ ⟨heap_alloc_new w _, (Below.heap_alloc w _ b (Array.getElem?_eq_some_iff.1 hb).1).trans hb, hlt⟩ (World.grownBy_alloc w _ none) (by simp))
theorem wpListIn_next_rg (hg : o.guard = none) (it : Operand) (hop : o.op = Op.next it false) (mkK : α → Value) (mkV : β → Value) (hit : a.eval it = .pointer (some ⟨r, 0, none⟩)) (h : Rg w b r es clock seen) (hn : (es.toList.map (·.born)).Nodup)
    (invK : ∀ x ∈ es.toList, ∃ y, x.key = mkK y) (invV : ∀ x ∈ es.toList, ∃ y, x.val = mkV y)
    (hDone : (leftOf es seen).size = 0 → wpListIn F n P ops Q rest (a.put o.dst (.tuple #[.bool false])) w)
    (hMore : ∀ (x : MapEntry) (y : α) (z : β) (w' : World), x ∈ (leftOf es seen).toList → x.key = mkK y → x.val = mkV z → Rg w' b r es clock (seen.push x.born) → w.grownBy w' (some r) → w'.heap.size = w.heap.size →
      (Instr.entry (.pointer (some ⟨r, 0, none⟩))).run P w' = .ok (.tuple #[mkK y, mkV z]) w' → wpListIn F n P ops Q rest (a.put o.dst (.tuple #[.bool true, mkK y, mkV z])) w') : wpListIn F n P ops Q (o :: rest) a w := by
  refine wpListIn_plain hg fun K' hK' => ?_
  unfold Oper.wpIn
  refine ⟨by simp [Oper.about, hop], ?_⟩
  rw [Oper.semAt_plain F _ _ (by rw [hop]; intro c hc'; cases hc')]
  rcases h.next (P := P) hn o.type with ⟨h0, hrun⟩ | ⟨x, hx, w', hrun, hr, hgr, hsz, hen⟩
  · simp [execOp, hop, hit, hrun, Result.andThen]
    exact hK' _ _ (hDone h0)
  · obtain ⟨y, hy⟩ := invK x (mem_left hx).1
    obtain ⟨z, hz⟩ := invV x (mem_left hx).1
    rw [hy, hz] at hrun hen
    simp [execOp, hop, hit, hrun, Result.andThen]
    exact hK' _ _ (hMore x y z w' hx hy hz hr hgr hsz hen)
end
end Go.Proofs.YtlkdefmceghmnaaGreat
