/- Maps whose keys are numbers. By program out of XMp. -/
import Derived.Test.YtggomjfllbljeaaGreatDoorMMaps
import Derived.Maps.Keyed
namespace Go.Proofs.YtggomjfllbljeaaGreatDoor
set_option linter.unusedVariables false
open Go Go.RowKit
open Go.ChangeShapes Go.WideShapes Go.MapKept Go.ChangeMaps
open Go.Maps
section
variable {P : Program} {k e t : TypeId} {w w' : World} {b : Nat} {g : Value → Option Value} {es : Array MapEntry} {clock : Nat}
/-- m[key], and whether it is there. -/
theorem Mp.lookK {key z : Value} {kl : Lit} (h : Mp P k w b g) (K : Keyed P k) (ht : P.underlying t = some (.map k e)) (hz : ∀ u : World, (zeroValue e).run P u = .ok z u) (hkey : keyOf P k key = some kl) (ok : Bool) :
    (Instr.lookup t (.map (some b)) key ok).run P w = .ok (if ok then .tuple #[(g key).getD z, .bool (g key).isSome] else (g key).getD z) w := by
  obtain ⟨es, c, C⟩ := h
  rcases K.find w hkey es.toList C.keys with ⟨h1, h2⟩ | ⟨j, e0, h1, h2, h3⟩
  · have h0 : g key = none := by
      cases hg : g key with
      | none => rfl
      | some u => obtain ⟨x, hx, h4⟩ := C.dom key u hg; exact absurd h4 (h2 x hx)
    rw [h0]
    cases ok <;> simp [Instr.lookup, run_underlying ht, MapKept.run_getObj_map C.heap, K.check w _ hkey, h1, hz, Result.andThen]
  · have hv := C.val e0 (List.mem_of_getElem? h2)
    rw [h3] at hv
    rw [hv]
    cases ok <;> simp [Instr.lookup, run_underlying ht, MapKept.run_getObj_map C.heap, K.check w _ hkey, h1, Result.andThen]
/-- m[key] = v. -/
theorem Mp.putK {key v : Value} {kl : Lit} (h : Mp P k w b g) (K : Keyed P k) (ht : P.underlying t = some (.map k e)) (hkey : keyOf P k key = some kl) :
    ∃ w', (Instr.mapUpdate t (.map (some b)) key v).run P w = .ok () w' ∧ Mp P k w' b (updK g key (some v)) ∧ Wr b w w' := by
  obtain ⟨es, c, C⟩ := h
  rcases K.find w hkey es.toList C.keys with ⟨h1, h2⟩ | ⟨j, e0, h1, h2, h3⟩
  · refine ⟨setBlock w b (.map (es.push ⟨key, v, c⟩) (c + 1)), ?_, ⟨es.push ⟨key, v, c⟩, c + 1, heap_setBlock_same C.heap _, ?_, ?_, ?_, ?_, ?_, ?_⟩, _, rfl⟩
    · simp [Instr.mapUpdate, run_underlying ht, MapKept.run_getObj_map C.heap, K.check w false hkey, h1, MapKept.run_setObj_map _ C.heap, Result.andThen, setBlock]
    · intro x hx
      simp only [Array.toList_push, List.mem_append, List.mem_singleton] at hx
      rcases hx with hx | rfl
      · exact C.keys x hx
      · exact ⟨kl, hkey⟩
    · intro x hx
      simp only [Array.toList_push, List.mem_append, List.mem_singleton] at hx
      rcases hx with hx | rfl
      · exact Nat.lt_succ_of_lt (C.lt x hx)
      · exact Nat.lt_succ_self _
    · simp only [Array.toList_push, List.map_append, List.map_cons, List.map_nil]
      refine List.nodup_append.2 ⟨C.nod, by simp, fun a ha d hd e1 => ?_⟩
      simp only [List.mem_singleton] at hd
      obtain ⟨x, hx, rfl⟩ := List.mem_map.1 ha
      have := C.lt x hx
      omega
    · simp only [Array.toList_push, List.map_append, List.map_cons, List.map_nil]
      refine List.nodup_append.2 ⟨C.apart, by simp, fun a ha d hd e1 => ?_⟩
      simp only [List.mem_singleton] at hd
      obtain ⟨x, hx, rfl⟩ := List.mem_map.1 ha
      exact h2 x hx (e1.trans hd)
    · intro x hx
      simp only [Array.toList_push, List.mem_append, List.mem_singleton] at hx
      rcases hx with hx | rfl
      · rw [updK_other _ _ _ (h2 x hx)]; exact C.val x hx
      · rw [updK_same]
    · intro a u ha
      by_cases hne : a = key
      · exact ⟨⟨key, v, c⟩, by simp, hne.symm⟩
      · rw [updK_other _ _ _ hne] at ha
        obtain ⟨x, hx, h4⟩ := C.dom a u ha
        exact ⟨x, by simp only [Array.toList_push, List.mem_append, List.mem_singleton]; exact .inl hx, h4⟩
  · have hj : es[j]? = some e0 := by simpa using h2
    have hmod : (es.modify j fun x => { x with key := key, val := v }).toList = es.toList.set j { e0 with val := v } := by
      rw [Array.toList_modify, modify_eq_set _ _ _ _ h2]
      rw [← h3]
    have hjl : j < es.toList.length := (List.getElem?_eq_some_iff.1 h2).1
    have hat : ∀ x ∈ es.toList.set j { e0 with val := v }, x = { e0 with val := v } ∨ (x ∈ es.toList ∧ x.key ≠ key) := by
      intro x hx
      obtain ⟨i, hi⟩ := List.mem_iff_getElem?.1 hx
      rw [List.getElem?_set] at hi
      by_cases hij : j = i
      · subst hij
        simp only [if_true, hjl] at hi
        exact .inl (Option.some.inj hi).symm
      · rw [if_neg hij] at hi
        refine .inr ⟨List.mem_of_getElem? hi, fun e1 => hij ?_⟩
        have g1 : (es.toList.map (·.key))[i]? = some key := by rw [List.getElem?_map, hi, ← e1]; rfl
        have g2 : (es.toList.map (·.key))[j]? = some key := by rw [List.getElem?_map, h2, ← h3]; rfl
        exact ((List.getElem?_inj (List.getElem?_eq_some_iff.1 g2).1 C.apart).1 (g2.trans g1.symm))
    refine ⟨setBlock w b (.map (es.modify j fun x => { x with key := key, val := v }) c), ?_, ⟨es.modify j fun x => { x with key := key, val := v }, c, heap_setBlock_same C.heap _, ?_, ?_, ?_, ?_, ?_, ?_⟩, _, rfl⟩
    · simp [Instr.mapUpdate, run_underlying ht, MapKept.run_getObj_map C.heap, K.check w false hkey, h1, hj, h3, K.stays w hkey, MapKept.run_setObj_map _ C.heap, Result.andThen, setBlock]
    · rw [hmod]
      intro x hx
      rcases hat x hx with rfl | ⟨h, _⟩
      · exact C.keys e0 (List.mem_of_getElem? h2)
      · exact C.keys x h
    · rw [hmod]
      intro x hx
      rcases hat x hx with rfl | ⟨h, _⟩
      · exact C.lt e0 (List.mem_of_getElem? h2)
      · exact C.lt x h
    · rw [hmod, List.map_set]
      rw [WideElems.set_self _ _ _ (by rw [List.getElem?_map, h2]; rfl)]
      exact C.nod
    · rw [hmod, List.map_set]
      rw [WideElems.set_self _ _ _ (by rw [List.getElem?_map, h2]; rfl)]
      exact C.apart
    · rw [hmod]
      intro x hx
      rcases hat x hx with rfl | ⟨h, hk⟩
      · show updK g key (some v) e0.key = some v
        rw [h3, updK_same]
      · rw [updK_other _ _ _ hk]; exact C.val x h
    · rw [hmod]
      intro a u ha
      by_cases hne : a = key
      · exact ⟨{ e0 with val := v }, List.mem_iff_getElem?.2 ⟨j, by rw [List.getElem?_set, if_pos rfl, if_pos hjl]⟩, h3.trans hne.symm⟩
      · rw [updK_other _ _ _ hne] at ha
        obtain ⟨x, hx, h4⟩ := C.dom a u ha
        obtain ⟨i, hi⟩ := List.mem_iff_getElem?.1 hx
        by_cases hij : j = i
        · subst hij
          rw [h2] at hi
          exact absurd (by rw [← h4, ← Option.some.inj hi, h3]) hne
        · exact ⟨x, List.mem_iff_getElem?.2 ⟨i, by rw [List.getElem?_set, if_neg hij]; exact hi⟩, h4⟩
end
end Go.Proofs.YtggomjfllbljeaaGreatDoor
