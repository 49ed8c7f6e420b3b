/- Rows that are written in place: an element that is put, what is copied, what is cleared; at elements of whatever size. -/
import Derived.Test.YtaakcccffmfmoaaDoorStep
import Derived.Test.YtaakcccffmfmoaaDoorClone
import Derived.Laws.CopyRow
import Derived.Lib.AppendZerosOnto
import Derived.Lib.Overlaps
namespace Go.Proofs.YtaakcccffmfmoaaDoor
set_option linter.unusedVariables false
open Go Go.RowKit
section
variable {α : Type} {w w' : World} {T : Ty α} {l : List α} {B : Nat} {e : TypeId} {g n c : Nat}
theorem Own.open_ {a : Addr} (h : Own w B e T (.slice (some a) n c) l) : ∃ g cur, a = ⟨g, 0, none⟩ ∧ l.length = n ∧ B ≤ g ∧ n ≤ c ∧ c ≤ maxLen ∧ w.heap[g]? = some (.cells cur e (0, 0)) ∧ cur.size = c * T.sz ∧ cur.toList.take (n * T.sz) = l.flatMap T.enc := by
  have hn : l.length = n := by
    obtain ⟨A', c', h'⟩ := h.form
    injection h' with _ h2 _
    exact h2.symm
  rcases h.row.2 with ⟨h1, _⟩ | ⟨g, cap, cur, h1, hb, hg, hnc, hcm, hcs, htake⟩
  · cases h1
  · injection h1 with hA _ hc
    injection hA with hA
    subst hA hc
    exact ⟨g, cur, rfl, hn, hb, by omega, hcm, hg, hcs, by rw [← hn]; exact htake⟩
theorem Own.ofRow {cur : Array Value} (hg : w.heap[g]? = some (.cells cur e (0, 0))) (hB : B ≤ g) (hl : l.length = n) (hn : n ≤ c) (hc : c ≤ maxLen) (hs : cur.size = c * T.sz) (hwf : ∀ x, x ∈ l → T.wf x) (ht : cur.toList.take (n * T.sz) = l.flatMap T.enc) :
    Own w B e T (.slice (some ⟨g, 0, none⟩) n c) l := by
  subst hl
  exact ⟨hwf, by rw [flatMap_len], .inr ⟨g, c, cur, rfl, hB, hg, hn, hc, hs, ht⟩⟩
theorem flat_take (T : Ty α) : ∀ (l : List α) (k : Nat), (l.take k).flatMap T.enc = (l.flatMap T.enc).take (k * T.sz)
  | [], k => by simp
  | x :: t, 0 => by simp
  | x :: t, k + 1 => by
    have e : (k + 1) * T.sz = (T.enc x).length + k * T.sz := by rw [T.len, Nat.add_mul]; omega
    simp only [List.take_succ_cons, List.flatMap_cons]
    rw [flat_take T t k, e, List.take_length_add_append]
theorem flat_drop (T : Ty α) : ∀ (l : List α) (k : Nat), (l.drop k).flatMap T.enc = (l.flatMap T.enc).drop (k * T.sz)
  | [], k => by simp
  | x :: t, 0 => by simp
  | x :: t, k + 1 => by
    have e : (k + 1) * T.sz = (T.enc x).length + k * T.sz := by rw [T.len, Nat.add_mul]; omega
    simp only [List.drop_succ_cons, List.flatMap_cons]
    rw [flat_drop T t k, e, List.drop_length_add_append]
/-- 'copy(d, s)' at elements of sz cells, onto a row known whole. -/
theorem run_copy_sz {P : Program} (w : World) (dT sT ty elem : TypeId) (sz : Nat) (g o dLen dCap : Nat) (a : Addr) (sLen sCap : Nat) (cur : Array Value) (t : TypeId) (cs : List Value) (n : Nat)
    (hu : P.underlying dT = some (.slice elem)) (hs : (P.info? elem).map (·.size) = some sz)
    (hg : w.heap[g]? = some (.cells cur t (0, 0))) (hn : Nat.min sLen dLen = n) (hcl : cs.length = n * sz)
    (hsrc : ∀ j v, cs[j]? = some v → w.cell? (a.add j) = some v) (hfit : o + cs.length ≤ cur.size) (h1 : ∀ v ∈ cs, v.oneCell' = true) :
    (Builtin.copy_ #[dT, sT] ty #[.slice (some ⟨g, o, none⟩) dLen dCap, .slice (some a) sLen sCap]).run P w =
      .ok (goInt n) (w.setRow g (cur.toList.take o ++ cs ++ cur.toList.drop (o + cs.length)).toArray) := by
  have hl := run_loadCells_list (P := P) w a cs hsrc
  have hst := run_storeCells_at P g o t cs 0 cur w hg (by simpa using hfit) h1
  rw [hcl] at hl
  cases hq : P.info? elem with
  | none => simp [hq] at hs
  | some i =>
    have hi : i.size = sz := by simpa [hq] using hs
    simp [Builtin.copy_, run_underlying hu, Builtin.lenOf, Builtin.firstCells, sizeOf, typeInfo, hq, hi, hn, hl, hst]
/-- 'clear(s)' at elements of sz cells, of a row known whole. -/
theorem run_clear_sz {P : Program} (w : World) (t e ty : TypeId) (z : Value) (ht : P.underlying t = some (.slice e)) (hv : (zeroValue e).run P w = .ok z w) (g o n c : Nat) (hn : 0 < n) (cur : Array Value) (t' : TypeId)
    (hg : w.heap[g]? = some (.cells cur t' (0, 0))) (zs : List Value) (hz : (Builtin.zeroCells z.cells n).toList = zs) (hfit : o + zs.length ≤ cur.size) (h1 : ∀ v ∈ zs, v.oneCell' = true) :
    (Builtin.clear_ #[t] ty #[.slice (some ⟨g, o, none⟩) n c]).run P w = .ok (.tuple #[]) (w.setRow g (cur.toList.take o ++ zs ++ cur.toList.drop (o + zs.length)).toArray) := by
  have hst := run_storeCells_at P g o t' zs 0 cur w hg (by simpa using hfit) h1
  obtain ⟨n, rfl⟩ : ∃ m, n = m + 1 := ⟨n - 1, by omega⟩
  simp [Builtin.clear_, run_underlying ht, hv, hz, hst]
/-- An element laid in: in place. -/
theorem ins_row {β : Type} (L X C : List β) (a k f : Nat) (hX : X.length = k) (hC : C = (L.take f).drop a) (ha : a ≤ f) (hf : f + k ≤ L.length) :
    ((L.take (a + k) ++ C ++ L.drop (a + k + C.length)).take a ++ X ++ (L.take (a + k) ++ C ++ L.drop (a + k + C.length)).drop (a + X.length)).take (f + k) = (L.take f).take a ++ (X ++ C) := by
  have hc : C.length = f - a := by rw [hC]; simp; omega
  have e1 : (L.take (a + k) ++ C ++ L.drop (a + k + C.length)).take a = (L.take f).take a := by
    rw [List.append_assoc, List.take_append_of_le_length (by simp; omega), List.take_take, List.take_take]
    congr 1; omega
  have e2 : (L.take (a + k) ++ C ++ L.drop (a + k + C.length)).drop (a + X.length) = C ++ L.drop (a + k + C.length) := by
    rw [hX, List.append_assoc]
    exact List.drop_left' (by simp; omega)
  rw [e1, e2, ← List.append_assoc, ← List.append_assoc]
  have e3 : ((L.take f).take a ++ X ++ C).length = f + k := by simp [hX, hc]; omega
  rw [List.take_append_of_le_length (by omega), List.take_of_length_le (by omega)]
/-- .. in a new row. -/
theorem ins_new {β : Type} (Z H X C : List β) (a k f : Nat) (hX : X.length = k) (hH : Z.take a = H) (hHl : H.length = a) (hC : C.length = f - a) (ha : a ≤ f) (hf : f + k ≤ Z.length) :
    ((Z.take a ++ X ++ Z.drop (a + X.length)).take (a + k) ++ C ++ (Z.take a ++ X ++ Z.drop (a + X.length)).drop (a + k + C.length)).take (f + k) = H ++ (X ++ C) := by
  have e1 : (Z.take a ++ X ++ Z.drop (a + X.length)).take (a + k) = H ++ X := by
    rw [hH]
    exact List.take_left' (by simp [hHl, hX])
  rw [e1, List.append_assoc H X C]
  exact List.take_left' (by simp [hHl, hX, hC]; omega)
end
theorem flat_set4 : ∀ (m : List Plc) (i : Nat) (x : Plc), i < m.length → (m.set i x).flatMap tPlc.enc =
    ((((m.flatMap tPlc.enc).set (i * 4) (.int .i64 x.seg)).set (i * 4 + 1) (.int .i64 x.pax)).set (i * 4 + 2) (.int .i64 x.row)).set (i * 4 + 3) (.int .u8 x.let_)
  | [], i, x, h => by simp at h
  | y :: t, 0, x, _ => by simp [tPlc, List.flatMap_cons]
  | y :: t, i + 1, x, h => by
    have ih := flat_set4 t i x (by simp at h; omega)
    have hl : (tPlc.enc y).length = 4 := rfl
    simp only [List.set_cons_succ, List.flatMap_cons]
    rw [ih]
    have e : ∀ (L : List Value) (j : Nat) (u : Value), (tPlc.enc y ++ L).set ((i + 1) * 4 + j) u = tPlc.enc y ++ L.set (i * 4 + j) u := fun L j u => by
      rw [List.set_append_right _ _ (by omega)]
      congr 2
      omega
    have e0 := e (t.flatMap tPlc.enc) 0 (.int .i64 x.seg)
    simp only [Nat.add_zero] at e0
    rw [e0, e, e, e]
/-- A place put into an own row. -/
theorem Own.set4 {w : World} {B : Nat} {E : TypeId} {g n c : Nat} {m : List Plc} (h : Own w B E tPlc (.slice (some ⟨g, 0, none⟩) n c) m) {i : Nat} (hi : i < n) (x : Plc) (hx : x.ok) :
    Own ((((w.setCell ⟨g, i * 4, none⟩ (.int .i64 x.seg)).setCell ⟨g, i * 4 + 1, none⟩ (.int .i64 x.pax)).setCell ⟨g, i * 4 + 2, none⟩ (.int .i64 x.row)).setCell ⟨g, i * 4 + 3, none⟩ (.int .u8 x.let_)) B E tPlc (.slice (some ⟨g, 0, none⟩) n c) (m.set i x) := by
  obtain ⟨g', cur, hgg, hn, hB, hnc, hcm, hg, hcs, htake⟩ := h.open_
  injection hgg with hgg _ _
  subst hgg
  have hg1 := setRow_heap w g cur (cur.setIfInBounds (i * 4) (.int .i64 x.seg)) E (0, 0) hg
  have hg2 := setRow_heap _ g _ ((cur.setIfInBounds (i * 4) (.int .i64 x.seg)).setIfInBounds (i * 4 + 1) (.int .i64 x.pax)) E (0, 0) hg1
  have hg3 := setRow_heap _ g _ (((cur.setIfInBounds (i * 4) (.int .i64 x.seg)).setIfInBounds (i * 4 + 1) (.int .i64 x.pax)).setIfInBounds (i * 4 + 2) (.int .i64 x.row)) E (0, 0) hg2
  rw [setCell_eq_setRow w g (i * 4) cur E (0, 0) _ hg, setCell_eq_setRow _ g (i * 4 + 1) _ E (0, 0) _ hg1, setCell_eq_setRow _ g (i * 4 + 2) _ E (0, 0) _ hg2, setCell_eq_setRow _ g (i * 4 + 3) _ E (0, 0) _ hg3]
  refine Own.ofRow (setRow_heap _ g _ _ E (0, 0) hg3) hB (by rw [List.length_set]; exact hn) hnc hcm (by simp; exact hcs) ?_ ?_
  · intro y hy
    rcases List.mem_or_eq_of_mem_set hy with h1 | h1
    · exact h.wf y h1
    · rw [h1]; exact hx
  · rw [flat_set4 m i x (by omega)]
    simp only [Array.toList_setIfInBounds, List.take_set, htake]
end Go.Proofs.YtaakcccffmfmoaaDoor
