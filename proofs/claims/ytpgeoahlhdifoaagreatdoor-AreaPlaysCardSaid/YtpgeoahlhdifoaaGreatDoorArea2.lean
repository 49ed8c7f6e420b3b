/- A struct stored into the midst of a block; an area's box. -/
import Derived.Test.YtpgeoahlhdifoaaGreatDoorArea1
namespace Go.Proofs.YtpgeoahlhdifoaaGreatDoor
set_option linter.unusedVariables false
open Go Go.RowKit
/-- Cells written one behind the other, from o on. -/
def lay (cur : Array Value) (o : Nat) : List Value → Array Value
  | [] => cur
  | v :: t => lay (cur.setIfInBounds o v) (o + 1) t
theorem setRow_self (w : World) (g : Nat) (cur : Array Value) (t : TypeId) (fr : Nat × Nat) (hg : w.heap[g]? = some (.cells cur t fr)) : w.setRow g cur = w := by
  have hlt : g < w.heap.size := (Array.getElem?_eq_some_iff.1 hg).1
  have hv : w.heap[g] = .cells cur t fr := (Array.getElem?_eq_some_iff.1 hg).2
  unfold World.setRow
  cases w with
  | mk heap tape drawn os output =>
    congr 1
    apply Array.ext
    · simp
    · intro k h1 h2
      simp only [Array.getElem_modify]
      split
      · rename_i hk; subst hk; simp at hv; simp [hv]
      · rfl
theorem run_storeCells_mid {P : Program} (g off : Nat) (t : TypeId) : ∀ (vs : List Value) (i : Nat) (cur : Array Value) (w : World), w.heap[g]? = some (.cells cur t (0, 0)) → off + i + vs.length ≤ cur.size → (∀ v ∈ vs, v.oneCell' = true) →
    (storeCells ⟨g, off, none⟩ vs i).run P w = .ok () (w.setRow g (lay cur (off + i) vs))
  | [], i, cur, w, hg, hl, _ => by
    simp only [storeCells, lay, setRow_self w g cur t _ hg]
    rfl
  | v :: rest, i, cur, w, hg, hl, h1 => by
    have hi : off + i < cur.size := by simp at hl; omega
    have hadd : (⟨g, off, none⟩ : Addr).add i = ⟨g, off + i, none⟩ := by unfold Addr.add; split <;> simp_all
    have hcell : w.cell? ⟨g, off + i, none⟩ = some cur[off + i] := by simp [World.cell?, hg, hi]
    have hfro : w.frozen? ⟨g, off + i, none⟩ = false := by simp [World.frozen?, hg]
    have hst : (store ((⟨g, off, none⟩ : Addr).add i) v).run P w = .ok () (w.setRow g (cur.setIfInBounds (off + i) v)) := by
      rw [hadd, run_store P w _ v _ (h1 v (by simp)), hcell]
      simp [hfro, setCell_eq_setRow w g (off + i) cur t (0, 0) v hg]
    have ih := run_storeCells_mid (P := P) g off t rest (i + 1) (cur.setIfInBounds (off + i) v) (w.setRow g (cur.setIfInBounds (off + i) v)) (setRow_heap w g cur _ t _ hg) (by simp at hl ⊢; omega) (fun x hx => h1 x (by simp [hx]))
    simp only [storeCells, Sem.run_bind, hst, Result.andThen_ok, ih, setRow_setRow]
    rfl
/-- The operation in a walk. -/
theorem store_mid {P : Program} {ops : Array Oper} {rest : List Oper} {o : Oper} {a : Act} {W : World} {Q : Exit → Act → World → Prop} (hgd : o.guard = none) {ty : TypeId} (x y : Operand) (ho : o.op = .store ty x y) {g off : Nat} (cells : Array Value) {old : Array Value} (new : Array Value) {t : TypeId}
    (hx : a.eval x = .pointer (some ⟨g, off, none⟩)) (hy : a.eval y = .agg cells) (hr : Bx W g old t) (hi : (P.info? ty).map (·.size) = some cells.size) (hlen : off + cells.size ≤ old.size) (h1 : (cells.all fun v => v.oneCell') = true)
    (hnew : lay old off cells.toList = new)
    (h : wpList P ops Q rest (a.put o.dst undef) (W.setRow g new)) : wpList P ops Q (o :: rest) a W :=
  wpList_plain hgd fun _ hK => by
    have key := run_storeCells_mid (P := P) g off t cells.toList 0 old W hr (by simpa using hlen) (fun v hv => (Array.all_eq_true_iff_forall_mem.1 h1) v (by simpa using hv))
    have hsv : (storeVar ty ⟨g, off, none⟩ (.agg cells)).run P W = .ok () (W.setRow g new) := by
      cases hq : P.info? ty with
      | none => simp [hq] at hi
      | some i =>
        have hs : cells.size = i.size := by simp [hq] at hi; omega
        rw [← hnew]
        simpa [storeVar, sizeOf, typeInfo, hq, Value.cells, hs] using key
    unfold Oper.wp execOp
    simp only [ho, hx, hy, Instr.storeAt, Instr.sureAddr, Sem.run_bind, Sem.run_pure, Result.andThen_ok, hsv]
    exact hK _ _ h
set_option maxRecDepth 100000 in
theorem lay12 {b0 b1 b2 b3 b4 b5 b6 b7 b8 b9 b10 b11 b12 b13 b14 b15 b16 b17 b18 b19 a0 a1 a2 a3 a4 a5 a6 a7 a8 a9 a10 a11 : Value} : lay #[b0, b1, b2, b3, b4, b5, b6, b7, b8, b9, b10, b11, b12, b13, b14, b15, b16, b17, b18, b19] 3 (#[a0, a1, a2, a3, a4, a5, a6, a7, a8, a9, a10, a11] : Array Value).toList = #[b0, b1, b2, a0, a1, a2, a3, a4, a5, a6, a7, a8, a9, a10, a11, b15, b16, b17, b18, b19] := by simp [lay]
theorem info_area : (Tryz.prog.info? 53).map (·.size) = some 20 := by kernel_rfl
/-- The cells of the empty area. -/
def za : Array Value := #[.string ⟨#[]⟩, .string ⟨#[]⟩, .bool false, .string ⟨#[]⟩, .string ⟨#[]⟩, .slice none 0 0, .slice none 0 0, .slice none 0 0, .int .i64 0, .int .i64 0, .int .i64 0, .string ⟨#[]⟩, .slice none 0 0, .slice none 0 0, .bool false, .int .u64 0, .slice none 0 0, .slice none 0 0, .bool false, .int .i64 0]
end Go.Proofs.YtpgeoahlhdifoaaGreatDoor
