/- A flight that is handed in: how long its carrier's name can be. -/
import Derived.Test.YtodholjbefifeaaDoorArgsF
import Derived.Deep.DeepHandedRow
namespace Go.Proofs.YtodholjbefifeaaDoor
set_option linter.unusedVariables false
open Go Go.RowKit
section
variable {H : Type} {enc : TypeId × Value → H} {W : World}
set_option maxRecDepth 100000 in
theorem car_small {r : FlR} {d : DataW H} {ps : List MemPlace} (h : DataW.Trod enc Tryd.prog W 0 (fun _ => true) true 26 (.agg #[.string r.f.car, .int .i64 r.f.num, .string r.f.frm, .string r.f.to_, .int .u8 r.f.days, .int .i64 r.f.dep, .int .i64 r.f.arr, .slice r.A r.n r.c, .int .i64 r.f.pln]) d ps) (hw : (DataW.weights Tryd.prog 26 d).all (· ≤ reachBytes) = true) : r.f.car.size ≤ 140737488355328 := by
  obtain ⟨fuel, h⟩ := h
  replace h : DataW.trod enc Tryd.prog W 0 (fun _ => true) true fuel 26 (tFl.enc r) = some (d, ps) := h
  obtain ⟨xs, n, _, hx, _, hxl, hf⟩ := DataW.trod_struct Tryd.underlying26 h
  have hd : d = .agg (xs.map (·.1)) := by injection hx
  obtain ⟨x0, xr, rfl⟩ : ∃ x0 xr, xs = x0 :: xr := by
    cases xs with
    | nil => cases hxl
    | cons a l => exact ⟨a, l, rfl⟩
  have g0 : DataW.trod enc Tryd.prog W 0 (fun _ => true) true n 23 (((tFl.enc r).drop 0).take (Tryd.prog.cellsOf 23)) = some x0 := hf 0 _ rfl
  rw [cells_Key] at g0
  obtain ⟨ys, m, _, hy, _, hyl, hg⟩ := DataW.trod_struct Tryd.underlying23 g0
  have hd0 : x0.1 = .agg (ys.map (·.1)) := by rw [hy]
  obtain ⟨y0, yr, rfl⟩ : ∃ y0 yr, ys = y0 :: yr := by
    cases ys with
    | nil => cases hyl
    | cons a l => exact ⟨a, l, rfl⟩
  have g1 : DataW.trod enc Tryd.prog W 0 (fun _ => true) true m 9 ((([.string r.f.car, .int .i64 r.f.num] : List Value).drop 0).take (Tryd.prog.cellsOf 9)) = some y0 := hg 0 _ rfl
  rw [cells_str] at g1
  obtain ⟨b, e, hb, _⟩ := DataW.trod_string Tryd.underlying9 g1
  have e' : r.f.car = b := by
    have e2 : [Value.string r.f.car] = [.string b] := e
    simpa using e2
  have hdy : y0.1 = .lit (.string b.data.toList) := by rw [hb]
  subst hd
  rw [List.map_cons, hd0, List.map_cons, hdy] at hw
  have hw1 : ((b.data.toList.length :: ([] : List Nat)) ++ DataW.weightsEach Tryd.prog [3] (yr.map (·.1)) ++ DataW.weightsEach Tryd.prog [9, 9, 5, 3, 3, 24, 3] (xr.map (·.1))).all (· ≤ reachBytes) = true := hw
  simp only [List.cons_append, List.nil_append, List.all_cons, Bool.and_eq_true, decide_eq_true_eq] at hw1
  have h1 := hw1.1
  rw [e']
  unfold reachBytes at h1
  rw [Array.length_toList] at h1
  exact Nat.le_trans h1 (by decide)
end
end Go.Proofs.YtodholjbefifeaaDoor
