/- StockLines is true of every input, and its arguments read behind the call as they did: the row and its card; the package variables that the row lists are tied to the program. -/
import Derived.Test.YtlkdefmceghmnaaGreatStLines
import Derived.Test.YtlkdefmceghmnaaGreatArgsS
import Derived.Test.YtlkdefmceghmnaaGreatChecked
import Derived.SevenTiedAt
import Derived.OpenShut
namespace Go.Proofs.YtlkdefmceghmnaaGreat.rStockLines
set_option linter.unusedVariables false
open Go Go.RowKit Go.ChangeShapes Go.WideShapes Go.ChangeAt
theorem own : ownKnob Tryz.prog.godebug = none := by kernel_rfl
theorem laidOut : laidOutB Tryz.prog = true := by kernel_rfl
theorem rd_ends : Tryz.prog.readableRec 51 = true := by kernel_rfl
theorem sz_ends : 51 < Tryz.prog.types.size := of_decide_eq_true (by kernel_rfl)
theorem rd_flights : Tryz.prog.readableRec 22 = true := by kernel_rfl
theorem sz_flights : 22 < Tryz.prog.types.size := of_decide_eq_true (by kernel_rfl)
theorem rd_int : Tryz.prog.readableRec 3 = true := by kernel_rfl
theorem sz_int : 3 < Tryz.prog.types.size := of_decide_eq_true (by kernel_rfl)
theorem rd_sacts : Tryz.prog.readableRec 23 = true := by kernel_rfl
theorem sz_sacts : 23 < Tryz.prog.types.size := of_decide_eq_true (by kernel_rfl)
theorem resT : Tryz.f7.resultTypes = #[4] := by kernel_rfl
theorem cells_ends : Tryz.prog.cellsOf 51 = 2 := by kernel_rfl
set_option maxRecDepth 100000 in
theorem open_ends {H : Type} {enc : TypeId × Value → H} {W : World} {r : Reach} {b0 : Nat} {v : Value} {d : DataW H} {ps : List MemPlace} (hv : Value.okWide Tryz.prog W r b0 51 v) (h : DataW.Trod enc Tryz.prog W 0 (fun _ => true) true 51 v d ps) :
    ∃ a b, v = .agg #[.string a, .string b] ∧ okStr a ∧ okStr b := by
  obtain ⟨cs, rfl, hsz⟩ : ∃ cs, v = .agg cs ∧ cs.size = Tryz.prog.cellsOf 51 := by
    simp only [Value.okWide, Tryz.underlying51] at hv
    obtain ⟨cs, h1, h2, _⟩ := hv
    exact ⟨cs, h1, h2⟩
  obtain ⟨fuel, h⟩ := h
  obtain ⟨l⟩ := cs
  simp only [Value.cells] at h
  obtain ⟨xs, m, _, _, hl, hxl, hf⟩ := DataW.trod_array Tryz.underlying51 h
  rw [cells_ends] at hl
  obtain ⟨c0, c1, rfl⟩ := list2 hl
  have g0 := hf 0 (by omega)
  have g1 := hf 1 (by omega)
  rw [cells_str, List.getElem?_eq_getElem (by omega)] at g0 g1
  replace g0 : DataW.trod enc Tryz.prog W 0 (fun _ => true) true m 9 [c0] = some _ := g0
  replace g1 : DataW.trod enc Tryz.prog W 0 (fun _ => true) true m 9 [c1] = some _ := g1
  obtain ⟨x0, e0, _, w0⟩ := DataW.trod_string Tryz.underlying9 g0
  obtain ⟨x1, e1, _, w1⟩ := DataW.trod_string Tryz.underlying9 g1
  obtain rfl : c0 = .string x0 := by simpa using e0
  obtain rfl : c1 = .string x1 := by simpa using e1
  exact ⟨x0, x1, rfl, ok_str w0, ok_str w1⟩
set_option maxRecDepth 100000 in
theorem contract (H : Type) (enc : TypeId × Value → H) (W : World) (base : Nat) (args : Array Value) (ds gs : List (DataW H)) (before : List MemPlace)
    (hval : ∀ (j : Nat) t v, Tryz.f7.params[j]? = some t → args[j]? = some v → Value.okWide Tryz.prog W .any base t v)
    (hW : DataW.Whole enc Tryz.prog Tryz.f7.params.toList Rows.stockLinesSpec.vars false W args.toList ds gs before) :
    Calls Tryz.prog 7 args W fun e W' => ∃ v, e = .returned v ∧ Rows.stockLinesSpec.post enc Tryz.prog Tryz.f7 false true false false W args v W' := by
  have hW' := hW
  obtain ⟨p, q, hA0, hV, rfl, hfz, hnd⟩ := hW
  have hA : DataW.TrodAll enc Tryz.prog W 0 (fun _ => true) true Tryz.f7.params.toList args.toList ds p := hA0
  rw [Tryz.params7] at hA hval
  obtain ⟨v0, vs0, d0, ds0, p0, q0, hargs, rfl, rfl, h0, r0⟩ := trodAll_cons hA
  obtain ⟨v1, vs1, d1, ds1, p1, q1, rfl, rfl, rfl, h1, r1⟩ := trodAll_cons r0
  obtain ⟨v2, vs2, d2, ds2, p2, q2, rfl, rfl, rfl, h2, r2⟩ := trodAll_cons r1
  obtain ⟨v3, vs3, d3, ds3, p3, q3, rfl, rfl, rfl, h3, r3⟩ := trodAll_cons r2
  obtain ⟨rfl, rfl, rfl⟩ := trodAll_nil r3
  obtain rfl : args = #[v0, v1, v2, v3] := by cases args; simp_all
  obtain ⟨rfl, rfl⟩ := trodVars_none hV
  obtain ⟨x2, rfl, rfl, rfl, w2⟩ := open_int Tryz.underlying3 (hval 2 3 v2 rfl rfl) h2
  have I2 := ok_int w2
  obtain ⟨A0, n0, c0, l0, rfl, S0, M0, Z0, C0⟩ := open_flights (hval 0 22 v0 rfl rfl) h0
  obtain ⟨A1, n1, c1, l1, rfl, S1⟩ := open_sacts (hval 1 23 v1 rfl rfl) h1
  obtain ⟨sa3, sb3, rfl, Ta3, Tb3⟩ := open_ends (hval 3 51 v3 rfl rfl) h3
  clear hA0 hval
  refine (stockLines_any l0 A0 n0 c0 W S0 l1 A1 n1 c1 S1 x2 I2 sa3 sb3).mono fun e W' ⟨he, hb⟩ => ?_
  subst he
  exact ⟨_, rfl, law_post laidOut (by rw [Tryz.params7]; intro t ht; simp at ht; rcases ht with ht | ht | ht | ht <;> subst ht <;> first | exact ⟨rd_ends, sz_ends⟩ | exact ⟨rd_flights, sz_flights⟩ | exact ⟨rd_int, sz_int⟩ | exact ⟨rd_sacts, sz_sacts⟩) Tryz.underlying4 resT rfl rfl hW' hb⟩
/-- A world for the witness: the settled one, the listed variables holding what their initialisers lay. -/
noncomputable def laidWorld (os : Os) : World :=
  { World.holding Tryz.prog os ⟨#[], #[], []⟩ with heap := (World.holding Tryz.prog os ⟨#[], #[], []⟩).heap }
theorem laid_met (os : Os) : laidMet Tryz.prog Rows.stockLinesRow.laid ((laidWorld os).forCall (fun _ _ => 0) ⟨#[], #[.slice none 0 0, .slice none 0 0, .int .i64 0, .agg #[.string ⟨#[]⟩, .string ⟨#[]⟩]], []⟩).memory :=
  laidMet_of_run' 8 (by kernel_rfl) (by kernel_rfl)
theorem reads (os : Os) {H : Type} (enc : TypeId × Value → H) : ∃ places, DataW.whole enc Tryz.prog ((laidWorld os).forCall (fun _ _ => 0) ⟨#[], #[.slice none 0 0, .slice none 0 0, .int .i64 0, .agg #[.string ⟨#[]⟩, .string ⟨#[]⟩]], []⟩).memory Tryz.f7.params.toList Rows.stockLinesSpec.vars false (#[.slice none 0 0, .slice none 0 0, .int .i64 0, .agg #[.string ⟨#[]⟩, .string ⟨#[]⟩]] : Array Value).toList 8 = some ([.nil, .nil, .lit (.int .i64 0), .agg [.lit (.string []), .lit (.string [])]], [], places) :=
  ⟨[], by kernel_rfl⟩
set_option maxRecDepth 100000 in
theorem lifted (os : Os) (started : os.Started) (H : Type) (enc : TypeId × Value → H) (F : Stop.Interp) :
    ReturnsInHanded {} Tryz.checked os 7 .any ((OpenSpec.ofChange Rows.stockLinesSpec).preRow enc Tryz.prog Tryz.f7 Rows.stockLinesRow.domain false Rows.stockLinesRow.laid) (((OpenSpec.ofChange Rows.stockLinesSpec).at F).post enc Tryz.prog Tryz.f7 false true false false) := by
  obtain ⟨places, hx⟩ := reads os enc
  refine returnsInHanded_of_row (C := Tryz.checked) (s := OpenSpec.ofChange Rows.stockLinesSpec) own started (by kernel_rfl) Tryz.func7
    (witness_row_at (enc := enc) (C := Tryz.checked) false (laidWorld os) #[.slice none 0 0, .slice none 0 0, .int .i64 0, .agg #[.string ⟨#[]⟩, .string ⟨#[]⟩]] rfl (by kernel_rfl) (by kernel_rfl) (by kernel_rfl)
      (OpenSpec.preRow_of_cond 8 hx (by kernel_rfl) (fun k hk => by cases hk) (by kernel_rfl) (laid_met os))) ?_
  intro W base args ds gs before hval hW _ _ _ hL _ _
  exact contract H enc W base args ds gs before hval hW
theorem said : Rows.StockLinesSaid :=
  OpenClaim.holds_of_cond 7 Tryz.f7 rfl rfl rfl rfl rfl rfl rfl ⟨rfl, rfl, rfl, rfl, rfl⟩ rfl rfl rfl rfl rfl (by kernel_rfl) Tryz.func7 (by kernel_rfl)
    (of_decide_eq_true (by kernel_rfl)) (by unfold Func.isWrapper; first | (rw [if_pos (by decide +kernel)]; kernel_rfl) | (rw [if_neg (by decide +kernel)]; exact ⟨rfl, rfl⟩))
    (fun os started H enc _ F => by rw [OpenClaim.pre_eq_preRow]; exact lifted os started H enc F)
#print axioms said
end Go.Proofs.YtlkdefmceghmnaaGreat.rStockLines
