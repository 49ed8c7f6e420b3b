/- StockApart is true of every input, and its arguments read behind the call as they did: the row and its card; the package variables that the row lists are tied to the program. -/
import Derived.Test.YtlkdefmceghmnaaGreatStApart
import Derived.Test.YtlkdefmceghmnaaGreatArgsS
import Derived.Test.YtlkdefmceghmnaaGreatChecked
import Derived.SevenTiedAt
namespace Go.Proofs.YtlkdefmceghmnaaGreat.rStockApart
set_option linter.unusedVariables false
open Go Go.RowKit Go.ChangeShapes Go.WideShapes Go.ChangeAt
theorem own : ownKnob Tryz.prog.godebug = none := by kernel_rfl
theorem laidOut : laidOutB Tryz.prog = true := by kernel_rfl
theorem rd_byte : Tryz.prog.readableRec 5 = true := by kernel_rfl
theorem sz_byte : 5 < Tryz.prog.types.size := of_decide_eq_true (by kernel_rfl)
theorem rd_flights : Tryz.prog.readableRec 22 = true := by kernel_rfl
theorem sz_flights : 22 < Tryz.prog.types.size := of_decide_eq_true (by kernel_rfl)
theorem rd_leg : Tryz.prog.readableRec 27 = true := by kernel_rfl
theorem sz_leg : 27 < Tryz.prog.types.size := of_decide_eq_true (by kernel_rfl)
theorem rd_sact : Tryz.prog.readableRec 29 = true := by kernel_rfl
theorem sz_sact : 29 < Tryz.prog.types.size := of_decide_eq_true (by kernel_rfl)
theorem rd_sacts : Tryz.prog.readableRec 23 = true := by kernel_rfl
theorem sz_sacts : 23 < Tryz.prog.types.size := of_decide_eq_true (by kernel_rfl)
theorem resT : Tryz.f3.resultTypes = #[4] := by kernel_rfl
set_option maxRecDepth 100000 in
theorem contract (H : Type) (enc : TypeId × Value → H) (W : World) (base : Nat) (args : Array Value) (ds gs : List (DataW H)) (before : List MemPlace)
    (hval : ∀ (j : Nat) t v, Tryz.f3.params[j]? = some t → args[j]? = some v → Value.okWide Tryz.prog W .any base t v)
    (hW : DataW.Whole enc Tryz.prog Tryz.f3.params.toList Rows.stockApartSpec.vars false W args.toList ds gs before) :
    Calls Tryz.prog 3 args W fun e W' => ∃ v, e = .returned v ∧ Rows.stockApartSpec.post enc Tryz.prog Tryz.f3 false true false false W args v W' := by
  have hW' := hW
  obtain ⟨p, q, hA0, hV, rfl, hfz, hnd⟩ := hW
  have hA : DataW.TrodAll enc Tryz.prog W 0 (fun _ => true) true Tryz.f3.params.toList args.toList ds p := hA0
  rw [Tryz.params3] at hA hval
  obtain ⟨v0, vs0, d0, ds0, p0, q0, hargs, rfl, rfl, h0, r0⟩ := trodAll_cons hA
  obtain ⟨v1, vs1, d1, ds1, p1, q1, rfl, rfl, rfl, h1, r1⟩ := trodAll_cons r0
  obtain ⟨v2, vs2, d2, ds2, p2, q2, rfl, rfl, rfl, h2, r2⟩ := trodAll_cons r1
  obtain ⟨v3, vs3, d3, ds3, p3, q3, rfl, rfl, rfl, h3, r3⟩ := trodAll_cons r2
  obtain ⟨v4, vs4, d4, ds4, p4, q4, rfl, rfl, rfl, h4, r4⟩ := trodAll_cons r3
  obtain ⟨rfl, rfl, rfl⟩ := trodAll_nil r4
  obtain rfl : args = #[v0, v1, v2, v3, v4] := by cases args; simp_all
  obtain ⟨rfl, rfl⟩ := trodVars_none hV
  obtain ⟨A0, n0, c0, l0, rfl, S0, M0, Z0, C0⟩ := open_flights (hval 0 22 v0 rfl rfl) h0
  obtain ⟨g3, rfl, G3⟩ := open_leg (hval 3 27 v3 rfl rfl) h3
  obtain ⟨x4, rfl, I4⟩ := open_byte (hval 4 5 v4 rfl rfl) h4
  obtain ⟨A1, n1, c1, l1, rfl, S1⟩ := open_sacts (hval 1 23 v1 rfl rfl) h1
  obtain ⟨a2, rfl, O2⟩ := open_sact (hval 2 29 v2 rfl rfl) h2
  clear hA0 hval
  refine (stockApart_any l0 A0 n0 c0 W S0 l1 A1 n1 c1 S1 a2 O2 g3 G3 x4 I4).mono fun e W' ⟨he, hb⟩ => ?_
  subst he
  exact ⟨_, rfl, law_post laidOut (by rw [Tryz.params3]; intro t ht; simp at ht; rcases ht with ht | ht | ht | ht | ht <;> subst ht <;> first | exact ⟨rd_byte, sz_byte⟩ | exact ⟨rd_flights, sz_flights⟩ | exact ⟨rd_leg, sz_leg⟩ | exact ⟨rd_sact, sz_sact⟩ | exact ⟨rd_sacts, sz_sacts⟩) Tryz.underlying4 resT rfl rfl hW' hb⟩
/-- A world for the witness: the settled one, the listed variables holding what their initialisers lay. -/
noncomputable def laidWorld (os : Os) : World :=
  { World.holding Tryz.prog os ⟨#[], #[], []⟩ with heap := (World.holding Tryz.prog os ⟨#[], #[], []⟩).heap }
theorem laid_met (os : Os) : laidMet Tryz.prog Rows.stockApartRow.laid ((laidWorld os).forCall (fun _ _ => 0) ⟨#[], #[.slice none 0 0, .slice none 0 0, .agg #[.int .i64 0, .int .i64 0, .int .i64 0, .string ⟨#[]⟩, .int .i64 0, .int .i64 0, .int .u8 0], .agg #[.string ⟨#[]⟩, .int .i64 0, .int .i64 0], .int .u8 0], []⟩).memory :=
  laidMet_of_run' 8 (by kernel_rfl) (by kernel_rfl)
theorem reads (os : Os) {H : Type} (enc : TypeId × Value → H) : ∃ places, DataW.whole enc Tryz.prog ((laidWorld os).forCall (fun _ _ => 0) ⟨#[], #[.slice none 0 0, .slice none 0 0, .agg #[.int .i64 0, .int .i64 0, .int .i64 0, .string ⟨#[]⟩, .int .i64 0, .int .i64 0, .int .u8 0], .agg #[.string ⟨#[]⟩, .int .i64 0, .int .i64 0], .int .u8 0], []⟩).memory Tryz.f3.params.toList Rows.stockApartSpec.vars false (#[.slice none 0 0, .slice none 0 0, .agg #[.int .i64 0, .int .i64 0, .int .i64 0, .string ⟨#[]⟩, .int .i64 0, .int .i64 0, .int .u8 0], .agg #[.string ⟨#[]⟩, .int .i64 0, .int .i64 0], .int .u8 0] : Array Value).toList 8 = some ([.nil, .nil, .agg [.lit (.int .i64 0), .lit (.int .i64 0), .lit (.int .i64 0), .agg [.agg [.lit (.string []), .lit (.int .i64 0)], .lit (.int .i64 0)], .lit (.int .u8 0)], .agg [.agg [.lit (.string []), .lit (.int .i64 0)], .lit (.int .i64 0)], .lit (.int .u8 0)], [], places) :=
  ⟨[], by kernel_rfl⟩
set_option maxRecDepth 100000 in
theorem lifted (os : Os) (started : os.Started) (H : Type) (enc : TypeId × Value → H) (F : Stop.Interp) :
    ReturnsInHanded {} Tryz.checked os 3 .any ((OpenSpec.ofChange Rows.stockApartSpec).preRow enc Tryz.prog Tryz.f3 Rows.stockApartRow.domain false Rows.stockApartRow.laid) (((OpenSpec.ofChange Rows.stockApartSpec).at F).post enc Tryz.prog Tryz.f3 false true false false) := by
  obtain ⟨places, hx⟩ := reads os enc
  refine returnsInHanded_of_row (C := Tryz.checked) (s := OpenSpec.ofChange Rows.stockApartSpec) own started (by kernel_rfl) Tryz.func3
    (witness_row_at (enc := enc) (C := Tryz.checked) false (laidWorld os) #[.slice none 0 0, .slice none 0 0, .agg #[.int .i64 0, .int .i64 0, .int .i64 0, .string ⟨#[]⟩, .int .i64 0, .int .i64 0, .int .u8 0], .agg #[.string ⟨#[]⟩, .int .i64 0, .int .i64 0], .int .u8 0] rfl (by kernel_rfl) (by kernel_rfl) (by kernel_rfl)
      (OpenSpec.preRow_of_cond 8 hx (by kernel_rfl) (fun k hk => by cases hk) (by kernel_rfl) (laid_met os))) ?_
  intro W base args ds gs before hval hW _ _ _ hL _ _
  exact contract H enc W base args ds gs before hval hW
theorem said : Rows.StockApartSaid :=
  OpenClaim.holds_of_cond 3 Tryz.f3 rfl rfl rfl rfl rfl rfl rfl ⟨rfl, rfl, rfl, rfl, rfl⟩ rfl rfl rfl rfl rfl (by kernel_rfl) Tryz.func3 (by kernel_rfl)
    (of_decide_eq_true (by kernel_rfl)) (by unfold Func.isWrapper; first | (rw [if_pos (by decide +kernel)]; kernel_rfl) | (rw [if_neg (by decide +kernel)]; exact ⟨rfl, rfl⟩))
    (fun os started H enc _ F => by rw [OpenClaim.pre_eq_preRow]; exact lifted os started H enc F)
#print axioms said
end Go.Proofs.YtlkdefmceghmnaaGreat.rStockApart
