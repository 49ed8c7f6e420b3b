/- The document's order of flights, and a flight put into its place. -/
import Derived.Test.YtlkdefmceghmnaaGreatFlSame
import Derived.Deep.RegionWith
import Derived.Deep.DrawnRows
namespace Go.Proofs.YtlkdefmceghmnaaGreat
set_option linter.unusedVariables false
open Go Go.RowKit Go.Sort
attribute [local go_sem ↓] Go.wp_at_zero Go.wp_at_succ
theorem ltF_or' (a b : Flt) : ltF a b = (ltS a.car b.car || (eqTx a.car b.car && decide (a.num < b.num))) := by
  rw [Bool.eq_iff_iff, ltF_iff]
  unfold eqTx
  simp
theorem ltT_or' (a b : Flt) : ltT a b = (decide (a.dep < b.dep) || (decide (a.dep = b.dep) && ltF a b)) := by
  rw [Bool.eq_iff_iff]
  unfold ltT
  rw [ltX_iff]
  simp
set_option maxRecDepth 100000 in
set_option maxHeartbeats 1000000 in
theorem ahead_any (r s : FlR) (w : World) : Calls Tryz.prog 127 #[.agg #[.string r.f.car, .int .i64 r.f.num, .string r.f.frm, .string r.f.to_, .int .u8 r.f.days, .int .i64 r.f.dep, .int .i64 r.f.arr, .slice r.A r.n r.c, .int .i64 r.f.pln], .agg #[.string s.f.car, .int .i64 s.f.num, .string s.f.frm, .string s.f.to_, .int .u8 s.f.days, .int .i64 s.f.dep, .int .i64 s.f.arr, .slice s.A s.n s.c, .int .i64 s.f.pln]] w (RetB w (ltF r.f s.f)) := by
  have HE := Lib.hid (ltF_or' r.f s.f)
  have HB := FB2.start w r s
  have e1 := eqTx_l r.f.car s.f.car
  have e2 : Op.bytesLess r.f.car.toList s.f.car.toList = ltS r.f.car s.f.car := rfl
  generalize ltS r.f.car s.f.car = q1 at e2 HE
  generalize eqTx r.f.car s.f.car = q2 at e1 HE
  go_enter Tryz.func127, Tryz.ntmps127
  go_upto_region 1 with fail
  refine wp_world (FB2 w r s) HB ?_
  clear HB
  intro W hF
  have c1 := hF.x.cells
  have c2 := hF.y.cells
  go_wp2
  all_goals go_ret
  all_goals exact ⟨ret_bool (by rw [HE.out]; simp [*]), hF.B⟩
set_option maxRecDepth 100000 in
set_option maxHeartbeats 1000000 in
theorem sooner_any (r s : FlR) (w : World) : Calls Tryz.prog 126 #[.agg #[.string r.f.car, .int .i64 r.f.num, .string r.f.frm, .string r.f.to_, .int .u8 r.f.days, .int .i64 r.f.dep, .int .i64 r.f.arr, .slice r.A r.n r.c, .int .i64 r.f.pln], .agg #[.string s.f.car, .int .i64 s.f.num, .string s.f.frm, .string s.f.to_, .int .u8 s.f.days, .int .i64 s.f.dep, .int .i64 s.f.arr, .slice s.A s.n s.c, .int .i64 s.f.pln]] w (RetB w (ltT r.f s.f)) := by
  have HE := Lib.hid (ltT_or' r.f s.f)
  have HB := FB2.start w r s
  go_enter Tryz.func126, Tryz.ntmps126
  go_upto_region 1 with fail
  refine wp_world (FB2 w r s) HB ?_
  clear HB
  intro W hF
  have c1 := hF.x.cells
  have c2 := hF.y.cells
  by_cases t1 : r.f.dep < s.f.dep
  · have t2 : decide (r.f.dep < s.f.dep) = true := decide_eq_true t1
    go_wp2
    go_ret
    exact ⟨ret_bool (by rw [HE.out, t2]; rfl), hF.B⟩
  · have t2 : decide (r.f.dep < s.f.dep) = false := decide_eq_false t1
    by_cases t3 : r.f.dep = s.f.dep
    · have t4 : (r.f.dep == s.f.dep) = true := by simp [t3]
      have HE2 := Lib.hid (show ltT r.f s.f = ltF r.f s.f by rw [HE.out, t2, decide_eq_true t3]; rfl)
      clear t3 t1
      go_wp2_with (go_at_call 127; refine (ahead_any r s _).mono ?_; rintro e w1 ⟨rfl, hb⟩)
      go_ret
      exact ⟨ret_bool HE2.out.symm, (hF.step hb).B⟩
    · have t4 : (r.f.dep == s.f.dep) = false := by simp [t3]
      have HE2 := Lib.hid (show ltT r.f s.f = false by rw [HE.out, t2, decide_eq_false t3]; rfl)
      clear t3 t1
      go_wp2
      go_ret
      exact ⟨ret_bool HE2.out.symm, hF.B⟩
end Go.Proofs.YtlkdefmceghmnaaGreat
