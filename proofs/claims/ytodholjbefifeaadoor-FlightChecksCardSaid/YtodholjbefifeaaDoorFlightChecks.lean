/- FlightChecks is true of every input. -/
import Derived.Test.YtodholjbefifeaaDoorFlText
import Derived.Test.YtodholjbefifeaaDoorFlAwake2
namespace Go.Proofs.YtodholjbefifeaaDoor
set_option linter.unusedVariables false
open Go Go.RowKit Go.Sort
theorem check_is {r : FlR} {W : World} {lo hi : Nat} {c : Int} (h : chkN (rightB r.f) = c) (hr : r.ok) (hc : ClAt W lo hi r) (hn : r.n ≤ 100000) (hhi : hi ≤ W.heap.size) :
    Calls Tryd.prog 10 #[.agg #[.string r.f.car, .int .i64 r.f.num, .string r.f.frm, .string r.f.to_, .int .u8 r.f.days, .int .i64 r.f.dep, .int .i64 r.f.arr, .slice r.A r.n r.c, .int .i64 r.f.pln]] W (fun e w' => e = .returned (.int .i64 c) ∧ Below W.heap.size W w') := by
  subst h
  exact check_any r W lo hi hr hc hn hhi
theorem right_is {r : FlR} {W : World} {lo hi : Nat} {q : Bool} (h : rightB r.f = q) (hr : r.ok) (hc : ClAt W lo hi r) (hn : r.n ≤ 100000) (hhi : hi ≤ W.heap.size) :
    Calls Tryd.prog 11 #[.agg #[.string r.f.car, .int .i64 r.f.num, .string r.f.frm, .string r.f.to_, .int .u8 r.f.days, .int .i64 r.f.dep, .int .i64 r.f.arr, .slice r.A r.n r.c, .int .i64 r.f.pln]] W (RetB W q) := by
  subst h
  exact rright_any r W lo hi hr hc hn hhi
set_option maxRecDepth 100000 in
set_option maxHeartbeats 8000000 in
theorem flightChecks_any (r : FlR) (w : World) (hok : r.ok) (hcl : ClAt w 0 w.heap.size r) (hcar : r.f.car.size ≤ 140737488355328) (hT : Tab10 w) :
    Calls Tryd.prog 3 #[.agg #[.string r.f.car, .int .i64 r.f.num, .string r.f.frm, .string r.f.to_, .int .u8 r.f.days, .int .i64 r.f.dep, .int .i64 r.f.arr, .slice r.A r.n r.c, .int .i64 r.f.pln]] w (RetB w true) := by
  have HB := box1 w #[.string r.f.car, .int .i64 r.f.num, .string r.f.frm, .string r.f.to_, .int .u8 r.f.days, .int .i64 r.f.dep, .int .i64 r.f.arr, .slice r.A r.n r.c, .int .i64 r.f.pln] 26
  have HOK := Lib.hid hok
  have HCL := Lib.hid hcl
  have HT := Lib.hid hT
  clear hok hcl hT
  go_enter Tryd.func3, Tryd.ntmps3
  go_upto_region 1 with fail
  refine wp_world (fun W => Bx W w.heap.size #[.string r.f.car, .int .i64 r.f.num, .string r.f.frm, .string r.f.to_, .int .u8 r.f.days, .int .i64 r.f.dep, .int .i64 r.f.arr, .slice r.A r.n r.c, .int .i64 r.f.pln] 26 ∧ Below w.heap.size w W) HB ?_
  clear HB
  rintro W ⟨bx0, hb0⟩
  go_wp2_with fail
  refine (awake_any W).mono ?_
  rintro e w1 ⟨rfl, h1⟩
  have bx := bx0.below h1 bx0.lt
  have hb := hb0.trans (h1.mono hb0.size)
  have zb := bx.lt
  have hz := hb.size
  clear bx0 hb0 h1
  have c1 := bx.cells
  by_cases hbig : 1000 < r.n
  · have t1 : decide ((r.n : Int) > 1000) = true := decide_eq_true (by omega)
    go_wp2
    go_ret
    exact ⟨rfl, hb⟩
  · have t1 : decide ((r.n : Int) > 1000) = false := decide_eq_false (by omega)
    have hn : r.n ≤ 100000 := by omega
    have HC3 := Lib.hid (fun t : Blw w1 => text_any r.f.car r.f.num t.W hcar HOK.out.f.num (HT.out.keep (hb.trans (t.b.mono hz))))
    have HC4 := Lib.hid (fun t : Blw w1 => rtext_any r.f.car r.f.num t.W hcar HOK.out.f.num)
    clear hbig
    go_upto_region 5 with fail
    generalize textF r.f.car r.f.num = tx at HC3 HC4
    cases hq : rightB r.f
    case' false => have hq2 : chkN (rightB r.f) = 4 := by rw [hq]; rfl
    case' true => have hq2 : chkN (rightB r.f) = 0 := by rw [hq]; rfl
    all_goals
      have HC1 := Lib.hid (fun t : Blw w1 => check_is hq2 HOK.out (HCL.out.below (hb.trans (t.b.mono hz)) (Nat.le_refl _)) hn (Nat.le_trans hz t.b.size))
      have HC2 := Lib.hid (fun t : Blw w1 => right_is hq HOK.out (HCL.out.below (hb.trans (t.b.mono hz)) (Nat.le_refl _)) hn (Nat.le_trans hz t.b.size))
      clear hq hq2
      refine wp_region_below (by kernel_rfl) (by kernel_rfl) ?_
      intro q9
      repeat
        (refine QH.step (fun K9 hK9 => ?_)
         go_simp
         first
         | (refine hK9 _ ?_; clear hK9 K9)
         | (apply Exists.intro
            refine ⟨fun _ => ?_, hK9 _ ?_⟩
            · first | (exact Calls.blw _ (HC1.out _)) | (exact Calls.blw _ (HC2.out _)) | (exact Calls.blw _ (HC3.out _)) | (exact Calls.blw _ (HC4.out _))
            clear hK9 K9))
      refine QH.nil_ ?_
      clear q9
      rintro ⟨V9, hV9⟩
      dsimp only
    all_goals go_wp2
    all_goals go_ret
    all_goals exact ⟨rfl, hb.trans (hV9.mono hz)⟩
end Go.Proofs.YtodholjbefifeaaDoor
