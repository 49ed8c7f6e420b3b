/- The law's has: is a flight among some? -/
import Derived.Test.YtodholjbefifeaaDoorFlLawS
namespace Go.Proofs.YtodholjbefifeaaDoor
set_option linter.unusedVariables false
open Go Go.RowKit Go.Sort
set_option maxRecDepth 100000 in
set_option maxHeartbeats 4000000 in
theorem has_any (al : List FlR) (A : Option Addr) (n c : Nat) (r : FlR) (w : World) (lo hi lo' hi' : Nat) (ha : FlS w lo hi A n al) (hr : r.ok) (hc : ClAt w lo' hi' r) (hn : n ≤ 100000) (hsm : ∀ r ∈ al, r.n ≤ 100000) (hrn : r.n ≤ 100000) (hhi : hi ≤ w.heap.size) (hhi' : hi' ≤ w.heap.size) :
    Calls Tryd.prog 23 #[.slice A n c, .agg #[.string r.f.car, .int .i64 r.f.num, .string r.f.frm, .string r.f.to_, .int .u8 r.f.days, .int .i64 r.f.dep, .int .i64 r.f.arr, .slice r.A r.n r.c, .int .i64 r.f.pln]] w (RetB w (decide (r.f ∈ al.map (·.f)))) := by
  have HA := Lib.hid ha
  have HM := Lib.hid hsm
  have HC := Lib.hid hc
  have HL := Lib.hid ha.sl.len
  have HB := box1 w #[.string r.f.car, .int .i64 r.f.num, .string r.f.frm, .string r.f.to_, .int .u8 r.f.days, .int .i64 r.f.dep, .int .i64 r.f.arr, .slice r.A r.n r.c, .int .i64 r.f.pln] 26
  clear ha hsm hc
  go_enter Tryd.func23, Tryd.ntmps23
  go_upto_region 1 with fail
  refine wp_world (fun W => Bx W w.heap.size #[.string r.f.car, .int .i64 r.f.num, .string r.f.frm, .string r.f.to_, .int .u8 r.f.days, .int .i64 r.f.dep, .int .i64 r.f.arr, .slice r.A r.n r.c, .int .i64 r.f.pln] 26 ∧ Below w.heap.size w W) HB ?_
  clear HB
  rintro W ⟨b1, hb⟩
  go_wp2
  go_loopw [5] (fun i wr => ∃ k : Nat, k ≤ n ∧ i = .int .i64 k ∧ Bx wr w.heap.size #[.string r.f.car, .int .i64 r.f.num, .string r.f.frm, .string r.f.to_, .int .u8 r.f.days, .int .i64 r.f.dep, .int .i64 r.f.arr, .slice r.A r.n r.c, .int .i64 r.f.pln] 26 ∧ Below w.heap.size w wr ∧ Hid (∀ j s, j < k → al[j]? = some s → s.f ≠ r.f)) (fun i _ => n - (intOf i).toNat)
  case atStart => exact ⟨0, by omega, rfl, b1, hb, fun _ _ h => absurd h (by omega)⟩
  case round =>
    clear b1 hb
    obtain ⟨k, hk, rfl, bx, hb, HN⟩ := hrel
    by_cases hlt : k < n
    · obtain ⟨b0, o0, s, hA, _, hb0, hx, hok, hcl, d0, d1, d2, d3, d4, d5, d6, d7, d8⟩ := (HA.out.below hb hhi).at_ hlt
      subst hA
      have c1 := bx.cells
      have zb := bx.lt
      have hsz := hb.size
      have z0 : b0 < wr.heap.size := by omega
      have i0 : (0 : Int) ≤ k := by omega
      have i1 : (k : Int) < n := by omega
      have t1 : decide ((k : Int) < n) = true := by simp; omega
      have hsn : s.n ≤ 100000 := HM.out s (List.mem_of_getElem? hx.out)
      generalize hd : decide (s.f = r.f) = d
      have HD := Lib.hid hd
      have HS := Lib.hid (fun t : Blw wr => rsame_is (r := s) (s := r) hd hok hr (hcl.below t.b (Nat.le_trans hhi hsz)) ((HC.out.below hb hhi').below t.b (Nat.le_trans hhi' hsz)) hsn hrn (Nat.le_trans (Nat.le_trans hhi hsz) t.b.size) (Nat.le_trans (Nat.le_trans hhi' hsz) t.b.size))
      clear hd hcl hok
      go_upto_region 4 with fail
      refine wp_region_below (by kernel_rfl) (by kernel_rfl) ?_
      intro q9
      repeat
        (refine QH.step (fun K9 hK9 => ?_)
         go_simp
         first
         | (refine hK9 _ ?_; clear hK9 K9)
         | (apply Exists.intro
            refine ⟨fun _ => ?_, hK9 _ ?_⟩
            · first | (exact Calls.blw _ (HS.out _))
            clear hK9 K9))
      refine QH.nil_ ?_
      clear q9
      rintro ⟨V9, hV9⟩
      dsimp only
      rcases d with _ | _
      · go_wp2
        go_roundw
        case rel =>
          refine ⟨k + 1, by omega, by go_num, bx.below hV9 zb, hb.trans (hV9.mono hsz), fun j x hj hjx => ?_⟩
          rcases Nat.lt_succ_iff_lt_or_eq.1 hj with h | rfl
          · exact HN.out j x h hjx
          · rw [hx.out] at hjx
            injection hjx with hjx
            subst hjx
            exact of_decide_eq_false HD.out
        case measure => simp [intOf]; omega
      · go_wp2
        go_ret
        exact ⟨ret_bool (decide_eq_true (List.mem_map.2 ⟨s, List.mem_of_getElem? hx.out, of_decide_eq_true HD.out⟩)).symm, hb.trans (hV9.mono hsz)⟩
    · obtain rfl : n = k := by omega
      have t1 : decide ((n : Int) < n) = false := by simp
      go_wp2
      go_ret
      refine ⟨ret_bool (decide_eq_false fun h => ?_).symm, hb⟩
      obtain ⟨s, hs, e⟩ := List.mem_map.1 h
      obtain ⟨j, hj⟩ := List.mem_iff_getElem?.1 hs
      exact HN.out j s (by rw [← HL.out]; exact (List.getElem?_eq_some_iff.1 hj).1) hj e
end Go.Proofs.YtodholjbefifeaaDoor
