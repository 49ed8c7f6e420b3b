/- Package flight: does a flight fly on a day. -/
import Derived.Test.YtlkdefmceghmnaaGreatDoorFlA
namespace Go.Proofs.YtlkdefmceghmnaaGreatDoor
set_option linter.unusedVariables false
open Go Go.RowKit Go.Sort
theorem box1 (w : World) (A : Array Value) (t : TypeId) : Bx (w.alloc (.cells A t)) w.heap.size A t ∧ Below w.heap.size w (w.alloc (.cells A t)) := ⟨Bx.new _ _ _, (Below.refl _ _).alloc (Nat.le_refl _) _⟩
theorem wkd_bd (d : Int) : 0 ≤ wkd d ∧ wkd d ≤ 7 := by
  cases h : dayB d with
  | true => have := wkd_yes h; omega
  | false => rw [wkd_no h]; omega
theorem and1 (x : Int) (h0 : 0 ≤ x) (h1 : x ≤ 255) : (bits BinOp.and IntKind.u8 x 1 == 1) = decide (x % 2 = 1) := by
  obtain ⟨n, rfl⟩ := Int.eq_ofNat_of_zero_le h0
  have h : ∀ i : Fin 256, (bits BinOp.and IntKind.u8 (i.val : Int) 1 == 1) = decide ((i.val : Int) % 2 = 1) := by decide +kernel
  exact h ⟨n, by omega⟩
set_option maxRecDepth 100000 in
set_option maxHeartbeats 1000000 in
theorem flies_any (r : FlR) (d : Int) (w : World) (hd : okByte r.f.days) :
    Calls Tryz.prog 83 #[.agg #[.string r.f.car, .int .i64 r.f.num, .string r.f.frm, .string r.f.to_, .int .u8 r.f.days, .int .i64 r.f.dep, .int .i64 r.f.arr, .slice r.A r.n r.c, .int .i64 r.f.pln], .int .i64 d] w (RetB w (onB r.f d)) := by
  have hon : onB r.f d = bitB r.f.days (wkd d) := rfl
  rw [hon]
  clear hon
  obtain ⟨d0, d1⟩ := hd
  have hw := wkd_bd d
  generalize hwk : wkd d = k at hw
  have HK := Lib.hid hwk
  clear hwk
  have hk : k = 0 ∨ k = 1 ∨ k = 2 ∨ k = 3 ∨ k = 4 ∨ k = 5 ∨ k = 6 ∨ k = 7 := by omega
  clear hw
  have HB := box1 w #[.string r.f.car, .int .i64 r.f.num, .string r.f.frm, .string r.f.to_, .int .u8 r.f.days, .int .i64 r.f.dep, .int .i64 r.f.arr, .slice r.A r.n r.c, .int .i64 r.f.pln] 55
  rcases hk with rfl | rfl | rfl | rfl | rfl | rfl | rfl | rfl
  all_goals
    go_enter Tryz.func83, Tryz.ntmps83
    go_wp2_with (go_at_call 61; refine (weekday_any _ _).mono ?_; rintro e w' ⟨rfl, rfl⟩; rw [HK.out])
    try go_ret
    exact ⟨ret_bool (by first | (simp [bitB]; done) | (rw [and1 _ (by omega) (by omega)]; simp [bitB])), HB.2⟩
theorem rweekday_any (d : Int) (w : World) :
    Calls Tryz.prog 93 #[.int .i64 d] w fun e w' => e = .returned (.int .i64 (wkd d)) ∧ w = w' := by
  by_cases h1 : 0 ≤ d
  · by_cases h2 : d < 366
    · have hw : wkd d = d - d / 7 * 7 + 1 := by simp [wkd, dayB, h1, h2]; omega
      rw [hw]
      clear hw
      go_enter Tryz.func93, Tryz.ntmps93
      go_wp2
      all_goals (go_ret; exact ⟨rfl, rfl⟩)
    · have hw : wkd d = 0 := by simp [wkd, dayB, h2]
      rw [hw]
      clear hw
      go_enter Tryz.func93, Tryz.ntmps93
      go_wp2
      all_goals (go_ret; exact ⟨rfl, rfl⟩)
  · have hw : wkd d = 0 := by simp [wkd, dayB, h1]
    rw [hw]
    clear hw
    go_enter Tryz.func93, Tryz.ntmps93
    go_wp2
    all_goals (go_ret; exact ⟨rfl, rfl⟩)
theorem pow_le (i : Nat) (h : i ≤ 6) : 2 ^ i ≤ 64 := Nat.pow_le_pow_right (by omega) h
set_option maxRecDepth 100000 in
set_option maxHeartbeats 1000000 in
theorem on_any (r : FlR) (d : Int) (w : World) (hd : okByte r.f.days) :
    Calls Tryz.prog 84 #[.agg #[.string r.f.car, .int .i64 r.f.num, .string r.f.frm, .string r.f.to_, .int .u8 r.f.days, .int .i64 r.f.dep, .int .i64 r.f.arr, .slice r.A r.n r.c, .int .i64 r.f.pln], .int .i64 d] w (RetB w (onB r.f d)) := by
  have hon : onB r.f d = bitB r.f.days (wkd d) := rfl
  rw [hon]
  clear hon
  obtain ⟨d0, d1⟩ := hd
  obtain ⟨hw0, hw1⟩ := wkd_bd d
  generalize hwk : wkd d = k at hw0 hw1
  have HK := Lib.hid hwk
  clear hwk
  have HB := box1 w #[.string r.f.car, .int .i64 r.f.num, .string r.f.frm, .string r.f.to_, .int .u8 r.f.days, .int .i64 r.f.dep, .int .i64 r.f.arr, .slice r.A r.n r.c, .int .i64 r.f.pln] 55
  go_enter Tryz.func84, Tryz.ntmps84
  go_wp2_with (go_at_call 93; refine (rweekday_any _ _).mono ?_; rintro e w' ⟨rfl, rfl⟩; rw [HK.out])
  go_loop [6, 7] (fun b i => ∃ j p : Nat, 1 ≤ j ∧ ((j : Int) ≤ k ∨ j = 1) ∧ Hid (p = 2 ^ (j - 1)) ∧ 1 ≤ p ∧ p ≤ 64 ∧ b = .int .i64 p ∧ i = .int .i64 j) (fun _ i => 8 - (intOf i).toNat)
  case atStart => exact ⟨1, 1, by omega, .inr rfl, rfl, by omega, by omega, rfl, rfl⟩
  case round =>
    obtain ⟨j, p, h1, h2, HP, h3, h4, rfl, rfl⟩ := hrel
    by_cases hlt : (j : Int) < k
    · have hp2 : p * 2 ≤ 64 := by
        rw [HP.out, ← Nat.pow_succ]; exact pow_le _ (by omega)
      go_wp2
      go_round
      case rel => exact ⟨j + 1, p * 2, by omega, .inl (by omega), by show p * 2 = 2 ^ (j + 1 - 1); rw [HP.out, ← Nat.pow_succ]; congr 1; omega, by omega, hp2, by go_num, by go_num⟩
      case measure => simp [intOf]; omega
    · go_wp2
      all_goals go_ret
      all_goals refine ⟨ret_bool ?_, HB.2⟩
      · have hj : (j : Int) = k := by omega
        have hj2 : (k - 1).toNat = j - 1 := by omega
        unfold bitB
        rw [hj2, ← HP.out]
        rw [Int.tmod_eq_emod_of_nonneg (Int.ediv_nonneg d0 (by omega)), decide_eq_true (show 0 < k by omega), Bool.true_and]
        rw [Bool.eq_iff_iff]
        simp
      · unfold bitB
        simp
        omega
end Go.Proofs.YtlkdefmceghmnaaGreatDoor
