/- The document's Right: is a flight right? By program. -/
import Derived.Test.YtlkdefmceghmnaaGreatDoorFlCheck
namespace Go.Proofs.YtlkdefmceghmnaaGreatDoor
set_option linter.unusedVariables false
open Go Go.RowKit Go.Sort
def inB (n a b : Int) : Bool := decide (a ≤ n) && decide (n ≤ b)
theorem in_any (n a b : Int) (w : World) :
    Calls Tryz.prog 36 #[.int .i64 n, .int .i64 a, .int .i64 b] w fun e w' => e = .returned (.bool (inB n a b)) ∧ w = w' := by
  by_cases h : a ≤ n
  · go_enter Tryz.func36, Tryz.ntmps36
    go_wp2
    go_ret
    exact ⟨ret_bool (by unfold inB; simp; try omega), rfl⟩
  · go_enter Tryz.func36, Tryz.ntmps36
    go_wp2
    go_ret
    exact ⟨ret_bool (by unfold inB; simp; try omega), rfl⟩
theorem in_is (n a b : Int) (q : Bool) (h : inB n a b = q) (u : World) : Calls Tryz.prog 36 #[.int .i64 n, .int .i64 a, .int .i64 b] u fun e w' => e = .returned (.bool q) ∧ w' = u :=
  (in_any n a b u).mono fun e w' h2 => ⟨by rw [h2.1, h], h2.2.symm⟩
theorem rclass_is (x : Int) (q : Bool) (h : isL x = q) (u : World) : Calls Tryz.prog 38 #[.int .u8 x] u fun e w' => e = .returned (.bool q) ∧ w' = u :=
  (rclass_any x u).mono fun e w' h2 => ⟨by rw [h2.1, h], h2.2.symm⟩
theorem min_in (m : Int) : minB m = inB m 0 1439 := by
  unfold minB inB
  rw [Bool.eq_iff_iff]
  simp
  omega
def eqTx (a b : ByteArray) : Bool := decide (a = b)
theorem eqTx_l (a b : ByteArray) : (a.toList == b.toList) = eqTx a b := by
  unfold eqTx
  rw [Bool.eq_iff_iff]; simp; exact ⟨toList_inj, fun h => by rw [h]⟩
theorem right_eq (f : Flt) (n : Nat) (hn : f.cls.length = n) : rightB f = (carrierB f.car && (inB f.num 1 9999 && (wordB f.frm 3 3 && (wordB f.to_ 3 3 && (!(eqTx f.frm f.to_) && (inB f.days 1 127 && (inB f.dep 0 1439 && (inB f.arr 0 1439 && (inB n 1 6 && (inB f.pln 0 7 && allP (clI f.cls) n)))))))))) := by
  have e1 : rightC f = (inB f.days 1 127 && (inB n 1 6 && inB f.pln 0 7)) := by
    unfold rightC inB
    rw [hn, Bool.eq_iff_iff]
    simp
    omega
  unfold rightB rightA
  rw [e1, min_in, min_in, hn]
  have e2 : (decide (1 ≤ f.num) && (decide (f.num ≤ 9999) && (wordB f.frm 3 3 && (wordB f.to_ 3 3 && !(decide (f.frm = f.to_)))))) = (inB f.num 1 9999 && (wordB f.frm 3 3 && (wordB f.to_ 3 3 && !(eqTx f.frm f.to_)))) := by
    unfold inB eqTx
    simp only [Bool.and_assoc]
  rw [e2]
  cases carrierB f.car <;> cases inB f.num 1 9999 <;> cases wordB f.frm 3 3 <;> cases wordB f.to_ 3 3 <;> cases eqTx f.frm f.to_ <;> cases inB f.days 1 127 <;> cases inB f.dep 0 1439 <;> cases inB f.arr 0 1439 <;> cases inB n 1 6 <;> cases inB f.pln 0 7 <;> rfl
set_option maxRecDepth 100000 in
set_option maxHeartbeats 4000000 in
theorem rright_any' (f : Flt) (A : Option Addr) (n c : Nat) (w : World) (lo hi : Nat) (hr : f.ok) (hlen : f.cls.length = n) (hc : Sl w lo hi tCls A n f.cls) (hhi : hi ≤ w.heap.size) :
    Calls Tryz.prog 14 #[.agg #[.string f.car, .int .i64 f.num, .string f.frm, .string f.to_, .int .u8 f.days, .int .i64 f.dep, .int .i64 f.arr, .slice A n c, .int .i64 f.pln]] w (RetB w (rightB f)) := by
  have HR := Lib.hid hr
  have HC := Lib.hid hc
  have HE := Lib.hid (right_eq f n hlen)
  have HB := FB.start w (FlR.mk f A n c)
  have hd0 := hr.days.1
  have hd1 := hr.days.2
  have es := eqTx_l f.frm f.to_
  clear hr hc hlen
  go_enter Tryz.func14, Tryz.ntmps14
  go_upto_region 1 with fail
  refine wp_world (FB w (FlR.mk f A n c)) HB ?_
  clear HB
  intro W hF
  have c1 := hF.cells
  go_wp2_with fail
  refine (rcarrier_any _ _ HR.out.car).mono ?_
  rintro e w' ⟨rfl, rfl⟩
  generalize hq : carrierB f.car = q
  have HQ0 := Lib.hid hq
  clear hq
  rcases q with _ | _
  · go_wp2
    go_ret
    exact ⟨ret_bool (by rw [HE.out, HQ0.out]; simp), hF.2⟩
  go_wp2_with fail
  refine (in_any _ _ _ _).mono ?_
  rintro e w' ⟨rfl, rfl⟩
  generalize hq : inB f.num 1 9999 = q
  have HQ1 := Lib.hid hq
  clear hq
  rcases q with _ | _
  · go_wp2
    go_ret
    exact ⟨ret_bool (by rw [HE.out, HQ1.out]; simp), hF.2⟩
  go_wp2_with fail
  refine (rcity_any _ _ HR.out.frm).mono ?_
  rintro e w' ⟨rfl, rfl⟩
  generalize hq : wordB f.frm 3 3 = q
  have HQ2 := Lib.hid hq
  clear hq
  rcases q with _ | _
  · go_wp2
    go_ret
    exact ⟨ret_bool (by rw [HE.out, HQ2.out]; simp), hF.2⟩
  go_wp2_with fail
  refine (rcity_any _ _ HR.out.to_).mono ?_
  rintro e w' ⟨rfl, rfl⟩
  generalize hq : wordB f.to_ 3 3 = q
  have HQ3 := Lib.hid hq
  clear hq
  rcases q with _ | _
  · go_wp2
    go_ret
    exact ⟨ret_bool (by rw [HE.out, HQ3.out]; simp), hF.2⟩
  generalize hq : eqTx f.frm f.to_ = q at es ⊢
  have HQ4 := Lib.hid hq
  clear hq
  rcases q with _ | _
  rotate_left
  · go_wp2
    go_ret
    exact ⟨ret_bool (by rw [HE.out, HQ4.out]; simp), hF.2⟩
  go_wp2_with fail
  refine (in_any _ _ _ _).mono ?_
  rintro e w' ⟨rfl, rfl⟩
  generalize hq : inB f.days 1 127 = q
  have HQ5 := Lib.hid hq
  clear hq
  rcases q with _ | _
  · go_wp2
    go_ret
    exact ⟨ret_bool (by rw [HE.out, HQ5.out]; simp), hF.2⟩
  go_wp2_with fail
  refine (in_any _ _ _ _).mono ?_
  rintro e w' ⟨rfl, rfl⟩
  generalize hq : inB f.dep 0 1439 = q
  have HQ6 := Lib.hid hq
  clear hq
  rcases q with _ | _
  · go_wp2
    go_ret
    exact ⟨ret_bool (by rw [HE.out, HQ6.out]; simp), hF.2⟩
  go_wp2_with fail
  refine (in_any _ _ _ _).mono ?_
  rintro e w' ⟨rfl, rfl⟩
  generalize hq : inB f.arr 0 1439 = q
  have HQ7 := Lib.hid hq
  clear hq
  rcases q with _ | _
  · go_wp2
    go_ret
    exact ⟨ret_bool (by rw [HE.out, HQ7.out]; simp), hF.2⟩
  go_wp2_with fail
  refine (in_any _ _ _ _).mono ?_
  rintro e w' ⟨rfl, rfl⟩
  generalize hq : inB (n : Int) 1 6 = q
  have HQ8 := Lib.hid hq
  clear hq
  rcases q with _ | _
  · go_wp2
    go_ret
    exact ⟨ret_bool (by rw [HE.out, HQ8.out]; simp), hF.2⟩
  have hn : n ≤ 6 := by have h5 := HQ8.out; unfold inB at h5; simp at h5; omega
  go_wp2_with fail
  refine (in_any _ _ _ _).mono ?_
  rintro e w' ⟨rfl, rfl⟩
  generalize hq : inB f.pln 0 7 = q
  have HQ9 := Lib.hid hq
  clear hq
  rcases q with _ | _
  · go_wp2
    go_ret
    exact ⟨ret_bool (by rw [HE.out, HQ9.out]; simp), hF.2⟩
  have HE2 := Lib.hid (show rightB f = allP (clI f.cls) n by rw [HE.out, HQ0.out, HQ1.out, HQ2.out, HQ3.out, HQ4.out, HQ5.out, HQ6.out, HQ7.out, HQ8.out, HQ9.out]; simp)
  clear HE es
  go_wp2
  clear c1
  go_loopw [3] (fun i wr => ∃ k : Nat, k ≤ n ∧ i = .int .i64 k ∧ Hid (allP (clI f.cls) k = true) ∧ FB w (FlR.mk f A n c) wr) (fun i _ => n - (intOf i).toNat)
  case atStart => exact ⟨0, by omega, rfl, rfl, hF⟩
  case round =>
    obtain ⟨k, hk, rfl, hall, hG⟩ := hrel
    clear hF
    by_cases hlt : k < n
    · obtain ⟨b0, o0, ⟨x, y⟩, hA, h1, h2, hx, hok, d0, d1⟩ := (Sl.below HC.out hG.2 hhi).cls_ hlt
      subst hA
      have c1 := hG.cells
      have i0 : (0 : Int) ≤ k := by omega
      have i1 : (k : Int) < n := by omega
      dsimp only at d0 d1
      have hci := Lib.hid (show clI f.cls k = (isL x && (decide (0 ≤ y) && (decide (y ≤ 400) && (decide (k = 0) || (match f.cls[k - 1]? with | some y => decide (y.let_ < x) | none => false))))) by unfold clI; rw [hx.out]; rfl)
      have hin := Lib.hid (show inB y 0 400 = (decide (0 ≤ y) && decide (y ≤ 400)) from rfl)
      generalize hq : isL x = q
      have HL := Lib.hid hq
      have HCL := Lib.hid (rclass_is x q hq)
      clear hq
      rcases q with _ | _
      · go_wp2
        go_quiet ((go_at_call 38; exact Calls.quiet_of_same (HCL.out _)))
        go_wp2
        go_ret
        exact ⟨ret_bool (by rw [HE2.out]; exact (allP_no n hlt (by rw [hci.out, HL.out, Bool.false_and])).symm), below_drewN hG.2 _⟩
      generalize hq : inB y 0 400 = q at hin
      have HI := Lib.hid (in_is y 0 400 q hq)
      clear hq
      rcases q with _ | _
      · go_wp2
        go_quiet ((first | (go_at_call 38; exact Calls.quiet_of_same (HCL.out _)) | (go_at_call 36; exact Calls.quiet_of_same (HI.out _))))
        go_wp2
        go_ret
        exact ⟨ret_bool (by rw [HE2.out]; exact (allP_no n hlt (by rw [hci.out, HL.out, Bool.true_and, ← Bool.and_assoc, ← hin.out, Bool.false_and])).symm), below_drewN hG.2 _⟩
      rcases k with _ | k
      · simp only [Nat.zero_mul, Nat.add_zero] at d0 d1
        have hn0 : 0 < n := hlt
        clear i0 i1
        have hs := Lib.hid (allP_step hall.out (show clI f.cls 0 = true by rw [hci.out, HL.out, Bool.true_and, ← Bool.and_assoc, ← hin.out]; rfl))
        go_wp2
        go_quiet ((first | (go_at_call 38; exact Calls.quiet_of_same (HCL.out _)) | (go_at_call 36; exact Calls.quiet_of_same (HI.out _))))
        go_wp2
        go_roundw
        case rel => exact ⟨0 + 1, by omega, by go_num, hs, hG.drewN _⟩
        case measure => simp [intOf]; omega
      · obtain ⟨b1, o1, ⟨x', y'⟩, hA, _, _, hx', hok', e0, e1⟩ := (Sl.below HC.out hG.2 hhi).cls_ (show k < n by omega)
        injection hA with hA
        injection hA with g1 g2
        subst g1 g2
        dsimp only at e0 e1
        have hk0 : decide ((0 : Int) < (k : Int) + 1) = true := by first | (simp; done) | (simp; omega)
        have hk2 : (0 : Int) ≤ k := by omega
        have hk3 : (k : Int) < n := by omega
        have hci2 := Lib.hid (show clI f.cls (k + 1) = !(decide (x ≤ x')) by
          rw [hci.out, HL.out, Bool.true_and, ← Bool.and_assoc, ← hin.out, show k + 1 - 1 = k from rfl, hx'.out, Bool.eq_iff_iff]; simp)
        have hk1 : IntKind.i64.wrap ((k : Int) + 1 - 1) = k := by rw [show (k : Int) + 1 - 1 = k by omega]; exact IntWalk.i64_in _ (by omega)
        have hk4 : IntKind.i64.wrap (k : Int) = k := IntWalk.i64_in _ (by omega)
        generalize hq : decide (x ≤ x') = q at hci2
        rcases q with _ | _
        · have hs := Lib.hid (allP_step hall.out hci2.out)
          go_wp2
          go_quiet ((first | (go_at_call 38; exact Calls.quiet_of_same (HCL.out _)) | (go_at_call 36; exact Calls.quiet_of_same (HI.out _))))
          go_wp2
          go_roundw
          case rel => exact ⟨k + 1 + 1, by omega, by go_num, hs, hG.drewN _⟩
          case measure => simp [intOf]; omega
        · go_wp2
          go_quiet ((first | (go_at_call 38; exact Calls.quiet_of_same (HCL.out _)) | (go_at_call 36; exact Calls.quiet_of_same (HI.out _))))
          go_wp2
          go_ret
          exact ⟨ret_bool (by rw [HE2.out]; exact (allP_no n hlt hci2.out).symm), below_drewN hG.2 _⟩
    · obtain rfl : n = k := by omega
      have c1 := hG.cells
      go_wp2
      go_ret
      exact ⟨ret_bool (by rw [HE2.out, hall.out]), hG.2⟩
theorem rright_all (r : FlR) (w : World) (lo hi : Nat) (hr : r.ok) (hc : ClAt w lo hi r) (hhi : hi ≤ w.heap.size) :
    Calls Tryz.prog 14 #[.agg #[.string r.f.car, .int .i64 r.f.num, .string r.f.frm, .string r.f.to_, .int .u8 r.f.days, .int .i64 r.f.dep, .int .i64 r.f.arr, .slice r.A r.n r.c, .int .i64 r.f.pln]] w (RetB w (rightB r.f)) :=
  rright_any' r.f r.A r.n r.c w lo hi hr.f hr.len hc hhi
theorem rright_any (r : FlR) (w : World) (lo hi : Nat) (hr : r.ok) (hc : ClAt w lo hi r) (_ : r.n ≤ 100000) (hhi : hi ≤ w.heap.size) :
    Calls Tryz.prog 14 #[.agg #[.string r.f.car, .int .i64 r.f.num, .string r.f.frm, .string r.f.to_, .int .u8 r.f.days, .int .i64 r.f.dep, .int .i64 r.f.arr, .slice r.A r.n r.c, .int .i64 r.f.pln]] w (RetB w (rightB r.f)) := rright_all r w lo hi hr hc hhi
end Go.Proofs.YtlkdefmceghmnaaGreatDoor
