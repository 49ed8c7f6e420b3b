/- Put together by program of: Scn2, Scn3. -/
import Derived.Test.YtggomjfllbljeaaGreatDoorScan
import Derived.Test.YtggomjfllbljeaaGreatDoorFCode
import Derived.BigGuardPart
import Derived.Deep.DeepCutAuto
namespace Go.Proofs.YtggomjfllbljeaaGreatDoor
set_option linter.unusedVariables false
open Go Go.RowKit
attribute [local go_sem] bat_get
set_option maxRecDepth 100000 in
set_option maxHeartbeats 2000000 in
theorem of_dig (c : Int) (W : World) (h0 : 0 ≤ c) (h1 : c ≤ 255) :
    Calls Tryz.prog 86 #[.int .i64 2, .int .u8 c] W fun e W' => e = .returned (.bool (decide (48 ≤ c) && decide (c ≤ 57))) ∧ W = W' := by
  have e : decide ((c - 48) % 256 < 10) = (decide (48 ≤ c) && decide (c ≤ 57)) := by
    rw [Bool.eq_iff_iff]; simp; omega
  go_enter Tryz.func86, Tryz.ntmps86
  go_wp2
  all_goals first | (exfalso; omega) | (go_ret; exact ⟨ret_bool (by first | exact e | (simp; omega) | (simp; done)), rfl⟩)
theorem ext_tail {s : ByteArray} {a r : Nat} (h : a ≤ s.size) (hr : r ≤ s.size - a) : (tailB s a).extract 0 r = s.extract a (a + r) := by
  unfold tailB
  apply ByteArray.ext
  simp only [ByteArray.data_extract, Array.extract_extract]
  congr 1
  omega
set_option maxRecDepth 100000 in
set_option maxHeartbeats 4000000 in
theorem run_dig {W : World} {b : Nat} {s : ByteArray} {a : Nat} (h : Cu W b s a) (h1 : a ≤ s.size) (h2 : s.size ≤ 100000) :
    Calls Tryz.prog 50 #[.pointer (some ⟨b, 0, none⟩), .int .i64 2] W fun e W' => e = .returned (.string (s.extract a (runTo s a))) ∧ Cu W' b s (runTo s a : Nat) ∧ Kp (fun k => k = b) W W' := by
  have hb := runTo_bd h1
  have ht := tail_size h1
  have hrt : a + runTo (tailB s a) 0 = runTo s a := tail_runTo h1 0
  have hall : ∀ j, j < runTo (tailB s a) 0 → dgB (tailB s a) j = true := fun j hj => runTo_all (i := 0) j (Nat.zero_le _) hj
  have hend := runTo_end (s := tailB s a) (i := 0) (Nat.zero_le _)
  have hx := ext_tail (s := s) (a := a) (r := runTo (tailB s a) 0) h1 (by omega)
  have HX := Lib.hid hx
  have HA := Lib.hid hall
  have HE := Lib.hid hend
  have HR := Lib.hid hrt
  clear hx hall hend
  generalize hq : runTo (tailB s a) 0 = r at HX HA HE HR hrt
  have HQ := Lib.hid hq
  clear hq
  generalize hz : runTo s a = z at HR hb hrt ⊢
  have HZ := Lib.hid hz
  have ht2 : (tailB s a).size ≤ 100000 := by omega
  have hrz : r ≤ (tailB s a).size := by omega
  have HT := Lib.hid ht
  clear hz ht hrt
  go_enter Tryz.func50, Tryz.ntmps50
  go_wp2_with fail
  refine (ahead_any h h1 h2).mono ?_
  rintro e W1 ⟨rfl, hC, hK⟩
  generalize tailB s a = t at HX HA HE HQ HT ht2 hrz
  go_wp2
  go_loop [6] (fun n => ∃ k : Nat, k ≤ r ∧ n = .int .i64 k) (fun n => r - (intOf n).toNat)
  case atStart => exact ⟨0, Nat.zero_le _, rfl⟩
  case round =>
    obtain ⟨k, hk, rfl⟩ := hrel
    by_cases hlt : k < r
    · have hd := HA.out k hlt
      have hl : k < t.size := by omega
      have hb1 := bat_bd t k
      have hv : (decide (48 ≤ bat t k) && decide (bat t k ≤ 57)) = true := hd
      clear hd
      go_wp2_with ((with_reducible refine (of_dig (bat t k) _ hb1.1 hb1.2).mono ?_); rintro e w' ⟨rfl, rfl⟩)
      all_goals first | (exfalso; omega) | skip
      go_round
      case rel => exact ⟨k + 1, by omega, by go_num⟩
      case measure => simp [intOf]; omega
    · have hkr : k = r := by omega
      subst hkr
      have hf : IntKind.i64.wrap ((a : Int) + k) = (z : Int) := by rw [IntKind.wrap_i64]; have := HR.out; omega
      have hc1 : (k : Int) ≤ t.size := by omega
      have ct := hC.t
      have ca := hC.a
      have cf := hC.f
      have cl := hC.lt
      have HX' : Hid (Ending.returned (.string (t.extract 0 k)) = .returned (.string (s.extract a z))) := by show _ = _; rw [HX.out, HR.out]
      rcases HE.out with he | he
      · have hl : ¬ k < t.size := by omega
        have HE' := Lib.hid he
        clear he
        go_wp2
        go_ret
        exact ⟨HX'.out, hC.set _, hK.set (p := ⟨b, 1, none⟩) rfl _⟩
      · by_cases hl : k < t.size
        · have hb1 := bat_bd t k
          have hv : (decide (48 ≤ bat t k) && decide (bat t k ≤ 57)) = false := he
          clear he
          go_wp2_with ((with_reducible refine (of_dig (bat t k) _ hb1.1 hb1.2).mono ?_); rintro e w' ⟨rfl, rfl⟩)
          all_goals first | (exfalso; omega) | skip
          go_ret
          exact ⟨HX'.out, hC.set _, hK.set (p := ⟨b, 1, none⟩) rfl _⟩
        · go_wp2
          go_ret
          exact ⟨HX'.out, hC.set _, hK.set (p := ⟨b, 1, none⟩) rfl _⟩
end Go.Proofs.YtggomjfllbljeaaGreatDoor
namespace Go.Proofs.YtggomjfllbljeaaGreatDoor
set_option linter.unusedVariables false
open Go Go.RowKit
attribute [local go_sem] bat_get
theorem ext_bat {s : ByteArray} {a z i : Nat} (h : a + i < z) (hz : z ≤ s.size) : bat (s.extract a z) i = bat s (a + i) := by
  have e : (s.extract a z).data.toList = (s.data.toList.take z).drop a := by
    simp only [ByteArray.data_extract, Array.toList_extract, List.extract_eq_take_drop]
    rw [List.drop_take]
  unfold bat
  rw [e, List.getElem?_drop, List.getElem?_take_of_lt h]
set_option maxRecDepth 100000 in
set_option maxHeartbeats 4000000 in
theorem number_any {W : World} {b : Nat} {s : ByteArray} {a : Nat} (most : Int) (h : Cu W b s a) (h1 : a ≤ s.size) (h2 : s.size ≤ 100000) (h3 : 0 ≤ most) (h4 : most ≤ 999999999) :
    Calls Tryz.prog 26 #[.pointer (some ⟨b, 0, none⟩), .int .i64 most] W fun e W' => e = .returned (.tuple #[.int .i64 (numF s a most).1, .bool (numF s a most).2.2]) ∧ Cu W' b s ((numF s a most).2.1 : Nat) ∧ Kp (fun k => k = b) W W' := by
  have hb := runTo_bd h1
  have hall : ∀ j, j < runTo s a - a → dgB s (a + j) = true := fun j hj => runTo_all (i := a) (a + j) (by omega) (by omega)
  have HB := fun (k : Nat) (hk : k ≤ runTo s a - a) => valD_bd (s := s) (a := a) k (fun j hj => hall j (by omega))
  have hsz : (s.extract a (runTo s a)).size = runTo s a - a := by simp; omega
  have hbt : ∀ i, i < runTo s a - a → bat (s.extract a (runTo s a)) i = bat s (a + i) := fun i hi => ext_bat (by omega) hb.2
  have hF : numF s a most = if runTo s a - a < 1 ∨ 9 < runTo s a - a ∨ (1 < runTo s a - a ∧ bat s a = 48) ∨ most < valD s a (runTo s a - a) then (0, a, false) else (valD s a (runTo s a - a), runTo s a, true) := rfl
  have HR := Lib.hid (fun (W : World) (hC : Cu W b s a) => run_dig hC h1 h2)
  have HA := Lib.hid hall
  have HV := Lib.hid HB
  have HT := Lib.hid hbt
  have HF := Lib.hid hF
  clear hall HB hbt hF
  generalize numF s a most = F at HF ⊢
  generalize s.extract a (runTo s a) = q at HR hsz HT
  generalize runTo s a = z at HA HV HT HF HR hsz hb
  obtain ⟨r, rfl⟩ : ∃ r, z = a + r := ⟨z - a, by omega⟩
  rw [Nat.add_sub_cancel_left] at hsz
  have HA' := Lib.hid (fun j (hj : j < r) => HA.out j (by omega))
  have HT' := Lib.hid (fun j (hj : j < r) => HT.out j (by omega))
  have HV' := Lib.hid (fun k (hk : k ≤ r) => HV.out k (by omega))
  clear HA HT HV
  rw [Nat.add_sub_cancel_left] at HF
  subst hsz
  have hr : q.size ≤ 100000 := by omega
  go_enter Tryz.func26, Tryz.ntmps26
  go_wp2_with fail
  refine (ahead_any h h1 h2).mono ?_
  rintro e W1 ⟨rfl, hC, hK⟩
  have ca := hC.a
  go_wp2_with fail
  refine (HR.out _ hC).mono ?_
  rintro e W2 ⟨rfl, hC2, hK2⟩
  have hK3 := hK.trans hK2 (fun _ _ e => e)
  clear hK hK2 ca hC
  by_cases h9 : q.size ≤ 9
  · have HXT := HT'
    obtain ⟨W3, c, hrun, hb3, hz3, hcell⟩ := bytes_of (P := Tryz.prog) W2 9 57 5 q Tryz.underlying9 Tryz.underlying57 Tryz.underlying5
    have HC := Lib.hid hcell
    clear hcell
    have hC3 := hC2.keep (hb3.block b hC2.lt) hb3.size
    have hK4 := hK3.trans (S' := fun k => k = b) (Kp.of hb3) (fun _ _ e => e)
    clear hb3 hC2 hK3
    go_wp2
    go_loop [8, 26] (fun n i => ∃ k : Nat, k ≤ q.size ∧ i = .int .i64 k ∧ n = .int .i64 (valD s a k)) (fun _ i => q.size - (intOf i).toNat)
    case atStart => exact ⟨0, Nat.zero_le _, rfl, rfl⟩
    case round =>
      obtain ⟨k, hk, rfl, rfl⟩ := hrel
      have hv := HV'.out k (by omega)
      have hp : (10 : Int) ^ k ≤ 1000000000 := by
        have h10 : (10 : Int) ^ k ≤ 10 ^ 9 := by
          exact_mod_cast Nat.pow_le_pow_right (n := 10) (by omega) (show k ≤ 9 by omega)
        simpa using h10
      have hv1 : 0 ≤ valD s a k := hv.1
      have hv2 : valD s a k < 1000000000 := by omega
      clear hv hp
      by_cases hlt : k < q.size
      · have c0 := HC.out k hlt
        have hd := HA'.out k (by omega)
        have he : valD s a (k + 1) = valD s a k * 10 + (bat s (a + k) - 48) := rfl
        have HE := Lib.hid he
        rw [HXT.out k hlt] at c0
        simp only [dgB, Bool.and_eq_true, decide_eq_true_eq] at hd
        have hd1 := hd.1
        have hd2 := hd.2
        clear hd he
        generalize bat s (a + k) = u at HE c0 hd1 hd2
        have hw : (u - 48) % 256 = u - 48 := by omega
        go_wp2
        go_round
        case rel => exact ⟨k + 1, by omega, by go_num, by rw [HE.out]⟩
        case measure => simp [intOf]; omega
      · have e : k = q.size := by omega
        subst e
        have cf := hC3.f
        have ca := hC3.a
        have cl := hC3.lt
        have hb0 := bat_bd q 0
        have HB0 := Lib.hid (fun (h : 0 < q.size) => HT'.out 0 h)
        have hie := isEmpty_size q
        by_cases e0 : q.size = 0
        · have HN : Hid (F = (0, a, false)) := by show _ = _; rw [HF.out, if_pos (by omega)]
          obtain rfl := HN.out
          clear HF HN
          rw [decide_eq_true e0] at hie
          have E0 := Lib.hid e0
          clear e0
          go_wp2
          go_ret2
          exact ⟨rfl, hC3.set _, hK4.set (p := ⟨b, 1, none⟩) rfl _⟩
        rw [decide_eq_false e0] at hie
        have p0 : 0 < q.size := by omega
        have p1 : 1 ≤ q.size := by omega
        have n9 : ¬ (9 : Int) < q.size := by omega
        have h48 := HB0.out p0
        rw [Nat.add_zero] at h48
        rw [← h48] at HF
        have H48 := Lib.hid h48
        clear e0 h48 HB0
        by_cases e1 : 1 < q.size ∧ bat q 0 = 48
        · have HN : Hid (F = (0, a, false)) := by show _ = _; rw [HF.out, if_pos (by omega)]
          obtain rfl := HN.out
          clear HF HN
          obtain ⟨e1, e2⟩ := e1
          have e1i : (1 : Int) < q.size := by omega
          go_wp2
          go_ret2
          exact ⟨rfl, hC3.set _, hK4.set (p := ⟨b, 1, none⟩) rfl _⟩
        by_cases e2 : most < valD s a q.size
        · have HN : Hid (F = (0, a, false)) := by show _ = _; rw [HF.out, if_pos (by omega)]
          obtain rfl := HN.out
          clear HF HN
          by_cases e3 : (1 : Int) < q.size
          · have e4 : ¬ bat q 0 = 48 := fun h => e1 ⟨by omega, h⟩
            clear e1
            go_wp2
            go_ret2
            exact ⟨rfl, hC3.set _, hK4.set (p := ⟨b, 1, none⟩) rfl _⟩
          · clear e1
            go_wp2
            go_ret2
            exact ⟨rfl, hC3.set _, hK4.set (p := ⟨b, 1, none⟩) rfl _⟩
        · have HN : Hid (F = (valD s a q.size, a + q.size, true)) := by show _ = _; rw [HF.out, if_neg (by omega)]
          obtain rfl := HN.out
          clear HF HN
          by_cases e3 : (1 : Int) < q.size
          · have e4 : ¬ bat q 0 = 48 := fun h => e1 ⟨by omega, h⟩
            clear e1
            go_wp2
            go_ret2
            exact ⟨rfl, hC3, hK4⟩
          · clear e1
            go_wp2
            go_ret2
            exact ⟨rfl, hC3, hK4⟩
  · have hxs : (q.extract 0 9).size = 9 := by simp; omega
    have HXT : Hid (∀ j, j < (q.extract 0 9).size → bat (q.extract 0 9) j = bat s (a + j)) := fun j hj => by
      rw [ext_bat (by omega) (by omega), Nat.zero_add]; exact HT'.out j (by omega)
    generalize hgx : q.extract 0 9 = x at hxs HXT
    obtain ⟨W3, c, hrun, hb3, hz3, hcell⟩ := bytes_of (P := Tryz.prog) W2 9 57 5 x Tryz.underlying9 Tryz.underlying57 Tryz.underlying5
    have HC := Lib.hid hcell
    clear hcell
    have hC3 := hC2.keep (hb3.block b hC2.lt) hb3.size
    have hK4 := hK3.trans (S' := fun k => k = b) (Kp.of hb3) (fun _ _ e => e)
    clear hb3 hC2 hK3
    go_wp2
    go_loop [8, 26] (fun n i => ∃ k : Nat, k ≤ x.size ∧ i = .int .i64 k ∧ n = .int .i64 (valD s a k)) (fun _ i => x.size - (intOf i).toNat)
    case atStart => exact ⟨0, Nat.zero_le _, rfl, rfl⟩
    case round =>
      obtain ⟨k, hk, rfl, rfl⟩ := hrel
      have hv := HV'.out k (by omega)
      have hp : (10 : Int) ^ k ≤ 1000000000 := by
        have h10 : (10 : Int) ^ k ≤ 10 ^ 9 := by
          exact_mod_cast Nat.pow_le_pow_right (n := 10) (by omega) (show k ≤ 9 by omega)
        simpa using h10
      have hv1 : 0 ≤ valD s a k := hv.1
      have hv2 : valD s a k < 1000000000 := by omega
      clear hv hp
      by_cases hlt : k < x.size
      · have c0 := HC.out k hlt
        have hd := HA'.out k (by omega)
        have he : valD s a (k + 1) = valD s a k * 10 + (bat s (a + k) - 48) := rfl
        have HE := Lib.hid he
        rw [HXT.out k hlt] at c0
        simp only [dgB, Bool.and_eq_true, decide_eq_true_eq] at hd
        have hd1 := hd.1
        have hd2 := hd.2
        clear hd he
        generalize bat s (a + k) = u at HE c0 hd1 hd2
        have hw : (u - 48) % 256 = u - 48 := by omega
        go_wp2
        go_round
        case rel => exact ⟨k + 1, by omega, by go_num, by rw [HE.out]⟩
        case measure => simp [intOf]; omega
      · have e : k = x.size := by omega
        subst e
        have HN : Hid (F = (0, a, false)) := by show _ = _; rw [HF.out, if_pos (by omega)]
        obtain rfl := HN.out
        clear HF HN
        have n9 : (9 : Int) < q.size := by omega
        have hie := isEmpty_size q
        rw [decide_eq_false (show ¬ q.size = 0 by omega)] at hie
        have cf := hC3.f
        have ca := hC3.a
        have cl := hC3.lt
        go_wp2
        go_ret2
        exact ⟨rfl, hC3.set _, hK4.set (p := ⟨b, 1, none⟩) rfl _⟩
end Go.Proofs.YtggomjfllbljeaaGreatDoor
