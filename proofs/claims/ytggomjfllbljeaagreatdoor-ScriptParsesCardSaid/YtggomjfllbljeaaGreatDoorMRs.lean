/- Put together by program of: RcP, Rs1, Rs2, Rc. -/
import Derived.Test.YtggomjfllbljeaaGreatDoorScF
import Derived.Test.YtggomjfllbljeaaGreatDoorMScP
import Derived.Test.YtggomjfllbljeaaGreatDoorMScn
import Derived.OwnWalk
import Derived.Deep.RegionLaw
namespace Go.Proofs.YtggomjfllbljeaaGreatDoor
set_option linter.unusedVariables false
open Go Go.RowKit
theorem tail_whole {s : ByteArray} {a : Nat} (h : a ≤ s.size) : wholeF (tailB s a) 0 = wholeF s a := by
  obtain ⟨e1, e2, e3⟩ := tail_num h 999999999
  have hd : decide ((numF (tailB s a) 0 999999999).2.1 = (tailB s a).size) = decide ((numF s a 999999999).2.1 = s.size) := by
    rw [decide_eq_decide, tail_size h]; omega
  unfold wholeF
  rw [hd, e1, e3]
theorem tail_tail {s : ByteArray} {a i : Nat} (h : a + i ≤ s.size) : tailB (tailB s a) i = tailB s (a + i) := by
  unfold tailB
  apply ByteArray.ext
  simp only [ByteArray.data_extract, Array.extract_extract, ByteArray.size_extract]
  congr 1
  omega
theorem tail_bits {s : ByteArray} {a : Nat} (h : a ≤ s.size) (i k : Nat) : bitsF (tailB s a) i k = bitsF s (a + i) k := by
  unfold bitsF
  congr 1
  funext j
  rw [tail_bat h, Nat.add_assoc]
theorem crashR_tail {s : ByteArray} {b a : Nat} (h : b + a ≤ s.size) (l : List Bool) : crashR (tailB s b) a l = crashR s (b + a) l := by
  have hb : b ≤ s.size := by omega
  unfold crashR
  rw [tail_size hb, tail_bat hb]
  by_cases e : a = s.size - b
  · rw [if_pos e, if_pos (by omega)]
  · rw [if_neg e, if_neg (show ¬ b + a = s.size by omega)]
    have hw : wholeF (tailB s b) (a + 1) = wholeF s (b + a + 1) := by
      have h1 : a + 1 ≤ (tailB s b).size := by rw [tail_size hb]; omega
      rw [← tail_whole h1, tail_tail (by omega), tail_whole (by omega), Nat.add_assoc]
    rw [hw]
/-- What stands behind 'crash ', as a text of its own. -/
def crashT (t : ByteArray) : Option Ev :=
  if bat t 0 = 45 ∧ 0 < t.size then crashR t 1 []
  else if 0 < runTo t 0 ∧ ∀ j, j < runTo t 0 → bat t j ≤ 49 then crashR t (runTo t 0) (bitsF t 0 (runTo t 0)) else none
theorem crashT_eq {s : ByteArray} (h : 6 ≤ s.size) : crashT (tailB s 6) = crashF s := by
  have e6 : 6 + runTo (tailB s 6) 0 = runTo s 6 := tail_runTo h 0
  have hb := runTo_bd h
  have h0 : bat (tailB s 6) 0 = bat s 6 := tail_bat h 0
  rw [crashF_eq]
  unfold crashT crashTo
  rw [tail_size h, h0]
  by_cases hd : bat s 6 = 45 ∧ 6 < s.size
  · rw [if_pos (show bat s 6 = 45 ∧ 0 < s.size - 6 from ⟨hd.1, by omega⟩), if_pos (.inl hd), if_pos hd, if_pos hd, crashR_tail (by omega)]
  · rw [if_neg (show ¬ (bat s 6 = 45 ∧ 0 < s.size - 6) from fun c => hd ⟨c.1, by omega⟩), if_neg hd, if_neg hd]
    by_cases hc : 6 < runTo s 6 ∧ ∀ j, j < runTo s 6 → 6 ≤ j → bat s j ≤ 49
    · rw [if_pos (show 0 < runTo (tailB s 6) 0 ∧ ∀ j, j < runTo (tailB s 6) 0 → bat (tailB s 6) j ≤ 49 from ⟨by omega, fun j hj => by rw [tail_bat h]; exact hc.2 _ (by omega) (by omega)⟩), if_pos (.inr hc)]
      rw [crashR_tail (by omega), e6, tail_bits h, show runTo s 6 - 6 = runTo (tailB s 6) 0 by omega]
    · rw [if_neg (show ¬ (bat s 6 = 45 ∧ 6 < s.size ∨ 6 < runTo s 6 ∧ ∀ j, j < runTo s 6 → 6 ≤ j → bat s j ≤ 49) from fun c => c.elim hd hc), if_neg]
      rintro ⟨c1, c2⟩
      refine hc ⟨by omega, fun j hj h6 => ?_⟩
      have := c2 (j - 6) (by omega)
      rw [tail_bat h, show 6 + (j - 6) = j by omega] at this
      exact this
theorem runTo_eq {t : ByteArray} {a : Nat} (h : a ≤ t.size) (hall : ∀ j, j < a → dgB t j = true) (hs : a = t.size ∨ dgB t a = false) : runTo t 0 = a := by
  have hb := runTo_bd (s := t) (i := 0) (Nat.zero_le _)
  rcases Nat.lt_trichotomy (runTo t 0) a with hl | he | hg
  · exfalso
    rcases runTo_end (s := t) (i := 0) (Nat.zero_le _) with h1 | h1
    · omega
    · rw [hall _ hl] at h1; cases h1
  · exact he
  · exfalso
    rcases hs with h1 | h1
    · omega
    · rw [runTo_all (i := 0) a (Nat.zero_le _) hg] at h1; cases h1
/-- A byte that may stand there. -/
def okB (t : ByteArray) (j : Nat) : Prop := bat t j = 48 ∨ bat t j = 49 ∨ (j = 0 ∧ bat t 0 = 45)
def keepT (t : ByteArray) (a : Nat) : List Bool := if bat t 0 = 45 then bitsF t 1 (a - 1) else bitsF t 0 a
theorem keepT_0 (t : ByteArray) : keepT t 0 = [] := by unfold keepT; split <;> rfl
theorem keepT_skip {t : ByteArray} {a : Nat} (h : bat t a = 45) (ho : okB t a) : keepT t (a + 1) = keepT t a := by
  rcases ho with h1 | h1 | ⟨rfl, h2⟩
  · omega
  · omega
  · unfold keepT; rw [if_pos h2, if_pos h2]
theorem keepT_step {t : ByteArray} {a : Nat} (h : bat t a ≠ 45) : keepT t (a + 1) = keepT t a ++ [decide (bat t a = 49)] := by
  unfold keepT
  by_cases h0 : bat t 0 = 45
  · have ha : a ≠ 0 := fun e => h (by rw [e]; exact h0)
    obtain ⟨b, rfl⟩ : ∃ b, a = b + 1 := ⟨a - 1, by omega⟩
    rw [if_pos h0, if_pos h0, Nat.add_sub_cancel, Nat.add_sub_cancel, bits_step, Nat.add_comm 1 b]
  · rw [if_neg h0, if_neg h0, bits_step, Nat.zero_add]
theorem keepT_len (t : ByteArray) (a : Nat) : (keepT t a).length ≤ a := by
  unfold keepT
  split <;> rw [bits_len] <;> omega
theorem ok_dg {t : ByteArray} {a : Nat} (h0 : bat t 0 ≠ 45) (hall : ∀ j, j < a → okB t j) : ∀ j, j < a → dgB t j = true := fun j hj => by
  have := hall j hj
  unfold okB at this
  simp only [dgB, Bool.and_eq_true, decide_eq_true_eq]
  omega
theorem crashT_end {t : ByteArray} {a : Nat} (hall : ∀ j, j < a → okB t j) (hle : a ≤ t.size) (hs : a = t.size ∨ bat t a = 32) : crashT t = if a = 0 ∨ (bat t 0 = 45 ∧ 1 < a) then none else crashR t a (keepT t a) := by
  by_cases h0 : bat t 0 = 45 ∧ 0 < t.size
  · unfold crashT
    rw [if_pos h0]
    have ha : a ≠ 0 := fun e => by rw [e] at hs; omega
    by_cases h1 : 1 < a
    · rw [if_pos (.inr ⟨h0.1, h1⟩)]
      have h2 := hall 1 h1
      unfold okB at h2
      unfold crashR
      rw [if_neg (show ¬ 1 = t.size by omega), if_neg (show ¬ bat t 1 = 32 by omega)]
    · obtain rfl : a = 1 := by omega
      rw [if_neg (by omega)]
      unfold keepT
      rw [if_pos h0.1]
      rfl
  · by_cases ha : a = 0
    · subst ha
      rw [if_pos (.inl rfl)]
      have hd : dgB t 0 = false ∨ t.size ≤ 0 := by
        rcases hs with h | h
        · exact .inr (by omega)
        · left; simp [dgB, h]
      unfold crashT
      rw [if_neg h0, runTo_stop hd, if_neg (by omega)]
    · have h45 : bat t 0 ≠ 45 := fun e => h0 ⟨e, by omega⟩
      have hr : runTo t 0 = a := runTo_eq hle (ok_dg h45 hall) (hs.imp_right fun h => by simp [dgB, h])
      rw [if_neg (fun c => c.elim ha fun c => h45 c.1)]
      unfold crashT keepT
      rw [if_neg h0, hr, if_pos ⟨by omega, fun j hj => by have := hall j hj; unfold okB at this; omega⟩, if_neg h45]
theorem crashT_bad {t : ByteArray} {a : Nat} (hall : ∀ j, j < a → okB t j) (hlt : a < t.size) (h32 : bat t a ≠ 32) (hb : ¬ okB t a) : crashT t = none := by
  unfold okB at hb
  by_cases h0 : bat t 0 = 45 ∧ 0 < t.size
  · unfold crashT crashR
    rw [if_pos h0]
    have ha : a ≠ 0 := fun e => hb (.inr (.inr ⟨e, h0.1⟩))
    rw [if_neg (show ¬ 1 = t.size by omega), if_neg]
    by_cases h1 : a = 1
    · subst h1; exact h32
    · have h2 := hall 1 (by omega)
      unfold okB at h2
      omega
  · have h45 : bat t 0 ≠ 45 := fun e => h0 ⟨e, by omega⟩
    unfold crashT
    rw [if_neg h0]
    by_cases hd : dgB t a = true
    · rw [if_neg]
      rintro ⟨c1, c2⟩
      have hg : a < runTo t 0 := by
        rcases Nat.lt_or_ge a (runTo t 0) with h | h
        · exact h
        · exfalso
          rcases runTo_end (s := t) (i := 0) (Nat.zero_le _) with h1 | h1
          · omega
          · rcases Nat.lt_or_ge (runTo t 0) a with h2 | h2
            · rw [ok_dg h45 hall _ h2] at h1; cases h1
            · rw [show runTo t 0 = a by omega, hd] at h1; cases h1
      have := c2 a hg
      simp only [dgB, Bool.and_eq_true, decide_eq_true_eq] at hd
      omega
    · have hr : runTo t 0 = a := runTo_eq (by omega) (ok_dg h45 hall) (.inr (by simpa using hd))
      rw [hr]
      split
      · unfold crashR
        rw [if_neg (by omega), if_neg h32]
      · rfl
end Go.Proofs.YtggomjfllbljeaaGreatDoor
namespace Go.Proofs.YtggomjfllbljeaaGreatDoor
set_option linter.unusedVariables false
open Go Go.RowKit
attribute [local go_sem] bat_get
set_option maxRecDepth 100000 in
set_option maxHeartbeats 4000000 in
theorem rplace_any (s : ByteArray) (a : Nat) (h : a ≤ s.size) (h2 : s.size ≤ 100000) (W : World) :
    Calls Tryz.prog 31 #[.string s, .int .i64 a] W fun e W' => e = .returned (.int .i64 a) ∧ W = W' := by
  have c1 : ¬ (a : Int) < 0 := by omega
  have c2 : ¬ (s.size : Int) < a := by omega
  go_enter Tryz.func31, Tryz.ntmps31
  go_wp2
  go_ret
  exact ⟨rfl, rfl⟩
set_option maxRecDepth 100000 in
set_option maxHeartbeats 4000000 in
theorem rof_any (c : Int) (W : World) :
    Calls Tryz.prog 52 #[.int .u8 c, .int .i64 2] W fun e W' => e = .returned (.bool (isD c)) ∧ W = W' := by
  go_enter Tryz.func52, Tryz.ntmps52
  go_wp2_with (refine (rdigit_any _ _).mono ?_; rintro e w' ⟨rfl, rfl⟩)
  go_ret
  exact ⟨rfl, rfl⟩
set_option maxRecDepth 100000 in
set_option maxHeartbeats 4000000 in
theorem rrun_any (s : ByteArray) (a : Nat) (h1 : a ≤ s.size) (h2 : s.size ≤ 100000) (W : World) :
    Calls Tryz.prog 32 #[.string s, .int .i64 a, .int .i64 2] W fun e W' => e = .returned (.tuple #[.string (s.extract a (runTo s a)), .int .i64 (runTo s a : Nat)]) ∧ W = W' := by
  have hb := runTo_bd h1
  have hall : ∀ j, a ≤ j → j < runTo s a → isD (bat s j) = true := fun j ha hj => runTo_all (i := a) j ha hj
  have hend := runTo_end h1
  have HA := Lib.hid hall
  have HE := Lib.hid hend
  clear hall hend
  generalize runTo s a = z at HA HE hb ⊢
  go_enter Tryz.func32, Tryz.ntmps32
  go_wp2_with (refine (rplace_any s a h1 h2 _).mono ?_; rintro e w' ⟨rfl, rfl⟩)
  go_loop [9] (fun n => ∃ k : Nat, a ≤ k ∧ k ≤ z ∧ n = .int .i64 k) (fun n => z - (intOf n).toNat)
  case atStart => exact ⟨a, Nat.le_refl _, hb.1, rfl⟩
  case round =>
    obtain ⟨k, hk0, hk, rfl⟩ := hrel
    by_cases hlt : k < z
    · have hd := HA.out k hk0 hlt
      have hl : k < s.size := by omega
      go_wp2_with ((with_reducible refine (rof_any (bat s k) _).mono ?_); rintro e w' ⟨rfl, rfl⟩)
      go_round
      case rel => exact ⟨k + 1, by omega, by omega, by go_num⟩
      case measure => simp [intOf]; omega
    · obtain rfl : k = z := by omega
      have hk1 : (k : Int) ≤ s.size := by omega
      have hk2 : (a : Int) ≤ k := by omega
      by_cases hl : k < s.size
      · have hd : isD (bat s k) = false := by
          rcases HE.out with h | h
          · omega
          · exact h
        go_wp2_with ((with_reducible refine (rof_any (bat s k) _).mono ?_); rintro e w' ⟨rfl, rfl⟩)
        go_ret2
        exact ⟨rfl, rfl⟩
      · go_wp2
        go_ret2
        exact ⟨rfl, rfl⟩
end Go.Proofs.YtggomjfllbljeaaGreatDoor
namespace Go.Proofs.YtggomjfllbljeaaGreatDoor
set_option linter.unusedVariables false
open Go Go.RowKit
attribute [local go_sem] bat_get
set_option maxRecDepth 100000 in
set_option maxHeartbeats 4000000 in
theorem rnumber_any (s : ByteArray) (a : Nat) (most : Int) (h1 : a ≤ s.size) (h2 : s.size ≤ 100000) (h3 : 0 ≤ most) (h4 : most ≤ 999999999) (W : World) :
    Calls Tryz.prog 15 #[.string s, .int .i64 a, .int .i64 most] W fun e W' => e = .returned (.tuple #[.int .i64 (numF s a most).1, .int .i64 (numF s a most).2.1, .bool (numF s a most).2.2]) ∧ W = W' := by
  have hb := runTo_bd h1
  have hall : ∀ j, j < runTo s a - a → dgB s (a + j) = true := fun j hj => runTo_all (i := a) (a + j) (by omega) (by omega)
  have HB := fun (k : Nat) (hk : k ≤ runTo s a - a) => valD_bd (s := s) (a := a) k (fun j hj => hall j (by omega))
  have hsz : (s.extract a (runTo s a)).size = runTo s a - a := by simp; omega
  have hbt : ∀ i, i < runTo s a - a → bat (s.extract a (runTo s a)) i = bat s (a + i) := fun i hi => ext_bat (by omega) hb.2
  have hF : numF s a most = if runTo s a - a < 1 ∨ 9 < runTo s a - a ∨ (1 < runTo s a - a ∧ bat s a = 48) ∨ most < valD s a (runTo s a - a) then (0, a, false) else (valD s a (runTo s a - a), runTo s a, true) := rfl
  have HR := Lib.hid (fun (W : World) => rrun_any s a h1 h2 W)
  have HA := Lib.hid hall
  have HV := Lib.hid HB
  have HT := Lib.hid hbt
  have HF := Lib.hid hF
  clear hall HB hbt hF
  generalize numF s a most = F at HF ⊢
  generalize s.extract a (runTo s a) = q at HR hsz HT
  generalize runTo s a = z at HA HV HT HF HR hsz hb
  obtain ⟨r, rfl⟩ : ∃ r, z = a + r := ⟨z - a, by omega⟩
  rw [Nat.add_sub_cancel_left] at hsz
  have HA' := Lib.hid (fun j (hj : j < r) => HA.out j (by omega))
  have HT' := Lib.hid (fun j (hj : j < r) => HT.out j (by omega))
  have HV' := Lib.hid (fun k (hk : k ≤ r) => HV.out k (by omega))
  clear HA HT HV
  rw [Nat.add_sub_cancel_left] at HF
  subst hsz
  have hr : q.size ≤ 100000 := by omega
  go_enter Tryz.func15, Tryz.ntmps15
  go_wp2_with fail
  refine (rplace_any s a h1 h2 _).mono ?_
  rintro e w' ⟨rfl, rfl⟩
  go_wp2_with fail
  refine (HR.out _).mono ?_
  rintro e w' ⟨rfl, rfl⟩
  by_cases e0 : q.size < 1
  · have HN : Hid (F = (0, a, false)) := by show _ = _; rw [HF.out, if_pos (by omega)]
    obtain rfl := HN.out
    have t0 : (q.size : Int) < 1 := by omega
    clear HF HN
    go_wp2
    go_ret3
    exact ⟨rfl, rfl⟩
  have t0 : ¬ (q.size : Int) < 1 := by omega
  by_cases h9 : 9 < q.size
  · have HN : Hid (F = (0, a, false)) := by show _ = _; rw [HF.out, if_pos (by omega)]
    obtain rfl := HN.out
    have t9 : (9 : Int) < q.size := by omega
    clear HF HN
    go_wp2
    go_ret3
    exact ⟨rfl, rfl⟩
  have t9 : ¬ (9 : Int) < q.size := by omega
  have p0 : 0 < q.size := by omega
  have h48 := HT'.out 0 p0
  rw [Nat.add_zero] at h48
  rw [← h48] at HF
  have H48 := Lib.hid h48
  clear h48
  by_cases e1 : 1 < q.size ∧ bat q 0 = 48
  · have HN : Hid (F = (0, a, false)) := by show _ = _; rw [HF.out, if_pos (by omega)]
    obtain rfl := HN.out
    clear HF HN
    obtain ⟨e1, e2⟩ := e1
    have e1i : (1 : Int) < q.size := by omega
    go_wp2
    go_ret3
    exact ⟨rfl, rfl⟩
  have HF2 : Hid (F = if most < valD s a q.size then (0, a, false) else (valD s a q.size, a + q.size, true)) := by
    show _ = _
    rw [HF.out]
    by_cases h : most < valD s a q.size
    · rw [if_pos h, if_pos (.inr (.inr (.inr h)))]
    · rw [if_neg h, if_neg (by omega)]
  clear HF
  have HXT := HT'
  go_upto_region 3 with fail
  go_cut [39] (fun v V => v = .bool false ∧ W = V)
  case first =>
    by_cases e3 : (1 : Int) < q.size
    · have e4 : ¬ bat q 0 = 48 := fun h => e1 ⟨by omega, h⟩
      clear e1
      go_wp2
      all_goals first | (exfalso; omega) | (go_meet; exact ⟨by first | rfl | simp [e4], rfl⟩)
    · clear e1
      go_wp2
      all_goals first | (exfalso; omega) | (exfalso; simp_all; omega) | (go_meet; exact ⟨by simp_all, rfl⟩)
  case rest =>
  obtain ⟨rfl, rfl⟩ := hcut
  go_wp2
  go_loop [11, 12] (fun n i => ∃ k : Nat, k ≤ q.size ∧ i = .int .i64 k ∧ n = .int .i64 (valD s a k)) (fun _ i => q.size - (intOf i).toNat)
  case atStart => exact ⟨0, Nat.zero_le _, rfl, rfl⟩
  case round =>
    obtain ⟨k, hk, rfl, rfl⟩ := hrel
    have hv := HV'.out k (by omega)
    have hp : (10 : Int) ^ k ≤ 1000000000 := by
      have h10 : (10 : Int) ^ k ≤ 10 ^ 9 := by
        exact_mod_cast Nat.pow_le_pow_right (n := 10) (by omega) (show k ≤ 9 by omega)
      simpa using h10
    have hv1 : 0 ≤ valD s a k := hv.1
    have hv2 : valD s a k < 1000000000 := by omega
    clear hv hp
    by_cases hlt : k < q.size
    · have hd := HA'.out k (by omega)
      have he : valD s a (k + 1) = valD s a k * 10 + (bat s (a + k) - 48) := rfl
      have HE := Lib.hid he
      have hx := HXT.out k hlt
      simp only [dgB, Bool.and_eq_true, decide_eq_true_eq] at hd
      have hd1 := hd.1
      have hd2 := hd.2
      clear hd he
      generalize bat s (a + k) = u at HE hx hd1 hd2
      go_wp2
      go_round
      case rel => exact ⟨k + 1, by omega, by go_num, by rw [HE.out]; congr 1; omega⟩
      case measure => simp [intOf]; omega
    · obtain rfl : k = q.size := by omega
      by_cases e2 : most < valD s a q.size
      · have HN : Hid (F = (0, a, false)) := by show _ = _; rw [HF2.out, if_pos e2]
        obtain rfl := HN.out
        clear HF2 HN
        go_wp2
        go_ret3
        exact ⟨rfl, rfl⟩
      · have HN : Hid (F = (valD s a q.size, a + q.size, true)) := by show _ = _; rw [HF2.out, if_neg e2]
        obtain rfl := HN.out
        clear HF2 HN
        go_wp2
        go_ret3
        exact ⟨rfl, rfl⟩
set_option maxRecDepth 100000 in
set_option maxHeartbeats 4000000 in
theorem rwhole_any (s : ByteArray) (h2 : s.size ≤ 100000) (W : World) :
    Calls Tryz.prog 13 #[.string s] W fun e W' => e = .returned (.tuple #[.int .i64 ((wholeF s 0).getD 0), .bool (wholeF s 0).isSome]) ∧ W = W' := by
  have HN := Lib.hid (fun (V : World) => rnumber_any s 0 999999999 (Nat.zero_le _) h2 (by omega) (by omega) V)
  unfold wholeF
  generalize numF s 0 999999999 = F at HN ⊢
  obtain ⟨n, p, is⟩ := F
  dsimp only at HN ⊢
  have HR : Hid ((if (is && decide (p = s.size)) = true then some n else none) = if is = true ∧ p = s.size then some n else none) := by show _ = _; simp
  generalize (if (is && decide (p = s.size)) = true then some n else none) = r9 at HR ⊢
  go_enter Tryz.func13, Tryz.ntmps13
  go_wp2_with fail
  refine (HN.out _).mono ?_
  rintro e w' ⟨rfl, rfl⟩
  clear HN
  rcases is with _ | _
  · obtain rfl : r9 = none := by rw [HR.out, if_neg (by simp)]
    clear HR
    go_wp2
    go_ret2
    exact ⟨rfl, rfl⟩
  · by_cases hp : p = s.size
    · have t1 : ((p : Int) != (s.size : Int)) = false := by simp; omega
      obtain rfl : r9 = some n := by rw [HR.out, if_pos ⟨rfl, hp⟩]
      clear hp HR
      go_wp2
      go_ret2
      exact ⟨rfl, rfl⟩
    · have t1 : ((p : Int) != (s.size : Int)) = true := by simp; omega
      obtain rfl : r9 = none := by rw [HR.out, if_neg (fun h => hp h.2)]
      clear hp HR
      go_wp2
      go_ret2
      exact ⟨rfl, rfl⟩
set_option maxRecDepth 100000 in
set_option maxHeartbeats 4000000 in
theorem rbegins_any (s p : ByteArray) (h2 : s.size ≤ 100000) (W : World) :
    Calls Tryz.prog 12 #[.string s, .string p] W fun e W' => e = .returned (.tuple #[.string (if begB s p.data.toList then tailB s p.size else ⟨#[]⟩), .bool (begB s p.data.toList)]) ∧ W = W' := by
  have hs : p.data.toList.length = p.size := Array.length_toList
  have he : begB s p.data.toList = true → (s.extract 0 p.size).toList = p.toList := fun h => by
    unfold begB at h
    rw [decide_eq_true_eq, hs] at h
    rw [ByteArray.toList_eq, ByteArray.toList_eq]
    simp only [ByteArray.data_extract, Array.toList_extract, List.extract_eq_take_drop, List.drop_zero, Nat.sub_zero]
    exact h
  have hn : (s.extract 0 p.size).toList = p.toList → begB s p.data.toList = true := fun h => by
    unfold begB
    rw [decide_eq_true_eq, hs]
    rw [ByteArray.toList_eq, ByteArray.toList_eq] at h
    simpa only [ByteArray.data_extract, Array.toList_extract, List.extract_eq_take_drop, List.drop_zero, Nat.sub_zero] using h
  have hsz : begB s p.data.toList = true → p.size ≤ s.size := fun h => by
    have := beg_size h
    omega
  generalize begB s p.data.toList = r at he hn hsz ⊢
  by_cases hl : p.size ≤ s.size
  · have t1 : ¬ (s.size : Int) < p.size := by omega
    have t2 : (p.size : Int) ≤ s.size := by omega
    rcases r with _ | _
    · have t3 : ((s.extract 0 p.size).toList == p.toList) = false := by
        rw [beq_eq_false_iff_ne]
        exact fun h => by have := hn h; cases this
      clear he hn hsz
      go_enter Tryz.func12, Tryz.ntmps12
      go_wp2
      all_goals first | (exfalso; omega) | (exfalso; contradiction) | (go_ret2; exact ⟨rfl, rfl⟩)
    · have t3 : ((s.extract 0 p.size).toList == p.toList) = true := by rw [beq_iff_eq]; exact he rfl
      clear he hn hsz
      go_enter Tryz.func12, Tryz.ntmps12
      go_wp2
      all_goals first | (exfalso; omega) | (exfalso; contradiction) | (go_ret2; exact ⟨rfl, rfl⟩)
  · have t1 : (s.size : Int) < p.size := by omega
    obtain rfl : r = false := by
      rcases r with _ | _
      · rfl
      · exact absurd (hsz rfl) hl
    clear he hn hsz
    go_enter Tryz.func12, Tryz.ntmps12
    go_wp2
    all_goals first | (exfalso; omega) | (go_ret2; exact ⟨rfl, rfl⟩)
end Go.Proofs.YtggomjfllbljeaaGreatDoor
namespace Go.Proofs.YtggomjfllbljeaaGreatDoor
set_option linter.unusedVariables false
open Go Go.RowKit
attribute [local go_sem] bat_get
/-- A call's result block and its event's block. -/
structure CG (W : World) (rc ec : Array Value) (V : World) : Prop where
  B : Below W.heap.size W V
  r : Bx V W.heap.size rc 24
  e : Bx V (W.heap.size + 1) ec 24
section
variable {W V V' : World} {rc ec : Array Value}
theorem CG.grown (H : CG W rc ec V) (hb : Below (W.heap.size + 2) V V') : CG W rc ec V' :=
  ⟨H.B.trans (hb.mono (by omega)), H.r.below hb (by omega), H.e.below hb (by omega)⟩
theorem CG.putE (H : CG W rc ec V) (i : Nat) (u : Value) : CG W rc (ec.setIfInBounds i u) (V.setCell ⟨W.heap.size + 1, i, none⟩ u) :=
  ⟨H.B.setCell (by show W.heap.size ≤ W.heap.size + 1; omega) _, H.r.other (by simp) u, H.e.put i u⟩
theorem CG.putR (H : CG W rc ec V) (i : Nat) (u : Value) : CG W (rc.setIfInBounds i u) ec (V.setCell ⟨W.heap.size, i, none⟩ u) :=
  ⟨H.B.setCell (Nat.le_refl _) _, H.r.put i u, H.e.other (by simp) u⟩
theorem CG.drew (H : CG W rc ec V) : CG W rc ec V.drew := ⟨H.B.drew, H.r, H.e⟩
theorem CG.alloc (H : CG W rc ec V) (o : Obj) : CG W rc ec (V.alloc o) := ⟨H.B.alloc (by have := H.e.lt; omega) _, H.r.alloc _, H.e.alloc _⟩
theorem CG.push (H : CG W rc ec V) {row : Option Nat} (hg : V.grownBy V' row) (hr : ∀ k, row = some k → W.heap.size + 2 ≤ k) : CG W rc ec V' :=
  ⟨H.B.grown hg (by have := H.e.lt; omega) (fun k hk => by have := hr k hk; omega), H.r.grown hg (fun e => by have := hr _ e; omega), H.e.grown hg (fun e => by have := hr _ e; omega)⟩
theorem CG.z (H : CG W rc ec V) : W.heap.size + 1 < V.heap.size := H.e.lt
end
theorem CG.start (W : World) (rc ec : Array Value) : CG W rc ec ((W.alloc (.cells rc 24)).alloc (.cells ec 24)) := by
  have h2 := (Bx.new (W.alloc (.cells rc 24)) ec 24)
  rw [World.size_alloc] at h2
  exact ⟨((Below.refl _ _).alloc (Nat.le_refl _) _).alloc (by simp) _, (Bx.new _ _ _).alloc _, h2⟩
theorem CG.put5 {W V : World} {k0 g0 : Int} {e0 : ByteArray} {n0 : Int} {v0 : Value} {ec : Array Value} (H : CG W (evC k0 g0 e0 n0 v0) ec V) (k g : Int) (en : ByteArray) (n : Int) (v : Value) :
    CG W (evC k g en n v) ec (((((V.setCell ⟨W.heap.size, 0, none⟩ (.int .i64 k)).setCell ⟨W.heap.size, 1, none⟩ (.int .i64 g)).setCell ⟨W.heap.size, 2, none⟩ (.string en)).setCell ⟨W.heap.size, 3, none⟩ (.int .i64 n)).setCell ⟨W.heap.size, 4, none⟩ v) :=
  ((((H.putR 0 _).putR 1 _).putR 2 _).putR 3 _).putR 4 _
theorem ext_dash {s : ByteArray} {k : Nat} (h : k < s.size) : (s.extract 0 (k + 1)).toList = [45] ↔ k = 0 ∧ bat s 0 = 45 := by
  rw [ByteArray.toList_eq]
  have e : (s.extract 0 (k + 1)).data.toList = s.data.toList.take (k + 1) := by
    simp only [ByteArray.data_extract, Array.toList_extract, List.extract_eq_take_drop, List.drop_zero, Nat.sub_zero]
  rw [e]
  have hl : s.data.toList.length = s.size := Array.length_toList
  have hb : bat s 0 = ((s.data.toList[0]?.getD 0).toNat : Int) := rfl
  constructor
  · intro h1
    have h2 := congrArg List.length h1
    rw [List.length_take, hl] at h2
    have h3 : min (k + 1) s.size = 1 := h2
    obtain rfl : k = 0 := by omega
    refine ⟨rfl, ?_⟩
    rw [hb]
    rcases hq : s.data.toList with _ | ⟨x, r⟩
    · rw [hq] at hl; simp at hl; omega
    · rw [hq] at h1
      have h4 : [x] = [45] := h1
      injection h4 with h4 _
      subst h4
      rfl
  · rintro ⟨rfl, h1⟩
    rw [hb] at h1
    rcases hq : s.data.toList with _ | ⟨x, r⟩
    · rw [hq] at hl; simp at hl; omega
    · rw [hq] at h1
      have h4 : (x.toNat : Int) = 45 := h1
      have h5 : x = 45 := UInt8.toNat_inj.1 (by have : (45 : UInt8).toNat = 45 := rfl; omega)
      subst h5
      rfl
set_option maxRecDepth 100000 in
set_option maxHeartbeats 8000000 in
theorem rcrash_any (s : ByteArray) (h2 : s.size ≤ 100000) (W : World) : Calls Tryz.prog 14 #[.string s] W (RetRd W (crashT s)) := by
  have HF0 := CG.start W (evC 0 0 ⟨#[]⟩ 0 (.slice none 0 0)) (evC 3 0 ⟨#[]⟩ 0 (.slice none 0 0))
  have HEND := Lib.hid (fun (a : Nat) (h1 : ∀ j, j < a → okB s j) (h3 : a ≤ s.size) (h4 : a = s.size ∨ bat s a = 32) => crashT_end h1 h3 h4)
  have HBAD := Lib.hid (fun (a : Nat) (h1 : ∀ j, j < a → okB s j) (h3 : a < s.size) (h4 : bat s a ≠ 32) (h5 : ¬ okB s a) => crashT_bad h1 h3 h4 h5)
  generalize crashT s = o at HEND HBAD ⊢
  have HW := Lib.hid (fun (i : Nat) (hi : i ≤ s.size) (V : World) => show Calls Tryz.prog 13 #[.string (tailB s i)] V fun e W' => e = .returned (.tuple #[.int .i64 ((wholeF s i).getD 0), .bool (wholeF s i).isSome]) ∧ V = W' from by
    have := rwhole_any (tailB s i) (by have := tail_le s i; omega) V
    rwa [tail_whole hi] at this)
  go_enter Tryz.func14, Tryz.ntmps14
  go_upto_region 2 with fail
  refine wp_world (fun V => CG W (evC 0 0 ⟨#[]⟩ 0 (.slice none 0 0)) (evC 3 0 ⟨#[]⟩ 0 (.slice none 0 0)) V) HF0 ?_
  clear HF0
  rintro V0 H0
  go_wp2
  go_loopw [5] (fun i wr => ∃ (k : Nat) (A : Option Addr) (cp : Nat), k ≤ s.size ∧ i = .int .i64 k ∧ Hid (∀ j, j < k → okB s j) ∧ CG W (evC 0 0 ⟨#[]⟩ 0 (.slice none 0 0)) (evC 3 0 ⟨#[]⟩ 0 (.slice A (keepT s k).length cp)) wr ∧ Own wr (W.heap.size + 2) 4 tBool (.slice A (keepT s k).length cp) (keepT s k)) (fun i _ => s.size - (intOf i).toNat)
  case atStart => exact ⟨0, none, 0, Nat.zero_le _, rfl, (fun j hj => by omega), (by rw [keepT_0]; exact H0), (by rw [keepT_0]; exact Own.nil_ _ _ _ _)⟩
  case round =>
    obtain ⟨k, A, cp, hk, rfl, hall, H, ho⟩ := hrel
    have hkl := keepT_len s k
    by_cases hend : k = s.size ∨ bat s k = 32
    · have he := HEND.out k hall.out hk hend
      have HE := Lib.hid he
      have HD := Lib.hid hend
      clear he hend HEND HBAD
      generalize keepT s k = l at H ho hkl HE
      go_upto_region 3 with fail
      go_cut [18] (fun v V => v = .bool false ∧ wr = V)
      case first =>
        by_cases hlt : k < s.size
        · have h32 : bat s k = 32 := by have := HD.out; omega
          go_wp2
          go_meet
          exact ⟨rfl, rfl⟩
        · go_wp2
          go_meet
          exact ⟨rfl, rfl⟩
      case rest =>
      obtain ⟨rfl, rfl⟩ := hcut
      go_upto_region 9 with fail
      go_cut [62] (fun v V => v = .bool (decide (k = 0 ∨ bat s 0 = 45 ∧ 1 < k)) ∧ wr = V)
      case first =>
        by_cases h0 : k = 0
        · subst h0
          go_wp2
          go_meet
          exact ⟨rfl, rfl⟩
        · have i0 : ¬ (k : Int) = 0 := by omega
          have z0 : 0 < s.size := by omega
          by_cases h45 : bat s 0 = 45
          · have hq : decide (k = 0 ∨ bat s 0 = 45 ∧ 1 < k) = decide (1 < (k : Int)) := by rw [decide_eq_decide]; omega
            have HQ := Lib.hid hq
            clear hq
            go_wp2
            go_meet
            exact ⟨by rw [HQ.out], rfl⟩
          · have hq : decide (k = 0 ∨ bat s 0 = 45 ∧ 1 < k) = false := by rw [decide_eq_false_iff_not]; omega
            have HQ := Lib.hid hq
            clear hq
            go_wp2
            go_meet
            exact ⟨by rw [HQ.out], rfl⟩
      case rest =>
      obtain ⟨rfl, rfl⟩ := hcut
      have c1 := H.e.cells
      have f1 := H.e.free
      have c2 := H.r.cells
      have f2 := H.r.free
      have z1 := H.z
      by_cases hq : k = 0 ∨ bat s 0 = 45 ∧ 1 < k
      · have HN : Hid (o = none) := by show _ = _; rw [HE.out, if_pos hq]
        rw [decide_eq_true hq]
        clear hq HE
        go_wp2
        refine ret_ev Tryz.results14 (H.put5 3 0 ⟨#[]⟩ 0 (.slice A l.length cp)).r rfl rfl rfl rfl ?_
        exact ⟨_, _, _, _, _, _, _, l, _, rfl, (fun h => by cases h), (fun _ => HN.out), rfl, ((ho.put5 (by omega) _ _ _ _ _).more (by omega)), (H.put5 3 0 ⟨#[]⟩ 0 (.slice A l.length cp)).B⟩
      have HO : Hid (o = crashR s k l) := by show _ = _; rw [HE.out, if_neg hq]
      rw [decide_eq_false hq]
      clear hq HE
      by_cases hz : k = s.size
      · have HN : Hid (o = some ⟨3, 0, ⟨#[]⟩, 0, l⟩) := by show _ = _; rw [HO.out]; unfold crashR; rw [if_pos hz]
        have t1 : ((k : Int) == (s.size : Int)) = true := by simp; omega
        clear hz HO
        go_wp2
        refine ret_ev Tryz.results14 (H.put5 3 0 ⟨#[]⟩ 0 (.slice A l.length cp)).r rfl rfl rfl rfl ?_
        exact ⟨_, _, _, _, _, _, _, l, _, rfl, (fun _ => HN.out), (fun h => by cases h), rfl, ((ho.put5 (by omega) _ _ _ _ _).more (by omega)), (H.put5 3 0 ⟨#[]⟩ 0 (.slice A l.length cp)).B⟩
      have t1 : ((k : Int) == (s.size : Int)) = false := by simp; omega
      have h32 : bat s k = 32 := by have := HD.out; omega
      have hk1 : k + 1 ≤ s.size := by omega
      have hk2 : (k : Int) + 1 ≤ s.size := by omega
      have HO2 : Hid (o = match wholeF s (k + 1) with
            | some n => if 0 < n then some ⟨3, 0, ⟨#[]⟩, n, l⟩ else none
            | none => none) := by show _ = _; rw [HO.out]; unfold crashR; rw [if_neg hz, if_pos h32]; rfl
      have HW1 := Lib.hid (fun V => HW.out (k + 1) hk1 V)
      clear HO hz h32 HD HW
      generalize wholeF s (k + 1) = w9 at HO2 HW1
      clear c2 f2 c1 f1
      go_wp2_with fail
      refine (HW1.out _).mono ?_
      rintro e w' ⟨rfl, rfl⟩
      clear HW1
      have c1 := H.e.cells
      have f1 := H.e.free
      go_upto_region 15 with fail
      rcases w9 with _ | n
      · have HN : Hid (o = none) := HO2.out
        have H5 := H.putE 3 (.int .i64 0)
        have ho5 := ho.setCell (p := ⟨W.heap.size + 1, 3, none⟩) (by show W.heap.size + 1 < W.heap.size + 2; omega) (.int .i64 0)
        clear c1 f1
        have d1 := H5.e.cells
        have d2 := H5.r.cells
        have g2 := H5.r.free
        go_wp2
        refine ret_ev Tryz.results14 (H5.put5 3 0 ⟨#[]⟩ 0 (.slice A l.length cp)).r rfl rfl rfl rfl ?_
        exact ⟨_, _, _, _, _, _, _, l, _, rfl, (fun h => by cases h), (fun _ => HN.out), rfl, ((ho5.put5 (by omega) _ _ _ _ _).more (by omega)), (H5.put5 3 0 ⟨#[]⟩ 0 (.slice A l.length cp)).B⟩
      · have HN : Hid (o = if 0 < n then some ⟨3, 0, ⟨#[]⟩, n, l⟩ else none) := HO2.out
        have H5 := H.putE 3 (.int .i64 n)
        have ho5 := ho.setCell (p := ⟨W.heap.size + 1, 3, none⟩) (by show W.heap.size + 1 < W.heap.size + 2; omega) (.int .i64 n)
        clear c1 f1
        have d1 := H5.e.cells
        have d2 := H5.r.cells
        have g2 := H5.r.free
        go_wp2
        refine ret_ev Tryz.results14 (H5.put5 3 0 ⟨#[]⟩ n (.slice A l.length cp)).r rfl rfl rfl rfl ?_
        exact ⟨_, _, _, _, _, _, _, l, _, rfl, (fun h => by rw [HN.out, if_pos (of_decide_eq_true h)]), (fun h => by rw [HN.out, if_neg (of_decide_eq_false h)]), rfl, ((ho5.put5 (by omega) _ _ _ _ _).more (by omega)), (H5.put5 3 0 ⟨#[]⟩ n (.slice A l.length cp)).B⟩
    · have hlt : k < s.size := by omega
      have h32 : ¬ bat s k = 32 := fun h => hend (.inr h)
      have hk2 : (k : Int) + 1 ≤ s.size := by omega
      have hdash := ext_dash hlt
      have c1 := H.e.cells
      have f1 := H.e.free
      clear hend
      by_cases hok : okB s k
      · have hall2 : Hid (∀ j, j < k + 1 → okB s j) := fun j hj => by
          by_cases e : j = k
          · subst e; exact hok
          · exact hall.out j (by omega)
        by_cases h45 : bat s k = 45
        · have h1 : ¬ bat s k = 48 := by omega
          have h2' : ¬ bat s k = 49 := by omega
          have hd : ((s.extract 0 (k + 1)).toList == [45]) = true := by
            rw [beq_iff_eq]
            exact hdash.2 (by rcases hok with h | h | h <;> first | exact h | omega)
          have hks := Lib.hid (keepT_skip h45 hok)
          clear hdash hok HEND HBAD
          go_wp2
          go_roundw
          case rel => exact ⟨k + 1, A, cp, by omega, by go_num, hall2, by rw [hks.out]; exact H, by rw [hks.out]; exact ho⟩
          case measure => simp [intOf]; omega
        · have h2' : bat s k = 48 ∨ bat s k = 49 := by
            rcases hok with h | h | ⟨h, h'⟩
            · exact .inl h
            · exact .inr h
            · subst h; exact absurd h' h45
          clear hdash hok HEND HBAD
          have z1 := H.z
          rcases h2' with h48 | h49
          · have h49 : ¬ bat s k = 49 := by omega
            have hks : Hid (keepT s (k + 1) = keepT s k ++ [false]) := by show _ = _; rw [keepT_step h45]; simp [h48]
            generalize keepT s k = l at H ho hks hkl c1
            go_upto_region 7 with fail
            go_region_law (refine step_push (T := tBool) rfl (.tmp 42) (.tmp 47) (by rfl) sl_bool (by rfl) (ho.alloc _).drew false trivial (by exact heap_alloc_new _ _) (by rfl) (by rfl) (by simp; omega) (by omega) ?_; intro v' w3 hown' hgr hb'; obtain ⟨A3, k3, rfl⟩ := hown'.form; have H3 := (H.alloc _).drew.push hgr (fun e he => (ho.lt e he).1); have c3 := H3.e.cells; have f3 := H3.e.free)
            all_goals
              go_wp2
              have hl1 : (l ++ [false]).length = l.length + 1 := by simp
              rw [hl1] at hown'
              have q5 := hown'.setCell (p := ⟨W.heap.size + 1, 4, none⟩) (by simp) (.slice A3 (l.length + 1) k3)
              exact ⟨⟨k + 1, A3, k3, by omega, by go_num, hall2, by rw [hks.out, hl1]; exact H3.putE 4 _, by rw [hks.out, hl1]; exact q5⟩, by simp [intOf]; omega⟩
          · have h48 : ¬ bat s k = 48 := by omega
            have hks : Hid (keepT s (k + 1) = keepT s k ++ [true]) := by show _ = _; rw [keepT_step h45]; simp [h49]
            generalize keepT s k = l at H ho hks hkl c1
            go_upto_region 7 with fail
            go_region_law (refine step_push (T := tBool) rfl (.tmp 42) (.tmp 47) (by rfl) sl_bool (by rfl) (ho.alloc _).drew true trivial (by exact heap_alloc_new _ _) (by rfl) (by rfl) (by simp; omega) (by omega) ?_; intro v' w3 hown' hgr hb'; obtain ⟨A3, k3, rfl⟩ := hown'.form; have H3 := (H.alloc _).drew.push hgr (fun e he => (ho.lt e he).1); have c3 := H3.e.cells; have f3 := H3.e.free)
            all_goals
              go_wp2
              have hl1 : (l ++ [true]).length = l.length + 1 := by simp
              rw [hl1] at hown'
              have q5 := hown'.setCell (p := ⟨W.heap.size + 1, 4, none⟩) (by simp) (.slice A3 (l.length + 1) k3)
              exact ⟨⟨k + 1, A3, k3, by omega, by go_num, hall2, by rw [hks.out, hl1]; exact H3.putE 4 _, by rw [hks.out, hl1]; exact q5⟩, by simp [intOf]; omega⟩
      · have HN := Lib.hid (HBAD.out k hall.out hlt h32 hok)
        have h1 : ¬ bat s k = 48 := fun h => hok (.inl h)
        have h2' : ¬ bat s k = 49 := fun h => hok (.inr (.inl h))
        have hd : ((s.extract 0 (k + 1)).toList == [45]) = false := by
          rw [beq_eq_false_iff_ne]
          exact fun h => hok (.inr (.inr (hdash.1 h)))
        have c2 := H.r.cells
        have f2 := H.r.free
        have z1 := H.z
        generalize keepT s k = l at H ho hkl c1
        clear hdash hok HEND HBAD
        go_wp2
        refine ret_ev Tryz.results14 (H.put5 3 0 ⟨#[]⟩ 0 (.slice A l.length cp)).r rfl rfl rfl rfl ?_
        exact ⟨_, _, _, _, _, _, _, l, _, rfl, (fun h => by cases h), (fun _ => HN.out), rfl, ((ho.put5 (by omega) _ _ _ _ _).more (by omega)), (H.put5 3 0 ⟨#[]⟩ 0 (.slice A l.length cp)).B⟩
end Go.Proofs.YtggomjfllbljeaaGreatDoor
