/- Free texts; days, times and moments: the program's answers and the document's. -/
import Derived.Test.YtaakcccffmfmoaaDoorCode
namespace Go.Proofs.YtaakcccffmfmoaaDoor
set_option linter.unusedVariables false
open Go Go.RowKit
attribute [local go_sem] bat_get
def okc (c : Int) : Bool := isL c || (isD c || (c == 46 || (c == 45 || c == 47)))
def frAt (s : ByteArray) (i : Nat) : Bool := okc (bat s i) || ((bat s i == 32) && (decide (0 < i) && !(bat s (i - 1) == 32)))
def freeB (s : ByteArray) : Bool := decide (1 ≤ s.size) && (decide (s.size ≤ 40) && (allP (frAt s) s.size && !(bat s (s.size - 1) == 32)))
def blk (s : ByteArray) (k : Nat) : Bool := decide (k = 0) || bat s (k - 1) == 32
theorem okc_32 {c : Int} (h : okc c = true) : (c == 32) = false := by
  simp only [okc, isL, isD, Bool.or_eq_true, Bool.and_eq_true, decide_eq_true_eq, beq_iff_eq] at h
  simp; omega
theorem freeB_no {s : ByteArray} {k : Nat} (hk : k < s.size) (h : frAt s k = false) : freeB s = false := by
  simp [freeB, allP_no s.size hk h]
theorem frAt_ok {s : ByteArray} {k : Nat} (h : okc (bat s k) = true) : frAt s k = true := by simp [frAt, h]
theorem frAt_bl {s : ByteArray} {k : Nat} (h : (bat s k == 32) = true) (hb : blk s k = false) : frAt s k = true := by
  simp only [blk, Bool.or_eq_false_iff, decide_eq_false_iff_not] at hb
  simp only [frAt, h, hb.2]
  simp; omega
theorem frAt_no {s : ByteArray} {k : Nat} (h : okc (bat s k) = false) (hb : (bat s k == 32) = false ∨ blk s k = true) : frAt s k = false := by
  rcases hb with hb | hb
  · simp [frAt, h, hb]
  · simp only [blk, Bool.or_eq_true, decide_eq_true_eq] at hb
    simp only [frAt, h]
    rcases hb with hb | hb
    · subst hb; simp
    · simp [hb]
theorem blk_ok {s : ByteArray} {k : Nat} (h : okc (bat s k) = true) : blk s (k + 1) = false := by
  have := okc_32 h
  simp [blk]; simpa using this
theorem blk_bl {s : ByteArray} {k : Nat} (h : (bat s k == 32) = true) : blk s (k + 1) = true := by simp [blk]; simpa using h

set_option maxRecDepth 100000 in
set_option maxHeartbeats 1000000 in
theorem free_any (s : ByteArray) (w : World) (hs : s.size ≤ 9223372036854775807) :
    Calls Tryd.prog 40 #[.string s] w (RetB w (freeB s)) := by
  by_cases h1 : 1 ≤ s.size
  case neg =>
    have h0 : s.size = 0 := by omega
    have hl : s.toList.isEmpty = true := by rw [isEmpty_size]; exact decide_eq_true h0
    have hF : freeB s = false := by simp [freeB, h0]
    rw [hF]
    clear hF h0 h1
    go_enter Tryd.func40, Tryd.ntmps40
    go_wp2
    all_goals go_ret
    all_goals exact ⟨rfl, Below.refl _ _⟩
  have hl : s.toList.isEmpty = false := by rw [isEmpty_size]; exact decide_eq_false (by omega)
  by_cases h2 : s.size ≤ 40
  case neg =>
    have hF : freeB s = false := by simp [freeB, h2]
    rw [hF]
    clear hF
    go_enter Tryd.func40, Tryd.ntmps40
    go_wp2
    go_ret
    exact ⟨rfl, Below.refl _ _⟩
  have hF : freeB s = (allP (frAt s) s.size && !(bat s (s.size - 1) == 32)) := by simp [freeB, h1, h2]
  have HF := Lib.hid hF
  clear hF
  obtain ⟨w1, c, hrun, hb, hz, hcell⟩ := bytes_of (P := Tryd.prog) w 9 86 5 s Tryd.underlying9 Tryd.underlying86 Tryd.underlying5
  have HC := Lib.hid hcell
  clear hcell
  go_enter Tryd.func40, Tryd.ntmps40
  go_wp2
  go_loop [3, 16] (fun b i => ∃ k : Nat, k ≤ s.size ∧ i = .int .i64 k ∧ Hid (allP (frAt s) k = true) ∧ b = .bool (blk s k)) (fun _ i => s.size - (intOf i).toNat)
  case atStart => exact ⟨0, Nat.zero_le _, rfl, rfl, rfl⟩
  case round =>
    obtain ⟨k, hk, rfl, hall, rfl⟩ := hrel
    by_cases hlt : k < s.size
    · have c0 := HC.out k hlt
      have hbd := bat_bd s k
      rcases Bool.eq_false_or_eq_true (isL (bat s k)) with e1 | e1
      · have hok : okc (bat s k) = true := by simp [okc, e1]
        have hn := Lib.hid (allP_step hall.out (frAt_ok hok))
        have hb' := Lib.hid (blk_ok hok)
        have h32 := okc_32 hok
        clear hok
        go_wp2_with (first | (go_at_call 65; refine (letter_any _ _ hbd.1 hbd.2).mono ?_; rintro e w' ⟨rfl, rfl⟩) | (go_at_call 66; refine (digit_any _ _ hbd.1 hbd.2).mono ?_; rintro e w' ⟨rfl, rfl⟩))
        go_round
        case rel => exact ⟨k + 1, by omega, by go_num, hn, by rw [hb'.out]⟩
        case measure => simp [intOf]; omega
      rcases Bool.eq_false_or_eq_true (isD (bat s k)) with e2 | e2
      · have hok : okc (bat s k) = true := by simp [okc, e2]
        have hn := Lib.hid (allP_step hall.out (frAt_ok hok))
        have hb' := Lib.hid (blk_ok hok)
        have h32 := okc_32 hok
        clear hok
        go_wp2_with (first | (go_at_call 65; refine (letter_any _ _ hbd.1 hbd.2).mono ?_; rintro e w' ⟨rfl, rfl⟩) | (go_at_call 66; refine (digit_any _ _ hbd.1 hbd.2).mono ?_; rintro e w' ⟨rfl, rfl⟩))
        go_round
        case rel => exact ⟨k + 1, by omega, by go_num, hn, by rw [hb'.out]⟩
        case measure => simp [intOf]; omega
      rcases Bool.eq_false_or_eq_true (bat s k == 46) with e3 | e3
      · have hok : okc (bat s k) = true := by simp [okc, e3]
        have hn := Lib.hid (allP_step hall.out (frAt_ok hok))
        have hb' := Lib.hid (blk_ok hok)
        have h32 := okc_32 hok
        clear hok
        go_wp2_with (first | (go_at_call 65; refine (letter_any _ _ hbd.1 hbd.2).mono ?_; rintro e w' ⟨rfl, rfl⟩) | (go_at_call 66; refine (digit_any _ _ hbd.1 hbd.2).mono ?_; rintro e w' ⟨rfl, rfl⟩))
        go_round
        case rel => exact ⟨k + 1, by omega, by go_num, hn, by rw [hb'.out]⟩
        case measure => simp [intOf]; omega
      rcases Bool.eq_false_or_eq_true (bat s k == 45) with e4 | e4
      · have hok : okc (bat s k) = true := by simp [okc, e4]
        have hn := Lib.hid (allP_step hall.out (frAt_ok hok))
        have hb' := Lib.hid (blk_ok hok)
        have h32 := okc_32 hok
        clear hok
        go_wp2_with (first | (go_at_call 65; refine (letter_any _ _ hbd.1 hbd.2).mono ?_; rintro e w' ⟨rfl, rfl⟩) | (go_at_call 66; refine (digit_any _ _ hbd.1 hbd.2).mono ?_; rintro e w' ⟨rfl, rfl⟩))
        go_round
        case rel => exact ⟨k + 1, by omega, by go_num, hn, by rw [hb'.out]⟩
        case measure => simp [intOf]; omega
      rcases Bool.eq_false_or_eq_true (bat s k == 47) with e5 | e5
      · have hok : okc (bat s k) = true := by simp [okc, e5]
        have hn := Lib.hid (allP_step hall.out (frAt_ok hok))
        have hb' := Lib.hid (blk_ok hok)
        have h32 := okc_32 hok
        clear hok
        go_wp2_with (first | (go_at_call 65; refine (letter_any _ _ hbd.1 hbd.2).mono ?_; rintro e w' ⟨rfl, rfl⟩) | (go_at_call 66; refine (digit_any _ _ hbd.1 hbd.2).mono ?_; rintro e w' ⟨rfl, rfl⟩))
        go_round
        case rel => exact ⟨k + 1, by omega, by go_num, hn, by rw [hb'.out]⟩
        case measure => simp [intOf]; omega
      have hno : okc (bat s k) = false := by simp [okc, e1, e2, e3, e4, e5]
      rcases Bool.eq_false_or_eq_true (bat s k == 32) with e6 | e6
      · rcases Bool.eq_false_or_eq_true (blk s k) with e7 | e7
        · have hn := Lib.hid (freeB_no hlt (frAt_no hno (.inr e7)))
          clear hno
          go_wp2_with (first | (go_at_call 65; refine (letter_any _ _ hbd.1 hbd.2).mono ?_; rintro e w' ⟨rfl, rfl⟩) | (go_at_call 66; refine (digit_any _ _ hbd.1 hbd.2).mono ?_; rintro e w' ⟨rfl, rfl⟩))
          go_ret
          exact ⟨ret_bool hn.out.symm, hb⟩
        · have hn := Lib.hid (allP_step hall.out (frAt_bl e6 e7))
          have hb' := Lib.hid (blk_bl e6)
          clear hno
          go_wp2_with (first | (go_at_call 65; refine (letter_any _ _ hbd.1 hbd.2).mono ?_; rintro e w' ⟨rfl, rfl⟩) | (go_at_call 66; refine (digit_any _ _ hbd.1 hbd.2).mono ?_; rintro e w' ⟨rfl, rfl⟩))
          go_round
          case rel => exact ⟨k + 1, by omega, by go_num, hn, by rw [hb'.out]⟩
          case measure => simp [intOf]; omega
      · have hn := Lib.hid (freeB_no hlt (frAt_no hno (.inl e6)))
        clear hno
        go_wp2_with (first | (go_at_call 65; refine (letter_any _ _ hbd.1 hbd.2).mono ?_; rintro e w' ⟨rfl, rfl⟩) | (go_at_call 66; refine (digit_any _ _ hbd.1 hbd.2).mono ?_; rintro e w' ⟨rfl, rfl⟩))
        go_ret
        exact ⟨ret_bool hn.out.symm, hb⟩
    · have e : k = s.size := by omega
      subst e
      have hfin := Lib.hid (show (!(blk s s.size)) = freeB s by rw [HF.out, hall.out, blk, show decide (s.size = 0) = false from decide_eq_false (by omega), Bool.false_or, Bool.true_and])
      go_wp2
      go_ret
      exact ⟨ret_bool hfin.out, hb⟩
set_option maxRecDepth 100000 in
set_option maxHeartbeats 1000000 in
theorem rfree_any (s : ByteArray) (w : World) (hs : s.size ≤ 9223372036854775807) :
    Calls Tryd.prog 49 #[.string s] w fun e w' => e = .returned (.bool (freeB s)) ∧ w = w' := by
  by_cases h1 : 1 ≤ s.size
  case neg =>
    have hF : freeB s = false := by simp [freeB, h1]
    rw [hF]
    clear hF
    go_enter Tryd.func49, Tryd.ntmps49
    go_wp2
    go_ret
    exact ⟨rfl, rfl⟩
  by_cases h2 : s.size ≤ 40
  case neg =>
    have hF : freeB s = false := by simp [freeB, h2]
    rw [hF]
    clear hF
    go_enter Tryd.func49, Tryd.ntmps49
    go_wp2
    go_ret
    exact ⟨rfl, rfl⟩
  have h3 : 0 < s.size := by omega
  have h4 : s.size - 1 < s.size := by omega
  rcases Bool.eq_false_or_eq_true (bat s 0 == 32) with e0 | e0
  · have hF : freeB s = false := freeB_no h3 (by simp only [frAt, e0]; simp; exact (by
      cases hx : okc (bat s 0) with
      | false => rfl
      | true => have := okc_32 hx; rw [this] at e0; cases e0))
    rw [hF]
    clear hF
    go_enter Tryd.func49, Tryd.ntmps49
    go_wp2
    go_ret
    exact ⟨rfl, rfl⟩
  rcases Bool.eq_false_or_eq_true (bat s (s.size - 1) == 32) with e1 | e1
  · have hF : freeB s = false := by simp [freeB, e1]
    rw [hF]
    clear hF
    go_enter Tryd.func49, Tryd.ntmps49
    go_wp2
    go_ret
    exact ⟨rfl, rfl⟩
  have hF : freeB s = allP (frAt s) s.size := by simp [freeB, h1, h2, e1]
  have HF := Lib.hid hF
  clear hF
  go_enter Tryd.func49, Tryd.ntmps49
  go_wp2
  go_loop [3] (fun i => ∃ k : Nat, k ≤ s.size ∧ i = .int .i64 k ∧ Hid (allP (frAt s) k = true)) (fun i => s.size - (intOf i).toNat)
  case atStart => exact ⟨0, Nat.zero_le _, rfl, rfl⟩
  case round =>
    obtain ⟨k, hk, rfl, hall⟩ := hrel
    by_cases hlt : k < s.size
    · have hbd := bat_bd s k
      rcases Bool.eq_false_or_eq_true (bat s k == 32) with e6 | e6
      · have hk0 : k ≠ 0 := by rintro rfl; rw [e6] at e0; cases e0
        have E6 := Lib.hid e6
        have m6 : (bat s k != 32) = false := by rw [bne, e6]; rfl
        have hno : okc (bat s k) = false := by
          cases hx : okc (bat s k) with
          | false => rfl
          | true => have := okc_32 hx; rw [this] at e6; cases e6
        have hc : bat s k = 32 := by simpa using e6
        have n1 : isL (bat s k) = false := by rw [hc]; rfl
        have n2 : isD (bat s k) = false := by rw [hc]; rfl
        have HNO := Lib.hid hno
        clear hno hc
        obtain ⟨j, rfl⟩ : ∃ j, k = j + 1 := ⟨k - 1, by omega⟩
        have hj : j < s.size := by omega
        rcases Bool.eq_false_or_eq_true (bat s j == 32) with e7 | e7
        · have hn := Lib.hid (freeB_no hlt (frAt_no HNO.out (.inr (by simp [blk]; simpa using e7))))
          go_wp2_with (first | (go_at_call 59; refine (rletter_any _ _).mono ?_; rintro e w' ⟨rfl, rfl⟩) | (go_at_call 74; refine (rdigit_any _ _).mono ?_; rintro e w' ⟨rfl, rfl⟩))
          go_ret
          exact ⟨ret_bool hn.out.symm, rfl⟩
        · have hn := Lib.hid (allP_step hall.out (frAt_bl E6.out (by simp [blk]; simpa using e7)))
          go_wp2_with (first | (go_at_call 59; refine (rletter_any _ _).mono ?_; rintro e w' ⟨rfl, rfl⟩) | (go_at_call 74; refine (rdigit_any _ _).mono ?_; rintro e w' ⟨rfl, rfl⟩))
          go_round
          case rel => exact ⟨j + 1 + 1, by omega, by go_num, hn⟩
          case measure => simp [intOf]; omega
      have m6 : (bat s k != 32) = true := by rw [bne, e6]; rfl
      rcases Bool.eq_false_or_eq_true (isL (bat s k)) with e1 | e1
      · have hn := Lib.hid (allP_step hall.out (frAt_ok (by simp [okc, e1])))
        go_wp2_with (first | (go_at_call 59; refine (rletter_any _ _).mono ?_; rintro e w' ⟨rfl, rfl⟩) | (go_at_call 74; refine (rdigit_any _ _).mono ?_; rintro e w' ⟨rfl, rfl⟩))
        go_round
        case rel => exact ⟨k + 1, by omega, by go_num, hn⟩
        case measure => simp [intOf]; omega
      rcases Bool.eq_false_or_eq_true (isD (bat s k)) with e2 | e2
      · have hn := Lib.hid (allP_step hall.out (frAt_ok (by simp [okc, e2])))
        go_wp2_with (first | (go_at_call 59; refine (rletter_any _ _).mono ?_; rintro e w' ⟨rfl, rfl⟩) | (go_at_call 74; refine (rdigit_any _ _).mono ?_; rintro e w' ⟨rfl, rfl⟩))
        go_round
        case rel => exact ⟨k + 1, by omega, by go_num, hn⟩
        case measure => simp [intOf]; omega
      rcases Bool.eq_false_or_eq_true (bat s k == 46) with e3 | e3
      · have hn := Lib.hid (allP_step hall.out (frAt_ok (by simp [okc, e3])))
        have m3 : (bat s k != 46) = false := by rw [bne, e3]; rfl
        go_wp2_with (first | (go_at_call 59; refine (rletter_any _ _).mono ?_; rintro e w' ⟨rfl, rfl⟩) | (go_at_call 74; refine (rdigit_any _ _).mono ?_; rintro e w' ⟨rfl, rfl⟩))
        go_round
        case rel => exact ⟨k + 1, by omega, by go_num, hn⟩
        case measure => simp [intOf]; omega
      have m3 : (bat s k != 46) = true := by rw [bne, e3]; rfl
      rcases Bool.eq_false_or_eq_true (bat s k == 45) with e4 | e4
      · have hn := Lib.hid (allP_step hall.out (frAt_ok (by simp [okc, e4])))
        have m4 : (bat s k != 45) = false := by rw [bne, e4]; rfl
        go_wp2_with (first | (go_at_call 59; refine (rletter_any _ _).mono ?_; rintro e w' ⟨rfl, rfl⟩) | (go_at_call 74; refine (rdigit_any _ _).mono ?_; rintro e w' ⟨rfl, rfl⟩))
        go_round
        case rel => exact ⟨k + 1, by omega, by go_num, hn⟩
        case measure => simp [intOf]; omega
      have m4 : (bat s k != 45) = true := by rw [bne, e4]; rfl
      rcases Bool.eq_false_or_eq_true (bat s k == 47) with e5 | e5
      · have hn := Lib.hid (allP_step hall.out (frAt_ok (by simp [okc, e5])))
        have m5 : (bat s k != 47) = false := by rw [bne, e5]; rfl
        go_wp2_with (first | (go_at_call 59; refine (rletter_any _ _).mono ?_; rintro e w' ⟨rfl, rfl⟩) | (go_at_call 74; refine (rdigit_any _ _).mono ?_; rintro e w' ⟨rfl, rfl⟩))
        go_round
        case rel => exact ⟨k + 1, by omega, by go_num, hn⟩
        case measure => simp [intOf]; omega
      have m5 : (bat s k != 47) = true := by rw [bne, e5]; rfl
      have hn := Lib.hid (freeB_no hlt (frAt_no (by simp [okc, e1, e2, e3, e4, e5]) (.inl e6)))
      go_wp2_with (first | (go_at_call 59; refine (rletter_any _ _).mono ?_; rintro e w' ⟨rfl, rfl⟩) | (go_at_call 74; refine (rdigit_any _ _).mono ?_; rintro e w' ⟨rfl, rfl⟩))
      go_ret
      exact ⟨ret_bool hn.out.symm, rfl⟩
    · have e : k = s.size := by omega
      subst e
      go_wp2
      go_ret
      exact ⟨ret_bool (by rw [HF.out, hall.out]), rfl⟩
end Go.Proofs.YtaakcccffmfmoaaDoor
