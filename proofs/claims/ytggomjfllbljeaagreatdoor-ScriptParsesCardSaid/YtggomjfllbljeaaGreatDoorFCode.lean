/- Which texts are cities and carriers; weekdays; by program out of other texts. -/
import Derived.Test.YtggomjfllbljeaaGreatDoorMLib
import Derived.Test.YtggomjfllbljeaaGreatDoorProg
import Derived.Deep.DeepCutAuto
import Derived.Deep.QuietTactic
import Derived.BigQuiet
namespace Go.Proofs.YtggomjfllbljeaaGreatDoor
set_option linter.unusedVariables false
open Go Go.RowKit
attribute [local go_sem] bat_get

def isL (c : Int) : Bool := decide (65 ≤ c) && decide (c ≤ 90)
def isD (c : Int) : Bool := decide (48 ≤ c) && decide (c ≤ 57)
def allP (P : Nat → Bool) : Nat → Bool
  | 0 => true
  | k + 1 => allP P k && P k
def cntP (P : Nat → Bool) : Nat → Int
  | 0 => 0
  | k + 1 => cntP P k + if P k then 1 else 0
theorem cntP_bd (P : Nat → Bool) : ∀ k : Nat, 0 ≤ cntP P k ∧ cntP P k ≤ k
  | 0 => by simp [cntP]
  | k + 1 => by
    have := cntP_bd P k
    simp only [cntP]
    split <;> omega
theorem cntP_all (P : Nat → Bool) : ∀ k : Nat, (cntP P k = k) ↔ allP P k = true
  | 0 => by simp [cntP, allP]
  | k + 1 => by
    have h := cntP_all P k
    have hb := cntP_bd P k
    simp only [cntP, allP, Bool.and_eq_true]
    by_cases hp : P k = true
    · simp only [hp, if_true, and_true]
      rw [← h]; omega
    · simp [hp]
      omega
theorem allP_no {P : Nat → Bool} {k : Nat} : ∀ n, k < n → P k = false → allP P n = false
  | 0, h, _ => by omega
  | n + 1, h, hp => by
    simp only [allP]
    by_cases hk : k = n
    · subst hk; simp [hp]
    · rw [allP_no n (by omega) hp]; rfl
theorem allP_step {P : Nat → Bool} {k : Nat} (h : allP P k = true) (hp : P k = true) : allP P (k + 1) = true := by simp [allP, h, hp]
theorem allP_at {P : Nat → Bool} {k : Nat} : ∀ n, k < n → allP P n = true → P k = true
  | 0, h, _ => by omega
  | n + 1, h, hp => by
    simp only [allP, Bool.and_eq_true] at hp
    by_cases hk : k = n
    · subst hk; exact hp.2
    · exact allP_at n (by omega) hp.1
theorem allP_congr {P Q : Nat → Bool} : ∀ n, (∀ i, i < n → P i = Q i) → allP P n = allP Q n
  | 0, _ => rfl
  | n + 1, h => by simp only [allP]; rw [allP_congr n (fun i hi => h i (by omega)), h n (by omega)]

def LB (s : ByteArray) (i : Nat) : Bool := isL (bat s i)
def LDB (s : ByteArray) (i : Nat) : Bool := isL (bat s i) || isD (bat s i)
def wordB (s : ByteArray) (a b : Int) : Bool := decide (a ≤ s.size) && (decide ((s.size : Int) ≤ b) && allP (LB s) s.size)
def mixedB (s : ByteArray) (a b : Int) : Bool := decide (a ≤ s.size) && (decide ((s.size : Int) ≤ b) && allP (LDB s) s.size)
def carrierB (s : ByteArray) : Bool := decide (s.size = 2) && ((isL (bat s 0) && (isL (bat s 1) || isD (bat s 1))) || (isD (bat s 0) && isL (bat s 1)))

theorem letter_any (c : Int) (w : World) (h0 : 0 ≤ c) (h1 : c ≤ 255) :
    Calls Tryz.prog 154 #[.int .u8 c] w fun e w' => e = .returned (.bool (isL c)) ∧ w = w' := by
  have e : decide ((c - 65) % 256 < 26) = isL c := by
    unfold isL
    rw [Bool.eq_iff_iff]; simp; omega
  go_enter Tryz.func154, Tryz.ntmps154
  go_wp2
  go_ret
  exact ⟨rfl, rfl⟩
theorem digit_any (c : Int) (w : World) (h0 : 0 ≤ c) (h1 : c ≤ 255) :
    Calls Tryz.prog 155 #[.int .u8 c] w fun e w' => e = .returned (.bool (isD c)) ∧ w = w' := by
  have e : decide ((c - 48) % 256 < 10) = isD c := by
    unfold isD
    rw [Bool.eq_iff_iff]; simp; omega
  go_enter Tryz.func155, Tryz.ntmps155
  go_wp2
  go_ret
  exact ⟨rfl, rfl⟩
theorem rletter_any (c : Int) (w : World) :
    Calls Tryz.prog 88 #[.int .u8 c] w fun e w' => e = .returned (.bool (isL c)) ∧ w = w' := by
  by_cases h1 : 65 ≤ c
  · go_enter Tryz.func88, Tryz.ntmps88
    go_wp2
    go_ret
    exact ⟨ret_bool (by simp [isL, h1]), rfl⟩
  · go_enter Tryz.func88, Tryz.ntmps88
    go_wp2
    go_ret
    exact ⟨ret_bool (by simp [isL]; omega), rfl⟩
theorem rdigit_any (c : Int) (w : World) :
    Calls Tryz.prog 89 #[.int .u8 c] w fun e w' => e = .returned (.bool (isD c)) ∧ w = w' := by
  by_cases h1 : 48 ≤ c
  · go_enter Tryz.func89, Tryz.ntmps89
    go_wp2
    go_ret
    exact ⟨ret_bool (by simp [isD, h1]), rfl⟩
  · go_enter Tryz.func89, Tryz.ntmps89
    go_wp2
    go_ret
    exact ⟨ret_bool (by simp [isD]; omega), rfl⟩
theorem class_any (c : Int) (w : World) (h0 : 0 ≤ c) (h1 : c ≤ 255) :
    Calls Tryz.prog 94 #[.int .u8 c] w fun e w' => e = .returned (.bool (isL c)) ∧ w = w' := by
  go_enter Tryz.func94, Tryz.ntmps94
  go_wp2_with (go_at_call 154; refine (letter_any _ _ h0 h1).mono ?_; rintro e w' ⟨rfl, rfl⟩)
  go_ret
  exact ⟨rfl, rfl⟩
def RetB (w : World) (b : Bool) (e : Ending) (w' : World) : Prop := e = .returned (.bool b) ∧ Below w.heap.size w w'
set_option maxRecDepth 100000 in
set_option maxHeartbeats 400000 in
theorem letters_any (s : ByteArray) (a b : Int) (w : World) (hs : s.size ≤ 9223372036854775807) :
    Calls Tryz.prog 156 #[.string s, .int .i64 a, .int .i64 b] w (RetB w (wordB s a b)) := by
  by_cases h1 : a ≤ s.size
  case neg =>
    go_enter Tryz.func156, Tryz.ntmps156
    go_wp2
    go_ret
    exact ⟨ret_bool (by simp [wordB]; omega), Below.refl _ _⟩
  by_cases h2 : (s.size : Int) ≤ b
  case neg =>
    go_enter Tryz.func156, Tryz.ntmps156
    go_wp2
    go_ret
    exact ⟨ret_bool (by simp [wordB, h1]; omega), Below.refl _ _⟩
  have hw : wordB s a b = allP (LB s) s.size := by simp [wordB, h1, h2]
  rw [hw]
  clear hw
  obtain ⟨w1, c, hrun, hb, hz, hcell⟩ := bytes_of (P := Tryz.prog) w 9 57 5 s Tryz.underlying9 Tryz.underlying57 Tryz.underlying5
  have HC := Lib.hid hcell
  clear hcell
  go_enter Tryz.func156, Tryz.ntmps156
  go_wp2
  go_loop [22] (fun i => ∃ k : Nat, k ≤ s.size ∧ i = .int .i64 k ∧ Hid (allP (LB s) k = true)) (fun i => s.size - (intOf i).toNat)
  case atStart => exact ⟨0, Nat.zero_le _, rfl, rfl⟩
  case round =>
    obtain ⟨k, hk, rfl, hall⟩ := hrel
    by_cases hlt : k < s.size
    · have c0 := HC.out k hlt
      have hbd := bat_bd s k
      go_wp2_with fail
      refine (letter_any _ _ hbd.1 hbd.2).mono ?_
      rintro e w' ⟨rfl, rfl⟩
      have hl : LB s k = isL (bat s k) := rfl
      rcases Bool.eq_false_or_eq_true (isL (bat s k)) with hp | hp
      · have hn := Lib.hid (allP_step hall.out (hl.trans hp))
        go_wp2
        go_round
        case rel => exact ⟨k + 1, by omega, by go_num, hn⟩
        case measure => simp [intOf]; omega
      · have hn := Lib.hid (allP_no s.size hlt (hl.trans hp))
        go_wp2
        go_ret
        exact ⟨ret_bool hn.out.symm, hb⟩
    · have e : k = s.size := by omega
      subst e
      go_wp2
      go_ret
      exact ⟨ret_bool hall.out.symm, hb⟩
theorem city_any (s : ByteArray) (w : World) (hs : s.size ≤ 9223372036854775807) :
    Calls Tryz.prog 93 #[.string s] w (RetB w (wordB s 3 3)) := by
  go_enter Tryz.func93, Tryz.ntmps93
  go_wp2_with (go_at_call 156; refine (letters_any _ _ _ _ hs).mono ?_; rintro e w1 ⟨rfl, hb⟩)
  go_ret
  exact ⟨rfl, hb⟩
theorem person_any (s : ByteArray) (w : World) (hs : s.size ≤ 9223372036854775807) :
    Calls Tryz.prog 298 #[.string s] w (RetB w (wordB s 1 16)) := by
  go_enter Tryz.func298, Tryz.ntmps298
  go_wp2_with (go_at_call 156; refine (letters_any _ _ _ _ hs).mono ?_; rintro e w1 ⟨rfl, hb⟩)
  go_ret
  exact ⟨rfl, hb⟩
theorem locator_any (s : ByteArray) (w : World) (hs : s.size ≤ 9223372036854775807) :
    Calls Tryz.prog 208 #[.string s] w (RetB w (wordB s 6 6)) := by
  go_enter Tryz.func208, Tryz.ntmps208
  go_wp2_with (go_at_call 156; refine (letters_any _ _ _ _ hs).mono ?_; rintro e w1 ⟨rfl, hb⟩)
  go_ret
  exact ⟨rfl, hb⟩
/-- The document's way of saying it: so many letters, and all are. -/
theorem word_cnt (s : ByteArray) (a : Int) (h : (s.size : Int) = a) : (cntP (LB s) s.size == a) = wordB s a a := by
  have hc := cntP_all (LB s) s.size
  rw [Bool.eq_iff_iff]
  simp only [wordB, Bool.and_eq_true, decide_eq_true_eq, beq_iff_eq]
  rw [← hc]
  omega
theorem word_no (s : ByteArray) (a : Int) (h : ¬ (s.size : Int) = a) : wordB s a a = false := by
  simp only [wordB]
  by_cases h1 : a ≤ s.size
  · have h2 : ¬ (s.size : Int) ≤ a := by omega
    simp [h2]
  · simp [h1]
theorem person_eq (s : ByteArray) : wordB s 1 16 = (mixedB s 1 16 && (cntP (LB s) s.size == s.size)) := by
  have hc := cntP_all (LB s) s.size
  rw [Bool.eq_iff_iff]
  simp only [wordB, mixedB, Bool.and_eq_true, decide_eq_true_eq, beq_iff_eq]
  rw [hc]
  constructor
  · rintro ⟨h1, h2, h3⟩
    refine ⟨⟨h1, h2, ?_⟩, h3⟩
    have : ∀ n, n ≤ s.size → allP (LDB s) n = true := by
      intro n
      induction n with
      | zero => intro _; rfl
      | succ n ih =>
        intro hn
        refine allP_step (ih (by omega)) ?_
        have := allP_at s.size (show n < s.size by omega) h3
        simp only [LB] at this
        simp [LDB, this]
    exact this _ (Nat.le_refl _)
  · rintro ⟨⟨h1, h2, _⟩, h3⟩
    exact ⟨h1, h2, h3⟩
theorem carrier_eq (s : ByteArray) : carrierB s = (mixedB s 2 2 && decide (0 < cntP (LB s) s.size)) := by
  by_cases h : s.size = 2
  · simp only [carrierB, mixedB, h]
    simp only [allP, cntP, LB, LDB]
    rcases Bool.eq_false_or_eq_true (isL (bat s 0)) with e0 | e0 <;> rcases Bool.eq_false_or_eq_true (isL (bat s 1)) with e1 | e1 <;> rcases Bool.eq_false_or_eq_true (isD (bat s 0)) with e2 | e2 <;> rcases Bool.eq_false_or_eq_true (isD (bat s 1)) with e3 | e3 <;> simp [e0, e1, e2, e3]
  · have h2 : decide (s.size = 2) = false := by simp [h]
    simp only [carrierB, mixedB, h2]
    by_cases h3 : (2 : Int) ≤ s.size
    · have h4 : ¬ (s.size : Int) ≤ 2 := by omega
      simp [h4]
    · simp [h3]

set_option maxRecDepth 100000 in
set_option maxHeartbeats 400000 in
theorem carrier_any (s : ByteArray) (w : World) (hs : s.size ≤ 9223372036854775807) :
    Calls Tryz.prog 92 #[.string s] w fun e w' => e = .returned (.bool (carrierB s)) ∧ ∃ n, w' = w.drewN n := by
  by_cases h : s.size = 2
  case neg =>
    have h' : ((s.size : Int) != 2) = true := by simp; omega
    have hc : carrierB s = false := by simp [carrierB, h]
    rw [hc]
    clear hc
    go_enter Tryz.func92, Tryz.ntmps92
    go_wp2
    go_ret
    exact ⟨rfl, 0, rfl⟩
  have h' : ((s.size : Int) != 2) = false := by simp; omega
  have hc : carrierB s = ((isL (bat s 0) && (isL (bat s 1) || isD (bat s 1))) || (isD (bat s 0) && isL (bat s 1))) := by simp [carrierB, h]
  rw [hc]
  clear hc
  have h2 : 0 < s.size := by omega
  have h3 : 1 < s.size := by omega
  have h4 : (0 : Int) < s.size := by omega
  have h5 : (1 : Int) < s.size := by omega
  clear h
  have b0 := bat_bd s 0
  have b1 := bat_bd s 1
  go_enter Tryz.func92, Tryz.ntmps92
  go_wp2
  go_quiet (fail)
  rcases Bool.eq_false_or_eq_true (isL (bat s 0)) with e0 | e0 <;> rcases Bool.eq_false_or_eq_true (isL (bat s 1)) with e1 | e1 <;> rcases Bool.eq_false_or_eq_true (isD (bat s 0)) with e2 | e2 <;> rcases Bool.eq_false_or_eq_true (isD (bat s 1)) with e3 | e3
  all_goals
    go_wp2_with (first | (go_at_call 154; refine (letter_any _ _ (by first | exact b0.1 | exact b1.1) (by first | exact b0.2 | exact b1.2)).mono ?_; rintro e w' ⟨rfl, rfl⟩) | (go_at_call 155; refine (digit_any _ _ (by first | exact b0.1 | exact b1.1) (by first | exact b0.2 | exact b1.2)).mono ?_; rintro e w' ⟨rfl, rfl⟩))
    go_ret
    exact ⟨ret_bool (by simp [e0, e1, e2, e3]), _, rfl⟩

def dayB (d : Int) : Bool := decide (0 ≤ d) && decide (d < 366)
def wkd (d : Int) : Int := if dayB d then d % 7 + 1 else 0
theorem wkd_yes {d : Int} (h : dayB d = true) : 1 ≤ wkd d ∧ wkd d ≤ 7 := by
  simp only [dayB, Bool.and_eq_true, decide_eq_true_eq] at h
  have : dayB d = true := by simp [dayB, h]
  simp only [wkd, this, if_true]; omega
theorem wkd_no {d : Int} (h : dayB d = false) : wkd d = 0 := by simp [wkd, h]
theorem weekday_any (d : Int) (w : World) :
    Calls Tryz.prog 356 #[.int .i64 d] w fun e w' => e = .returned (.int .i64 (wkd d)) ∧ w = w' := by
  by_cases h1 : 0 ≤ d
  · by_cases h2 : d < 366
    · have hw : wkd d = d % 7 + 1 := by simp [wkd, dayB, h1, h2]
      rw [hw]
      clear hw
      go_enter Tryz.func356, Tryz.ntmps356
      go_wp2
      go_ret
      exact ⟨rfl, rfl⟩
    · have hw : wkd d = 0 := by simp [wkd, dayB, h2]
      rw [hw]
      clear hw
      go_enter Tryz.func356, Tryz.ntmps356
      go_wp2
      go_ret
      exact ⟨rfl, rfl⟩
  · have hw : wkd d = 0 := by simp [wkd, dayB, h1]
    rw [hw]
    clear hw
    go_enter Tryz.func356, Tryz.ntmps356
    go_wp2
    go_ret
    exact ⟨rfl, rfl⟩

end Go.Proofs.YtggomjfllbljeaaGreatDoor
