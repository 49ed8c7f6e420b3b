/- Put together by program of: Code, Free, Date. -/
import Derived.Test.YtpgeoahlhdifoaaGreatDoorMLib
import Derived.Test.YtpgeoahlhdifoaaGreatDoorRows
import Derived.Deep.DeepCutAuto
import Derived.Deep.QuietTactic
import Derived.BigQuiet
namespace Go.Proofs.YtpgeoahlhdifoaaGreatDoor
set_option linter.unusedVariables false
open Go Go.RowKit
attribute [local go_sem] bat_get

def isL (c : Int) : Bool := decide (65 ≤ c) && decide (c ≤ 90)
def isD (c : Int) : Bool := decide (48 ≤ c) && decide (c ≤ 57)
def allP (P : Nat → Bool) : Nat → Bool
  | 0 => true
  | k + 1 => allP P k && P k
def cntP (P : Nat → Bool) : Nat → Int
  | 0 => 0
  | k + 1 => cntP P k + if P k then 1 else 0
theorem cntP_bd (P : Nat → Bool) : ∀ k : Nat, 0 ≤ cntP P k ∧ cntP P k ≤ k
  | 0 => by simp [cntP]
  | k + 1 => by
    have := cntP_bd P k
    simp only [cntP]
    split <;> omega
theorem cntP_all (P : Nat → Bool) : ∀ k : Nat, (cntP P k = k) ↔ allP P k = true
  | 0 => by simp [cntP, allP]
  | k + 1 => by
    have h := cntP_all P k
    have hb := cntP_bd P k
    simp only [cntP, allP, Bool.and_eq_true]
    by_cases hp : P k = true
    · simp only [hp, if_true, and_true]
      rw [← h]; omega
    · simp [hp]
      omega
theorem allP_no {P : Nat → Bool} {k : Nat} : ∀ n, k < n → P k = false → allP P n = false
  | 0, h, _ => by omega
  | n + 1, h, hp => by
    simp only [allP]
    by_cases hk : k = n
    · subst hk; simp [hp]
    · rw [allP_no n (by omega) hp]; rfl
theorem allP_step {P : Nat → Bool} {k : Nat} (h : allP P k = true) (hp : P k = true) : allP P (k + 1) = true := by simp [allP, h, hp]
theorem allP_at {P : Nat → Bool} {k : Nat} : ∀ n, k < n → allP P n = true → P k = true
  | 0, h, _ => by omega
  | n + 1, h, hp => by
    simp only [allP, Bool.and_eq_true] at hp
    by_cases hk : k = n
    · subst hk; exact hp.2
    · exact allP_at n (by omega) hp.1
theorem allP_congr {P Q : Nat → Bool} : ∀ n, (∀ i, i < n → P i = Q i) → allP P n = allP Q n
  | 0, _ => rfl
  | n + 1, h => by simp only [allP]; rw [allP_congr n (fun i hi => h i (by omega)), h n (by omega)]

def LB (s : ByteArray) (i : Nat) : Bool := isL (bat s i)
def LDB (s : ByteArray) (i : Nat) : Bool := isL (bat s i) || isD (bat s i)
def wordB (s : ByteArray) (a b : Int) : Bool := decide (a ≤ s.size) && (decide ((s.size : Int) ≤ b) && allP (LB s) s.size)
def mixedB (s : ByteArray) (a b : Int) : Bool := decide (a ≤ s.size) && (decide ((s.size : Int) ≤ b) && allP (LDB s) s.size)
def carrierB (s : ByteArray) : Bool := decide (s.size = 2) && ((isL (bat s 0) && (isL (bat s 1) || isD (bat s 1))) || (isD (bat s 0) && isL (bat s 1)))

theorem letter_any (c : Int) (w : World) (h0 : 0 ≤ c) (h1 : c ≤ 255) :
    Calls Tryz.prog 49 #[.int .u8 c] w fun e w' => e = .returned (.bool (isL c)) ∧ w = w' := by
  have e : decide ((c - 65) % 256 < 26) = isL c := by
    unfold isL
    rw [Bool.eq_iff_iff]; simp; omega
  go_enter Tryz.func49, Tryz.ntmps49
  go_wp2
  go_ret
  exact ⟨rfl, rfl⟩
theorem digit_any (c : Int) (w : World) (h0 : 0 ≤ c) (h1 : c ≤ 255) :
    Calls Tryz.prog 50 #[.int .u8 c] w fun e w' => e = .returned (.bool (isD c)) ∧ w = w' := by
  have e : decide ((c - 48) % 256 < 10) = isD c := by
    unfold isD
    rw [Bool.eq_iff_iff]; simp; omega
  go_enter Tryz.func50, Tryz.ntmps50
  go_wp2
  go_ret
  exact ⟨rfl, rfl⟩
theorem rletter_any (c : Int) (w : World) :
    Calls Tryz.prog 56 #[.int .u8 c] w fun e w' => e = .returned (.bool (isL c)) ∧ w = w' := by
  by_cases h1 : 65 ≤ c
  · go_enter Tryz.func56, Tryz.ntmps56
    go_wp2
    go_ret
    exact ⟨ret_bool (by simp [isL, h1]), rfl⟩
  · go_enter Tryz.func56, Tryz.ntmps56
    go_wp2
    go_ret
    exact ⟨ret_bool (by simp [isL]; omega), rfl⟩
theorem rdigit_any (c : Int) (w : World) :
    Calls Tryz.prog 81 #[.int .u8 c] w fun e w' => e = .returned (.bool (isD c)) ∧ w = w' := by
  by_cases h1 : 48 ≤ c
  · go_enter Tryz.func81, Tryz.ntmps81
    go_wp2
    go_ret
    exact ⟨ret_bool (by simp [isD, h1]), rfl⟩
  · go_enter Tryz.func81, Tryz.ntmps81
    go_wp2
    go_ret
    exact ⟨ret_bool (by simp [isD]; omega), rfl⟩
theorem class_any (c : Int) (w : World) (h0 : 0 ≤ c) (h1 : c ≤ 255) :
    Calls Tryz.prog 100 #[.int .u8 c] w fun e w' => e = .returned (.bool (isL c)) ∧ w = w' := by
  go_enter Tryz.func100, Tryz.ntmps100
  go_wp2_with (go_at_call 49; refine (letter_any _ _ h0 h1).mono ?_; rintro e w' ⟨rfl, rfl⟩)
  go_ret
  exact ⟨rfl, rfl⟩
theorem rclass_any (c : Int) (w : World) :
    Calls Tryz.prog 106 #[.int .u8 c] w fun e w' => e = .returned (.bool (isL c)) ∧ w = w' := by
  go_enter Tryz.func106, Tryz.ntmps106
  go_wp2_with (go_at_call 56; refine (rletter_any _ _).mono ?_; rintro e w' ⟨rfl, rfl⟩)
  go_ret
  exact ⟨rfl, rfl⟩

def RetB (w : World) (b : Bool) (e : Ending) (w' : World) : Prop := e = .returned (.bool b) ∧ Below w.heap.size w w'
set_option maxRecDepth 100000 in
set_option maxHeartbeats 400000 in
theorem letters_any (s : ByteArray) (a b : Int) (w : World) (hs : s.size ≤ 9223372036854775807) :
    Calls Tryz.prog 51 #[.string s, .int .i64 a, .int .i64 b] w (RetB w (wordB s a b)) := by
  by_cases h1 : a ≤ s.size
  case neg =>
    go_enter Tryz.func51, Tryz.ntmps51
    go_wp2
    go_ret
    exact ⟨ret_bool (by simp [wordB]; omega), Below.refl _ _⟩
  by_cases h2 : (s.size : Int) ≤ b
  case neg =>
    go_enter Tryz.func51, Tryz.ntmps51
    go_wp2
    go_ret
    exact ⟨ret_bool (by simp [wordB, h1]; omega), Below.refl _ _⟩
  have hw : wordB s a b = allP (LB s) s.size := by simp [wordB, h1, h2]
  rw [hw]
  clear hw
  obtain ⟨w1, c, hrun, hb, hz, hcell⟩ := bytes_of (P := Tryz.prog) w 9 100 5 s Tryz.underlying9 Tryz.underlying100 Tryz.underlying5
  have HC := Lib.hid hcell
  clear hcell
  go_enter Tryz.func51, Tryz.ntmps51
  go_wp2
  go_loop [22] (fun i => ∃ k : Nat, k ≤ s.size ∧ i = .int .i64 k ∧ Hid (allP (LB s) k = true)) (fun i => s.size - (intOf i).toNat)
  case atStart => exact ⟨0, Nat.zero_le _, rfl, rfl⟩
  case round =>
    obtain ⟨k, hk, rfl, hall⟩ := hrel
    by_cases hlt : k < s.size
    · have c0 := HC.out k hlt
      have hbd := bat_bd s k
      go_wp2_with fail
      refine (letter_any _ _ hbd.1 hbd.2).mono ?_
      rintro e w' ⟨rfl, rfl⟩
      have hl : LB s k = isL (bat s k) := rfl
      rcases Bool.eq_false_or_eq_true (isL (bat s k)) with hp | hp
      · have hn := Lib.hid (allP_step hall.out (hl.trans hp))
        go_wp2
        go_round
        case rel => exact ⟨k + 1, by omega, by go_num, hn⟩
        case measure => simp [intOf]; omega
      · have hn := Lib.hid (allP_no s.size hlt (hl.trans hp))
        go_wp2
        go_ret
        exact ⟨ret_bool hn.out.symm, hb⟩
    · have e : k = s.size := by omega
      subst e
      go_wp2
      go_ret
      exact ⟨ret_bool hall.out.symm, hb⟩
theorem city_any (s : ByteArray) (w : World) (hs : s.size ≤ 9223372036854775807) :
    Calls Tryz.prog 39 #[.string s] w (RetB w (wordB s 3 3)) := by
  go_enter Tryz.func39, Tryz.ntmps39
  go_wp2_with (go_at_call 51; refine (letters_any _ _ _ _ hs).mono ?_; rintro e w1 ⟨rfl, hb⟩)
  go_ret
  exact ⟨rfl, hb⟩
theorem person_any (s : ByteArray) (w : World) (hs : s.size ≤ 9223372036854775807) :
    Calls Tryz.prog 82 #[.string s] w (RetB w (wordB s 1 16)) := by
  go_enter Tryz.func82, Tryz.ntmps82
  go_wp2_with (go_at_call 51; refine (letters_any _ _ _ _ hs).mono ?_; rintro e w1 ⟨rfl, hb⟩)
  go_ret
  exact ⟨rfl, hb⟩
set_option maxRecDepth 100000 in
set_option maxHeartbeats 400000 in
theorem rletters_any (s : ByteArray) (w : World) (hs : s.size ≤ 9223372036854775807) :
    Calls Tryz.prog 57 #[.string s] w fun e w' => e = .returned (.int .i64 (cntP (LB s) s.size)) ∧ w = w' := by
  go_enter Tryz.func57, Tryz.ntmps57
  go_wp2
  go_loop [3, 4] (fun n i => ∃ k : Nat, k ≤ s.size ∧ i = .int .i64 k ∧ n = .int .i64 (cntP (LB s) k)) (fun _ i => s.size - (intOf i).toNat)
  case atStart => exact ⟨0, Nat.zero_le _, rfl, rfl⟩
  case round =>
    obtain ⟨k, hk, rfl, rfl⟩ := hrel
    by_cases hlt : k < s.size
    · have hbd := cntP_bd (LB s) k
      go_wp2_with fail
      refine (rletter_any _ _).mono ?_
      rintro e w' ⟨rfl, rfl⟩
      have hl : LB s k = isL (bat s k) := rfl
      have hst : cntP (LB s) (k + 1) = cntP (LB s) k + if LB s k then 1 else 0 := rfl
      have HST := Lib.hid hst
      have HL := Lib.hid hl
      clear hst hl
      rcases Bool.eq_false_or_eq_true (isL (bat s k)) with hp | hp
      · go_wp2
        go_round
        case rel => exact ⟨k + 1, by omega, by go_num, by rw [HST.out, HL.out, hp]; rfl⟩
        case measure => simp [intOf]; omega
      · go_wp2
        go_round
        case rel => exact ⟨k + 1, by omega, by go_num, by rw [HST.out, HL.out, hp]; simp⟩
        case measure => simp [intOf]; omega
    · have e : k = s.size := by omega
      subst e
      go_wp2
      go_ret
      exact ⟨rfl, rfl⟩
set_option maxRecDepth 100000 in
set_option maxHeartbeats 400000 in
theorem rmixed_any (s : ByteArray) (a b : Int) (w : World) (hs : s.size ≤ 9223372036854775807) :
    Calls Tryz.prog 55 #[.string s, .int .i64 a, .int .i64 b] w fun e w' => e = .returned (.bool (mixedB s a b)) ∧ w = w' := by
  by_cases h1 : a ≤ s.size
  case neg =>
    go_enter Tryz.func55, Tryz.ntmps55
    go_wp2
    go_ret
    exact ⟨ret_bool (by simp [mixedB]; omega), rfl⟩
  by_cases h2 : (s.size : Int) ≤ b
  case neg =>
    go_enter Tryz.func55, Tryz.ntmps55
    go_wp2
    go_ret
    exact ⟨ret_bool (by simp [mixedB, h1]; omega), rfl⟩
  have hw : mixedB s a b = allP (LDB s) s.size := by simp [mixedB, h1, h2]
  rw [hw]
  clear hw
  go_enter Tryz.func55, Tryz.ntmps55
  go_wp2
  go_loop [7] (fun i => ∃ k : Nat, k ≤ s.size ∧ i = .int .i64 k ∧ Hid (allP (LDB s) k = true)) (fun i => s.size - (intOf i).toNat)
  case atStart => exact ⟨0, Nat.zero_le _, rfl, rfl⟩
  case round =>
    obtain ⟨k, hk, rfl, hall⟩ := hrel
    by_cases hlt : k < s.size
    · have hl := Lib.hid (show LDB s k = (isL (bat s k) || isD (bat s k)) from rfl)
      go_wp2_with fail
      refine (rletter_any _ _).mono ?_
      rintro e w' ⟨rfl, rfl⟩
      rcases Bool.eq_false_or_eq_true (isL (bat s k)) with hp | hp
      · have hn := Lib.hid (allP_step hall.out (by rw [hl.out, hp]; rfl))
        go_wp2
        go_round
        case rel => exact ⟨k + 1, by omega, by go_num, hn⟩
        case measure => simp [intOf]; omega
      · rcases Bool.eq_false_or_eq_true (isD (bat s k)) with hq | hq
        · have hn := Lib.hid (allP_step hall.out (by rw [hl.out, hp, hq]; rfl))
          go_wp2_with (go_at_call 81; refine (rdigit_any _ _).mono ?_; rintro e w' ⟨rfl, rfl⟩)
          go_round
          case rel => exact ⟨k + 1, by omega, by go_num, hn⟩
          case measure => simp [intOf]; omega
        · have hn := Lib.hid (allP_no (P := LDB s) s.size hlt (by rw [hl.out, hp, hq]; rfl))
          go_wp2_with (go_at_call 81; refine (rdigit_any _ _).mono ?_; rintro e w' ⟨rfl, rfl⟩)
          go_ret
          exact ⟨ret_bool hn.out.symm, rfl⟩
    · have e : k = s.size := by omega
      subst e
      go_wp2
      go_ret
      exact ⟨ret_bool hall.out.symm, rfl⟩
/-- The document's way of saying it: so many letters, and all are. -/
theorem word_cnt (s : ByteArray) (a : Int) (h : (s.size : Int) = a) : (cntP (LB s) s.size == a) = wordB s a a := by
  have hc := cntP_all (LB s) s.size
  rw [Bool.eq_iff_iff]
  simp only [wordB, Bool.and_eq_true, decide_eq_true_eq, beq_iff_eq]
  rw [← hc]
  omega
theorem word_no (s : ByteArray) (a : Int) (h : ¬ (s.size : Int) = a) : wordB s a a = false := by
  simp only [wordB]
  by_cases h1 : a ≤ s.size
  · have h2 : ¬ (s.size : Int) ≤ a := by omega
    simp [h2]
  · simp [h1]
theorem person_eq (s : ByteArray) : wordB s 1 16 = (mixedB s 1 16 && (cntP (LB s) s.size == s.size)) := by
  have hc := cntP_all (LB s) s.size
  rw [Bool.eq_iff_iff]
  simp only [wordB, mixedB, Bool.and_eq_true, decide_eq_true_eq, beq_iff_eq]
  rw [hc]
  constructor
  · rintro ⟨h1, h2, h3⟩
    refine ⟨⟨h1, h2, ?_⟩, h3⟩
    have : ∀ n, n ≤ s.size → allP (LDB s) n = true := by
      intro n
      induction n with
      | zero => intro _; rfl
      | succ n ih =>
        intro hn
        refine allP_step (ih (by omega)) ?_
        have := allP_at s.size (show n < s.size by omega) h3
        simp only [LB] at this
        simp [LDB, this]
    exact this _ (Nat.le_refl _)
  · rintro ⟨⟨h1, h2, _⟩, h3⟩
    exact ⟨h1, h2, h3⟩
theorem carrier_eq (s : ByteArray) : carrierB s = (mixedB s 2 2 && decide (0 < cntP (LB s) s.size)) := by
  by_cases h : s.size = 2
  · simp only [carrierB, mixedB, h]
    simp only [allP, cntP, LB, LDB]
    rcases Bool.eq_false_or_eq_true (isL (bat s 0)) with e0 | e0 <;> rcases Bool.eq_false_or_eq_true (isL (bat s 1)) with e1 | e1 <;> rcases Bool.eq_false_or_eq_true (isD (bat s 0)) with e2 | e2 <;> rcases Bool.eq_false_or_eq_true (isD (bat s 1)) with e3 | e3 <;> simp [e0, e1, e2, e3]
  · have h2 : decide (s.size = 2) = false := by simp [h]
    simp only [carrierB, mixedB, h2]
    by_cases h3 : (2 : Int) ≤ s.size
    · have h4 : ¬ (s.size : Int) ≤ 2 := by omega
      simp [h4]
    · simp [h3]

theorem rcity_any (s : ByteArray) (w : World) (hs : s.size ≤ 9223372036854775807) :
    Calls Tryz.prog 46 #[.string s] w fun e w' => e = .returned (.bool (wordB s 3 3)) ∧ w = w' := by
  by_cases h : (s.size : Int) = 3
  · have hw := word_cnt s 3 h
    rw [← hw]
    clear hw
    have h' : ((s.size : Int) == 3) = true := by simp [h]
    have H := Lib.hid h
    clear h
    go_enter Tryz.func46, Tryz.ntmps46
    go_wp2_with (go_at_call 57; refine (rletters_any _ _ hs).mono ?_; rintro e w1 ⟨rfl, rfl⟩)
    go_ret
    exact ⟨rfl, rfl⟩
  · rw [word_no s 3 h]
    have h' : ((s.size : Int) == 3) = false := by simp [h]
    go_enter Tryz.func46, Tryz.ntmps46
    go_wp2
    go_ret
    exact ⟨rfl, rfl⟩
theorem rperson_any (s : ByteArray) (w : World) (hs : s.size ≤ 9223372036854775807) :
    Calls Tryz.prog 91 #[.string s] w fun e w' => e = .returned (.bool (wordB s 1 16)) ∧ w = w' := by
  rw [person_eq]
  rcases Bool.eq_false_or_eq_true (mixedB s 1 16) with hm | hm
  · rw [hm, Bool.true_and]
    go_enter Tryz.func91, Tryz.ntmps91
    go_wp2_with (first | (go_at_call 55; refine (rmixed_any _ _ _ _ hs).mono ?_; rintro e w1 ⟨rfl, rfl⟩) | (go_at_call 57; refine (rletters_any _ _ hs).mono ?_; rintro e w1 ⟨rfl, rfl⟩))
    go_ret
    exact ⟨rfl, rfl⟩
  · rw [hm, Bool.false_and]
    go_enter Tryz.func91, Tryz.ntmps91
    go_wp2_with (go_at_call 55; refine (rmixed_any _ _ _ _ hs).mono ?_; rintro e w1 ⟨rfl, rfl⟩)
    go_ret
    exact ⟨rfl, rfl⟩
theorem rcarrier_any (s : ByteArray) (w : World) (hs : s.size ≤ 9223372036854775807) :
    Calls Tryz.prog 105 #[.string s] w fun e w' => e = .returned (.bool (carrierB s)) ∧ w = w' := by
  rw [carrier_eq]
  rcases Bool.eq_false_or_eq_true (mixedB s 2 2) with hm | hm
  · rw [hm, Bool.true_and]
    go_enter Tryz.func105, Tryz.ntmps105
    go_wp2_with (first | (go_at_call 55; refine (rmixed_any _ _ _ _ hs).mono ?_; rintro e w1 ⟨rfl, rfl⟩) | (go_at_call 57; refine (rletters_any _ _ hs).mono ?_; rintro e w1 ⟨rfl, rfl⟩))
    go_ret
    exact ⟨rfl, rfl⟩
  · rw [hm, Bool.false_and]
    go_enter Tryz.func105, Tryz.ntmps105
    go_wp2_with (go_at_call 55; refine (rmixed_any _ _ _ _ hs).mono ?_; rintro e w1 ⟨rfl, rfl⟩)
    go_ret
    exact ⟨rfl, rfl⟩
set_option maxRecDepth 100000 in
set_option maxHeartbeats 400000 in
theorem carrier_any (s : ByteArray) (w : World) (hs : s.size ≤ 9223372036854775807) :
    Calls Tryz.prog 98 #[.string s] w fun e w' => e = .returned (.bool (carrierB s)) ∧ ∃ n, w' = w.drewN n := by
  by_cases h : s.size = 2
  case neg =>
    have h' : ((s.size : Int) != 2) = true := by simp; omega
    have hc : carrierB s = false := by simp [carrierB, h]
    rw [hc]
    clear hc
    go_enter Tryz.func98, Tryz.ntmps98
    go_wp2
    go_ret
    exact ⟨rfl, 0, rfl⟩
  have h' : ((s.size : Int) != 2) = false := by simp; omega
  have hc : carrierB s = ((isL (bat s 0) && (isL (bat s 1) || isD (bat s 1))) || (isD (bat s 0) && isL (bat s 1))) := by simp [carrierB, h]
  rw [hc]
  clear hc
  have h2 : 0 < s.size := by omega
  have h3 : 1 < s.size := by omega
  have h4 : (0 : Int) < s.size := by omega
  have h5 : (1 : Int) < s.size := by omega
  clear h
  have b0 := bat_bd s 0
  have b1 := bat_bd s 1
  go_enter Tryz.func98, Tryz.ntmps98
  go_wp2
  go_quiet (fail)
  rcases Bool.eq_false_or_eq_true (isL (bat s 0)) with e0 | e0 <;> rcases Bool.eq_false_or_eq_true (isL (bat s 1)) with e1 | e1 <;> rcases Bool.eq_false_or_eq_true (isD (bat s 0)) with e2 | e2 <;> rcases Bool.eq_false_or_eq_true (isD (bat s 1)) with e3 | e3
  all_goals
    go_wp2_with (first | (go_at_call 49; refine (letter_any _ _ (by first | exact b0.1 | exact b1.1) (by first | exact b0.2 | exact b1.2)).mono ?_; rintro e w' ⟨rfl, rfl⟩) | (go_at_call 50; refine (digit_any _ _ (by first | exact b0.1 | exact b1.1) (by first | exact b0.2 | exact b1.2)).mono ?_; rintro e w' ⟨rfl, rfl⟩))
    go_ret
    exact ⟨ret_bool (by simp [e0, e1, e2, e3]), _, rfl⟩
end Go.Proofs.YtpgeoahlhdifoaaGreatDoor
namespace Go.Proofs.YtpgeoahlhdifoaaGreatDoor
set_option linter.unusedVariables false
open Go Go.RowKit
attribute [local go_sem] bat_get
def okc (c : Int) : Bool := isL c || (isD c || (c == 46 || (c == 45 || c == 47)))
def frAt (s : ByteArray) (i : Nat) : Bool := okc (bat s i) || ((bat s i == 32) && (decide (0 < i) && !(bat s (i - 1) == 32)))
def freeB (s : ByteArray) : Bool := decide (1 ≤ s.size) && (decide (s.size ≤ 40) && (allP (frAt s) s.size && !(bat s (s.size - 1) == 32)))
def blk (s : ByteArray) (k : Nat) : Bool := decide (k = 0) || bat s (k - 1) == 32
theorem okc_32 {c : Int} (h : okc c = true) : (c == 32) = false := by
  simp only [okc, isL, isD, Bool.or_eq_true, Bool.and_eq_true, decide_eq_true_eq, beq_iff_eq] at h
  simp; omega
theorem freeB_no {s : ByteArray} {k : Nat} (hk : k < s.size) (h : frAt s k = false) : freeB s = false := by
  simp [freeB, allP_no s.size hk h]
theorem frAt_ok {s : ByteArray} {k : Nat} (h : okc (bat s k) = true) : frAt s k = true := by simp [frAt, h]
theorem frAt_bl {s : ByteArray} {k : Nat} (h : (bat s k == 32) = true) (hb : blk s k = false) : frAt s k = true := by
  simp only [blk, Bool.or_eq_false_iff, decide_eq_false_iff_not] at hb
  simp only [frAt, h, hb.2]
  simp; omega
theorem frAt_no {s : ByteArray} {k : Nat} (h : okc (bat s k) = false) (hb : (bat s k == 32) = false ∨ blk s k = true) : frAt s k = false := by
  rcases hb with hb | hb
  · simp [frAt, h, hb]
  · simp only [blk, Bool.or_eq_true, decide_eq_true_eq] at hb
    simp only [frAt, h]
    rcases hb with hb | hb
    · subst hb; simp
    · simp [hb]
theorem blk_ok {s : ByteArray} {k : Nat} (h : okc (bat s k) = true) : blk s (k + 1) = false := by
  have := okc_32 h
  simp [blk]; simpa using this
theorem blk_bl {s : ByteArray} {k : Nat} (h : (bat s k == 32) = true) : blk s (k + 1) = true := by simp [blk]; simpa using h

set_option maxRecDepth 100000 in
set_option maxHeartbeats 1000000 in
theorem free_any (s : ByteArray) (w : World) (hs : s.size ≤ 9223372036854775807) :
    Calls Tryz.prog 67 #[.string s] w (RetB w (freeB s)) := by
  by_cases h1 : 1 ≤ s.size
  case neg =>
    have h0 : s.size = 0 := by omega
    have hl : s.toList.isEmpty = true := by rw [isEmpty_size]; exact decide_eq_true h0
    have hF : freeB s = false := by simp [freeB, h0]
    rw [hF]
    clear hF h0 h1
    go_enter Tryz.func67, Tryz.ntmps67
    go_wp2
    all_goals go_ret
    all_goals exact ⟨rfl, Below.refl _ _⟩
  have hl : s.toList.isEmpty = false := by rw [isEmpty_size]; exact decide_eq_false (by omega)
  by_cases h2 : s.size ≤ 40
  case neg =>
    have hF : freeB s = false := by simp [freeB, h2]
    rw [hF]
    clear hF
    go_enter Tryz.func67, Tryz.ntmps67
    go_wp2
    go_ret
    exact ⟨rfl, Below.refl _ _⟩
  have hF : freeB s = (allP (frAt s) s.size && !(bat s (s.size - 1) == 32)) := by simp [freeB, h1, h2]
  have HF := Lib.hid hF
  clear hF
  obtain ⟨w1, c, hrun, hb, hz, hcell⟩ := bytes_of (P := Tryz.prog) w 9 100 5 s Tryz.underlying9 Tryz.underlying100 Tryz.underlying5
  have HC := Lib.hid hcell
  clear hcell
  go_enter Tryz.func67, Tryz.ntmps67
  go_wp2
  go_loop [3, 16] (fun b i => ∃ k : Nat, k ≤ s.size ∧ i = .int .i64 k ∧ Hid (allP (frAt s) k = true) ∧ b = .bool (blk s k)) (fun _ i => s.size - (intOf i).toNat)
  case atStart => exact ⟨0, Nat.zero_le _, rfl, rfl, rfl⟩
  case round =>
    obtain ⟨k, hk, rfl, hall, rfl⟩ := hrel
    by_cases hlt : k < s.size
    · have c0 := HC.out k hlt
      have hbd := bat_bd s k
      rcases Bool.eq_false_or_eq_true (isL (bat s k)) with e1 | e1
      · have hok : okc (bat s k) = true := by simp [okc, e1]
        have hn := Lib.hid (allP_step hall.out (frAt_ok hok))
        have hb' := Lib.hid (blk_ok hok)
        have h32 := okc_32 hok
        clear hok
        go_wp2_with (first | (go_at_call 49; refine (letter_any _ _ hbd.1 hbd.2).mono ?_; rintro e w' ⟨rfl, rfl⟩) | (go_at_call 50; refine (digit_any _ _ hbd.1 hbd.2).mono ?_; rintro e w' ⟨rfl, rfl⟩))
        go_round
        case rel => exact ⟨k + 1, by omega, by go_num, hn, by rw [hb'.out]⟩
        case measure => simp [intOf]; omega
      rcases Bool.eq_false_or_eq_true (isD (bat s k)) with e2 | e2
      · have hok : okc (bat s k) = true := by simp [okc, e2]
        have hn := Lib.hid (allP_step hall.out (frAt_ok hok))
        have hb' := Lib.hid (blk_ok hok)
        have h32 := okc_32 hok
        clear hok
        go_wp2_with (first | (go_at_call 49; refine (letter_any _ _ hbd.1 hbd.2).mono ?_; rintro e w' ⟨rfl, rfl⟩) | (go_at_call 50; refine (digit_any _ _ hbd.1 hbd.2).mono ?_; rintro e w' ⟨rfl, rfl⟩))
        go_round
        case rel => exact ⟨k + 1, by omega, by go_num, hn, by rw [hb'.out]⟩
        case measure => simp [intOf]; omega
      rcases Bool.eq_false_or_eq_true (bat s k == 46) with e3 | e3
      · have hok : okc (bat s k) = true := by simp [okc, e3]
        have hn := Lib.hid (allP_step hall.out (frAt_ok hok))
        have hb' := Lib.hid (blk_ok hok)
        have h32 := okc_32 hok
        clear hok
        go_wp2_with (first | (go_at_call 49; refine (letter_any _ _ hbd.1 hbd.2).mono ?_; rintro e w' ⟨rfl, rfl⟩) | (go_at_call 50; refine (digit_any _ _ hbd.1 hbd.2).mono ?_; rintro e w' ⟨rfl, rfl⟩))
        go_round
        case rel => exact ⟨k + 1, by omega, by go_num, hn, by rw [hb'.out]⟩
        case measure => simp [intOf]; omega
      rcases Bool.eq_false_or_eq_true (bat s k == 45) with e4 | e4
      · have hok : okc (bat s k) = true := by simp [okc, e4]
        have hn := Lib.hid (allP_step hall.out (frAt_ok hok))
        have hb' := Lib.hid (blk_ok hok)
        have h32 := okc_32 hok
        clear hok
        go_wp2_with (first | (go_at_call 49; refine (letter_any _ _ hbd.1 hbd.2).mono ?_; rintro e w' ⟨rfl, rfl⟩) | (go_at_call 50; refine (digit_any _ _ hbd.1 hbd.2).mono ?_; rintro e w' ⟨rfl, rfl⟩))
        go_round
        case rel => exact ⟨k + 1, by omega, by go_num, hn, by rw [hb'.out]⟩
        case measure => simp [intOf]; omega
      rcases Bool.eq_false_or_eq_true (bat s k == 47) with e5 | e5
      · have hok : okc (bat s k) = true := by simp [okc, e5]
        have hn := Lib.hid (allP_step hall.out (frAt_ok hok))
        have hb' := Lib.hid (blk_ok hok)
        have h32 := okc_32 hok
        clear hok
        go_wp2_with (first | (go_at_call 49; refine (letter_any _ _ hbd.1 hbd.2).mono ?_; rintro e w' ⟨rfl, rfl⟩) | (go_at_call 50; refine (digit_any _ _ hbd.1 hbd.2).mono ?_; rintro e w' ⟨rfl, rfl⟩))
        go_round
        case rel => exact ⟨k + 1, by omega, by go_num, hn, by rw [hb'.out]⟩
        case measure => simp [intOf]; omega
      have hno : okc (bat s k) = false := by simp [okc, e1, e2, e3, e4, e5]
      rcases Bool.eq_false_or_eq_true (bat s k == 32) with e6 | e6
      · rcases Bool.eq_false_or_eq_true (blk s k) with e7 | e7
        · have hn := Lib.hid (freeB_no hlt (frAt_no hno (.inr e7)))
          clear hno
          go_wp2_with (first | (go_at_call 49; refine (letter_any _ _ hbd.1 hbd.2).mono ?_; rintro e w' ⟨rfl, rfl⟩) | (go_at_call 50; refine (digit_any _ _ hbd.1 hbd.2).mono ?_; rintro e w' ⟨rfl, rfl⟩))
          go_ret
          exact ⟨ret_bool hn.out.symm, hb⟩
        · have hn := Lib.hid (allP_step hall.out (frAt_bl e6 e7))
          have hb' := Lib.hid (blk_bl e6)
          clear hno
          go_wp2_with (first | (go_at_call 49; refine (letter_any _ _ hbd.1 hbd.2).mono ?_; rintro e w' ⟨rfl, rfl⟩) | (go_at_call 50; refine (digit_any _ _ hbd.1 hbd.2).mono ?_; rintro e w' ⟨rfl, rfl⟩))
          go_round
          case rel => exact ⟨k + 1, by omega, by go_num, hn, by rw [hb'.out]⟩
          case measure => simp [intOf]; omega
      · have hn := Lib.hid (freeB_no hlt (frAt_no hno (.inl e6)))
        clear hno
        go_wp2_with (first | (go_at_call 49; refine (letter_any _ _ hbd.1 hbd.2).mono ?_; rintro e w' ⟨rfl, rfl⟩) | (go_at_call 50; refine (digit_any _ _ hbd.1 hbd.2).mono ?_; rintro e w' ⟨rfl, rfl⟩))
        go_ret
        exact ⟨ret_bool hn.out.symm, hb⟩
    · have e : k = s.size := by omega
      subst e
      have hfin := Lib.hid (show (!(blk s s.size)) = freeB s by rw [HF.out, hall.out, blk, show decide (s.size = 0) = false from decide_eq_false (by omega), Bool.false_or, Bool.true_and])
      go_wp2
      go_ret
      exact ⟨ret_bool hfin.out, hb⟩
set_option maxRecDepth 100000 in
set_option maxHeartbeats 1000000 in
theorem rfree_any (s : ByteArray) (w : World) (hs : s.size ≤ 9223372036854775807) :
    Calls Tryz.prog 94 #[.string s] w fun e w' => e = .returned (.bool (freeB s)) ∧ w = w' := by
  by_cases h1 : 1 ≤ s.size
  case neg =>
    have hF : freeB s = false := by simp [freeB, h1]
    rw [hF]
    clear hF
    go_enter Tryz.func94, Tryz.ntmps94
    go_wp2
    go_ret
    exact ⟨rfl, rfl⟩
  by_cases h2 : s.size ≤ 40
  case neg =>
    have hF : freeB s = false := by simp [freeB, h2]
    rw [hF]
    clear hF
    go_enter Tryz.func94, Tryz.ntmps94
    go_wp2
    go_ret
    exact ⟨rfl, rfl⟩
  have h3 : 0 < s.size := by omega
  have h4 : s.size - 1 < s.size := by omega
  rcases Bool.eq_false_or_eq_true (bat s 0 == 32) with e0 | e0
  · have hF : freeB s = false := freeB_no h3 (by simp only [frAt, e0]; simp; exact (by
      cases hx : okc (bat s 0) with
      | false => rfl
      | true => have := okc_32 hx; rw [this] at e0; cases e0))
    rw [hF]
    clear hF
    go_enter Tryz.func94, Tryz.ntmps94
    go_wp2
    go_ret
    exact ⟨rfl, rfl⟩
  rcases Bool.eq_false_or_eq_true (bat s (s.size - 1) == 32) with e1 | e1
  · have hF : freeB s = false := by simp [freeB, e1]
    rw [hF]
    clear hF
    go_enter Tryz.func94, Tryz.ntmps94
    go_wp2
    go_ret
    exact ⟨rfl, rfl⟩
  have hF : freeB s = allP (frAt s) s.size := by simp [freeB, h1, h2, e1]
  have HF := Lib.hid hF
  clear hF
  go_enter Tryz.func94, Tryz.ntmps94
  go_wp2
  go_loop [3] (fun i => ∃ k : Nat, k ≤ s.size ∧ i = .int .i64 k ∧ Hid (allP (frAt s) k = true)) (fun i => s.size - (intOf i).toNat)
  case atStart => exact ⟨0, Nat.zero_le _, rfl, rfl⟩
  case round =>
    obtain ⟨k, hk, rfl, hall⟩ := hrel
    by_cases hlt : k < s.size
    · have hbd := bat_bd s k
      rcases Bool.eq_false_or_eq_true (bat s k == 32) with e6 | e6
      · have hk0 : k ≠ 0 := by rintro rfl; rw [e6] at e0; cases e0
        have E6 := Lib.hid e6
        have m6 : (bat s k != 32) = false := by rw [bne, e6]; rfl
        have hno : okc (bat s k) = false := by
          cases hx : okc (bat s k) with
          | false => rfl
          | true => have := okc_32 hx; rw [this] at e6; cases e6
        have hc : bat s k = 32 := by simpa using e6
        have n1 : isL (bat s k) = false := by rw [hc]; rfl
        have n2 : isD (bat s k) = false := by rw [hc]; rfl
        have HNO := Lib.hid hno
        clear hno hc
        obtain ⟨j, rfl⟩ : ∃ j, k = j + 1 := ⟨k - 1, by omega⟩
        have hj : j < s.size := by omega
        rcases Bool.eq_false_or_eq_true (bat s j == 32) with e7 | e7
        · have hn := Lib.hid (freeB_no hlt (frAt_no HNO.out (.inr (by simp [blk]; simpa using e7))))
          go_wp2_with (first | (go_at_call 56; refine (rletter_any _ _).mono ?_; rintro e w' ⟨rfl, rfl⟩) | (go_at_call 81; refine (rdigit_any _ _).mono ?_; rintro e w' ⟨rfl, rfl⟩))
          go_ret
          exact ⟨ret_bool hn.out.symm, rfl⟩
        · have hn := Lib.hid (allP_step hall.out (frAt_bl E6.out (by simp [blk]; simpa using e7)))
          go_wp2_with (first | (go_at_call 56; refine (rletter_any _ _).mono ?_; rintro e w' ⟨rfl, rfl⟩) | (go_at_call 81; refine (rdigit_any _ _).mono ?_; rintro e w' ⟨rfl, rfl⟩))
          go_round
          case rel => exact ⟨j + 1 + 1, by omega, by go_num, hn⟩
          case measure => simp [intOf]; omega
      have m6 : (bat s k != 32) = true := by rw [bne, e6]; rfl
      rcases Bool.eq_false_or_eq_true (isL (bat s k)) with e1 | e1
      · have hn := Lib.hid (allP_step hall.out (frAt_ok (by simp [okc, e1])))
        go_wp2_with (first | (go_at_call 56; refine (rletter_any _ _).mono ?_; rintro e w' ⟨rfl, rfl⟩) | (go_at_call 81; refine (rdigit_any _ _).mono ?_; rintro e w' ⟨rfl, rfl⟩))
        go_round
        case rel => exact ⟨k + 1, by omega, by go_num, hn⟩
        case measure => simp [intOf]; omega
      rcases Bool.eq_false_or_eq_true (isD (bat s k)) with e2 | e2
      · have hn := Lib.hid (allP_step hall.out (frAt_ok (by simp [okc, e2])))
        go_wp2_with (first | (go_at_call 56; refine (rletter_any _ _).mono ?_; rintro e w' ⟨rfl, rfl⟩) | (go_at_call 81; refine (rdigit_any _ _).mono ?_; rintro e w' ⟨rfl, rfl⟩))
        go_round
        case rel => exact ⟨k + 1, by omega, by go_num, hn⟩
        case measure => simp [intOf]; omega
      rcases Bool.eq_false_or_eq_true (bat s k == 46) with e3 | e3
      · have hn := Lib.hid (allP_step hall.out (frAt_ok (by simp [okc, e3])))
        have m3 : (bat s k != 46) = false := by rw [bne, e3]; rfl
        go_wp2_with (first | (go_at_call 56; refine (rletter_any _ _).mono ?_; rintro e w' ⟨rfl, rfl⟩) | (go_at_call 81; refine (rdigit_any _ _).mono ?_; rintro e w' ⟨rfl, rfl⟩))
        go_round
        case rel => exact ⟨k + 1, by omega, by go_num, hn⟩
        case measure => simp [intOf]; omega
      have m3 : (bat s k != 46) = true := by rw [bne, e3]; rfl
      rcases Bool.eq_false_or_eq_true (bat s k == 45) with e4 | e4
      · have hn := Lib.hid (allP_step hall.out (frAt_ok (by simp [okc, e4])))
        have m4 : (bat s k != 45) = false := by rw [bne, e4]; rfl
        go_wp2_with (first | (go_at_call 56; refine (rletter_any _ _).mono ?_; rintro e w' ⟨rfl, rfl⟩) | (go_at_call 81; refine (rdigit_any _ _).mono ?_; rintro e w' ⟨rfl, rfl⟩))
        go_round
        case rel => exact ⟨k + 1, by omega, by go_num, hn⟩
        case measure => simp [intOf]; omega
      have m4 : (bat s k != 45) = true := by rw [bne, e4]; rfl
      rcases Bool.eq_false_or_eq_true (bat s k == 47) with e5 | e5
      · have hn := Lib.hid (allP_step hall.out (frAt_ok (by simp [okc, e5])))
        have m5 : (bat s k != 47) = false := by rw [bne, e5]; rfl
        go_wp2_with (first | (go_at_call 56; refine (rletter_any _ _).mono ?_; rintro e w' ⟨rfl, rfl⟩) | (go_at_call 81; refine (rdigit_any _ _).mono ?_; rintro e w' ⟨rfl, rfl⟩))
        go_round
        case rel => exact ⟨k + 1, by omega, by go_num, hn⟩
        case measure => simp [intOf]; omega
      have m5 : (bat s k != 47) = true := by rw [bne, e5]; rfl
      have hn := Lib.hid (freeB_no hlt (frAt_no (by simp [okc, e1, e2, e3, e4, e5]) (.inl e6)))
      go_wp2_with (first | (go_at_call 56; refine (rletter_any _ _).mono ?_; rintro e w' ⟨rfl, rfl⟩) | (go_at_call 81; refine (rdigit_any _ _).mono ?_; rintro e w' ⟨rfl, rfl⟩))
      go_ret
      exact ⟨ret_bool hn.out.symm, rfl⟩
    · have e : k = s.size := by omega
      subst e
      go_wp2
      go_ret
      exact ⟨ret_bool (by rw [HF.out, hall.out]), rfl⟩
end Go.Proofs.YtpgeoahlhdifoaaGreatDoor
namespace Go.Proofs.YtpgeoahlhdifoaaGreatDoor
set_option linter.unusedVariables false
open Go Go.RowKit
def dayB (d : Int) : Bool := decide (0 ≤ d) && decide (d < 366)
def wkd (d : Int) : Int := if dayB d then d % 7 + 1 else 0
theorem wkd_yes {d : Int} (h : dayB d = true) : 1 ≤ wkd d ∧ wkd d ≤ 7 := by
  simp only [dayB, Bool.and_eq_true, decide_eq_true_eq] at h
  have : dayB d = true := by simp [dayB, h]
  simp only [wkd, this, if_true]; omega
theorem wkd_no {d : Int} (h : dayB d = false) : wkd d = 0 := by simp [wkd, h]
def momB (d m : Int) : Bool := dayB d && (decide (0 ≤ m) && decide (m < 1440))
theorem weekday_any (d : Int) (w : World) :
    Calls Tryz.prog 99 #[.int .i64 d] w fun e w' => e = .returned (.int .i64 (wkd d)) ∧ w = w' := by
  by_cases h1 : 0 ≤ d
  · by_cases h2 : d < 366
    · have hw : wkd d = d % 7 + 1 := by simp [wkd, dayB, h1, h2]
      rw [hw]
      clear hw
      go_enter Tryz.func99, Tryz.ntmps99
      go_wp2
      go_ret
      exact ⟨rfl, rfl⟩
    · have hw : wkd d = 0 := by simp [wkd, dayB, h2]
      rw [hw]
      clear hw
      go_enter Tryz.func99, Tryz.ntmps99
      go_wp2
      go_ret
      exact ⟨rfl, rfl⟩
  · have hw : wkd d = 0 := by simp [wkd, dayB, h1]
    rw [hw]
    clear hw
    go_enter Tryz.func99, Tryz.ntmps99
    go_wp2
    go_ret
    exact ⟨rfl, rfl⟩
def joinV (d m : Int) : Value := if momB d m then .tuple #[.int .i64 (d * 1440 + m), .int .i64 0] else .tuple #[.int .i64 0, .int .i64 1]
set_option maxRecDepth 100000 in
theorem join_any (d m : Int) (w : World) :
    Calls Tryz.prog 84 #[.int .i64 d, .int .i64 m] w fun e w' => e = .returned (joinV d m) ∧ w = w' := by
  by_cases h1 : 0 ≤ d
  case neg =>
    have hv : joinV d m = .tuple #[.int .i64 0, .int .i64 1] := by simp [joinV, momB, dayB, h1]
    rw [hv]
    clear hv
    go_enter Tryz.func84, Tryz.ntmps84
    go_wp2
    go_ret2
    exact ⟨rfl, rfl⟩
  by_cases h2 : d < 366
  case neg =>
    have hv : joinV d m = .tuple #[.int .i64 0, .int .i64 1] := by simp [joinV, momB, dayB, h2]
    rw [hv]
    clear hv
    go_enter Tryz.func84, Tryz.ntmps84
    go_wp2
    go_ret2
    exact ⟨rfl, rfl⟩
  by_cases h3 : 0 ≤ m
  case neg =>
    have hv : joinV d m = .tuple #[.int .i64 0, .int .i64 1] := by simp [joinV, momB, dayB, h3]
    rw [hv]
    clear hv
    go_enter Tryz.func84, Tryz.ntmps84
    go_wp2
    go_ret2
    exact ⟨rfl, rfl⟩
  by_cases h4 : m < 1440
  case neg =>
    have hv : joinV d m = .tuple #[.int .i64 0, .int .i64 1] := by simp [joinV, momB, dayB, h4]
    rw [hv]
    clear hv
    go_enter Tryz.func84, Tryz.ntmps84
    go_wp2
    go_ret2
    exact ⟨rfl, rfl⟩
  have hv : joinV d m = .tuple #[.int .i64 (d * 1440 + m), .int .i64 0] := by simp [joinV, momB, dayB, h1, h2, h3, h4]
  rw [hv]
  clear hv
  go_enter Tryz.func84, Tryz.ntmps84
  go_wp2
  go_ret2
  exact ⟨rfl, rfl⟩
set_option maxRecDepth 100000 in
theorem rjoin_any (d m : Int) (w : World) :
    Calls Tryz.prog 96 #[.int .i64 d, .int .i64 m] w fun e w' => e = .returned (joinV d m) ∧ w = w' := by
  by_cases h1 : 0 ≤ d
  case neg =>
    have hv : joinV d m = .tuple #[.int .i64 0, .int .i64 1] := by simp [joinV, momB, dayB, h1]
    rw [hv]
    clear hv
    go_enter Tryz.func96, Tryz.ntmps96
    go_wp2
    go_ret2
    exact ⟨rfl, rfl⟩
  by_cases h2 : d < 366
  case neg =>
    have hv : joinV d m = .tuple #[.int .i64 0, .int .i64 1] := by simp [joinV, momB, dayB, h2]
    rw [hv]
    clear hv
    go_enter Tryz.func96, Tryz.ntmps96
    go_wp2
    go_ret2
    exact ⟨rfl, rfl⟩
  by_cases h3 : 0 ≤ m
  case neg =>
    have hv : joinV d m = .tuple #[.int .i64 0, .int .i64 1] := by simp [joinV, momB, dayB, h3]
    rw [hv]
    clear hv
    go_enter Tryz.func96, Tryz.ntmps96
    go_wp2
    go_ret2
    exact ⟨rfl, rfl⟩
  by_cases h4 : m < 1440
  case neg =>
    have hv : joinV d m = .tuple #[.int .i64 0, .int .i64 1] := by simp [joinV, momB, dayB, h4]
    rw [hv]
    clear hv
    go_enter Tryz.func96, Tryz.ntmps96
    go_wp2
    go_ret2
    exact ⟨rfl, rfl⟩
  have hv : joinV d m = .tuple #[.int .i64 (d * 1440 + m), .int .i64 0] := by simp [joinV, momB, dayB, h1, h2, h3, h4]
  rw [hv]
  clear hv
  go_enter Tryz.func96, Tryz.ntmps96
  go_wp2
  go_ret2
  exact ⟨rfl, rfl⟩
end Go.Proofs.YtpgeoahlhdifoaaGreatDoor
