/- Who is an agent: the program's answer. -/
import Derived.Test.YtggomjfllbljeaaGreatDoorFCode
namespace Go.Proofs.YtggomjfllbljeaaGreatDoor
set_option linter.unusedVariables false
open Go Go.RowKit
attribute [local go_sem] bat_get
def AD (s : ByteArray) (i : Nat) : Bool := isL (bat s i) || isD (bat s i)
def rest1 (s : ByteArray) : ByteArray := s.extract 1 s.size
def agentB (s : ByteArray) : Bool := decide (2 ≤ s.size) && (decide (s.size ≤ 6) && (isL (bat s 0) && allP (AD (rest1 s)) (rest1 s).size))
set_option maxRecDepth 100000 in
set_option maxHeartbeats 1000000 in
theorem agent_any (s : ByteArray) (w : World) (hs : s.size ≤ 9223372036854775807) :
    Calls Tryz.prog 197 #[.string s] w (RetB w (agentB s)) := by
  by_cases h1 : 2 ≤ s.size
  case neg =>
    go_enter Tryz.func197, Tryz.ntmps197
    go_wp2
    go_ret
    exact ⟨ret_bool (by simp [agentB, h1]), Below.refl _ _⟩
  by_cases h2 : s.size ≤ 6
  case neg =>
    go_enter Tryz.func197, Tryz.ntmps197
    go_wp2
    go_ret
    exact ⟨ret_bool (by simp [agentB, h1, h2]), Below.refl _ _⟩
  have hbd0 := bat_bd s 0
  have h0 : 0 < s.size := by omega
  rcases Bool.eq_false_or_eq_true (isL (bat s 0)) with hp | hp
  case inr =>
    go_enter Tryz.func197, Tryz.ntmps197
    go_wp2_with fail
    refine (letter_any _ _ hbd0.1 hbd0.2).mono ?_
    rintro e w' ⟨rfl, rfl⟩
    rw [hp]
    go_wp2
    go_ret
    exact ⟨ret_bool (by simp [agentB, h1, h2, hp]), Below.refl _ _⟩
  have hw : agentB s = allP (AD (rest1 s)) (rest1 s).size := by simp [agentB, h1, h2, hp]
  rw [hw]
  have hsz : (rest1 s).size ≤ 9223372036854775807 := by simp [rest1]; omega
  obtain ⟨w1, c, hrun, hb, hz, hcell⟩ := bytes_of (P := Tryz.prog) w 9 57 5 (rest1 s) Tryz.underlying9 Tryz.underlying57 Tryz.underlying5
  have HC := Lib.hid hcell
  clear hcell hw
  go_enter Tryz.func197, Tryz.ntmps197
  go_wp2_with fail
  refine (letter_any _ _ hbd0.1 hbd0.2).mono ?_
  rintro e w' ⟨rfl, rfl⟩
  rw [hp]
  have hr1 : s.extract 1 s.size = rest1 s := rfl
  go_wp2
  go_loop [4, 23] (fun _ i => ∃ k : Nat, k ≤ (rest1 s).size ∧ i = .int .i64 k ∧ Hid (allP (AD (rest1 s)) k = true)) (fun _ i => (rest1 s).size - (intOf i).toNat)
  case atStart => exact ⟨0, Nat.zero_le _, rfl, rfl⟩
  case round =>
    obtain ⟨k, hk, rfl, hall⟩ := hrel
    by_cases hlt : k < (rest1 s).size
    · have c0 := HC.out k hlt
      have hbd := bat_bd (rest1 s) k
      have hl : AD (rest1 s) k = (isL (bat (rest1 s) k) || isD (bat (rest1 s) k)) := rfl
      go_wp2_with fail
      refine (letter_any _ _ hbd.1 hbd.2).mono ?_
      rintro e w' ⟨rfl, rfl⟩
      rcases Bool.eq_false_or_eq_true (isL (bat (rest1 s) k)) with hp1 | hp1
      · have hn := Lib.hid (allP_step hall.out (hl.trans (by rw [hp1]; rfl)))
        rw [hp1]
        clear hl
        go_wp2
        go_round
        case rel => exact ⟨k + 1, by omega, by go_num, hn⟩
        case measure => simp [intOf]; omega
      · rw [hp1]
        go_wp2_with fail
        refine (digit_any _ _ hbd.1 hbd.2).mono ?_
        rintro e w' ⟨rfl, rfl⟩
        rcases Bool.eq_false_or_eq_true (isD (bat (rest1 s) k)) with hp2 | hp2
        · have hn := Lib.hid (allP_step hall.out (hl.trans (by rw [hp2]; simp)))
          rw [hp2]
          clear hl
          go_wp2
          go_round
          case rel => exact ⟨k + 1, by omega, by go_num, hn⟩
          case measure => simp [intOf]; omega
        · have hn := Lib.hid (allP_no (rest1 s).size hlt (hl.trans (by rw [hp1, hp2]; rfl)))
          rw [hp2]
          clear hl
          go_wp2
          go_ret
          exact ⟨ret_bool hn.out.symm, hb⟩
    · have e : k = (rest1 s).size := by omega
      subst e
      go_wp2
      go_ret
      exact ⟨ret_bool hall.out.symm, hb⟩
end Go.Proofs.YtggomjfllbljeaaGreatDoor
