/- A seat's text: empty just where it is none: the program's answer and the document's. -/
import Derived.Test.YtpgeoahlhdifoaaGreatDoorMCode
import Derived.Deep.RegionHeld3
import Derived.Deep.DrawnRows
import Derived.Deep.RegionWith
namespace Go.Proofs.YtpgeoahlhdifoaaGreatDoor
set_option linter.unusedVariables false
open Go Go.RowKit
attribute [local go_sem ↓] Go.wp_at_zero Go.wp_at_succ
def seatB (r l : Int) : Bool := decide (1 ≤ r) && (decide (r ≤ 99) && isL l)
theorem append_one_ne (t : ByteArray) (x : UInt8) : (t ++ ⟨#[x]⟩).toList.isEmpty = !true := by
  rw [isEmpty_size, ByteArray.size_append]
  exact decide_eq_false (by have : (⟨#[x]⟩ : ByteArray).size = 1 := rfl; omega)
theorem one_append_ne (t : ByteArray) (x : UInt8) : (⟨#[x]⟩ ++ t).size = t.size + 1 := by
  rw [ByteArray.size_append]
  have : (⟨#[x]⟩ : ByteArray).size = 1 := rfl
  omega
/-- Some text, which is empty or not. -/
def TextR (w : World) (b : Bool) (e : Ending) (w' : World) : Prop := ∃ t : ByteArray, e = .returned (.string t) ∧ t.toList.isEmpty = !b ∧ Below w.heap.size w w'
def Short (w : World) (n : Nat) (e : Ending) (w' : World) : Prop := ∃ t : ByteArray, e = .returned (.string t) ∧ t.size ≤ n ∧ w = w'
set_option maxRecDepth 100000 in
set_option maxHeartbeats 400000 in
theorem small_any' (n : Int) (w : World) (h0 : 1 ≤ n) (h1 : n ≤ 99) :
    Calls Tryz.prog 112 #[.int .i64 n] w (Short w 2) := by
  by_cases h : n < 10
  · go_enter Tryz.func112, Tryz.ntmps112
    go_wp2
    go_ret
    exact ⟨_, rfl, by simp [ByteArray.size_extract]; omega, rfl⟩
  · go_enter Tryz.func112, Tryz.ntmps112
    go_wp2
    go_ret
    exact ⟨_, rfl, by simp [ByteArray.size_extract]; omega, rfl⟩
set_option maxRecDepth 100000 in
set_option maxHeartbeats 400000 in
theorem itoa_any (n : Int) (w : World) (h0 : 1 ≤ n) (h1 : n ≤ 99) :
    Calls Tryz.prog 101 #[.int .i64 n] w (Short w 2) := by
  go_enter Tryz.func101, Tryz.ntmps101
  go_wp2_with (first | (go_at_call 112; refine (small_any' _ _ h0 h1).mono ?_; rintro e w' ⟨t, rfl, ht, rfl⟩) | go_in)
  go_ret
  exact ⟨t, rfl, ht, rfl⟩
set_option maxRecDepth 100000 in
set_option maxHeartbeats 400000 in
theorem ptext_any (r l : Int) (w : World) (hl0 : 0 ≤ l) (hl1 : l ≤ 255) :
    Calls Tryz.prog 86 #[.agg #[.int .i64 r, .int .u8 l]] w (TextR w (seatB r l)) := by
  by_cases h1 : 1 ≤ r
  case neg =>
    rw [show seatB r l = false by simp [seatB, h1]]
    go_enter Tryz.func86, Tryz.ntmps86
    go_wp2
    go_ret
    exact ⟨_, rfl, by simp, by (repeat (first | with_reducible exact Below.refl _ _ | (with_reducible refine Below.drew ?_) | (with_reducible refine below_drewN ?_ _) | (with_reducible refine Below.alloc ?_ (by first | (simp; done) | omega | (simp; omega)) _) | (with_reducible refine Below.setCell ?_ (by first | (simp; done) | omega | (simp; omega)) _) | with_reducible assumption))⟩
  by_cases h2 : r ≤ 99
  case neg =>
    rw [show seatB r l = false by simp [seatB, h2]]
    go_enter Tryz.func86, Tryz.ntmps86
    go_wp2
    go_ret
    exact ⟨_, rfl, by simp, by (repeat (first | with_reducible exact Below.refl _ _ | (with_reducible refine Below.drew ?_) | (with_reducible refine below_drewN ?_ _) | (with_reducible refine Below.alloc ?_ (by first | (simp; done) | omega | (simp; omega)) _) | (with_reducible refine Below.setCell ?_ (by first | (simp; done) | omega | (simp; omega)) _) | with_reducible assumption))⟩
  have hiL : (decide (25 < (l - 65) % 256)) = !(isL l) := by
    unfold isL
    rw [Bool.eq_iff_iff]; simp; omega
  have HI := Lib.hid hiL
  clear hiL
  by_cases h3 : 25 < (l - 65) % 256
  · rw [show seatB r l = false by have := HI.out; simp only [h3] at this; simp [seatB]; intro _ _; simpa using this.symm]
    go_enter Tryz.func86, Tryz.ntmps86
    go_wp2
    go_ret
    exact ⟨_, rfl, by simp, by (repeat (first | with_reducible exact Below.refl _ _ | (with_reducible refine Below.drew ?_) | (with_reducible refine below_drewN ?_ _) | (with_reducible refine Below.alloc ?_ (by first | (simp; done) | omega | (simp; omega)) _) | (with_reducible refine Below.setCell ?_ (by first | (simp; done) | omega | (simp; omega)) _) | with_reducible assumption))⟩
  rw [show seatB r l = true by have := HI.out; simp only [h3] at this; simp [seatB, h1, h2]; simpa using this.symm]
  have hcv := fun W => one_byte (P := Tryz.prog) W 100 9 5 (w.heap.size + 1) l hl0 hl1 Tryz.underlying100 Tryz.underlying5 Tryz.underlying9
  go_enter Tryz.func86, Tryz.ntmps86
  go_wp2
  go_region_with (first | (go_at_call 101; refine (itoa_any _ _ h1 h2).mono ?_; rintro e w1 ⟨t, rfl, ht, rfl⟩))
  all_goals
    go_wp2
    go_ret
    exact ⟨_, rfl, append_one_ne _ _, by (repeat (first | with_reducible exact Below.refl _ _ | (with_reducible refine Below.drew ?_) | (with_reducible refine below_drewN ?_ _) | (with_reducible refine Below.alloc ?_ (by first | (simp; done) | omega | (simp; omega)) _) | (with_reducible refine Below.setCell ?_ (by first | (simp; done) | omega | (simp; omega)) _) | with_reducible assumption))⟩
/-- Some text of at most n bytes, new memory at most. -/
def ShortB (w : World) (n : Nat) (e : Ending) (w' : World) : Prop := ∃ t : ByteArray, e = .returned (.string t) ∧ t.size ≤ n ∧ Below w.heap.size w w'
set_option maxRecDepth 100000 in
set_option maxHeartbeats 400000 in
theorem digits_any (n : Int) (w : World) (h0 : 1 ≤ n) (h1 : n ≤ 99) :
    Calls Tryz.prog 107 #[.int .i64 n] w (ShortB w 2) := by
  go_enter Tryz.func107, Tryz.ntmps107
  go_wp2
  go_loopw [0, 3] (fun a s wr => ∃ (m : Int) (t : ByteArray), a = .int .i64 m ∧ s = .string t ∧ 0 ≤ m ∧ ((m ≤ 99 ∧ t.size = 0) ∨ (m ≤ 9 ∧ t.size ≤ 1)) ∧ Below w.heap.size w wr) (fun a _ _ => (intOf a).toNat)
  case atStart => exact ⟨n, ⟨#[]⟩, rfl, rfl, by omega, .inl ⟨h1, rfl⟩, Below.refl _ _⟩
  case round =>
    obtain ⟨m, t, rfl, rfl, hm0, hor, hbel⟩ := hrel
    have hz := hbel.size
    by_cases hm : 9 < m
    · have ht : t.size = 0 := by omega
      have hm9 : m ≤ 99 := by omega
      have HT := Lib.hid ht
      clear ht hor
      have hcv := fun W => one_byte (P := Tryz.prog) W 100 9 5 wr.heap.size (48 + m % 10) (by omega) (by omega) Tryz.underlying100 Tryz.underlying5 Tryz.underlying9
      have hts : t.size ≤ 1 := by rw [HT.out]; omega
      go_wp2
      go_roundw
      case rel => exact ⟨_, _, rfl, rfl, by omega, .inr ⟨by omega, by rw [one_append_ne, HT.out]; omega⟩, by (repeat (first | with_reducible exact Below.refl _ _ | (with_reducible refine Below.drew ?_) | (with_reducible refine below_drewN ?_ _) | (with_reducible refine Below.alloc ?_ (by first | (simp; done) | omega | (simp; omega)) _) | (with_reducible refine Below.setCell ?_ (by first | (simp; done) | omega | (simp; omega)) _) | with_reducible assumption)) ⟩
      case measure => simp [intOf]; omega
    · have hts : t.size ≤ 1 := by omega
      have hcv := fun W => one_byte (P := Tryz.prog) W 100 9 5 wr.heap.size (48 + m) (by omega) (by omega) Tryz.underlying100 Tryz.underlying5 Tryz.underlying9
      clear hor
      go_wp2
      go_ret
      exact ⟨_, rfl, by rw [one_append_ne]; omega, by (repeat (first | with_reducible exact Below.refl _ _ | (with_reducible refine Below.drew ?_) | (with_reducible refine below_drewN ?_ _) | (with_reducible refine Below.alloc ?_ (by first | (simp; done) | omega | (simp; omega)) _) | (with_reducible refine Below.setCell ?_ (by first | (simp; done) | omega | (simp; omega)) _) | with_reducible assumption))⟩
set_option maxRecDepth 100000 in
set_option maxHeartbeats 1000000 in
theorem rtext_any (r l : Int) (w : World) (hl0 : 0 ≤ l) (hl1 : l ≤ 255) :
    Calls Tryz.prog 97 #[.agg #[.int .i64 r, .int .u8 l]] w (TextR w (seatB r l)) := by
  by_cases h1 : 1 ≤ r
  case neg =>
    rw [show seatB r l = false by simp [seatB, h1]]
    go_enter Tryz.func97, Tryz.ntmps97
    go_wp2
    go_ret
    exact ⟨_, rfl, by simp, by (repeat (first | with_reducible exact Below.refl _ _ | (with_reducible refine Below.drew ?_) | (with_reducible refine below_drewN ?_ _) | (with_reducible refine Below.alloc ?_ (by first | (simp; done) | omega | (simp; omega)) _) | (with_reducible refine Below.setCell ?_ (by first | (simp; done) | omega | (simp; omega)) _) | with_reducible assumption))⟩
  by_cases h2 : r ≤ 99
  case neg =>
    rw [show seatB r l = false by simp [seatB, h2]]
    go_enter Tryz.func97, Tryz.ntmps97
    go_wp2
    go_ret
    exact ⟨_, rfl, by simp, by (repeat (first | with_reducible exact Below.refl _ _ | (with_reducible refine Below.drew ?_) | (with_reducible refine below_drewN ?_ _) | (with_reducible refine Below.alloc ?_ (by first | (simp; done) | omega | (simp; omega)) _) | (with_reducible refine Below.setCell ?_ (by first | (simp; done) | omega | (simp; omega)) _) | with_reducible assumption))⟩
  rcases Bool.eq_false_or_eq_true (isL l) with h3 | h3
  case inr =>
    rw [show seatB r l = false by simp [seatB, h3]]
    go_enter Tryz.func97, Tryz.ntmps97
    go_wp2_with (go_at_call 56; refine (rletter_any _ _).mono ?_; rintro e w1 ⟨rfl, rfl⟩)
    go_ret
    exact ⟨_, rfl, by simp, by (repeat (first | with_reducible exact Below.refl _ _ | (with_reducible refine Below.drew ?_) | (with_reducible refine below_drewN ?_ _) | (with_reducible refine Below.alloc ?_ (by first | (simp; done) | omega | (simp; omega)) _) | (with_reducible refine Below.setCell ?_ (by first | (simp; done) | omega | (simp; omega)) _) | with_reducible assumption))⟩
  rw [show seatB r l = true by simp [seatB, h1, h2, h3]]
  go_enter Tryz.func97, Tryz.ntmps97
  go_wp2_with (go_at_call 56; refine (rletter_any _ _).mono ?_; rintro e w1 ⟨rfl, rfl⟩)
  have hcv := fun W b => one_byte (P := Tryz.prog) W 100 9 5 b l hl0 hl1 Tryz.underlying100 Tryz.underlying5 Tryz.underlying9
  go_region_with (first | (go_at_call 107; refine (digits_any _ _ h1 h2).mono ?_; rintro e w1 ⟨t, rfl, ht, hb⟩; obtain ⟨hc, hf⟩ := bcell hb))
  all_goals
    have z1 : w.heap.size ≤ w1.heap.size := Nat.le_trans (by first | (simp; done) | omega | (simp; omega)) hb.size
    go_wp2
    go_ret
    exact ⟨_, rfl, append_one_ne _ _, by (repeat (first | with_reducible exact Below.refl _ _ | (with_reducible refine Below.drew ?_) | (with_reducible refine below_drewN ?_ _) | (with_reducible refine Below.alloc ?_ (by first | (simp; done) | omega | (simp; omega)) _) | (with_reducible refine Below.setCell ?_ (by first | (simp; done) | omega | (simp; omega)) _) | (with_reducible refine Below.trans ?_ (Below.mono hb (by first | (simp; done) | omega | (simp; omega)))) | with_reducible assumption))⟩
end Go.Proofs.YtpgeoahlhdifoaaGreatDoor
