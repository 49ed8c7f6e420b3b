/- Two lists of texts: SameTexts; by program out of other texts. -/
import Derived.Test.YtfbalabmidobeaaGen
import Derived.Test.YtfbalabmidobeaaOrd
import Derived.Test.YtfbalabmidobeaaProg
import Derived.Deep.QuietTactic
import Derived.BigQuiet
namespace Go.Proofs.Ytfbalabmidobeaa
set_option linter.unusedVariables false
open Go Go.RowKit
def allP (P : Nat → Bool) : Nat → Bool
  | 0 => true
  | k + 1 => allP P k && P k
theorem allP_step {P : Nat → Bool} {k : Nat} (h : allP P k = true) (hp : P k = true) : allP P (k + 1) = true := by simp [allP, h, hp]
def RetB (w : World) (b : Bool) (e : Ending) (w' : World) : Prop := e = .returned (.bool b) ∧ Below w.heap.size w w'

theorem eqL (a b : ByteArray) : (a.toList == b.toList) = decide (a = b) := by
  rw [Bool.eq_iff_iff, beq_iff_eq, decide_eq_true_eq, ByteArray.toList_eq, ByteArray.toList_eq]
  obtain ⟨⟨x⟩⟩ := a
  obtain ⟨⟨y⟩⟩ := b
  simp

def sameI {α : Type} [DecidableEq α] (l m : List α) (i : Nat) : Bool := decide (l[i]? = m[i]?)
theorem allP_get {P : Nat → Bool} : ∀ {n i : Nat}, allP P n = true → i < n → P i = true
  | n + 1, i, h, hi => by
    simp only [allP, Bool.and_eq_true] at h
    by_cases e : i = n
    · rw [e]; exact h.2
    · exact allP_get h.1 (by omega)
theorem same_all {α : Type} [DecidableEq α] {l m : List α} (h : l.length = m.length) (ha : allP (sameI l m) l.length = true) : l = m := by
  apply List.ext_getElem? 
  intro i
  by_cases hi : i < l.length
  · have := allP_get ha hi
    simpa [sameI] using this
  · rw [List.getElem?_eq_none (by omega), List.getElem?_eq_none (by omega)]
theorem same_not {α : Type} [DecidableEq α] {l m : List α} {i : Nat} (h : sameI l m i = false) : decide (l = m) = false := by
  refine decide_eq_false fun e => ?_
  subst e
  simp [sameI] at h
theorem ne_of_len {α : Type} [DecidableEq α] {l m : List α} (h : l.length ≠ m.length) : decide (l = m) = false := decide_eq_false fun e => h (by rw [e])
set_option maxRecDepth 100000 in
set_option maxHeartbeats 1000000 in
theorem equal_rtx (l m : List ByteArray) (A B : Option Addr) (n c n' c' : Nat) (w : World) (lo hi lo' hi' : Nat) (hs : Sl w lo hi tStr A n l) (hs' : Sl w lo' hi' tStr B n' m) (hn : n ≤ 100000) (hn' : n' ≤ 100000) (hhi : hi ≤ w.heap.size) (hhi' : hi' ≤ w.heap.size) :
    Calls Try.prog 13 #[.slice A n c, .slice B n' c'] w (RetB w (decide (l = m))) := by
  have HL := Lib.hid hs.len
  have HM := Lib.hid hs'.len
  by_cases hnn : n = n'
  case neg =>
    have hd := Lib.hid (ne_of_len (show l.length ≠ m.length by rw [HL.out, HM.out]; exact hnn))
    have q1 : ((n : Int) != (n' : Int)) = true := by rw [bne_iff_ne]; omega
    go_enter Try.func13, Try.ntmps13
    go_wp2
    go_ret
    exact ⟨ret_bool hd.out.symm, by (repeat (first | with_reducible exact Below.refl _ _ | (with_reducible refine Below.drew ?_) | (with_reducible refine below_drewN ?_ _) | (with_reducible refine Below.alloc ?_ (by first | (simp; done) | omega | (simp; omega)) _) | (with_reducible refine Below.setCell ?_ (by first | (simp; done) | omega | (simp; omega)) _) | with_reducible assumption))⟩
  subst hnn
  have q1 : ((n : Int) != (n : Int)) = false := by simp
  go_enter Try.func13, Try.ntmps13
  go_wp2
  go_loopw [5] (fun i wr => ∃ k : Nat, k ≤ n ∧ i = .int .i64 k ∧ Hid (allP (sameI l m) k = true) ∧ Below w.heap.size w wr) (fun i _ => n - (intOf i).toNat)
  case atStart => exact ⟨0, Nat.zero_le _, rfl, rfl, by (repeat (first | with_reducible exact Below.refl _ _ | (with_reducible refine Below.drew ?_) | (with_reducible refine below_drewN ?_ _) | (with_reducible refine Below.alloc ?_ (by first | (simp; done) | omega | (simp; omega)) _) | (with_reducible refine Below.setCell ?_ (by first | (simp; done) | omega | (simp; omega)) _) | with_reducible assumption))⟩
  case round =>
    obtain ⟨k, hk, rfl, hall, hbel⟩ := hrel
    clear q1
    by_cases hlt : k < n
    · obtain ⟨b, o, x, rfl, h1, h2, hx, hok, c0⟩ := (hs.below hbel hhi).str_ hlt
      obtain ⟨b', o', y, rfl, h1', h2', hy, hok', d0⟩ := (hs'.below hbel hhi').str_ hlt
      have hsm : sameI l m k = decide (x = y) := by unfold sameI; rw [hx.out, hy.out]; rw [Bool.eq_iff_iff]; simp
      have HSM := Lib.hid hsm
      clear hsm
      have hne := eqL x y
      have hne2 : (x.toList != y.toList) = !(x.toList == y.toList) := rfl
      rw [eqL x y] at hne2
      have hk0 : (0 : Int) ≤ k := by omega
      have hkl : (k : Int) < n := by omega
      generalize hq : decide ((x : ByteArray) = y) = bq at hne hne2 HSM
      have HQ := Lib.hid hq
      clear hq
      rcases bq with _ | _
      · have hno := Lib.hid (same_not HSM.out)
        go_wp2
        go_quiet (fail)
        go_wp2
        go_ret
        exact ⟨ret_bool hno.out.symm, below_drewN hbel _⟩
      · go_wp2
        go_quiet (fail)
        go_wp2
        go_roundw
        case rel => exact ⟨k + 1, by omega, by go_num, allP_step hall.out HSM.out, below_drewN hbel _⟩
        case measure => simp [intOf]; omega
    · obtain rfl : n = k := by omega
      have hyes := Lib.hid (decide_eq_true (same_all (HL.out.trans HM.out.symm) (by rw [HL.out]; exact hall.out)))
      go_wp2
      go_ret
      exact ⟨ret_bool hyes.out.symm, hbel⟩

end Go.Proofs.Ytfbalabmidobeaa
