/- Package cmp: Compare at ints and at texts, Or at ints. -/
import Derived.Test.YtlkdefmceghmnaaGreatDoorLib
import Derived.Test.YtlkdefmceghmnaaGreatDoorOrd
import Derived.BigGuardPart
import Derived.Test.YtlkdefmceghmnaaGreatDoorProg
namespace Go.Proofs.YtlkdefmceghmnaaGreatDoor
set_option linter.unusedVariables false
open Go Go.RowKit
theorem isnan_int (a : Int) (w : World) : Calls Tryz.prog 82 #[.int .i64 a] w fun e w' => e = .returned (.bool false) ∧ w = w' := by
  have h : (a != a) = false := by simp
  go_enter Tryz.func82, Tryz.ntmps82
  go_wp2
  go_ret
  exact ⟨rfl, rfl⟩
theorem isnan_str (a : ByteArray) (w : World) : Calls Tryz.prog 81 #[.string a] w fun e w' => e = .returned (.bool false) ∧ w = w' := by
  go_enter Tryz.func81, Tryz.ntmps81
  go_wp2
  go_ret
  exact ⟨ret_bool (by simp), rfl⟩
theorem compare_int (a b : Int) (w : World) : Calls Tryz.prog 52 #[.int .i64 a, .int .i64 b] w fun e w' => e = .returned (.int .i64 (cmpN a b)) ∧ w = w' := by
  rcases Int.lt_trichotomy a b with h | h | h
  · have e : cmpN a b = -1 := by unfold cmpN; rw [if_pos h]
    rw [e]
    clear e
    go_enter Tryz.func52, Tryz.ntmps52
    go_wp2_with (go_at_call 82; refine (isnan_int _ _).mono ?_; rintro e w' ⟨rfl, rfl⟩)
    go_ret
    exact ⟨rfl, rfl⟩
  · have e : cmpN a b = 0 := by unfold cmpN; rw [if_neg (by omega), if_neg (by omega)]
    rw [e]
    clear e
    subst h
    have h2 : ¬ a < a := by omega
    go_enter Tryz.func52, Tryz.ntmps52
    go_wp2_with (go_at_call 82; refine (isnan_int _ _).mono ?_; rintro e w' ⟨rfl, rfl⟩)
    go_ret
    exact ⟨rfl, rfl⟩
  · have e : cmpN a b = 1 := by unfold cmpN; rw [if_neg (by omega), if_pos h]
    have h2 : ¬ a < b := by omega
    rw [e]
    clear e
    go_enter Tryz.func52, Tryz.ntmps52
    go_wp2_with (go_at_call 82; refine (isnan_int _ _).mono ?_; rintro e w' ⟨rfl, rfl⟩)
    go_ret
    exact ⟨rfl, rfl⟩
theorem geS (a b : ByteArray) (h1 : ltS a b = false) : (Op.bytesLess a.toList b.toList || a.toList == b.toList) = !(ltS b a) := by
  cases h2 : ltS b a with
  | true =>
    have hne : a ≠ b := by rintro rfl; rw [ltS_irr] at h2; cases h2
    have : (a.toList == b.toList) = false := by rw [beq_eq_false_iff_ne]; exact fun e => hne (toList_inj e)
    rw [this]
    show (ltS a b || false) = false
    rw [h1]; rfl
  | false =>
    have := ltS_eq h1 h2
    subst this
    simp
theorem compare_str (a b : ByteArray) (w : World) : Calls Tryz.prog 51 #[.string a, .string b] w fun e w' => e = .returned (.int .i64 (cmpS a b)) ∧ w = w' := by
  have hg := geS a b
  cases h1 : ltS a b with
  | true =>
    have e : cmpS a b = -1 := by unfold cmpS; rw [h1]; rfl
    rw [e]
    clear e hg
    unfold ltS at h1
    go_enter Tryz.func51, Tryz.ntmps51
    go_wp2_with (go_at_call 81; refine (isnan_str _ _).mono ?_; rintro e w' ⟨rfl, rfl⟩)
    go_ret
    exact ⟨rfl, rfl⟩
  | false =>
    have hg := hg h1
    cases h2 : ltS b a with
    | true =>
      have e : cmpS a b = 1 := by unfold cmpS; rw [h1, h2]; rfl
      rw [e]
      rw [h2] at hg
      clear e h2
      have h3 : (a.toList == b.toList) = false := (Bool.or_eq_false_iff.1 hg).2
      unfold ltS at h1
      clear hg
      go_enter Tryz.func51, Tryz.ntmps51
      go_wp2_with (go_at_call 81; refine (isnan_str _ _).mono ?_; rintro e w' ⟨rfl, rfl⟩)
      go_ret
      exact ⟨rfl, rfl⟩
    | false =>
      have e : cmpS a b = 0 := by unfold cmpS; rw [h1, h2]; rfl
      rw [e]
      clear e
      have h4 := ltS_eq h1 h2
      subst h4
      clear hg h2
      unfold ltS at h1
      go_enter Tryz.func51, Tryz.ntmps51
      go_wp2_with (go_at_call 81; refine (isnan_str _ _).mono ?_; rintro e w' ⟨rfl, rfl⟩)
      go_ret
      exact ⟨rfl, rfl⟩
/-- The first that isn't 0. -/
def orF : List Int → Int
  | [] => 0
  | x :: l => if x ≠ 0 then x else orF l
theorem or_any (l : List Int) (b o c : Nat) (w : World) (hc : ∀ i x, l[i]? = some x → w.cell? ⟨b, o + i, none⟩ = some (.int .i64 x)) (hl : l.length ≤ 1000) :
    Calls Tryz.prog 50 #[.slice (some ⟨b, o, none⟩) l.length c] w fun e w' => e = .returned (.int .i64 (orF l)) ∧ w = w' := by
  have HC := Lib.hid hc
  clear hc
  go_enter Tryz.func50, Tryz.ntmps50
  go_wp2
  go_loop [8] (fun i => ∃ k : Nat, k ≤ l.length ∧ i = .int .i64 k ∧ Hid (orF (l.drop k) = orF l)) (fun i => l.length - (intOf i).toNat)
  case atStart => exact ⟨0, Nat.zero_le _, rfl, rfl⟩
  case round =>
    obtain ⟨k, hk, rfl, HO⟩ := hrel
    by_cases hlt : k < l.length
    · have hx : l[k]? = some l[k] := List.getElem?_eq_getElem hlt
      have hcell := HC.out k _ hx
      have hd : orF (l.drop k) = if l[k] ≠ 0 then l[k] else orF (l.drop (k + 1)) := by
        rw [List.drop_eq_getElem_cons hlt]; rfl
      have HD := Lib.hid hd
      clear hd hx
      generalize l[k] = x at hcell HD
      have hk1 : (k : Int) < l.length := by omega
      by_cases h0 : x = 0
      · subst h0
        go_wp2
        go_round
        case rel => exact ⟨k + 1, by omega, by go_num, by have := HD.out; rw [HO.out] at this; exact this.symm⟩
        case measure => simp [intOf]; omega
      · have h1 : (x == 0) = false := by rw [beq_eq_false_iff_ne]; exact h0
        go_wp2
        go_ret
        exact ⟨ret_int (by rw [← HO.out, HD.out, if_pos h0]), rfl⟩
    · obtain rfl : l.length = k := by omega
      have hz : orF l = 0 := by rw [← HO.out, List.drop_length]; rfl
      have HZ := Lib.hid hz
      clear hz HO
      go_wp2
      go_ret
      exact ⟨ret_int HZ.out.symm, rfl⟩
theorem or2 (x y : Int) (b : Nat) (w : World) (h : ∀ i : Nat, w.cell? ⟨b, i, none⟩ = (#[.int .i64 x, .int .i64 y] : Array Value)[i]?) :
    Calls Tryz.prog 50 #[.slice (some ⟨b, 0, none⟩) 2 2] w fun e w' => e = .returned (.int .i64 (orF [x, y])) ∧ w = w' :=
  or_any [x, y] b 0 2 w (fun i u hu => by
    rw [Nat.zero_add, h i]
    match i, hu with
    | 0, hu => cases hu; rfl
    | 1, hu => cases hu; rfl) (by simp)
theorem or3 (x y z : Int) (b : Nat) (w : World) (h : ∀ i : Nat, w.cell? ⟨b, i, none⟩ = (#[.int .i64 x, .int .i64 y, .int .i64 z] : Array Value)[i]?) :
    Calls Tryz.prog 50 #[.slice (some ⟨b, 0, none⟩) 3 3] w fun e w' => e = .returned (.int .i64 (orF [x, y, z])) ∧ w = w' :=
  or_any [x, y, z] b 0 3 w (fun i u hu => by
    rw [Nat.zero_add, h i]
    match i, hu with
    | 0, hu => cases hu; rfl
    | 1, hu => cases hu; rfl
    | 2, hu => cases hu; rfl) (by simp)
end Go.Proofs.YtlkdefmceghmnaaGreatDoor
