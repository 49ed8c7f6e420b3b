/- strings.IndexByte; a line without a line's end. -/
import Derived.Test.YtggomjfllbljeaaGreatDoorMScP
import Derived.Test.YtggomjfllbljeaaGreatDoorProg
import Derived.Laws.Externs
import Derived.Laws.Runes
namespace Go.Proofs.YtggomjfllbljeaaGreatDoor
set_option linter.unusedVariables false
open Go Go.RowKit
def atI (l : ByteArray) (c : Int) : Int := firstIdx l c.toNat.toUInt8
theorem atI_bd (l : ByteArray) (c : Int) : -1 ≤ atI l c ∧ atI l c < l.size := by
  unfold atI firstIdx
  split
  · rename_i i h
    have := List.mem_range.1 (List.mem_of_find?_eq_some h)
    omega
  · omega
set_option maxRecDepth 100000 in
theorem index_any (s : ByteArray) (c : Int) (w : World) :
    Calls Tryz.prog 30 #[.string s, .int .u8 c] w fun e w' => e = .returned (.int .i64 (atI s c)) ∧ w = w' := by
  have h1 : Calls Tryz.prog 51 #[.string s, .int .u8 c] w fun e w' => e = .returned (.int .i64 (atI s c)) ∧ w = w' := by
    go_enter Tryz.func51, Tryz.ntmps51
    go_wp2
    rw [run_callFunc_extern Tryz.func87 (by kernel_rfl) (by kernel_rfl) (by kernel_rfl) (e := Extern.BytealgIndexByte.indexByte) (by kernel_rfl), run_indexByte_string s c w]
    simp only [Result.andThen]
    rw [Oper.upon_value]
    go_wp2
    go_ret
    exact ⟨rfl, rfl⟩
  go_enter Tryz.func30, Tryz.ntmps30
  go_wp2_with fail
  refine h1.mono ?_
  rintro e w' ⟨rfl, rfl⟩
  go_wp2
  go_ret
  exact ⟨rfl, rfl⟩
theorem at_byte {s : ByteArray} {j : Nat} (h : j < s.size) : (s[j]! == (10 : UInt8)) = decide (bat s j = 10) := by
  have e : s[j]! = s[j] := getElem!_pos s j h
  rw [e, ← bat_get s j h, Bool.eq_iff_iff, beq_iff_eq, decide_eq_true_eq]
  constructor
  · intro h; rw [h]; rfl
  · intro h; exact UInt8.toNat_inj.1 (by have : (10 : UInt8).toNat = 10 := rfl; omega)
theorem atI_neg (s : ByteArray) : decide (atI s 10 < 0) = noLf s := by
  unfold noLf
  rw [decide_eq_decide]
  unfold atI firstIdx
  split
  · rename_i i h
    have h1 := List.find?_some h
    have h2 := List.mem_range.1 (List.mem_of_find?_eq_some h)
    constructor
    · intro h3; omega
    · intro h3
      exfalso
      have h4 : (s[i]! == (10 : UInt8)) = true := h1
      rw [at_byte h2, decide_eq_true_eq] at h4
      exact h3 i h2 h4
  · rename_i h
    rw [List.find?_eq_none] at h
    constructor
    · intro _ j hj he
      have h4 : ¬ (s[j]! == (10 : UInt8)) = true := h j (List.mem_range.2 hj)
      rw [at_byte hj, decide_eq_true_eq] at h4
      exact h4 he
    · intro _; omega
end Go.Proofs.YtggomjfllbljeaaGreatDoor
