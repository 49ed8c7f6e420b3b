/- The document's edits of a PNR: the places that are left, whose seat. -/
import Derived.Test.YtaakcccffmfmoaaDoorApply
namespace Go.Proofs.YtaakcccffmfmoaaDoor
set_option linter.unusedVariables false
open Go Go.RowKit
theorem filter_yes {α : Type} {P : α → Bool} {l : List α} {k : Nat} {x : α} (h : l[k]? = some x) (hp : P x = true) : (l.take (k + 1)).filter P = (l.take k).filter P ++ [x] := by
  rw [take_succ_of h, List.filter_append]; simp [hp]
theorem filter_no {α : Type} {P : α → Bool} {l : List α} {k : Nat} {x : α} (h : l[k]? = some x) (hp : P x = false) : (l.take (k + 1)).filter P = (l.take k).filter P := by
  rw [take_succ_of h, List.filter_append]; simp [hp]
set_option maxRecDepth 100000 in
set_option maxHeartbeats 1000000 in
theorem places_any (l : List Plc) (A : Option Addr) (n c : Nat) (sg px : Int) (w : World) (lo hi : Nat) (hs : Sl w lo hi tPlc A n l) (hn : n ≤ 100000) (hhi : hi ≤ w.heap.size) :
    Calls Tryd.prog 79 #[.slice A n c, .int .i64 sg, .int .i64 px] w (RetOwn w 67 tPlc (placesF l sg px)) := by
  have HL := Lib.hid hs.len
  go_enter Tryd.func79, Tryd.ntmps79
  go_wp2
  go_loopw [7, 8] (fun v i wr => ∃ k : Nat, k ≤ n ∧ i = .int .i64 k ∧ Own wr w.heap.size 67 tPlc v (placesF (l.take k) sg px) ∧ Below w.heap.size w wr) (fun _ i _ => n - (intOf i).toNat)
  case atStart => exact ⟨0, Nat.zero_le _, rfl, Own.nil_ _ _ _ _, Below.refl _ _⟩
  case round =>
    obtain ⟨k, hk, rfl, hown, hbel⟩ := hrel
    by_cases hlt : k < n
    · obtain ⟨b, o, x, rfl, h1, h2, hx, hok, c0, c1, c2, c3⟩ := (hs.below hbel hhi).plc_ hlt
      obtain ⟨xs, xp, xr, xl⟩ := x
      dsimp only at c0 c1 c2 c3
      have hll := placesF_len (l.take k) sg px
      have htl : (l.take k).length ≤ k := List.length_take_le _ _
      have hpos := hbel.size
      have hkk : Hid (keepP sg px ⟨xs, xp, xr, xl⟩ = ((xs != sg) || ((px != 0) && (xp != px)))) := rfl
      generalize q1 : (xs != sg) = b1 at hkk
      generalize q2 : (px != 0) = b2 at hkk
      generalize q3 : (xp != px) = b3 at hkk
      rcases b1 with _ | _ <;> rcases b2 with _ | _ <;> rcases b3 with _ | _
      case false.true.true | true.false.false | true.false.true | true.true.false | true.true.true =>
        have hnx := Lib.hid (filter_yes hx.out hkk.out)
        go_wp2_with (at_builtin; refine push_law rfl (.tmp 35) (.tmp 40) rfl sl_plc rfl hown ⟨xs, xp, xr, xl⟩ hok _ rfl (by simp [Act.eval]) (by omega) (by omega) ?_; intro v' w' hown' hbel')
        go_roundw
        case rel => exact ⟨k + 1, by omega, by go_num, by unfold placesF; rw [hnx.out]; exact hown', hbel.trans hbel'⟩
        case measure => simp [intOf]; omega
      all_goals
        have hnx := Lib.hid (filter_no hx.out hkk.out)
        go_wp2
        go_roundw
        case rel => exact ⟨k + 1, by omega, by go_num, by unfold placesF; rw [hnx.out]; exact hown, hbel⟩
        case measure => simp [intOf]; omega
    · obtain rfl : n = k := by omega
      have e := Lib.hid (show l.take n = l from List.take_of_length_le (by have := HL.out; omega))
      go_wp2
      go_ret
      exact RetOwn.mk' (by rw [e.out] at hown; exact hown) hbel
end Go.Proofs.YtaakcccffmfmoaaDoor
