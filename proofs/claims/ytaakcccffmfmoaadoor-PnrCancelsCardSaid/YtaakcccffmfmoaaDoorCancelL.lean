/- PnrCancels: the plain law: what is left of a PNR whose segment was cancelled. -/
import Derived.Test.YtaakcccffmfmoaaDoorApply
namespace Go.Proofs.YtaakcccffmfmoaaDoor
set_option linter.unusedVariables false
open Go Go.RowKit
/-- The edits that the statement makes. -/
def cancelE (n : Int) : Edit := ⟨7, ⟨⟨#[]⟩, ⟨#[]⟩⟩, ⟨⟨#[]⟩, 0, 0, 0, false⟩, ⟨0, 0, 0⟩, ⟨#[]⟩, n, 0, 0, 0⟩
def seatE (n : Int) : Edit := ⟨8, ⟨⟨#[]⟩, ⟨#[]⟩⟩, ⟨⟨#[]⟩, 0, 0, 0, false⟩, ⟨0, 0, 0⟩, ⟨#[]⟩, n, 1, 1, 65⟩
theorem okS0 : okStr ⟨#[]⟩ := by simp [okStr, ByteArray.size]
theorem cancelE_ok {n : Int} (h : okInt n) : (cancelE n).ok :=
  have i0 : ∀ k : Int, 0 ≤ k → k ≤ 100 → okInt k := fun k h1 h2 => ⟨by omega, by omega⟩
  have b0 : ∀ k : Int, 0 ≤ k → k ≤ 100 → okByte k := fun k h1 h2 => ⟨by omega, by omega⟩
  ⟨i0 _ (by first | (show (0 : Int) ≤ _; unfold cancelE; dsimp only; omega) | (show _ ≤ (100 : Int); unfold cancelE; dsimp only; omega)) (by first | (show (0 : Int) ≤ _; unfold cancelE; dsimp only; omega) | (show _ ≤ (100 : Int); unfold cancelE; dsimp only; omega)), ⟨okS0, okS0⟩, ⟨okS0, i0 _ (by first | (show (0 : Int) ≤ _; unfold cancelE; dsimp only; omega) | (show _ ≤ (100 : Int); unfold cancelE; dsimp only; omega)) (by first | (show (0 : Int) ≤ _; unfold cancelE; dsimp only; omega) | (show _ ≤ (100 : Int); unfold cancelE; dsimp only; omega)), i0 _ (by first | (show (0 : Int) ≤ _; unfold cancelE; dsimp only; omega) | (show _ ≤ (100 : Int); unfold cancelE; dsimp only; omega)) (by first | (show (0 : Int) ≤ _; unfold cancelE; dsimp only; omega) | (show _ ≤ (100 : Int); unfold cancelE; dsimp only; omega)), b0 _ (by first | (show (0 : Int) ≤ _; unfold cancelE; dsimp only; omega) | (show _ ≤ (100 : Int); unfold cancelE; dsimp only; omega)) (by first | (show (0 : Int) ≤ _; unfold cancelE; dsimp only; omega) | (show _ ≤ (100 : Int); unfold cancelE; dsimp only; omega))⟩, ⟨i0 _ (by first | (show (0 : Int) ≤ _; unfold cancelE; dsimp only; omega) | (show _ ≤ (100 : Int); unfold cancelE; dsimp only; omega)) (by first | (show (0 : Int) ≤ _; unfold cancelE; dsimp only; omega) | (show _ ≤ (100 : Int); unfold cancelE; dsimp only; omega)), i0 _ (by first | (show (0 : Int) ≤ _; unfold cancelE; dsimp only; omega) | (show _ ≤ (100 : Int); unfold cancelE; dsimp only; omega)) (by first | (show (0 : Int) ≤ _; unfold cancelE; dsimp only; omega) | (show _ ≤ (100 : Int); unfold cancelE; dsimp only; omega)), i0 _ (by first | (show (0 : Int) ≤ _; unfold cancelE; dsimp only; omega) | (show _ ≤ (100 : Int); unfold cancelE; dsimp only; omega)) (by first | (show (0 : Int) ≤ _; unfold cancelE; dsimp only; omega) | (show _ ≤ (100 : Int); unfold cancelE; dsimp only; omega))⟩, okS0, h, i0 _ (by first | exact Int.le_refl _ | (show (0 : Int) ≤ _; unfold cancelE; dsimp only; omega) | (show _ ≤ (100 : Int); unfold cancelE; dsimp only; omega)) (by first | exact Int.le_refl _ | (show (0 : Int) ≤ _; unfold cancelE; dsimp only; omega) | (show _ ≤ (100 : Int); unfold cancelE; dsimp only; omega)), i0 _ (by first | exact Int.le_refl _ | (show (0 : Int) ≤ _; unfold cancelE; dsimp only; omega) | (show _ ≤ (100 : Int); unfold cancelE; dsimp only; omega)) (by first | exact Int.le_refl _ | (show (0 : Int) ≤ _; unfold cancelE; dsimp only; omega) | (show _ ≤ (100 : Int); unfold cancelE; dsimp only; omega)), b0 _ (by first | exact Int.le_refl _ | (show (0 : Int) ≤ _; unfold cancelE; dsimp only; omega) | (show _ ≤ (100 : Int); unfold cancelE; dsimp only; omega)) (by first | exact Int.le_refl _ | (show (0 : Int) ≤ _; unfold cancelE; dsimp only; omega) | (show _ ≤ (100 : Int); unfold cancelE; dsimp only; omega))⟩
theorem seatE_ok {n : Int} (h : okInt n) : (seatE n).ok :=
  have i0 : ∀ k : Int, 0 ≤ k → k ≤ 100 → okInt k := fun k h1 h2 => ⟨by omega, by omega⟩
  have b0 : ∀ k : Int, 0 ≤ k → k ≤ 100 → okByte k := fun k h1 h2 => ⟨by omega, by omega⟩
  ⟨i0 _ (by first | (show (0 : Int) ≤ _; unfold seatE; dsimp only; omega) | (show _ ≤ (100 : Int); unfold seatE; dsimp only; omega)) (by first | (show (0 : Int) ≤ _; unfold seatE; dsimp only; omega) | (show _ ≤ (100 : Int); unfold seatE; dsimp only; omega)), ⟨okS0, okS0⟩, ⟨okS0, i0 _ (by first | (show (0 : Int) ≤ _; unfold seatE; dsimp only; omega) | (show _ ≤ (100 : Int); unfold seatE; dsimp only; omega)) (by first | (show (0 : Int) ≤ _; unfold seatE; dsimp only; omega) | (show _ ≤ (100 : Int); unfold seatE; dsimp only; omega)), i0 _ (by first | (show (0 : Int) ≤ _; unfold seatE; dsimp only; omega) | (show _ ≤ (100 : Int); unfold seatE; dsimp only; omega)) (by first | (show (0 : Int) ≤ _; unfold seatE; dsimp only; omega) | (show _ ≤ (100 : Int); unfold seatE; dsimp only; omega)), b0 _ (by first | (show (0 : Int) ≤ _; unfold seatE; dsimp only; omega) | (show _ ≤ (100 : Int); unfold seatE; dsimp only; omega)) (by first | (show (0 : Int) ≤ _; unfold seatE; dsimp only; omega) | (show _ ≤ (100 : Int); unfold seatE; dsimp only; omega))⟩, ⟨i0 _ (by first | (show (0 : Int) ≤ _; unfold seatE; dsimp only; omega) | (show _ ≤ (100 : Int); unfold seatE; dsimp only; omega)) (by first | (show (0 : Int) ≤ _; unfold seatE; dsimp only; omega) | (show _ ≤ (100 : Int); unfold seatE; dsimp only; omega)), i0 _ (by first | (show (0 : Int) ≤ _; unfold seatE; dsimp only; omega) | (show _ ≤ (100 : Int); unfold seatE; dsimp only; omega)) (by first | (show (0 : Int) ≤ _; unfold seatE; dsimp only; omega) | (show _ ≤ (100 : Int); unfold seatE; dsimp only; omega)), i0 _ (by first | (show (0 : Int) ≤ _; unfold seatE; dsimp only; omega) | (show _ ≤ (100 : Int); unfold seatE; dsimp only; omega)) (by first | (show (0 : Int) ≤ _; unfold seatE; dsimp only; omega) | (show _ ≤ (100 : Int); unfold seatE; dsimp only; omega))⟩, okS0, h, i0 _ (by first | exact Int.le_refl _ | (show (0 : Int) ≤ _; unfold seatE; dsimp only; omega) | (show _ ≤ (100 : Int); unfold seatE; dsimp only; omega)) (by first | exact Int.le_refl _ | (show (0 : Int) ≤ _; unfold seatE; dsimp only; omega) | (show _ ≤ (100 : Int); unfold seatE; dsimp only; omega)), i0 _ (by first | exact Int.le_refl _ | (show (0 : Int) ≤ _; unfold seatE; dsimp only; omega) | (show _ ≤ (100 : Int); unfold seatE; dsimp only; omega)) (by first | exact Int.le_refl _ | (show (0 : Int) ≤ _; unfold seatE; dsimp only; omega) | (show _ ≤ (100 : Int); unfold seatE; dsimp only; omega)), b0 _ (by first | exact Int.le_refl _ | (show (0 : Int) ≤ _; unfold seatE; dsimp only; omega) | (show _ ≤ (100 : Int); unfold seatE; dsimp only; omega)) (by first | exact Int.le_refl _ | (show (0 : Int) ≤ _; unfold seatE; dsimp only; omega) | (show _ ≤ (100 : Int); unfold seatE; dsimp only; omega))⟩
/-- What a PNR is whose segment number n was cancelled. -/
def gone (p : Pnr) (n : Int) : Pnr := { p with segs := p.segs.modify (n - 1).toNat dead, seats := placesF p.seats n 0 }
theorem cancel_law (p : Pnr) (n : Int) : applyF p (cancelE n) = (pnr0, 16) ∨ (1 ≤ n ∧ n ≤ p.segs.length ∧ applyF p (cancelE n) = (gone p n, 0) ∧ (applyF (gone p n) (cancelE n)).2 = 16 ∧ (applyF (gone p n) (seatE n)).2 = 16) := by
  cases hl : liveN p.segs n with
  | false =>
    refine .inl ?_
    have : changeF p (cancelE n) = (p, 16) := by
      show (if liveN p.segs n = false then (p, (16 : Int)) else _) = _
      rw [if_pos hl]
    unfold applyF
    rw [this]
    rfl
  | true =>
    refine .inr ?_
    have hl' := hl
    simp only [liveN, Bool.and_eq_true, decide_eq_true_eq] at hl'
    obtain ⟨h1, h2⟩ := hl'
    have h3 : (n - 1).toNat < p.segs.length := by
      rcases Nat.lt_or_ge (n - 1).toNat p.segs.length with h | h
      · exact h
      · unfold lvI at h2
        rw [List.getElem?_eq_none h] at h2
        cases h2
    have hg : liveN (gone p n).segs n = false := by
      have hx : (gone p n).segs[(n - 1).toNat]? = (p.segs[(n - 1).toNat]?).map dead := by
        show (p.segs.modify (n - 1).toNat dead)[(n - 1).toNat]? = _
        rw [List.getElem?_modify]
        simp
      unfold liveN lvI
      rw [hx, List.getElem?_eq_getElem h3]
      simp [dead]
    refine ⟨h1, by omega, ?_, ?_, ?_⟩
    · have : changeF p (cancelE n) = (gone p n, 0) := by
        show (if liveN p.segs n = false then (p, (16 : Int)) else _) = _
        rw [if_neg (by rw [hl]; simp)]
        rfl
      unfold applyF
      rw [this]
      rfl
    · have : changeF (gone p n) (cancelE n) = (gone p n, 16) := by
        show (if liveN (gone p n).segs n = false then (gone p n, (16 : Int)) else _) = _
        rw [if_pos hg]
      unfold applyF
      rw [this]
      rfl
    · have hw : whoseF (gone p n) (seatE n) = 16 := by
        show (if liveN (gone p n).segs n = true then _ else (16 : Int)) = 16
        rw [if_neg (by rw [hg]; simp)]
      have : changeF (gone p n) (seatE n) = (gone p n, 16) := by
        show seatF (gone p n) (seatE n) = _
        unfold seatF
        rw [if_neg (by rw [show seatB (seatE n).row (seatE n).let_ = true from rfl]; simp), if_pos (by rw [hw]; decide), hw]
      unfold applyF
      rw [this]
      rfl
/-- The segments that are left. -/
theorem gone_seg {p : Pnr} {n : Int} {i : Nat} {x : Seg} (h1 : 1 ≤ n) (hx : p.segs[i]? = some x) : (gone p n).segs[i]? = some (if (i : Int) = n - 1 then dead x else x) := by
  show (p.segs.modify (n - 1).toNat dead)[i]? = _
  rw [List.getElem?_modify, hx]
  by_cases h : (i : Int) = n - 1
  · have : (n - 1).toNat = i := by omega
    simp [h, this]
  · have : ¬ (n - 1).toNat = i := by omega
    rw [if_neg h]
    simp only [if_neg this]
    rfl
theorem gone_len (p : Pnr) (n : Int) : (gone p n).segs.length = p.segs.length := by simp [gone]
/-- The seats that are left, seat by seat. -/
def goneK (l : List Plc) (n : Int) (i : Nat) : Nat := (placesF (l.take i) n 0).length
theorem keep0 {n : Int} {x : Plc} : keepP n 0 x = (x.seg != n) := by simp [keepP]
theorem goneK_succ {l : List Plc} {n : Int} {i : Nat} {x : Plc} (hx : l[i]? = some x) : goneK l n (i + 1) = goneK l n i + if x.seg = n then 0 else 1 := by
  unfold goneK placesF
  rw [take_succ_of hx, List.filter_append, List.length_append, List.filter_cons, keep0, List.filter_nil]
  by_cases h : x.seg = n <;> simp [h]
theorem gone_seat {l : List Plc} {n : Int} {i : Nat} {x : Plc} (hx : l[i]? = some x) (h : x.seg ≠ n) : (placesF l n 0)[goneK l n i]? = some x := by
  have hi := lt_of_get hx
  have hd : l.drop i = x :: l.drop (i + 1) := by
    rw [List.drop_eq_getElem_cons hi]
    congr 1
    rw [List.getElem?_eq_getElem hi] at hx
    injection hx
  have hs : placesF l n 0 = placesF (l.take i) n 0 ++ x :: placesF (l.drop (i + 1)) n 0 := by
    conv => lhs; rw [← List.take_append_drop i l, hd]
    unfold placesF
    rw [List.filter_append, List.filter_cons, keep0, if_pos (by simpa using h)]
  rw [hs]
  unfold goneK
  rw [List.getElem?_append_right (Nat.le_refl _), Nat.sub_self]
  rfl
theorem goneK_end (l : List Plc) (n : Int) : goneK l n l.length = (placesF l n 0).length := by
  unfold goneK
  rw [List.take_length]
theorem goneK_le (l : List Plc) (n : Int) (i : Nat) : goneK l n i ≤ (placesF l n 0).length := by
  have : placesF l n 0 = placesF (l.take i) n 0 ++ placesF (l.drop i) n 0 := by
    conv => lhs; rw [← List.take_append_drop i l]
    unfold placesF
    rw [List.filter_append]
  rw [this]
  unfold goneK
  simp
end Go.Proofs.YtaakcccffmfmoaaDoor
