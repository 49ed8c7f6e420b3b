/- Seats: what an edit leaves of seats in order is in order again. -/
import Derived.Test.YtaakcccffmfmoaaDoorPlaces
import Derived.Test.YtaakcccffmfmoaaDoorOk
namespace Go.Proofs.YtaakcccffmfmoaaDoor
set_option linter.unusedVariables false
open Go Go.RowKit
theorem allP_iff {P : Nat → Bool} : ∀ {n : Nat}, allP P n = true ↔ ∀ i, i < n → P i = true
  | 0 => by simp [allP]
  | n + 1 => by
    simp only [allP, Bool.and_eq_true, allP_iff (n := n)]
    constructor
    · rintro ⟨h1, h2⟩ i hi
      by_cases h : i = n
      · rw [h]; exact h2
      · exact h1 i (by omega)
    · intro h
      exact ⟨fun i hi => h i (by omega), h n (by omega)⟩
/-- The seats of a PNR: each is right, and each stands behind those ahead of it. -/
def plcOk (g : List Seg) (nn : Nat) (x : Plc) : Bool := liveN g x.seg && (decide (1 ≤ x.pax) && (decide (x.pax ≤ nn) && seatB x.row x.let_))
structure StOk (g : List Seg) (nn : Nat) (l : List Plc) : Prop where
  each : ∀ x, x ∈ l → plcOk g nn x = true
  ord : l.Pairwise (fun y x => forb y x = false)
theorem seatsB_iff {p : Pnr} {nn : Nat} : seatsB p nn = true ↔ StOk p.segs nn p.seats := by
  have hpl : ∀ x, plcB p nn x = plcOk p.segs nn x := fun _ => rfl
  constructor
  · intro h
    unfold seatsB at h
    rw [allP_iff] at h
    refine ⟨fun x hx => ?_, ?_⟩
    · obtain ⟨i, hi, rfl⟩ := List.mem_iff_getElem.1 hx
      have := h i hi
      rw [stI_at (List.getElem?_eq_getElem hi), Bool.and_eq_true] at this
      exact this.1
    · rw [List.pairwise_iff_getElem]
      intro i j hi hj hij
      have := h j hj
      rw [stI_at (List.getElem?_eq_getElem hj), Bool.and_eq_true, Bool.not_eq_true', List.any_eq_false] at this
      have := this.2 p.seats[i] (List.mem_iff_getElem.2 ⟨i, by simp; omega, by simp⟩)
      simpa using this
  · rintro ⟨h1, h2⟩
    unfold seatsB
    rw [allP_iff]
    rw [List.pairwise_iff_getElem] at h2
    intro i hi
    rw [stI_at (List.getElem?_eq_getElem hi), Bool.and_eq_true, Bool.not_eq_true', List.any_eq_false]
    refine ⟨h1 _ (List.getElem_mem hi), fun y hy => ?_⟩
    obtain ⟨k, hk, rfl⟩ := List.mem_iff_getElem.1 hy
    have hk' : k < i := by simp at hk; omega
    have := h2 k i (by omega) hi hk'
    simpa using this
theorem lvI_lt {l : List Seg} {i : Nat} (h : lvI l i = true) : ∃ x, l[i]? = some x ∧ x.live = true := by
  unfold lvI at h
  cases hx : l[i]? with
  | none => rw [hx] at h; cases h
  | some x => rw [hx] at h; exact ⟨x, rfl, h⟩
theorem liveN_got {l : List Seg} {n : Int} (h : liveN l n = true) : 1 ≤ n ∧ ∃ x, l[(n - 1).toNat]? = some x ∧ x.live = true := by
  simp only [liveN, Bool.and_eq_true, decide_eq_true_eq] at h
  exact ⟨h.1, lvI_lt h.2⟩
theorem liveN_of {l : List Seg} {n : Int} {x : Seg} (h1 : 1 ≤ n) (hx : l[(n - 1).toNat]? = some x) (hl : x.live = true) : liveN l n = true := by
  simp only [liveN, Bool.and_eq_true, decide_eq_true_eq]
  exact ⟨h1, by rw [lvI_at hx]; exact hl⟩
theorem liveN_append {l : List Seg} {n : Int} (s : Seg) (h : liveN l n = true) : liveN (l ++ [s]) n = true := by
  obtain ⟨h1, x, hx, hl⟩ := liveN_got h
  exact liveN_of h1 (by rw [List.getElem?_append_left (lt_of_get hx)]; exact hx) hl
theorem liveN_modify {l : List Seg} {n m : Int} (f : Seg → Seg) (h : liveN l n = true) (hm : 1 ≤ m) (hn : n ≠ m) : liveN (l.modify (m - 1).toNat f) n = true := by
  obtain ⟨h1, x, hx, hl⟩ := liveN_got h
  exact liveN_of h1 (by rw [List.getElem?_modify]; have : ¬ (m - 1).toNat = (n - 1).toNat := (by omega); rw [hx]; simp only [if_neg this]; rfl) hl
theorem plcOk_mono {g g' : List Seg} {nn nn' : Nat} {x : Plc} (h : plcOk g nn x = true) (hg : liveN g x.seg = true → liveN g' x.seg = true) (hn : nn ≤ nn') : plcOk g' nn' x = true := by
  simp only [plcOk, Bool.and_eq_true, decide_eq_true_eq] at h ⊢
  obtain ⟨h1, h2, h3, h4⟩ := h
  exact ⟨hg h1, h2, by omega, h4⟩
theorem StOk.mono {g g' : List Seg} {nn nn' : Nat} {l : List Plc} (h : StOk g nn l) (hg : ∀ x, x ∈ l → liveN g x.seg = true → liveN g' x.seg = true) (hn : nn ≤ nn') : StOk g' nn' l :=
  ⟨fun x hx => plcOk_mono (h.each x hx) (hg x hx) hn, h.ord⟩
theorem StOk.filter {g : List Seg} {nn : Nat} {l : List Plc} (h : StOk g nn l) (f : Plc → Bool) : StOk g nn (l.filter f) :=
  ⟨fun x hx => h.each x (List.mem_filter.1 hx).1, h.ord.filter f⟩
theorem mem_insF (e : Edit) (x : Plc) : ∀ {l : List Plc}, x ∈ insF e l → x = mine e ∨ x ∈ l
  | [], h => by simp [insF] at h; exact .inl h
  | y :: t, h => by
    unfold insF at h
    split at h
    · simpa using h
    · rcases List.mem_cons.1 h with h | h
      · exact .inr (by simp [h])
      · exact (mem_insF e x h).imp id fun h => by simp [h]
theorem forb_false {y x : Plc} : forb y x = false ↔ ¬ x.seg < y.seg ∧ (y.seg = x.seg → y.pax < x.pax ∧ ¬ (y.row = x.row ∧ y.let_ = x.let_)) := by
  rw [← Bool.not_eq_true]
  simp only [forb, Bool.or_eq_true, Bool.and_eq_true, decide_eq_true_eq]
  constructor
  · intro h
    refine ⟨fun hh => h (.inl hh), fun he => ⟨?_, fun hh => h (.inr ⟨he, .inr hh⟩)⟩⟩
    rcases (show y.pax < x.pax ∨ x.pax ≤ y.pax by omega) with h1 | h1
    · exact h1
    · exact absurd (.inr ⟨he, .inl h1⟩) h
  · rintro ⟨h1, h2⟩ (h | ⟨h, h3 | h3⟩)
    · exact h1 h
    · have := (h2 h).1; omega
    · exact (h2 h).2 h3
theorem insF_ord {e : Edit} : ∀ {l : List Plc}, (∀ x, x ∈ l → ¬ (x.seg = e.n ∧ x.pax = e.pax)) → (∀ x, x ∈ l → takenB e x = false) → l.Pairwise (fun y x => forb y x = false) → (insF e l).Pairwise (fun y x => forb y x = false)
  | [], _, _, _ => by simp [insF]
  | x :: t, h1, h2, h3 => by
    obtain ⟨g1, g2⟩ := List.pairwise_cons.1 h3
    have k1 := h1 x (by simp)
    have k2 := h2 x (by simp)
    have k3 : x.seg = e.n → x.row = e.row → x.let_ = e.let_ → x.pax = e.pax := fun a b c => by
      rcases Int.decEq x.pax e.pax with hh | hh
      · have hb : (x.pax != e.pax) = true := bne_iff_ne.2 hh
        have ha : (x.seg == e.n) = true := beq_iff_eq.2 a
        simp only [takenB, ha, hb, decide_eq_true b, decide_eq_true c, Bool.true_and] at k2
        cases k2
      · exact hh
    unfold insF
    split
    · rename_i ha
      simp only [afterB, Bool.or_eq_true, Bool.and_eq_true, decide_eq_true_eq] at ha
      have kx : forb (mine e) x = false := forb_false.2 ⟨by simp only [mine]; omega, fun hh => by
        simp only [mine] at hh ⊢
        exact ⟨by omega, fun ⟨a, b⟩ => k1 ⟨hh.symm, k3 hh.symm a.symm b.symm⟩⟩⟩
      refine List.pairwise_cons.2 ⟨fun y hy => ?_, h3⟩
      rcases List.mem_cons.1 hy with rfl | hy
      · exact kx
      · have j1 := forb_false.1 (g1 y hy)
        have j2 := h1 y (by simp [hy])
        have j3 := h2 y (by simp [hy])
        refine forb_false.2 ⟨by simp only [mine]; omega, fun hh => ?_⟩
        simp only [mine] at hh ⊢
        have j4 : x.seg = y.seg := by omega
        have j5 := j1.2 j4
        refine ⟨by omega, fun ⟨a, b⟩ => ?_⟩
        have hb : (y.pax != e.pax) = true := bne_iff_ne.2 fun hp => j2 ⟨hh.symm, hp⟩
        have ha' : (y.seg == e.n) = true := beq_iff_eq.2 hh.symm
        simp only [takenB, ha', hb, decide_eq_true a.symm, decide_eq_true b.symm, Bool.true_and] at j3
        cases j3
    · rename_i ha
      have ha' : ¬ (e.n < x.seg ∨ x.seg = e.n ∧ e.pax < x.pax) := fun hh => ha (by
        simp only [afterB, Bool.or_eq_true, Bool.and_eq_true, decide_eq_true_eq]; exact hh)
      refine List.pairwise_cons.2 ⟨fun y hy => ?_, insF_ord (fun y hy => h1 y (by simp [hy])) (fun y hy => h2 y (by simp [hy])) g2⟩
      rcases mem_insF e y hy with rfl | hy
      · refine forb_false.2 ⟨by simp only [mine]; omega, fun hh => ?_⟩
        simp only [mine] at hh ⊢
        exact ⟨by omega, fun ⟨a, b⟩ => k1 ⟨hh, k3 hh a b⟩⟩
      · exact g1 y hy
theorem keepP_iff {sg px : Int} {x : Plc} : keepP sg px x = true ↔ ¬ (x.seg = sg ∧ (px = 0 ∨ x.pax = px)) := by
  simp only [keepP, Bool.or_eq_true, Bool.and_eq_true, bne_iff_ne]
  constructor
  · rintro (h | ⟨h1, h2⟩) ⟨h3, h4⟩
    · exact h h3
    · rcases h4 with h4 | h4
      · exact h1 h4
      · exact h2 h4
  · intro h
    by_cases h1 : x.seg = sg
    · exact .inr ⟨fun h2 => h ⟨h1, .inl h2⟩, fun h2 => h ⟨h1, .inr h2⟩⟩
    · exact .inl h1
theorem whose0 {p : Pnr} {e : Edit} (h : whoseF p e = 0) : liveN p.segs e.n = true ∧ 1 ≤ e.pax ∧ e.pax ≤ p.names.length := by
  unfold whoseF at h
  split at h
  · rename_i h1
    split at h
    · rename_i h2
      exact ⟨h1, h2⟩
    · cases h
  · cases h
/-- Seats stay in order. -/
theorem stOk_keep {p q : Pnr} {e : Edit} (hq : OkF p e q) (h : StOk p.segs p.names.length p.seats) : StOk q.segs q.names.length q.seats := by
  cases hq with
  | name => exact h.mono (fun _ _ hh => hh) (by simp)
  | seg => exact h.mono (fun _ _ hh => liveN_append _ hh) (Nat.le_refl _)
  | phone => exact h
  | tik => exact h
  | rc => exact h
  | remark => exact h
  | cancel hk h1 =>
    have h2 := (liveN_got h1).1
    refine StOk.mono (StOk.filter h _) (fun x hx hh => liveN_modify _ hh h2 fun e0 => ?_) (Nat.le_refl _)
    have := keepP_iff.1 (List.mem_filter.1 hx).2
    exact this ⟨e0, .inl rfl⟩
  | seat hk h1 h2 h3 =>
    obtain ⟨g1, g2, g3⟩ := whose0 h2
    have hf : StOk p.segs p.names.length (placesF p.seats e.n e.pax) := StOk.filter h _
    refine ⟨fun x hx => ?_, insF_ord (fun x hx => ?_) (fun x hx => ?_) hf.ord⟩
    · rcases mem_insF e x hx with rfl | hx
      · simp only [plcOk, mine, Bool.and_eq_true]
        exact ⟨g1, decide_eq_true g2, decide_eq_true g3, h1⟩
      · exact hf.each x hx
    · have := keepP_iff.1 (List.mem_filter.1 hx).2
      exact fun hh => this ⟨hh.1, .inr hh.2⟩
    · rw [List.any_eq_false] at h3
      have := h3 x (List.mem_filter.1 hx).1
      simpa using this
  | free => exact StOk.filter h _
end Go.Proofs.YtaakcccffmfmoaaDoor
