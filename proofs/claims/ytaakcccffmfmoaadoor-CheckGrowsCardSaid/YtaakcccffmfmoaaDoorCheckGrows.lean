/- CheckGrows: what an edit leaves, what it keeps, and the walk. -/
import Derived.Test.YtaakcccffmfmoaaDoorApply
import Derived.Test.YtaakcccffmfmoaaDoorPlaces
import Derived.Test.YtaakcccffmfmoaaDoorSound
import Derived.Test.YtaakcccffmfmoaaDoorPnr10
import Derived.Test.YtaakcccffmfmoaaDoorCheckLacks
import Derived.Deep.RegionHeld3
import Derived.Deep.DeepCutAuto
namespace Go.Proofs.YtaakcccffmfmoaaDoor
set_option linter.unusedVariables false
open Go Go.RowKit
/-- What an edit that is not refused makes of a PNR. -/
inductive OkF (p : Pnr) (e : Edit) : Pnr → Prop
  | name (hk : e.kind = 1) (h0 : p.loc.toList.isEmpty = true) (h1 : nmB e.nam = true) (h2 : p.names.length < 9) : OkF p e { p with names := p.names ++ [e.nam] }
  | seg (hk : e.kind = 2) (h1 : segB e.seg = true) (h2 : e.seg.live = true) (h3 : dupL p.segs e.seg = false) (h4 : p.segs.length < 8) : OkF p e { p with segs := p.segs ++ [e.seg] }
  | phone (hk : e.kind = 3) (h1 : freeB e.text = true) (h2 : p.phones.length < 4) : OkF p e { p with phones := p.phones ++ [e.text] }
  | tik (hk : e.kind = 4) (h1 : tikB e.tik = true) : OkF p e { p with tik := e.tik, queued := false }
  | rc (hk : e.kind = 5) (h1 : freeB e.text = true) : OkF p e { p with rc := e.text }
  | remark (hk : e.kind = 6) (h1 : freeB e.text = true) (h2 : p.remarks.length < 10) : OkF p e { p with remarks := p.remarks ++ [e.text] }
  | cancel (hk : e.kind = 7) (h1 : liveN p.segs e.n = true) : OkF p e { p with segs := p.segs.modify (e.n - 1).toNat dead, seats := placesF p.seats e.n 0 }
  | seat (hk : e.kind = 8) (h1 : seatB e.row e.let_ = true) (h2 : whoseF p e = 0) (h3 : p.seats.any (takenB e) = false) : OkF p e { p with seats := insF e (placesF p.seats e.n e.pax) }
  | free (hk : e.kind = 9) (h2 : whoseF p e = 0) : OkF p e { p with seats := placesF p.seats e.n e.pax }
theorem ite_pair {α β : Type} {c : Prop} [Decidable c] {x y : α × β} {z : α × β} (h : (if c then x else y) = z) : (c ∧ x = z) ∨ (¬ c ∧ y = z) := by
  split at h
  · exact .inl ⟨by assumption, h⟩
  · exact .inr ⟨by assumption, h⟩
theorem changeF_ok {p q : Pnr} {e : Edit} (h : changeF p e = (q, 0)) : OkF p e q := by
  have N : ∀ {a : Pnr} {n : Int}, n ≠ 0 → (a, n) = (q, (0 : Int)) → False := fun hn h => hn (by injection h)
  have Y : ∀ {a : Pnr}, (a, (0 : Int)) = (q, (0 : Int)) → a = q := fun h => by injection h
  unfold changeF at h
  rcases ite_pair h with ⟨hk, h⟩ | ⟨hk1, h⟩
  · unfold nameF at h
    rcases ite_pair h with ⟨_, h⟩ | ⟨g1, h⟩
    · exact (N (by simp) h).elim
    rcases ite_pair h with ⟨_, h⟩ | ⟨g2, h⟩
    · exact (N (by simp) h).elim
    rcases ite_pair h with ⟨_, h⟩ | ⟨g3, h⟩
    · exact (N (by simp) h).elim
    obtain rfl := Y h
    exact .name hk (by simpa using g2) (by simpa using g1) (by omega)
  rcases ite_pair h with ⟨hk, h⟩ | ⟨hk2, h⟩
  · unfold segmentF at h
    rcases ite_pair h with ⟨_, h⟩ | ⟨g1, h⟩
    · exact (N (by simp) h).elim
    rcases ite_pair h with ⟨_, h⟩ | ⟨g2, h⟩
    · exact (N (by simp) h).elim
    rcases ite_pair h with ⟨_, h⟩ | ⟨g3, h⟩
    · exact (N (by simp) h).elim
    obtain rfl := Y h
    have g1' : (segB e.seg && e.seg.live) = true := by simpa using g1
    rw [Bool.and_eq_true] at g1'
    exact .seg hk g1'.1 g1'.2 (by simpa using g2) (by omega)
  rcases ite_pair h with ⟨hk, h⟩ | ⟨hk3, h⟩
  · unfold textF at h
    by_cases g1 : freeB e.text = false
    · rw [if_pos g1] at h
      exact (N (by simp) h).elim
    rw [if_neg g1] at h
    by_cases g2 : (4 : Int) ≤ p.phones.length
    · rw [if_pos g2] at h
      exact (N (by simp) h).elim
    rw [if_neg g2] at h
    obtain rfl := Y h
    exact .phone hk (by simpa using g1) (by omega)
  rcases ite_pair h with ⟨hk, h⟩ | ⟨hk4, h⟩
  · rcases ite_pair h with ⟨_, h⟩ | ⟨g1, h⟩
    · exact (N (by simp) h).elim
    obtain rfl := Y h
    exact .tik hk (by simpa using g1)
  rcases ite_pair h with ⟨hk, h⟩ | ⟨hk5, h⟩
  · rcases ite_pair h with ⟨_, h⟩ | ⟨g1, h⟩
    · exact (N (by simp) h).elim
    obtain rfl := Y h
    exact .rc hk (by simpa using g1)
  rcases ite_pair h with ⟨hk, h⟩ | ⟨hk6, h⟩
  · unfold textF at h
    by_cases g1 : freeB e.text = false
    · rw [if_pos g1] at h
      exact (N (by simp) h).elim
    rw [if_neg g1] at h
    by_cases g2 : (10 : Int) ≤ p.remarks.length
    · rw [if_pos g2] at h
      exact (N (by simp) h).elim
    rw [if_neg g2] at h
    obtain rfl := Y h
    exact .remark hk (by simpa using g1) (by omega)
  rcases ite_pair h with ⟨hk, h⟩ | ⟨hk7, h⟩
  · unfold cancelF at h
    rcases ite_pair h with ⟨_, h⟩ | ⟨g1, h⟩
    · exact (N (by simp) h).elim
    obtain rfl := Y h
    exact .cancel hk (by simpa using g1)
  rcases ite_pair h with ⟨hk, h⟩ | ⟨hk8, h⟩
  · unfold seatF at h
    rcases ite_pair h with ⟨_, h⟩ | ⟨g1, h⟩
    · exact (N (by simp) h).elim
    rcases ite_pair h with ⟨g2, h⟩ | ⟨g2, h⟩
    · exact (N g2 h).elim
    rcases ite_pair h with ⟨_, h⟩ | ⟨g3, h⟩
    · exact (N (by simp) h).elim
    obtain rfl := Y h
    exact .seat hk (by simpa using g1) (by simpa using g2) (by simpa using g3)
  rcases ite_pair h with ⟨hk, h⟩ | ⟨hk9, h⟩
  · unfold freeF at h
    rcases ite_pair h with ⟨g2, h⟩ | ⟨g2, h⟩
    · exact (N g2 h).elim
    rcases ite_pair h with ⟨_, h⟩ | ⟨g3, h⟩
    · exact (N (by simp) h).elim
    obtain rfl := Y h
    exact .free hk (by simpa using g2)
  · exact (N (by simp) h).elim
theorem applyF_ok {p q : Pnr} {e : Edit} (h : applyF p e = (q, 0)) : OkF p e q := by
  unfold applyF at h
  rcases ite_pair h with ⟨g, h⟩ | ⟨g, h⟩
  · injection h with _ h
    exact absurd h g
  · injection h with h _
    exact changeF_ok (by rw [← h]; exact Prod.ext rfl (by simpa using g))
theorem allP_iff {P : Nat → Bool} : ∀ {n : Nat}, allP P n = true ↔ ∀ i, i < n → P i = true
  | 0 => by simp [allP]
  | n + 1 => by
    simp only [allP, Bool.and_eq_true, allP_iff (n := n)]
    constructor
    · rintro ⟨h1, h2⟩ i hi
      by_cases h : i = n
      · rw [h]; exact h2
      · exact h1 i (by omega)
    · intro h
      exact ⟨fun i hi => h i (by omega), h n (by omega)⟩
/-- The seats of a PNR: each is right, and each stands behind those ahead of it. -/
def plcOk (g : List Seg) (nn : Nat) (x : Plc) : Bool := liveN g x.seg && (decide (1 ≤ x.pax) && (decide (x.pax ≤ nn) && seatB x.row x.let_))
structure StOk (g : List Seg) (nn : Nat) (l : List Plc) : Prop where
  each : ∀ x, x ∈ l → plcOk g nn x = true
  ord : l.Pairwise (fun y x => forb y x = false)
theorem seatsB_iff {p : Pnr} {nn : Nat} : seatsB p nn = true ↔ StOk p.segs nn p.seats := by
  have hpl : ∀ x, plcB p nn x = plcOk p.segs nn x := fun _ => rfl
  constructor
  · intro h
    unfold seatsB at h
    rw [allP_iff] at h
    refine ⟨fun x hx => ?_, ?_⟩
    · obtain ⟨i, hi, rfl⟩ := List.mem_iff_getElem.1 hx
      have := h i hi
      rw [stI_at (List.getElem?_eq_getElem hi), Bool.and_eq_true] at this
      exact this.1
    · rw [List.pairwise_iff_getElem]
      intro i j hi hj hij
      have := h j hj
      rw [stI_at (List.getElem?_eq_getElem hj), Bool.and_eq_true, Bool.not_eq_true', List.any_eq_false] at this
      have := this.2 p.seats[i] (List.mem_iff_getElem.2 ⟨i, by simp; omega, by simp⟩)
      simpa using this
  · rintro ⟨h1, h2⟩
    unfold seatsB
    rw [allP_iff]
    rw [List.pairwise_iff_getElem] at h2
    intro i hi
    rw [stI_at (List.getElem?_eq_getElem hi), Bool.and_eq_true, Bool.not_eq_true', List.any_eq_false]
    refine ⟨h1 _ (List.getElem_mem hi), fun y hy => ?_⟩
    obtain ⟨k, hk, rfl⟩ := List.mem_iff_getElem.1 hy
    have hk' : k < i := by simp at hk; omega
    have := h2 k i (by omega) hi hk'
    simpa using this
theorem lvI_lt {l : List Seg} {i : Nat} (h : lvI l i = true) : ∃ x, l[i]? = some x ∧ x.live = true := by
  unfold lvI at h
  cases hx : l[i]? with
  | none => rw [hx] at h; cases h
  | some x => rw [hx] at h; exact ⟨x, rfl, h⟩
theorem liveN_got {l : List Seg} {n : Int} (h : liveN l n = true) : 1 ≤ n ∧ ∃ x, l[(n - 1).toNat]? = some x ∧ x.live = true := by
  simp only [liveN, Bool.and_eq_true, decide_eq_true_eq] at h
  exact ⟨h.1, lvI_lt h.2⟩
theorem liveN_of {l : List Seg} {n : Int} {x : Seg} (h1 : 1 ≤ n) (hx : l[(n - 1).toNat]? = some x) (hl : x.live = true) : liveN l n = true := by
  simp only [liveN, Bool.and_eq_true, decide_eq_true_eq]
  exact ⟨h1, by rw [lvI_at hx]; exact hl⟩
theorem liveN_append {l : List Seg} {n : Int} (s : Seg) (h : liveN l n = true) : liveN (l ++ [s]) n = true := by
  obtain ⟨h1, x, hx, hl⟩ := liveN_got h
  exact liveN_of h1 (by rw [List.getElem?_append_left (lt_of_get hx)]; exact hx) hl
theorem liveN_modify {l : List Seg} {n m : Int} (f : Seg → Seg) (h : liveN l n = true) (hm : 1 ≤ m) (hn : n ≠ m) : liveN (l.modify (m - 1).toNat f) n = true := by
  obtain ⟨h1, x, hx, hl⟩ := liveN_got h
  exact liveN_of h1 (by rw [List.getElem?_modify]; have : ¬ (m - 1).toNat = (n - 1).toNat := (by omega); rw [hx]; simp only [if_neg this]; rfl) hl
theorem plcOk_mono {g g' : List Seg} {nn nn' : Nat} {x : Plc} (h : plcOk g nn x = true) (hg : liveN g x.seg = true → liveN g' x.seg = true) (hn : nn ≤ nn') : plcOk g' nn' x = true := by
  simp only [plcOk, Bool.and_eq_true, decide_eq_true_eq] at h ⊢
  obtain ⟨h1, h2, h3, h4⟩ := h
  exact ⟨hg h1, h2, by omega, h4⟩
theorem StOk.mono {g g' : List Seg} {nn nn' : Nat} {l : List Plc} (h : StOk g nn l) (hg : ∀ x, x ∈ l → liveN g x.seg = true → liveN g' x.seg = true) (hn : nn ≤ nn') : StOk g' nn' l :=
  ⟨fun x hx => plcOk_mono (h.each x hx) (hg x hx) hn, h.ord⟩
theorem StOk.filter {g : List Seg} {nn : Nat} {l : List Plc} (h : StOk g nn l) (f : Plc → Bool) : StOk g nn (l.filter f) :=
  ⟨fun x hx => h.each x (List.mem_filter.1 hx).1, h.ord.filter f⟩
theorem mem_insF (e : Edit) (x : Plc) : ∀ {l : List Plc}, x ∈ insF e l → x = mine e ∨ x ∈ l
  | [], h => by simp [insF] at h; exact .inl h
  | y :: t, h => by
    unfold insF at h
    split at h
    · simpa using h
    · rcases List.mem_cons.1 h with h | h
      · exact .inr (by simp [h])
      · exact (mem_insF e x h).imp id fun h => by simp [h]
theorem forb_false {y x : Plc} : forb y x = false ↔ ¬ x.seg < y.seg ∧ (y.seg = x.seg → y.pax < x.pax ∧ ¬ (y.row = x.row ∧ y.let_ = x.let_)) := by
  rw [← Bool.not_eq_true]
  simp only [forb, Bool.or_eq_true, Bool.and_eq_true, decide_eq_true_eq]
  constructor
  · intro h
    refine ⟨fun hh => h (.inl hh), fun he => ⟨?_, fun hh => h (.inr ⟨he, .inr hh⟩)⟩⟩
    rcases (show y.pax < x.pax ∨ x.pax ≤ y.pax by omega) with h1 | h1
    · exact h1
    · exact absurd (.inr ⟨he, .inl h1⟩) h
  · rintro ⟨h1, h2⟩ (h | ⟨h, h3 | h3⟩)
    · exact h1 h
    · have := (h2 h).1; omega
    · exact (h2 h).2 h3
theorem insF_ord {e : Edit} : ∀ {l : List Plc}, (∀ x, x ∈ l → ¬ (x.seg = e.n ∧ x.pax = e.pax)) → (∀ x, x ∈ l → takenB e x = false) → l.Pairwise (fun y x => forb y x = false) → (insF e l).Pairwise (fun y x => forb y x = false)
  | [], _, _, _ => by simp [insF]
  | x :: t, h1, h2, h3 => by
    obtain ⟨g1, g2⟩ := List.pairwise_cons.1 h3
    have k1 := h1 x (by simp)
    have k2 := h2 x (by simp)
    have k3 : x.seg = e.n → x.row = e.row → x.let_ = e.let_ → x.pax = e.pax := fun a b c => by
      rcases Int.decEq x.pax e.pax with hh | hh
      · have hb : (x.pax != e.pax) = true := bne_iff_ne.2 hh
        have ha : (x.seg == e.n) = true := beq_iff_eq.2 a
        simp only [takenB, ha, hb, decide_eq_true b, decide_eq_true c, Bool.true_and] at k2
        cases k2
      · exact hh
    unfold insF
    split
    · rename_i ha
      simp only [afterB, Bool.or_eq_true, Bool.and_eq_true, decide_eq_true_eq] at ha
      have kx : forb (mine e) x = false := forb_false.2 ⟨by simp only [mine]; omega, fun hh => by
        simp only [mine] at hh ⊢
        exact ⟨by omega, fun ⟨a, b⟩ => k1 ⟨hh.symm, k3 hh.symm a.symm b.symm⟩⟩⟩
      refine List.pairwise_cons.2 ⟨fun y hy => ?_, h3⟩
      rcases List.mem_cons.1 hy with rfl | hy
      · exact kx
      · have j1 := forb_false.1 (g1 y hy)
        have j2 := h1 y (by simp [hy])
        have j3 := h2 y (by simp [hy])
        refine forb_false.2 ⟨by simp only [mine]; omega, fun hh => ?_⟩
        simp only [mine] at hh ⊢
        have j4 : x.seg = y.seg := by omega
        have j5 := j1.2 j4
        refine ⟨by omega, fun ⟨a, b⟩ => ?_⟩
        have hb : (y.pax != e.pax) = true := bne_iff_ne.2 fun hp => j2 ⟨hh.symm, hp⟩
        have ha' : (y.seg == e.n) = true := beq_iff_eq.2 hh.symm
        simp only [takenB, ha', hb, decide_eq_true a.symm, decide_eq_true b.symm, Bool.true_and] at j3
        cases j3
    · rename_i ha
      have ha' : ¬ (e.n < x.seg ∨ x.seg = e.n ∧ e.pax < x.pax) := fun hh => ha (by
        simp only [afterB, Bool.or_eq_true, Bool.and_eq_true, decide_eq_true_eq]; exact hh)
      refine List.pairwise_cons.2 ⟨fun y hy => ?_, insF_ord (fun y hy => h1 y (by simp [hy])) (fun y hy => h2 y (by simp [hy])) g2⟩
      rcases mem_insF e y hy with rfl | hy
      · refine forb_false.2 ⟨by simp only [mine]; omega, fun hh => ?_⟩
        simp only [mine] at hh ⊢
        exact ⟨by omega, fun ⟨a, b⟩ => k1 ⟨hh, k3 hh a b⟩⟩
      · exact g1 y hy
theorem keepP_iff {sg px : Int} {x : Plc} : keepP sg px x = true ↔ ¬ (x.seg = sg ∧ (px = 0 ∨ x.pax = px)) := by
  simp only [keepP, Bool.or_eq_true, Bool.and_eq_true, bne_iff_ne]
  constructor
  · rintro (h | ⟨h1, h2⟩) ⟨h3, h4⟩
    · exact h h3
    · rcases h4 with h4 | h4
      · exact h1 h4
      · exact h2 h4
  · intro h
    by_cases h1 : x.seg = sg
    · exact .inr ⟨fun h2 => h ⟨h1, .inl h2⟩, fun h2 => h ⟨h1, .inr h2⟩⟩
    · exact .inl h1
theorem whose0 {p : Pnr} {e : Edit} (h : whoseF p e = 0) : liveN p.segs e.n = true ∧ 1 ≤ e.pax ∧ e.pax ≤ p.names.length := by
  unfold whoseF at h
  split at h
  · rename_i h1
    split at h
    · rename_i h2
      exact ⟨h1, h2⟩
    · cases h
  · cases h
/-- Seats stay in order. -/
theorem stOk_keep {p q : Pnr} {e : Edit} (hq : OkF p e q) (h : StOk p.segs p.names.length p.seats) : StOk q.segs q.names.length q.seats := by
  cases hq with
  | name => exact h.mono (fun _ _ hh => hh) (by simp)
  | seg => exact h.mono (fun _ _ hh => liveN_append _ hh) (Nat.le_refl _)
  | phone => exact h
  | tik => exact h
  | rc => exact h
  | remark => exact h
  | cancel hk h1 =>
    have h2 := (liveN_got h1).1
    refine StOk.mono (StOk.filter h _) (fun x hx hh => liveN_modify _ hh h2 fun e0 => ?_) (Nat.le_refl _)
    have := keepP_iff.1 (List.mem_filter.1 hx).2
    exact this ⟨e0, .inl rfl⟩
  | seat hk h1 h2 h3 =>
    obtain ⟨g1, g2, g3⟩ := whose0 h2
    have hf : StOk p.segs p.names.length (placesF p.seats e.n e.pax) := StOk.filter h _
    refine ⟨fun x hx => ?_, insF_ord (fun x hx => ?_) (fun x hx => ?_) hf.ord⟩
    · rcases mem_insF e x hx with rfl | hx
      · simp only [plcOk, mine, Bool.and_eq_true]
        exact ⟨g1, decide_eq_true g2, decide_eq_true g3, h1⟩
      · exact hf.each x hx
    · have := keepP_iff.1 (List.mem_filter.1 hx).2
      exact fun hh => this ⟨hh.1, .inr hh.2⟩
    · rw [List.any_eq_false] at h3
      have := h3 x (List.mem_filter.1 hx).1
      simpa using this
  | free => exact StOk.filter h _
theorem textsB_iff {l : List ByteArray} {most : Int} : textsB l most = true ↔ (l.length : Int) ≤ most ∧ ∀ x, x ∈ l → freeB x = true := by
  simp only [textsB, Bool.and_eq_true, decide_eq_true_eq, allP_iff]
  refine and_congr_right fun _ => ⟨fun h x hx => ?_, fun h i hi => ?_⟩
  · obtain ⟨i, hi, rfl⟩ := List.mem_iff_getElem.1 hx
    rw [← frI_at (List.getElem?_eq_getElem hi)]
    exact h i hi
  · rw [frI_at (List.getElem?_eq_getElem hi)]
    exact h _ (List.getElem_mem hi)
theorem namesB_iff {l : List Nam} : allP (nmI l) l.length = true ↔ ∀ x, x ∈ l → nmB x = true := by
  rw [allP_iff]
  refine ⟨fun h x hx => ?_, fun h i hi => ?_⟩
  · obtain ⟨i, hi, rfl⟩ := List.mem_iff_getElem.1 hx
    rw [← nmI_at (List.getElem?_eq_getElem hi)]
    exact h i hi
  · rw [nmI_at (List.getElem?_eq_getElem hi)]
    exact h _ (List.getElem_mem hi)
theorem segsB_iff {l : List Seg} : segsB l = true ↔ l.length ≤ 8 ∧ (∀ x, x ∈ l → segB x = true) ∧ l.Pairwise (fun y x => (x.live && (y.live && legEq y x)) = false) := by
  simp only [segsB, Bool.and_eq_true, decide_eq_true_eq, allP_iff]
  refine and_congr_right fun _ => ⟨fun h => ⟨fun x hx => ?_, ?_⟩, fun h i hi => ?_⟩
  · obtain ⟨i, hi, rfl⟩ := List.mem_iff_getElem.1 hx
    have := h i hi
    rw [sgI_at (List.getElem?_eq_getElem hi), Bool.and_eq_true] at this
    exact this.1
  · rw [List.pairwise_iff_getElem]
    intro i j hi hj hij
    have := h j hj
    rw [sgI_at (List.getElem?_eq_getElem hj), Bool.and_eq_true, Bool.not_eq_true'] at this
    cases hl : l[j].live with
    | false => rfl
    | true =>
      have h2 := this.2
      rw [hl, Bool.true_and] at h2
      unfold dupL at h2
      rw [List.any_eq_false] at h2
      have h3 := h2 l[i] (List.mem_iff_getElem.2 ⟨i, by simp; omega, by simp⟩)
      simpa using h3
  · obtain ⟨h1, h2⟩ := h
    rw [sgI_at (List.getElem?_eq_getElem hi), Bool.and_eq_true, Bool.not_eq_true']
    refine ⟨h1 _ (List.getElem_mem hi), ?_⟩
    cases hl : l[i].live with
    | false => rfl
    | true =>
      rw [Bool.true_and]
      unfold dupL
      rw [List.any_eq_false]
      intro y hy
      obtain ⟨k, hk, rfl⟩ := List.mem_iff_getElem.1 hy
      have hk' : k < i := by simp at hk; omega
      rw [List.pairwise_iff_getElem] at h2
      have := h2 k i (by omega) hi hk'
      rw [hl, Bool.true_and] at this
      simpa using this
theorem grow_law {p q : Pnr} {e : Edit} (h : OkF p e q) (hs : soundB p p.names.length = true) : soundB q q.names.length = true := by
  simp only [soundB, tailB, Bool.and_eq_true, decide_eq_true_eq] at hs ⊢
  obtain ⟨a1, a2, a3, a4, a5, a6, a7, a8, a9, a10⟩ := hs
  have hst := seatsB_iff.2 (stOk_keep h (seatsB_iff.1 a10))
  cases h with
  | name hk h0 h1 h2 =>
    refine ⟨a1, a2, by simp; omega, namesB_iff.2 fun x hx => ?_, a5, a6, a7, a8, a9, hst⟩
    rcases List.mem_append.1 hx with hx | hx
    · exact namesB_iff.1 a4 x hx
    · obtain rfl : x = e.nam := by simpa using hx
      exact h1
  | seg hk h1 h2 h3 h4 =>
    obtain ⟨b1, b2, b3⟩ := segsB_iff.1 a5
    refine ⟨a1, a2, a3, a4, segsB_iff.2 ⟨by simp; omega, fun x hx => ?_, List.pairwise_append.2 ⟨b3, by simp, fun y hy x hx => ?_⟩⟩, a6, a7, a8, a9, hst⟩
    · rcases List.mem_append.1 hx with hx | hx
      · exact b2 x hx
      · obtain rfl : x = e.seg := by simpa using hx
        exact h1
    · obtain rfl : x = e.seg := by simpa using hx
      unfold dupL at h3
      rw [List.any_eq_false] at h3
      have := h3 y hy
      rw [h2, Bool.true_and]
      simpa using this
  | phone hk h1 h2 =>
    obtain ⟨b1, b2⟩ := textsB_iff.1 a6
    refine ⟨a1, a2, a3, a4, a5, textsB_iff.2 ⟨by simp; omega, fun x hx => ?_⟩, a7, a8, a9, hst⟩
    rcases List.mem_append.1 hx with hx | hx
    · exact b2 x hx
    · obtain rfl : x = e.text := by simpa using hx
      exact h1
  | tik hk h1 =>
    refine ⟨a1, a2, a3, a4, a5, a6, a7, a8, ?_, hst⟩
    unfold tikB at h1
    unfold ticketB
    dsimp only
    split at h1
    · rename_i g1
      have g2 : (e.tik.kind == 1) = false := by simp at g1; simp [g1]
      rw [g2, g1]
      simpa using h1
    · simp only [Bool.and_eq_true] at h1
      rw [h1.1]
      simpa using h1.2
  | rc hk h1 =>
    refine ⟨a1, a2, a3, a4, a5, a6, a7, ?_, a9, hst⟩
    unfold rcB
    rw [Bool.or_eq_true]
    exact .inr h1
  | remark hk h1 h2 =>
    obtain ⟨b1, b2⟩ := textsB_iff.1 a7
    refine ⟨a1, a2, a3, a4, a5, a6, textsB_iff.2 ⟨by simp; omega, fun x hx => ?_⟩, a8, a9, hst⟩
    rcases List.mem_append.1 hx with hx | hx
    · exact b2 x hx
    · obtain rfl : x = e.text := by simpa using hx
      exact h1
  | cancel hk h1 =>
    obtain ⟨b1, b2, b3⟩ := segsB_iff.1 a5
    refine ⟨a1, a2, a3, a4, segsB_iff.2 ⟨by simpa using b1, fun x hx => ?_, ?_⟩, a6, a7, a8, a9, hst⟩
    · obtain ⟨i, hi, rfl⟩ := List.mem_iff_getElem.1 hx
      rw [List.getElem_modify]
      split
      · have := b2 (p.segs[i]'(by simpa using hi)) (List.getElem_mem _)
        exact this
      · exact b2 _ (List.getElem_mem (by simpa using hi))
    · rw [List.pairwise_iff_getElem] at b3 ⊢
      intro i j hi hj hij
      have := b3 i j (by simpa using hi) (by simpa using hj) hij
      rw [List.getElem_modify, List.getElem_modify]
      split <;> split <;> simp_all [dead, legEq]
  | seat hk h1 h2 h3 => exact ⟨a1, a2, a3, a4, a5, a6, a7, a8, a9, hst⟩
  | free hk h2 => exact ⟨a1, a2, a3, a4, a5, a6, a7, a8, a9, hst⟩
theorem sound0 : soundB pnr0 0 = true := by
  have h : (ByteArray.toList ⟨#[]⟩).isEmpty = true := by rw [isEmpty_size]; rfl
  simp only [soundB, tailB, locB, offB, rcB, pnr0, h, Bool.true_or, Bool.true_and]
  rfl
/-- An edit's cells. -/
def C16 (W : World) (b i : Nat) (x : Edit) : Prop := W.cell? ⟨b, i, none⟩ = some (.int .i64 x.kind) ∧ W.cell? ⟨b, i + 1, none⟩ = some (.string x.nam.last) ∧ W.cell? ⟨b, i + 2, none⟩ = some (.string x.nam.first) ∧ W.cell? ⟨b, i + 3, none⟩ = some (.string x.seg.car) ∧ W.cell? ⟨b, i + 4, none⟩ = some (.int .i64 x.seg.num) ∧ W.cell? ⟨b, i + 5, none⟩ = some (.int .i64 x.seg.day) ∧ W.cell? ⟨b, i + 6, none⟩ = some (.int .u8 x.seg.cls) ∧ W.cell? ⟨b, i + 7, none⟩ = some (.bool x.seg.live) ∧ W.cell? ⟨b, i + 8, none⟩ = some (.int .i64 x.tik.kind) ∧ W.cell? ⟨b, i + 9, none⟩ = some (.int .i64 x.tik.day) ∧ W.cell? ⟨b, i + 10, none⟩ = some (.int .i64 x.tik.min) ∧ W.cell? ⟨b, i + 11, none⟩ = some (.string x.text) ∧ W.cell? ⟨b, i + 12, none⟩ = some (.int .i64 x.n) ∧ W.cell? ⟨b, i + 13, none⟩ = some (.int .i64 x.pax) ∧ W.cell? ⟨b, i + 14, none⟩ = some (.int .i64 x.row) ∧ W.cell? ⟨b, i + 15, none⟩ = some (.int .u8 x.let_)
theorem C16.keep {W W' : World} {b i : Nat} {x : Edit} (h : C16 W b i x) (hk : ∀ j, W'.cell? ⟨b, j, none⟩ = W.cell? ⟨b, j, none⟩) : C16 W' b i x := by
  obtain ⟨c0, c1, c2, c3, c4, c5, c6, c7, c8, c9, c10, c11, c12, c13, c14, c15⟩ := h
  exact ⟨(hk _).trans c0, (hk _).trans c1, (hk _).trans c2, (hk _).trans c3, (hk _).trans c4, (hk _).trans c5, (hk _).trans c6, (hk _).trans c7, (hk _).trans c8, (hk _).trans c9, (hk _).trans c10, (hk _).trans c11, (hk _).trans c12, (hk _).trans c13, (hk _).trans c14, (hk _).trans c15⟩
theorem C16.set {W : World} {b i : Nat} {x : Edit} (h : C16 W b i x) {p : Addr} (hp : b ≠ p.block) (u : Value) : C16 (W.setCell p u) b i x :=
  h.keep fun j => World.cell?_setCell_other W p _ u (fun e => hp (by rw [e]))
theorem C16.below {W W' : World} {b i B : Nat} {x : Edit} (h : C16 W b i x) (hb : Below B W W') (hB : b < B) : C16 W' b i x := h.keep fun j => hb.cell hB
/-- One box of the call's own. -/
structure F1 (w : World) (pc : Array Value) (W : World) : Prop where
  B : Below w.heap.size w W
  r1 : Bx W w.heap.size pc 29
section
variable {w W W1 : World} {pc : Array Value}
theorem F1.start (w : World) (pc : Array Value) : F1 w pc (w.alloc (.cells pc 29)) := ⟨(Below.refl _ _).alloc (Nat.le_refl _) _, Bx.new _ _ _⟩
theorem F1.z (H : F1 w pc W) : w.heap.size < W.heap.size := H.r1.lt
theorem F1.step (H : F1 w pc W) (hb : Below W.heap.size W W1) : F1 w pc W1 := ⟨H.B.trans (hb.mono (Nat.le_of_lt H.z)), H.r1.below hb H.r1.lt⟩
theorem F1.drew (H : F1 w pc W) : F1 w pc W.drew := H.step (below_drewN (Below.refl _ _) 1)
theorem F1.alloc (H : F1 w pc W) (o : Obj) : F1 w pc (W.alloc o) := H.step ((Below.refl _ _).alloc (Nat.le_refl _) o)
theorem F1.put (H : F1 w pc W) (cs : Array Value) : F1 w cs (W.setRow w.heap.size cs) := ⟨below_setRow H.B (Nat.le_refl _) _, H.r1.row _⟩
theorem F1.c1 (H : F1 w pc W) : ∀ i, W.cell? ⟨w.heap.size, i, none⟩ = pc[i]? := H.r1.cells
theorem F1.f1 (H : F1 w pc W) : ∀ i, W.frozen? ⟨w.heap.size, i, none⟩ = false := H.r1.free
theorem PS.over {w W W1 : World} {q : Pnr} {h : Hd} (hP : PS W (fun b => b ≠ w.heap.size ∧ b < W.heap.size) q h) (hb : Below W.heap.size W W1) : PS W1 (fun b => b ≠ w.heap.size ∧ b < W1.heap.size) q h :=
  (PS.below (B := W.heap.size) hP hb fun b hb => hb.2).mono fun b h => ⟨h.1, Nat.lt_of_lt_of_le h.2 hb.size⟩
theorem PS.put {w W : World} {q : Pnr} {h : Hd} (hP : PS W (fun b => b ≠ w.heap.size ∧ b < W.heap.size) q h) (cs : Array Value) : PS (W.setRow w.heap.size cs) (fun b => b ≠ w.heap.size ∧ b < (W.setRow w.heap.size cs).heap.size) q h :=
  (PS.keep hP fun a ha => cell_setRow_other _ _ _ _ ha.1).mono fun b h => ⟨h.1, by simpa using h.2⟩
/-- The end of the round's first part: the call first, then the box .. -/
theorem end_alloc {w wr w2 : World} {q q2 : Pnr} {hq h2 : Hd} (hF2 : F1 w pc w2) (hz : w.heap.size < wr.heap.size) (hP : PS w2 (fun b => b ≠ w.heap.size ∧ b < wr.heap.size) q hq) (hs : wr.heap.size ≤ w2.heap.size) (o2 : OP w2 wr.heap.size q2 h2) :
    F1 w pc (w2.alloc (.cells #[.string q2.loc, .string q2.off, .slice h2.an h2.nn h2.cn, .slice h2.ag h2.ng h2.cg, .slice h2.ap h2.np h2.cp, .int .i64 q2.tik.kind, .int .i64 q2.tik.day, .int .i64 q2.tik.min, .string q2.rc, .slice h2.ar h2.nr h2.cr, .slice h2.ae h2.ne h2.ce, .bool q2.queued] 29)) ∧ PS (w2.alloc (.cells #[.string q2.loc, .string q2.off, .slice h2.an h2.nn h2.cn, .slice h2.ag h2.ng h2.cg, .slice h2.ap h2.np h2.cp, .int .i64 q2.tik.kind, .int .i64 q2.tik.day, .int .i64 q2.tik.min, .string q2.rc, .slice h2.ar h2.nr h2.cr, .slice h2.ae h2.ne h2.ce, .bool q2.queued] 29)) (fun b => b ≠ w.heap.size ∧ b < (w2.alloc (.cells #[.string q2.loc, .string q2.off, .slice h2.an h2.nn h2.cn, .slice h2.ag h2.ng h2.cg, .slice h2.ap h2.np h2.cp, .int .i64 q2.tik.kind, .int .i64 q2.tik.day, .int .i64 q2.tik.min, .string q2.rc, .slice h2.ar h2.nr h2.cr, .slice h2.ae h2.ne h2.ce, .bool q2.queued] 29)).heap.size) q hq ∧ PS (w2.alloc (.cells #[.string q2.loc, .string q2.off, .slice h2.an h2.nn h2.cn, .slice h2.ag h2.ng h2.cg, .slice h2.ap h2.np h2.cp, .int .i64 q2.tik.kind, .int .i64 q2.tik.day, .int .i64 q2.tik.min, .string q2.rc, .slice h2.ar h2.nr h2.cr, .slice h2.ae h2.ne h2.ce, .bool q2.queued] 29)) (fun b => b ≠ w.heap.size ∧ b < (w2.alloc (.cells #[.string q2.loc, .string q2.off, .slice h2.an h2.nn h2.cn, .slice h2.ag h2.ng h2.cg, .slice h2.ap h2.np h2.cp, .int .i64 q2.tik.kind, .int .i64 q2.tik.day, .int .i64 q2.tik.min, .string q2.rc, .slice h2.ar h2.nr h2.cr, .slice h2.ae h2.ne h2.ce, .bool q2.queued] 29)).heap.size) q2 h2 ∧ Bx (w2.alloc (.cells #[.string q2.loc, .string q2.off, .slice h2.an h2.nn h2.cn, .slice h2.ag h2.ng h2.cg, .slice h2.ap h2.np h2.cp, .int .i64 q2.tik.kind, .int .i64 q2.tik.day, .int .i64 q2.tik.min, .string q2.rc, .slice h2.ar h2.nr h2.cr, .slice h2.ae h2.ne h2.ce, .bool q2.queued] 29)) w2.heap.size #[.string q2.loc, .string q2.off, .slice h2.an h2.nn h2.cn, .slice h2.ag h2.ng h2.cg, .slice h2.ap h2.np h2.cp, .int .i64 q2.tik.kind, .int .i64 q2.tik.day, .int .i64 q2.tik.min, .string q2.rc, .slice h2.ar h2.nr h2.cr, .slice h2.ae h2.ne h2.ce, .bool q2.queued] 29 ∧ w.heap.size < w2.heap.size :=
  ⟨hF2.alloc _, PS.over (hP.mono fun b h => ⟨h.1, by omega⟩) ((Below.refl _ _).alloc (Nat.le_refl _) _), PS.over (o2.ps.mono fun b h => ⟨by omega, h.2⟩) ((Below.refl _ _).alloc (Nat.le_refl _) _), Bx.new _ _ _, hF2.z⟩
/-- .. or the box first. -/
theorem end_store {w wr w2 : World} {q q2 : Pnr} {hq h2 : Hd} {zs : Array Value} (hF2 : F1 w pc w2) (hz : w.heap.size < wr.heap.size) (hP : PS w2 (fun b => b ≠ w.heap.size ∧ b < wr.heap.size) q hq) (hs : wr.heap.size < w2.heap.size) (o2 : OP w2 (wr.heap.size + 1) q2 h2) (hbx : Bx w2 wr.heap.size zs 29) :
    F1 w pc (w2.setRow wr.heap.size #[.string q2.loc, .string q2.off, .slice h2.an h2.nn h2.cn, .slice h2.ag h2.ng h2.cg, .slice h2.ap h2.np h2.cp, .int .i64 q2.tik.kind, .int .i64 q2.tik.day, .int .i64 q2.tik.min, .string q2.rc, .slice h2.ar h2.nr h2.cr, .slice h2.ae h2.ne h2.ce, .bool q2.queued]) ∧ PS (w2.setRow wr.heap.size #[.string q2.loc, .string q2.off, .slice h2.an h2.nn h2.cn, .slice h2.ag h2.ng h2.cg, .slice h2.ap h2.np h2.cp, .int .i64 q2.tik.kind, .int .i64 q2.tik.day, .int .i64 q2.tik.min, .string q2.rc, .slice h2.ar h2.nr h2.cr, .slice h2.ae h2.ne h2.ce, .bool q2.queued]) (fun b => b ≠ w.heap.size ∧ b < (w2.setRow wr.heap.size #[.string q2.loc, .string q2.off, .slice h2.an h2.nn h2.cn, .slice h2.ag h2.ng h2.cg, .slice h2.ap h2.np h2.cp, .int .i64 q2.tik.kind, .int .i64 q2.tik.day, .int .i64 q2.tik.min, .string q2.rc, .slice h2.ar h2.nr h2.cr, .slice h2.ae h2.ne h2.ce, .bool q2.queued]).heap.size) q hq ∧ PS (w2.setRow wr.heap.size #[.string q2.loc, .string q2.off, .slice h2.an h2.nn h2.cn, .slice h2.ag h2.ng h2.cg, .slice h2.ap h2.np h2.cp, .int .i64 q2.tik.kind, .int .i64 q2.tik.day, .int .i64 q2.tik.min, .string q2.rc, .slice h2.ar h2.nr h2.cr, .slice h2.ae h2.ne h2.ce, .bool q2.queued]) (fun b => b ≠ w.heap.size ∧ b < (w2.setRow wr.heap.size #[.string q2.loc, .string q2.off, .slice h2.an h2.nn h2.cn, .slice h2.ag h2.ng h2.cg, .slice h2.ap h2.np h2.cp, .int .i64 q2.tik.kind, .int .i64 q2.tik.day, .int .i64 q2.tik.min, .string q2.rc, .slice h2.ar h2.nr h2.cr, .slice h2.ae h2.ne h2.ce, .bool q2.queued]).heap.size) q2 h2 ∧ Bx (w2.setRow wr.heap.size #[.string q2.loc, .string q2.off, .slice h2.an h2.nn h2.cn, .slice h2.ag h2.ng h2.cg, .slice h2.ap h2.np h2.cp, .int .i64 q2.tik.kind, .int .i64 q2.tik.day, .int .i64 q2.tik.min, .string q2.rc, .slice h2.ar h2.nr h2.cr, .slice h2.ae h2.ne h2.ce, .bool q2.queued]) wr.heap.size #[.string q2.loc, .string q2.off, .slice h2.an h2.nn h2.cn, .slice h2.ag h2.ng h2.cg, .slice h2.ap h2.np h2.cp, .int .i64 q2.tik.kind, .int .i64 q2.tik.day, .int .i64 q2.tik.min, .string q2.rc, .slice h2.ar h2.nr h2.cr, .slice h2.ae h2.ne h2.ce, .bool q2.queued] 29 ∧ w.heap.size < wr.heap.size :=
  ⟨⟨below_setRow hF2.B (Nat.le_of_lt hz) _, hF2.r1.rowOther (by omega) _⟩, (PS.keep hP fun a ha => cell_setRow_other _ _ _ _ (by have := ha.2; omega)).mono fun b h => ⟨h.1, by have := h.2; simp; omega⟩,
    (PS.keep o2.ps fun a ha => cell_setRow_other _ _ _ _ (by have := ha.1; omega)).mono fun b h => ⟨by have := h.1; omega, by have := h.2; simpa using this⟩, hbx.row _, hz⟩
end
theorem get_eq {α : Type} {l : List α} {k : Nat} {x : α} (h : l[k]? = some x) : l[k]'(lt_of_get h) = x := by
  have h2 := h
  rw [List.getElem?_eq_getElem (lt_of_get h)] at h2
  injection h2
theorem pnr0_small (N : Nat) : pnr0.small N := ⟨by simp [pnr0], by simp [pnr0], by simp [pnr0], by simp [pnr0], by simp [pnr0]⟩
set_option maxRecDepth 100000 in
set_option maxHeartbeats 8000000 in
theorem grows_early (p : Pnr) (h : Hd) (A : Option Addr) (n c : Nat) (w : World) (hsb : smallB h = false ∨ (smallB h = true ∧ 100 < n)) :
    Calls Tryd.prog 13 #[.agg #[.string p.loc, .string p.off, .slice h.an h.nn h.cn, .slice h.ag h.ng h.cg, .slice h.ap h.np h.cp, .int .i64 p.tik.kind, .int .i64 p.tik.day, .int .i64 p.tik.min, .string p.rc, .slice h.ar h.nr h.cr, .slice h.ae h.ne h.ce, .bool p.queued], .slice A n c] w (RetB w true) := by
  have hF := F1.start w #[.string p.loc, .string p.off, .slice h.an h.nn h.cn, .slice h.ag h.ng h.cg, .slice h.ap h.np h.cp, .int .i64 p.tik.kind, .int .i64 p.tik.day, .int .i64 p.tik.min, .string p.rc, .slice h.ar h.nr h.cr, .slice h.ae h.ne h.ce, .bool p.queued]
  rcases hsb with hsb | ⟨hsb, hn⟩
  all_goals
    try have hn1 : (100 : Int) < n := by omega
    try clear hn
    go_enter Tryd.func13, Tryd.ntmps13
    go_wp2_with fail
    refine (awake13_any _).mono ?_
    rintro en w1 ⟨rfl, hb1⟩
    have hF1 := hF.step hb1
    have x1 := hF1.c1
    go_wp2_with fail
    refine (small_any p h _).mono ?_
    rintro en w2 ⟨rfl, hb2⟩
    rw [hsb]
    have hF2 := hF1.step hb2
    clear x1 hb1 hb2 hF1 hF
    go_wp2
    go_ret
    exact ⟨rfl, hF2.B⟩
set_option maxRecDepth 100000 in
set_option maxHeartbeats 8000000 in
theorem grows_main (p : Pnr) (h : Hd) (es : List Edit) (A : Option Addr) (n c : Nat) (w : World) (hp : PAt w 0 w.heap.size p h) (hc : Caps h) (hes : Sl w 0 w.heap.size tEdit A n es) (hsb : smallB h = true) (hn : n ≤ 100) :
    Calls Tryd.prog 13 #[.agg #[.string p.loc, .string p.off, .slice h.an h.nn h.cn, .slice h.ag h.ng h.cg, .slice h.ap h.np h.cp, .int .i64 p.tik.kind, .int .i64 p.tik.day, .int .i64 p.tik.min, .string p.rc, .slice h.ar h.nr h.cr, .slice h.ae h.ne h.ce, .bool p.queued], .slice A n c] w (RetB w true) := by
  have HP := Lib.hid hp
  have HPS := Lib.hid (hp.ps hc)
  have HES := Lib.hid hes
  obtain ⟨s1, s2, s3, s4, s5⟩ := smallB_yes hsb
  have hps : p.small 1000 := ⟨by rw [hp.names.len]; omega, by rw [hp.segs.len]; omega, by rw [hp.phones.len]; omega, by rw [hp.remarks.len]; omega, by rw [hp.seats.len]; omega⟩
  have HS0 := Lib.hid hps
  have HSh := Lib.hid ((hps.mono (show 1000 ≤ 100000 by omega)).hd hp)
  have HNN : Hid (soundB p h.nn = soundB p p.names.length) := (by show soundB p h.nn = _; rw [hp.names.len])
  have hn1 : ¬ (100 : Int) < n := by omega
  clear hps hc hes s1 s2 s3 s4 s5 hp
  have hF := F1.start w #[.string p.loc, .string p.off, .slice h.an h.nn h.cn, .slice h.ag h.ng h.cg, .slice h.ap h.np h.cp, .int .i64 p.tik.kind, .int .i64 p.tik.day, .int .i64 p.tik.min, .string p.rc, .slice h.ar h.nr h.cr, .slice h.ae h.ne h.ce, .bool p.queued]
  go_enter Tryd.func13, Tryd.ntmps13
  go_wp2_with fail
  refine (awake13_any _).mono ?_
  rintro en w1 ⟨rfl, hb1⟩
  have hF1 := hF.step hb1
  have x1 := hF1.c1
  go_wp2_with fail
  refine (small_any p h _).mono ?_
  rintro en w2 ⟨rfl, hb2⟩
  rw [hsb]
  have hF2 := hF1.step hb2
  clear x1 hb1 hb2 hF1 hF
  have x1 := hF2.c1
  have z2 := hF2.z
  go_wp2_with fail
  refine (sound_any p h _ 0 w.heap.size (HP.out.below hF2.B (Nat.le_refl _)) HSh.out (Nat.le_of_lt z2)).mono ?_
  rintro en w3 ⟨rfl, hb3⟩
  have hF3 := hF2.step hb3
  have HPS3 := Lib.hid ((HPS.out.below hF3.B (fun b hb => hb.2)).mono (S' := fun b => b ≠ w.heap.size ∧ b < w3.heap.size) (fun b hb => by have := hF3.z; omega))
  rw [HNN.out]
  clear x1 hb3 hF2 z2
  have x1 := hF3.f1
  have z3 := hF3.z
  go_upto_if 20 with fail
  go_cut [4] (fun s w' => s = .bool false ∧ ∃ q hq, Hid (soundB q q.names.length = true) ∧ Hid (q.small 1000) ∧ F1 w #[.string q.loc, .string q.off, .slice hq.an hq.nn hq.cn, .slice hq.ag hq.ng hq.cg, .slice hq.ap hq.np hq.cp, .int .i64 q.tik.kind, .int .i64 q.tik.day, .int .i64 q.tik.min, .string q.rc, .slice hq.ar hq.nr hq.cr, .slice hq.ae hq.ne hq.ce, .bool q.queued] w' ∧ PS w' (fun b => b ≠ w.heap.size ∧ b < w'.heap.size) q hq)
  case first =>
    generalize hs : soundB p p.names.length = bs
    have HSB := Lib.hid hs
    clear hs
    rcases bs with _ | _
    · go_wp2_with (refine store_res rfl (.tmp 2) (.tmp 21) rfl #[.string ⟨#[]⟩, .string ⟨#[]⟩, .slice none 0 0, .slice none 0 0, .slice none 0 0, .int .i64 0, .int .i64 0, .int .i64 0, .string ⟨#[]⟩, .slice none 0 0, .slice none 0 0, .bool false] rfl rfl hF3.r1 rfl rfl (by simp [Value.oneCell']) ?_)
      go_meet
      exact ⟨rfl, pnr0, hd0, sound0, pnr0_small _, hF3.put _, ((pnr0_op _ (w.heap.size + 1)).ps.mono fun b hb => ⟨by omega, hb.2⟩)⟩
    · go_wp2
      go_meet
      exact ⟨rfl, p, h, HSB, HS0, hF3, HPS3.out⟩
  case rest =>
    clear hF3 HPS3 x1 z3
    obtain ⟨rfl, q, hq, HSB, HSM, hF, hP⟩ := hcut
    go_wp2
    go_loopw [5, 6, 7] (fun i _ _ wr => ∃ (k : Nat) (q : Pnr) (hq : Hd), k ≤ n ∧ i = .int .i64 k ∧ Hid (soundB q q.names.length = true) ∧ Hid (q.small (1000 + k)) ∧ F1 w #[.string q.loc, .string q.off, .slice hq.an hq.nn hq.cn, .slice hq.ag hq.ng hq.cg, .slice hq.ap hq.np hq.cp, .int .i64 q.tik.kind, .int .i64 q.tik.day, .int .i64 q.tik.min, .string q.rc, .slice hq.ar hq.nr hq.cr, .slice hq.ae hq.ne hq.ce, .bool q.queued] wr ∧ PS wr (fun b => b ≠ w.heap.size ∧ b < wr.heap.size) q hq) (fun i _ _ _ => n - (intOf i).toNat)
    case atStart => exact ⟨0, q, hq, Nat.zero_le _, rfl, HSB, HSM, hF, hP⟩
    case round =>
      clear hF hP HSB HSM
      obtain ⟨k, q, hq, hk, rfl, hin, hsm, hF, hP⟩ := hrel
      have x1 := hF.c1
      have z1 := hF.z
      by_cases hlt : k < n
      · obtain ⟨b, o, x, rfl, g1, g2, hx, hok, c0, c1, c2, c3, c4, c5, c6, c7, c8, c9, c10, c11, c12, c13, c14, c15⟩ := (HES.out.below hF.B (Nat.le_refl _)).edit_ hlt
        have hC : C16 wr b (o + k * 16) x := ⟨c0, c1, c2, c3, c4, c5, c6, c7, c8, c9, c10, c11, c12, c13, c14, c15⟩
        have hk0 : (0 : Int) ≤ k := by omega
        have hkl : (k : Int) < n := by omega
        have hbs : b < wr.heap.size := by omega
        have hnxt := applyF_small (e := x) hsm.out
        have HA := Lib.hid (fun (W : World) (S' : Nat → Prop) (h2 : PS W S' q hq) (h3 : ∀ b, S' b → b < W.heap.size) => papply_any q hq x W S' h2 h3 (hsm.out.mono (by omega)) hok)
        have hst := fun (q2 : Pnr) (h0 : applyF q x = (q2, 0)) => Lib.hid (grow_law (applyF_ok h0) hin.out)
        generalize applyF q x = r at hnxt HA hst
        obtain ⟨q2, f2⟩ := r
        dsimp only at hnxt
        have HST := Lib.hid (fun (h0 : f2 = 0) => hst q2 (by rw [h0]))
        have HNX := Lib.hid hnxt
        clear hst hnxt hx
        go_wp2
        have hFd := hF.drew
        have hPd := PS.drewN hP 1
        have hCd : C16 wr.drew b (o + k * 16) x := C16.keep hC fun _ => rfl
        have kfd := hFd.c1
        have hFe := hFd.alloc (.cells #[.string ⟨#[]⟩, .string ⟨#[]⟩, .slice none 0 0, .slice none 0 0, .slice none 0 0, .int .i64 0, .int .i64 0, .int .i64 0, .string ⟨#[]⟩, .slice none 0 0, .slice none 0 0, .bool false] 29)
        have hPe := PS.below (B := wr.drew.heap.size) hPd ((Below.refl _ _).alloc (Nat.le_refl _) (.cells #[.string ⟨#[]⟩, .string ⟨#[]⟩, .slice none 0 0, .slice none 0 0, .slice none 0 0, .int .i64 0, .int .i64 0, .int .i64 0, .string ⟨#[]⟩, .slice none 0 0, .slice none 0 0, .bool false] 29)) (fun b hb => hb.2)
        have hCe : C16 (wr.drew.alloc (.cells #[.string ⟨#[]⟩, .string ⟨#[]⟩, .slice none 0 0, .slice none 0 0, .slice none 0 0, .int .i64 0, .int .i64 0, .int .i64 0, .string ⟨#[]⟩, .slice none 0 0, .slice none 0 0, .bool false] 29)) b (o + k * 16) x := C16.below (B := wr.drew.heap.size) hCd ((Below.refl _ _).alloc (Nat.le_refl _) _) hbs
        have kfe := hFe.c1
        have hbx0 : Bx (wr.drew.alloc (.cells #[.string ⟨#[]⟩, .string ⟨#[]⟩, .slice none 0 0, .slice none 0 0, .slice none 0 0, .int .i64 0, .int .i64 0, .int .i64 0, .string ⟨#[]⟩, .slice none 0 0, .slice none 0 0, .bool false] 29)) wr.heap.size #[.string ⟨#[]⟩, .string ⟨#[]⟩, .slice none 0 0, .slice none 0 0, .slice none 0 0, .int .i64 0, .int .i64 0, .int .i64 0, .string ⟨#[]⟩, .slice none 0 0, .slice none 0 0, .bool false] 29 := Bx.new wr.drew _ _
        go_cut [6, 7] (fun sA sB w' => ∃ g h2, sA = .pointer (some ⟨g, 0, none⟩) ∧ sB = .int .i64 f2 ∧ F1 w #[.string q.loc, .string q.off, .slice hq.an hq.nn hq.cn, .slice hq.ag hq.ng hq.cg, .slice hq.ap hq.np hq.cp, .int .i64 q.tik.kind, .int .i64 q.tik.day, .int .i64 q.tik.min, .string q.rc, .slice hq.ar hq.nr hq.cr, .slice hq.ae hq.ne hq.ce, .bool q.queued] w' ∧ PS w' (fun b => b ≠ w.heap.size ∧ b < w'.heap.size) q hq ∧ PS w' (fun b => b ≠ w.heap.size ∧ b < w'.heap.size) q2 h2 ∧ Bx w' g #[.string q2.loc, .string q2.off, .slice h2.an h2.nn h2.cn, .slice h2.ag h2.ng h2.cg, .slice h2.ap h2.np h2.cp, .int .i64 q2.tik.kind, .int .i64 q2.tik.day, .int .i64 q2.tik.min, .string q2.rc, .slice h2.ar h2.nr h2.cr, .slice h2.ae h2.ne h2.ce, .bool q2.queued] 29 ∧ w.heap.size < g)
        case first =>
          go_region_held3 (fun w' => (∀ i : Nat, w'.cell? ⟨w.heap.size, i, none⟩ = (#[.string q.loc, .string q.off, .slice hq.an hq.nn hq.cn, .slice hq.ag hq.ng hq.cg, .slice hq.ap hq.np hq.cp, .int .i64 q.tik.kind, .int .i64 q.tik.day, .int .i64 q.tik.min, .string q.rc, .slice hq.ar hq.nr hq.cr, .slice hq.ae hq.ne hq.ce, .bool q.queued] : Array Value)[i]?) ∧ (w'.cell? ⟨b, o + k * 16, none⟩ = some (.int .i64 x.kind) ∧ w'.cell? ⟨b, o + k * 16 + 1, none⟩ = some (.string x.nam.last) ∧ w'.cell? ⟨b, o + k * 16 + 2, none⟩ = some (.string x.nam.first) ∧ w'.cell? ⟨b, o + k * 16 + 3, none⟩ = some (.string x.seg.car) ∧ w'.cell? ⟨b, o + k * 16 + 4, none⟩ = some (.int .i64 x.seg.num) ∧ w'.cell? ⟨b, o + k * 16 + 5, none⟩ = some (.int .i64 x.seg.day) ∧ w'.cell? ⟨b, o + k * 16 + 6, none⟩ = some (.int .u8 x.seg.cls) ∧ w'.cell? ⟨b, o + k * 16 + 7, none⟩ = some (.bool x.seg.live) ∧ w'.cell? ⟨b, o + k * 16 + 8, none⟩ = some (.int .i64 x.tik.kind) ∧ w'.cell? ⟨b, o + k * 16 + 9, none⟩ = some (.int .i64 x.tik.day) ∧ w'.cell? ⟨b, o + k * 16 + 10, none⟩ = some (.int .i64 x.tik.min) ∧ w'.cell? ⟨b, o + k * 16 + 11, none⟩ = some (.string x.text) ∧ w'.cell? ⟨b, o + k * 16 + 12, none⟩ = some (.int .i64 x.n) ∧ w'.cell? ⟨b, o + k * 16 + 13, none⟩ = some (.int .i64 x.pax) ∧ w'.cell? ⟨b, o + k * 16 + 14, none⟩ = some (.int .i64 x.row) ∧ w'.cell? ⟨b, o + k * 16 + 15, none⟩ = some (.int .u8 x.let_))) (refine ⟨?_, ?_⟩ <;> first | ((repeat (with_reducible refine boxed_set ?_ _ (by first | omega | (simp; omega)) _)); first | with_reducible exact kf2 | with_reducible exact kf2a _ | with_reducible exact kfd | with_reducible exact kfe | exact kfe | exact kf2a _) | (show C16 _ b (o + k * 16) x; (repeat (with_reducible refine C16.set ?_ (by first | omega | (simp; omega)) _)); first | with_reducible exact hC2 | with_reducible exact kc2a _ | with_reducible exact hCd | with_reducible exact hCe | exact hCe | exact kc2a _))
            (first
              | (go_at_call 25; refine (HA.out wr.drew _ hPd (fun b hb => hb.2)).mono ?_; rintro en w2 ⟨h2, rfl, o2, hb2⟩; have hF2 := hFd.step hb2; have hPq2 := PS.below (B := wr.drew.heap.size) hPd hb2 (fun b hb => hb.2); have hC2 : C16 w2 b (o + k * 16) x := C16.below hCd hb2 hbs; have hs2 := hb2.size; have hs3 : wr.heap.size ≤ w2.heap.size := hs2; have kf2 := hF2.c1; have kf2a := fun t => (hF2.alloc t).c1; have u4 : w.heap.size < w2.heap.size := hF2.z; have u5 : b < w2.heap.size := (by omega); have kc2a := fun t => C16.below (B := w2.heap.size) hC2 ((Below.refl _ _).alloc (Nat.le_refl _) t) u5)
              | (go_at_call 25; refine (HA.out (wr.drew.alloc (.cells #[.string ⟨#[]⟩, .string ⟨#[]⟩, .slice none 0 0, .slice none 0 0, .slice none 0 0, .int .i64 0, .int .i64 0, .int .i64 0, .string ⟨#[]⟩, .slice none 0 0, .slice none 0 0, .bool false] 29)) _ hPe (fun b hb => by have := hb.2; simp; omega)).mono ?_; rintro en w2 ⟨h2, rfl, o2, hb2⟩; have hF2 := hFe.step hb2; have hPq2 := PS.below (B := wr.drew.heap.size) hPe (hb2.mono (by simp)) (fun b hb => hb.2); have hC2 : C16 w2 b (o + k * 16) x := C16.below hCe hb2 (by simp; omega); have hbx2 := hbx0.below hb2 (by simp); have hq1 := Bx.cells hbx2; have hq2 := Bx.free hbx2; have hs2 := hb2.size; have hs3 : wr.heap.size < w2.heap.size := (by simp at hs2; omega); have kf2 := hF2.c1; have kf2a := fun t => (hF2.alloc t).c1; have u4 : w.heap.size < w2.heap.size := hF2.z; have u5 : b < w2.heap.size := (by omega); have kc2a := fun t => C16.below (B := w2.heap.size) hC2 ((Below.refl _ _).alloc (Nat.le_refl _) t) u5))
          · have key := end_alloc (q2 := q2) hF2 (by omega) hPq2 hs3 o2
            obtain ⟨k1, k2, k3, k4, k5⟩ := key
            generalize w2.alloc (.cells #[.string q2.loc, .string q2.off, .slice h2.an h2.nn h2.cn, .slice h2.ag h2.ng h2.cg, .slice h2.ap h2.np h2.cp, .int .i64 q2.tik.kind, .int .i64 q2.tik.day, .int .i64 q2.tik.min, .string q2.rc, .slice h2.ar h2.nr h2.cr, .slice h2.ae h2.ne h2.ce, .bool q2.queued] 29) = W9 at k1 k2 k3 k4 ⊢
            go_wp2
            go_meet
            exact ⟨_, h2, rfl, rfl, k1, k2, k3, k4, k5⟩
          · rw [set12 hbx2]
            have key := end_store (q2 := q2) hF2 (by omega) hPq2 hs3 (by have o3 := o2; rw [World.size_alloc] at o3; exact o3) hbx2
            generalize w2.setRow wr.heap.size #[.string q2.loc, .string q2.off, .slice h2.an h2.nn h2.cn, .slice h2.ag h2.ng h2.cg, .slice h2.ap h2.np h2.cp, .int .i64 q2.tik.kind, .int .i64 q2.tik.day, .int .i64 q2.tik.min, .string q2.rc, .slice h2.ar h2.nr h2.cr, .slice h2.ae h2.ne h2.ce, .bool q2.queued] = W9 at key ⊢
            obtain ⟨k1, k2, k3, k4, k5⟩ := key
            go_wp2
            go_meet
            exact ⟨_, h2, rfl, rfl, k1, k2, k3, k4, k5⟩
        case rest =>
          clear c0 c1 c2 c3 c4 c5 c6 c7 c8 c9 c10 c11 c12 c13 c14 c15 hC hF hP hFd hPd hCd hFe hPe hCe hbx0 HA kfd kfe
          obtain ⟨g, h2, rfl, rfl, hF, hP, hP2, hbx, hg1⟩ := hcut
          by_cases hf0 : f2 = 0
          · have hst := HST.out hf0
            have hne : (f2 != 0) = false := by rw [bne_eq_false_iff_eq]; exact hf0
            have hsm2 := Lib.hid (HNX.out.mono (show 1000 + k + 1 ≤ 100000 by omega))
            have hQA := hP2.at (lo := 0) (hi := wc.heap.size) (fun b hb => ⟨Nat.zero_le _, hb.2⟩)
            have HNN2 : Hid (soundB q2 h2.nn = true) := (by have hst2 := hst.out; show soundB q2 h2.nn = true; rw [← hQA.names.len]; exact hst2)
            have HQA := Lib.hid hQA
            have y1 := hbx.cells
            clear hf0 hQA x1 z1
            go_wp2_with fail
            refine (sound_any q2 h2 _ 0 wc.heap.size HQA.out (hsm2.out.hd HQA.out) (Nat.le_refl _)).mono ?_
            rintro en w5 ⟨rfl, hb5⟩
            rw [HNN2.out]
            have hF5 := hF.step hb5
            have hP5 := hP2.over hb5
            have hbx5 := hbx.below hb5 hbx.lt
            clear y1
            have y1 := hbx5.cells
            have y2 := hF5.f1
            have y3 := hF5.z
            go_wp2_with (refine store_res rfl (.tmp 2) (.tmp 42) rfl #[.string q2.loc, .string q2.off, .slice h2.an h2.nn h2.cn, .slice h2.ag h2.ng h2.cg, .slice h2.ap h2.np h2.cp, .int .i64 q2.tik.kind, .int .i64 q2.tik.day, .int .i64 q2.tik.min, .string q2.rc, .slice h2.ar h2.nr h2.cr, .slice h2.ae h2.ne h2.ce, .bool q2.queued] rfl rfl hF5.r1 rfl rfl (by simp [Value.oneCell']) ?_)
            go_roundw
            case rel => exact ⟨k + 1, q2, h2, by omega, by go_num, hst, HNX, hF5.put _, hP5.put _⟩
            case measure => simp [intOf]; omega
          · have hne : (f2 != 0) = true := by rw [bne_iff_ne]; exact hf0
            clear hf0 x1 z1
            go_wp2
            go_roundw
            case rel => exact ⟨k + 1, q, hq, by omega, by go_num, hin, hsm.out.mono (by omega), hF, hP⟩
            case measure => simp [intOf]; omega
      · obtain rfl : n = k := by omega
        go_wp2
        go_ret
        exact ⟨rfl, hF.B⟩
theorem checkGrows_any (p : Pnr) (h : Hd) (es : List Edit) (A : Option Addr) (n c : Nat) (w : World) (hp : PAt w 0 w.heap.size p h) (hc : Caps h) (hes : Sl w 0 w.heap.size tEdit A n es) :
    Calls Tryd.prog 13 #[.agg #[.string p.loc, .string p.off, .slice h.an h.nn h.cn, .slice h.ag h.ng h.cg, .slice h.ap h.np h.cp, .int .i64 p.tik.kind, .int .i64 p.tik.day, .int .i64 p.tik.min, .string p.rc, .slice h.ar h.nr h.cr, .slice h.ae h.ne h.ce, .bool p.queued], .slice A n c] w (RetB w true) := by
  rcases Bool.eq_false_or_eq_true (smallB h) with hsb | hsb
  case inr => exact grows_early p h A n c w (.inl hsb)
  by_cases hn : 100 < n
  · exact grows_early p h A n c w (.inr ⟨hsb, hn⟩)
  · exact grows_main p h es A n c w hp hc hes hsb (by omega)
end Go.Proofs.YtaakcccffmfmoaaDoor
