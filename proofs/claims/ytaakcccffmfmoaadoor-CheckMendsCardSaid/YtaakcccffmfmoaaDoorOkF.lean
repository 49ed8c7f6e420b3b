/- What an edit that is not refused leaves, kind by kind; what a PNR lacks then. -/
import Derived.Test.YtaakcccffmfmoaaDoorApply
import Derived.Test.YtaakcccffmfmoaaDoorLacks
namespace Go.Proofs.YtaakcccffmfmoaaDoor
set_option linter.unusedVariables false
open Go Go.RowKit
/-- What an edit that is not refused makes of a PNR. -/
inductive OkF (p : Pnr) (e : Edit) : Pnr → Prop
  | name (hk : e.kind = 1) (h0 : p.loc.toList.isEmpty = true) (h1 : nmB e.nam = true) (h2 : p.names.length < 9) : OkF p e { p with names := p.names ++ [e.nam] }
  | seg (hk : e.kind = 2) (h1 : segB e.seg = true) (h2 : e.seg.live = true) (h3 : dupL p.segs e.seg = false) (h4 : p.segs.length < 8) : OkF p e { p with segs := p.segs ++ [e.seg] }
  | phone (hk : e.kind = 3) (h1 : freeB e.text = true) (h2 : p.phones.length < 4) : OkF p e { p with phones := p.phones ++ [e.text] }
  | tik (hk : e.kind = 4) (h1 : tikB e.tik = true) : OkF p e { p with tik := e.tik, queued := false }
  | rc (hk : e.kind = 5) (h1 : freeB e.text = true) : OkF p e { p with rc := e.text }
  | remark (hk : e.kind = 6) (h1 : freeB e.text = true) (h2 : p.remarks.length < 10) : OkF p e { p with remarks := p.remarks ++ [e.text] }
  | cancel (hk : e.kind = 7) (h1 : liveN p.segs e.n = true) : OkF p e { p with segs := p.segs.modify (e.n - 1).toNat dead, seats := placesF p.seats e.n 0 }
  | seat (hk : e.kind = 8) (h1 : seatB e.row e.let_ = true) (h2 : whoseF p e = 0) (h3 : p.seats.any (takenB e) = false) : OkF p e { p with seats := insF e (placesF p.seats e.n e.pax) }
  | free (hk : e.kind = 9) (h2 : whoseF p e = 0) : OkF p e { p with seats := placesF p.seats e.n e.pax }
theorem ite_pair {α β : Type} {c : Prop} [Decidable c] {x y : α × β} {z : α × β} (h : (if c then x else y) = z) : (c ∧ x = z) ∨ (¬ c ∧ y = z) := by
  split at h
  · exact .inl ⟨by assumption, h⟩
  · exact .inr ⟨by assumption, h⟩
theorem changeF_ok {p q : Pnr} {e : Edit} (h : changeF p e = (q, 0)) : OkF p e q := by
  have N : ∀ {a : Pnr} {n : Int}, n ≠ 0 → (a, n) = (q, (0 : Int)) → False := fun hn h => hn (by injection h)
  have Y : ∀ {a : Pnr}, (a, (0 : Int)) = (q, (0 : Int)) → a = q := fun h => by injection h
  unfold changeF at h
  rcases ite_pair h with ⟨hk, h⟩ | ⟨hk1, h⟩
  · unfold nameF at h
    rcases ite_pair h with ⟨_, h⟩ | ⟨g1, h⟩
    · exact (N (by simp) h).elim
    rcases ite_pair h with ⟨_, h⟩ | ⟨g2, h⟩
    · exact (N (by simp) h).elim
    rcases ite_pair h with ⟨_, h⟩ | ⟨g3, h⟩
    · exact (N (by simp) h).elim
    obtain rfl := Y h
    exact .name hk (by simpa using g2) (by simpa using g1) (by omega)
  rcases ite_pair h with ⟨hk, h⟩ | ⟨hk2, h⟩
  · unfold segmentF at h
    rcases ite_pair h with ⟨_, h⟩ | ⟨g1, h⟩
    · exact (N (by simp) h).elim
    rcases ite_pair h with ⟨_, h⟩ | ⟨g2, h⟩
    · exact (N (by simp) h).elim
    rcases ite_pair h with ⟨_, h⟩ | ⟨g3, h⟩
    · exact (N (by simp) h).elim
    obtain rfl := Y h
    have g1' : (segB e.seg && e.seg.live) = true := by simpa using g1
    rw [Bool.and_eq_true] at g1'
    exact .seg hk g1'.1 g1'.2 (by simpa using g2) (by omega)
  rcases ite_pair h with ⟨hk, h⟩ | ⟨hk3, h⟩
  · unfold textF at h
    by_cases g1 : freeB e.text = false
    · rw [if_pos g1] at h
      exact (N (by simp) h).elim
    rw [if_neg g1] at h
    by_cases g2 : (4 : Int) ≤ p.phones.length
    · rw [if_pos g2] at h
      exact (N (by simp) h).elim
    rw [if_neg g2] at h
    obtain rfl := Y h
    exact .phone hk (by simpa using g1) (by omega)
  rcases ite_pair h with ⟨hk, h⟩ | ⟨hk4, h⟩
  · rcases ite_pair h with ⟨_, h⟩ | ⟨g1, h⟩
    · exact (N (by simp) h).elim
    obtain rfl := Y h
    exact .tik hk (by simpa using g1)
  rcases ite_pair h with ⟨hk, h⟩ | ⟨hk5, h⟩
  · rcases ite_pair h with ⟨_, h⟩ | ⟨g1, h⟩
    · exact (N (by simp) h).elim
    obtain rfl := Y h
    exact .rc hk (by simpa using g1)
  rcases ite_pair h with ⟨hk, h⟩ | ⟨hk6, h⟩
  · unfold textF at h
    by_cases g1 : freeB e.text = false
    · rw [if_pos g1] at h
      exact (N (by simp) h).elim
    rw [if_neg g1] at h
    by_cases g2 : (10 : Int) ≤ p.remarks.length
    · rw [if_pos g2] at h
      exact (N (by simp) h).elim
    rw [if_neg g2] at h
    obtain rfl := Y h
    exact .remark hk (by simpa using g1) (by omega)
  rcases ite_pair h with ⟨hk, h⟩ | ⟨hk7, h⟩
  · unfold cancelF at h
    rcases ite_pair h with ⟨_, h⟩ | ⟨g1, h⟩
    · exact (N (by simp) h).elim
    obtain rfl := Y h
    exact .cancel hk (by simpa using g1)
  rcases ite_pair h with ⟨hk, h⟩ | ⟨hk8, h⟩
  · unfold seatF at h
    rcases ite_pair h with ⟨_, h⟩ | ⟨g1, h⟩
    · exact (N (by simp) h).elim
    rcases ite_pair h with ⟨g2, h⟩ | ⟨g2, h⟩
    · exact (N g2 h).elim
    rcases ite_pair h with ⟨_, h⟩ | ⟨g3, h⟩
    · exact (N (by simp) h).elim
    obtain rfl := Y h
    exact .seat hk (by simpa using g1) (by simpa using g2) (by simpa using g3)
  rcases ite_pair h with ⟨hk, h⟩ | ⟨hk9, h⟩
  · unfold freeF at h
    rcases ite_pair h with ⟨g2, h⟩ | ⟨g2, h⟩
    · exact (N g2 h).elim
    rcases ite_pair h with ⟨_, h⟩ | ⟨g3, h⟩
    · exact (N (by simp) h).elim
    obtain rfl := Y h
    exact .free hk (by simpa using g2)
  · exact (N (by simp) h).elim
theorem applyF_ok {p q : Pnr} {e : Edit} (h : applyF p e = (q, 0)) : OkF p e q := by
  unfold applyF at h
  rcases ite_pair h with ⟨g, h⟩ | ⟨g, h⟩
  · injection h with _ h
    exact absurd h g
  · injection h with h _
    exact changeF_ok (by rw [← h]; exact Prod.ext rfl (by simpa using g))
/-- What is lacking, said of the lists. -/
def lackP (p : Pnr) (c : Int) : Prop := (c = 20 ∧ p.names = []) ∨ (c = 21 ∧ liveF 0 p.segs = []) ∨ (c = 22 ∧ p.phones = []) ∨ (c = 23 ∧ p.tik.kind = 0) ∨ (c = 24 ∧ p.rc.toList.isEmpty = true)
theorem lacks_mem {w : World} {lo hi : Nat} {p : Pnr} {h : Hd} (hp : PAt w lo hi p h) (c : Int) : c ∈ lacksF p h ↔ lackP p c := by
  have h1 : ((h.nn : Int) == 0) = decide (p.names = []) := by rw [← hp.names.len, Bool.eq_iff_iff]; simp
  have h2 : (((liveF 0 p.segs).length : Int) == 0) = decide (liveF 0 p.segs = []) := by rw [Bool.eq_iff_iff]; simp
  have h3 : ((h.np : Int) == 0) = decide (p.phones = []) := by rw [← hp.phones.len, Bool.eq_iff_iff]; simp
  have h4 : (p.tik.kind == 0) = decide (p.tik.kind = 0) := by rw [Bool.eq_iff_iff]; simp
  unfold lacksF lackT picks lackP
  rw [h1, h2, h3, h4]
  simp only [List.mem_flatMap, List.mem_cons, List.not_mem_nil, or_false]
  constructor
  · rintro ⟨x, hx, hc⟩
    rcases hx with rfl | rfl | rfl | rfl | rfl <;> dsimp only at hc <;> split at hc <;> simp_all
  · rintro (⟨rfl, hx⟩ | ⟨rfl, hx⟩ | ⟨rfl, hx⟩ | ⟨rfl, hx⟩ | ⟨rfl, hx⟩)
    · exact ⟨_, .inl rfl, by simp [hx]⟩
    · exact ⟨_, .inr (.inl rfl), by simp [hx]⟩
    · exact ⟨_, .inr (.inr (.inl rfl)), by simp [hx]⟩
    · exact ⟨_, .inr (.inr (.inr (.inl rfl))), by simp [hx]⟩
    · exact ⟨_, .inr (.inr (.inr (.inr rfl))), by simp [hx]⟩
theorem free_ne {s : ByteArray} (h : freeB s = true) : s.toList.isEmpty = false := by
  rw [isEmpty_size]
  unfold freeB at h
  simp only [Bool.and_eq_true, decide_eq_true_eq] at h
  exact decide_eq_false (by omega)
theorem liveF_nil : ∀ {l : List Seg} {i : Nat}, liveF i l = [] ↔ ∀ s, s ∈ l → s.live = false
  | [], i => by simp [liveF]
  | s :: t, i => by
    unfold liveF
    split
    · rename_i hs
      simp [hs]
    · rename_i hs
      rw [liveF_nil]
      simp at hs
      simp [hs]
theorem live_not_nil {l : List Seg} {n : Int} (h : liveN l n = true) : liveF 0 l ≠ [] := by
  intro h0
  rw [liveF_nil] at h0
  simp only [liveN, Bool.and_eq_true, decide_eq_true_eq, lvI] at h
  cases hx : l[(n - 1).toNat]? with
  | none => rw [hx] at h; simp at h
  | some x =>
    rw [hx] at h
    have := h0 x (List.mem_of_getElem? hx)
    have h' : x.live = true := h.2
    rw [this] at h'
    cases h'
/-- P13.1: what is mended, and nothing else. -/
theorem mends {p q : Pnr} {e : Edit} (h : OkF p e q) (c : Int) (hc : lackP p c) : lackP q c ↔ ¬ (e.kind = c - 19) := by
  cases h with
  | name hk _ _ _ => unfold lackP at hc ⊢; rcases hc with ⟨rfl, hx⟩ | ⟨rfl, hx⟩ | ⟨rfl, hx⟩ | ⟨rfl, hx⟩ | ⟨rfl, hx⟩ <;> simp [hk, hx]
  | seg hk _ h2 _ _ =>
    have hl : ¬ liveF 0 (p.segs ++ [e.seg]) = [] := by rw [liveF_nil]; intro h'; have := h' e.seg (by simp); rw [h2] at this; cases this
    unfold lackP at hc ⊢
    rcases hc with ⟨rfl, hx⟩ | ⟨rfl, hx⟩ | ⟨rfl, hx⟩ | ⟨rfl, hx⟩ | ⟨rfl, hx⟩ <;> simp [hk, hx, hl]
  | phone hk _ _ => unfold lackP at hc ⊢; rcases hc with ⟨rfl, hx⟩ | ⟨rfl, hx⟩ | ⟨rfl, hx⟩ | ⟨rfl, hx⟩ | ⟨rfl, hx⟩ <;> simp [hk, hx]
  | tik hk h1 =>
    have ht : ¬ e.tik.kind = 0 := by
      intro h0
      unfold tikB at h1
      rw [h0] at h1
      simp at h1
    unfold lackP at hc ⊢
    rcases hc with ⟨rfl, hx⟩ | ⟨rfl, hx⟩ | ⟨rfl, hx⟩ | ⟨rfl, hx⟩ | ⟨rfl, hx⟩ <;> simp [hk, hx, ht]
  | rc hk h1 =>
    have ht := free_ne h1
    unfold lackP at hc ⊢
    rcases hc with ⟨rfl, hx⟩ | ⟨rfl, hx⟩ | ⟨rfl, hx⟩ | ⟨rfl, hx⟩ | ⟨rfl, hx⟩ <;> simp [hk, hx, ht]
    all_goals simpa using ht
  | remark hk _ _ => unfold lackP at hc ⊢; rcases hc with ⟨rfl, hx⟩ | ⟨rfl, hx⟩ | ⟨rfl, hx⟩ | ⟨rfl, hx⟩ | ⟨rfl, hx⟩ <;> simp_all
  | cancel hk h1 =>
    have hl := live_not_nil h1
    unfold lackP at hc ⊢
    rcases hc with ⟨rfl, hx⟩ | ⟨rfl, hx⟩ | ⟨rfl, hx⟩ | ⟨rfl, hx⟩ | ⟨rfl, hx⟩
    · simp [hk, hx]
    · exact absurd hx hl
    · simp [hk, hx]
    · simp [hk, hx]
    · simp_all
  | seat hk _ _ _ => unfold lackP at hc ⊢; rcases hc with ⟨rfl, hx⟩ | ⟨rfl, hx⟩ | ⟨rfl, hx⟩ | ⟨rfl, hx⟩ | ⟨rfl, hx⟩ <;> simp_all
  | free hk _ => unfold lackP at hc ⊢; rcases hc with ⟨rfl, hx⟩ | ⟨rfl, hx⟩ | ⟨rfl, hx⟩ | ⟨rfl, hx⟩ | ⟨rfl, hx⟩ <;> simp_all
theorem mends_new {p q : Pnr} {e : Edit} (h : OkF p e q) (c : Int) (hc : lackP q c) : lackP p c ∨ (c = 21 ∧ e.kind = 7) := by
  cases h with
  | name hk _ _ _ => unfold lackP at hc ⊢; simp at hc; rcases hc with h | h | h | h <;> simp [h]
  | seg hk _ h2 _ _ =>
    have hl : ¬ liveF 0 (p.segs ++ [e.seg]) = [] := by rw [liveF_nil]; intro h'; have := h' e.seg (by simp); rw [h2] at this; cases this
    unfold lackP at hc ⊢
    simp [hl] at hc
    rcases hc with h | h | h | h <;> simp [h]
  | phone hk _ _ => unfold lackP at hc ⊢; simp at hc; rcases hc with h | h | h | h <;> simp [h]
  | tik hk h1 =>
    have ht : ¬ e.tik.kind = 0 := by
      intro h0
      unfold tikB at h1
      rw [h0] at h1
      simp at h1
    unfold lackP at hc ⊢
    simp [ht] at hc
    rcases hc with h | h | h | h <;> simp [h]
  | rc hk h1 =>
    have ht := free_ne h1
    unfold lackP at hc ⊢
    dsimp only at hc
    rw [ht] at hc
    simp at hc
    rcases hc with h | h | h | h <;> simp [h]
  | remark hk _ _ => exact .inl hc
  | cancel hk h1 =>
    unfold lackP at hc ⊢
    rcases hc with h | h | h | h | h
    · exact .inl (.inl h)
    · exact .inr ⟨h.1, hk⟩
    · exact .inl (.inr (.inr (.inl h)))
    · exact .inl (.inr (.inr (.inr (.inl h))))
    · exact .inl (.inr (.inr (.inr (.inr h))))
  | seat hk _ _ _ => exact .inl hc
  | free hk _ => exact .inl hc
end Go.Proofs.YtaakcccffmfmoaaDoor
