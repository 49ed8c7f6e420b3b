/- What an edit that is not refused leaves, kind by kind. -/
import Derived.Test.YtaakcccffmfmoaaDoorApply
namespace Go.Proofs.YtaakcccffmfmoaaDoor
set_option linter.unusedVariables false
open Go Go.RowKit
/-- What an edit that is not refused makes of a PNR. -/
inductive OkF (p : Pnr) (e : Edit) : Pnr → Prop
  | name (hk : e.kind = 1) (h0 : p.loc.toList.isEmpty = true) (h1 : nmB e.nam = true) (h2 : p.names.length < 9) : OkF p e { p with names := p.names ++ [e.nam] }
  | seg (hk : e.kind = 2) (h1 : segB e.seg = true) (h2 : e.seg.live = true) (h3 : dupL p.segs e.seg = false) (h4 : p.segs.length < 8) : OkF p e { p with segs := p.segs ++ [e.seg] }
  | phone (hk : e.kind = 3) (h1 : freeB e.text = true) (h2 : p.phones.length < 4) : OkF p e { p with phones := p.phones ++ [e.text] }
  | tik (hk : e.kind = 4) (h1 : tikB e.tik = true) : OkF p e { p with tik := e.tik, queued := false }
  | rc (hk : e.kind = 5) (h1 : freeB e.text = true) : OkF p e { p with rc := e.text }
  | remark (hk : e.kind = 6) (h1 : freeB e.text = true) (h2 : p.remarks.length < 10) : OkF p e { p with remarks := p.remarks ++ [e.text] }
  | cancel (hk : e.kind = 7) (h1 : liveN p.segs e.n = true) : OkF p e { p with segs := p.segs.modify (e.n - 1).toNat dead, seats := placesF p.seats e.n 0 }
  | seat (hk : e.kind = 8) (h1 : seatB e.row e.let_ = true) (h2 : whoseF p e = 0) (h3 : p.seats.any (takenB e) = false) : OkF p e { p with seats := insF e (placesF p.seats e.n e.pax) }
  | free (hk : e.kind = 9) (h2 : whoseF p e = 0) : OkF p e { p with seats := placesF p.seats e.n e.pax }
theorem ite_pair {α β : Type} {c : Prop} [Decidable c] {x y : α × β} {z : α × β} (h : (if c then x else y) = z) : (c ∧ x = z) ∨ (¬ c ∧ y = z) := by
  split at h
  · exact .inl ⟨by assumption, h⟩
  · exact .inr ⟨by assumption, h⟩
theorem changeF_ok {p q : Pnr} {e : Edit} (h : changeF p e = (q, 0)) : OkF p e q := by
  have N : ∀ {a : Pnr} {n : Int}, n ≠ 0 → (a, n) = (q, (0 : Int)) → False := fun hn h => hn (by injection h)
  have Y : ∀ {a : Pnr}, (a, (0 : Int)) = (q, (0 : Int)) → a = q := fun h => by injection h
  unfold changeF at h
  rcases ite_pair h with ⟨hk, h⟩ | ⟨hk1, h⟩
  · unfold nameF at h
    rcases ite_pair h with ⟨_, h⟩ | ⟨g1, h⟩
    · exact (N (by simp) h).elim
    rcases ite_pair h with ⟨_, h⟩ | ⟨g2, h⟩
    · exact (N (by simp) h).elim
    rcases ite_pair h with ⟨_, h⟩ | ⟨g3, h⟩
    · exact (N (by simp) h).elim
    obtain rfl := Y h
    exact .name hk (by simpa using g2) (by simpa using g1) (by omega)
  rcases ite_pair h with ⟨hk, h⟩ | ⟨hk2, h⟩
  · unfold segmentF at h
    rcases ite_pair h with ⟨_, h⟩ | ⟨g1, h⟩
    · exact (N (by simp) h).elim
    rcases ite_pair h with ⟨_, h⟩ | ⟨g2, h⟩
    · exact (N (by simp) h).elim
    rcases ite_pair h with ⟨_, h⟩ | ⟨g3, h⟩
    · exact (N (by simp) h).elim
    obtain rfl := Y h
    have g1' : (segB e.seg && e.seg.live) = true := by simpa using g1
    rw [Bool.and_eq_true] at g1'
    exact .seg hk g1'.1 g1'.2 (by simpa using g2) (by omega)
  rcases ite_pair h with ⟨hk, h⟩ | ⟨hk3, h⟩
  · unfold textF at h
    by_cases g1 : freeB e.text = false
    · rw [if_pos g1] at h
      exact (N (by simp) h).elim
    rw [if_neg g1] at h
    by_cases g2 : (4 : Int) ≤ p.phones.length
    · rw [if_pos g2] at h
      exact (N (by simp) h).elim
    rw [if_neg g2] at h
    obtain rfl := Y h
    exact .phone hk (by simpa using g1) (by omega)
  rcases ite_pair h with ⟨hk, h⟩ | ⟨hk4, h⟩
  · rcases ite_pair h with ⟨_, h⟩ | ⟨g1, h⟩
    · exact (N (by simp) h).elim
    obtain rfl := Y h
    exact .tik hk (by simpa using g1)
  rcases ite_pair h with ⟨hk, h⟩ | ⟨hk5, h⟩
  · rcases ite_pair h with ⟨_, h⟩ | ⟨g1, h⟩
    · exact (N (by simp) h).elim
    obtain rfl := Y h
    exact .rc hk (by simpa using g1)
  rcases ite_pair h with ⟨hk, h⟩ | ⟨hk6, h⟩
  · unfold textF at h
    by_cases g1 : freeB e.text = false
    · rw [if_pos g1] at h
      exact (N (by simp) h).elim
    rw [if_neg g1] at h
    by_cases g2 : (10 : Int) ≤ p.remarks.length
    · rw [if_pos g2] at h
      exact (N (by simp) h).elim
    rw [if_neg g2] at h
    obtain rfl := Y h
    exact .remark hk (by simpa using g1) (by omega)
  rcases ite_pair h with ⟨hk, h⟩ | ⟨hk7, h⟩
  · unfold cancelF at h
    rcases ite_pair h with ⟨_, h⟩ | ⟨g1, h⟩
    · exact (N (by simp) h).elim
    obtain rfl := Y h
    exact .cancel hk (by simpa using g1)
  rcases ite_pair h with ⟨hk, h⟩ | ⟨hk8, h⟩
  · unfold seatF at h
    rcases ite_pair h with ⟨_, h⟩ | ⟨g1, h⟩
    · exact (N (by simp) h).elim
    rcases ite_pair h with ⟨g2, h⟩ | ⟨g2, h⟩
    · exact (N g2 h).elim
    rcases ite_pair h with ⟨_, h⟩ | ⟨g3, h⟩
    · exact (N (by simp) h).elim
    obtain rfl := Y h
    exact .seat hk (by simpa using g1) (by simpa using g2) (by simpa using g3)
  rcases ite_pair h with ⟨hk, h⟩ | ⟨hk9, h⟩
  · unfold freeF at h
    rcases ite_pair h with ⟨g2, h⟩ | ⟨g2, h⟩
    · exact (N g2 h).elim
    rcases ite_pair h with ⟨_, h⟩ | ⟨g3, h⟩
    · exact (N (by simp) h).elim
    obtain rfl := Y h
    exact .free hk (by simpa using g2)
  · exact (N (by simp) h).elim
theorem applyF_ok {p q : Pnr} {e : Edit} (h : applyF p e = (q, 0)) : OkF p e q := by
  unfold applyF at h
  rcases ite_pair h with ⟨g, h⟩ | ⟨g, h⟩
  · injection h with _ h
    exact absurd h g
  · injection h with h _
    exact changeF_ok (by rw [← h]; exact Prod.ext rfl (by simpa using g))
end Go.Proofs.YtaakcccffmfmoaaDoor
