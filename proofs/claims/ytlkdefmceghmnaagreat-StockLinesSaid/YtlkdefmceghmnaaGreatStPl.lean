/- Stock's laws in plain: what is sold stays within the levels. -/
import Derived.Test.YtlkdefmceghmnaaGreatStLaw
namespace Go.Proofs.YtlkdefmceghmnaaGreat
set_option linter.unusedVariables false
open Go Go.RowKit Go.Sort
/-- No more than the level, nor fewer than none. -/
def NV (fs : List Flt) (q : Cel → Int) : Prop := ∀ c : Cel, 0 ≤ q c ∧ q c ≤ (levelF fs c.leg c.cl).1
theorem NV.qb {fs : List Flt} {q : Cel → Int} (h : NV fs q) (hr : ∀ f ∈ fs, rightB f = true) : QB q := fun c => ⟨(h c).1, Int.le_trans (h c).2 (level_le hr c.leg c.cl).2⟩
theorem NV.zero {fs : List Flt} (hr : ∀ f ∈ fs, rightB f = true) : NV fs (fun _ => 0) := fun c => ⟨Int.le_refl _, (level_le hr c.leg c.cl).1⟩
theorem NV.upd {fs : List Flt} {q : Cel → Int} (h : NV fs q) {c : Cel} {z : Int} (h0 : 0 ≤ z) (h1 : z ≤ (levelF fs c.leg c.cl).1) : NV fs (updQ q c z) := fun d => by
  by_cases e : d = c
  · rw [e, updQ_same]; exact ⟨h0, h1⟩
  · rw [updQ_other _ _ _ e]; exact h d
theorem wrap64_small {z : Int} (h0 : -9223372036854775808 ≤ z) (h1 : z ≤ 9223372036854775807) : wrap64 z = z := by unfold wrap64; omega
theorem sell_facts (lv : Int × Int) (z n : Int) : (1 ≤ n ∧ n ≤ 9 ∧ z + n ≤ lv.1 ∧ sellF lv z n = (0, z + n)) ∨ ∃ k, k ≠ 0 ∧ sellF lv z n = (k, z) := by
  unfold sellF
  split
  · exact .inr ⟨1, by decide, rfl⟩
  · split
    · rename_i h; exact .inr ⟨lv.2, h, rfl⟩
    · split
      · exact .inr ⟨13, by decide, rfl⟩
      · exact .inl ⟨by omega, by omega, by omega, rfl⟩
theorem canc_facts (lv : Int × Int) (z n : Int) : (1 ≤ n ∧ n ≤ 9 ∧ n ≤ z ∧ cancF lv z n = (0, z - n)) ∨ ∃ k, k ≠ 0 ∧ cancF lv z n = (k, z) := by
  unfold cancF
  split
  · exact .inr ⟨1, by decide, rfl⟩
  · split
    · rename_i h; exact .inr ⟨lv.2, h, rfl⟩
    · split
      · exact .inr ⟨7, by decide, rfl⟩
      · exact .inl ⟨by omega, by omega, by omega, rfl⟩
theorem sell_full (lv : Int × Int) (z n : Int) : (1 ≤ n ∧ n ≤ 9 ∧ lv.2 = 0 ∧ z + n ≤ lv.1 ∧ sellF lv z n = (0, z + n)) ∨ ∃ k, k ≠ 0 ∧ sellF lv z n = (k, z) := by
  unfold sellF
  split
  · exact .inr ⟨1, by decide, rfl⟩
  · split
    · rename_i h; exact .inr ⟨lv.2, h, rfl⟩
    · split
      · exact .inr ⟨13, by decide, rfl⟩
      · exact .inl ⟨by omega, by omega, by omega, by omega, rfl⟩
theorem sellF_yes {lv : Int × Int} {z n : Int} (h1 : 1 ≤ n) (h9 : n ≤ 9) (hv : lv.2 = 0) (hle : z + n ≤ lv.1) : sellF lv z n = (0, z + n) := by
  unfold sellF
  rw [if_neg (by omega), if_neg (by omega), if_neg (by omega)]
theorem cancF_yes {lv : Int × Int} {z n : Int} (h1 : 1 ≤ n) (h9 : n ≤ 9) (hv : lv.2 = 0) (hle : n ≤ z) : cancF lv z n = (0, z - n) := by
  unfold cancF
  rw [if_neg (by omega), if_neg (by omega), if_neg (by omega)]
theorem NV.sell {l : List Flt} {rs : List FlR} {q : Cel → Int} (h : NV l q) (T : Tab l (rs.map (·.f))) {g : Leg} {cl m : Int} : NV l (updQ q ⟨g, cl⟩ (sellF (levelF (rs.map (·.f)) g cl) (q ⟨g, cl⟩) m).2) := by
  have h0 := h ⟨g, cl⟩
  rw [T.level]
  rcases sell_facts (levelF l g cl) (q ⟨g, cl⟩) m with ⟨m1, m9, hle, hr⟩ | ⟨k, hk, hr⟩
  · rw [hr]
    exact h.upd (show 0 ≤ q ⟨g, cl⟩ + m by have := h0.1; omega) hle
  · rw [hr]
    exact h.upd h0.1 h0.2
theorem kb_cell {W W' : World} {b k : Nat} (h : Kb b W W') (hk : k < W.heap.size) (hne : k ≠ b) (o : Nat) : W'.cell? ⟨k, o, none⟩ = W.cell? ⟨k, o, none⟩ := by
  have h1 := h.block k hk hne
  exact World.cell?_of_block h1
theorem eql_stk (w : World) (a : Addr) : (binOp .eql 31 (.pointer (some a)) (.pointer none)).run Tryz.prog w = .ok (.bool false) w := by kernel_rfl
/-- A stock is as it was, where another one's map alone is written. -/
theorem SK.kb {W W' : World} {lo hi t p b b' : Nat} {rs : List FlR} {q : Cel → Int} (h : SK W lo hi t p b rs q) (hk : Kb b' W W') (h1 : p ≠ b') (h2 : b ≠ b') (h3 : hi ≤ b') : SK W' lo hi t p b rs q := by
  have z1 := h.plt
  have z2 := h.blt
  have z3 := h.hp
  obtain ⟨w3, ht, hs, hkk⟩ := h.tab
  obtain ⟨g, hm, hg⟩ := h.mp
  exact ⟨⟨w3, ht, hs, fun k q1 q2 => (hk.block k (by omega) (by omega)).trans (hkk k q1 q2)⟩, h.box.kb hk h1, ⟨g, hm.keep (hk.block b z2 h2), hg⟩, h.hp, h.hb, h.ne⟩
end Go.Proofs.YtlkdefmceghmnaaGreat
