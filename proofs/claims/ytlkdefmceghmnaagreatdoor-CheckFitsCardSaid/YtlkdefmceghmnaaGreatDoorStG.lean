/- Legs: their order; the comparison by which they are sorted. -/
import Derived.Test.YtlkdefmceghmnaaGreatDoorFlTab
import Derived.Test.YtlkdefmceghmnaaGreatDoorSortFz
namespace Go.Proofs.YtlkdefmceghmnaaGreatDoor
set_option linter.unusedVariables false
open Go Go.RowKit Go.Sort
open Go.WideMaps (KeyLaw)
def legV (g : Leg) : Value := .agg #[.string g.key.car, .int .i64 g.key.num, .int .i64 g.day]
def tLeg : Ty Leg := ⟨fun g => [.string g.key.car, .int .i64 g.key.num, .int .i64 g.day], 3, Leg.ok, fun _ => rfl, fun x u h => by simp at h; rcases h with h | h | h <;> subst h <;> rfl, by omega⟩
theorem legV_inj {a b : Leg} (h : legV a = legV b) : a = b := by
  obtain ⟨⟨a0, a1⟩, a2⟩ := a
  obtain ⟨⟨b0, b1⟩, b2⟩ := b
  unfold legV at h
  simp at h
  obtain ⟨h1, h2, h3⟩ := h
  rw [h1, h2, h3]
/-- A class of a leg. -/
structure Cel where
  leg : Leg
  cl : Int
def cellV (c : Cel) : Value := .agg #[.string c.leg.key.car, .int .i64 c.leg.key.num, .int .i64 c.leg.day, .int .u8 c.cl]
theorem cellV_inj {a b : Cel} (h : cellV a = cellV b) : a = b := by
  obtain ⟨⟨⟨a0, a1⟩, a2⟩, a3⟩ := a
  obtain ⟨⟨⟨b0, b1⟩, b2⟩, b3⟩ := b
  unfold cellV at h
  simp at h
  obtain ⟨h1, h2, h3, h4⟩ := h
  rw [h1, h2, h3, h4]
def Cel.ok (c : Cel) : Prop := c.leg.ok ∧ okByte c.cl
theorem lawLeg : KeyLaw Tryz.prog 74 := deep_law_laid laidOutF (m := 3) (by omega) (of_decide_eq_true (by kernel_rfl)) (by kernel_rfl) (by kernel_rfl)
theorem cLeg : Tryz.prog.cellsOf 74 = 3 := by kernel_rfl
theorem cByte : Tryz.prog.cellsOf 5 = 1 := by kernel_rfl
set_option maxRecDepth 100000 in
theorem legKey (g : Leg) (h : g.ok) : ∃ l, keyOf Tryz.prog 74 (legV g) = some l := by
  obtain ⟨⟨h1, h2⟩, h3⟩ := h
  unfold okStr at h1
  unfold okInt at h2 h3
  have w1 : g.key.car.size ≤ maxLen := by unfold maxLen; omega
  have w2 := WalkArith.wf_i64 h2
  have w3 := WalkArith.wf_i64 h3
  have kt : Tryz.prog.keyType 74 = true := by kernel_rfl
  obtain ⟨n, hn⟩ := szT
  have hf : (legV g).formed Tryz.prog 74 = true := by
    simp only [Value.formed, legV, Tryz.underlying74, cLeg]
    rfl
  have hL : ∃ l, Tryz.prog.keyLits (n + 4) 74 [.string g.key.car, .int .i64 g.key.num, .int .i64 g.day] = some l := by
    simp [Program.keyLits, Tryz.underlying74, Tryz.underlying52, Tryz.underlying9, Tryz.underlying3, cLeg, cKey, cStr, cInt, w1, w2, w3]
    rw [if_pos (by intro i hi; rcases i with _ | _ | i <;> first | (simp; done) | omega)]
    exact ⟨_, rfl⟩
  obtain ⟨l, hl⟩ := hL
  refine ⟨.string (keyBytes l), ?_⟩
  unfold keyOf
  rw [Tryz.underlying74]
  dsimp only
  rw [kt, hf, Bool.true_and, if_pos rfl, hn]
  show (Tryz.prog.keyLits (n + 4) 74 [.string g.key.car, .int .i64 g.key.num, .int .i64 g.day]).map _ = _
  rw [hl]
  rfl
theorem szT5 : ∃ n, Tryz.prog.types.size + 1 = n + 5 := by
  have : (4 : Nat) ≤ Tryz.prog.types.size := of_decide_eq_true (by kernel_rfl)
  exact ⟨Tryz.prog.types.size - 4, by omega⟩
/-- The order of legs: by carrier, by number, by day. -/
def ltG : Leg → Leg → Bool := ltY (·.key.car) (ltX (·.key.num) (ltX (·.day) ltNo))
theorem lts_g : Lts ltG := lts_y (lts_x (lts_x lts_no _) _) _
def cmpG : Leg → Leg → Int := cmpY (·.key.car) (cmpX (·.key.num) (cmpX (·.day) fun _ _ => 0))
theorem cmpG_lt (a b : Leg) : decide (cmpG a b < 0) = ltG a b := cmpY_lt (cmpX_lt (cmpX_lt (fun _ _ => rfl) _) _) _ _ _
theorem or_cmpG (a b : Leg) : orF [cmpS a.key.car b.key.car, cmpN a.key.num b.key.num, cmpN a.day b.day] = cmpG a b := by
  unfold cmpG cmpY cmpX orF orF orF orF
  dsimp only
theorem ltG_or {a b : Leg} (h : a ≠ b) : ltG a b = true ∨ ltG b a = true := by
  rcases Bool.eq_false_or_eq_true (ltG a b) with h1 | h1
  · exact .inl h1
  rcases Bool.eq_false_or_eq_true (ltG b a) with h2 | h2
  · exact .inr h2
  exfalso
  unfold ltG at h1 h2
  rw [ltY_no, ltX_no, ltX_no] at h1 h2
  simp only [ltNo] at h1 h2
  rcases h1 with h1 | ⟨e1, h1⟩
  · rcases h2 with h2 | ⟨e2, _⟩
    · rw [ltS_asym h1] at h2; cases h2
    · rw [e2, ltS_irr] at h1; cases h1
  · rcases h2 with h2 | ⟨_, h2⟩
    · rw [e1, ltS_irr] at h2; cases h2
    · apply h
      obtain ⟨⟨a0, a1⟩, a2⟩ := a
      obtain ⟨⟨b0, b1⟩, b2⟩ := b
      simp only at e1 h1 h2 ⊢
      subst e1
      have e3 : a1 = b1 := by omega
      have e4 : a2 = b2 := by omega
      rw [e3, e4]
end Go.Proofs.YtlkdefmceghmnaaGreatDoor
