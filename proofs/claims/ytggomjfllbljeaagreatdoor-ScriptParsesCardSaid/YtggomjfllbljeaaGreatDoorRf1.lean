/- A range over an iterator that keeps its place in a variable of its own: over any program. -/
import Derived.Test.YtggomjfllbljeaaGreatDoorScB
import Derived.RangeFuncNested
import Derived.RangeFuncBound
import Derived.RangeFuncCalls
import Derived.RangeFuncLeaves
namespace Go.Proofs.YtggomjfllbljeaaGreatDoor
set_option linter.unusedVariables false
open Go Go.RowKit
section
variable {F : Fence} {n : Nat} {P : Program} {α : Type}
theorem kp_putObj {S : Nat → Prop} (W : World) {b : Nat} (o : Obj) (hS : S b) : Kp S W (W.putObj b o) :=
  ⟨rfl, rfl, rfl, by simp, fun k _ hn => World.putObj_heap_other (fun e => hn (by rw [e]; exact hS))⟩
/-- What an iterator does: it hands on the things of xs, one by one; of old memory it writes the block bs alone; the blocks bk are kept by the rounds. -/
def IterB (F : Fence) (n : Nat) (P : Program) (gf : Nat) (lb : Array Value) (encs : α → Array Value) (bs : Nat) (bk : List Nat) (xs : List α) (w : World) : Prop :=
  ∀ (l : Nat) (J : Nat → World → Prop) (W : World), (∀ b ∈ bk, W.heap[b]? = w.heap[b]?) →
    (∀ k A B, J k A → Kp (fun b => b = bs) A B → J k B) →
    (∀ k x A, xs[k]? = some x → J k A → YieldAt F (n - 1) P l (encs x) A fun e B => e = .returned (.bool true) ∧ J (k + 1) B ∧ ∀ b ∈ bk, B.heap[b]? = A.heap[b]?) →
    J 0 W → CallsIn F n P gf (#[.func (.yield l) #[] #[]] ++ lb) W fun e B => (∃ v, e = .returned v) ∧ J xs.length B
/-- How a round's body ends: it goes on. -/
def RoundB (I : Nat → World → Prop) (D : Nat) (bk : List Nat) (k : Nat) (W : World) : Exit → Act → World → Prop
  | .normal, _, W' => I (k + 1) W' ∧ ∀ b, b ∈ bk ∨ b = D ∨ b = D + 1 → W'.heap[b]? = W.heap[b]?
  | _, _, _ => False
theorem range_iter {g : Operand} {ps : Array Tmp} {assign body : Code} {Q : Exit → Act → World → Prop} {a : Act} {w : World} (hro : F.round = none) (h1 : 1 ≤ n) {gf : Nat} {lb : Array Value} (hg : a.eval g = .func (.func gf) #[] lb) (hF : F.fn gf)
    (eg : ∀ args w, (callFunc gf args).run P w = .ok (.enter gf args) w) {encs : α → Array Value} (hps : ∀ x, (encs x).size = ps.size) {bs : Nat} {bk : List Nat} {xs : List α} (hit : IterB F (n - 1) P gf lb encs bs bk xs w) (hbk : ∀ b ∈ bk, b < w.heap.size) (hbs : bs < w.heap.size)
    (I : Nat → World → Prop) (hI : ∀ k A B, I k A → Kp (fun b => b = bs ∨ b = w.heap.size ∨ b = w.heap.size + 1) A B → I k B) (h0 : I 0 w)
    (hround : ∀ (l k : Nat) (x : α) (A : World), xs[k]? = some x → assign.wpIn (F.inRound l) (n - 1 - 1) P (Exit.then (fun a₁ w₁ => w₁ = A ∧ ∀ W, I k W → w.heap.size + 1 < W.heap.size → body.wpIn (F.inRound l) (n - 1 - 1) P (RoundB I w.heap.size bk k W) a₁ W) (fun _ _ _ => False)) { tmps := (ps.zip (encs x)).foldl (fun t (p, v) => t.setIfInBounds p v) a.tmps, defers := [] } A)
    (hdone : ∀ W : World, I xs.length W → W.heap[w.heap.size]? = some (.deferred (some [])) → Q .normal { a with defers := { target := .collected w.heap.size, args := #[] } :: a.defers } W) :
    (Code.rangeFunc g ps assign body).wpIn F n P Q a w := by
  refine wpIn_rangeFunc fun fn hfn => ?_
  rw [hro]
  obtain ⟨lp, hlp⟩ : ∃ lp : LoopState → Loop, lp = fun st => { state := st, pending := none, fn, tmps := a.tmps, params := ps, assign, body, defers := w.heap.size } := ⟨_, rfl⟩
  obtain ⟨V, hV⟩ : ∃ V, V = (w.alloc (.deferred (some []))).alloc (.loop (lp .ready)) := ⟨_, rfl⟩
  have hsz : (w.alloc (.deferred (some []))).heap.size = w.heap.size + 1 := World.size_alloc _ _
  have hL : V.heap[w.heap.size + 1]? = some (.loop (lp .ready)) := by
    have := World.alloc_heap_new (w.alloc (.deferred (some []))) (.loop (lp .ready))
    rw [hsz] at this; rw [hV]; exact this
  have hD : V.heap[w.heap.size]? = some (.deferred (some [])) := by
    rw [hV]; exact (Below.heap_alloc _ _ _ (by rw [hsz]; omega)).trans (World.alloc_heap_new w _)
  have hold : Kp (fun _ => False) w V := by
    rw [hV]; exact ((Kp.refl (fun _ => False) w).alloc _).alloc _
  have hI0 : I 0 V := hI 0 _ _ h0 (hold.mono (fun _ h => h.elim))
  refine ⟨w.heap.size + 1, [{ target := .collected w.heap.size, args := #[] }], V, { target := .fn (.func gf) lb, args := #[.func (.yield (w.heap.size + 1)) #[] #[]] }, V, gf, #[.func (.yield (w.heap.size + 1)) #[] #[]] ++ lb, V, ?_, ?_, ?_, ?_, fun _ => h1, ?_⟩
  · rw [hV, hlp]; exact run_enterLoop_outer _ _ _ _ _
  · simp only [resolve, hg]
    simp [go_sem]
  · intro f' hf'; simp [Target.leads] at hf'; subst hf'; exact hF
  · simp [invoke, go_sem, eg]
  · refine (hit (w.heap.size + 1) (fun k W => I k W ∧ W.heap[w.heap.size + 1]? = some (.loop (lp .ready)) ∧ W.heap[w.heap.size]? = some (.deferred (some []))) V (fun b hb => hold.block b (hbk b hb) (fun h => h)) ?_ ?_ ⟨hI0, hL, hD⟩).mono ?_
    · rintro k A B ⟨hi, hl, hd⟩ hk
      have z1 : w.heap.size + 1 < A.heap.size := (Array.getElem?_eq_some_iff.1 hl).1
      exact ⟨hI k A B hi (hk.mono (fun _ e => .inl e)), (hk.block _ z1 (by omega)).trans hl, (hk.block _ (by omega) (by omega)).trans hd⟩
    · rintro k x A hx ⟨hi, hl, hd⟩
      have z1 : w.heap.size + 1 < A.heap.size := (Array.getElem?_eq_some_iff.1 hl).1
      have hy := run_yield (P := P) (args := encs x) hl (by rw [hlp]; exact hps x)
      rw [hlp] at hy
      refine ⟨fn, _, assign, body, hy, roundIn_of_wpIn hfn (wpIn_mono (hround _ k x A hx) ?_)⟩
      intro e0 a0 w0 hp0
      cases e0 with
      | ret => exact hp0.elim
      | exit id => exact hp0.elim
      | goto t => exact hp0.elim
      | panic c => exact hp0.elim
      | outgrown => exact hp0.elim
      | normal =>
      obtain ⟨hw0, hbody⟩ := hp0
      rw [hw0]
      refine ⟨_, run_beginRound hl (by rw [hlp]), ?_⟩
      have hk0 := kp_putObj (S := fun b => b = bs ∨ b = w.heap.size ∨ b = w.heap.size + 1) A (b := w.heap.size + 1) (.loop { lp .ready with state := .busy }) (.inr (.inr rfl))
      have hl2 : (A.putObj (w.heap.size + 1) (.loop { lp .ready with state := .busy })).heap[w.heap.size + 1]? = some (.loop { lp .ready with state := .busy }) := World.putObj_heap_same z1
      have hd2 : (A.putObj (w.heap.size + 1) (.loop { lp .ready with state := .busy })).heap[w.heap.size]? = some (.deferred (some [])) := (World.putObj_heap_other (by omega)).trans hd
      refine wpIn_mono (hbody _ (hI k _ _ hi hk0) (by simpa using z1)) ?_
      rintro e a3 W3 hp
      cases e with
      | normal =>
        obtain ⟨hi3, hb3⟩ := hp
        have hl3 := (hb3 _ (.inr (.inr rfl))).trans hl2
        have hd3 := (hb3 _ (.inr (.inl rfl))).trans hd2
        have z3 : w.heap.size + 1 < W3.heap.size := (Array.getElem?_eq_some_iff.1 hl3).1
        refine ⟨_, _, run_endRound none hl3, rfl, ⟨hI _ _ _ hi3 (kp_putObj _ _ (.inr (.inr rfl))), ?_, (World.putObj_heap_other (by omega)).trans hd3⟩, fun b hb => ?_⟩
        · rw [World.putObj_heap_same z3, hlp]
          rfl
        · have hne : b ≠ w.heap.size + 1 := by have := hbk b hb; omega
          rw [World.putObj_heap_other hne, hb3 b (.inl hb), World.putObj_heap_other hne]
      | ret => exact hp.elim
      | exit id => exact hp.elim
      | goto t => exact hp.elim
      | panic c => exact hp.elim
      | outgrown => exact hp.elim
    · rintro e W2 ⟨⟨v, rfl⟩, hi, hl, hd⟩
      have he : (Instr.endLoop (w.heap.size + 1)).run P W2 = .ok none (W2.putObj (w.heap.size + 1) (.loop { lp .ready with state := .exhausted })) := by
        have := run_endLoop (P := P) hl (by rw [hlp]; simp)
        rw [hlp] at this ⊢
        exact this
      exact ⟨none, _, he, hdone _ (hI _ _ _ hi (kp_putObj _ _ (.inr (.inr rfl)))) ((World.putObj_heap_other (by omega)).trans hd)⟩
end
end Go.Proofs.YtggomjfllbljeaaGreatDoor
