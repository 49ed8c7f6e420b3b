/- The answers that the document fixes, for layer 12; which PNRs are small. -/
import Derived.Test.YtfbalabmidobeaaDoorMPnr10
namespace Go.Proofs.YtfbalabmidobeaaDoor
set_option linter.unusedVariables false
open Go Go.RowKit
def eA1 : Edit := ⟨1, ⟨⟨#[83, 77, 73, 84, 72]⟩, ⟨#[65, 78, 78]⟩⟩, ⟨⟨#[]⟩, 0, 0, 0, false⟩, ⟨0, 0, 0⟩, ⟨#[]⟩, 0, 0, 0, 0⟩
def eA2 : Edit := ⟨2, ⟨⟨#[]⟩, ⟨#[]⟩⟩, ⟨⟨#[66, 65]⟩, 1, 0, 89, true⟩, ⟨0, 0, 0⟩, ⟨#[]⟩, 0, 0, 0, 0⟩
def eA3 : Edit := ⟨8, ⟨⟨#[]⟩, ⟨#[]⟩⟩, ⟨⟨#[]⟩, 0, 0, 0, false⟩, ⟨0, 0, 0⟩, ⟨#[]⟩, 1, 1, 1, 65⟩
def pA : Pnr := ⟨⟨#[]⟩, ⟨#[]⟩, [⟨⟨#[83, 77, 73, 84, 72]⟩, ⟨#[65, 78, 78]⟩⟩], [⟨⟨#[66, 65]⟩, 1, 0, 89, true⟩], [], ⟨0, 0, 0⟩, ⟨#[]⟩, [], [⟨1, 1, 1, 65⟩], false⟩
theorem fold_A : foldF pnr0 [eA1, eA2, eA3] = (pA, 3, 0) := by
  have h1 : applyF pnr0 eA1 = ({ pnr0 with names := [⟨⟨#[83, 77, 73, 84, 72]⟩, ⟨#[65, 78, 78]⟩⟩] }, 0) := by kernel_rfl
  have h2 : applyF { pnr0 with names := [⟨⟨#[83, 77, 73, 84, 72]⟩, ⟨#[65, 78, 78]⟩⟩] } eA2 = ({ pnr0 with names := [⟨⟨#[83, 77, 73, 84, 72]⟩, ⟨#[65, 78, 78]⟩⟩], segs := [⟨⟨#[66, 65]⟩, 1, 0, 89, true⟩] }, 0) := by kernel_rfl
  have h3 : applyF { pnr0 with names := [⟨⟨#[83, 77, 73, 84, 72]⟩, ⟨#[65, 78, 78]⟩⟩], segs := [⟨⟨#[66, 65]⟩, 1, 0, 89, true⟩] } eA3 = (pA, 0) := by kernel_rfl
  simp only [foldF, h1, h2, h3]
  rfl
theorem eA_ok : ∀ x, x ∈ [eA1, eA2, eA3] → Edit.ok x := by
  intro x hx
  simp only [List.mem_cons, List.not_mem_nil, or_false] at hx
  rcases hx with rfl | rfl | rfl <;> simp [Edit.ok, okInt, okByte, okStr, Nam.ok, Seg.ok, Tik.ok, eA1, eA2, eA3, ByteArray.size]
theorem pA_small : pA.small 100000 := ⟨by simp [pA], by simp [pA], by simp [pA], by simp [pA], by simp [pA]⟩
/-- A slice whose block is known whole. -/
theorem Sl.ofBlock {α : Type} {T : Ty α} {W : World} {g n : Nat} {cur : Array Value} {t : TypeId} {l : List α} (hg : W.heap[g]? = some (.cells cur t (0, 0))) (hl : l.length = n) (hwf : ∀ x, x ∈ l → T.wf x) (ht : cur.toList = l.flatMap T.enc) : Sl W g (g + 1) T (some ⟨g, 0, none⟩) n l := by
  refine ⟨hl, hwf, fun hpos => ⟨g, 0, rfl, Nat.le_refl _, by omega, fun k x hx j u hu => ?_⟩⟩
  have h3 := flatMap_at T l k x hx j u hu
  rw [cell_of_row W g _ cur t (0, 0) hg]
  rw [← ht] at h3
  simpa using h3
end Go.Proofs.YtfbalabmidobeaaDoor
