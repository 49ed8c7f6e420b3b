/- The answers that the document fixes, for layer 12; which PNRs are small. -/
import Derived.Test.YtaakcccffmfmoaaDoorPnr10
namespace Go.Proofs.YtaakcccffmfmoaaDoor
set_option linter.unusedVariables false
open Go Go.RowKit
def eA1 : Edit := ⟨1, ⟨⟨#[83, 77, 73, 84, 72]⟩, ⟨#[65, 78, 78]⟩⟩, ⟨⟨#[]⟩, 0, 0, 0, false⟩, ⟨0, 0, 0⟩, ⟨#[]⟩, 0, 0, 0, 0⟩
def eA2 : Edit := ⟨2, ⟨⟨#[]⟩, ⟨#[]⟩⟩, ⟨⟨#[66, 65]⟩, 1, 0, 89, true⟩, ⟨0, 0, 0⟩, ⟨#[]⟩, 0, 0, 0, 0⟩
def eA3 : Edit := ⟨8, ⟨⟨#[]⟩, ⟨#[]⟩⟩, ⟨⟨#[]⟩, 0, 0, 0, false⟩, ⟨0, 0, 0⟩, ⟨#[]⟩, 1, 1, 1, 65⟩
def pA : Pnr := ⟨⟨#[]⟩, ⟨#[]⟩, [⟨⟨#[83, 77, 73, 84, 72]⟩, ⟨#[65, 78, 78]⟩⟩], [⟨⟨#[66, 65]⟩, 1, 0, 89, true⟩], [], ⟨0, 0, 0⟩, ⟨#[]⟩, [], [⟨1, 1, 1, 65⟩], false⟩
theorem fold_A : foldF pnr0 [eA1, eA2, eA3] = (pA, 3, 0) := by
  have h1 : applyF pnr0 eA1 = ({ pnr0 with names := [⟨⟨#[83, 77, 73, 84, 72]⟩, ⟨#[65, 78, 78]⟩⟩] }, 0) := by kernel_rfl
  have h2 : applyF { pnr0 with names := [⟨⟨#[83, 77, 73, 84, 72]⟩, ⟨#[65, 78, 78]⟩⟩] } eA2 = ({ pnr0 with names := [⟨⟨#[83, 77, 73, 84, 72]⟩, ⟨#[65, 78, 78]⟩⟩], segs := [⟨⟨#[66, 65]⟩, 1, 0, 89, true⟩] }, 0) := by kernel_rfl
  have h3 : applyF { pnr0 with names := [⟨⟨#[83, 77, 73, 84, 72]⟩, ⟨#[65, 78, 78]⟩⟩], segs := [⟨⟨#[66, 65]⟩, 1, 0, 89, true⟩] } eA3 = (pA, 0) := by kernel_rfl
  simp only [foldF, h1, h2, h3]
  rfl
theorem eA_ok : ∀ x, x ∈ [eA1, eA2, eA3] → Edit.ok x := by
  intro x hx
  simp only [List.mem_cons, List.not_mem_nil, or_false] at hx
  rcases hx with rfl | rfl | rfl <;> simp [Edit.ok, okInt, okByte, okStr, Nam.ok, Seg.ok, Tik.ok, eA1, eA2, eA3, ByteArray.size]
theorem pA_small : pA.small 100000 := ⟨by simp [pA], by simp [pA], by simp [pA], by simp [pA], by simp [pA]⟩
/-- A slice whose block is known whole. -/
theorem Sl.ofBlock {α : Type} {T : Ty α} {W : World} {g n : Nat} {cur : Array Value} {t : TypeId} {l : List α} (hg : W.heap[g]? = some (.cells cur t (0, 0))) (hl : l.length = n) (hwf : ∀ x, x ∈ l → T.wf x) (ht : cur.toList = l.flatMap T.enc) : Sl W g (g + 1) T (some ⟨g, 0, none⟩) n l := by
  refine ⟨hl, hwf, fun hpos => ⟨g, 0, rfl, Nat.le_refl _, by omega, fun k x hx j u hu => ?_⟩⟩
  have h3 := flatMap_at T l k x hx j u hu
  rw [cell_of_row W g _ cur t (0, 0) hg]
  rw [← ht] at h3
  simpa using h3
set_option maxRecDepth 100000 in
set_option maxHeartbeats 4000000 in
theorem awake12_any (w : World) :
    Calls Tryd.prog 23 #[] w (RetB w true) := by
  have HF := Lib.hid fold_A
  obtain ⟨q, hq⟩ : ∃ q, q = pA := ⟨_, rfl⟩
  have h1 : q.seats.length = 1 := by rw [hq]; rfl
  have h2 : (liveF 0 q.segs).length = 1 := by rw [hq]; rfl
  have h3 : decide (q = pnr0) = false := by rw [hq]; kernel_rfl
  have h4 : q.small 100000 := by rw [hq]; exact pA_small
  rw [← hq] at HF
  clear hq
  have H1 := Lib.hid h1
  have H2 := Lib.hid h2
  have H3 := Lib.hid h3
  have H4 := Lib.hid h4
  clear h1 h2 h3 h4
  go_enter Tryd.func23, Tryd.ntmps23
  go_wp2_with fail
  refine (pfold_any pnr0 hd0 [eA1, eA2, eA3] _ 3 3 _ (fun _ => False) w.heap.size (w.heap.size + 1) (pnr0_ps _ _) (fun b hb => hb.elim) ⟨by simp [pnr0], by simp [pnr0], by simp [pnr0], by simp [pnr0], by simp [pnr0]⟩ (Sl.ofBlock (heap_alloc_new w _) rfl eA_ok rfl) (by omega) (by simp)).mono ?_
  rintro en w1 ⟨h1, rfl, hO1, hb1⟩
  rw [HF.out] at hO1 ⊢
  dsimp only at hO1 ⊢
  have hsm := hO1.hd H4.out
  have hne : q.seats.length = h1.ne := hO1.seats.sl.len
  rw [H1.out] at hne
  obtain ⟨an, nn, cn, ag, ng, cg, ap, np, cp, ar, nr, cr, ae, ne, ce⟩ := h1
  dsimp only at hne
  subst hne
  dsimp only
  have hz1 := hb1.size
  simp only [World.size_alloc] at hz1
  have hbw : Below w.heap.size w w1 := ((Below.refl _ w).alloc (Nat.le_refl _) _).trans (hb1.mono (by simp))
  have oq := hO1.alloc (.cells #[.string q.loc, .string q.off, .slice an nn cn, .slice ag ng cg, .slice ap np cp, .int .i64 q.tik.kind, .int .i64 q.tik.day, .int .i64 q.tik.min, .string q.rc, .slice ar nr cr, .slice ae 1 ce, .bool q.queued] 29)
  have bx := boxed_new w1 #[.string q.loc, .string q.off, .slice an nn cn, .slice ag ng cg, .slice ap np cp, .int .i64 q.tik.kind, .int .i64 q.tik.day, .int .i64 q.tik.min, .string q.rc, .slice ar nr cr, .slice ae 1 ce, .bool q.queued] 29
  have B1 := hbw.alloc (by omega) (.cells #[.string q.loc, .string q.off, .slice an nn cn, .slice ag ng cg, .slice ap np cp, .int .i64 q.tik.kind, .int .i64 q.tik.day, .int .i64 q.tik.min, .string q.rc, .slice ar nr cr, .slice ae 1 ce, .bool q.queued] 29)
  clear hO1 hb1 hbw
  go_wp2_with fail
  refine (live_any q _ _ _ _ oq.at hsm.ng (Nat.le_refl _)).mono ?_
  rintro en w2 ⟨A2, c2, rfl, _, hb2⟩
  rw [H2.out]
  have bx2 := boxed_below bx hb2 (by simp)
  have oq2 := oq.keep hb2
  have B2 := B1.trans (hb2.mono (by simp; omega))
  have z2 : w1.heap.size < w2.heap.size := by have := hb2.size; simp at this; omega
  clear bx oq B1 hb2
  go_wp2_with fail
  refine (psame_any q q _ _ _ _ _ _ _ oq2.at oq2.at hsm hsm (Nat.le_refl _) (Nat.le_refl _)).mono ?_
  rintro en w3 ⟨rfl, hb3⟩
  rw [show decide (q = q) = true by simp]
  have bx3 := boxed_below bx2 hb3 z2
  have oq3 := oq2.keep hb3
  have B3 := B2.trans (hb3.mono B2.size)
  have z3 : w1.heap.size < w3.heap.size := by have := hb3.size; omega
  clear bx2 oq2 B2 hb3 z2
  go_wp2_with fail
  refine (psame_any q pnr0 _ hd0 _ _ _ 0 0 oq3.at ((pnr0_ps w3 (fun _ => False)).at (fun _ h => h.elim)) hsm ⟨by simp [hd0], by simp [hd0], by simp [hd0], by simp [hd0], by simp [hd0]⟩ (Nat.le_refl _) (Nat.zero_le _)).mono ?_
  rintro en w4 ⟨rfl, hb4⟩
  rw [H3.out]
  go_wp2
  go_ret
  exact ⟨rfl, B3.trans (hb4.mono B3.size)⟩
end Go.Proofs.YtaakcccffmfmoaaDoor
