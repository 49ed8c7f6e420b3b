/- Put together by program of: Awake12, Boxes. -/
import Derived.Test.YtpgeoahlhdifoaaGreatDoorMPnr10
import Derived.Test.YtpgeoahlhdifoaaGreatDoorMRsame
namespace Go.Proofs.YtpgeoahlhdifoaaGreatDoor
set_option linter.unusedVariables false
open Go Go.RowKit
def eA1 : Edit := ⟨1, ⟨⟨#[83, 77, 73, 84, 72]⟩, ⟨#[65, 78, 78]⟩⟩, ⟨⟨#[]⟩, 0, 0, 0, false⟩, ⟨0, 0, 0⟩, ⟨#[]⟩, 0, 0, 0, 0⟩
def eA2 : Edit := ⟨2, ⟨⟨#[]⟩, ⟨#[]⟩⟩, ⟨⟨#[66, 65]⟩, 1, 0, 89, true⟩, ⟨0, 0, 0⟩, ⟨#[]⟩, 0, 0, 0, 0⟩
def eA3 : Edit := ⟨8, ⟨⟨#[]⟩, ⟨#[]⟩⟩, ⟨⟨#[]⟩, 0, 0, 0, false⟩, ⟨0, 0, 0⟩, ⟨#[]⟩, 1, 1, 1, 65⟩
def pA : Pnr := ⟨⟨#[]⟩, ⟨#[]⟩, [⟨⟨#[83, 77, 73, 84, 72]⟩, ⟨#[65, 78, 78]⟩⟩], [⟨⟨#[66, 65]⟩, 1, 0, 89, true⟩], [], ⟨0, 0, 0⟩, ⟨#[]⟩, [], [⟨1, 1, 1, 65⟩], false⟩
theorem fold_A : foldF pnr0 [eA1, eA2, eA3] = (pA, 3, 0) := by
  have h1 : applyF pnr0 eA1 = ({ pnr0 with names := [⟨⟨#[83, 77, 73, 84, 72]⟩, ⟨#[65, 78, 78]⟩⟩] }, 0) := by kernel_rfl
  have h2 : applyF { pnr0 with names := [⟨⟨#[83, 77, 73, 84, 72]⟩, ⟨#[65, 78, 78]⟩⟩] } eA2 = ({ pnr0 with names := [⟨⟨#[83, 77, 73, 84, 72]⟩, ⟨#[65, 78, 78]⟩⟩], segs := [⟨⟨#[66, 65]⟩, 1, 0, 89, true⟩] }, 0) := by kernel_rfl
  have h3 : applyF { pnr0 with names := [⟨⟨#[83, 77, 73, 84, 72]⟩, ⟨#[65, 78, 78]⟩⟩], segs := [⟨⟨#[66, 65]⟩, 1, 0, 89, true⟩] } eA3 = (pA, 0) := by kernel_rfl
  simp only [foldF, h1, h2, h3]
  rfl
theorem eA_ok : ∀ x, x ∈ [eA1, eA2, eA3] → Edit.ok x := by
  intro x hx
  simp only [List.mem_cons, List.not_mem_nil, or_false] at hx
  rcases hx with rfl | rfl | rfl <;> simp [Edit.ok, okInt, okByte, okStr, Nam.ok, Seg.ok, Tik.ok, eA1, eA2, eA3, ByteArray.size]
theorem pA_small : pA.small 100000 := ⟨by simp [pA], by simp [pA], by simp [pA], by simp [pA], by simp [pA]⟩
/-- A slice whose block is known whole. -/
theorem Sl.ofBlock {α : Type} {T : Ty α} {W : World} {g n : Nat} {cur : Array Value} {t : TypeId} {l : List α} (hg : W.heap[g]? = some (.cells cur t (0, 0))) (hl : l.length = n) (hwf : ∀ x, x ∈ l → T.wf x) (ht : cur.toList = l.flatMap T.enc) : Sl W g (g + 1) T (some ⟨g, 0, none⟩) n l := by
  refine ⟨hl, hwf, fun hpos => ⟨g, 0, rfl, Nat.le_refl _, by omega, fun k x hx j u hu => ?_⟩⟩
  have h3 := flatMap_at T l k x hx j u hu
  rw [cell_of_row W g _ cur t (0, 0) hg]
  rw [← ht] at h3
  simpa using h3
end Go.Proofs.YtpgeoahlhdifoaaGreatDoor
namespace Go.Proofs.YtpgeoahlhdifoaaGreatDoor
set_option linter.unusedVariables false
open Go Go.RowKit
/-- All old memory is as it was, and each of these blocks holds these cells. -/
def BS (w : World) : List (Nat × Array Value) → World → Prop
  | [], W => Below w.heap.size w W
  | x :: L, W => (x.1 < W.heap.size ∧ ∀ i : Nat, W.cell? ⟨x.1, i, none⟩ = x.2[i]?) ∧ BS w L W
theorem BS.B {w W : World} : ∀ {L : List (Nat × Array Value)}, BS w L W → Below w.heap.size w W
  | [], h => h
  | _ :: _, h => BS.B h.2
theorem BS.step {w W W1 : World} (hb : Below W.heap.size W W1) : ∀ {L : List (Nat × Array Value)}, BS w L W → BS w L W1
  | [], h => (show Below w.heap.size w W from h).trans (hb.mono (show Below w.heap.size w W from h).size)
  | _ :: _, h => ⟨⟨Nat.lt_of_lt_of_le h.1.1 hb.size, fun i => (hb.cell h.1.1).trans (h.1.2 i)⟩, BS.step hb h.2⟩
theorem BS.alloc {w W : World} {L : List (Nat × Array Value)} (h : BS w L W) (cs : Array Value) (t : TypeId) : BS w ((W.heap.size, cs) :: L) (W.alloc (.cells cs t)) :=
  ⟨⟨by simp, boxed_new W cs t⟩, h.step ((Below.refl _ _).alloc (Nat.le_refl _) _)⟩
theorem BS.turn {w W W1 : World} {R : Nat → Prop} (hb : Below w.heap.size W W1) (hk : ∀ k, k < W.heap.size → ¬ R k → W1.heap[k]? = W.heap[k]?) : ∀ {L : List (Nat × Array Value)}, BS w L W → (∀ x, x ∈ L → ¬ R x.1) → BS w L W1
  | [], h, _ => (show Below w.heap.size w W from h).trans hb
  | x :: _, h, hR => ⟨⟨Nat.lt_of_lt_of_le h.1.1 hb.size, fun i => (World.cell?_of_block (a := ⟨x.1, i, none⟩) (hk _ h.1.1 (hR x (List.mem_cons_self ..)))).trans (h.1.2 i)⟩, BS.turn hb hk h.2 fun y hy => hR y (List.mem_cons_of_mem _ hy)⟩
theorem OP.ge {W : World} {B : Nat} {q : Pnr} {h : Hd} (H : OP W B q h) : ∀ k, rowP h k → B ≤ k := fun k hk => by
  rcases hk with hk | hk | hk | hk | hk
  · exact (H.names.bk_lt k hk).1
  · exact (H.segs.bk_lt k hk).1
  · exact (H.phones.bk_lt k hk).1
  · exact (H.remarks.bk_lt k hk).1
  · exact (H.seats.bk_lt k hk).1
theorem OP.below {W W1 : World} {B D : Nat} {q : Pnr} {h : Hd} (H : OP W B q h) (hb : Below D W W1) (hD : ∀ k, rowP h k → k < D) : OP W1 B q h := by
  have key : ∀ {α : Type} {T : Ty α} {E : TypeId} {A : Option Addr} {n c : Nat} {l : List α}, (∀ k, bk A = some k → k < D) → Own W B E T (.slice A n c) l → Own W1 B E T (.slice A n c) l := fun {α T E A n c l} hA ho => by
    refine ⟨ho.wf, ho.row.1, ?_⟩
    rcases ho.row.2 with hn | ⟨g, cap, cur, h1, h2, hg, r⟩
    · exact .inl hn
    · refine .inr ⟨g, cap, cur, h1, h2, (hb.block g (hA g ?_)).trans hg, r⟩
      injection h1 with hA' _ _
      rw [hA']; rfl
  exact ⟨H.loc, H.off, H.rc, H.tik, key (fun k hk => hD k (.inl hk)) H.names, key (fun k hk => hD k (.inr (.inl hk))) H.segs, key (fun k hk => hD k (.inr (.inr (.inl hk)))) H.phones, key (fun k hk => hD k (.inr (.inr (.inr (.inl hk))))) H.remarks, key (fun k hk => hD k (.inr (.inr (.inr (.inr hk))))) H.seats⟩
def smallB (h : Hd) : Bool := decide (h.nn ≤ 60) && (decide (h.ng ≤ 60) && (decide (h.np ≤ 60) && (decide (h.nr ≤ 60) && decide (h.ne ≤ 200))))
theorem smallB_yes {h : Hd} (H : smallB h = true) : h.nn ≤ 60 ∧ h.ng ≤ 60 ∧ h.np ≤ 60 ∧ h.nr ≤ 60 ∧ h.ne ≤ 200 := by
  simpa [smallB] using H
theorem smallB_pnr {w : World} {lo hi : Nat} {p : Pnr} {h : Hd} (H : smallB h = true) (hp : PAt w lo hi p h) : p.small 200 := by
  obtain ⟨s1, s2, s3, s4, s5⟩ := smallB_yes H
  exact ⟨by rw [hp.names.len]; omega, by rw [hp.segs.len]; omega, by rw [hp.phones.len]; omega, by rw [hp.remarks.len]; omega, by rw [hp.seats.len]; omega⟩
set_option maxRecDepth 100000 in
set_option maxHeartbeats 400000 in
theorem small_any (p : Pnr) (h : Hd) (w : World) :
    Calls Tryz.prog 6 #[.agg #[.string p.loc, .string p.off, .slice h.an h.nn h.cn, .slice h.ag h.ng h.cg, .slice h.ap h.np h.cp, .int .i64 p.tik.kind, .int .i64 p.tik.day, .int .i64 p.tik.min, .string p.rc, .slice h.ar h.nr h.cr, .slice h.ae h.ne h.ce, .bool p.queued]] w (fun e w' => e = .returned (.bool (smallB h)) ∧ Below w.heap.size w w') := by
  have hsm : smallB h = (decide (h.nn ≤ 60) && (decide (h.ng ≤ 60) && (decide (h.np ≤ 60) && (decide (h.nr ≤ 60) && decide (h.ne ≤ 200))))) := rfl
  have HS := Lib.hid hsm
  clear hsm
  go_enter Tryz.func6, Tryz.ntmps6
  go_wp2
  all_goals go_ret
  all_goals exact ⟨ret_bool (by
    rw [HS.out, Bool.eq_iff_iff]
    simp only [Bool.and_eq_true, decide_eq_true_eq]
    first
      | (simp; omega)
      | (simp; intros; omega)
      | omega), by (repeat (first | with_reducible exact Below.refl _ _ | (with_reducible refine Below.drew ?_) | (with_reducible refine below_drewN ?_ _) | (with_reducible refine Below.alloc ?_ (by first | (simp; done) | omega | (simp; omega)) _) | (with_reducible refine Below.setCell ?_ (by first | (simp; done) | omega | (simp; omega)) _) | with_reducible assumption))⟩
end Go.Proofs.YtpgeoahlhdifoaaGreatDoor
