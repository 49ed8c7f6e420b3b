/- All that stands in a PNR's lists is written over: nothing else turns. -/
import Derived.Test.YtpgeoahlhdifoaaGreatDoorMPnr10
namespace Go.Proofs.YtpgeoahlhdifoaaGreatDoor
set_option linter.unusedVariables false
open Go Go.RowKit
/-- A slice's cells are there and can be written; they lie in a block from lo on, ahead of hi. -/
def Wr (W : World) (lo hi sz : Nat) (A : Option Addr) (n : Nat) : Prop :=
  0 < n → ∃ g, A = some ⟨g, 0, none⟩ ∧ lo ≤ g ∧ g < hi ∧ ∀ j, j < n * sz → (∃ u, W.cell? ⟨g, j, none⟩ = some u) ∧ W.frozen? ⟨g, j, none⟩ = false
theorem Own.wr {α : Type} {T : Ty α} {W : World} {B hi : Nat} {E : TypeId} {A : Option Addr} {n c : Nat} {l : List α} (h : Own W B E T (.slice A n c) l) (hhi : W.heap.size ≤ hi) : Wr W B hi T.sz A n := by
  intro hn
  cases A with
  | none =>
    have hl := h.sl.len
    rcases h.row.2 with ⟨_, h2⟩ | ⟨_, _, _, h1, _⟩
    · omega
    · cases h1
  | some a =>
    obtain ⟨g, cur, rfl, _, hB, hnc, _, hg, hcs, _⟩ := h.open_
    have hgl := (Array.getElem?_eq_some_iff.1 hg).1
    refine ⟨g, rfl, hB, by omega, fun j hj => ?_⟩
    have hjs : j < cur.size := by rw [hcs]; exact Nat.lt_of_lt_of_le hj (Nat.mul_le_mul_right _ hnc)
    refine ⟨⟨cur[j], ?_⟩, by simp [World.frozen?, hg]⟩
    rw [cell_of_row W g j cur E (0, 0) hg]
    exact Array.getElem?_eq_getElem hjs
theorem Wr.set {W : World} {lo hi sz n : Nat} {A : Option Addr} (h : Wr W lo hi sz A n) (p : Addr) (u : Value) : Wr (W.setCell p u) lo hi sz A n := by
  intro hn
  obtain ⟨g, h1, h2, h3, hc⟩ := h hn
  refine ⟨g, h1, h2, h3, fun j hj => ?_⟩
  obtain ⟨⟨v, hv⟩, hf⟩ := hc j hj
  refine ⟨?_, by rw [World.frozen?_setCell]; exact hf⟩
  by_cases e : (⟨g, j, none⟩ : Addr) = p
  · subst e
    exact ⟨u, World.cell?_setCell_same _ _ _ hv⟩
  · exact ⟨v, (World.cell?_setCell_other W p _ u (fun h => e h.symm)).trans hv⟩
/-- While a PNR's lists are written over. -/
structure SP (w : World) (D : Nat) (p : Pnr) (h : Hd) (W : World) : Prop where
  B : Below D w W
  le : D ≤ w.heap.size
  kp : ∀ k, k < w.heap.size → ¬ rowP h k → W.heap[k]? = w.heap[k]?
  box : Bx W w.heap.size #[.string p.loc, .string p.off, .slice h.an h.nn h.cn, .slice h.ag h.ng h.cg, .slice h.ap h.np h.cp, .int .i64 p.tik.kind, .int .i64 p.tik.day, .int .i64 p.tik.min, .string p.rc, .slice h.ar h.nr h.cr, .slice h.ae h.ne h.ce, .bool p.queued] 29
  an : Wr W D w.heap.size 2 h.an h.nn
  ag : Wr W D w.heap.size 5 h.ag h.ng
  ap : Wr W D w.heap.size 1 h.ap h.np
  ar : Wr W D w.heap.size 1 h.ar h.nr
  ae : Wr W D w.heap.size 4 h.ae h.ne
theorem SP.set {w : World} {B : Nat} {p : Pnr} {h : Hd} {W : World} (H : SP w B p h W) {a : Addr} (h1 : B ≤ a.block) (h2 : a.block < w.heap.size) (hr : rowP h a.block) (u : Value) : SP w B p h (W.setCell a u) :=
  ⟨H.B.setCell h1 _, H.le, fun k hk hn => (Below.heap_setCell W a u k (fun e => hn (by rw [e]; exact hr))).trans (H.kp k hk hn), H.box.other (by omega) u, H.an.set a u, H.ag.set a u, H.ap.set a u, H.ar.set a u, H.ae.set a u⟩
theorem SP.start {w : World} {B : Nat} {p : Pnr} {h : Hd} (H : OP w B p h) (hB : B ≤ w.heap.size) : SP w B p h (w.alloc (.cells #[.string p.loc, .string p.off, .slice h.an h.nn h.cn, .slice h.ag h.ng h.cg, .slice h.ap h.np h.cp, .int .i64 p.tik.kind, .int .i64 p.tik.day, .int .i64 p.tik.min, .string p.rc, .slice h.ar h.nr h.cr, .slice h.ae h.ne h.ce, .bool p.queued] 29)) := by
  have hw : ∀ {sz n : Nat} {A : Option Addr}, Wr w B w.heap.size sz A n → Wr (w.alloc (.cells #[.string p.loc, .string p.off, .slice h.an h.nn h.cn, .slice h.ag h.ng h.cg, .slice h.ap h.np h.cp, .int .i64 p.tik.kind, .int .i64 p.tik.day, .int .i64 p.tik.min, .string p.rc, .slice h.ar h.nr h.cr, .slice h.ae h.ne h.ce, .bool p.queued] 29)) B w.heap.size sz A n := fun {sz n A} h0 hn => by
    obtain ⟨g, h1, h2, h3, hc⟩ := h0 hn
    refine ⟨g, h1, h2, h3, fun j hj => ?_⟩
    obtain ⟨⟨v, hv⟩, hf⟩ := hc j hj
    exact ⟨⟨v, (World.cell?_alloc_lt w _ _ h3).trans hv⟩, (((Below.refl _ w).alloc (Nat.le_refl _) _).frozen (p := ⟨g, j, none⟩) h3).trans hf⟩
  exact ⟨(Below.refl _ _).alloc hB _, hB, fun k hk _ => heap_alloc_old w _ hk, Bx.new _ _ _, hw (H.names.wr (Nat.le_refl _)), hw (H.segs.wr (Nat.le_refl _)), hw (H.phones.wr (Nat.le_refl _)), hw (H.remarks.wr (Nat.le_refl _)), hw (H.seats.wr (Nat.le_refl _))⟩
set_option maxRecDepth 100000 in
set_option maxHeartbeats 4000000 in
theorem spoil_any (p : Pnr) (h : Hd) (w : World) (B : Nat) (hp : OP w B p h) (hB : B ≤ w.heap.size) (hs : p.small 100000) :
    Calls Tryz.prog 13 #[.agg #[.string p.loc, .string p.off, .slice h.an h.nn h.cn, .slice h.ag h.ng h.cg, .slice h.ap h.np h.cp, .int .i64 p.tik.kind, .int .i64 p.tik.day, .int .i64 p.tik.min, .string p.rc, .slice h.ar h.nr h.cr, .slice h.ae h.ne h.ce, .bool p.queued]] w (fun e w' => e = .returned (.tuple #[]) ∧ Below B w w' ∧ ∀ k, k < w.heap.size → ¬ rowP h k → w'.heap[k]? = w.heap[k]?) := by
  obtain ⟨s1, s2, s3, s4, s5⟩ := hp.hd hs
  have hS := SP.start hp hB
  clear hp hs
  obtain ⟨an, nn, cn, ag, ng, cg, ap, np, cp, ar, nr, cr, ae, ne, ce⟩ := h
  dsimp only at s1 s2 s3 s4 s5 hS
  dsimp only
  go_enter Tryz.func13, Tryz.ntmps13
  go_wp2
  go_loopw [2] (fun i wr => ∃ k : Nat, k ≤ nn ∧ i = .int .i64 k ∧ SP w B p (Hd.mk an nn cn ag ng cg ap np cp ar nr cr ae ne ce) wr) (fun i _ => nn - (intOf i).toNat)
  case atStart => exact ⟨0, Nat.zero_le _, rfl, hS⟩
  case round =>
    clear hS
    obtain ⟨k, hk, rfl, hS⟩ := hrel
    have hx := hS.box.cells
    have hz := hS.box.lt
    by_cases hlt : k < nn
    · obtain ⟨g, hA, g1, g2, hc⟩ := hS.an (Nat.lt_of_le_of_lt (Nat.zero_le _) hlt)
      dsimp only at hA
      subst hA
      obtain ⟨⟨u, c0⟩, f0⟩ := hc (k * 2) (by show k * 2 < nn * 2; omega)
      clear hc
      have hk0 : (0 : Int) ≤ k := by omega
      have hkl : (k : Int) < nn := by omega
      have hgw : g < wr.heap.size := by omega
      go_wp2
      go_roundw
      case rel => exact ⟨k + 1, by omega, by go_num, hS.set (a := ⟨g, k * 2, none⟩) g1 g2 (.inl rfl) _⟩
      case measure => simp [intOf]; omega
    · go_wp2
      go_loopw [3] (fun i wr => ∃ k : Nat, k ≤ ng ∧ i = .int .i64 k ∧ SP w B p (Hd.mk an nn cn ag ng cg ap np cp ar nr cr ae ne ce) wr) (fun i _ => ng - (intOf i).toNat)
      case atStart => exact ⟨0, Nat.zero_le _, rfl, hS⟩
      case round =>
        clear hS
        obtain ⟨k, hk, rfl, hS⟩ := hrel
        have hx := hS.box.cells
        have hz := hS.box.lt
        by_cases hlt : k < ng
        · obtain ⟨g, hA, g1, g2, hc⟩ := hS.ag (Nat.lt_of_le_of_lt (Nat.zero_le _) hlt)
          dsimp only at hA
          subst hA
          obtain ⟨⟨u, c0⟩, f0⟩ := hc (k * 5 + 3) (by show k * 5 + 3 < ng * 5; omega)
          clear hc
          have hk0 : (0 : Int) ≤ k := by omega
          have hkl : (k : Int) < ng := by omega
          have hgw : g < wr.heap.size := by omega
          go_wp2
          go_roundw
          case rel => exact ⟨k + 1, by omega, by go_num, hS.set (a := ⟨g, k * 5 + 3, none⟩) g1 g2 (.inr (.inl rfl)) _⟩
          case measure => simp [intOf]; omega
        · go_wp2
          go_loopw [4] (fun i wr => ∃ k : Nat, k ≤ np ∧ i = .int .i64 k ∧ SP w B p (Hd.mk an nn cn ag ng cg ap np cp ar nr cr ae ne ce) wr) (fun i _ => np - (intOf i).toNat)
          case atStart => exact ⟨0, Nat.zero_le _, rfl, hS⟩
          case round =>
            clear hS
            obtain ⟨k, hk, rfl, hS⟩ := hrel
            have hx := hS.box.cells
            have hz := hS.box.lt
            by_cases hlt : k < np
            · obtain ⟨g, hA, g1, g2, hc⟩ := hS.ap (Nat.lt_of_le_of_lt (Nat.zero_le _) hlt)
              dsimp only at hA
              subst hA
              obtain ⟨⟨u, c0⟩, f0⟩ := hc (k) (by show k < np * 1; omega)
              clear hc
              have hk0 : (0 : Int) ≤ k := by omega
              have hkl : (k : Int) < np := by omega
              have hgw : g < wr.heap.size := by omega
              go_wp2
              go_roundw
              case rel => exact ⟨k + 1, by omega, by go_num, hS.set (a := ⟨g, k, none⟩) g1 g2 (.inr (.inr (.inl rfl))) _⟩
              case measure => simp [intOf]; omega
            · go_wp2
              go_loopw [5] (fun i wr => ∃ k : Nat, k ≤ nr ∧ i = .int .i64 k ∧ SP w B p (Hd.mk an nn cn ag ng cg ap np cp ar nr cr ae ne ce) wr) (fun i _ => nr - (intOf i).toNat)
              case atStart => exact ⟨0, Nat.zero_le _, rfl, hS⟩
              case round =>
                clear hS
                obtain ⟨k, hk, rfl, hS⟩ := hrel
                have hx := hS.box.cells
                have hz := hS.box.lt
                by_cases hlt : k < nr
                · obtain ⟨g, hA, g1, g2, hc⟩ := hS.ar (Nat.lt_of_le_of_lt (Nat.zero_le _) hlt)
                  dsimp only at hA
                  subst hA
                  obtain ⟨⟨u, c0⟩, f0⟩ := hc (k) (by show k < nr * 1; omega)
                  clear hc
                  have hk0 : (0 : Int) ≤ k := by omega
                  have hkl : (k : Int) < nr := by omega
                  have hgw : g < wr.heap.size := by omega
                  go_wp2
                  go_roundw
                  case rel => exact ⟨k + 1, by omega, by go_num, hS.set (a := ⟨g, k, none⟩) g1 g2 (.inr (.inr (.inr (.inl rfl)))) _⟩
                  case measure => simp [intOf]; omega
                · go_wp2
                  go_loopw [6] (fun i wr => ∃ k : Nat, k ≤ ne ∧ i = .int .i64 k ∧ SP w B p (Hd.mk an nn cn ag ng cg ap np cp ar nr cr ae ne ce) wr) (fun i _ => ne - (intOf i).toNat)
                  case atStart => exact ⟨0, Nat.zero_le _, rfl, hS⟩
                  case round =>
                    clear hS
                    obtain ⟨k, hk, rfl, hS⟩ := hrel
                    have hx := hS.box.cells
                    have hz := hS.box.lt
                    by_cases hlt : k < ne
                    · obtain ⟨g, hA, g1, g2, hc⟩ := hS.ae (Nat.lt_of_le_of_lt (Nat.zero_le _) hlt)
                      dsimp only at hA
                      subst hA
                      obtain ⟨⟨u, c0⟩, f0⟩ := hc (k * 4 + 1) (by show k * 4 + 1 < ne * 4; omega)
                      clear hc
                      have hk0 : (0 : Int) ≤ k := by omega
                      have hkl : (k : Int) < ne := by omega
                      have hgw : g < wr.heap.size := by omega
                      go_wp2
                      go_roundw
                      case rel => exact ⟨k + 1, by omega, by go_num, hS.set (a := ⟨g, k * 4 + 1, none⟩) g1 g2 (.inr (.inr (.inr (.inr rfl)))) _⟩
                      case measure => simp [intOf]; omega
                    · go_wp2
                      go_end0
                      exact ⟨rfl, hS.B, hS.kp⟩
end Go.Proofs.YtpgeoahlhdifoaaGreatDoor

