/- The numbers of the live segments: the program's and the document's. -/
import Derived.Test.YtaakcccffmfmoaaDoorModel
import Derived.Test.YtaakcccffmfmoaaDoorRows
namespace Go.Proofs.YtaakcccffmfmoaaDoor
set_option linter.unusedVariables false
open Go Go.RowKit
theorem slInts : SlT Tryd.prog 34 3 1 := SlT.mk' (z := .int .i64 0) (b := 8) Tryd.underlying34 (by kernel_rfl) (by omega) rfl
set_option maxRecDepth 100000 in
set_option maxHeartbeats 400000 in
theorem live_any (p : Pnr) (h : Hd) (w : World) (lo hi : Nat) (hp : PAt w lo hi p h) (hn : h.ng ≤ 100000) (hhi : hi ≤ w.heap.size) :
    Calls Tryd.prog 30 #[.agg #[.string p.loc, .string p.off, .slice h.an h.nn h.cn, .slice h.ag h.ng h.cg, .slice h.ap h.np h.cp, .int .i64 p.tik.kind, .int .i64 p.tik.day, .int .i64 p.tik.min, .string p.rc, .slice h.ar h.nr h.cr, .slice h.ae h.ne h.ce, .bool p.queued]] w (RetOwn w 3 tInt (liveF 0 p.segs)) := by
  have hsl := hp.segs
  clear hp
  obtain ⟨an, nn, cn, ag, ng, cg, ap, np, cp, ar, nr, cr, ae, ne, ce⟩ := h
  dsimp only at *
  go_enter Tryd.func30, Tryd.ntmps30
  go_wp2
  go_loopw [3, 9] (fun v i wr => ∃ k : Nat, k ≤ ng ∧ i = .int .i64 k ∧ Own wr (w.heap.size + 1) 3 tInt v (liveF 0 (p.segs.take k)) ∧ Below (w.heap.size + 1) (w.alloc (.cells #[.string p.loc, .string p.off, .slice an nn cn, .slice ag ng cg, .slice ap np cp, .int .i64 p.tik.kind, .int .i64 p.tik.day, .int .i64 p.tik.min, .string p.rc, .slice ar nr cr, .slice ae ne ce, .bool p.queued] 29)) wr) (fun _ i _ => ng - (intOf i).toNat)
  case atStart => exact ⟨0, Nat.zero_le _, rfl, Own.nil_ _ _ _ _, Below.refl _ _⟩
  case round =>
    obtain ⟨k, hk, rfl, hown, hbel⟩ := hrel
    by_cases hlt : k < ng
    · have hslr := ((hsl.alloc hhi _).below hbel (Nat.le_succ_of_le hhi))
      obtain ⟨b, o, x, rfl, h1, h2, hx, hok, c0, c1, c2, c3, c4⟩ := hslr.seg_ hlt
      clear hslr
      have hll := liveF_len (p.segs.take k) 0
      have htl : (p.segs.take k).length ≤ k := List.length_take_le _ _
      rcases Bool.eq_false_or_eq_true x.live with hlv | hlv
      · go_wp2_with (at_builtin; refine push_law rfl (.tmp 16) (.tmp 19) rfl slInts rfl (hown.alloc _) ((k : Int) + 1) (by unfold tInt okInt; omega) _ rfl (by simp [Act.eval]) (by have := hbel.size; simp at this ⊢; omega) (by omega) ?_; intro v' w' hown' hbel')
        go_roundw
        case rel => exact ⟨k + 1, by omega, by go_num, by rw [liveF_yes hx.out hlv]; exact hown', (hbel.alloc (by have := hbel.size; simpa using this) _).trans hbel'⟩
        case measure => simp [intOf]; omega
      · go_wp2
        go_roundw
        case rel => exact ⟨k + 1, by omega, by go_num, by rw [liveF_no hx.out hlv]; exact hown.alloc _, hbel.alloc (by have := hbel.size; simpa using this) _⟩
        case measure => simp [intOf]; omega
    · go_wp2
      go_ret
      refine RetOwn.mk' ?_ ?_
      · have e : p.segs.take k = p.segs := List.take_of_length_le (by have := hsl.len; omega)
        rw [e] at hown
        exact hown.more (Nat.le_succ _)
      · exact ((Below.refl _ _).alloc (Nat.le_refl _) _).trans (hbel.mono (Nat.le_succ _))
set_option maxRecDepth 100000 in
set_option maxHeartbeats 400000 in
theorem rlive_any (p : Pnr) (h : Hd) (w : World) (lo hi : Nat) (hp : PAt w lo hi p h) (hn : h.ng ≤ 100000) (hhi : hi ≤ w.heap.size) :
    Calls Tryd.prog 31 #[.agg #[.string p.loc, .string p.off, .slice h.an h.nn h.cn, .slice h.ag h.ng h.cg, .slice h.ap h.np h.cp, .int .i64 p.tik.kind, .int .i64 p.tik.day, .int .i64 p.tik.min, .string p.rc, .slice h.ar h.nr h.cr, .slice h.ae h.ne h.ce, .bool p.queued]] w (RetOwn w 3 tInt (liveF 0 p.segs)) := by
  have hsl := hp.segs
  clear hp
  obtain ⟨an, nn, cn, ag, ng, cg, ap, np, cp, ar, nr, cr, ae, ne, ce⟩ := h
  dsimp only at *
  go_enter Tryd.func31, Tryd.ntmps31
  go_wp2
  go_loopw [3, 4] (fun v i wr => ∃ k : Nat, k ≤ ng ∧ i = .int .i64 k ∧ Own wr (w.heap.size + 1) 3 tInt v (liveF 0 (p.segs.take k)) ∧ Below (w.heap.size + 1) (w.alloc (.cells #[.string p.loc, .string p.off, .slice an nn cn, .slice ag ng cg, .slice ap np cp, .int .i64 p.tik.kind, .int .i64 p.tik.day, .int .i64 p.tik.min, .string p.rc, .slice ar nr cr, .slice ae ne ce, .bool p.queued] 29)) wr) (fun _ i _ => ng - (intOf i).toNat)
  case atStart => exact ⟨0, Nat.zero_le _, rfl, Own.nil_ _ _ _ _, Below.refl _ _⟩
  case round =>
    obtain ⟨k, hk, rfl, hown, hbel⟩ := hrel
    have cb := hbel.cell (p := ⟨w.heap.size, 3, none⟩) (by simp)
    simp [World.cell?_alloc_new] at cb
    by_cases hlt : k < ng
    · have hslr := ((hsl.alloc hhi _).below hbel (Nat.le_succ_of_le hhi))
      obtain ⟨b, o, x, rfl, h1, h2, hx, hok, c0, c1, c2, c3, c4⟩ := hslr.seg_ hlt
      clear hslr
      have hll := liveF_len (p.segs.take k) 0
      have htl : (p.segs.take k).length ≤ k := List.length_take_le _ _
      rcases Bool.eq_false_or_eq_true x.live with hlv | hlv
      · go_wp2_with (at_builtin; refine push_law rfl (.tmp 18) (.tmp 21) rfl slInts rfl (hown) ((k : Int) + 1) (by unfold tInt okInt; omega) _ rfl (by simp [Act.eval]) (by have := hbel.size; simp at this ⊢; omega) (by omega) ?_; intro v' w' hown' hbel')
        go_roundw
        case rel => exact ⟨k + 1, by omega, by go_num, by rw [liveF_yes hx.out hlv]; exact hown', hbel.trans hbel'⟩
        case measure => simp [intOf]; omega
      · go_wp2
        go_roundw
        case rel => exact ⟨k + 1, by omega, by go_num, by rw [liveF_no hx.out hlv]; exact hown, hbel⟩
        case measure => simp [intOf]; omega
    · go_wp2
      go_ret
      refine RetOwn.mk' ?_ ?_
      · have e : p.segs.take k = p.segs := List.take_of_length_le (by have := hsl.len; omega)
        rw [e] at hown
        exact hown.more (Nat.le_succ _)
      · exact ((Below.refl _ _).alloc (Nat.le_refl _) _).trans (hbel.mono (Nat.le_succ _))
end Go.Proofs.YtaakcccffmfmoaaDoor
