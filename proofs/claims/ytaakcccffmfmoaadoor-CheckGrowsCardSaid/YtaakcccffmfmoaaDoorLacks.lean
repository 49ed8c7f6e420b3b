/- What a PNR lacks: the program's answer and the document's. -/
import Derived.Test.YtaakcccffmfmoaaDoorLive
import Derived.Deep.RegionHeld3
import Derived.Deep.DrawnRows
namespace Go.Proofs.YtaakcccffmfmoaaDoor
set_option linter.unusedVariables false
open Go Go.RowKit
attribute [local go_sem ↓] Go.wp_at_zero Go.wp_at_succ
theorem slErr : SlT Tryd.prog 32 36 1 := SlT.mk' (z := .int .i64 0) (b := 8) Tryd.underlying32 (by kernel_rfl) (by omega) rfl
def picks (l : List (Bool × Int)) : List Int := l.flatMap fun x => if x.1 then [x.2] else []
def lackT (b0 b1 b2 b3 b4 : Bool) : List (Bool × Int) := [(b0, 20), (b1, 21), (b2, 22), (b3, 23), (b4, 24)]
def lacksF (p : Pnr) (h : Hd) : List Int := picks (lackT ((h.nn : Int) == 0) (((liveF 0 p.segs).length : Int) == 0) ((h.np : Int) == 0) (p.tik.kind == 0) p.rc.toList.isEmpty)
theorem picks_yes {l : List (Bool × Int)} {k : Nat} {e : Int} (h : l[k]? = some (true, e)) : picks (l.take (k + 1)) = picks (l.take k) ++ [e] := by
  rw [take_succ_of h]; simp [picks]
theorem picks_no {l : List (Bool × Int)} {k : Nat} {e : Int} (h : l[k]? = some (false, e)) : picks (l.take (k + 1)) = picks (l.take k) := by
  rw [take_succ_of h]; simp [picks]
theorem picks_len : ∀ l : List (Bool × Int), (picks l).length ≤ l.length
  | [] => by simp [picks]
  | (true, e) :: t => by
    have e : picks ((true, e) :: t) = e :: picks t := rfl
    have := picks_len t
    rw [e]; simp only [List.length_cons]; omega
  | (false, e) :: t => by
    have e : picks ((false, e) :: t) = picks t := rfl
    have := picks_len t
    rw [e]; simp only [List.length_cons]; omega
theorem picks_lt (b0 b1 b2 b3 b4 : Bool) (k : Nat) : (picks ((lackT b0 b1 b2 b3 b4).take k)).length < 2147483648 := by
  have h1 := picks_len ((lackT b0 b1 b2 b3 b4).take k)
  have h2 : ((lackT b0 b1 b2 b3 b4).take k).length ≤ 5 := by rw [List.length_take]; exact Nat.min_le_right _ _
  omega
theorem idx0 (x0 x1 x2 x3 x4 x5 x6 x7 x8 x9 : Value) (w : World) : (Instr.index 74 (.agg #[x0, x1, x2, x3, x4, x5, x6, x7, x8, x9]) (.int .i64 0)).run Tryd.prog w = .ok (.agg #[x0, x1]) w := by kernel_rfl
theorem idx1 (x0 x1 x2 x3 x4 x5 x6 x7 x8 x9 : Value) (w : World) : (Instr.index 74 (.agg #[x0, x1, x2, x3, x4, x5, x6, x7, x8, x9]) (.int .i64 1)).run Tryd.prog w = .ok (.agg #[x2, x3]) w := by kernel_rfl
theorem idx2 (x0 x1 x2 x3 x4 x5 x6 x7 x8 x9 : Value) (w : World) : (Instr.index 74 (.agg #[x0, x1, x2, x3, x4, x5, x6, x7, x8, x9]) (.int .i64 2)).run Tryd.prog w = .ok (.agg #[x4, x5]) w := by kernel_rfl
theorem idx3 (x0 x1 x2 x3 x4 x5 x6 x7 x8 x9 : Value) (w : World) : (Instr.index 74 (.agg #[x0, x1, x2, x3, x4, x5, x6, x7, x8, x9]) (.int .i64 3)).run Tryd.prog w = .ok (.agg #[x6, x7]) w := by kernel_rfl
theorem idx4 (x0 x1 x2 x3 x4 x5 x6 x7 x8 x9 : Value) (w : World) : (Instr.index 74 (.agg #[x0, x1, x2, x3, x4, x5, x6, x7, x8, x9]) (.int .i64 4)).run Tryd.prog w = .ok (.agg #[x8, x9]) w := by kernel_rfl
set_option maxRecDepth 100000 in
set_option maxHeartbeats 4000000 in
theorem lacks_any (p : Pnr) (h : Hd) (w : World) (lo hi : Nat) (hp : PAt w lo hi p h) (hn : h.ng ≤ 100000) (hhi : hi ≤ w.heap.size) :
    Calls Tryd.prog 16 #[.agg #[.string p.loc, .string p.off, .slice h.an h.nn h.cn, .slice h.ag h.ng h.cg, .slice h.ap h.np h.cp, .int .i64 p.tik.kind, .int .i64 p.tik.day, .int .i64 p.tik.min, .string p.rc, .slice h.ar h.nr h.cr, .slice h.ae h.ne h.ce, .bool p.queued]] w (RetOwn w 36 tInt (lacksF p h)) := by
  go_enter Tryd.func16, Tryd.ntmps16
  go_wp2
  go_region_held3 (fun w' => (∀ i : Nat, w'.cell? ⟨w.heap.size, i, none⟩ = (#[.string p.loc, .string p.off, .slice h.an h.nn h.cn, .slice h.ag h.ng h.cg, .slice h.ap h.np h.cp, .int .i64 p.tik.kind, .int .i64 p.tik.day, .int .i64 p.tik.min, .string p.rc, .slice h.ar h.nr h.cr, .slice h.ae h.ne h.ce, .bool p.queued] : Array Value)[i]?)) (repeat (first | (with_reducible assumption) | (with_reducible exact boxed_new _ _ _) | (with_reducible refine boxed_drew ?_) | (with_reducible refine boxed_drewN ?_ _) | (with_reducible refine boxed_alloc ?_ (by first | (simp; done) | omega | (simp; omega)) _) | (with_reducible refine boxed_set ?_ _ (by first | (simp; done) | omega | (simp; omega)) _) | (with_reducible refine boxed_below ?_ hb (by first | (simp; done) | omega | (simp; omega)))))
    (first | (go_at_call 30; refine (live_any p h _ lo hi (by first | exact ((hp.alloc hhi _).drew) | exact (((hp.alloc hhi _).alloc (by simp; omega) _).drew)) hn (by simp; omega)).mono ?_; rintro e w1 ⟨A, c, rfl, hown, hb⟩; obtain ⟨hc, hf⟩ := bcell hb; have hz : w.heap.size < w1.heap.size := Nat.lt_of_lt_of_le (by first | (simp; done) | omega | (simp; omega)) hb.size))
  all_goals go_wp2
  all_goals (generalize hq0 : ((h.nn : Int) == 0) = b0; generalize hq1 : (((liveF 0 p.segs).length : Int) == 0) = b1; generalize hq2 : ((h.np : Int) == 0) = b2; generalize hq3 : (p.tik.kind == 0) = b3; generalize hq4 : p.rc.toList.isEmpty = b4)
  all_goals (have HQ := Lib.hid (show lacksF p h = picks (lackT b0 b1 b2 b3 b4) by rw [lacksF, hq0, hq1, hq2, hq3, hq4]); clear hq0 hq1 hq2 hq3 hq4)
  all_goals
    refine wp_world (fun w' => Below w.heap.size w w') ?_ ?_
    · (repeat (first | with_reducible exact Below.refl _ _ | (with_reducible refine Below.drew ?_) | (with_reducible refine below_drewN ?_ _) | (with_reducible refine Below.alloc ?_ (by first | (simp; done) | omega | (simp; omega)) _) | (with_reducible refine Below.setCell ?_ (by first | (simp; done) | omega | (simp; omega)) _) | (with_reducible refine Below.trans ?_ (Below.mono hb (by first | (simp; done) | omega | (simp; omega)))) | with_reducible assumption))
    intro W0 hB0
    go_loopw [4, 33] (fun v i wr => ∃ k : Nat, k ≤ 5 ∧ i = .int .i64 k ∧ Own wr w.heap.size 36 tInt v (picks ((lackT b0 b1 b2 b3 b4).take k)) ∧ Below w.heap.size w wr) (fun _ i _ => 5 - (intOf i).toNat)
    case atStart => exact ⟨0, by omega, rfl, Own.nil_ _ _ _ _, hB0⟩
    case round =>
      obtain ⟨k, hk, rfl, hown, hbel⟩ := hrel
      rcases (show k = 0 ∨ k = 1 ∨ k = 2 ∨ k = 3 ∨ k = 4 ∨ k = 5 by omega) with rfl | rfl | rfl | rfl | rfl | rfl
      · have hix := idx0
        cases b0
        · have hnx := Lib.hid (picks_no (k := 0) (show (lackT false b1 b2 b3 b4)[0]? = some (false, 20) from rfl))
          go_wp2
          go_roundw
          case rel => exact ⟨1, by omega, rfl, by rw [hnx.out]; exact hown.alloc _, hbel.alloc hbel.size _⟩
          case measure => simp [intOf]
        · have hnx := Lib.hid (picks_yes (k := 0) (show (lackT true b1 b2 b3 b4)[0]? = some (true, 20) from rfl))
          have hlt := picks_lt true b1 b2 b3 b4 0
          go_wp2_with (at_builtin; refine push_law rfl (.tmp 38) (.tmp 41) rfl slErr rfl (hown.alloc _) 20 (by unfold tInt okInt; omega) _ rfl (by simp [Act.eval]) (by have := hbel.size; simp; omega) hlt ?_; intro v' w' hown' hbel')
          go_roundw
          case rel => exact ⟨1, by omega, rfl, by rw [hnx.out]; exact hown', (hbel.alloc hbel.size _).trans hbel'⟩
          case measure => simp [intOf]
      · have hix := idx1
        cases b1
        · have hnx := Lib.hid (picks_no (k := 1) (show (lackT b0 false b2 b3 b4)[1]? = some (false, 21) from rfl))
          go_wp2
          go_roundw
          case rel => exact ⟨2, by omega, rfl, by rw [hnx.out]; exact hown.alloc _, hbel.alloc hbel.size _⟩
          case measure => simp [intOf]
        · have hnx := Lib.hid (picks_yes (k := 1) (show (lackT b0 true b2 b3 b4)[1]? = some (true, 21) from rfl))
          have hlt := picks_lt b0 true b2 b3 b4 1
          go_wp2_with (at_builtin; refine push_law rfl (.tmp 38) (.tmp 41) rfl slErr rfl (hown.alloc _) 21 (by unfold tInt okInt; omega) _ rfl (by simp [Act.eval]) (by have := hbel.size; simp; omega) hlt ?_; intro v' w' hown' hbel')
          go_roundw
          case rel => exact ⟨2, by omega, rfl, by rw [hnx.out]; exact hown', (hbel.alloc hbel.size _).trans hbel'⟩
          case measure => simp [intOf]
      · have hix := idx2
        cases b2
        · have hnx := Lib.hid (picks_no (k := 2) (show (lackT b0 b1 false b3 b4)[2]? = some (false, 22) from rfl))
          go_wp2
          go_roundw
          case rel => exact ⟨3, by omega, rfl, by rw [hnx.out]; exact hown.alloc _, hbel.alloc hbel.size _⟩
          case measure => simp [intOf]
        · have hnx := Lib.hid (picks_yes (k := 2) (show (lackT b0 b1 true b3 b4)[2]? = some (true, 22) from rfl))
          have hlt := picks_lt b0 b1 true b3 b4 2
          go_wp2_with (at_builtin; refine push_law rfl (.tmp 38) (.tmp 41) rfl slErr rfl (hown.alloc _) 22 (by unfold tInt okInt; omega) _ rfl (by simp [Act.eval]) (by have := hbel.size; simp; omega) hlt ?_; intro v' w' hown' hbel')
          go_roundw
          case rel => exact ⟨3, by omega, rfl, by rw [hnx.out]; exact hown', (hbel.alloc hbel.size _).trans hbel'⟩
          case measure => simp [intOf]
      · have hix := idx3
        cases b3
        · have hnx := Lib.hid (picks_no (k := 3) (show (lackT b0 b1 b2 false b4)[3]? = some (false, 23) from rfl))
          go_wp2
          go_roundw
          case rel => exact ⟨4, by omega, rfl, by rw [hnx.out]; exact hown.alloc _, hbel.alloc hbel.size _⟩
          case measure => simp [intOf]
        · have hnx := Lib.hid (picks_yes (k := 3) (show (lackT b0 b1 b2 true b4)[3]? = some (true, 23) from rfl))
          have hlt := picks_lt b0 b1 b2 true b4 3
          go_wp2_with (at_builtin; refine push_law rfl (.tmp 38) (.tmp 41) rfl slErr rfl (hown.alloc _) 23 (by unfold tInt okInt; omega) _ rfl (by simp [Act.eval]) (by have := hbel.size; simp; omega) hlt ?_; intro v' w' hown' hbel')
          go_roundw
          case rel => exact ⟨4, by omega, rfl, by rw [hnx.out]; exact hown', (hbel.alloc hbel.size _).trans hbel'⟩
          case measure => simp [intOf]
      · have hix := idx4
        cases b4
        · have hnx := Lib.hid (picks_no (k := 4) (show (lackT b0 b1 b2 b3 false)[4]? = some (false, 24) from rfl))
          go_wp2
          go_roundw
          case rel => exact ⟨5, by omega, rfl, by rw [hnx.out]; exact hown.alloc _, hbel.alloc hbel.size _⟩
          case measure => simp [intOf]
        · have hnx := Lib.hid (picks_yes (k := 4) (show (lackT b0 b1 b2 b3 true)[4]? = some (true, 24) from rfl))
          have hlt := picks_lt b0 b1 b2 b3 true 4
          go_wp2_with (at_builtin; refine push_law rfl (.tmp 38) (.tmp 41) rfl slErr rfl (hown.alloc _) 24 (by unfold tInt okInt; omega) _ rfl (by simp [Act.eval]) (by have := hbel.size; simp; omega) hlt ?_; intro v' w' hown' hbel')
          go_roundw
          case rel => exact ⟨5, by omega, rfl, by rw [hnx.out]; exact hown', (hbel.alloc hbel.size _).trans hbel'⟩
          case measure => simp [intOf]
      · go_wp2
        go_ret
        exact HQ.out ▸ RetOwn.mk' (l := picks (lackT b0 b1 b2 b3 b4)) hown hbel
end Go.Proofs.YtaakcccffmfmoaaDoor
