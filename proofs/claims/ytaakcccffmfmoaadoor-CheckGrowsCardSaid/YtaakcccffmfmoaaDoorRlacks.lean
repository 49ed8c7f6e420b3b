/- What a PNR lacks: the document's answer. -/
import Derived.Test.YtaakcccffmfmoaaDoorLacks
import Derived.Deep.DeepCutAuto
namespace Go.Proofs.YtaakcccffmfmoaaDoor
set_option linter.unusedVariables false
open Go Go.RowKit
/-- A box that the walk reads again and again, and what lies behind it. -/
def RL (w : World) (p : Pnr) (h : Hd) (k : Nat) (v : Value) (w' : World) : Prop :=
  Own w' (w.heap.size + 1) 3 tInt v (picks ((lackT ((h.nn : Int) == 0) (((liveF 0 p.segs).length : Int) == 0) ((h.np : Int) == 0) (p.tik.kind == 0) p.rc.toList.isEmpty).take k)) ∧ Below (w.heap.size + 1) (w.alloc (.cells #[.string p.loc, .string p.off, .slice h.an h.nn h.cn, .slice h.ag h.ng h.cg, .slice h.ap h.np h.cp, .int .i64 p.tik.kind, .int .i64 p.tik.day, .int .i64 p.tik.min, .string p.rc, .slice h.ar h.nr h.cr, .slice h.ae h.ne h.ce, .bool p.queued] 29)) w'
theorem RL.box {w w' : World} {p : Pnr} {h : Hd} {k : Nat} {v : Value} (H : RL w p h k v w') : ∀ i, w'.cell? ⟨w.heap.size, i, none⟩ = (#[.string p.loc, .string p.off, .slice h.an h.nn h.cn, .slice h.ag h.ng h.cg, .slice h.ap h.np h.cp, .int .i64 p.tik.kind, .int .i64 p.tik.day, .int .i64 p.tik.min, .string p.rc, .slice h.ar h.nr h.cr, .slice h.ae h.ne h.ce, .bool p.queued] : Array Value)[i]? :=
  fun i => (H.2.cell (by simp)).trans (by simp)
theorem RL.size {w w' : World} {p : Pnr} {h : Hd} {k : Nat} {v : Value} (H : RL w p h k v w') : w.heap.size + 1 ≤ w'.heap.size := by
  have := H.2.size; simpa using this
theorem RL.step {w w' w2 : World} {p : Pnr} {h : Hd} {k : Nat} {v : Value} (H : RL w p h k v w') (hb : Below w'.heap.size w' w2) : RL w p h k v w2 :=
  ⟨H.1.keep hb, H.2.trans (hb.mono H.size)⟩
set_option maxRecDepth 100000 in
set_option maxHeartbeats 4000000 in
theorem rlacks_any (p : Pnr) (h : Hd) (w : World) (lo hi : Nat) (hp : PAt w lo hi p h) (hn : h.ng ≤ 100000) (hhi : hi ≤ w.heap.size) :
    Calls Tryd.prog 17 #[.agg #[.string p.loc, .string p.off, .slice h.an h.nn h.cn, .slice h.ag h.ng h.cg, .slice h.ap h.np h.cp, .int .i64 p.tik.kind, .int .i64 p.tik.day, .int .i64 p.tik.min, .string p.rc, .slice h.ar h.nr h.cr, .slice h.ae h.ne h.ce, .bool p.queued]] w (RetOwn w 3 tInt (lacksF p h)) := by
  go_enter Tryd.func17, Tryd.ntmps17
  go_upto_if 7 with fail
  go_cut [3] (fun v w' => RL w p h 1 v w')
  case first =>
    have hown0 := Own.nil_ (w.alloc (.cells #[.string p.loc, .string p.off, .slice h.an h.nn h.cn, .slice h.ag h.ng h.cg, .slice h.ap h.np h.cp, .int .i64 p.tik.kind, .int .i64 p.tik.day, .int .i64 p.tik.min, .string p.rc, .slice h.ar h.nr h.cr, .slice h.ae h.ne h.ce, .bool p.queued] 29)) (w.heap.size + 1) 3 tInt
    generalize hq : ((h.nn : Int) == 0) = b
    have HQ := Lib.hid hq
    clear hq
    rcases Bool.eq_false_or_eq_true b with rfl | rfl
    · have hnx := Lib.hid (picks_yes (k := 0) (show (lackT ((h.nn : Int) == 0) (((liveF 0 p.segs).length : Int) == 0) ((h.np : Int) == 0) (p.tik.kind == 0) p.rc.toList.isEmpty)[0]? = some (true, 20) by rw [HQ.out]; rfl))
      have hlt := picks_lt ((h.nn : Int) == 0) (((liveF 0 p.segs).length : Int) == 0) ((h.np : Int) == 0) (p.tik.kind == 0) p.rc.toList.isEmpty 0
      go_wp2_with (at_builtin; refine push_law (l := picks ((lackT ((h.nn : Int) == 0) (((liveF 0 p.segs).length : Int) == 0) ((h.np : Int) == 0) (p.tik.kind == 0) p.rc.toList.isEmpty).take 0)) rfl (.tmp 8) (.tmp 9) rfl slInts rfl hown0 20 (by unfold tInt okInt; omega) _ rfl (by simp [Act.eval]) (by simp) hlt ?_; intro v' w' hown' hbel')
      go_meet
      case rel => exact ⟨by rw [hnx.out]; exact hown', (Below.refl _ _).trans hbel'⟩
    · have hnx := Lib.hid (picks_no (k := 0) (show (lackT ((h.nn : Int) == 0) (((liveF 0 p.segs).length : Int) == 0) ((h.np : Int) == 0) (p.tik.kind == 0) p.rc.toList.isEmpty)[0]? = some (false, 20) by rw [HQ.out]; rfl))
      go_wp2
      go_meet
      case rel => exact ⟨by rw [hnx.out]; exact hown0, (Below.refl _ _)⟩
  case rest =>
  have hbox := hcut.box; have hsz := hcut.size
  go_upto_if 14 with (go_at_call 31; refine (rlive_any p h _ lo hi ((hp.alloc hhi _).below hcut.2 (by omega)) hn (by omega)).mono ?_; rintro e w1 ⟨A, c, rfl, hownL, hbL⟩; have hcut := hcut.step hbL; have hbox := hcut.box)
  go_cut [3] (fun v w' => RL w p h 2 v w')
  case first =>
    generalize hq : (((liveF 0 p.segs).length : Int) == 0) = b
    have HQ := Lib.hid hq
    clear hq
    rcases Bool.eq_false_or_eq_true b with rfl | rfl
    · have hnx := Lib.hid (picks_yes (k := 1) (show (lackT ((h.nn : Int) == 0) (((liveF 0 p.segs).length : Int) == 0) ((h.np : Int) == 0) (p.tik.kind == 0) p.rc.toList.isEmpty)[1]? = some (true, 21) by rw [HQ.out]; rfl))
      have hlt := picks_lt ((h.nn : Int) == 0) (((liveF 0 p.segs).length : Int) == 0) ((h.np : Int) == 0) (p.tik.kind == 0) p.rc.toList.isEmpty 1
      go_wp2_with (at_builtin; refine push_law (l := picks ((lackT ((h.nn : Int) == 0) (((liveF 0 p.segs).length : Int) == 0) ((h.np : Int) == 0) (p.tik.kind == 0) p.rc.toList.isEmpty).take 1)) rfl (.tmp 15) (.tmp 16) rfl slInts rfl hcut.1 21 (by unfold tInt okInt; omega) _ rfl (by simp [Act.eval]) hcut.size hlt ?_; intro v' w' hown' hbel')
      go_meet
      case rel => exact ⟨by rw [hnx.out]; exact hown', hcut.2.trans hbel'⟩
    · have hnx := Lib.hid (picks_no (k := 1) (show (lackT ((h.nn : Int) == 0) (((liveF 0 p.segs).length : Int) == 0) ((h.np : Int) == 0) (p.tik.kind == 0) p.rc.toList.isEmpty)[1]? = some (false, 21) by rw [HQ.out]; rfl))
      go_wp2
      go_meet
      case rel => exact ⟨by rw [hnx.out]; exact hcut.1, hcut.2⟩
  case rest =>
  have hbox := hcut.box; have hsz := hcut.size
  go_upto_if 21 with fail
  go_cut [3] (fun v w' => RL w p h 3 v w')
  case first =>
    generalize hq : ((h.np : Int) == 0) = b
    have HQ := Lib.hid hq
    clear hq
    rcases Bool.eq_false_or_eq_true b with rfl | rfl
    · have hnx := Lib.hid (picks_yes (k := 2) (show (lackT ((h.nn : Int) == 0) (((liveF 0 p.segs).length : Int) == 0) ((h.np : Int) == 0) (p.tik.kind == 0) p.rc.toList.isEmpty)[2]? = some (true, 22) by rw [HQ.out]; rfl))
      have hlt := picks_lt ((h.nn : Int) == 0) (((liveF 0 p.segs).length : Int) == 0) ((h.np : Int) == 0) (p.tik.kind == 0) p.rc.toList.isEmpty 2
      go_wp2_with (at_builtin; refine push_law (l := picks ((lackT ((h.nn : Int) == 0) (((liveF 0 p.segs).length : Int) == 0) ((h.np : Int) == 0) (p.tik.kind == 0) p.rc.toList.isEmpty).take 2)) rfl (.tmp 22) (.tmp 23) rfl slInts rfl hcut.1 22 (by unfold tInt okInt; omega) _ rfl (by simp [Act.eval]) hcut.size hlt ?_; intro v' w' hown' hbel')
      go_meet
      case rel => exact ⟨by rw [hnx.out]; exact hown', hcut.2.trans hbel'⟩
    · have hnx := Lib.hid (picks_no (k := 2) (show (lackT ((h.nn : Int) == 0) (((liveF 0 p.segs).length : Int) == 0) ((h.np : Int) == 0) (p.tik.kind == 0) p.rc.toList.isEmpty)[2]? = some (false, 22) by rw [HQ.out]; rfl))
      go_wp2
      go_meet
      case rel => exact ⟨by rw [hnx.out]; exact hcut.1, hcut.2⟩
  case rest =>
  have hbox := hcut.box; have hsz := hcut.size
  go_upto_if 28 with fail
  go_cut [3] (fun v w' => RL w p h 4 v w')
  case first =>
    generalize hq : (p.tik.kind == 0) = b
    have HQ := Lib.hid hq
    clear hq
    rcases Bool.eq_false_or_eq_true b with rfl | rfl
    · have hnx := Lib.hid (picks_yes (k := 3) (show (lackT ((h.nn : Int) == 0) (((liveF 0 p.segs).length : Int) == 0) ((h.np : Int) == 0) (p.tik.kind == 0) p.rc.toList.isEmpty)[3]? = some (true, 23) by rw [HQ.out]; rfl))
      have hlt := picks_lt ((h.nn : Int) == 0) (((liveF 0 p.segs).length : Int) == 0) ((h.np : Int) == 0) (p.tik.kind == 0) p.rc.toList.isEmpty 3
      go_wp2_with (at_builtin; refine push_law (l := picks ((lackT ((h.nn : Int) == 0) (((liveF 0 p.segs).length : Int) == 0) ((h.np : Int) == 0) (p.tik.kind == 0) p.rc.toList.isEmpty).take 3)) rfl (.tmp 29) (.tmp 30) rfl slInts rfl hcut.1 23 (by unfold tInt okInt; omega) _ rfl (by simp [Act.eval]) hcut.size hlt ?_; intro v' w' hown' hbel')
      go_meet
      case rel => exact ⟨by rw [hnx.out]; exact hown', hcut.2.trans hbel'⟩
    · have hnx := Lib.hid (picks_no (k := 3) (show (lackT ((h.nn : Int) == 0) (((liveF 0 p.segs).length : Int) == 0) ((h.np : Int) == 0) (p.tik.kind == 0) p.rc.toList.isEmpty)[3]? = some (false, 23) by rw [HQ.out]; rfl))
      go_wp2
      go_meet
      case rel => exact ⟨by rw [hnx.out]; exact hcut.1, hcut.2⟩
  case rest =>
  have hbox := hcut.box; have hsz := hcut.size
  go_upto_if 34 with fail
  go_cut [3] (fun v w' => RL w p h 5 v w')
  case first =>
    generalize hq : p.rc.toList.isEmpty = b
    have HQ := Lib.hid hq
    clear hq
    rcases Bool.eq_false_or_eq_true b with rfl | rfl
    · have hnx := Lib.hid (picks_yes (k := 4) (show (lackT ((h.nn : Int) == 0) (((liveF 0 p.segs).length : Int) == 0) ((h.np : Int) == 0) (p.tik.kind == 0) p.rc.toList.isEmpty)[4]? = some (true, 24) by rw [HQ.out]; rfl))
      have hlt := picks_lt ((h.nn : Int) == 0) (((liveF 0 p.segs).length : Int) == 0) ((h.np : Int) == 0) (p.tik.kind == 0) p.rc.toList.isEmpty 4
      go_wp2_with (at_builtin; refine push_law (l := picks ((lackT ((h.nn : Int) == 0) (((liveF 0 p.segs).length : Int) == 0) ((h.np : Int) == 0) (p.tik.kind == 0) p.rc.toList.isEmpty).take 4)) rfl (.tmp 35) (.tmp 36) rfl slInts rfl hcut.1 24 (by unfold tInt okInt; omega) _ rfl (by simp [Act.eval]) hcut.size hlt ?_; intro v' w' hown' hbel')
      go_meet
      case rel => exact ⟨by rw [hnx.out]; exact hown', hcut.2.trans hbel'⟩
    · have hnx := Lib.hid (picks_no (k := 4) (show (lackT ((h.nn : Int) == 0) (((liveF 0 p.segs).length : Int) == 0) ((h.np : Int) == 0) (p.tik.kind == 0) p.rc.toList.isEmpty)[4]? = some (false, 24) by rw [HQ.out]; rfl))
      go_wp2
      go_meet
      case rel => exact ⟨by rw [hnx.out]; exact hcut.1, hcut.2⟩
  case rest =>
  have hsz := hcut.size
  go_wp2
  go_ret
  exact RetOwn.mk' (l := lacksF p h) (hcut.1.more (Nat.le_succ _)) (((Below.refl _ _).alloc (Nat.le_refl _) _).trans (hcut.2.mono (Nat.le_succ _)))
end Go.Proofs.YtaakcccffmfmoaaDoor
