/- script.Parse; events that are compared. -/
import Derived.Test.YtggomjfllbljeaaGreatDoorScF
namespace Go.Proofs.YtggomjfllbljeaaGreatDoor
set_option linter.unusedVariables false
open Go Go.RowKit
def evOf (o : Option Ev) : Ev := o.getD ev0
/-- What Parse hands back: the event and no error, or the empty one and the error. -/
def RetPa (W : World) (o : Option Ev) (e : Ending) (W' : World) : Prop :=
  ∃ A c, e = .returned (.tuple #[.agg (evC (evOf o).kind (evOf o).agent (evOf o).entry (evOf o).n (.slice A (evOf o).keep.length c)), .int .i64 (if o.isSome then 0 else 60)]) ∧ Own W' W.heap.size 4 tBool (.slice A (evOf o).keep.length c) (evOf o).keep ∧ Below W.heap.size W W'
set_option maxRecDepth 100000 in
set_option maxHeartbeats 4000000 in
theorem parse_any (s : ByteArray) (h2 : s.size ≤ 100000) (W : World) : Calls Tryz.prog 5 #[.string s] W (RetPa W (parseF s)) := by
  have HR := Lib.hid (fun V => read_any s h2 V)
  generalize parseF s = o at HR ⊢
  have b1 := Bx.new W (evC 0 0 ⟨#[]⟩ 0 (.slice none 0 0)) 24
  have hb0 : Below W.heap.size W (W.alloc (.cells (evC 0 0 ⟨#[]⟩ 0 (.slice none 0 0)) 24)) := (Below.refl _ _).alloc (Nat.le_refl _) _
  go_enter Tryz.func5, Tryz.ntmps5
  go_upto_region 1 with fail
  refine wp_world (fun V => Bx V W.heap.size (evC 0 0 ⟨#[]⟩ 0 (.slice none 0 0)) 24 ∧ Below W.heap.size W V) ⟨b1, hb0⟩ ?_
  clear b1 hb0
  rintro V1 ⟨b1, hb1⟩
  have hz1 := b1.lt
  go_wp2_with fail
  refine (HR.out _).mono ?_
  rintro e V2 ⟨k, ag, en, n, A, m, c, l, ok, rfl, o1, o2, hl, hw, hb⟩
  have b2 := b1.below hb hz1
  have hb2 : Below W.heap.size W V2 := hb1.trans (hb.mono (by omega))
  have hz2 := b2.lt
  have O1 := Lib.hid o1
  have O2 := Lib.hid o2
  clear o1 o2 b1
  subst hl
  rcases ok with _ | _
  · obtain rfl : o = none := O2.out rfl
    clear HR O1 O2
    go_upto_region 2 with fail
    refine wp_world (fun V => Bx V W.heap.size (evC 0 0 ⟨#[]⟩ 0 (.slice none 0 0)) 24 ∧ Below W.heap.size W V) ⟨?_, ?_⟩ ?_
    · exact b2.alloc _
    · exact hb2.alloc (by omega) _
    rintro V3 ⟨b4, hb4⟩
    have c1 := b4.cells
    have f1 := b4.free
    have H9 := (((((b4.put 0 (.int .i64 0)).put 1 (.int .i64 0)).put 2 (.string ⟨#[]⟩)).put 3 (.int .i64 0)).put 4 (.slice none 0 0))
    go_wp2
    clear c1 f1
    refine ret_ev Tryz.results5 H9 rfl rfl rfl rfl ?_
    exact ⟨_, _, rfl, ow_nil _ _, ((((hb4.setCell (Nat.le_refl _) _).setCell (Nat.le_refl _) _).setCell (Nat.le_refl _) _).setCell (Nat.le_refl _) _).setCell (Nat.le_refl _) _⟩
  · obtain rfl : o = some ⟨k, ag, en, n, l⟩ := O1.out rfl
    clear HR O1 O2
    have b3 := Bx.new V2 (evC k ag en n (.slice A l.length c)) 24
    have hw2 := (hw.more (B' := W.heap.size + 1) (by omega)).alloc (.cells (evC k ag en n (.slice A l.length c)) 24)
    go_upto_region 2 with fail
    refine wp_world (fun V => Bx V W.heap.size (evC 0 0 ⟨#[]⟩ 0 (.slice none 0 0)) 24 ∧ Bx V V2.heap.size (evC k ag en n (.slice A l.length c)) 24 ∧ Below W.heap.size W V ∧ Own V (W.heap.size + 1) 4 tBool (.slice A l.length c) l) ⟨b2.alloc _, b3, hb2.alloc (by omega) _, hw2⟩ ?_
    clear b3 hw2
    rintro V3 ⟨b4, b5, hb4, hw3⟩
    have c1 := b4.cells
    have f1 := b4.free
    have c2 := b5.cells
    have H9 := (((((b4.put 0 (.int .i64 k)).put 1 (.int .i64 ag)).put 2 (.string en)).put 3 (.int .i64 n)).put 4 (.slice A l.length c))
    have hw4 := hw3.put5 (g := W.heap.size) (by omega) (.int .i64 k) (.int .i64 ag) (.string en) (.int .i64 n) (.slice A l.length c)
    go_wp2
    clear c1 f1 c2
    refine ret_ev Tryz.results5 H9 rfl rfl rfl rfl ?_
    exact ⟨_, _, rfl, hw4.more (by omega), ((((hb4.setCell (Nat.le_refl _) _).setCell (Nat.le_refl _) _).setCell (Nat.le_refl _) _).setCell (Nat.le_refl _) _).setCell (Nat.le_refl _) _⟩
section
variable {w : World} {lo hi n : Nat} {A : Option Addr} {k : Nat}
theorem Sl.bool_ {l : List Bool} (h : Sl w lo hi tBool A n l) (hk : k < n) :
    ∃ b o x, A = some ⟨b, o, none⟩ ∧ lo ≤ b ∧ b < hi ∧ Hid (l[k]? = some x) ∧ w.cell? ⟨b, o + k, none⟩ = some (.bool x) := by
  obtain ⟨b, o, x, h1, h2, h3, h4, h5, hc⟩ := h.at_ hk
  exact ⟨b, o, x, h1, h2, h3, h4, by simpa [tBool] using hc 0 _ rfl⟩
end
theorem two_ev (w : World) (c1 c2 : Array Value) (t : TypeId) : Bx ((w.alloc (.cells c1 t)).alloc (.cells c2 t)) w.heap.size c1 t ∧ Bx ((w.alloc (.cells c1 t)).alloc (.cells c2 t)) (w.heap.size + 1) c2 t ∧ Below w.heap.size w ((w.alloc (.cells c1 t)).alloc (.cells c2 t)) := by
  have := Bx.new (w.alloc (.cells c1 t)) c2 t
  rw [World.size_alloc] at this
  exact ⟨(Bx.new _ _ _).alloc _, this, ((Below.refl _ _).alloc (Nat.le_refl _) _).alloc (by simp) _⟩
theorem drop_eq {l m : List Bool} {k : Nat} {x y : Bool} (hx : l[k]? = some x) (hy : m[k]? = some y) : (l.drop k = m.drop k ↔ x = y ∧ l.drop (k + 1) = m.drop (k + 1)) := by
  have h1 : k < l.length := (List.getElem?_eq_some_iff.1 hx).1
  have h2 : k < m.length := (List.getElem?_eq_some_iff.1 hy).1
  rw [List.drop_eq_getElem_cons h1, List.drop_eq_getElem_cons h2, List.cons.injEq]
  rw [List.getElem?_eq_getElem h1] at hx
  rw [List.getElem?_eq_getElem h2] at hy
  injection hx with hx
  injection hy with hy
  rw [hx, hy]
/-- What a comparison hands back. -/
def RetEq (W : World) (q : Bool) (e : Ending) (W' : World) : Prop := e = .returned (.bool q) ∧ Below W.heap.size W W'
set_option maxRecDepth 100000 in
set_option maxHeartbeats 8000000 in
theorem same_any (x y : Ev) {W : World} {lo hi lo2 hi2 : Nat} {A A2 : Option Addr} {m m2 c c2 : Nat} (hx : Sl W lo hi tBool A m x.keep) (hy : Sl W lo2 hi2 tBool A2 m2 y.keep) (h1 : hi ≤ W.heap.size) (h2 : hi2 ≤ W.heap.size) (hm : m ≤ 1000000) :
    Calls Tryz.prog 17 #[.agg (evC x.kind x.agent x.entry x.n (.slice A m c)), .agg (evC y.kind y.agent y.entry y.n (.slice A2 m2 c2))] W (RetEq W (decide (x = y))) := by
  obtain ⟨k, ag, en, n, l⟩ := x
  obtain ⟨k2, ag2, en2, n2, l2⟩ := y
  dsimp only at hx hy ⊢
  have hq : (Ev.mk k ag en n l = Ev.mk k2 ag2 en2 n2 l2) ↔ k = k2 ∧ ag = ag2 ∧ en = en2 ∧ n = n2 ∧ m = m2 ∧ l = l2 := by
    rw [← hx.len, ← hy.len]
    simp only [Ev.mk.injEq]
    constructor
    · rintro ⟨a, b, c, d, e⟩; exact ⟨a, b, c, d, by rw [e], e⟩
    · rintro ⟨a, b, c, d, _, e⟩; exact ⟨a, b, c, d, e⟩
  have HQ := Lib.hid hq
  have HX := Lib.hid hx
  have HY := Lib.hid hy
  clear hq hx hy
  generalize hqq : decide (Ev.mk k ag en n l = Ev.mk k2 ag2 en2 n2 l2) = q
  have HQQ : Hid (q = decide (k = k2 ∧ ag = ag2 ∧ en = en2 ∧ n = n2 ∧ m = m2 ∧ l = l2)) := by
    show _ = _
    rw [← hqq, decide_eq_decide]
    exact HQ.out
  clear hqq HQ
  have HB := two_ev W (evC k ag en n (.slice A m c)) (evC k2 ag2 en2 n2 (.slice A2 m2 c2)) 24
  go_enter Tryz.func17, Tryz.ntmps17
  go_upto_region 1 with fail
  refine wp_world (fun V => Bx V W.heap.size (evC k ag en n (.slice A m c)) 24 ∧ Bx V (W.heap.size + 1) (evC k2 ag2 en2 n2 (.slice A2 m2 c2)) 24 ∧ Below W.heap.size W V) HB ?_
  clear HB
  rintro V ⟨b1, b2, hb⟩
  have c1 := b1.cells
  have c2' := b2.cells
  have HF := Lib.hid (fun (h : ¬ (k = k2 ∧ ag = ag2 ∧ en = en2 ∧ n = n2 ∧ m = m2 ∧ l = l2)) (V' : World) (hV : Below W.heap.size W V') => show RetEq W q (.returned (.bool false)) V' from ⟨by rw [HQQ.out, decide_eq_false h], hV⟩)
  by_cases e1 : k = k2
  rotate_left
  · have t1 : (k != k2) = true := by simp [e1]
    have HN := Lib.hid (HF.out (fun h => e1 h.1) V hb)
    clear e1
    go_wp2
    go_ret
    exact HN.out
  have t1 : (k != k2) = false := by simp [e1]
  by_cases e2 : ag = ag2
  rotate_left
  · have t2 : (ag != ag2) = true := by simp [e2]
    have HN := Lib.hid (HF.out (fun h => e2 h.2.1) V hb)
    clear e1 e2
    go_wp2
    go_ret
    exact HN.out
  have t2 : (ag != ag2) = false := by simp [e2]
  by_cases e3 : en = en2
  rotate_left
  · have t3 : en.toList ≠ en2.toList := fun h => e3 (by rw [ByteArray.toList_eq, ByteArray.toList_eq] at h; exact ByteArray.ext (Array.toList_inj.1 h))
    have HN := Lib.hid (HF.out (fun h => e3 h.2.2.1) V hb)
    clear e1 e2 e3
    go_wp2
    all_goals first | (exfalso; contradiction) | (go_ret; exact HN.out)
  by_cases e4 : n = n2
  rotate_left
  · have t4 : (n != n2) = true := by simp [e4]
    have HN := Lib.hid (HF.out (fun h => e4 h.2.2.2.1) V hb)
    subst e3
    clear e1 e2 e4
    go_wp2
    go_ret
    exact HN.out
  have t4 : (n != n2) = false := by simp [e4]
  by_cases e5 : m = m2
  rotate_left
  · have t5 : ((m : Int) != (m2 : Int)) = true := by simp; omega
    have HN := Lib.hid (HF.out (fun h => e5 h.2.2.2.2.1) V hb)
    subst e3
    clear e1 e2 e4 e5
    go_wp2
    go_ret
    exact HN.out
  subst e5
  have t5 : ((m : Int) != (m : Int)) = false := by simp
  have HE := Lib.hid (show k = k2 ∧ ag = ag2 ∧ en = en2 ∧ n = n2 from ⟨e1, e2, e3, e4⟩)
  subst e3
  clear e1 e2 e4
  have HX1 := Lib.hid (HX.out.below hb h1)
  have HY1 := Lib.hid (HY.out.below hb h2)
  clear HX HY
  have z1 := b1.lt
  have z2 := b2.lt
  go_wp2
  go_loop [5, 6, 45] (fun _ _ i => ∃ k : Nat, k ≤ m ∧ i = .int .i64 k ∧ Hid (l = l2 ↔ l.drop k = l2.drop k)) (fun _ _ i => m - (intOf i).toNat)
  case atStart => exact ⟨0, Nat.zero_le _, rfl, Iff.rfl⟩
  case round =>
    obtain ⟨j, hj, rfl, HD⟩ := hrel
    by_cases hlt : j < m
    · obtain ⟨g1, o1, x, hA, _, _, hx, d1⟩ := HX1.out.bool_ hlt
      subst hA
      obtain ⟨g2, o2, y, hA, _, _, hy, d2⟩ := HY1.out.bool_ hlt
      subst hA
      have HS := Lib.hid (drop_eq hx.out hy.out)
      have i0 : (0 : Int) ≤ j := by omega
      have i1 : (j : Int) < m := by omega
      by_cases hxy : x = y
      · have t6 : (y == x) = true := by simp [hxy]
        have HN : Hid (l = l2 ↔ l.drop (j + 1) = l2.drop (j + 1)) := HD.out.trans (HS.out.trans ⟨fun h => h.2, fun h => ⟨hxy, h⟩⟩)
        clear hxy
        go_wp2
        go_round
        case rel => exact ⟨j + 1, by omega, by go_num, HN⟩
        case measure => simp [intOf]; omega
      · have t6 : (y == x) = false := by cases x <;> cases y <;> simp_all
        have HN := Lib.hid (HF.out (fun h => hxy (HS.out.1 (HD.out.1 h.2.2.2.2.2)).1) V hb)
        clear hxy
        go_wp2
        go_ret
        exact HN.out
    · obtain rfl : m = j := by omega
      have hl : l = l2 := HD.out.2 (by rw [List.drop_of_length_le (by have := HX1.out.len; omega), List.drop_of_length_le (by have := HY1.out.len; omega)])
      have HT : Hid (RetEq W q (.returned (.bool true)) V) := ⟨by rw [HQQ.out, decide_eq_true (by refine ⟨HE.out.1, HE.out.2.1, ?_, HE.out.2.2.2, ?_, hl⟩ <;> first | trivial | rfl)], hb⟩
      clear hl
      go_wp2
      go_ret
      exact HT.out
set_option maxRecDepth 100000 in
set_option maxHeartbeats 8000000 in
theorem rsame_any (x y : Ev) {W : World} {lo hi lo2 hi2 : Nat} {A A2 : Option Addr} {m m2 c c2 : Nat} (hx : Sl W lo hi tBool A m x.keep) (hy : Sl W lo2 hi2 tBool A2 m2 y.keep) (h1 : hi ≤ W.heap.size) (h2 : hi2 ≤ W.heap.size) (hm : m ≤ 1000000) :
    Calls Tryz.prog 7 #[.agg (evC x.kind x.agent x.entry x.n (.slice A m c)), .agg (evC y.kind y.agent y.entry y.n (.slice A2 m2 c2))] W (RetEq W (decide (x = y))) := by
  obtain ⟨k, ag, en, n, l⟩ := x
  obtain ⟨k2, ag2, en2, n2, l2⟩ := y
  dsimp only at hx hy ⊢
  have hq : (Ev.mk k ag en n l = Ev.mk k2 ag2 en2 n2 l2) ↔ k = k2 ∧ ag = ag2 ∧ en = en2 ∧ n = n2 ∧ m = m2 ∧ l = l2 := by
    rw [← hx.len, ← hy.len]
    simp only [Ev.mk.injEq]
    constructor
    · rintro ⟨a, b, c, d, e⟩; exact ⟨a, b, c, d, by rw [e], e⟩
    · rintro ⟨a, b, c, d, _, e⟩; exact ⟨a, b, c, d, e⟩
  have HQ := Lib.hid hq
  have HX := Lib.hid hx
  have HY := Lib.hid hy
  clear hq hx hy
  generalize hqq : decide (Ev.mk k ag en n l = Ev.mk k2 ag2 en2 n2 l2) = q
  have HQQ : Hid (q = decide (k = k2 ∧ ag = ag2 ∧ en = en2 ∧ n = n2 ∧ m = m2 ∧ l = l2)) := by
    show _ = _
    rw [← hqq, decide_eq_decide]
    exact HQ.out
  clear hqq HQ
  have HB := two_ev W (evC k ag en n (.slice A m c)) (evC k2 ag2 en2 n2 (.slice A2 m2 c2)) 24
  go_enter Tryz.func7, Tryz.ntmps7
  go_upto_region 1 with fail
  refine wp_world (fun V => Bx V W.heap.size (evC k ag en n (.slice A m c)) 24 ∧ Bx V (W.heap.size + 1) (evC k2 ag2 en2 n2 (.slice A2 m2 c2)) 24 ∧ Below W.heap.size W V) HB ?_
  clear HB
  rintro V ⟨b1, b2, hb⟩
  have c1 := b1.cells
  have c2' := b2.cells
  have HF := Lib.hid (fun (h : ¬ (k = k2 ∧ ag = ag2 ∧ en = en2 ∧ n = n2 ∧ m = m2 ∧ l = l2)) (V' : World) (hV : Below W.heap.size W V') => show RetEq W q (.returned (.bool false)) V' from ⟨by rw [HQQ.out, decide_eq_false h], hV⟩)
  by_cases e1 : k = k2
  rotate_left
  · have t1 : (k != k2) = true := by simp [e1]
    have HN := Lib.hid (HF.out (fun h => e1 h.1) V hb)
    clear e1
    go_wp2
    go_ret
    exact HN.out
  have t1 : (k != k2) = false := by simp [e1]
  by_cases e2 : ag = ag2
  rotate_left
  · have t2 : (ag != ag2) = true := by simp [e2]
    have HN := Lib.hid (HF.out (fun h => e2 h.2.1) V hb)
    clear e1 e2
    go_wp2
    go_ret
    exact HN.out
  have t2 : (ag != ag2) = false := by simp [e2]
  by_cases e3 : en = en2
  rotate_left
  · have t3 : en.toList ≠ en2.toList := fun h => e3 (by rw [ByteArray.toList_eq, ByteArray.toList_eq] at h; exact ByteArray.ext (Array.toList_inj.1 h))
    have HN := Lib.hid (HF.out (fun h => e3 h.2.2.1) V hb)
    clear e1 e2 e3
    go_wp2
    all_goals first | (exfalso; contradiction) | (go_ret; exact HN.out)
  by_cases e4 : n = n2
  rotate_left
  · have t4 : (n != n2) = true := by simp [e4]
    have HN := Lib.hid (HF.out (fun h => e4 h.2.2.2.1) V hb)
    subst e3
    clear e1 e2 e4
    go_wp2
    go_ret
    exact HN.out
  have t4 : (n != n2) = false := by simp [e4]
  by_cases e5 : m = m2
  rotate_left
  · have t5 : ((m : Int) != (m2 : Int)) = true := by simp; omega
    have HN := Lib.hid (HF.out (fun h => e5 h.2.2.2.2.1) V hb)
    subst e3
    clear e1 e2 e4 e5
    go_wp2
    go_ret
    exact HN.out
  subst e5
  have t5 : ((m : Int) != (m : Int)) = false := by simp
  have HE := Lib.hid (show k = k2 ∧ ag = ag2 ∧ en = en2 ∧ n = n2 from ⟨e1, e2, e3, e4⟩)
  subst e3
  clear e1 e2 e4
  have HX1 := Lib.hid (HX.out.below hb h1)
  have HY1 := Lib.hid (HY.out.below hb h2)
  clear HX HY
  have z1 := b1.lt
  have z2 := b2.lt
  go_wp2
  go_loopw [5] (fun i wr => ∃ k : Nat, k ≤ m ∧ i = .int .i64 k ∧ Hid (l = l2 ↔ l.drop k = l2.drop k) ∧ ∃ n, wr = V.drewN n) (fun i _ => m - (intOf i).toNat)
  case atStart => exact ⟨0, Nat.zero_le _, rfl, Iff.rfl, 0, rfl⟩
  case round =>
    obtain ⟨j, hj, rfl, HD, nd, rfl⟩ := hrel
    by_cases hlt : j < m
    · obtain ⟨g1, o1, x, hA, _, _, hx, d1⟩ := HX1.out.bool_ hlt
      subst hA
      obtain ⟨g2, o2, y, hA, _, _, hy, d2⟩ := HY1.out.bool_ hlt
      subst hA
      have HS := Lib.hid (drop_eq hx.out hy.out)
      have i0 : (0 : Int) ≤ j := by omega
      have i1 : (j : Int) < m := by omega
      by_cases hxy : x = y
      · have t6 : (x == y) = true := by simp [hxy]
        have HN : Hid (l = l2 ↔ l.drop (j + 1) = l2.drop (j + 1)) := HD.out.trans (HS.out.trans ⟨fun h => h.2, fun h => ⟨hxy, h⟩⟩)
        clear hxy
        go_wp2
        go_quiet (fail)
        go_wp2
        go_roundw
        case rel => exact ⟨j + 1, by omega, by go_num, HN, _, rfl⟩
        case measure => simp [intOf]; omega
      · have t6 : (x == y) = false := by cases x <;> cases y <;> simp_all
        have HN := Lib.hid (HF.out (fun h => hxy (HS.out.1 (HD.out.1 h.2.2.2.2.2)).1) V hb)
        clear hxy
        go_wp2
        go_quiet (fail)
        go_wp2
        go_ret
        exact ⟨HN.out.1, below_drewN (below_drewN hb _) _⟩
    · obtain rfl : m = j := by omega
      have hl : l = l2 := HD.out.2 (by rw [List.drop_of_length_le (by have := HX1.out.len; omega), List.drop_of_length_le (by have := HY1.out.len; omega)])
      have HT : Hid (RetEq W q (.returned (.bool true)) V) := ⟨by rw [HQQ.out, decide_eq_true (by refine ⟨HE.out.1, HE.out.2.1, ?_, HE.out.2.2.2, ?_, hl⟩ <;> first | trivial | rfl)], hb⟩
      clear hl
      go_wp2
      go_ret
      exact ⟨HT.out.1, below_drewN hb _⟩
end Go.Proofs.YtggomjfllbljeaaGreatDoor
