/- The law: an event that is written is read again, a line that is read is written again. -/
import Derived.Test.YteoiejngmcaahaaGreatDoorMAw
import Derived.Test.YteoiejngmcaahaaGreatDoorMScP
import Derived.BigGuardPart
namespace Go.Proofs.YteoiejngmcaahaaGreatDoor
set_option linter.unusedVariables false
open Go Go.RowKit
def RetBk (W : World) (e : Ending) (W' : World) : Prop := e = .returned (.bool true) ∧ Below W.heap.size W W'
theorem sz_ne {s : ByteArray} (h : 0 < s.size) : ¬ (s.toList.isEmpty = true) := by
  rw [isEmpty_size s, decide_eq_false (by omega)]
  simp
theorem get_ne {s : ByteArray} (h : 0 < s.size) (h2 : bat s 0 ≠ 35) : ((s[0]'h).toNat : Int) ≠ 35 := by
  intro h3
  refine h2 ?_
  unfold bat
  have e : s.data.toList[0]? = some (s[0]'h) := by
    rw [Array.getElem?_toList]
    exact Array.getElem?_eq_getElem h
  rw [e]
  exact h3
set_option maxRecDepth 100000 in
set_option maxHeartbeats 8000000 in
theorem scriptBack_any (s : ByteArray) (x : Ev) {W : World} {A : Option Addr} {m c : Nat} (hx : Sl W 0 W.heap.size tBool A m x.keep) (hn : okInt x.n) (ha : okInt x.agent) (h10 : Tab10 W) (h12 : Tab12 W) :
    Calls Tryz.prog 3 #[.string s, .agg (evC x.kind x.agent x.entry x.n (.slice A m c))] W (RetBk W) := by
  have hl := hx.len
  subst hl
  have b1 := Bx.new W (evC x.kind x.agent x.entry x.n (.slice A x.keep.length c)) 24
  have hb0 : Below W.heap.size W (W.alloc (.cells (evC x.kind x.agent x.entry x.n (.slice A x.keep.length c)) 24)) := (Below.refl _ _).alloc (Nat.le_refl _) _
  have HI := Lib.hid (And.intro b1 hb0)
  have HH := Lib.hid (And.intro hx (And.intro h10 (And.intro h12 (And.intro hn ha))))
  clear b1 hb0 hx h10 h12 hn ha
  go_enter Tryz.func3, Tryz.ntmps3
  go_upto_region 1 with fail
  refine wp_world (fun V => Bx V W.heap.size (evC x.kind x.agent x.entry x.n (.slice A x.keep.length c)) 24 ∧ Below W.heap.size W V) HI.out ?_
  clear HI
  rintro V1 ⟨b1, hb1⟩
  obtain ⟨hx, h10, h12, hn, ha⟩ := HH.out
  go_wp2_with fail
  refine (awake24_any (h10.keep hb1) (h12.keep hb1)).mono ?_
  rintro e V2 ⟨rfl, hb2⟩
  have b2 := b1.below hb2 b1.lt
  have hb := hb1.trans (hb2.mono hb1.size)
  have hx2 := hx.below hb (Nat.le_refl _)
  have t2 := h10.keep hb
  have x2 := b2.cells
  clear b1 hb1 hb2 HH hx h10 h12
  have z2 := b2.lt
  have HF := Lib.hid (And.intro b2 (And.intro hx2 (And.intro hb (And.intro t2 (And.intro hn ha)))))
  clear b2 hx2 hb t2 hn ha
  go_wp2_with fail
  · go_ret; exact ⟨by first | rfl | (simp; done), HF.out.2.2.1⟩
  · go_ret; exact ⟨by first | rfl | (simp; done), HF.out.2.2.1⟩
  · go_ret; exact ⟨by first | rfl | (simp; done), HF.out.2.2.1⟩
  rename_i g1 g2 g3
  obtain ⟨b2, hx2, hb, t2, hn, ha⟩ := HF.out
  refine (print_any x (c := c) hx2 (Nat.le_of_lt z2) (by omega) hn ha (by omega) t2).mono ?_
  rintro e V3 ⟨rfl, hb3⟩
  have b3 := b2.below hb3 z2
  have hx3 := hx2.below hb3 (Nat.le_of_lt z2)
  have hbB := hb.trans (hb3.mono hb.size)
  have t3 := t2.keep hb3
  have x3 := b3.cells
  have z3 := b3.lt
  have HF3 := Lib.hid (And.intro b3 (And.intro hx3 (And.intro hbB (And.intro t3 (And.intro hn ha)))))
  clear b2 hx2 hb t2 hn ha hb3 b3 hx3 hbB t3 HF x2
  have hs5 : s.size ≤ 100000 := by omega
  have HT : ∀ V, Below W.heap.size W V → Calls Tryz.prog 6 #[.string s] V (RetPa V (parseF s)) := fun V _ => parse_any s hs5 V
  have HT2 := Lib.hid HT
  clear HT
  have ht5 : ∀ t, printF textF x = some t → t.size ≤ 100000 := fun t h => by
    have h1 := text_size HF3.out.2.2.2.2.1 HF3.out.2.2.2.2.2
    have h2 := print_text h
    subst h2
    omega
  rcases hp : printF textF x with _ | t
  · clear hp ht5
    go_wp2_with fail
    obtain ⟨_, _, hb, t0, _⟩ := HF3.out
    clear HF3 x3
    refine (HT2.out _ hb).mono ?_
    rintro e V5 h5
    rcases hq : parseF s with _ | y
    · have h5' : ∃ A c, e = .returned (.tuple #[.agg (evC 0 0 ⟨#[]⟩ 0 (.slice A 0 c)), .int .i64 60]) ∧ Own V5 V3.heap.size 4 tBool (.slice A 0 c) [] ∧ Below V3.heap.size V3 V5 := by rw [hq] at h5; exact h5
      obtain ⟨A5, c5, rfl, ho5, hb5⟩ := h5'
      have hBB := hb.trans (hb5.mono hb.size)
      have HI := Lib.hid (And.intro (Bx.new V5 (evC 0 0 ⟨#[]⟩ 0 (.slice A5 0 c5)) 24) (And.intro (ho5.sl.alloc (Nat.le_refl _) (.cells (evC 0 0 ⟨#[]⟩ 0 (.slice A5 0 c5)) 24)) (hBB.alloc hBB.size (.cells (evC 0 0 ⟨#[]⟩ 0 (.slice A5 0 c5)) 24))))
      clear hb t0 ho5 hb5 hBB h5 HT2 hq
      go_upto_region 11 with fail
      refine wp_world (fun V => Bx V V5.heap.size (evC 0 0 ⟨#[]⟩ 0 (.slice A5 0 c5)) 24 ∧ Sl V V3.heap.size V5.heap.size tBool A5 0 [] ∧ Below W.heap.size W V) HI.out ?_
      clear HI
      rintro V6 ⟨b6, hs6, hb6⟩
      have x6 := b6.cells
      have z6 := b6.lt
      have H6 := Lib.hid (And.intro hs6 hb6)
      clear hs6 hb6 b6
      go_wp2_with fail
      refine (rsame_any ev0 ev0 (c := c5) (c2 := 0) H6.out.1 (lo2 := 0) (hi2 := 0) (Sl.nil_ none) (Nat.le_of_lt z6) (Nat.zero_le _) (by omega)).mono ?_
      rintro e V7 h7
      rw [decide_eq_true rfl] at h7
      obtain ⟨rfl, hb7⟩ := h7
      obtain ⟨hs6, hb6⟩ := H6.out
      have HB := Lib.hid (hb6.trans (hb7.mono hb6.size))
      clear hs6 hb6 hb7
      go_wp2
      go_ret
      exact ⟨by first | rfl | (simp; done), HB.out⟩
    · have h5' : ∃ A c, e = .returned (.tuple #[.agg (evC y.kind y.agent y.entry y.n (.slice A y.keep.length c)), .int .i64 0]) ∧ Own V5 V3.heap.size 4 tBool (.slice A y.keep.length c) y.keep ∧ Below V3.heap.size V3 V5 := by rw [hq] at h5; exact h5
      obtain ⟨A5, c5, rfl, ho5, hb5⟩ := h5'
      have hBB := hb.trans (hb5.mono hb.size)
      have HI := Lib.hid (And.intro (Bx.new V5 (evC y.kind y.agent y.entry y.n (.slice A5 y.keep.length c5)) 24) (And.intro (ho5.sl.alloc (Nat.le_refl _) (.cells (evC y.kind y.agent y.entry y.n (.slice A5 y.keep.length c5)) 24)) (And.intro (hBB.alloc hBB.size (.cells (evC y.kind y.agent y.entry y.n (.slice A5 y.keep.length c5)) 24)) ((t0.keep hb5).keep ((Below.refl _ _).alloc (Nat.le_refl _) (.cells (evC y.kind y.agent y.entry y.n (.slice A5 y.keep.length c5)) 24))))))
      have HY := Lib.hid (And.intro (parse_bd hq) (And.intro (parse_len hq) (And.intro (parse_head hq) (parse_print hq))))
      clear hb t0 ho5 hb5 hBB h5 HT2 hq
      go_upto_region 11 with fail
      refine wp_world (fun V => Bx V V5.heap.size (evC y.kind y.agent y.entry y.n (.slice A5 y.keep.length c5)) 24 ∧ Sl V V3.heap.size V5.heap.size tBool A5 y.keep.length y.keep ∧ Below W.heap.size W V ∧ Tab10 V) HI.out ?_
      clear HI
      rintro V6 ⟨b6, hs6, hb6, t6⟩
      have x6 := b6.cells
      have z6 := b6.lt
      have H6 := Lib.hid (And.intro hs6 (And.intro hb6 t6))
      clear hs6 hb6 b6 t6
      go_wp2_with fail
      obtain ⟨hs6, hb6, t6⟩ := H6.out
      obtain ⟨y1, y2, y3, y4⟩ := HY.out
      refine (print_any y (c := c5) hs6 (Nat.le_of_lt z6) (by omega) (by unfold okInt; omega) (by unfold okInt; omega) (by omega) t6).mono ?_
      rintro e V7 h7
      rw [y4] at h7
      obtain ⟨rfl, hb7⟩ := h7
      have HB := Lib.hid (hb6.trans (hb7.mono hb6.size))
      have hs0 : s ≠ ⟨#[]⟩ := fun h => by have := y3.1; rw [h] at this; exact absurd this (by decide)
      obtain ⟨hz0, h35⟩ := y3
      clear hs6 hb6 hb7 t6 y1 y2 y4 H6 HY
      have hne := get_ne hz0 h35
      have HS1 := Lib.hid (sz_ne hz0)
      go_wp2
      all_goals first | (exfalso; exact HS1.out (by assumption)) | (go_ret; exact ⟨by simp [hne], HB.out⟩)
  · have hpt := print_parse hp
    have htz := ht5 t hp
    clear hp ht5
    go_wp2_with fail
    refine (parse_any t htz _).mono ?_
    rintro e V4 h4
    have h4' : ∃ A c, e = .returned (.tuple #[.agg (evC x.kind x.agent x.entry x.n (.slice A x.keep.length c)), .int .i64 0]) ∧ Own V4 V3.heap.size 4 tBool (.slice A x.keep.length c) x.keep ∧ Below V3.heap.size V3 V4 := by rw [hpt] at h4; exact h4
    obtain ⟨A4, c4, rfl, ho4, hb4⟩ := h4'
    obtain ⟨b3, hx3, hb3, t3, _⟩ := HF3.out
    have b4 := b3.below hb4 z3
    have hx4 := hx3.below hb4 (Nat.le_of_lt z3)
    have hB4 := hb3.trans (hb4.mono hb3.size)
    have t4 := t3.keep hb4
    have z4 := b4.lt
    have HI := Lib.hid (And.intro (b4.alloc (.cells (evC x.kind x.agent x.entry x.n (.slice A4 x.keep.length c4)) 24)) (And.intro (Bx.new V4 (evC x.kind x.agent x.entry x.n (.slice A4 x.keep.length c4)) 24) (And.intro (hx4.alloc (Nat.le_of_lt z4) (.cells (evC x.kind x.agent x.entry x.n (.slice A4 x.keep.length c4)) 24)) (And.intro (ho4.sl.alloc (Nat.le_refl _) (.cells (evC x.kind x.agent x.entry x.n (.slice A4 x.keep.length c4)) 24)) (And.intro (hB4.alloc hB4.size (.cells (evC x.kind x.agent x.entry x.n (.slice A4 x.keep.length c4)) 24)) (t4.keep ((Below.refl _ _).alloc (Nat.le_refl _) (.cells (evC x.kind x.agent x.entry x.n (.slice A4 x.keep.length c4)) 24))))))))
    clear b3 hx3 hb3 t3 b4 hx4 hB4 t4 ho4 hb4 h4 HF3 x3 hpt
    go_upto_region 8 with fail
    refine wp_world (fun V => Bx V W.heap.size (evC x.kind x.agent x.entry x.n (.slice A x.keep.length c)) 24 ∧ Bx V V4.heap.size (evC x.kind x.agent x.entry x.n (.slice A4 x.keep.length c4)) 24 ∧ Sl V 0 W.heap.size tBool A x.keep.length x.keep ∧ Sl V V3.heap.size V4.heap.size tBool A4 x.keep.length x.keep ∧ Below W.heap.size W V ∧ Tab10 V) HI.out ?_
    clear HI
    rintro V8 ⟨b8, bb8, hx8, hs8, hb8, t8⟩
    have x8 := b8.cells
    have xx8 := bb8.cells
    have z8 := b8.lt
    have zz8 := bb8.lt
    have H8 := Lib.hid (And.intro hx8 (And.intro hs8 (And.intro hb8 t8)))
    clear hx8 hs8 hb8 t8 b8 bb8
    go_wp2_with fail
    refine (rsame_any x x (c := c4) (c2 := c) H8.out.2.1 H8.out.1 (Nat.le_of_lt zz8) (Nat.le_of_lt z8) (by omega)).mono ?_
    rintro e V9 h9
    rw [decide_eq_true rfl] at h9
    obtain ⟨rfl, hb9⟩ := h9
    have hb := H8.out.2.2.1.trans (hb9.mono H8.out.2.2.1.size)
    have t0 := H8.out.2.2.2.keep hb9
    clear hb9 H8 x8 xx8
    go_wp2_with fail
    refine (HT2.out _ hb).mono ?_
    rintro e V5 h5
    rcases hq : parseF s with _ | y
    · have h5' : ∃ A c, e = .returned (.tuple #[.agg (evC 0 0 ⟨#[]⟩ 0 (.slice A 0 c)), .int .i64 60]) ∧ Own V5 V9.heap.size 4 tBool (.slice A 0 c) [] ∧ Below V9.heap.size V9 V5 := by rw [hq] at h5; exact h5
      obtain ⟨A5, c5, rfl, ho5, hb5⟩ := h5'
      have hBB := hb.trans (hb5.mono hb.size)
      have HI := Lib.hid (And.intro (Bx.new V5 (evC 0 0 ⟨#[]⟩ 0 (.slice A5 0 c5)) 24) (And.intro (ho5.sl.alloc (Nat.le_refl _) (.cells (evC 0 0 ⟨#[]⟩ 0 (.slice A5 0 c5)) 24)) (hBB.alloc hBB.size (.cells (evC 0 0 ⟨#[]⟩ 0 (.slice A5 0 c5)) 24))))
      clear hb t0 ho5 hb5 hBB h5 HT2 hq
      go_upto_region 11 with fail
      refine wp_world (fun V => Bx V V5.heap.size (evC 0 0 ⟨#[]⟩ 0 (.slice A5 0 c5)) 24 ∧ Sl V V9.heap.size V5.heap.size tBool A5 0 [] ∧ Below W.heap.size W V) HI.out ?_
      clear HI
      rintro V6 ⟨b6, hs6, hb6⟩
      have x6 := b6.cells
      have z6 := b6.lt
      have H6 := Lib.hid (And.intro hs6 hb6)
      clear hs6 hb6 b6
      go_wp2_with fail
      refine (rsame_any ev0 ev0 (c := c5) (c2 := 0) H6.out.1 (lo2 := 0) (hi2 := 0) (Sl.nil_ none) (Nat.le_of_lt z6) (Nat.zero_le _) (by omega)).mono ?_
      rintro e V7 h7
      rw [decide_eq_true rfl] at h7
      obtain ⟨rfl, hb7⟩ := h7
      obtain ⟨hs6, hb6⟩ := H6.out
      have HB := Lib.hid (hb6.trans (hb7.mono hb6.size))
      clear hs6 hb6 hb7
      go_wp2
      go_ret
      exact ⟨by first | rfl | (simp; done), HB.out⟩
    · have h5' : ∃ A c, e = .returned (.tuple #[.agg (evC y.kind y.agent y.entry y.n (.slice A y.keep.length c)), .int .i64 0]) ∧ Own V5 V9.heap.size 4 tBool (.slice A y.keep.length c) y.keep ∧ Below V9.heap.size V9 V5 := by rw [hq] at h5; exact h5
      obtain ⟨A5, c5, rfl, ho5, hb5⟩ := h5'
      have hBB := hb.trans (hb5.mono hb.size)
      have HI := Lib.hid (And.intro (Bx.new V5 (evC y.kind y.agent y.entry y.n (.slice A5 y.keep.length c5)) 24) (And.intro (ho5.sl.alloc (Nat.le_refl _) (.cells (evC y.kind y.agent y.entry y.n (.slice A5 y.keep.length c5)) 24)) (And.intro (hBB.alloc hBB.size (.cells (evC y.kind y.agent y.entry y.n (.slice A5 y.keep.length c5)) 24)) ((t0.keep hb5).keep ((Below.refl _ _).alloc (Nat.le_refl _) (.cells (evC y.kind y.agent y.entry y.n (.slice A5 y.keep.length c5)) 24))))))
      have HY := Lib.hid (And.intro (parse_bd hq) (And.intro (parse_len hq) (And.intro (parse_head hq) (parse_print hq))))
      clear hb t0 ho5 hb5 hBB h5 HT2 hq
      go_upto_region 11 with fail
      refine wp_world (fun V => Bx V V5.heap.size (evC y.kind y.agent y.entry y.n (.slice A5 y.keep.length c5)) 24 ∧ Sl V V9.heap.size V5.heap.size tBool A5 y.keep.length y.keep ∧ Below W.heap.size W V ∧ Tab10 V) HI.out ?_
      clear HI
      rintro V6 ⟨b6, hs6, hb6, t6⟩
      have x6 := b6.cells
      have z6 := b6.lt
      have H6 := Lib.hid (And.intro hs6 (And.intro hb6 t6))
      clear hs6 hb6 b6 t6
      go_wp2_with fail
      obtain ⟨hs6, hb6, t6⟩ := H6.out
      obtain ⟨y1, y2, y3, y4⟩ := HY.out
      refine (print_any y (c := c5) hs6 (Nat.le_of_lt z6) (by omega) (by unfold okInt; omega) (by unfold okInt; omega) (by omega) t6).mono ?_
      rintro e V7 h7
      rw [y4] at h7
      obtain ⟨rfl, hb7⟩ := h7
      have HB := Lib.hid (hb6.trans (hb7.mono hb6.size))
      have hs0 : s ≠ ⟨#[]⟩ := fun h => by have := y3.1; rw [h] at this; exact absurd this (by decide)
      obtain ⟨hz0, h35⟩ := y3
      clear hs6 hb6 hb7 t6 y1 y2 y4 H6 HY
      have hne := get_ne hz0 h35
      have HS1 := Lib.hid (sz_ne hz0)
      go_wp2
      all_goals first | (exfalso; exact HS1.out (by assumption)) | (go_ret; exact ⟨by simp [hne], HB.out⟩)
end Go.Proofs.YteoiejngmcaahaaGreatDoor
