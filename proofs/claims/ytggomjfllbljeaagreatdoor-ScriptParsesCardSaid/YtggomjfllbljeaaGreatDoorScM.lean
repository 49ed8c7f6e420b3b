/- The law: any line says just the document's event, or none; any event has just the document's line, or none. -/
import Derived.Test.YtggomjfllbljeaaGreatDoorMAw
import Derived.Test.YtggomjfllbljeaaGreatDoorMRp
import Derived.BigGuardPart
import Derived.WalkSpells
namespace Go.Proofs.YtggomjfllbljeaaGreatDoor
set_option linter.unusedVariables false
open Go Go.RowKit
def RetBk (W : World) (e : Ending) (W' : World) : Prop := e = .returned (.bool true) ∧ Below W.heap.size W W'
/-- A slice read below a bound, its spare room left aside. -/
theorem own_none (w : World) : Own (w.alloc (.cells #[] 4)) w.heap.size 4 tBool (.slice (some ⟨w.heap.size, 0, none⟩) 0 0) [] :=
  ⟨(fun _ h => absurd h List.not_mem_nil), World.ownsRow_made w #[] 0 (Nat.le_refl _) (by unfold maxLen; omega) rfl⟩
set_option maxRecDepth 100000 in
set_option maxHeartbeats 8000000 in
theorem scriptParses_any (s : ByteArray) (x : Ev) {W : World} {A : Option Addr} {m c : Nat} (hx : Sl W 0 W.heap.size tBool A m x.keep) (hn : okInt x.n) (ha : okInt x.agent) (hnil : A = none → c = 0) (h10 : Tab10 W) (h12 : Tab12 W) :
    Calls Tryz.prog 3 #[.string s, .agg (evC x.kind x.agent x.entry x.n (.slice A m c))] W (RetBk W) := by
  have hl := hx.len
  subst hl
  have b1 := Bx.new W (evC x.kind x.agent x.entry x.n (.slice A x.keep.length c)) 24
  have hb0 : Below W.heap.size W (W.alloc (.cells (evC x.kind x.agent x.entry x.n (.slice A x.keep.length c)) 24)) := (Below.refl _ _).alloc (Nat.le_refl _) _
  have HI := Lib.hid (And.intro b1 hb0)
  have HH := Lib.hid (And.intro hx (And.intro h10 (And.intro h12 (And.intro hn (And.intro ha hnil)))))
  clear b1 hb0 hx h10 h12 hn ha hnil
  go_enter Tryz.func3, Tryz.ntmps3
  go_upto_region 1 with fail
  refine wp_world (fun V => Bx V W.heap.size (evC x.kind x.agent x.entry x.n (.slice A x.keep.length c)) 24 ∧ Below W.heap.size W V) HI.out ?_
  clear HI
  rintro V1 ⟨b1, hb1⟩
  obtain ⟨hx, h10, h12, hn, ha, hnil⟩ := HH.out
  go_wp2_with fail
  refine (awake24_any (h10.keep hb1) (h12.keep hb1)).mono ?_
  rintro e V2 ⟨rfl, hb2⟩
  have b2 := b1.below hb2 b1.lt
  have hb := hb1.trans (hb2.mono hb1.size)
  have hx2 := hx.below hb (Nat.le_refl _)
  have t2 := h10.keep hb
  have x2 := b2.cells
  clear b1 hb1 hb2 hx h10 h12
  have z2 := b2.lt
  have HF := Lib.hid (And.intro b2 (And.intro hx2 (And.intro hb (And.intro t2 (And.intro hn (And.intro ha hnil))))))
  clear b2 hx2 hb t2 hn ha hnil
  go_wp2_with fail
  · go_ret; exact ⟨by first | rfl | (simp; done), HF.out.2.2.1⟩
  · go_ret; exact ⟨by first | rfl | (simp; done), HF.out.2.2.1⟩
  · go_ret; exact ⟨by first | rfl | (simp; done), HF.out.2.2.1⟩
  rename_i g1 g2 g3
  obtain ⟨b2, hx2, hb, t2, hn, ha, hnil⟩ := HF.out
  have hs5 : s.size ≤ 100000 := by omega
  have HXF := Lib.hid (And.intro hx2 (And.intro t2 (And.intro hn (And.intro ha hnil))))
  have HP1 := Lib.hid (fun V => parse_any s hs5 V)
  have HP2 := Lib.hid (fun V => rparse_any s hs5 V)
  have hkl : (evOf (parseF s)).keep.length ≤ 1000000 := by
    rcases hq : parseF s with _ | y
    · exact Nat.zero_le _
    · have := (parse_len hq).2
      show y.keep.length ≤ _
      omega
  generalize parseF s = o at HP1 HP2 hkl
  clear HF x2 hx2 t2 hn ha hnil
  refine (HP1.out _).mono ?_
  rintro e V3 ⟨A3, c3, rfl, ho3, hb3⟩
  clear HP1
  obtain ⟨cd, hcd⟩ : ∃ cd : Int, (if o.isSome = true then (0 : Int) else 60) = cd := ⟨_, rfl⟩
  rw [hcd]
  have HCD := Lib.hid hcd
  clear hcd
  have b3 := b2.below hb3 z2
  have hbB := hb.trans (hb3.mono hb.size)
  have hs3 := ho3.sl
  have z3 := b3.lt
  have z23 := hb3.size
  obtain ⟨y, hy⟩ : ∃ y, evOf o = y := ⟨_, rfl⟩
  have HO := Lib.hid hy
  rw [hy] at hkl hs3
  rw [hy]
  clear ho3 hy
  have HI := Lib.hid (And.intro (b3.alloc (.cells (evC y.kind y.agent y.entry y.n (.slice A3 y.keep.length c3)) 24)) (And.intro (Bx.new V3 (evC y.kind y.agent y.entry y.n (.slice A3 y.keep.length c3)) 24) (And.intro (hs3.alloc (Nat.le_refl _) (.cells (evC y.kind y.agent y.entry y.n (.slice A3 y.keep.length c3)) 24)) (hbB.alloc hbB.size (.cells (evC y.kind y.agent y.entry y.n (.slice A3 y.keep.length c3)) 24)))))
  clear b2 hb hb3 b3 hbB hs3
  go_upto_region 6 with fail
  refine wp_world (fun V => Bx V W.heap.size (evC x.kind x.agent x.entry x.n (.slice A x.keep.length c)) 24 ∧ Bx V V3.heap.size (evC y.kind y.agent y.entry y.n (.slice A3 y.keep.length c3)) 24 ∧ Sl V V2.heap.size V3.heap.size tBool A3 y.keep.length y.keep ∧ Below W.heap.size W V) HI.out ?_
  clear HI
  rintro V4 ⟨b4, d4, hs4, hb4⟩
  have w4 := d4.lt
  go_wp2_with fail
  refine (HP2.out _).mono ?_
  rintro e V5 ⟨A5, c5, rfl, ho5, hb5⟩
  clear HP2
  have b5 := b4.below hb5 (by omega)
  have d5 := d4.below hb5 w4
  have hs5' := hs4.below hb5 (by omega)
  have hbB := hb4.trans (hb5.mono hb4.size)
  have hs5b := ho5.sl
  have z5 := b5.lt
  have w5 := d5.lt
  rw [HO.out] at hs5b
  rw [HO.out]
  clear ho5 b4 d4 hs4 hb4 hb5
  have HI := Lib.hid (And.intro (b5.alloc (.cells (evC y.kind y.agent y.entry y.n (.slice A5 y.keep.length c5)) 24)) (And.intro (d5.alloc (.cells (evC y.kind y.agent y.entry y.n (.slice A5 y.keep.length c5)) 24)) (And.intro (Bx.new V5 (evC y.kind y.agent y.entry y.n (.slice A5 y.keep.length c5)) 24) (And.intro (hs5'.alloc (by omega) (.cells (evC y.kind y.agent y.entry y.n (.slice A5 y.keep.length c5)) 24)) (And.intro (hs5b.alloc (Nat.le_refl _) (.cells (evC y.kind y.agent y.entry y.n (.slice A5 y.keep.length c5)) 24)) (hbB.alloc hbB.size (.cells (evC y.kind y.agent y.entry y.n (.slice A5 y.keep.length c5)) 24)))))))
  clear b5 d5 hs5' hbB hs5b
  go_upto_region 7 with fail
  refine wp_world (fun V => Bx V W.heap.size (evC x.kind x.agent x.entry x.n (.slice A x.keep.length c)) 24 ∧ Bx V V3.heap.size (evC y.kind y.agent y.entry y.n (.slice A3 y.keep.length c3)) 24 ∧ Bx V V5.heap.size (evC y.kind y.agent y.entry y.n (.slice A5 y.keep.length c5)) 24 ∧ Sl V V2.heap.size V3.heap.size tBool A3 y.keep.length y.keep ∧ Sl V V4.heap.size V5.heap.size tBool A5 y.keep.length y.keep ∧ Below W.heap.size W V) HI.out ?_
  clear HI
  rintro V6 ⟨b6, d6, f6, hs6, hs6b, hb6⟩
  have x6 := d6.cells
  have y6 := f6.cells
  have z6 := b6.lt
  have w6 := f6.lt
  have HBB := Lib.hid (And.intro b6 (And.intro hs6 (And.intro hs6b hb6)))
  clear b6 d6 f6 hs6 hs6b hb6
  go_cut [58] (fun v V => v = .bool false ∧ Bx V W.heap.size (evC x.kind x.agent x.entry x.n (.slice A x.keep.length c)) 24 ∧ Below W.heap.size W V)
  case first =>
    go_wp2_with fail
    obtain ⟨b6, hs6, hs6b, hb6⟩ := HBB.out
    refine (rsame_any y y (c := c3) (c2 := c5) hs6 hs6b (by omega) (by omega) hkl).mono ?_
    rintro e V7 h7
    rw [decide_eq_true rfl] at h7
    obtain ⟨rfl, hb7⟩ := h7
    have b7 := b6.below hb7 z6
    have hb9 := hb6.trans (hb7.mono hb6.size)
    have HB9 := Lib.hid (And.intro b7 hb9)
    clear x6 y6 b6 hs6 hs6b hb6 hb7 b7 hb9 hkl HO HBB HH HXF
    rcases o with _ | o
    · obtain rfl := HCD.out
      go_wp2
      go_meet
      exact ⟨rfl, HB9.out⟩
    · obtain rfl := HCD.out
      go_wp2
      go_meet
      exact ⟨rfl, HB9.out⟩
  case rest =>
  obtain ⟨rfl, b7, hb7⟩ := hcut
  obtain ⟨hx, h10, h12, hn, ha, hnil⟩ := HH.out
  have z7 := b7.lt
  have x7 := b7.cells
  have HI := Lib.hid (And.intro (b7.alloc (.cells (evC x.kind x.agent x.entry x.n (.slice A x.keep.length c)) 24)) (And.intro (Bx.new wc (evC x.kind x.agent x.entry x.n (.slice A x.keep.length c)) 24) (hb7.alloc hb7.size (.cells (evC x.kind x.agent x.entry x.n (.slice A x.keep.length c)) 24))))
  clear b7 hb7 HBB x6 y6 HXF HO hkl HH
  go_upto_region 10 with fail
  refine wp_world (fun V => Bx V W.heap.size (evC x.kind x.agent x.entry x.n (.slice A x.keep.length c)) 24 ∧ Bx V wc.heap.size (evC x.kind x.agent x.entry x.n (.slice A x.keep.length c)) 24 ∧ Below W.heap.size W V) HI.out ?_
  clear HI x7
  rintro V8 ⟨b8, d8, hb8⟩
  have x8 := b8.cells
  have hx8 := hx.below hb8 (Nat.le_refl _)
  have z8 := b8.lt
  have w8 := d8.lt
  go_upto_region 11 with (at_builtin; refine append_law (l := []) rfl (.tmp 60) (.tmp 62) rfl sl_bool rfl (own_none V8) rfl (hx8.alloc (by omega) _) hnil (by simp) (by simp; omega) ?_; intro v' w' hown' hgr hb'; rw [List.nil_append] at hown'; obtain ⟨A9, c9, hv9⟩ := hown'.form; subst hv9; have b9 := (b8.alloc (.cells #[] 4)).grown hgr (fun e => by have := ((own_none V8).lt _ e).1; omega); have d9 := (d8.alloc (.cells #[] 4)).grown hgr (fun e => by have := ((own_none V8).lt _ e).1; omega); have hb9 := (hb8.alloc hb8.size (.cells #[] 4)).grown hgr (by have := hb8.size; simp; omega) (fun k e => by have := ((own_none V8).lt _ e).1; omega); have q1 := d9.cells; have q2 := d9.free)
  have ho9 := hown'.setCell (p := ⟨wc.heap.size, 4, none⟩) w8 (.slice A9 x.keep.length c9)
  refine wp_world (fun V => Bx V W.heap.size (evC x.kind x.agent x.entry x.n (.slice A x.keep.length c)) 24 ∧ Bx V wc.heap.size (evC x.kind x.agent x.entry x.n (.slice A9 x.keep.length c9)) 24 ∧ Own V V8.heap.size 4 tBool (.slice A9 x.keep.length c9) x.keep ∧ Below W.heap.size W V) ⟨b9.other (by show W.heap.size ≠ wc.heap.size; omega) _, d9.put 4 _, ho9, hb9.setCell (by show W.heap.size ≤ wc.heap.size; omega) _⟩ ?_
  clear x8 hx8 b8 d8 hb8 b9 d9 hb9 q1 q2 ho9 hown' hgr hb'
  rintro V9 ⟨b9, d9, ho9, hb9⟩
  have x9 := d9.cells
  have z9 := b9.lt
  have w9 := d9.lt
  go_wp2_with fail
  refine (print_any x (c := c9) ho9.sl (Nat.le_refl _) (by omega) hn ha (by omega) (h10.keep hb9)).mono ?_
  rintro e V10 ⟨rfl, hb10⟩
  have b10 := b9.below hb10 z9
  have d10 := d9.below hb10 w9
  have hs10 := (ho9.keep hb10).sl
  have hbB := hb9.trans (hb10.mono hb9.size)
  have z10 := hb10.size
  have y10 := b10.cells
  have hx10 := hx.below hbB (Nat.le_refl _)
  clear x9 b9 d9 ho9 hb9 hb10
  rw [print_same]
  obtain ⟨o2, ho2⟩ : ∃ o2, printF lineL x = o2 := ⟨_, rfl⟩
  rw [ho2]
  have HO2 := Lib.hid ho2
  obtain ⟨cd2, hcd⟩ : ∃ cd : Int, (if o2.isSome = true then (0 : Int) else 4) = cd := ⟨_, rfl⟩
  rw [hcd]
  have HCD2 := Lib.hid hcd
  clear hcd ho2
  obtain ⟨sx, hsx⟩ : ∃ sx, o2.getD ⟨#[]⟩ = sx := ⟨_, rfl⟩
  rw [hsx]
  have HSX := Lib.hid hsx
  clear hsx
  go_wp2_with fail
  refine (rprint_any x (c := c) hx10 (by omega) (by omega) (by omega)).mono ?_
  rintro e V11 ⟨rfl, hb11⟩
  rw [HO2.out, HSX.out]
  have b11 := b10.below hb11 (by omega)
  have d11 := d10.below hb11 (by omega)
  have hs11 := hs10.below hb11 (Nat.le_refl _)
  have hbC := hbB.trans (hb11.mono hbB.size)
  have hx11 := hx.below hbC (Nat.le_refl _)
  have z11 := hb11.size
  have u11 := b11.cells
  have v11 := d11.cells
  have hsm := rsame_any x x (c := c9) (c2 := c) hs11 hx11 (by omega) (by omega) (by omega)
  rw [decide_eq_true rfl] at hsm
  have HSM := Lib.hid hsm
  clear hsm
  have HBB := Lib.hid hbC
  clear y10 b10 d10 hs10 hbB hx10 hb11 b11 d11 hs11 hbC hx11 hx h10 h12 hn ha hnil
  rcases o2 with _ | l2
  · obtain rfl := HCD2.out
    go_wp2_with fail
    refine HSM.out.mono ?_
    rintro e V12 ⟨rfl, hb12⟩
    go_wp2
    go_ret
    exact ⟨rfl, HBB.out.trans (hb12.mono HBB.out.size)⟩
  · obtain rfl := HCD2.out
    go_wp2_with fail
    refine HSM.out.mono ?_
    rintro e V12 ⟨rfl, hb12⟩
    go_wp2
    go_ret
    exact ⟨rfl, HBB.out.trans (hb12.mono HBB.out.size)⟩
end Go.Proofs.YtggomjfllbljeaaGreatDoor
