/- The document's answer to an edit: ref12.Apply is applyF. -/
import Derived.Test.YtaakcccffmfmoaaDoorRchange
import Derived.Test.YtaakcccffmfmoaaDoorRcancel
namespace Go.Proofs.YtaakcccffmfmoaaDoor
set_option linter.unusedVariables false
open Go Go.RowKit
theorem rchange_any (p : Pnr) (h : Hd) (e : Edit) (w : World) (S : Nat → Prop) (hp : PS w S p h) (hS : ∀ b, S b → b < w.heap.size) (hs : p.small 100000) (he : e.ok) :
    Calls Tryd.prog 51 #[.agg #[.string p.loc, .string p.off, .slice h.an h.nn h.cn, .slice h.ag h.ng h.cg, .slice h.ap h.np h.cp, .int .i64 p.tik.kind, .int .i64 p.tik.day, .int .i64 p.tik.min, .string p.rc, .slice h.ar h.nr h.cr, .slice h.ae h.ne h.ce, .bool p.queued], .agg #[.int .i64 e.kind, .string e.nam.last, .string e.nam.first, .string e.seg.car, .int .i64 e.seg.num, .int .i64 e.seg.day, .int .u8 e.seg.cls, .bool e.seg.live, .int .i64 e.tik.kind, .int .i64 e.tik.day, .int .i64 e.tik.min, .string e.text, .int .i64 e.n, .int .i64 e.pax, .int .i64 e.row, .int .u8 e.let_]] w (RetQ w S (changeF p e)) := by
  by_cases h1 : e.kind = 1
  · exact rchange_1 p h e w S hp hS hs he h1
  by_cases h2 : e.kind = 2
  · exact rchange_2 p h e w S hp hS hs he h2
  by_cases h3 : e.kind = 3
  · exact rchange_3 p h e w S hp hS hs he h3
  by_cases h4 : e.kind = 4
  · exact rchange_4 p h e w S hp hS hs he h4
  by_cases h5 : e.kind = 5
  · exact rchange_5 p h e w S hp hS hs he h5
  by_cases h6 : e.kind = 6
  · exact rchange_6 p h e w S hp hS hs he h6
  by_cases h7 : e.kind = 7
  · exact rchange_7 p h e w S hp hS hs he h7
  by_cases h8 : e.kind = 8
  · exact rchange_8 p h e w S hp hS hs he h8
  by_cases h9 : e.kind = 9
  · exact rchange_9 p h e w S hp hS hs he h9
  exact rchange_0 p h e w S hp hS hs he fun c c1 c2 => by rw [beq_eq_false_iff_ne]; omega
theorem pnr0_ps (w : World) (S : Nat → Prop) : PS w S pnr0 (Hd.mk none 0 0 none 0 0 none 0 0 none 0 0 none 0 0) :=
  ⟨by simp [okStr, pnr0, ByteArray.size], by simp [okStr, pnr0, ByteArray.size], by simp [okStr, pnr0, ByteArray.size], by simp [Tik.ok, okInt, pnr0], SlS.nil_ _ _ _, SlS.nil_ _ _ _, SlS.nil_ _ _ _, SlS.nil_ _ _ _, SlS.nil_ _ _ _⟩
set_option maxRecDepth 100000 in
set_option maxHeartbeats 4000000 in
theorem rapply_any (p : Pnr) (h : Hd) (e : Edit) (w : World) (S : Nat → Prop) (hp : PS w S p h) (hS : ∀ b, S b → b < w.heap.size) (hs : p.small 100000) (he : e.ok) :
    Calls Tryd.prog 21 #[.agg #[.string p.loc, .string p.off, .slice h.an h.nn h.cn, .slice h.ag h.ng h.cg, .slice h.ap h.np h.cp, .int .i64 p.tik.kind, .int .i64 p.tik.day, .int .i64 p.tik.min, .string p.rc, .slice h.ar h.nr h.cr, .slice h.ae h.ne h.ce, .bool p.queued], .agg #[.int .i64 e.kind, .string e.nam.last, .string e.nam.first, .string e.seg.car, .int .i64 e.seg.num, .int .i64 e.seg.day, .int .u8 e.seg.cls, .bool e.seg.live, .int .i64 e.tik.kind, .int .i64 e.tik.day, .int .i64 e.tik.min, .string e.text, .int .i64 e.n, .int .i64 e.pax, .int .i64 e.row, .int .u8 e.let_]] w (RetQ w S (applyF p e)) := by
  have HP := Lib.hid hp
  have HE := Lib.hid he
  have HSM := Lib.hid hs
  have HB := Lib.hid hS
  clear hp hS hs he
  have hF := FR.start w #[.string p.loc, .string p.off, .slice h.an h.nn h.cn, .slice h.ag h.ng h.cg, .slice h.ap h.np h.cp, .int .i64 p.tik.kind, .int .i64 p.tik.day, .int .i64 p.tik.min, .string p.rc, .slice h.ar h.nr h.cr, .slice h.ae h.ne h.ce, .bool p.queued] #[.int .i64 e.kind, .string e.nam.last, .string e.nam.first, .string e.seg.car, .int .i64 e.seg.num, .int .i64 e.seg.day, .int .u8 e.seg.cls, .bool e.seg.live, .int .i64 e.tik.kind, .int .i64 e.tik.day, .int .i64 e.tik.min, .string e.text, .int .i64 e.n, .int .i64 e.pax, .int .i64 e.row, .int .u8 e.let_] zc
  unfold zc at hF
  have HX := Lib.hid (show applyF p e = (if (changeF p e).2 ≠ 0 then (pnr0, (changeF p e).2) else ((changeF p e).1, 0)) from rfl)
  go_enter Tryd.func21, Tryd.ntmps21
  go_wp2_with fail
  refine (rchange_any p h e _ S (HP.out.below hF.B HB.out) (fun b hb => by have := HB.out b hb; have := hF.z; omega) HSM.out HE.out).mono ?_
  rintro en w1 ⟨h1, rfl, hP1, hb1⟩
  have hF1 := hF.step hb1
  have hP2 := PS.mono (S' := fun b => S b ∨ (w.heap.size + 1 + 1 + 1 ≤ b ∧ b < w1.heap.size)) hP1 fun b hb => by
    rcases hb with h | h
    · exact .inl h
    · exact .inr ⟨by have := h.1; simp at this; omega, h.2⟩
  clear hP1 hb1 hF
  generalize hr : changeF p e = r at HX hP2
  have HR := Lib.hid hr
  clear hr
  obtain ⟨q, n⟩ := r
  dsimp only at hP2
  have z1 := hF1.z
  by_cases hn : n = 0
  · have hfin := Lib.hid (show applyF p e = (q, 0) by rw [HX.out, if_neg (by simpa using hn)])
    have hn2 : (n != 0) = false := by rw [bne_eq_false_iff_eq]; exact hn
    clear hn
    have hF2 := hF1.alloc (.cells #[.string q.loc, .string q.off, .slice h1.an h1.nn h1.cn, .slice h1.ag h1.ng h1.cg, .slice h1.ap h1.np h1.cp, .int .i64 q.tik.kind, .int .i64 q.tik.day, .int .i64 q.tik.min, .string q.rc, .slice h1.ar h1.nr h1.cr, .slice h1.ae h1.ne h1.ce, .bool q.queued] 29)
    have hP3 := PS.below (B := w1.heap.size) hP2 ((Below.refl _ _).alloc (Nat.le_refl _) (.cells #[.string q.loc, .string q.off, .slice h1.an h1.nn h1.cn, .slice h1.ag h1.ng h1.cg, .slice h1.ap h1.np h1.cp, .int .i64 q.tik.kind, .int .i64 q.tik.day, .int .i64 q.tik.min, .string q.rc, .slice h1.ar h1.nr h1.cr, .slice h1.ae h1.ne h1.ce, .bool q.queued] 29)) fun b hb => by
      rcases hb with h | h
      · have := HB.out b h; omega
      · exact h.2
    go_wp2_with (refine store_res rfl (.tmp 4) (.tmp 18) rfl #[.string q.loc, .string q.off, .slice h1.an h1.nn h1.cn, .slice h1.ag h1.ng h1.cg, .slice h1.ap h1.np h1.cp, .int .i64 q.tik.kind, .int .i64 q.tik.day, .int .i64 q.tik.min, .string q.rc, .slice h1.ar h1.nr h1.cr, .slice h1.ae h1.ne h1.ce, .bool q.queued] rfl rfl hF2.r3 rfl rfl (by simp [Value.oneCell']) ?_)
    have hF9 := hF2.put3 #[.string q.loc, .string q.off, .slice h1.an h1.nn h1.cn, .slice h1.ag h1.ng h1.cg, .slice h1.ap h1.np h1.cp, .int .i64 q.tik.kind, .int .i64 q.tik.day, .int .i64 q.tik.min, .string q.rc, .slice h1.ar h1.nr h1.cr, .slice h1.ae h1.ne h1.ce, .bool q.queued]
    refine ret_ct Tryd.results21 hF9.r3 rfl rfl rfl rfl ?_
    exact RetQ.pass hfin.out HB.out hF2 (PS.mono hP3 fun b hb => by
      rcases hb with h | h
      · exact .inl h
      · exact .inr ⟨h.1, by simp; omega⟩)
  · have hfin := Lib.hid (show applyF p e = (pnr0, n) by rw [HX.out, if_pos (by simpa using hn)])
    have hn2 : (n != 0) = true := by rw [bne_iff_ne]; exact hn
    clear hn
    have hF2 := hF1.alloc (.cells #[.string q.loc, .string q.off, .slice h1.an h1.nn h1.cn, .slice h1.ag h1.ng h1.cg, .slice h1.ap h1.np h1.cp, .int .i64 q.tik.kind, .int .i64 q.tik.day, .int .i64 q.tik.min, .string q.rc, .slice h1.ar h1.nr h1.cr, .slice h1.ae h1.ne h1.ce, .bool q.queued] 29)
    go_wp2_with (refine store_res rfl (.tmp 4) (.tmp 16) rfl #[.string ⟨#[]⟩, .string ⟨#[]⟩, .slice none 0 0, .slice none 0 0, .slice none 0 0, .int .i64 0, .int .i64 0, .int .i64 0, .string ⟨#[]⟩, .slice none 0 0, .slice none 0 0, .bool false] rfl rfl hF2.r3 rfl rfl (by simp [Value.oneCell']) ?_)
    have hF9 := hF2.put3 #[.string ⟨#[]⟩, .string ⟨#[]⟩, .slice none 0 0, .slice none 0 0, .slice none 0 0, .int .i64 0, .int .i64 0, .int .i64 0, .string ⟨#[]⟩, .slice none 0 0, .slice none 0 0, .bool false]
    refine ret_ct Tryd.results21 hF9.r3 rfl rfl rfl rfl ?_
    exact RetQ.mk' (q := pnr0) (h' := Hd.mk none 0 0 none 0 0 none 0 0 none 0 0 none 0 0) hfin.out (pnr0_ps _ _) hF9.B
end Go.Proofs.YtaakcccffmfmoaaDoor
