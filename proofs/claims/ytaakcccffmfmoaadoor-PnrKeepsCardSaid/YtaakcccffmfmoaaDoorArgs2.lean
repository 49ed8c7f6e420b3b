/- From the arguments as data: an edit, a slice of edits, a number; a nil slice of a PNR has no room. -/
import Derived.Test.YtaakcccffmfmoaaDoorArgs
import Derived.Test.YtaakcccffmfmoaaDoorCaps
namespace Go.Proofs.YtaakcccffmfmoaaDoor
set_option linter.unusedVariables false
open Go Go.RowKit Go.ChangeShapes Go.WideShapes Go.ChangeAt
section
variable {H : Type} {enc : TypeId × Value → H} {W : World}
set_option maxRecDepth 100000 in
theorem open_edit {r : Reach} {b0 : Nat} {v : Value} {d : DataW H} {ps : List MemPlace} (hv : Value.okWide Tryd.prog W r b0 49 v) (h : DataW.Trod enc Tryd.prog W 0 (fun _ => true) true 49 v d ps) :
    ∃ e : Edit, v = .agg #[.int .i64 e.kind, .string e.nam.last, .string e.nam.first, .string e.seg.car, .int .i64 e.seg.num, .int .i64 e.seg.day, .int .u8 e.seg.cls, .bool e.seg.live, .int .i64 e.tik.kind, .int .i64 e.tik.day, .int .i64 e.tik.min, .string e.text, .int .i64 e.n, .int .i64 e.pax, .int .i64 e.row, .int .u8 e.let_] ∧ e.ok := by
  obtain ⟨cs, rfl, hsz⟩ := okWide_struct Tryd.underlying49 hv
  obtain ⟨fuel, h⟩ := h
  obtain ⟨l⟩ := cs
  simp only [Value.cells] at h
  obtain ⟨a0, a1, a2, a3, a4, a5, a6, a7, a8, a9, a10, a11, a12, a13, a14, a15, rfl, w0, w1, w2, w3, w4, w5, w6, w8, w9, w10, w11, w12, w13, w14, w15⟩ := dec_Edit h
  exact ⟨⟨a0, ⟨a1, a2⟩, ⟨a3, a4, a5, a6, a7⟩, ⟨a8, a9, a10⟩, a11, a12, a13, a14, a15⟩, rfl, w0, ⟨w1, w2⟩, ⟨w3, w4, w5, w6⟩, ⟨w8, w9, w10⟩, w11, w12, w13, w14, w15⟩
theorem nil_cap {t e : TypeId} {P : Program} {spare : Nat → Bool} {held : Bool} {base : Nat} (ht : P.underlying t = some (.slice e)) {fuel : Nat} {n c : Nat} {x : DataW H × List MemPlace} (h : DataW.trod enc P W base spare held fuel t [.slice none n c] = some x) : c = 0 := by
  rcases Go.Deep.open_slice ht h with ⟨h0, _⟩ | ⟨a, len, cap, m, n', D, Pl, hcs, _⟩
  · simp only [List.cons.injEq, and_true] at h0
    injection h0
  · simp at hcs
set_option maxRecDepth 100000 in
theorem caps_pnr {p : Pnr} {hd : Hd} {d : DataW H} {ps : List MemPlace} (h : DataW.Trod enc Tryd.prog W 0 (fun _ => true) true 29 (.agg #[.string p.loc, .string p.off, .slice hd.an hd.nn hd.cn, .slice hd.ag hd.ng hd.cg, .slice hd.ap hd.np hd.cp, .int .i64 p.tik.kind, .int .i64 p.tik.day, .int .i64 p.tik.min, .string p.rc, .slice hd.ar hd.nr hd.cr, .slice hd.ae hd.ne hd.ce, .bool p.queued]) d ps) : Caps hd := by
  obtain ⟨fuel, h⟩ := h
  obtain ⟨hl, hf⟩ := trod_fld Tryd.underlying29 h
  simp only [Value.cells] at hf
  obtain ⟨an, nn, cn, ag, ng, cg, ap, np, cp, ar, nr, cr, ae, ne, ce⟩ := hd
  dsimp only at hf
  refine ⟨?_, ?_, ?_, ?_, ?_⟩
  · rintro rfl
    obtain ⟨n2, y2, g2⟩ := hf 2 _ rfl
    replace g2 : DataW.trod enc Tryd.prog W 0 (fun _ => true) true n2 22 [.slice none nn cn] = some y2 := by have e : DataW.trod enc Tryd.prog W 0 (fun _ => true) true n2 22 ((([.string p.loc, .string p.off, .slice none nn cn, .slice ag ng cg, .slice ap np cp, .int .i64 p.tik.kind, .int .i64 p.tik.day, .int .i64 p.tik.min, .string p.rc, .slice ar nr cr, .slice ae ne ce, .bool p.queued] : List Value).drop 2).take (Tryd.prog.cellsOf 22)) = some y2 := g2; rw [cells_slNam] at e; exact e
    exact nil_cap Tryd.underlying22 g2
  · rintro rfl
    obtain ⟨n2, y2, g2⟩ := hf 3 _ rfl
    replace g2 : DataW.trod enc Tryd.prog W 0 (fun _ => true) true n2 23 [.slice none ng cg] = some y2 := by have e : DataW.trod enc Tryd.prog W 0 (fun _ => true) true n2 23 ((([.string p.loc, .string p.off, .slice an nn cn, .slice none ng cg, .slice ap np cp, .int .i64 p.tik.kind, .int .i64 p.tik.day, .int .i64 p.tik.min, .string p.rc, .slice ar nr cr, .slice ae ne ce, .bool p.queued] : List Value).drop 3).take (Tryd.prog.cellsOf 23)) = some y2 := g2; rw [cells_slSeg] at e; exact e
    exact nil_cap Tryd.underlying23 g2
  · rintro rfl
    obtain ⟨n2, y2, g2⟩ := hf 4 _ rfl
    replace g2 : DataW.trod enc Tryd.prog W 0 (fun _ => true) true n2 24 [.slice none np cp] = some y2 := by have e : DataW.trod enc Tryd.prog W 0 (fun _ => true) true n2 24 ((([.string p.loc, .string p.off, .slice an nn cn, .slice ag ng cg, .slice none np cp, .int .i64 p.tik.kind, .int .i64 p.tik.day, .int .i64 p.tik.min, .string p.rc, .slice ar nr cr, .slice ae ne ce, .bool p.queued] : List Value).drop 4).take (Tryd.prog.cellsOf 24)) = some y2 := g2; rw [cells_slStr] at e; exact e
    exact nil_cap Tryd.underlying24 g2
  · rintro rfl
    obtain ⟨n2, y2, g2⟩ := hf 7 _ rfl
    replace g2 : DataW.trod enc Tryd.prog W 0 (fun _ => true) true n2 24 [.slice none nr cr] = some y2 := by have e : DataW.trod enc Tryd.prog W 0 (fun _ => true) true n2 24 ((([.string p.loc, .string p.off, .slice an nn cn, .slice ag ng cg, .slice ap np cp, .int .i64 p.tik.kind, .int .i64 p.tik.day, .int .i64 p.tik.min, .string p.rc, .slice none nr cr, .slice ae ne ce, .bool p.queued] : List Value).drop 9).take (Tryd.prog.cellsOf 24)) = some y2 := g2; rw [cells_slStr] at e; exact e
    exact nil_cap Tryd.underlying24 g2
  · rintro rfl
    obtain ⟨n2, y2, g2⟩ := hf 8 _ rfl
    replace g2 : DataW.trod enc Tryd.prog W 0 (fun _ => true) true n2 27 [.slice none ne ce] = some y2 := by have e : DataW.trod enc Tryd.prog W 0 (fun _ => true) true n2 27 ((([.string p.loc, .string p.off, .slice an nn cn, .slice ag ng cg, .slice ap np cp, .int .i64 p.tik.kind, .int .i64 p.tik.day, .int .i64 p.tik.min, .string p.rc, .slice ar nr cr, .slice none ne ce, .bool p.queued] : List Value).drop 10).take (Tryd.prog.cellsOf 27)) = some y2 := g2; rw [cells_slPlc] at e; exact e
    exact nil_cap Tryd.underlying27 g2
end
end Go.Proofs.YtaakcccffmfmoaaDoor
