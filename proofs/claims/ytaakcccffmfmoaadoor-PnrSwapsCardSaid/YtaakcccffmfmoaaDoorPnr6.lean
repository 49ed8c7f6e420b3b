/- The program's edits of a PNR, kind by kind. -/
import Derived.Test.YtaakcccffmfmoaaDoorPnr3
import Derived.Test.YtaakcccffmfmoaaDoorPnr4
namespace Go.Proofs.YtaakcccffmfmoaaDoor
set_option linter.unusedVariables false
open Go Go.RowKit
section
variable {w : World} {D : Nat} {p : Pnr} {h : Hd} {pc ec rc : Array Value} {W W1 : World}
/-- Behind a call that turns rows of the PNR alone. -/
theorem FO.call (H : FO w D p h pc ec rc W) (hb : Below D W W1) (hk : ∀ k, k < W.heap.size → ¬ rowP h k → W1.heap[k]? = W.heap[k]?) : FB w D (rowP h) pc ec rc W1 := by
  have z := H.z
  have n1 : ∀ k, w.heap.size ≤ k → ¬ rowP h k := fun k hk hr => by have := H.lt k hr; omega
  exact ⟨H.fb.B.trans hb, H.fb.le, fun k h1 h2 => (hk k (by omega) h2).trans (H.fb.kp k h1 h2), (hk _ (by omega) (n1 _ (by omega))).trans H.fb.r1, (hk _ (by omega) (n1 _ (by omega))).trans H.fb.r2, (hk _ (by omega) (n1 _ (by omega))).trans H.fb.r3⟩
theorem OP.put3 {B : Nat} {q : Pnr} {h' : Hd} (H : OP W B q h') (hr : ∀ k, rowP h' k → k < w.heap.size ∨ w.heap.size + 1 + 1 < k) (cs : Array Value) : OP (W.setRow (w.heap.size + 1 + 1) cs) B q h' :=
  H.grown (g := w.heap.size + 1 + 1) (fun k hk => by have := hr k hk; omega) ⟨rfl, rfl, rfl, by simp, fun k _ hne => setRow_other _ _ k cs (fun e => hne (by rw [e]))⟩
end
set_option maxRecDepth 100000 in
set_option maxHeartbeats 4000000 in
theorem pchange_1 (p : Pnr) (h : Hd) (e : Edit) (w : World) (B : Nat) (hp : OP w B p h) (hD : Ap h) (hB : B ≤ w.heap.size) (hs : p.small 100000) (he : e.ok) (hk : e.kind = 1) :
    Calls Tryd.prog 52 #[.agg #[.string p.loc, .string p.off, .slice h.an h.nn h.cn, .slice h.ag h.ng h.cg, .slice h.ap h.np h.cp, .int .i64 p.tik.kind, .int .i64 p.tik.day, .int .i64 p.tik.min, .string p.rc, .slice h.ar h.nr h.cr, .slice h.ae h.ne h.ce, .bool p.queued], .agg #[.int .i64 e.kind, .string e.nam.last, .string e.nam.first, .string e.seg.car, .int .i64 e.seg.num, .int .i64 e.seg.day, .int .u8 e.seg.cls, .bool e.seg.live, .int .i64 e.tik.kind, .int .i64 e.tik.day, .int .i64 e.tik.min, .string e.text, .int .i64 e.n, .int .i64 e.pax, .int .i64 e.row, .int .u8 e.let_]] w (RetO w B h (changeF p e)) := by
  have HS := Lib.hid (hp.hd hs)
  have HSM := Lib.hid hs
  have HE := Lib.hid he
  have HD := Lib.hid hD
  obtain ⟨e1, e2, e3, e4, e5, e6, e7, e8, e9⟩ := he
  obtain ⟨an, nn, cn, ag, ng, cg, ap, np, cp, ar, nr, cr, ae, ne, ce⟩ := h
  have hF := FO.start hp hB #[.string p.loc, .string p.off, .slice an nn cn, .slice ag ng cg, .slice ap np cp, .int .i64 p.tik.kind, .int .i64 p.tik.day, .int .i64 p.tik.min, .string p.rc, .slice ar nr cr, .slice ae ne ce, .bool p.queued] #[.int .i64 e.kind, .string e.nam.last, .string e.nam.first, .string e.seg.car, .int .i64 e.seg.num, .int .i64 e.seg.day, .int .u8 e.seg.cls, .bool e.seg.live, .int .i64 e.tik.kind, .int .i64 e.tik.day, .int .i64 e.tik.min, .string e.text, .int .i64 e.n, .int .i64 e.pax, .int .i64 e.row, .int .u8 e.let_] zc
  unfold zc at hF
  clear hp hs hD
  dsimp only
  have hfin := Lib.hid (show changeF p e = nameF p e by unfold changeF; rw [hk]; rfl)
  have k1 : (e.kind == 1) = true := by rw [hk]; rfl
  have k2 : (e.kind == 2) = false := by rw [hk]; rfl
  have k3 : (e.kind == 3) = false := by rw [hk]; rfl
  have k4 : (e.kind == 4) = false := by rw [hk]; rfl
  have k5 : (e.kind == 5) = false := by rw [hk]; rfl
  have k6 : (e.kind == 6) = false := by rw [hk]; rfl
  have k7 : (e.kind == 7) = false := by rw [hk]; rfl
  have k8 : (e.kind == 8) = false := by rw [hk]; rfl
  have k9 : (e.kind == 9) = false := by rw [hk]; rfl
  clear hk
  go_enter Tryd.func52, Tryd.ntmps52
  go_wp2_with fail
  refine (pname_any p (Hd.mk an nn cn ag ng cg ap np cp ar nr cr ae ne ce) e _ B hF.op HD.out (by have := hF.fb.le; have := hF.z; omega) HSM.out HE.out).mono ?_
  rintro en w1 ⟨h1, rfl, hO1, hb1, hk1, hr1⟩
  have hF1 := hF.call hb1 hk1
  have hzF := hF.z
  generalize hr : nameF p e = r at hfin hO1
  have HR := Lib.hid hr
  clear hr
  obtain ⟨q, n⟩ := r
  go_wp2_with (refine store_res rfl (.tmp 4) (.tmp 15) rfl #[.string q.loc, .string q.off, .slice h1.an h1.nn h1.cn, .slice h1.ag h1.ng h1.cg, .slice h1.ap h1.np h1.cp, .int .i64 q.tik.kind, .int .i64 q.tik.day, .int .i64 q.tik.min, .string q.rc, .slice h1.ar h1.nr h1.cr, .slice h1.ae h1.ne h1.ce, .bool q.queued] rfl rfl hF1.r3 rfl rfl (by simp [Value.oneCell']) ?_)
  have hF9 := hF1.put3 #[.string q.loc, .string q.off, .slice h1.an h1.nn h1.cn, .slice h1.ag h1.ng h1.cg, .slice h1.ap h1.np h1.cp, .int .i64 q.tik.kind, .int .i64 q.tik.day, .int .i64 q.tik.min, .string q.rc, .slice h1.ar h1.nr h1.cr, .slice h1.ae h1.ne h1.ce, .bool q.queued]
  refine ret_ct Tryd.results52 hF9.r3 rfl rfl rfl rfl ?_
  have hro : ∀ k, rowP h1 k → rowP (Hd.mk an nn cn ag ng cg ap np cp ar nr cr ae ne ce) k ∨ w.heap.size + 1 + 1 < k := fun k hk => by
    rcases hr1 k hk with h | h
    · exact .inl h
    · exact .inr (by omega)
  exact RetO.mk' hfin.out (OP.put3 hO1 (fun k hk => (hro k hk).elim (fun h => .inl (hF.lt k h)) (fun h => .inr h)) #[.string q.loc, .string q.off, .slice h1.an h1.nn h1.cn, .slice h1.ag h1.ng h1.cg, .slice h1.ap h1.np h1.cp, .int .i64 q.tik.kind, .int .i64 q.tik.day, .int .i64 q.tik.min, .string q.rc, .slice h1.ar h1.nr h1.cr, .slice h1.ae h1.ne h1.ce, .bool q.queued]) hF9 (fun k hk => (hro k hk).elim (fun h => .inl h) (fun h => .inr (by omega)))
set_option maxRecDepth 100000 in
set_option maxHeartbeats 4000000 in
theorem pchange_2 (p : Pnr) (h : Hd) (e : Edit) (w : World) (B : Nat) (hp : OP w B p h) (hD : Ap h) (hB : B ≤ w.heap.size) (hs : p.small 100000) (he : e.ok) (hk : e.kind = 2) :
    Calls Tryd.prog 52 #[.agg #[.string p.loc, .string p.off, .slice h.an h.nn h.cn, .slice h.ag h.ng h.cg, .slice h.ap h.np h.cp, .int .i64 p.tik.kind, .int .i64 p.tik.day, .int .i64 p.tik.min, .string p.rc, .slice h.ar h.nr h.cr, .slice h.ae h.ne h.ce, .bool p.queued], .agg #[.int .i64 e.kind, .string e.nam.last, .string e.nam.first, .string e.seg.car, .int .i64 e.seg.num, .int .i64 e.seg.day, .int .u8 e.seg.cls, .bool e.seg.live, .int .i64 e.tik.kind, .int .i64 e.tik.day, .int .i64 e.tik.min, .string e.text, .int .i64 e.n, .int .i64 e.pax, .int .i64 e.row, .int .u8 e.let_]] w (RetO w B h (changeF p e)) := by
  have HS := Lib.hid (hp.hd hs)
  have HSM := Lib.hid hs
  have HE := Lib.hid he
  have HD := Lib.hid hD
  obtain ⟨e1, e2, e3, e4, e5, e6, e7, e8, e9⟩ := he
  obtain ⟨an, nn, cn, ag, ng, cg, ap, np, cp, ar, nr, cr, ae, ne, ce⟩ := h
  have hF := FO.start hp hB #[.string p.loc, .string p.off, .slice an nn cn, .slice ag ng cg, .slice ap np cp, .int .i64 p.tik.kind, .int .i64 p.tik.day, .int .i64 p.tik.min, .string p.rc, .slice ar nr cr, .slice ae ne ce, .bool p.queued] #[.int .i64 e.kind, .string e.nam.last, .string e.nam.first, .string e.seg.car, .int .i64 e.seg.num, .int .i64 e.seg.day, .int .u8 e.seg.cls, .bool e.seg.live, .int .i64 e.tik.kind, .int .i64 e.tik.day, .int .i64 e.tik.min, .string e.text, .int .i64 e.n, .int .i64 e.pax, .int .i64 e.row, .int .u8 e.let_] zc
  unfold zc at hF
  clear hp hs hD
  dsimp only
  have hfin := Lib.hid (show changeF p e = segmentF p e by unfold changeF; rw [hk]; rfl)
  have k1 : (e.kind == 1) = false := by rw [hk]; rfl
  have k2 : (e.kind == 2) = true := by rw [hk]; rfl
  have k3 : (e.kind == 3) = false := by rw [hk]; rfl
  have k4 : (e.kind == 4) = false := by rw [hk]; rfl
  have k5 : (e.kind == 5) = false := by rw [hk]; rfl
  have k6 : (e.kind == 6) = false := by rw [hk]; rfl
  have k7 : (e.kind == 7) = false := by rw [hk]; rfl
  have k8 : (e.kind == 8) = false := by rw [hk]; rfl
  have k9 : (e.kind == 9) = false := by rw [hk]; rfl
  clear hk
  go_enter Tryd.func52, Tryd.ntmps52
  go_wp2_with fail
  refine (psegment_any p (Hd.mk an nn cn ag ng cg ap np cp ar nr cr ae ne ce) e _ B hF.op HD.out (by have := hF.fb.le; have := hF.z; omega) HSM.out HE.out).mono ?_
  rintro en w1 ⟨h1, rfl, hO1, hb1, hk1, hr1⟩
  have hF1 := hF.call hb1 hk1
  have hzF := hF.z
  generalize hr : segmentF p e = r at hfin hO1
  have HR := Lib.hid hr
  clear hr
  obtain ⟨q, n⟩ := r
  go_wp2_with (refine store_res rfl (.tmp 4) (.tmp 22) rfl #[.string q.loc, .string q.off, .slice h1.an h1.nn h1.cn, .slice h1.ag h1.ng h1.cg, .slice h1.ap h1.np h1.cp, .int .i64 q.tik.kind, .int .i64 q.tik.day, .int .i64 q.tik.min, .string q.rc, .slice h1.ar h1.nr h1.cr, .slice h1.ae h1.ne h1.ce, .bool q.queued] rfl rfl hF1.r3 rfl rfl (by simp [Value.oneCell']) ?_)
  have hF9 := hF1.put3 #[.string q.loc, .string q.off, .slice h1.an h1.nn h1.cn, .slice h1.ag h1.ng h1.cg, .slice h1.ap h1.np h1.cp, .int .i64 q.tik.kind, .int .i64 q.tik.day, .int .i64 q.tik.min, .string q.rc, .slice h1.ar h1.nr h1.cr, .slice h1.ae h1.ne h1.ce, .bool q.queued]
  refine ret_ct Tryd.results52 hF9.r3 rfl rfl rfl rfl ?_
  have hro : ∀ k, rowP h1 k → rowP (Hd.mk an nn cn ag ng cg ap np cp ar nr cr ae ne ce) k ∨ w.heap.size + 1 + 1 < k := fun k hk => by
    rcases hr1 k hk with h | h
    · exact .inl h
    · exact .inr (by omega)
  exact RetO.mk' hfin.out (OP.put3 hO1 (fun k hk => (hro k hk).elim (fun h => .inl (hF.lt k h)) (fun h => .inr h)) #[.string q.loc, .string q.off, .slice h1.an h1.nn h1.cn, .slice h1.ag h1.ng h1.cg, .slice h1.ap h1.np h1.cp, .int .i64 q.tik.kind, .int .i64 q.tik.day, .int .i64 q.tik.min, .string q.rc, .slice h1.ar h1.nr h1.cr, .slice h1.ae h1.ne h1.ce, .bool q.queued]) hF9 (fun k hk => (hro k hk).elim (fun h => .inl h) (fun h => .inr (by omega)))
set_option maxRecDepth 100000 in
set_option maxHeartbeats 4000000 in
theorem pchange_3 (p : Pnr) (h : Hd) (e : Edit) (w : World) (B : Nat) (hp : OP w B p h) (hD : Ap h) (hB : B ≤ w.heap.size) (hs : p.small 100000) (he : e.ok) (hk : e.kind = 3) :
    Calls Tryd.prog 52 #[.agg #[.string p.loc, .string p.off, .slice h.an h.nn h.cn, .slice h.ag h.ng h.cg, .slice h.ap h.np h.cp, .int .i64 p.tik.kind, .int .i64 p.tik.day, .int .i64 p.tik.min, .string p.rc, .slice h.ar h.nr h.cr, .slice h.ae h.ne h.ce, .bool p.queued], .agg #[.int .i64 e.kind, .string e.nam.last, .string e.nam.first, .string e.seg.car, .int .i64 e.seg.num, .int .i64 e.seg.day, .int .u8 e.seg.cls, .bool e.seg.live, .int .i64 e.tik.kind, .int .i64 e.tik.day, .int .i64 e.tik.min, .string e.text, .int .i64 e.n, .int .i64 e.pax, .int .i64 e.row, .int .u8 e.let_]] w (RetO w B h (changeF p e)) := by
  have HS := Lib.hid (hp.hd hs)
  have HSM := Lib.hid hs
  have HE := Lib.hid he
  have HD := Lib.hid hD
  obtain ⟨e1, e2, e3, e4, e5, e6, e7, e8, e9⟩ := he
  obtain ⟨an, nn, cn, ag, ng, cg, ap, np, cp, ar, nr, cr, ae, ne, ce⟩ := h
  have hF := FO.start hp hB #[.string p.loc, .string p.off, .slice an nn cn, .slice ag ng cg, .slice ap np cp, .int .i64 p.tik.kind, .int .i64 p.tik.day, .int .i64 p.tik.min, .string p.rc, .slice ar nr cr, .slice ae ne ce, .bool p.queued] #[.int .i64 e.kind, .string e.nam.last, .string e.nam.first, .string e.seg.car, .int .i64 e.seg.num, .int .i64 e.seg.day, .int .u8 e.seg.cls, .bool e.seg.live, .int .i64 e.tik.kind, .int .i64 e.tik.day, .int .i64 e.tik.min, .string e.text, .int .i64 e.n, .int .i64 e.pax, .int .i64 e.row, .int .u8 e.let_] zc
  unfold zc at hF
  clear hp hs hD
  dsimp only
  have hfin := Lib.hid (show changeF p e = ({ p with phones := (textF p.phones e.text 4).1 }, (textF p.phones e.text 4).2) by unfold changeF; rw [hk]; rfl)
  have k1 : (e.kind == 1) = false := by rw [hk]; rfl
  have k2 : (e.kind == 2) = false := by rw [hk]; rfl
  have k3 : (e.kind == 3) = true := by rw [hk]; rfl
  have k4 : (e.kind == 4) = false := by rw [hk]; rfl
  have k5 : (e.kind == 5) = false := by rw [hk]; rfl
  have k6 : (e.kind == 6) = false := by rw [hk]; rfl
  have k7 : (e.kind == 7) = false := by rw [hk]; rfl
  have k8 : (e.kind == 8) = false := by rw [hk]; rfl
  have k9 : (e.kind == 9) = false := by rw [hk]; rfl
  clear hk
  have hsm := HSM.out.phones
  have HLx := Lib.hid hF.op.phones.sl.len
  go_enter Tryd.func52, Tryd.ntmps52
  go_wp2_with fail
  refine (ptext1_any p.phones ap np cp e.text 4 _ B hF.op.phones (by rw [← HLx.out]; omega) (by have := hF.fb.le; have := hF.z; omega) e5).mono ?_
  rintro en w1 ⟨A9, c9, rfl, hown', hgr, hb'⟩
  have hF' := hF.fb.grown hgr (fun k hk => ⟨(hF.op.phones.bk_lt k hk).1, .inl ⟨(.inr (.inr (.inl hk))), hF.lt k (.inr (.inr (.inl hk)))⟩⟩)
  have hzF := hF.z
  have hO' := hF.op.phones' HD.out hgr hown'
  have hrow2 : ∀ k, bk A9 = some k → rowP (Hd.mk an nn cn ag ng cg ap np cp ar nr cr ae ne ce) k ∨ w.heap.size + 1 + 1 < k := fun k hk => by
    rcases hb' with hb | hb
    · rw [hb] at hk
      exact .inl (.inr (.inr (.inl hk)))
    · have := hb k hk
      exact .inr (by omega)
  have hro : ∀ k, rowP (Hd.mk an nn cn ag ng cg A9 (textF p.phones e.text 4).1.length c9 ar nr cr ae ne ce) k → rowP (Hd.mk an nn cn ag ng cg ap np cp ar nr cr ae ne ce) k ∨ w.heap.size + 1 + 1 < k := fun k hk => by
    rcases hk with hk | hk | hk | hk | hk <;> first | exact hrow2 k hk | exact .inl (.inl hk) | exact .inl (.inr (.inl hk)) | exact .inl (.inr (.inr (.inl hk))) | exact .inl (.inr (.inr (.inr (.inl hk)))) | exact .inl (.inr (.inr (.inr (.inr hk))))
  have HRL := Lib.hid hF.lt
  clear hown' hgr hb' hrow2 hF
  have g1 := hF'.c1
  have g2 := hF'.f1
  have g3 := hF'.z
  have g4 : w.heap.size < w1.heap.size := by omega
  generalize htl : (textF p.phones e.text 4) = tx at hfin hO' hro ⊢
  have HTL := Lib.hid htl
  clear htl
  obtain ⟨tl, tn⟩ := tx
  dsimp only at hO' hro
  dsimp only
  have hF7 : FB w B (rowP (Hd.mk an nn cn ag ng cg ap np cp ar nr cr ae ne ce)) #[.string p.loc, .string p.off, .slice an nn cn, .slice ag ng cg, .slice A9 tl.length c9, .int .i64 p.tik.kind, .int .i64 p.tik.day, .int .i64 p.tik.min, .string p.rc, .slice ar nr cr, .slice ae ne ce, .bool p.queued] #[.int .i64 e.kind, .string e.nam.last, .string e.nam.first, .string e.seg.car, .int .i64 e.seg.num, .int .i64 e.seg.day, .int .u8 e.seg.cls, .bool e.seg.live, .int .i64 e.tik.kind, .int .i64 e.tik.day, .int .i64 e.tik.min, .string e.text, .int .i64 e.n, .int .i64 e.pax, .int .i64 e.row, .int .u8 e.let_] zc _ := hF'.put1 4 (.slice A9 tl.length c9)
  go_wp2_with (refine store_res rfl (.tmp 4) (.tmp 101) rfl #[.string p.loc, .string p.off, .slice an nn cn, .slice ag ng cg, .slice A9 tl.length c9, .int .i64 p.tik.kind, .int .i64 p.tik.day, .int .i64 p.tik.min, .string p.rc, .slice ar nr cr, .slice ae ne ce, .bool p.queued] rfl rfl hF7.r3 rfl rfl (by simp [Value.oneCell']) ?_)
  have hF9 := hF7.put3 #[.string p.loc, .string p.off, .slice an nn cn, .slice ag ng cg, .slice A9 tl.length c9, .int .i64 p.tik.kind, .int .i64 p.tik.day, .int .i64 p.tik.min, .string p.rc, .slice ar nr cr, .slice ae ne ce, .bool p.queued]
  refine ret_ct Tryd.results52 hF9.r3 rfl rfl rfl rfl ?_
  exact RetO.mk' (q := { p with phones := tl }) (h' := (Hd.mk an nn cn ag ng cg A9 tl.length c9 ar nr cr ae ne ce)) hfin.out (hO'.fin (fun k hk => (hro k hk).elim (fun h => .inl (HRL.out k h)) (fun h => .inr h)) 4 _ #[.string p.loc, .string p.off, .slice an nn cn, .slice ag ng cg, .slice A9 tl.length c9, .int .i64 p.tik.kind, .int .i64 p.tik.day, .int .i64 p.tik.min, .string p.rc, .slice ar nr cr, .slice ae ne ce, .bool p.queued]) hF9 (fun k hk => (hro k hk).elim (fun h => .inl h) (fun h => .inr (by omega)))
set_option maxRecDepth 100000 in
set_option maxHeartbeats 4000000 in
theorem pchange_8 (p : Pnr) (h : Hd) (e : Edit) (w : World) (B : Nat) (hp : OP w B p h) (hD : Ap h) (hB : B ≤ w.heap.size) (hs : p.small 100000) (he : e.ok) (hk : e.kind = 8) :
    Calls Tryd.prog 52 #[.agg #[.string p.loc, .string p.off, .slice h.an h.nn h.cn, .slice h.ag h.ng h.cg, .slice h.ap h.np h.cp, .int .i64 p.tik.kind, .int .i64 p.tik.day, .int .i64 p.tik.min, .string p.rc, .slice h.ar h.nr h.cr, .slice h.ae h.ne h.ce, .bool p.queued], .agg #[.int .i64 e.kind, .string e.nam.last, .string e.nam.first, .string e.seg.car, .int .i64 e.seg.num, .int .i64 e.seg.day, .int .u8 e.seg.cls, .bool e.seg.live, .int .i64 e.tik.kind, .int .i64 e.tik.day, .int .i64 e.tik.min, .string e.text, .int .i64 e.n, .int .i64 e.pax, .int .i64 e.row, .int .u8 e.let_]] w (RetO w B h (changeF p e)) := by
  have HS := Lib.hid (hp.hd hs)
  have HSM := Lib.hid hs
  have HE := Lib.hid he
  have HD := Lib.hid hD
  obtain ⟨e1, e2, e3, e4, e5, e6, e7, e8, e9⟩ := he
  obtain ⟨an, nn, cn, ag, ng, cg, ap, np, cp, ar, nr, cr, ae, ne, ce⟩ := h
  have hF := FO.start hp hB #[.string p.loc, .string p.off, .slice an nn cn, .slice ag ng cg, .slice ap np cp, .int .i64 p.tik.kind, .int .i64 p.tik.day, .int .i64 p.tik.min, .string p.rc, .slice ar nr cr, .slice ae ne ce, .bool p.queued] #[.int .i64 e.kind, .string e.nam.last, .string e.nam.first, .string e.seg.car, .int .i64 e.seg.num, .int .i64 e.seg.day, .int .u8 e.seg.cls, .bool e.seg.live, .int .i64 e.tik.kind, .int .i64 e.tik.day, .int .i64 e.tik.min, .string e.text, .int .i64 e.n, .int .i64 e.pax, .int .i64 e.row, .int .u8 e.let_] zc
  unfold zc at hF
  clear hp hs hD
  dsimp only
  have hfin := Lib.hid (show changeF p e = seatF p e by unfold changeF; rw [hk]; rfl)
  have k1 : (e.kind == 1) = false := by rw [hk]; rfl
  have k2 : (e.kind == 2) = false := by rw [hk]; rfl
  have k3 : (e.kind == 3) = false := by rw [hk]; rfl
  have k4 : (e.kind == 4) = false := by rw [hk]; rfl
  have k5 : (e.kind == 5) = false := by rw [hk]; rfl
  have k6 : (e.kind == 6) = false := by rw [hk]; rfl
  have k7 : (e.kind == 7) = false := by rw [hk]; rfl
  have k8 : (e.kind == 8) = true := by rw [hk]; rfl
  have k9 : (e.kind == 9) = false := by rw [hk]; rfl
  clear hk
  go_enter Tryd.func52, Tryd.ntmps52
  go_wp2_with fail
  refine (pseat_any p (Hd.mk an nn cn ag ng cg ap np cp ar nr cr ae ne ce) e _ B hF.op (by have := hF.fb.le; have := hF.z; omega) HSM.out HE.out).mono ?_
  rintro en w1 ⟨h1, rfl, hO1, hb1, hk1, hr1⟩
  have hF1 := hF.call hb1 hk1
  have hzF := hF.z
  generalize hr : seatF p e = r at hfin hO1
  have HR := Lib.hid hr
  clear hr
  obtain ⟨q, n⟩ := r
  go_wp2_with (refine store_res rfl (.tmp 4) (.tmp 92) rfl #[.string q.loc, .string q.off, .slice h1.an h1.nn h1.cn, .slice h1.ag h1.ng h1.cg, .slice h1.ap h1.np h1.cp, .int .i64 q.tik.kind, .int .i64 q.tik.day, .int .i64 q.tik.min, .string q.rc, .slice h1.ar h1.nr h1.cr, .slice h1.ae h1.ne h1.ce, .bool q.queued] rfl rfl hF1.r3 rfl rfl (by simp [Value.oneCell']) ?_)
  have hF9 := hF1.put3 #[.string q.loc, .string q.off, .slice h1.an h1.nn h1.cn, .slice h1.ag h1.ng h1.cg, .slice h1.ap h1.np h1.cp, .int .i64 q.tik.kind, .int .i64 q.tik.day, .int .i64 q.tik.min, .string q.rc, .slice h1.ar h1.nr h1.cr, .slice h1.ae h1.ne h1.ce, .bool q.queued]
  refine ret_ct Tryd.results52 hF9.r3 rfl rfl rfl rfl ?_
  have hro : ∀ k, rowP h1 k → rowP (Hd.mk an nn cn ag ng cg ap np cp ar nr cr ae ne ce) k ∨ w.heap.size + 1 + 1 < k := fun k hk => by
    rcases hr1 k hk with h | h
    · exact .inl h
    · exact .inr (by omega)
  exact RetO.mk' hfin.out (OP.put3 hO1 (fun k hk => (hro k hk).elim (fun h => .inl (hF.lt k h)) (fun h => .inr h)) #[.string q.loc, .string q.off, .slice h1.an h1.nn h1.cn, .slice h1.ag h1.ng h1.cg, .slice h1.ap h1.np h1.cp, .int .i64 q.tik.kind, .int .i64 q.tik.day, .int .i64 q.tik.min, .string q.rc, .slice h1.ar h1.nr h1.cr, .slice h1.ae h1.ne h1.ce, .bool q.queued]) hF9 (fun k hk => (hro k hk).elim (fun h => .inl h) (fun h => .inr (by omega)))
set_option maxRecDepth 100000 in
set_option maxHeartbeats 4000000 in
theorem pchange_9 (p : Pnr) (h : Hd) (e : Edit) (w : World) (B : Nat) (hp : OP w B p h) (hD : Ap h) (hB : B ≤ w.heap.size) (hs : p.small 100000) (he : e.ok) (hk : e.kind = 9) :
    Calls Tryd.prog 52 #[.agg #[.string p.loc, .string p.off, .slice h.an h.nn h.cn, .slice h.ag h.ng h.cg, .slice h.ap h.np h.cp, .int .i64 p.tik.kind, .int .i64 p.tik.day, .int .i64 p.tik.min, .string p.rc, .slice h.ar h.nr h.cr, .slice h.ae h.ne h.ce, .bool p.queued], .agg #[.int .i64 e.kind, .string e.nam.last, .string e.nam.first, .string e.seg.car, .int .i64 e.seg.num, .int .i64 e.seg.day, .int .u8 e.seg.cls, .bool e.seg.live, .int .i64 e.tik.kind, .int .i64 e.tik.day, .int .i64 e.tik.min, .string e.text, .int .i64 e.n, .int .i64 e.pax, .int .i64 e.row, .int .u8 e.let_]] w (RetO w B h (changeF p e)) := by
  have HS := Lib.hid (hp.hd hs)
  have HSM := Lib.hid hs
  have HE := Lib.hid he
  have HD := Lib.hid hD
  obtain ⟨e1, e2, e3, e4, e5, e6, e7, e8, e9⟩ := he
  obtain ⟨an, nn, cn, ag, ng, cg, ap, np, cp, ar, nr, cr, ae, ne, ce⟩ := h
  have hF := FO.start hp hB #[.string p.loc, .string p.off, .slice an nn cn, .slice ag ng cg, .slice ap np cp, .int .i64 p.tik.kind, .int .i64 p.tik.day, .int .i64 p.tik.min, .string p.rc, .slice ar nr cr, .slice ae ne ce, .bool p.queued] #[.int .i64 e.kind, .string e.nam.last, .string e.nam.first, .string e.seg.car, .int .i64 e.seg.num, .int .i64 e.seg.day, .int .u8 e.seg.cls, .bool e.seg.live, .int .i64 e.tik.kind, .int .i64 e.tik.day, .int .i64 e.tik.min, .string e.text, .int .i64 e.n, .int .i64 e.pax, .int .i64 e.row, .int .u8 e.let_] zc
  unfold zc at hF
  clear hp hs hD
  dsimp only
  have hfin := Lib.hid (show changeF p e = freeF p e by unfold changeF; rw [hk]; rfl)
  have k1 : (e.kind == 1) = false := by rw [hk]; rfl
  have k2 : (e.kind == 2) = false := by rw [hk]; rfl
  have k3 : (e.kind == 3) = false := by rw [hk]; rfl
  have k4 : (e.kind == 4) = false := by rw [hk]; rfl
  have k5 : (e.kind == 5) = false := by rw [hk]; rfl
  have k6 : (e.kind == 6) = false := by rw [hk]; rfl
  have k7 : (e.kind == 7) = false := by rw [hk]; rfl
  have k8 : (e.kind == 8) = false := by rw [hk]; rfl
  have k9 : (e.kind == 9) = true := by rw [hk]; rfl
  clear hk
  go_enter Tryd.func52, Tryd.ntmps52
  go_wp2_with fail
  refine (pfree_any p (Hd.mk an nn cn ag ng cg ap np cp ar nr cr ae ne ce) e _ B hF.op (by have := hF.fb.le; have := hF.z; omega) HSM.out HE.out).mono ?_
  rintro en w1 ⟨h1, rfl, hO1, hb1, hk1, hr1⟩
  have hF1 := hF.call hb1 hk1
  have hzF := hF.z
  generalize hr : freeF p e = r at hfin hO1
  have HR := Lib.hid hr
  clear hr
  obtain ⟨q, n⟩ := r
  go_wp2_with (refine store_res rfl (.tmp 4) (.tmp 99) rfl #[.string q.loc, .string q.off, .slice h1.an h1.nn h1.cn, .slice h1.ag h1.ng h1.cg, .slice h1.ap h1.np h1.cp, .int .i64 q.tik.kind, .int .i64 q.tik.day, .int .i64 q.tik.min, .string q.rc, .slice h1.ar h1.nr h1.cr, .slice h1.ae h1.ne h1.ce, .bool q.queued] rfl rfl hF1.r3 rfl rfl (by simp [Value.oneCell']) ?_)
  have hF9 := hF1.put3 #[.string q.loc, .string q.off, .slice h1.an h1.nn h1.cn, .slice h1.ag h1.ng h1.cg, .slice h1.ap h1.np h1.cp, .int .i64 q.tik.kind, .int .i64 q.tik.day, .int .i64 q.tik.min, .string q.rc, .slice h1.ar h1.nr h1.cr, .slice h1.ae h1.ne h1.ce, .bool q.queued]
  refine ret_ct Tryd.results52 hF9.r3 rfl rfl rfl rfl ?_
  have hro : ∀ k, rowP h1 k → rowP (Hd.mk an nn cn ag ng cg ap np cp ar nr cr ae ne ce) k ∨ w.heap.size + 1 + 1 < k := fun k hk => by
    rcases hr1 k hk with h | h
    · exact .inl h
    · exact .inr (by omega)
  exact RetO.mk' hfin.out (OP.put3 hO1 (fun k hk => (hro k hk).elim (fun h => .inl (hF.lt k h)) (fun h => .inr h)) #[.string q.loc, .string q.off, .slice h1.an h1.nn h1.cn, .slice h1.ag h1.ng h1.cg, .slice h1.ap h1.np h1.cp, .int .i64 q.tik.kind, .int .i64 q.tik.day, .int .i64 q.tik.min, .string q.rc, .slice h1.ar h1.nr h1.cr, .slice h1.ae h1.ne h1.ce, .bool q.queued]) hF9 (fun k hk => (hro k hk).elim (fun h => .inl h) (fun h => .inr (by omega)))
end Go.Proofs.YtaakcccffmfmoaaDoor
