/- Put together by program of: Pnr6, Pnr7, Pnr8. -/
import Derived.Test.YtpgeoahlhdifoaaGreatDoorMPnr23
import Derived.Test.YtpgeoahlhdifoaaGreatDoorPnr4
import Derived.Test.YtpgeoahlhdifoaaGreatDoorRchange2
import Derived.Test.YtpgeoahlhdifoaaGreatDoorRcancel
namespace Go.Proofs.YtpgeoahlhdifoaaGreatDoor
set_option linter.unusedVariables false
open Go Go.RowKit
section
variable {w : World} {D : Nat} {p : Pnr} {h : Hd} {pc ec rc : Array Value} {W W1 : World}
/-- Behind a call that turns rows of the PNR alone. -/
theorem FO.call (H : FO w D p h pc ec rc W) (hb : Below D W W1) (hk : ∀ k, k < W.heap.size → ¬ rowP h k → W1.heap[k]? = W.heap[k]?) : FB w D (rowP h) pc ec rc W1 := by
  have z := H.z
  have n1 : ∀ k, w.heap.size ≤ k → ¬ rowP h k := fun k hk hr => by have := H.lt k hr; omega
  exact ⟨H.fb.B.trans hb, H.fb.le, fun k h1 h2 => (hk k (by omega) h2).trans (H.fb.kp k h1 h2), (hk _ (by omega) (n1 _ (by omega))).trans H.fb.r1, (hk _ (by omega) (n1 _ (by omega))).trans H.fb.r2, (hk _ (by omega) (n1 _ (by omega))).trans H.fb.r3⟩
theorem OP.put3 {B : Nat} {q : Pnr} {h' : Hd} (H : OP W B q h') (hr : ∀ k, rowP h' k → k < w.heap.size ∨ w.heap.size + 1 + 1 < k) (cs : Array Value) : OP (W.setRow (w.heap.size + 1 + 1) cs) B q h' :=
  H.grown (g := w.heap.size + 1 + 1) (fun k hk => by have := hr k hk; omega) ⟨rfl, rfl, rfl, by simp, fun k _ hne => setRow_other _ _ k cs (fun e => hne (by rw [e]))⟩
end
set_option maxRecDepth 100000 in
set_option maxHeartbeats 4000000 in
theorem pchange_1 (p : Pnr) (h : Hd) (e : Edit) (w : World) (B : Nat) (hp : OP w B p h) (hD : Ap h) (hB : B ≤ w.heap.size) (hs : p.small 100000) (he : e.ok) (hk : e.kind = 1) :
    Calls Tryz.prog 53 #[.agg #[.string p.loc, .string p.off, .slice h.an h.nn h.cn, .slice h.ag h.ng h.cg, .slice h.ap h.np h.cp, .int .i64 p.tik.kind, .int .i64 p.tik.day, .int .i64 p.tik.min, .string p.rc, .slice h.ar h.nr h.cr, .slice h.ae h.ne h.ce, .bool p.queued], .agg #[.int .i64 e.kind, .string e.nam.last, .string e.nam.first, .string e.seg.car, .int .i64 e.seg.num, .int .i64 e.seg.day, .int .u8 e.seg.cls, .bool e.seg.live, .int .i64 e.tik.kind, .int .i64 e.tik.day, .int .i64 e.tik.min, .string e.text, .int .i64 e.n, .int .i64 e.pax, .int .i64 e.row, .int .u8 e.let_]] w (RetO w B h (changeF p e)) := by
  have HS := Lib.hid (hp.hd hs)
  have HSM := Lib.hid hs
  have HE := Lib.hid he
  have HD := Lib.hid hD
  obtain ⟨e1, e2, e3, e4, e5, e6, e7, e8, e9⟩ := he
  obtain ⟨an, nn, cn, ag, ng, cg, ap, np, cp, ar, nr, cr, ae, ne, ce⟩ := h
  have hF := FO.start hp hB #[.string p.loc, .string p.off, .slice an nn cn, .slice ag ng cg, .slice ap np cp, .int .i64 p.tik.kind, .int .i64 p.tik.day, .int .i64 p.tik.min, .string p.rc, .slice ar nr cr, .slice ae ne ce, .bool p.queued] #[.int .i64 e.kind, .string e.nam.last, .string e.nam.first, .string e.seg.car, .int .i64 e.seg.num, .int .i64 e.seg.day, .int .u8 e.seg.cls, .bool e.seg.live, .int .i64 e.tik.kind, .int .i64 e.tik.day, .int .i64 e.tik.min, .string e.text, .int .i64 e.n, .int .i64 e.pax, .int .i64 e.row, .int .u8 e.let_] zc
  unfold zc at hF
  clear hp hs hD
  dsimp only
  have hfin := Lib.hid (show changeF p e = nameF p e by unfold changeF; rw [hk]; rfl)
  have k1 : (e.kind == 1) = true := by rw [hk]; rfl
  have k2 : (e.kind == 2) = false := by rw [hk]; rfl
  have k3 : (e.kind == 3) = false := by rw [hk]; rfl
  have k4 : (e.kind == 4) = false := by rw [hk]; rfl
  have k5 : (e.kind == 5) = false := by rw [hk]; rfl
  have k6 : (e.kind == 6) = false := by rw [hk]; rfl
  have k7 : (e.kind == 7) = false := by rw [hk]; rfl
  have k8 : (e.kind == 8) = false := by rw [hk]; rfl
  have k9 : (e.kind == 9) = false := by rw [hk]; rfl
  clear hk
  go_enter Tryz.func53, Tryz.ntmps53
  go_wp2_with fail
  refine (pname_any p (Hd.mk an nn cn ag ng cg ap np cp ar nr cr ae ne ce) e _ B hF.op HD.out (by have := hF.fb.le; have := hF.z; omega) HSM.out HE.out).mono ?_
  rintro en w1 ⟨h1, rfl, hO1, hb1, hk1, hr1⟩
  have hF1 := hF.call hb1 hk1
  have hzF := hF.z
  generalize hr : nameF p e = r at hfin hO1
  have HR := Lib.hid hr
  clear hr
  obtain ⟨q, n⟩ := r
  go_wp2_with (refine store_res rfl (.tmp 4) (.tmp 15) rfl #[.string q.loc, .string q.off, .slice h1.an h1.nn h1.cn, .slice h1.ag h1.ng h1.cg, .slice h1.ap h1.np h1.cp, .int .i64 q.tik.kind, .int .i64 q.tik.day, .int .i64 q.tik.min, .string q.rc, .slice h1.ar h1.nr h1.cr, .slice h1.ae h1.ne h1.ce, .bool q.queued] rfl rfl hF1.r3 rfl rfl (by simp [Value.oneCell']) ?_)
  have hF9 := hF1.put3 #[.string q.loc, .string q.off, .slice h1.an h1.nn h1.cn, .slice h1.ag h1.ng h1.cg, .slice h1.ap h1.np h1.cp, .int .i64 q.tik.kind, .int .i64 q.tik.day, .int .i64 q.tik.min, .string q.rc, .slice h1.ar h1.nr h1.cr, .slice h1.ae h1.ne h1.ce, .bool q.queued]
  refine ret_ct Tryz.results53 hF9.r3 rfl rfl rfl rfl ?_
  have hro : ∀ k, rowP h1 k → rowP (Hd.mk an nn cn ag ng cg ap np cp ar nr cr ae ne ce) k ∨ w.heap.size + 1 + 1 < k := fun k hk => by
    rcases hr1 k hk with h | h
    · exact .inl h
    · exact .inr (by omega)
  exact RetO.mk' hfin.out (OP.put3 hO1 (fun k hk => (hro k hk).elim (fun h => .inl (hF.lt k h)) (fun h => .inr h)) #[.string q.loc, .string q.off, .slice h1.an h1.nn h1.cn, .slice h1.ag h1.ng h1.cg, .slice h1.ap h1.np h1.cp, .int .i64 q.tik.kind, .int .i64 q.tik.day, .int .i64 q.tik.min, .string q.rc, .slice h1.ar h1.nr h1.cr, .slice h1.ae h1.ne h1.ce, .bool q.queued]) hF9 (fun k hk => (hro k hk).elim (fun h => .inl h) (fun h => .inr (by omega)))
set_option maxRecDepth 100000 in
set_option maxHeartbeats 4000000 in
theorem pchange_2 (p : Pnr) (h : Hd) (e : Edit) (w : World) (B : Nat) (hp : OP w B p h) (hD : Ap h) (hB : B ≤ w.heap.size) (hs : p.small 100000) (he : e.ok) (hk : e.kind = 2) :
    Calls Tryz.prog 53 #[.agg #[.string p.loc, .string p.off, .slice h.an h.nn h.cn, .slice h.ag h.ng h.cg, .slice h.ap h.np h.cp, .int .i64 p.tik.kind, .int .i64 p.tik.day, .int .i64 p.tik.min, .string p.rc, .slice h.ar h.nr h.cr, .slice h.ae h.ne h.ce, .bool p.queued], .agg #[.int .i64 e.kind, .string e.nam.last, .string e.nam.first, .string e.seg.car, .int .i64 e.seg.num, .int .i64 e.seg.day, .int .u8 e.seg.cls, .bool e.seg.live, .int .i64 e.tik.kind, .int .i64 e.tik.day, .int .i64 e.tik.min, .string e.text, .int .i64 e.n, .int .i64 e.pax, .int .i64 e.row, .int .u8 e.let_]] w (RetO w B h (changeF p e)) := by
  have HS := Lib.hid (hp.hd hs)
  have HSM := Lib.hid hs
  have HE := Lib.hid he
  have HD := Lib.hid hD
  obtain ⟨e1, e2, e3, e4, e5, e6, e7, e8, e9⟩ := he
  obtain ⟨an, nn, cn, ag, ng, cg, ap, np, cp, ar, nr, cr, ae, ne, ce⟩ := h
  have hF := FO.start hp hB #[.string p.loc, .string p.off, .slice an nn cn, .slice ag ng cg, .slice ap np cp, .int .i64 p.tik.kind, .int .i64 p.tik.day, .int .i64 p.tik.min, .string p.rc, .slice ar nr cr, .slice ae ne ce, .bool p.queued] #[.int .i64 e.kind, .string e.nam.last, .string e.nam.first, .string e.seg.car, .int .i64 e.seg.num, .int .i64 e.seg.day, .int .u8 e.seg.cls, .bool e.seg.live, .int .i64 e.tik.kind, .int .i64 e.tik.day, .int .i64 e.tik.min, .string e.text, .int .i64 e.n, .int .i64 e.pax, .int .i64 e.row, .int .u8 e.let_] zc
  unfold zc at hF
  clear hp hs hD
  dsimp only
  have hfin := Lib.hid (show changeF p e = segmentF p e by unfold changeF; rw [hk]; rfl)
  have k1 : (e.kind == 1) = false := by rw [hk]; rfl
  have k2 : (e.kind == 2) = true := by rw [hk]; rfl
  have k3 : (e.kind == 3) = false := by rw [hk]; rfl
  have k4 : (e.kind == 4) = false := by rw [hk]; rfl
  have k5 : (e.kind == 5) = false := by rw [hk]; rfl
  have k6 : (e.kind == 6) = false := by rw [hk]; rfl
  have k7 : (e.kind == 7) = false := by rw [hk]; rfl
  have k8 : (e.kind == 8) = false := by rw [hk]; rfl
  have k9 : (e.kind == 9) = false := by rw [hk]; rfl
  clear hk
  go_enter Tryz.func53, Tryz.ntmps53
  go_wp2_with fail
  refine (psegment_any p (Hd.mk an nn cn ag ng cg ap np cp ar nr cr ae ne ce) e _ B hF.op HD.out (by have := hF.fb.le; have := hF.z; omega) HSM.out HE.out).mono ?_
  rintro en w1 ⟨h1, rfl, hO1, hb1, hk1, hr1⟩
  have hF1 := hF.call hb1 hk1
  have hzF := hF.z
  generalize hr : segmentF p e = r at hfin hO1
  have HR := Lib.hid hr
  clear hr
  obtain ⟨q, n⟩ := r
  go_wp2_with (refine store_res rfl (.tmp 4) (.tmp 22) rfl #[.string q.loc, .string q.off, .slice h1.an h1.nn h1.cn, .slice h1.ag h1.ng h1.cg, .slice h1.ap h1.np h1.cp, .int .i64 q.tik.kind, .int .i64 q.tik.day, .int .i64 q.tik.min, .string q.rc, .slice h1.ar h1.nr h1.cr, .slice h1.ae h1.ne h1.ce, .bool q.queued] rfl rfl hF1.r3 rfl rfl (by simp [Value.oneCell']) ?_)
  have hF9 := hF1.put3 #[.string q.loc, .string q.off, .slice h1.an h1.nn h1.cn, .slice h1.ag h1.ng h1.cg, .slice h1.ap h1.np h1.cp, .int .i64 q.tik.kind, .int .i64 q.tik.day, .int .i64 q.tik.min, .string q.rc, .slice h1.ar h1.nr h1.cr, .slice h1.ae h1.ne h1.ce, .bool q.queued]
  refine ret_ct Tryz.results53 hF9.r3 rfl rfl rfl rfl ?_
  have hro : ∀ k, rowP h1 k → rowP (Hd.mk an nn cn ag ng cg ap np cp ar nr cr ae ne ce) k ∨ w.heap.size + 1 + 1 < k := fun k hk => by
    rcases hr1 k hk with h | h
    · exact .inl h
    · exact .inr (by omega)
  exact RetO.mk' hfin.out (OP.put3 hO1 (fun k hk => (hro k hk).elim (fun h => .inl (hF.lt k h)) (fun h => .inr h)) #[.string q.loc, .string q.off, .slice h1.an h1.nn h1.cn, .slice h1.ag h1.ng h1.cg, .slice h1.ap h1.np h1.cp, .int .i64 q.tik.kind, .int .i64 q.tik.day, .int .i64 q.tik.min, .string q.rc, .slice h1.ar h1.nr h1.cr, .slice h1.ae h1.ne h1.ce, .bool q.queued]) hF9 (fun k hk => (hro k hk).elim (fun h => .inl h) (fun h => .inr (by omega)))
set_option maxRecDepth 100000 in
set_option maxHeartbeats 4000000 in
theorem pchange_3 (p : Pnr) (h : Hd) (e : Edit) (w : World) (B : Nat) (hp : OP w B p h) (hD : Ap h) (hB : B ≤ w.heap.size) (hs : p.small 100000) (he : e.ok) (hk : e.kind = 3) :
    Calls Tryz.prog 53 #[.agg #[.string p.loc, .string p.off, .slice h.an h.nn h.cn, .slice h.ag h.ng h.cg, .slice h.ap h.np h.cp, .int .i64 p.tik.kind, .int .i64 p.tik.day, .int .i64 p.tik.min, .string p.rc, .slice h.ar h.nr h.cr, .slice h.ae h.ne h.ce, .bool p.queued], .agg #[.int .i64 e.kind, .string e.nam.last, .string e.nam.first, .string e.seg.car, .int .i64 e.seg.num, .int .i64 e.seg.day, .int .u8 e.seg.cls, .bool e.seg.live, .int .i64 e.tik.kind, .int .i64 e.tik.day, .int .i64 e.tik.min, .string e.text, .int .i64 e.n, .int .i64 e.pax, .int .i64 e.row, .int .u8 e.let_]] w (RetO w B h (changeF p e)) := by
  have HS := Lib.hid (hp.hd hs)
  have HSM := Lib.hid hs
  have HE := Lib.hid he
  have HD := Lib.hid hD
  obtain ⟨e1, e2, e3, e4, e5, e6, e7, e8, e9⟩ := he
  obtain ⟨an, nn, cn, ag, ng, cg, ap, np, cp, ar, nr, cr, ae, ne, ce⟩ := h
  have hF := FO.start hp hB #[.string p.loc, .string p.off, .slice an nn cn, .slice ag ng cg, .slice ap np cp, .int .i64 p.tik.kind, .int .i64 p.tik.day, .int .i64 p.tik.min, .string p.rc, .slice ar nr cr, .slice ae ne ce, .bool p.queued] #[.int .i64 e.kind, .string e.nam.last, .string e.nam.first, .string e.seg.car, .int .i64 e.seg.num, .int .i64 e.seg.day, .int .u8 e.seg.cls, .bool e.seg.live, .int .i64 e.tik.kind, .int .i64 e.tik.day, .int .i64 e.tik.min, .string e.text, .int .i64 e.n, .int .i64 e.pax, .int .i64 e.row, .int .u8 e.let_] zc
  unfold zc at hF
  clear hp hs hD
  dsimp only
  have hfin := Lib.hid (show changeF p e = ({ p with phones := (textF p.phones e.text 4).1 }, (textF p.phones e.text 4).2) by unfold changeF; rw [hk]; rfl)
  have k1 : (e.kind == 1) = false := by rw [hk]; rfl
  have k2 : (e.kind == 2) = false := by rw [hk]; rfl
  have k3 : (e.kind == 3) = true := by rw [hk]; rfl
  have k4 : (e.kind == 4) = false := by rw [hk]; rfl
  have k5 : (e.kind == 5) = false := by rw [hk]; rfl
  have k6 : (e.kind == 6) = false := by rw [hk]; rfl
  have k7 : (e.kind == 7) = false := by rw [hk]; rfl
  have k8 : (e.kind == 8) = false := by rw [hk]; rfl
  have k9 : (e.kind == 9) = false := by rw [hk]; rfl
  clear hk
  have hsm := HSM.out.phones
  have HLx := Lib.hid hF.op.phones.sl.len
  go_enter Tryz.func53, Tryz.ntmps53
  go_wp2_with fail
  refine (ptext1_any p.phones ap np cp e.text 4 _ B hF.op.phones (by rw [← HLx.out]; omega) (by have := hF.fb.le; have := hF.z; omega) e5).mono ?_
  rintro en w1 ⟨A9, c9, rfl, hown', hgr, hb'⟩
  have hF' := hF.fb.grown hgr (fun k hk => ⟨(hF.op.phones.bk_lt k hk).1, .inl ⟨(.inr (.inr (.inl hk))), hF.lt k (.inr (.inr (.inl hk)))⟩⟩)
  have hzF := hF.z
  have hO' := hF.op.phones' HD.out hgr hown'
  have hrow2 : ∀ k, bk A9 = some k → rowP (Hd.mk an nn cn ag ng cg ap np cp ar nr cr ae ne ce) k ∨ w.heap.size + 1 + 1 < k := fun k hk => by
    rcases hb' with hb | hb
    · rw [hb] at hk
      exact .inl (.inr (.inr (.inl hk)))
    · have := hb k hk
      exact .inr (by omega)
  have hro : ∀ k, rowP (Hd.mk an nn cn ag ng cg A9 (textF p.phones e.text 4).1.length c9 ar nr cr ae ne ce) k → rowP (Hd.mk an nn cn ag ng cg ap np cp ar nr cr ae ne ce) k ∨ w.heap.size + 1 + 1 < k := fun k hk => by
    rcases hk with hk | hk | hk | hk | hk <;> first | exact hrow2 k hk | exact .inl (.inl hk) | exact .inl (.inr (.inl hk)) | exact .inl (.inr (.inr (.inl hk))) | exact .inl (.inr (.inr (.inr (.inl hk)))) | exact .inl (.inr (.inr (.inr (.inr hk))))
  have HRL := Lib.hid hF.lt
  clear hown' hgr hb' hrow2 hF
  have g1 := hF'.c1
  have g2 := hF'.f1
  have g3 := hF'.z
  have g4 : w.heap.size < w1.heap.size := by omega
  generalize htl : (textF p.phones e.text 4) = tx at hfin hO' hro ⊢
  have HTL := Lib.hid htl
  clear htl
  obtain ⟨tl, tn⟩ := tx
  dsimp only at hO' hro
  dsimp only
  have hF7 : FB w B (rowP (Hd.mk an nn cn ag ng cg ap np cp ar nr cr ae ne ce)) #[.string p.loc, .string p.off, .slice an nn cn, .slice ag ng cg, .slice A9 tl.length c9, .int .i64 p.tik.kind, .int .i64 p.tik.day, .int .i64 p.tik.min, .string p.rc, .slice ar nr cr, .slice ae ne ce, .bool p.queued] #[.int .i64 e.kind, .string e.nam.last, .string e.nam.first, .string e.seg.car, .int .i64 e.seg.num, .int .i64 e.seg.day, .int .u8 e.seg.cls, .bool e.seg.live, .int .i64 e.tik.kind, .int .i64 e.tik.day, .int .i64 e.tik.min, .string e.text, .int .i64 e.n, .int .i64 e.pax, .int .i64 e.row, .int .u8 e.let_] zc _ := hF'.put1 4 (.slice A9 tl.length c9)
  go_wp2_with (refine store_res rfl (.tmp 4) (.tmp 101) rfl #[.string p.loc, .string p.off, .slice an nn cn, .slice ag ng cg, .slice A9 tl.length c9, .int .i64 p.tik.kind, .int .i64 p.tik.day, .int .i64 p.tik.min, .string p.rc, .slice ar nr cr, .slice ae ne ce, .bool p.queued] rfl rfl hF7.r3 rfl rfl (by simp [Value.oneCell']) ?_)
  have hF9 := hF7.put3 #[.string p.loc, .string p.off, .slice an nn cn, .slice ag ng cg, .slice A9 tl.length c9, .int .i64 p.tik.kind, .int .i64 p.tik.day, .int .i64 p.tik.min, .string p.rc, .slice ar nr cr, .slice ae ne ce, .bool p.queued]
  refine ret_ct Tryz.results53 hF9.r3 rfl rfl rfl rfl ?_
  exact RetO.mk' (q := { p with phones := tl }) (h' := (Hd.mk an nn cn ag ng cg A9 tl.length c9 ar nr cr ae ne ce)) hfin.out (hO'.fin (fun k hk => (hro k hk).elim (fun h => .inl (HRL.out k h)) (fun h => .inr h)) 4 _ #[.string p.loc, .string p.off, .slice an nn cn, .slice ag ng cg, .slice A9 tl.length c9, .int .i64 p.tik.kind, .int .i64 p.tik.day, .int .i64 p.tik.min, .string p.rc, .slice ar nr cr, .slice ae ne ce, .bool p.queued]) hF9 (fun k hk => (hro k hk).elim (fun h => .inl h) (fun h => .inr (by omega)))
set_option maxRecDepth 100000 in
set_option maxHeartbeats 4000000 in
theorem pchange_8 (p : Pnr) (h : Hd) (e : Edit) (w : World) (B : Nat) (hp : OP w B p h) (hD : Ap h) (hB : B ≤ w.heap.size) (hs : p.small 100000) (he : e.ok) (hk : e.kind = 8) :
    Calls Tryz.prog 53 #[.agg #[.string p.loc, .string p.off, .slice h.an h.nn h.cn, .slice h.ag h.ng h.cg, .slice h.ap h.np h.cp, .int .i64 p.tik.kind, .int .i64 p.tik.day, .int .i64 p.tik.min, .string p.rc, .slice h.ar h.nr h.cr, .slice h.ae h.ne h.ce, .bool p.queued], .agg #[.int .i64 e.kind, .string e.nam.last, .string e.nam.first, .string e.seg.car, .int .i64 e.seg.num, .int .i64 e.seg.day, .int .u8 e.seg.cls, .bool e.seg.live, .int .i64 e.tik.kind, .int .i64 e.tik.day, .int .i64 e.tik.min, .string e.text, .int .i64 e.n, .int .i64 e.pax, .int .i64 e.row, .int .u8 e.let_]] w (RetO w B h (changeF p e)) := by
  have HS := Lib.hid (hp.hd hs)
  have HSM := Lib.hid hs
  have HE := Lib.hid he
  have HD := Lib.hid hD
  obtain ⟨e1, e2, e3, e4, e5, e6, e7, e8, e9⟩ := he
  obtain ⟨an, nn, cn, ag, ng, cg, ap, np, cp, ar, nr, cr, ae, ne, ce⟩ := h
  have hF := FO.start hp hB #[.string p.loc, .string p.off, .slice an nn cn, .slice ag ng cg, .slice ap np cp, .int .i64 p.tik.kind, .int .i64 p.tik.day, .int .i64 p.tik.min, .string p.rc, .slice ar nr cr, .slice ae ne ce, .bool p.queued] #[.int .i64 e.kind, .string e.nam.last, .string e.nam.first, .string e.seg.car, .int .i64 e.seg.num, .int .i64 e.seg.day, .int .u8 e.seg.cls, .bool e.seg.live, .int .i64 e.tik.kind, .int .i64 e.tik.day, .int .i64 e.tik.min, .string e.text, .int .i64 e.n, .int .i64 e.pax, .int .i64 e.row, .int .u8 e.let_] zc
  unfold zc at hF
  clear hp hs hD
  dsimp only
  have hfin := Lib.hid (show changeF p e = seatF p e by unfold changeF; rw [hk]; rfl)
  have k1 : (e.kind == 1) = false := by rw [hk]; rfl
  have k2 : (e.kind == 2) = false := by rw [hk]; rfl
  have k3 : (e.kind == 3) = false := by rw [hk]; rfl
  have k4 : (e.kind == 4) = false := by rw [hk]; rfl
  have k5 : (e.kind == 5) = false := by rw [hk]; rfl
  have k6 : (e.kind == 6) = false := by rw [hk]; rfl
  have k7 : (e.kind == 7) = false := by rw [hk]; rfl
  have k8 : (e.kind == 8) = true := by rw [hk]; rfl
  have k9 : (e.kind == 9) = false := by rw [hk]; rfl
  clear hk
  go_enter Tryz.func53, Tryz.ntmps53
  go_wp2_with fail
  refine (pseat_any p (Hd.mk an nn cn ag ng cg ap np cp ar nr cr ae ne ce) e _ B hF.op (by have := hF.fb.le; have := hF.z; omega) HSM.out HE.out).mono ?_
  rintro en w1 ⟨h1, rfl, hO1, hb1, hk1, hr1⟩
  have hF1 := hF.call hb1 hk1
  have hzF := hF.z
  generalize hr : seatF p e = r at hfin hO1
  have HR := Lib.hid hr
  clear hr
  obtain ⟨q, n⟩ := r
  go_wp2_with (refine store_res rfl (.tmp 4) (.tmp 92) rfl #[.string q.loc, .string q.off, .slice h1.an h1.nn h1.cn, .slice h1.ag h1.ng h1.cg, .slice h1.ap h1.np h1.cp, .int .i64 q.tik.kind, .int .i64 q.tik.day, .int .i64 q.tik.min, .string q.rc, .slice h1.ar h1.nr h1.cr, .slice h1.ae h1.ne h1.ce, .bool q.queued] rfl rfl hF1.r3 rfl rfl (by simp [Value.oneCell']) ?_)
  have hF9 := hF1.put3 #[.string q.loc, .string q.off, .slice h1.an h1.nn h1.cn, .slice h1.ag h1.ng h1.cg, .slice h1.ap h1.np h1.cp, .int .i64 q.tik.kind, .int .i64 q.tik.day, .int .i64 q.tik.min, .string q.rc, .slice h1.ar h1.nr h1.cr, .slice h1.ae h1.ne h1.ce, .bool q.queued]
  refine ret_ct Tryz.results53 hF9.r3 rfl rfl rfl rfl ?_
  have hro : ∀ k, rowP h1 k → rowP (Hd.mk an nn cn ag ng cg ap np cp ar nr cr ae ne ce) k ∨ w.heap.size + 1 + 1 < k := fun k hk => by
    rcases hr1 k hk with h | h
    · exact .inl h
    · exact .inr (by omega)
  exact RetO.mk' hfin.out (OP.put3 hO1 (fun k hk => (hro k hk).elim (fun h => .inl (hF.lt k h)) (fun h => .inr h)) #[.string q.loc, .string q.off, .slice h1.an h1.nn h1.cn, .slice h1.ag h1.ng h1.cg, .slice h1.ap h1.np h1.cp, .int .i64 q.tik.kind, .int .i64 q.tik.day, .int .i64 q.tik.min, .string q.rc, .slice h1.ar h1.nr h1.cr, .slice h1.ae h1.ne h1.ce, .bool q.queued]) hF9 (fun k hk => (hro k hk).elim (fun h => .inl h) (fun h => .inr (by omega)))
set_option maxRecDepth 100000 in
set_option maxHeartbeats 4000000 in
theorem pchange_9 (p : Pnr) (h : Hd) (e : Edit) (w : World) (B : Nat) (hp : OP w B p h) (hD : Ap h) (hB : B ≤ w.heap.size) (hs : p.small 100000) (he : e.ok) (hk : e.kind = 9) :
    Calls Tryz.prog 53 #[.agg #[.string p.loc, .string p.off, .slice h.an h.nn h.cn, .slice h.ag h.ng h.cg, .slice h.ap h.np h.cp, .int .i64 p.tik.kind, .int .i64 p.tik.day, .int .i64 p.tik.min, .string p.rc, .slice h.ar h.nr h.cr, .slice h.ae h.ne h.ce, .bool p.queued], .agg #[.int .i64 e.kind, .string e.nam.last, .string e.nam.first, .string e.seg.car, .int .i64 e.seg.num, .int .i64 e.seg.day, .int .u8 e.seg.cls, .bool e.seg.live, .int .i64 e.tik.kind, .int .i64 e.tik.day, .int .i64 e.tik.min, .string e.text, .int .i64 e.n, .int .i64 e.pax, .int .i64 e.row, .int .u8 e.let_]] w (RetO w B h (changeF p e)) := by
  have HS := Lib.hid (hp.hd hs)
  have HSM := Lib.hid hs
  have HE := Lib.hid he
  have HD := Lib.hid hD
  obtain ⟨e1, e2, e3, e4, e5, e6, e7, e8, e9⟩ := he
  obtain ⟨an, nn, cn, ag, ng, cg, ap, np, cp, ar, nr, cr, ae, ne, ce⟩ := h
  have hF := FO.start hp hB #[.string p.loc, .string p.off, .slice an nn cn, .slice ag ng cg, .slice ap np cp, .int .i64 p.tik.kind, .int .i64 p.tik.day, .int .i64 p.tik.min, .string p.rc, .slice ar nr cr, .slice ae ne ce, .bool p.queued] #[.int .i64 e.kind, .string e.nam.last, .string e.nam.first, .string e.seg.car, .int .i64 e.seg.num, .int .i64 e.seg.day, .int .u8 e.seg.cls, .bool e.seg.live, .int .i64 e.tik.kind, .int .i64 e.tik.day, .int .i64 e.tik.min, .string e.text, .int .i64 e.n, .int .i64 e.pax, .int .i64 e.row, .int .u8 e.let_] zc
  unfold zc at hF
  clear hp hs hD
  dsimp only
  have hfin := Lib.hid (show changeF p e = freeF p e by unfold changeF; rw [hk]; rfl)
  have k1 : (e.kind == 1) = false := by rw [hk]; rfl
  have k2 : (e.kind == 2) = false := by rw [hk]; rfl
  have k3 : (e.kind == 3) = false := by rw [hk]; rfl
  have k4 : (e.kind == 4) = false := by rw [hk]; rfl
  have k5 : (e.kind == 5) = false := by rw [hk]; rfl
  have k6 : (e.kind == 6) = false := by rw [hk]; rfl
  have k7 : (e.kind == 7) = false := by rw [hk]; rfl
  have k8 : (e.kind == 8) = false := by rw [hk]; rfl
  have k9 : (e.kind == 9) = true := by rw [hk]; rfl
  clear hk
  go_enter Tryz.func53, Tryz.ntmps53
  go_wp2_with fail
  refine (pfree_any p (Hd.mk an nn cn ag ng cg ap np cp ar nr cr ae ne ce) e _ B hF.op (by have := hF.fb.le; have := hF.z; omega) HSM.out HE.out).mono ?_
  rintro en w1 ⟨h1, rfl, hO1, hb1, hk1, hr1⟩
  have hF1 := hF.call hb1 hk1
  have hzF := hF.z
  generalize hr : freeF p e = r at hfin hO1
  have HR := Lib.hid hr
  clear hr
  obtain ⟨q, n⟩ := r
  go_wp2_with (refine store_res rfl (.tmp 4) (.tmp 99) rfl #[.string q.loc, .string q.off, .slice h1.an h1.nn h1.cn, .slice h1.ag h1.ng h1.cg, .slice h1.ap h1.np h1.cp, .int .i64 q.tik.kind, .int .i64 q.tik.day, .int .i64 q.tik.min, .string q.rc, .slice h1.ar h1.nr h1.cr, .slice h1.ae h1.ne h1.ce, .bool q.queued] rfl rfl hF1.r3 rfl rfl (by simp [Value.oneCell']) ?_)
  have hF9 := hF1.put3 #[.string q.loc, .string q.off, .slice h1.an h1.nn h1.cn, .slice h1.ag h1.ng h1.cg, .slice h1.ap h1.np h1.cp, .int .i64 q.tik.kind, .int .i64 q.tik.day, .int .i64 q.tik.min, .string q.rc, .slice h1.ar h1.nr h1.cr, .slice h1.ae h1.ne h1.ce, .bool q.queued]
  refine ret_ct Tryz.results53 hF9.r3 rfl rfl rfl rfl ?_
  have hro : ∀ k, rowP h1 k → rowP (Hd.mk an nn cn ag ng cg ap np cp ar nr cr ae ne ce) k ∨ w.heap.size + 1 + 1 < k := fun k hk => by
    rcases hr1 k hk with h | h
    · exact .inl h
    · exact .inr (by omega)
  exact RetO.mk' hfin.out (OP.put3 hO1 (fun k hk => (hro k hk).elim (fun h => .inl (hF.lt k h)) (fun h => .inr h)) #[.string q.loc, .string q.off, .slice h1.an h1.nn h1.cn, .slice h1.ag h1.ng h1.cg, .slice h1.ap h1.np h1.cp, .int .i64 q.tik.kind, .int .i64 q.tik.day, .int .i64 q.tik.min, .string q.rc, .slice h1.ar h1.nr h1.cr, .slice h1.ae h1.ne h1.ce, .bool q.queued]) hF9 (fun k hk => (hro k hk).elim (fun h => .inl h) (fun h => .inr (by omega)))
end Go.Proofs.YtpgeoahlhdifoaaGreatDoor
namespace Go.Proofs.YtpgeoahlhdifoaaGreatDoor
set_option linter.unusedVariables false
open Go Go.RowKit
set_option maxRecDepth 100000 in
set_option maxHeartbeats 4000000 in
theorem pchange_4 (p : Pnr) (h : Hd) (e : Edit) (w : World) (B : Nat) (hp : OP w B p h) (hD : Ap h) (hB : B ≤ w.heap.size) (hs : p.small 100000) (he : e.ok) (hk : e.kind = 4) :
    Calls Tryz.prog 53 #[.agg #[.string p.loc, .string p.off, .slice h.an h.nn h.cn, .slice h.ag h.ng h.cg, .slice h.ap h.np h.cp, .int .i64 p.tik.kind, .int .i64 p.tik.day, .int .i64 p.tik.min, .string p.rc, .slice h.ar h.nr h.cr, .slice h.ae h.ne h.ce, .bool p.queued], .agg #[.int .i64 e.kind, .string e.nam.last, .string e.nam.first, .string e.seg.car, .int .i64 e.seg.num, .int .i64 e.seg.day, .int .u8 e.seg.cls, .bool e.seg.live, .int .i64 e.tik.kind, .int .i64 e.tik.day, .int .i64 e.tik.min, .string e.text, .int .i64 e.n, .int .i64 e.pax, .int .i64 e.row, .int .u8 e.let_]] w (RetO w B h (changeF p e)) := by
  have HS := Lib.hid (hp.hd hs)
  have HSM := Lib.hid hs
  have HE := Lib.hid he
  have HD := Lib.hid hD
  obtain ⟨e1, e2, e3, e4, e5, e6, e7, e8, e9⟩ := he
  obtain ⟨an, nn, cn, ag, ng, cg, ap, np, cp, ar, nr, cr, ae, ne, ce⟩ := h
  have hF := FO.start hp hB #[.string p.loc, .string p.off, .slice an nn cn, .slice ag ng cg, .slice ap np cp, .int .i64 p.tik.kind, .int .i64 p.tik.day, .int .i64 p.tik.min, .string p.rc, .slice ar nr cr, .slice ae ne ce, .bool p.queued] #[.int .i64 e.kind, .string e.nam.last, .string e.nam.first, .string e.seg.car, .int .i64 e.seg.num, .int .i64 e.seg.day, .int .u8 e.seg.cls, .bool e.seg.live, .int .i64 e.tik.kind, .int .i64 e.tik.day, .int .i64 e.tik.min, .string e.text, .int .i64 e.n, .int .i64 e.pax, .int .i64 e.row, .int .u8 e.let_] zc
  unfold zc at hF
  clear hp hs hD
  dsimp only
  have HX := Lib.hid (show changeF p e = (if tikB e.tik = false then (p, 4) else ({ p with tik := e.tik, queued := false }, 0)) by unfold changeF; rw [hk]; rfl)
  have k1 : (e.kind == 1) = false := by rw [hk]; rfl
  have k2 : (e.kind == 2) = false := by rw [hk]; rfl
  have k3 : (e.kind == 3) = false := by rw [hk]; rfl
  have k4 : (e.kind == 4) = true := by rw [hk]; rfl
  have k5 : (e.kind == 5) = false := by rw [hk]; rfl
  have k6 : (e.kind == 6) = false := by rw [hk]; rfl
  have k7 : (e.kind == 7) = false := by rw [hk]; rfl
  have k8 : (e.kind == 8) = false := by rw [hk]; rfl
  have k9 : (e.kind == 9) = false := by rw [hk]; rfl
  clear hk
  have HT := Lib.hid e4
  rcases Bool.eq_false_or_eq_true (tikB e.tik) with q1 | q1
  case inr =>
    have hfin := Lib.hid (HX.out.trans (if_pos q1))
    go_enter Tryz.func53, Tryz.ntmps53
    go_wp2_with fail
    refine (pticket_any e.tik _).mono ?_
    rintro en w1 ⟨rfl, hb1⟩
    rw [q1]
    have hF1 := hF.step hb1
    clear hb1
    have v1 := hF1.c1
    have v2 := hF1.c2
    have v6 := hF1.f1
    go_wp2_with (refine store_res rfl (.tmp 4) (.tmp 41) rfl #[.string p.loc, .string p.off, .slice an nn cn, .slice ag ng cg, .slice ap np cp, .int .i64 p.tik.kind, .int .i64 p.tik.day, .int .i64 p.tik.min, .string p.rc, .slice ar nr cr, .slice ae ne ce, .bool p.queued] rfl rfl hF1.r3 rfl rfl (by simp [Value.oneCell']) ?_)
    have hF9 := hF1.put3 #[.string p.loc, .string p.off, .slice an nn cn, .slice ag ng cg, .slice ap np cp, .int .i64 p.tik.kind, .int .i64 p.tik.day, .int .i64 p.tik.min, .string p.rc, .slice ar nr cr, .slice ae ne ce, .bool p.queued]
    refine ret_ct Tryz.results53 hF9.r3 rfl rfl rfl rfl ?_
    exact RetO.mk' (h' := (Hd.mk an nn cn ag ng cg ap np cp ar nr cr ae ne ce)) hfin.out hF9.op hF9.fb (fun k hk => .inl hk)
  have hfin := Lib.hid (HX.out.trans (if_neg (by rw [q1]; simp)))
  go_enter Tryz.func53, Tryz.ntmps53
  go_wp2_with fail
  refine (pticket_any e.tik _).mono ?_
  rintro en w1 ⟨rfl, hb1⟩
  rw [q1]
  have hF1 := hF.step hb1
  clear hb1
  have v1 := hF1.c1
  have v2 := hF1.c2
  have v6 := hF1.f1
  have hz1 := hF1.z
  have hz2 : w.heap.size < w1.heap.size := by omega
  have hF7 : FO w B p (Hd.mk an nn cn ag ng cg ap np cp ar nr cr ae ne ce) #[.string p.loc, .string p.off, .slice an nn cn, .slice ag ng cg, .slice ap np cp, .int .i64 e.tik.kind, .int .i64 e.tik.day, .int .i64 e.tik.min, .string p.rc, .slice ar nr cr, .slice ae ne ce, .bool false] #[.int .i64 e.kind, .string e.nam.last, .string e.nam.first, .string e.seg.car, .int .i64 e.seg.num, .int .i64 e.seg.day, .int .u8 e.seg.cls, .bool e.seg.live, .int .i64 e.tik.kind, .int .i64 e.tik.day, .int .i64 e.tik.min, .string e.text, .int .i64 e.n, .int .i64 e.pax, .int .i64 e.row, .int .u8 e.let_] zc _ := (((hF1.put1 5 (.int .i64 e.tik.kind)).put1 6 (.int .i64 e.tik.day)).put1 7 (.int .i64 e.tik.min)).put1 11 (.bool false)
  go_wp2_with (refine store_res rfl (.tmp 4) (.tmp 101) rfl #[.string p.loc, .string p.off, .slice an nn cn, .slice ag ng cg, .slice ap np cp, .int .i64 e.tik.kind, .int .i64 e.tik.day, .int .i64 e.tik.min, .string p.rc, .slice ar nr cr, .slice ae ne ce, .bool false] rfl rfl hF7.r3 rfl rfl (by simp [Value.oneCell']) ?_)
  have hF9 := hF7.put3 #[.string p.loc, .string p.off, .slice an nn cn, .slice ag ng cg, .slice ap np cp, .int .i64 e.tik.kind, .int .i64 e.tik.day, .int .i64 e.tik.min, .string p.rc, .slice ar nr cr, .slice ae ne ce, .bool false]
  refine ret_ct Tryz.results53 hF9.r3 rfl rfl rfl rfl ?_
  have hO := hF9.op
  exact RetO.mk' (q := { p with tik := e.tik, queued := false }) (h' := (Hd.mk an nn cn ag ng cg ap np cp ar nr cr ae ne ce)) hfin.out ⟨hO.loc, hO.off, hO.rc, HT.out, hO.names, hO.segs, hO.phones, hO.remarks, hO.seats⟩ hF9.fb (fun k hk => .inl hk)
set_option maxRecDepth 100000 in
set_option maxHeartbeats 4000000 in
theorem pchange_5 (p : Pnr) (h : Hd) (e : Edit) (w : World) (B : Nat) (hp : OP w B p h) (hD : Ap h) (hB : B ≤ w.heap.size) (hs : p.small 100000) (he : e.ok) (hk : e.kind = 5) :
    Calls Tryz.prog 53 #[.agg #[.string p.loc, .string p.off, .slice h.an h.nn h.cn, .slice h.ag h.ng h.cg, .slice h.ap h.np h.cp, .int .i64 p.tik.kind, .int .i64 p.tik.day, .int .i64 p.tik.min, .string p.rc, .slice h.ar h.nr h.cr, .slice h.ae h.ne h.ce, .bool p.queued], .agg #[.int .i64 e.kind, .string e.nam.last, .string e.nam.first, .string e.seg.car, .int .i64 e.seg.num, .int .i64 e.seg.day, .int .u8 e.seg.cls, .bool e.seg.live, .int .i64 e.tik.kind, .int .i64 e.tik.day, .int .i64 e.tik.min, .string e.text, .int .i64 e.n, .int .i64 e.pax, .int .i64 e.row, .int .u8 e.let_]] w (RetO w B h (changeF p e)) := by
  have HS := Lib.hid (hp.hd hs)
  have HSM := Lib.hid hs
  have HE := Lib.hid he
  have HD := Lib.hid hD
  obtain ⟨e1, e2, e3, e4, e5, e6, e7, e8, e9⟩ := he
  obtain ⟨an, nn, cn, ag, ng, cg, ap, np, cp, ar, nr, cr, ae, ne, ce⟩ := h
  have hF := FO.start hp hB #[.string p.loc, .string p.off, .slice an nn cn, .slice ag ng cg, .slice ap np cp, .int .i64 p.tik.kind, .int .i64 p.tik.day, .int .i64 p.tik.min, .string p.rc, .slice ar nr cr, .slice ae ne ce, .bool p.queued] #[.int .i64 e.kind, .string e.nam.last, .string e.nam.first, .string e.seg.car, .int .i64 e.seg.num, .int .i64 e.seg.day, .int .u8 e.seg.cls, .bool e.seg.live, .int .i64 e.tik.kind, .int .i64 e.tik.day, .int .i64 e.tik.min, .string e.text, .int .i64 e.n, .int .i64 e.pax, .int .i64 e.row, .int .u8 e.let_] zc
  unfold zc at hF
  clear hp hs hD
  dsimp only
  have HX := Lib.hid (show changeF p e = (if freeB e.text = false then (p, 4) else ({ p with rc := e.text }, 0)) by unfold changeF; rw [hk]; rfl)
  have k1 : (e.kind == 1) = false := by rw [hk]; rfl
  have k2 : (e.kind == 2) = false := by rw [hk]; rfl
  have k3 : (e.kind == 3) = false := by rw [hk]; rfl
  have k4 : (e.kind == 4) = false := by rw [hk]; rfl
  have k5 : (e.kind == 5) = true := by rw [hk]; rfl
  have k6 : (e.kind == 6) = false := by rw [hk]; rfl
  have k7 : (e.kind == 7) = false := by rw [hk]; rfl
  have k8 : (e.kind == 8) = false := by rw [hk]; rfl
  have k9 : (e.kind == 9) = false := by rw [hk]; rfl
  clear hk
  rcases Bool.eq_false_or_eq_true (freeB e.text) with q1 | q1
  case inr =>
    have hfin := Lib.hid (HX.out.trans (if_pos q1))
    go_enter Tryz.func53, Tryz.ntmps53
    go_wp2_with fail
    refine (free_any e.text _ e5).mono ?_
    rintro en w1 ⟨rfl, hb1⟩
    rw [q1]
    have hF1 := hF.step hb1
    clear hb1
    have v1 := hF1.c1
    have v2 := hF1.c2
    have v6 := hF1.f1
    go_wp2_with (refine store_res rfl (.tmp 4) (.tmp 52) rfl #[.string p.loc, .string p.off, .slice an nn cn, .slice ag ng cg, .slice ap np cp, .int .i64 p.tik.kind, .int .i64 p.tik.day, .int .i64 p.tik.min, .string p.rc, .slice ar nr cr, .slice ae ne ce, .bool p.queued] rfl rfl hF1.r3 rfl rfl (by simp [Value.oneCell']) ?_)
    have hF9 := hF1.put3 #[.string p.loc, .string p.off, .slice an nn cn, .slice ag ng cg, .slice ap np cp, .int .i64 p.tik.kind, .int .i64 p.tik.day, .int .i64 p.tik.min, .string p.rc, .slice ar nr cr, .slice ae ne ce, .bool p.queued]
    refine ret_ct Tryz.results53 hF9.r3 rfl rfl rfl rfl ?_
    exact RetO.mk' (h' := (Hd.mk an nn cn ag ng cg ap np cp ar nr cr ae ne ce)) hfin.out hF9.op hF9.fb (fun k hk => .inl hk)
  have hfin := Lib.hid (HX.out.trans (if_neg (by rw [q1]; simp)))
  go_enter Tryz.func53, Tryz.ntmps53
  go_wp2_with fail
  refine (free_any e.text _ e5).mono ?_
  rintro en w1 ⟨rfl, hb1⟩
  rw [q1]
  have hF1 := hF.step hb1
  clear hb1
  have v1 := hF1.c1
  have v2 := hF1.c2
  have v6 := hF1.f1
  have hz1 := hF1.z
  have hz2 : w.heap.size < w1.heap.size := by omega
  have hrc := Lib.hid e5
  have hF7 : FO w B p (Hd.mk an nn cn ag ng cg ap np cp ar nr cr ae ne ce) #[.string p.loc, .string p.off, .slice an nn cn, .slice ag ng cg, .slice ap np cp, .int .i64 p.tik.kind, .int .i64 p.tik.day, .int .i64 p.tik.min, .string e.text, .slice ar nr cr, .slice ae ne ce, .bool p.queued] #[.int .i64 e.kind, .string e.nam.last, .string e.nam.first, .string e.seg.car, .int .i64 e.seg.num, .int .i64 e.seg.day, .int .u8 e.seg.cls, .bool e.seg.live, .int .i64 e.tik.kind, .int .i64 e.tik.day, .int .i64 e.tik.min, .string e.text, .int .i64 e.n, .int .i64 e.pax, .int .i64 e.row, .int .u8 e.let_] zc _ := hF1.put1 8 (.string e.text)
  go_wp2_with (refine store_res rfl (.tmp 4) (.tmp 101) rfl #[.string p.loc, .string p.off, .slice an nn cn, .slice ag ng cg, .slice ap np cp, .int .i64 p.tik.kind, .int .i64 p.tik.day, .int .i64 p.tik.min, .string e.text, .slice ar nr cr, .slice ae ne ce, .bool p.queued] rfl rfl hF7.r3 rfl rfl (by simp [Value.oneCell']) ?_)
  have hF9 := hF7.put3 #[.string p.loc, .string p.off, .slice an nn cn, .slice ag ng cg, .slice ap np cp, .int .i64 p.tik.kind, .int .i64 p.tik.day, .int .i64 p.tik.min, .string e.text, .slice ar nr cr, .slice ae ne ce, .bool p.queued]
  refine ret_ct Tryz.results53 hF9.r3 rfl rfl rfl rfl ?_
  have hO := hF9.op
  exact RetO.mk' (q := { p with rc := e.text }) (h' := (Hd.mk an nn cn ag ng cg ap np cp ar nr cr ae ne ce)) hfin.out ⟨hO.loc, hO.off, hrc.out, hO.tik, hO.names, hO.segs, hO.phones, hO.remarks, hO.seats⟩ hF9.fb (fun k hk => .inl hk)
set_option maxRecDepth 100000 in
set_option maxHeartbeats 4000000 in
theorem pchange_0 (p : Pnr) (h : Hd) (e : Edit) (w : World) (B : Nat) (hp : OP w B p h) (hD : Ap h) (hB : B ≤ w.heap.size) (hs : p.small 100000) (he : e.ok) (hk : ∀ c : Int, 1 ≤ c → c ≤ 9 → (e.kind == c) = false) :
    Calls Tryz.prog 53 #[.agg #[.string p.loc, .string p.off, .slice h.an h.nn h.cn, .slice h.ag h.ng h.cg, .slice h.ap h.np h.cp, .int .i64 p.tik.kind, .int .i64 p.tik.day, .int .i64 p.tik.min, .string p.rc, .slice h.ar h.nr h.cr, .slice h.ae h.ne h.ce, .bool p.queued], .agg #[.int .i64 e.kind, .string e.nam.last, .string e.nam.first, .string e.seg.car, .int .i64 e.seg.num, .int .i64 e.seg.day, .int .u8 e.seg.cls, .bool e.seg.live, .int .i64 e.tik.kind, .int .i64 e.tik.day, .int .i64 e.tik.min, .string e.text, .int .i64 e.n, .int .i64 e.pax, .int .i64 e.row, .int .u8 e.let_]] w (RetO w B h (changeF p e)) := by
  have HS := Lib.hid (hp.hd hs)
  have HSM := Lib.hid hs
  have HE := Lib.hid he
  have HD := Lib.hid hD
  obtain ⟨e1, e2, e3, e4, e5, e6, e7, e8, e9⟩ := he
  obtain ⟨an, nn, cn, ag, ng, cg, ap, np, cp, ar, nr, cr, ae, ne, ce⟩ := h
  have hF := FO.start hp hB #[.string p.loc, .string p.off, .slice an nn cn, .slice ag ng cg, .slice ap np cp, .int .i64 p.tik.kind, .int .i64 p.tik.day, .int .i64 p.tik.min, .string p.rc, .slice ar nr cr, .slice ae ne ce, .bool p.queued] #[.int .i64 e.kind, .string e.nam.last, .string e.nam.first, .string e.seg.car, .int .i64 e.seg.num, .int .i64 e.seg.day, .int .u8 e.seg.cls, .bool e.seg.live, .int .i64 e.tik.kind, .int .i64 e.tik.day, .int .i64 e.tik.min, .string e.text, .int .i64 e.n, .int .i64 e.pax, .int .i64 e.row, .int .u8 e.let_] zc
  unfold zc at hF
  clear hp hs hD
  dsimp only
  have hfin := Lib.hid (show changeF p e = (p, 4) by
    unfold changeF
    have g := fun (c : Int) (h1 : 1 ≤ c) (h2 : c ≤ 9) => beq_eq_false_iff_ne.1 (hk c h1 h2)
    rw [if_neg (g 1 (by omega) (by omega)), if_neg (g 2 (by omega) (by omega)), if_neg (g 3 (by omega) (by omega)), if_neg (g 4 (by omega) (by omega)), if_neg (g 5 (by omega) (by omega)), if_neg (g 6 (by omega) (by omega)), if_neg (g 7 (by omega) (by omega)), if_neg (g 8 (by omega) (by omega)), if_neg (g 9 (by omega) (by omega))])
  have k1 := hk 1 (by omega) (by omega)
  have k2 := hk 2 (by omega) (by omega)
  have k3 := hk 3 (by omega) (by omega)
  have k4 := hk 4 (by omega) (by omega)
  have k5 := hk 5 (by omega) (by omega)
  have k6 := hk 6 (by omega) (by omega)
  have k7 := hk 7 (by omega) (by omega)
  have k8 := hk 8 (by omega) (by omega)
  have k9 := hk 9 (by omega) (by omega)
  clear hk
  go_enter Tryz.func53, Tryz.ntmps53
  go_upto_region 3 with fail
  refine wp_world (FO w B p (Hd.mk an nn cn ag ng cg ap np cp ar nr cr ae ne ce) #[.string p.loc, .string p.off, .slice an nn cn, .slice ag ng cg, .slice ap np cp, .int .i64 p.tik.kind, .int .i64 p.tik.day, .int .i64 p.tik.min, .string p.rc, .slice ar nr cr, .slice ae ne ce, .bool p.queued] #[.int .i64 e.kind, .string e.nam.last, .string e.nam.first, .string e.seg.car, .int .i64 e.seg.num, .int .i64 e.seg.day, .int .u8 e.seg.cls, .bool e.seg.live, .int .i64 e.tik.kind, .int .i64 e.tik.day, .int .i64 e.tik.min, .string e.text, .int .i64 e.n, .int .i64 e.pax, .int .i64 e.row, .int .u8 e.let_] #[.string ⟨#[]⟩, .string ⟨#[]⟩, .slice none 0 0, .slice none 0 0, .slice none 0 0, .int .i64 0, .int .i64 0, .int .i64 0, .string ⟨#[]⟩, .slice none 0 0, .slice none 0 0, .bool false]) hF ?_
  intro W0 hF0
  have x1 := hF0.c1
  go_wp2_with (refine store_res rfl (.tmp 4) (.tmp 9) rfl #[.string p.loc, .string p.off, .slice an nn cn, .slice ag ng cg, .slice ap np cp, .int .i64 p.tik.kind, .int .i64 p.tik.day, .int .i64 p.tik.min, .string p.rc, .slice ar nr cr, .slice ae ne ce, .bool p.queued] rfl rfl hF0.r3 rfl rfl (by simp [Value.oneCell']) ?_)
  have hF9 := hF0.put3 #[.string p.loc, .string p.off, .slice an nn cn, .slice ag ng cg, .slice ap np cp, .int .i64 p.tik.kind, .int .i64 p.tik.day, .int .i64 p.tik.min, .string p.rc, .slice ar nr cr, .slice ae ne ce, .bool p.queued]
  refine ret_ct Tryz.results53 hF9.r3 rfl rfl rfl rfl ?_
  exact RetO.mk' (h' := (Hd.mk an nn cn ag ng cg ap np cp ar nr cr ae ne ce)) hfin.out hF9.op hF9.fb (fun k hk => .inl hk)
set_option maxRecDepth 100000 in
set_option maxHeartbeats 4000000 in
theorem pchange_6 (p : Pnr) (h : Hd) (e : Edit) (w : World) (B : Nat) (hp : OP w B p h) (hD : Ap h) (hB : B ≤ w.heap.size) (hs : p.small 100000) (he : e.ok) (hk : e.kind = 6) :
    Calls Tryz.prog 53 #[.agg #[.string p.loc, .string p.off, .slice h.an h.nn h.cn, .slice h.ag h.ng h.cg, .slice h.ap h.np h.cp, .int .i64 p.tik.kind, .int .i64 p.tik.day, .int .i64 p.tik.min, .string p.rc, .slice h.ar h.nr h.cr, .slice h.ae h.ne h.ce, .bool p.queued], .agg #[.int .i64 e.kind, .string e.nam.last, .string e.nam.first, .string e.seg.car, .int .i64 e.seg.num, .int .i64 e.seg.day, .int .u8 e.seg.cls, .bool e.seg.live, .int .i64 e.tik.kind, .int .i64 e.tik.day, .int .i64 e.tik.min, .string e.text, .int .i64 e.n, .int .i64 e.pax, .int .i64 e.row, .int .u8 e.let_]] w (RetO w B h (changeF p e)) := by
  have HS := Lib.hid (hp.hd hs)
  have HSM := Lib.hid hs
  have HE := Lib.hid he
  have HD := Lib.hid hD
  obtain ⟨e1, e2, e3, e4, e5, e6, e7, e8, e9⟩ := he
  obtain ⟨an, nn, cn, ag, ng, cg, ap, np, cp, ar, nr, cr, ae, ne, ce⟩ := h
  have hF := FO.start hp hB #[.string p.loc, .string p.off, .slice an nn cn, .slice ag ng cg, .slice ap np cp, .int .i64 p.tik.kind, .int .i64 p.tik.day, .int .i64 p.tik.min, .string p.rc, .slice ar nr cr, .slice ae ne ce, .bool p.queued] #[.int .i64 e.kind, .string e.nam.last, .string e.nam.first, .string e.seg.car, .int .i64 e.seg.num, .int .i64 e.seg.day, .int .u8 e.seg.cls, .bool e.seg.live, .int .i64 e.tik.kind, .int .i64 e.tik.day, .int .i64 e.tik.min, .string e.text, .int .i64 e.n, .int .i64 e.pax, .int .i64 e.row, .int .u8 e.let_] zc
  unfold zc at hF
  clear hp hs hD
  dsimp only
  have hfin := Lib.hid (show changeF p e = ({ p with remarks := (textF p.remarks e.text 10).1 }, (textF p.remarks e.text 10).2) by unfold changeF; rw [hk]; rfl)
  have k1 : (e.kind == 1) = false := by rw [hk]; rfl
  have k2 : (e.kind == 2) = false := by rw [hk]; rfl
  have k3 : (e.kind == 3) = false := by rw [hk]; rfl
  have k4 : (e.kind == 4) = false := by rw [hk]; rfl
  have k5 : (e.kind == 5) = false := by rw [hk]; rfl
  have k6 : (e.kind == 6) = true := by rw [hk]; rfl
  have k7 : (e.kind == 7) = false := by rw [hk]; rfl
  have k8 : (e.kind == 8) = false := by rw [hk]; rfl
  have k9 : (e.kind == 9) = false := by rw [hk]; rfl
  clear hk
  have hsm := HSM.out.remarks
  have HLx := Lib.hid hF.op.remarks.sl.len
  go_enter Tryz.func53, Tryz.ntmps53
  go_wp2_with fail
  refine (ptext1_any p.remarks ar nr cr e.text 10 _ B hF.op.remarks (by rw [← HLx.out]; omega) (by have := hF.fb.le; have := hF.z; omega) e5).mono ?_
  rintro en w1 ⟨A9, c9, rfl, hown', hgr, hb'⟩
  have hF' := hF.fb.grown hgr (fun k hk => ⟨(hF.op.remarks.bk_lt k hk).1, .inl ⟨(.inr (.inr (.inr (.inl hk)))), hF.lt k (.inr (.inr (.inr (.inl hk))))⟩⟩)
  have hzF := hF.z
  have hO' := hF.op.remarks' HD.out hgr hown'
  have hrow2 : ∀ k, bk A9 = some k → rowP (Hd.mk an nn cn ag ng cg ap np cp ar nr cr ae ne ce) k ∨ w.heap.size + 1 + 1 < k := fun k hk => by
    rcases hb' with hb | hb
    · rw [hb] at hk
      exact .inl (.inr (.inr (.inr (.inl hk))))
    · have := hb k hk
      exact .inr (by omega)
  have hro : ∀ k, rowP (Hd.mk an nn cn ag ng cg ap np cp A9 (textF p.remarks e.text 10).1.length c9 ae ne ce) k → rowP (Hd.mk an nn cn ag ng cg ap np cp ar nr cr ae ne ce) k ∨ w.heap.size + 1 + 1 < k := fun k hk => by
    rcases hk with hk | hk | hk | hk | hk <;> first | exact hrow2 k hk | exact .inl (.inl hk) | exact .inl (.inr (.inl hk)) | exact .inl (.inr (.inr (.inl hk))) | exact .inl (.inr (.inr (.inr (.inl hk)))) | exact .inl (.inr (.inr (.inr (.inr hk))))
  have HRL := Lib.hid hF.lt
  clear hown' hgr hb' hrow2 hF
  have g1 := hF'.c1
  have g2 := hF'.f1
  have g3 := hF'.z
  have g4 : w.heap.size < w1.heap.size := by omega
  generalize htl : (textF p.remarks e.text 10) = tx at hfin hO' hro ⊢
  have HTL := Lib.hid htl
  clear htl
  obtain ⟨tl, tn⟩ := tx
  dsimp only at hO' hro
  dsimp only
  have hF7 : FB w B (rowP (Hd.mk an nn cn ag ng cg ap np cp ar nr cr ae ne ce)) #[.string p.loc, .string p.off, .slice an nn cn, .slice ag ng cg, .slice ap np cp, .int .i64 p.tik.kind, .int .i64 p.tik.day, .int .i64 p.tik.min, .string p.rc, .slice A9 tl.length c9, .slice ae ne ce, .bool p.queued] #[.int .i64 e.kind, .string e.nam.last, .string e.nam.first, .string e.seg.car, .int .i64 e.seg.num, .int .i64 e.seg.day, .int .u8 e.seg.cls, .bool e.seg.live, .int .i64 e.tik.kind, .int .i64 e.tik.day, .int .i64 e.tik.min, .string e.text, .int .i64 e.n, .int .i64 e.pax, .int .i64 e.row, .int .u8 e.let_] zc _ := hF'.put1 9 (.slice A9 tl.length c9)
  go_wp2_with (refine store_res rfl (.tmp 4) (.tmp 101) rfl #[.string p.loc, .string p.off, .slice an nn cn, .slice ag ng cg, .slice ap np cp, .int .i64 p.tik.kind, .int .i64 p.tik.day, .int .i64 p.tik.min, .string p.rc, .slice A9 tl.length c9, .slice ae ne ce, .bool p.queued] rfl rfl hF7.r3 rfl rfl (by simp [Value.oneCell']) ?_)
  have hF9 := hF7.put3 #[.string p.loc, .string p.off, .slice an nn cn, .slice ag ng cg, .slice ap np cp, .int .i64 p.tik.kind, .int .i64 p.tik.day, .int .i64 p.tik.min, .string p.rc, .slice A9 tl.length c9, .slice ae ne ce, .bool p.queued]
  refine ret_ct Tryz.results53 hF9.r3 rfl rfl rfl rfl ?_
  exact RetO.mk' (q := { p with remarks := tl }) (h' := (Hd.mk an nn cn ag ng cg ap np cp A9 tl.length c9 ae ne ce)) hfin.out (hO'.fin (fun k hk => (hro k hk).elim (fun h => .inl (HRL.out k h)) (fun h => .inr h)) 9 _ #[.string p.loc, .string p.off, .slice an nn cn, .slice ag ng cg, .slice ap np cp, .int .i64 p.tik.kind, .int .i64 p.tik.day, .int .i64 p.tik.min, .string p.rc, .slice A9 tl.length c9, .slice ae ne ce, .bool p.queued]) hF9 (fun k hk => (hro k hk).elim (fun h => .inl h) (fun h => .inr (by omega)))
end Go.Proofs.YtpgeoahlhdifoaaGreatDoor
namespace Go.Proofs.YtpgeoahlhdifoaaGreatDoor
set_option linter.unusedVariables false
open Go Go.RowKit
set_option maxRecDepth 100000 in
set_option maxHeartbeats 4000000 in
theorem pchange_7 (p : Pnr) (h : Hd) (e : Edit) (w : World) (B : Nat) (hp : OP w B p h) (hD : Ap h) (hB : B ≤ w.heap.size) (hs : p.small 100000) (he : e.ok) (hk : e.kind = 7) :
    Calls Tryz.prog 53 #[.agg #[.string p.loc, .string p.off, .slice h.an h.nn h.cn, .slice h.ag h.ng h.cg, .slice h.ap h.np h.cp, .int .i64 p.tik.kind, .int .i64 p.tik.day, .int .i64 p.tik.min, .string p.rc, .slice h.ar h.nr h.cr, .slice h.ae h.ne h.ce, .bool p.queued], .agg #[.int .i64 e.kind, .string e.nam.last, .string e.nam.first, .string e.seg.car, .int .i64 e.seg.num, .int .i64 e.seg.day, .int .u8 e.seg.cls, .bool e.seg.live, .int .i64 e.tik.kind, .int .i64 e.tik.day, .int .i64 e.tik.min, .string e.text, .int .i64 e.n, .int .i64 e.pax, .int .i64 e.row, .int .u8 e.let_]] w (RetO w B h (changeF p e)) := by
  have HS := Lib.hid (hp.hd hs)
  have HSM := Lib.hid hs
  have HE := Lib.hid he
  have HD := Lib.hid hD
  obtain ⟨e1, e2, e3, e4, e5, e6, e7, e8, e9⟩ := he
  obtain ⟨an, nn, cn, ag, ng, cg, ap, np, cp, ar, nr, cr, ae, ne, ce⟩ := h
  have HSeg := Lib.hid hp.segs
  have HLg := Lib.hid hp.at.segs.len
  have hF := FO.start hp hB #[.string p.loc, .string p.off, .slice an nn cn, .slice ag ng cg, .slice ap np cp, .int .i64 p.tik.kind, .int .i64 p.tik.day, .int .i64 p.tik.min, .string p.rc, .slice ar nr cr, .slice ae ne ce, .bool p.queued] #[.int .i64 e.kind, .string e.nam.last, .string e.nam.first, .string e.seg.car, .int .i64 e.seg.num, .int .i64 e.seg.day, .int .u8 e.seg.cls, .bool e.seg.live, .int .i64 e.tik.kind, .int .i64 e.tik.day, .int .i64 e.tik.min, .string e.text, .int .i64 e.n, .int .i64 e.pax, .int .i64 e.row, .int .u8 e.let_] zc
  unfold zc at hF
  clear hp hs hD
  dsimp only
  have HX := Lib.hid (show changeF p e = (if liveN p.segs e.n = false then (p, 16) else ({ p with segs := p.segs.modify (e.n - 1).toNat dead, seats := placesF p.seats e.n 0 }, 0)) by unfold changeF cancelF; rw [hk]; rfl)
  have k1 : (e.kind == 1) = false := by rw [hk]; rfl
  have k2 : (e.kind == 2) = false := by rw [hk]; rfl
  have k3 : (e.kind == 3) = false := by rw [hk]; rfl
  have k4 : (e.kind == 4) = false := by rw [hk]; rfl
  have k5 : (e.kind == 5) = false := by rw [hk]; rfl
  have k6 : (e.kind == 6) = false := by rw [hk]; rfl
  have k7 : (e.kind == 7) = true := by rw [hk]; rfl
  have k8 : (e.kind == 8) = false := by rw [hk]; rfl
  have k9 : (e.kind == 9) = false := by rw [hk]; rfl
  clear hk
  have hng := HS.out.ng
  dsimp only at hng
  have hne5 := HS.out.ne
  dsimp only at hne5
  rcases Bool.eq_false_or_eq_true (liveN p.segs e.n) with q1 | q1
  case inr =>
    have hfin := Lib.hid (HX.out.trans (if_pos q1))
    go_enter Tryz.func53, Tryz.ntmps53
    go_wp2_with fail
    refine (plive_any p _ e.n _ 0 _ hF.at0 hng (Nat.le_refl _) e6).mono ?_
    rintro en w1 ⟨rfl, hb1⟩
    rw [q1]
    have hF1 := hF.step hb1
    clear hb1
    have v1 := hF1.c1
    have v2 := hF1.c2
    have v6 := hF1.f1
    go_wp2_with (refine store_res rfl (.tmp 4) (.tmp 74) rfl #[.string p.loc, .string p.off, .slice an nn cn, .slice ag ng cg, .slice ap np cp, .int .i64 p.tik.kind, .int .i64 p.tik.day, .int .i64 p.tik.min, .string p.rc, .slice ar nr cr, .slice ae ne ce, .bool p.queued] rfl rfl hF1.r3 rfl rfl (by simp [Value.oneCell']) ?_)
    have hF9 := hF1.put3 #[.string p.loc, .string p.off, .slice an nn cn, .slice ag ng cg, .slice ap np cp, .int .i64 p.tik.kind, .int .i64 p.tik.day, .int .i64 p.tik.min, .string p.rc, .slice ar nr cr, .slice ae ne ce, .bool p.queued]
    refine ret_ct Tryz.results53 hF9.r3 rfl rfl rfl rfl ?_
    exact RetO.mk' (h' := (Hd.mk an nn cn ag ng cg ap np cp ar nr cr ae ne ce)) hfin.out hF9.op hF9.fb (fun k hk => .inl hk)
  have hfin := Lib.hid (HX.out.trans (if_neg (by rw [q1]; simp)))
  obtain ⟨hn1, x, hx, hxl⟩ := liveN_get q1
  have hX := Lib.hid hx
  have hlt := lt_of_get hx
  clear hx HX
  have hl0 := HLg.out
  dsimp only at hl0
  rw [hl0] at hlt
  clear hl0
  have e6' := e6
  unfold okInt at e6'
  rcases ag with _ | a3
  · rcases HSeg.out.row.2 with ⟨_, h2⟩ | ⟨_, _, _, h1, _⟩
    · have hq := HLg.out
      dsimp only at hq
      omega
    · cases h1
  obtain ⟨g3, _, rfl, _, hBg, _, _, _, _, _⟩ := HSeg.out.open_
  go_enter Tryz.func53, Tryz.ntmps53
  go_wp2_with fail
  refine (plive_any p _ e.n _ 0 _ hF.at0 hng (Nat.le_refl _) e6).mono ?_
  rintro en w1 ⟨rfl, hb1⟩
  rw [q1]
  have hF1 := hF.step hb1
  clear hb1
  have v1 := hF1.c1
  have v2 := hF1.c2
  have v6 := hF1.f1
  clear q1
  go_upto_region 23 with fail
  refine wp_world (FO w B p (Hd.mk an nn cn (some ⟨g3, 0, none⟩) ng cg ap np cp ar nr cr ae ne ce) #[.string p.loc, .string p.off, .slice an nn cn, .slice (some ⟨g3, 0, none⟩) ng cg, .slice ap np cp, .int .i64 p.tik.kind, .int .i64 p.tik.day, .int .i64 p.tik.min, .string p.rc, .slice ar nr cr, .slice ae ne ce, .bool p.queued] #[.int .i64 e.kind, .string e.nam.last, .string e.nam.first, .string e.seg.car, .int .i64 e.seg.num, .int .i64 e.seg.day, .int .u8 e.seg.cls, .bool e.seg.live, .int .i64 e.tik.kind, .int .i64 e.tik.day, .int .i64 e.tik.min, .string e.text, .int .i64 e.n, .int .i64 e.pax, .int .i64 e.row, .int .u8 e.let_] #[.string ⟨#[]⟩, .string ⟨#[]⟩, .slice none 0 0, .slice none 0 0, .slice none 0 0, .int .i64 0, .int .i64 0, .int .i64 0, .string ⟨#[]⟩, .slice none 0 0, .slice none 0 0, .bool false]) hF1 ?_
  clear v1 v2 v6 hF1 hF
  intro W4 hF4
  have v1 := hF4.c1
  have v2 := hF4.c2
  have hz6 := hF4.z
  have hg3 : g3 < w.heap.size := hF4.lt g3 (.inr (.inl rfl))
  have hfr := hF4.op.segs.unfrozen rfl
  obtain ⟨b9, o9, x9, hbo, h1', h2', hx', hok', d0, d1, d2, d3, d4⟩ := hF4.op.segs.sl.seg_ hlt
  injection hbo with hbo
  injection hbo with ee1 ee2 _
  subst ee1 ee2
  have ee3 := hX.out.symm.trans hx'.out
  injection ee3 with ee3
  subst ee3
  have hi1 : (0 : Int) ≤ e.n - 1 := by omega
  have hi2 : e.n - 1 < (ng : Int) := by omega
  have hda : 0 + (e.n - 1).toNat * 5 + 4 = (e.n.toNat - 1) * 5 + 4 := by omega
  rw [hda] at d4
  clear hda d0 d1 d2 d3
  go_upto_region 24 with fail
  have hda : (e.n - 1).toNat * tSeg.sz + 4 = (e.n.toNat - 1) * 5 + 4 := by show (e.n - 1).toNat * 5 + 4 = _; omega
  have hown5 := hF4.op.segs.modify (j := 4) (u := .bool false) hX.out dead hok' rfl (by show 4 < 5; omega)
  rw [hda] at hown5
  have hg5 : W4.grownBy (W4.setCell ⟨g3, (e.n.toNat - 1) * 5 + 4, none⟩ (.bool false)) (some g3) := grown_set (World.grownBy.refl W4 _) _ _
  have hO5 := hF4.op.segs' HD.out hg5 hown5
  have hF5 := hF4.fb.grown hg5 (fun k hk => by injection hk with hk; subst hk; exact ⟨hBg, .inl ⟨.inr (.inl rfl), hg3⟩⟩)
  have HRL := Lib.hid hF4.lt
  refine wp_world (fun W => FB w B (rowP (Hd.mk an nn cn (some ⟨g3, 0, none⟩) ng cg ap np cp ar nr cr ae ne ce)) #[.string p.loc, .string p.off, .slice an nn cn, .slice (some ⟨g3, 0, none⟩) ng cg, .slice ap np cp, .int .i64 p.tik.kind, .int .i64 p.tik.day, .int .i64 p.tik.min, .string p.rc, .slice ar nr cr, .slice ae ne ce, .bool p.queued] #[.int .i64 e.kind, .string e.nam.last, .string e.nam.first, .string e.seg.car, .int .i64 e.seg.num, .int .i64 e.seg.day, .int .u8 e.seg.cls, .bool e.seg.live, .int .i64 e.tik.kind, .int .i64 e.tik.day, .int .i64 e.tik.min, .string e.text, .int .i64 e.n, .int .i64 e.pax, .int .i64 e.row, .int .u8 e.let_] #[.string ⟨#[]⟩, .string ⟨#[]⟩, .slice none 0 0, .slice none 0 0, .slice none 0 0, .int .i64 0, .int .i64 0, .int .i64 0, .string ⟨#[]⟩, .slice none 0 0, .slice none 0 0, .bool false] W ∧ OP W B { p with segs := p.segs.modify (e.n - 1).toNat dead } (Hd.mk an nn cn (some ⟨g3, 0, none⟩) ng cg ap np cp ar nr cr ae ne ce)) ⟨hF5, hO5⟩ ?_
  clear hF5 hO5 hg5 hown5 hF4 v1 v2 d4 hfr hda
  rintro W5 ⟨hF5, hO5⟩
  have v1 := hF5.c1
  have v2 := hF5.c2
  have hz7 := hF5.z
  have hae := hO5.seats.bk_lt
  have hpr := seg_pred e.n (w.heap.size + 1) e W5 (bk ae) (fun h => by have := HRL.out (w.heap.size + 1) (.inr (.inr (.inr (.inr h.symm)))); omega) (by omega) hF5.c2
  go_wp2_with fail
  refine (delete_any (segP e.n) _ _ p.seats ae ne ce W5 B hO5.seats hne5 (by have := hF5.le; omega) hpr eg_seg).mono ?_
  rintro en w6 ⟨rfl, hown6, hg6⟩
  rw [filter_seg] at hown6 ⊢
  have hO6 := hO5.seats' HD.out hg6 hown6
  have hF6 := hF5.grown hg6 (fun k hk => ⟨(hae k hk).1, .inl ⟨.inr (.inr (.inr (.inr hk))), HRL.out k (.inr (.inr (.inr (.inr hk))))⟩⟩)
  clear hpr hown6 hg6 v1 v2 hF5 hO5 hz7 hae
  have u1 := hF6.c1
  have u2 := hF6.c2
  have u6 := hF6.f1
  have hz8 := hF6.z
  have hz9 : w.heap.size < w6.heap.size := by omega
  have hF7 : FB w B (rowP (Hd.mk an nn cn (some ⟨g3, 0, none⟩) ng cg ap np cp ar nr cr ae ne ce)) #[.string p.loc, .string p.off, .slice an nn cn, .slice (some ⟨g3, 0, none⟩) ng cg, .slice ap np cp, .int .i64 p.tik.kind, .int .i64 p.tik.day, .int .i64 p.tik.min, .string p.rc, .slice ar nr cr, .slice ae (placesF p.seats e.n 0).length ce, .bool p.queued] #[.int .i64 e.kind, .string e.nam.last, .string e.nam.first, .string e.seg.car, .int .i64 e.seg.num, .int .i64 e.seg.day, .int .u8 e.seg.cls, .bool e.seg.live, .int .i64 e.tik.kind, .int .i64 e.tik.day, .int .i64 e.tik.min, .string e.text, .int .i64 e.n, .int .i64 e.pax, .int .i64 e.row, .int .u8 e.let_] zc _ := hF6.put1 10 (.slice ae (placesF p.seats e.n 0).length ce)
  go_wp2_with (refine store_res rfl (.tmp 4) (.tmp 101) rfl #[.string p.loc, .string p.off, .slice an nn cn, .slice (some ⟨g3, 0, none⟩) ng cg, .slice ap np cp, .int .i64 p.tik.kind, .int .i64 p.tik.day, .int .i64 p.tik.min, .string p.rc, .slice ar nr cr, .slice ae (placesF p.seats e.n 0).length ce, .bool p.queued] rfl rfl hF7.r3 rfl rfl (by simp [Value.oneCell']) ?_)
  have hF9 := hF7.put3 #[.string p.loc, .string p.off, .slice an nn cn, .slice (some ⟨g3, 0, none⟩) ng cg, .slice ap np cp, .int .i64 p.tik.kind, .int .i64 p.tik.day, .int .i64 p.tik.min, .string p.rc, .slice ar nr cr, .slice ae (placesF p.seats e.n 0).length ce, .bool p.queued]
  refine ret_ct Tryz.results53 hF9.r3 rfl rfl rfl rfl ?_
  exact RetO.mk' (q := { p with segs := p.segs.modify (e.n - 1).toNat dead, seats := placesF p.seats e.n 0 }) (h' := (Hd.mk an nn cn (some ⟨g3, 0, none⟩) ng cg ap np cp ar nr cr ae (placesF p.seats e.n 0).length ce)) hfin.out (hO6.fin (fun k hk => .inl (HRL.out k hk)) 10 _ #[.string p.loc, .string p.off, .slice an nn cn, .slice (some ⟨g3, 0, none⟩) ng cg, .slice ap np cp, .int .i64 p.tik.kind, .int .i64 p.tik.day, .int .i64 p.tik.min, .string p.rc, .slice ar nr cr, .slice ae (placesF p.seats e.n 0).length ce, .bool p.queued]) hF9 (fun k hk => .inl hk)
theorem pchange_any (p : Pnr) (h : Hd) (e : Edit) (w : World) (B : Nat) (hp : OP w B p h) (hD : Ap h) (hB : B ≤ w.heap.size) (hs : p.small 100000) (he : e.ok) :
    Calls Tryz.prog 53 #[.agg #[.string p.loc, .string p.off, .slice h.an h.nn h.cn, .slice h.ag h.ng h.cg, .slice h.ap h.np h.cp, .int .i64 p.tik.kind, .int .i64 p.tik.day, .int .i64 p.tik.min, .string p.rc, .slice h.ar h.nr h.cr, .slice h.ae h.ne h.ce, .bool p.queued], .agg #[.int .i64 e.kind, .string e.nam.last, .string e.nam.first, .string e.seg.car, .int .i64 e.seg.num, .int .i64 e.seg.day, .int .u8 e.seg.cls, .bool e.seg.live, .int .i64 e.tik.kind, .int .i64 e.tik.day, .int .i64 e.tik.min, .string e.text, .int .i64 e.n, .int .i64 e.pax, .int .i64 e.row, .int .u8 e.let_]] w (RetO w B h (changeF p e)) := by
  by_cases h1 : e.kind = 1
  · exact pchange_1 p h e w B hp hD hB hs he h1
  by_cases h2 : e.kind = 2
  · exact pchange_2 p h e w B hp hD hB hs he h2
  by_cases h3 : e.kind = 3
  · exact pchange_3 p h e w B hp hD hB hs he h3
  by_cases h4 : e.kind = 4
  · exact pchange_4 p h e w B hp hD hB hs he h4
  by_cases h5 : e.kind = 5
  · exact pchange_5 p h e w B hp hD hB hs he h5
  by_cases h6 : e.kind = 6
  · exact pchange_6 p h e w B hp hD hB hs he h6
  by_cases h7 : e.kind = 7
  · exact pchange_7 p h e w B hp hD hB hs he h7
  by_cases h8 : e.kind = 8
  · exact pchange_8 p h e w B hp hD hB hs he h8
  by_cases h9 : e.kind = 9
  · exact pchange_9 p h e w B hp hD hB hs he h9
  exact pchange_0 p h e w B hp hD hB hs he fun c c1 c2 => by rw [beq_eq_false_iff_ne]; omega
end Go.Proofs.YtpgeoahlhdifoaaGreatDoor
