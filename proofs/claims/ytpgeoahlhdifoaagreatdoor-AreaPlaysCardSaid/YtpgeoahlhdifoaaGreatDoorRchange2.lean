/- The document's edits of a PNR, of whatever kind. -/
import Derived.Test.YtpgeoahlhdifoaaGreatDoorStep
namespace Go.Proofs.YtpgeoahlhdifoaaGreatDoor
set_option linter.unusedVariables false
open Go Go.RowKit
theorem Own.modify {α : Type} {w : World} {B : Nat} {E : TypeId} {T : Ty α} {g n c : Nat} {l : List α} (h : Own w B E T (.slice (some ⟨g, 0, none⟩) n c) l) {k : Nat} {x : α} (hx : l[k]? = some x) (f : α → α) (hf : T.wf (f x)) {j : Nat} {u : Value} (he : T.enc (f x) = (T.enc x).set j u) (hj : j < T.sz) :
    Own (w.setCell ⟨g, k * T.sz + j, none⟩ u) B E T (.slice (some ⟨g, 0, none⟩) n c) (l.modify k f) := by
  have hk := lt_of_get hx
  obtain ⟨A, c', hform⟩ := h.form
  injection hform with hA hn hc
  rcases h.row.2 with ⟨h1, _⟩ | ⟨g', cap, cur, h1, hb, hg, hnc, hcm, hcs, htake⟩
  · cases h1
  · injection h1 with hA' _ hc'
    injection hA' with hA'
    injection hA' with hg' _ _
    subst hg'
    have hlen : (l.modify k f).length = l.length := List.length_modify ..
    have hfm : ∀ (l : List α) (k : Nat) (x : α), l[k]? = some x → T.enc (f x) = (T.enc x).set j u → (l.modify k f).flatMap T.enc = (l.flatMap T.enc).set (k * T.sz + j) u := by
      intro l
      induction l with
      | nil => intro k x h _; simp at h
      | cons y t ih =>
        intro k x h he
        rcases k with _ | k
        · simp only [List.getElem?_cons_zero, Option.some.injEq] at h
          subst h
          simp only [List.modify_zero_cons, List.flatMap_cons, Nat.zero_mul, Nat.zero_add]
          rw [he, List.set_append_left _ _ (by rw [T.len]; exact hj)]
        · simp only [List.getElem?_cons_succ] at h
          simp only [List.modify_succ_cons, List.flatMap_cons]
          rw [ih k x h he, List.set_append_right _ _ (by rw [T.len, Nat.add_mul]; omega), T.len]
          congr 2
          rw [Nat.add_mul]; omega
    refine ⟨fun y hy => ?_, ?_, .inr ⟨g, cap, cur.setIfInBounds (k * T.sz + j) u, by rw [hlen, hn, hc'], hb, ?_, by rw [hlen]; exact hnc, hcm, by simpa using hcs, ?_⟩⟩
    · obtain ⟨i, hi⟩ := List.getElem?_of_mem hy
      rw [List.getElem?_modify] at hi
      cases hli : l[i]? with
      | none => rw [hli] at hi; simp at hi
      | some z =>
        rw [hli] at hi
        simp only [Option.map_eq_map, Option.map_some, Option.some.injEq] at hi
        by_cases e : k = i
        · subst e
          rw [hx] at hli
          injection hli with hli
          subst hli
          rw [if_pos rfl] at hi
          rw [← hi]; exact hf
        · rw [if_neg e] at hi
          rw [← hi]; exact h.wf _ (List.mem_of_getElem? hli)
    · rw [flatMap_len, hlen]
    · rw [setCell_eq_setRow w g (k * T.sz + j) cur _ (0, 0) u hg]
      exact setRow_heap w g cur _ _ _ hg
    · rw [hfm l k x hx he, hlen, Array.toList_setIfInBounds, ← htake, List.take_set]

set_option maxRecDepth 100000 in
set_option maxHeartbeats 4000000 in
theorem rchange_4 (p : Pnr) (h : Hd) (e : Edit) (w : World) (S : Nat → Prop) (hp : PS w S p h) (hS : ∀ b, S b → b < w.heap.size) (hs : p.small 100000) (he : e.ok) (hk : e.kind = 4) :
    Calls Tryz.prog 54 #[.agg #[.string p.loc, .string p.off, .slice h.an h.nn h.cn, .slice h.ag h.ng h.cg, .slice h.ap h.np h.cp, .int .i64 p.tik.kind, .int .i64 p.tik.day, .int .i64 p.tik.min, .string p.rc, .slice h.ar h.nr h.cr, .slice h.ae h.ne h.ce, .bool p.queued], .agg #[.int .i64 e.kind, .string e.nam.last, .string e.nam.first, .string e.seg.car, .int .i64 e.seg.num, .int .i64 e.seg.day, .int .u8 e.seg.cls, .bool e.seg.live, .int .i64 e.tik.kind, .int .i64 e.tik.day, .int .i64 e.tik.min, .string e.text, .int .i64 e.n, .int .i64 e.pax, .int .i64 e.row, .int .u8 e.let_]] w (RetQ w S (changeF p e)) := by
  have HP := Lib.hid hp
  have HO := Lib.hid (hp.old hS)
  have HS := Lib.hid (hs.hd (hp.old hS))
  have HE := Lib.hid he
  have HSM := Lib.hid hs
  have HB := Lib.hid hS
  clear hp hS hs
  obtain ⟨e1, e2, e3, e4, e5, e6, e7, e8, e9⟩ := he
  obtain ⟨an, nn, cn, ag, ng, cg, ap, np, cp, ar, nr, cr, ae, ne, ce⟩ := h
  dsimp only
  have hF := FR.start w #[.string p.loc, .string p.off, .slice an nn cn, .slice ag ng cg, .slice ap np cp, .int .i64 p.tik.kind, .int .i64 p.tik.day, .int .i64 p.tik.min, .string p.rc, .slice ar nr cr, .slice ae ne ce, .bool p.queued] #[.int .i64 e.kind, .string e.nam.last, .string e.nam.first, .string e.seg.car, .int .i64 e.seg.num, .int .i64 e.seg.day, .int .u8 e.seg.cls, .bool e.seg.live, .int .i64 e.tik.kind, .int .i64 e.tik.day, .int .i64 e.tik.min, .string e.text, .int .i64 e.n, .int .i64 e.pax, .int .i64 e.row, .int .u8 e.let_] zc
  unfold zc at hF
  have HX := Lib.hid (show changeF p e = (if tikB e.tik = false then (p, 4) else ({ p with tik := e.tik, queued := false }, 0)) by unfold changeF; rw [hk]; rfl)
  have k1 : (e.kind == 1) = false := by rw [hk]; rfl
  have k2 : (e.kind == 2) = false := by rw [hk]; rfl
  have k3 : (e.kind == 3) = false := by rw [hk]; rfl
  have k4 : (e.kind == 4) = true := by rw [hk]; rfl
  have k5 : (e.kind == 5) = false := by rw [hk]; rfl
  have k6 : (e.kind == 6) = false := by rw [hk]; rfl
  have k7 : (e.kind == 7) = false := by rw [hk]; rfl
  have k8 : (e.kind == 8) = false := by rw [hk]; rfl
  have k9 : (e.kind == 9) = false := by rw [hk]; rfl
  clear hk
  have HT := Lib.hid e4
  rcases Bool.eq_false_or_eq_true (tikB e.tik) with q1 | q1
  case inr =>
    have hfin := Lib.hid (HX.out.trans (if_pos q1))
    go_enter Tryz.func54, Tryz.ntmps54
    go_wp2_with fail
    refine (rtikf_any e.tik _).mono ?_
    rintro en w1 ⟨rfl, hb1⟩
    rw [q1]
    have hF1 := hF.step hb1
    clear hb1
    have v1 := hF1.c1
    have v2 := hF1.c2
    have v6 := hF1.f1
    go_wp2_with (refine store_res rfl (.tmp 4) (.tmp 33) rfl #[.string p.loc, .string p.off, .slice an nn cn, .slice ag ng cg, .slice ap np cp, .int .i64 p.tik.kind, .int .i64 p.tik.day, .int .i64 p.tik.min, .string p.rc, .slice ar nr cr, .slice ae ne ce, .bool p.queued] rfl rfl hF1.r3 rfl rfl (by simp [Value.oneCell']) ?_)
    have hF9 := hF1.put3 #[.string p.loc, .string p.off, .slice an nn cn, .slice ag ng cg, .slice ap np cp, .int .i64 p.tik.kind, .int .i64 p.tik.day, .int .i64 p.tik.min, .string p.rc, .slice ar nr cr, .slice ae ne ce, .bool p.queued]
    refine ret_ct Tryz.results54 hF9.r3 rfl rfl rfl rfl ?_
    exact RetQ.mk' (q := p) (h' := (Hd.mk an nn cn ag ng cg ap np cp ar nr cr ae ne ce)) hfin.out ((HP.out.below hF9.B HB.out).mono fun b hb => .inl hb) hF9.B
  have hfin := Lib.hid (HX.out.trans (if_neg (by rw [q1]; simp)))
  go_enter Tryz.func54, Tryz.ntmps54
  go_wp2_with fail
  refine (rtikf_any e.tik _).mono ?_
  rintro en w1 ⟨rfl, hb1⟩
  rw [q1]
  have hF1 := hF.step hb1
  clear hb1
  have v1 := hF1.c1
  have v2 := hF1.c2
  have v6 := hF1.f1
  have hz1 := hF1.z
  have hz2 : w.heap.size < w1.heap.size := by omega
  have hF7 : FR w #[.string p.loc, .string p.off, .slice an nn cn, .slice ag ng cg, .slice ap np cp, .int .i64 e.tik.kind, .int .i64 e.tik.day, .int .i64 e.tik.min, .string p.rc, .slice ar nr cr, .slice ae ne ce, .bool false] #[.int .i64 e.kind, .string e.nam.last, .string e.nam.first, .string e.seg.car, .int .i64 e.seg.num, .int .i64 e.seg.day, .int .u8 e.seg.cls, .bool e.seg.live, .int .i64 e.tik.kind, .int .i64 e.tik.day, .int .i64 e.tik.min, .string e.text, .int .i64 e.n, .int .i64 e.pax, .int .i64 e.row, .int .u8 e.let_] zc _ := (((hF1.put1 5 (.int .i64 e.tik.kind)).put1 6 (.int .i64 e.tik.day)).put1 7 (.int .i64 e.tik.min)).put1 11 (.bool false)
  go_wp2_with (refine store_res rfl (.tmp 4) (.tmp 38) rfl #[.string p.loc, .string p.off, .slice an nn cn, .slice ag ng cg, .slice ap np cp, .int .i64 e.tik.kind, .int .i64 e.tik.day, .int .i64 e.tik.min, .string p.rc, .slice ar nr cr, .slice ae ne ce, .bool false] rfl rfl hF7.r3 rfl rfl (by simp [Value.oneCell']) ?_)
  have hF9 := hF7.put3 #[.string p.loc, .string p.off, .slice an nn cn, .slice ag ng cg, .slice ap np cp, .int .i64 e.tik.kind, .int .i64 e.tik.day, .int .i64 e.tik.min, .string p.rc, .slice ar nr cr, .slice ae ne ce, .bool false]
  refine ret_ct Tryz.results54 hF9.r3 rfl rfl rfl rfl ?_
  have hP9 := HP.out.below hF9.B HB.out
  exact RetQ.mk' (q := { p with tik := e.tik, queued := false }) (h' := (Hd.mk an nn cn ag ng cg ap np cp ar nr cr ae ne ce)) hfin.out (PS.mono (S := S) ⟨hP9.loc, hP9.off, hP9.rc, HT.out, hP9.names, hP9.segs, hP9.phones, hP9.remarks, hP9.seats⟩ fun b hb => .inl hb) hF9.B

set_option maxRecDepth 100000 in
set_option maxHeartbeats 4000000 in
theorem rchange_0 (p : Pnr) (h : Hd) (e : Edit) (w : World) (S : Nat → Prop) (hp : PS w S p h) (hS : ∀ b, S b → b < w.heap.size) (hs : p.small 100000) (he : e.ok) (hk : ∀ c : Int, 1 ≤ c → c ≤ 9 → (e.kind == c) = false) :
    Calls Tryz.prog 54 #[.agg #[.string p.loc, .string p.off, .slice h.an h.nn h.cn, .slice h.ag h.ng h.cg, .slice h.ap h.np h.cp, .int .i64 p.tik.kind, .int .i64 p.tik.day, .int .i64 p.tik.min, .string p.rc, .slice h.ar h.nr h.cr, .slice h.ae h.ne h.ce, .bool p.queued], .agg #[.int .i64 e.kind, .string e.nam.last, .string e.nam.first, .string e.seg.car, .int .i64 e.seg.num, .int .i64 e.seg.day, .int .u8 e.seg.cls, .bool e.seg.live, .int .i64 e.tik.kind, .int .i64 e.tik.day, .int .i64 e.tik.min, .string e.text, .int .i64 e.n, .int .i64 e.pax, .int .i64 e.row, .int .u8 e.let_]] w (RetQ w S (changeF p e)) := by
  have HP := Lib.hid hp
  have HO := Lib.hid (hp.old hS)
  have HS := Lib.hid (hs.hd (hp.old hS))
  have HE := Lib.hid he
  have HSM := Lib.hid hs
  have HB := Lib.hid hS
  clear hp hS hs
  obtain ⟨e1, e2, e3, e4, e5, e6, e7, e8, e9⟩ := he
  obtain ⟨an, nn, cn, ag, ng, cg, ap, np, cp, ar, nr, cr, ae, ne, ce⟩ := h
  dsimp only
  have hF := FR.start w #[.string p.loc, .string p.off, .slice an nn cn, .slice ag ng cg, .slice ap np cp, .int .i64 p.tik.kind, .int .i64 p.tik.day, .int .i64 p.tik.min, .string p.rc, .slice ar nr cr, .slice ae ne ce, .bool p.queued] #[.int .i64 e.kind, .string e.nam.last, .string e.nam.first, .string e.seg.car, .int .i64 e.seg.num, .int .i64 e.seg.day, .int .u8 e.seg.cls, .bool e.seg.live, .int .i64 e.tik.kind, .int .i64 e.tik.day, .int .i64 e.tik.min, .string e.text, .int .i64 e.n, .int .i64 e.pax, .int .i64 e.row, .int .u8 e.let_] zc
  unfold zc at hF
  have hfin := Lib.hid (show changeF p e = (p, 4) by
    unfold changeF
    have g := fun (c : Int) (h1 : 1 ≤ c) (h2 : c ≤ 9) => beq_eq_false_iff_ne.1 (hk c h1 h2)
    rw [if_neg (g 1 (by omega) (by omega)), if_neg (g 2 (by omega) (by omega)), if_neg (g 3 (by omega) (by omega)), if_neg (g 4 (by omega) (by omega)), if_neg (g 5 (by omega) (by omega)), if_neg (g 6 (by omega) (by omega)), if_neg (g 7 (by omega) (by omega)), if_neg (g 8 (by omega) (by omega)), if_neg (g 9 (by omega) (by omega))])
  have k1 := hk 1 (by omega) (by omega)
  have k2 := hk 2 (by omega) (by omega)
  have k3 := hk 3 (by omega) (by omega)
  have k4 := hk 4 (by omega) (by omega)
  have k5 := hk 5 (by omega) (by omega)
  have k6 := hk 6 (by omega) (by omega)
  have k7 := hk 7 (by omega) (by omega)
  have k8 := hk 8 (by omega) (by omega)
  have k9 := hk 9 (by omega) (by omega)
  clear hk
  go_enter Tryz.func54, Tryz.ntmps54
  go_upto_region 33 with fail
  refine wp_world (FR w #[.string p.loc, .string p.off, .slice an nn cn, .slice ag ng cg, .slice ap np cp, .int .i64 p.tik.kind, .int .i64 p.tik.day, .int .i64 p.tik.min, .string p.rc, .slice ar nr cr, .slice ae ne ce, .bool p.queued] #[.int .i64 e.kind, .string e.nam.last, .string e.nam.first, .string e.seg.car, .int .i64 e.seg.num, .int .i64 e.seg.day, .int .u8 e.seg.cls, .bool e.seg.live, .int .i64 e.tik.kind, .int .i64 e.tik.day, .int .i64 e.tik.min, .string e.text, .int .i64 e.n, .int .i64 e.pax, .int .i64 e.row, .int .u8 e.let_] zc) hF ?_
  intro W0 hF0
  have x1 := hF0.c1
  go_wp2_with (refine store_res rfl (.tmp 4) (.tmp 98) rfl #[.string p.loc, .string p.off, .slice an nn cn, .slice ag ng cg, .slice ap np cp, .int .i64 p.tik.kind, .int .i64 p.tik.day, .int .i64 p.tik.min, .string p.rc, .slice ar nr cr, .slice ae ne ce, .bool p.queued] rfl rfl hF0.r3 rfl rfl (by simp [Value.oneCell']) ?_)
  have hF9 := hF0.put3 #[.string p.loc, .string p.off, .slice an nn cn, .slice ag ng cg, .slice ap np cp, .int .i64 p.tik.kind, .int .i64 p.tik.day, .int .i64 p.tik.min, .string p.rc, .slice ar nr cr, .slice ae ne ce, .bool p.queued]
  refine ret_ct Tryz.results54 hF9.r3 rfl rfl rfl rfl ?_
  exact RetQ.mk' (q := p) (h' := (Hd.mk an nn cn ag ng cg ap np cp ar nr cr ae ne ce)) hfin.out ((HP.out.below hF9.B HB.out).mono fun b hb => .inl hb) hF9.B
end Go.Proofs.YtpgeoahlhdifoaaGreatDoor
