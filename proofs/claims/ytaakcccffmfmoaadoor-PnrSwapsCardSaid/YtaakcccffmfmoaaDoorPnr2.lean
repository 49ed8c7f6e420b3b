/- The program's edits of a PNR: a seat that is given back. -/
import Derived.Test.YtaakcccffmfmoaaDoorPnr1
import Derived.Test.YtaakcccffmfmoaaDoorClos
import Derived.Test.YtaakcccffmfmoaaDoorRseat2
namespace Go.Proofs.YtaakcccffmfmoaaDoor
set_option linter.unusedVariables false
open Go Go.RowKit
theorem filter_with {l : List Plc} {sg px : Int} (h : px ≠ 0) : l.filter (fun x => !withP sg px x) = placesF l sg px := by
  unfold placesF
  congr 1
  funext x
  have h2 : (px != 0) = true := bne_iff_ne.2 h
  unfold withP keepP
  rw [h2, Bool.not_and, Bool.true_and]
  rfl
theorem filter_seg {l : List Plc} {n : Int} : l.filter (fun x => !segP n x) = placesF l n 0 := by
  unfold placesF
  congr 1
  funext x
  unfold segP keepP
  rw [show ((0 : Int) != 0) = false from rfl, Bool.false_and, Bool.or_false]
  rfl
set_option maxRecDepth 100000 in
set_option maxHeartbeats 1000000 in
theorem without_any (l : List Plc) (A : Option Addr) (n c : Nat) (sg px : Int) (w : World) (lo hi : Nat) (hs : Sl w lo hi tPlc A n l) (hn : n ≤ 100000) (hhi : hi ≤ w.heap.size) (hc : A = none → c = 0) :
    Calls Tryd.prog 101 #[.slice A n c, .int .i64 sg, .int .i64 px] w (RetOwn w 67 tPlc (l.filter (fun x => !withP sg px x))) := by
  have HS := Lib.hid hs
  have HC := Lib.hid hc
  have HL := Lib.hid hs.len
  clear hs hc
  go_enter Tryd.func101, Tryd.ntmps101
  go_wp2_with fail
  refine (clone_plc l A n c _ lo hi ((HS.out.alloc hhi _).alloc (by simp; omega) _) hn (by simp; omega) HC.out).mono ?_
  rintro e w1 ⟨A1, c1, rfl, hown1, hb1⟩
  have hsz1 := hb1.size
  simp only [World.size_alloc] at hsz1
  have k1 : w1.cell? ⟨w.heap.size, 0, none⟩ = some (.int .i64 sg) := (hb1.cell (p := ⟨w.heap.size, 0, none⟩) (by simp; omega)).trans (by simp)
  have k2 : w1.cell? ⟨w.heap.size + 1, 0, none⟩ = some (.int .i64 px) := (hb1.cell (p := ⟨w.heap.size + 1, 0, none⟩) (by simp)).trans (by simp)
  have hown2 := hown1.more (B' := w.heap.size + 1 + 1) (by simp)
  have hlt := hown2.bk_lt
  have hp := with_pred sg px w.heap.size (w.heap.size + 1) w1 (bk A1) (fun e => by have := (hlt _ e.symm).1; omega) (fun e => by have := (hlt _ e.symm).1; omega) (by omega) (by omega) k1 k2
  clear k1 k2
  go_wp2_with fail
  refine (delete_any (withP sg px) _ _ l A1 l.length c1 w1 (w.heap.size + 1 + 1) hown2 (by rw [HL.out]; omega) (by omega) hp eg_with).mono ?_
  rintro e w2 ⟨rfl, hown3, hg⟩
  go_wp2
  go_ret
  refine RetOwn.mk' (hown3.more (by omega)) ?_
  have hb0 : Below w.heap.size w w1 := (((Below.refl _ w).alloc (Nat.le_refl _) _).alloc (by simp) _).trans (hb1.mono (by simp; omega))
  exact hb0.grown hg (by omega) (fun k hk => by have := (hlt k hk).1; omega)
set_option maxRecDepth 100000 in
set_option maxHeartbeats 4000000 in
theorem pfree_any (p : Pnr) (h : Hd) (e : Edit) (w : World) (B : Nat) (hp : OP w B p h) (hB : B ≤ w.heap.size) (hs : p.small 100000) (he : e.ok) :
    Calls Tryd.prog 90 #[.agg #[.string p.loc, .string p.off, .slice h.an h.nn h.cn, .slice h.ag h.ng h.cg, .slice h.ap h.np h.cp, .int .i64 p.tik.kind, .int .i64 p.tik.day, .int .i64 p.tik.min, .string p.rc, .slice h.ar h.nr h.cr, .slice h.ae h.ne h.ce, .bool p.queued], .agg #[.int .i64 e.kind, .string e.nam.last, .string e.nam.first, .string e.seg.car, .int .i64 e.seg.num, .int .i64 e.seg.day, .int .u8 e.seg.cls, .bool e.seg.live, .int .i64 e.tik.kind, .int .i64 e.tik.day, .int .i64 e.tik.min, .string e.text, .int .i64 e.n, .int .i64 e.pax, .int .i64 e.row, .int .u8 e.let_]] w (RetO w B h (freeF p e)) := by
  have HS := Lib.hid (hp.hd hs)
  have HE := Lib.hid he
  have HCap := Lib.hid hp.ps.caps
  have HL := Lib.hid hp.at.seats.len
  obtain ⟨e1, e2, e3, e4, e5, e6, e7, e8, e9⟩ := he
  obtain ⟨an, nn, cn, ag, ng, cg, ap, np, cp, ar, nr, cr, ae, ne, ce⟩ := h
  have hF := FO.start hp hB #[.string p.loc, .string p.off, .slice an nn cn, .slice ag ng cg, .slice ap np cp, .int .i64 p.tik.kind, .int .i64 p.tik.day, .int .i64 p.tik.min, .string p.rc, .slice ar nr cr, .slice ae ne ce, .bool p.queued] #[.int .i64 e.kind, .string e.nam.last, .string e.nam.first, .string e.seg.car, .int .i64 e.seg.num, .int .i64 e.seg.day, .int .u8 e.seg.cls, .bool e.seg.live, .int .i64 e.tik.kind, .int .i64 e.tik.day, .int .i64 e.tik.min, .string e.text, .int .i64 e.n, .int .i64 e.pax, .int .i64 e.row, .int .u8 e.let_] zc
  unfold zc at hF
  clear hp hs
  dsimp only
  have hne5 := HS.out.ne
  dsimp only at hne5
  have HX := Lib.hid (show freeF p e = (if whoseF p e ≠ 0 then (p, whoseF p e) else if (placesF p.seats e.n e.pax).length = p.seats.length then (p, 9) else ({ p with seats := placesF p.seats e.n e.pax }, 0)) from rfl)
  rcases whoseF_three p e with q2 | q2
  case inr =>
    have hne : ¬ whoseF p e = 0 := by rcases q2 with q | q <;> rw [q] <;> omega
    have hfin := Lib.hid (HX.out.trans (if_pos hne))
    have q3 : (whoseF p e != 0) = true := by rw [bne_iff_ne]; exact hne
    clear q2 hne
    go_enter Tryd.func90, Tryd.ntmps90
    go_wp2_with fail
    refine (pwhose_any p _ e _ 0 _ hF.at0 HS.out (Nat.le_refl _) HE.out).mono ?_
    rintro en w1 ⟨rfl, hb1⟩
    have hF1 := hF.step hb1
    clear hb1
    have v1 := hF1.c1
    go_wp2_with (refine store_res rfl (.tmp 4) (.tmp 13) rfl #[.string p.loc, .string p.off, .slice an nn cn, .slice ag ng cg, .slice ap np cp, .int .i64 p.tik.kind, .int .i64 p.tik.day, .int .i64 p.tik.min, .string p.rc, .slice ar nr cr, .slice ae ne ce, .bool p.queued] rfl rfl hF1.r3 rfl rfl (by simp [Value.oneCell']) ?_)
    have hF9 := hF1.put3 #[.string p.loc, .string p.off, .slice an nn cn, .slice ag ng cg, .slice ap np cp, .int .i64 p.tik.kind, .int .i64 p.tik.day, .int .i64 p.tik.min, .string p.rc, .slice ar nr cr, .slice ae ne ce, .bool p.queued]
    refine ret_ct Tryd.results90 hF9.r3 rfl rfl rfl rfl ?_
    exact RetO.mk' (h' := (Hd.mk an nn cn ag ng cg ap np cp ar nr cr ae ne ce)) hfin.out hF9.op hF9.fb (fun k hk => .inl hk)
  have HX1 := Lib.hid (HX.out.trans (if_neg (by rw [q2]; simp)))
  have hpx : e.pax ≠ 0 := by
    intro h0
    unfold whoseF at q2
    split at q2
    · split at q2
      · rename_i h
        omega
      · omega
    · omega
  have HFl := Lib.hid (filter_with (l := p.seats) (sg := e.n) hpx)
  clear hpx
  by_cases hm : (placesF p.seats e.n e.pax).length = ne
  · have hfin := Lib.hid (HX1.out.trans (if_pos (by rw [HL.out]; exact hm)))
    have hm2 : (((placesF p.seats e.n e.pax).length : Int) == (ne : Int)) = true := by rw [beq_iff_eq]; omega
    clear hm
    go_enter Tryd.func90, Tryd.ntmps90
    go_wp2_with fail
    refine (pwhose_any p _ e _ 0 _ hF.at0 HS.out (Nat.le_refl _) HE.out).mono ?_
    rintro en w1 ⟨rfl, hb1⟩
    have hF1 := hF.step hb1
    clear hb1
    have v1 := hF1.c1
    have v2 := hF1.c2
    rw [q2]
    go_wp2_with fail
    refine (without_any p.seats ae ne ce e.n e.pax _ 0 _ hF1.at0.seats hne5 (Nat.le_refl _) HCap.out.ae).mono ?_
    rintro en w6 ⟨A5, c5, rfl, hown6, hb6⟩
    rw [HFl.out] at hown6 ⊢
    have hF6 := hF1.step hb6
    clear v1 v2
    have v1 := hF6.c1
    have v2 := hF6.c2
    go_wp2_with (refine store_res rfl (.tmp 4) (.tmp 28) rfl #[.string p.loc, .string p.off, .slice an nn cn, .slice ag ng cg, .slice ap np cp, .int .i64 p.tik.kind, .int .i64 p.tik.day, .int .i64 p.tik.min, .string p.rc, .slice ar nr cr, .slice ae ne ce, .bool p.queued] rfl rfl hF6.r3 rfl rfl (by simp [Value.oneCell']) ?_)
    have hF9 := hF6.put3 #[.string p.loc, .string p.off, .slice an nn cn, .slice ag ng cg, .slice ap np cp, .int .i64 p.tik.kind, .int .i64 p.tik.day, .int .i64 p.tik.min, .string p.rc, .slice ar nr cr, .slice ae ne ce, .bool p.queued]
    refine ret_ct Tryd.results90 hF9.r3 rfl rfl rfl rfl ?_
    exact RetO.mk' (h' := (Hd.mk an nn cn ag ng cg ap np cp ar nr cr ae ne ce)) hfin.out hF9.op hF9.fb (fun k hk => .inl hk)
  · have hfin := Lib.hid (HX1.out.trans (if_neg (by rw [HL.out]; exact hm)))
    have hm2 : (((placesF p.seats e.n e.pax).length : Int) == (ne : Int)) = false := by rw [beq_eq_false_iff_ne]; omega
    clear hm
    go_enter Tryd.func90, Tryd.ntmps90
    go_wp2_with fail
    refine (pwhose_any p _ e _ 0 _ hF.at0 HS.out (Nat.le_refl _) HE.out).mono ?_
    rintro en w1 ⟨rfl, hb1⟩
    have hF1 := hF.step hb1
    clear hb1
    have v1 := hF1.c1
    have v2 := hF1.c2
    rw [q2]
    go_wp2_with fail
    refine (without_any p.seats ae ne ce e.n e.pax _ 0 _ hF1.at0.seats hne5 (Nat.le_refl _) HCap.out.ae).mono ?_
    rintro en w6 ⟨A5, c5, rfl, hown6, hb6⟩
    rw [HFl.out] at hown6 ⊢
    have hF6 := hF1.step hb6
    have hz1 := hF1.z
    clear v1 v2
    have v1 := hF6.c1
    have v2 := hF6.c2
    have v6 := hF6.f1
    have hz6 := hF6.z
    have hz9 : w.heap.size < w6.heap.size := by omega
    have hF7 : FO w B p _ #[.string p.loc, .string p.off, .slice an nn cn, .slice ag ng cg, .slice ap np cp, .int .i64 p.tik.kind, .int .i64 p.tik.day, .int .i64 p.tik.min, .string p.rc, .slice ar nr cr, .slice A5 (placesF p.seats e.n e.pax).length c5, .bool p.queued] #[.int .i64 e.kind, .string e.nam.last, .string e.nam.first, .string e.seg.car, .int .i64 e.seg.num, .int .i64 e.seg.day, .int .u8 e.seg.cls, .bool e.seg.live, .int .i64 e.tik.kind, .int .i64 e.tik.day, .int .i64 e.tik.min, .string e.text, .int .i64 e.n, .int .i64 e.pax, .int .i64 e.row, .int .u8 e.let_] zc _ := hF6.put1 10 (.slice A5 (placesF p.seats e.n e.pax).length c5)
    go_wp2_with (refine store_res rfl (.tmp 4) (.tmp 31) rfl #[.string p.loc, .string p.off, .slice an nn cn, .slice ag ng cg, .slice ap np cp, .int .i64 p.tik.kind, .int .i64 p.tik.day, .int .i64 p.tik.min, .string p.rc, .slice ar nr cr, .slice A5 (placesF p.seats e.n e.pax).length c5, .bool p.queued] rfl rfl hF7.r3 rfl rfl (by simp [Value.oneCell']) ?_)
    have hF9 := hF7.put3 #[.string p.loc, .string p.off, .slice an nn cn, .slice ag ng cg, .slice ap np cp, .int .i64 p.tik.kind, .int .i64 p.tik.day, .int .i64 p.tik.min, .string p.rc, .slice ar nr cr, .slice A5 (placesF p.seats e.n e.pax).length c5, .bool p.queued]
    refine ret_ct Tryd.results90 hF9.r3 rfl rfl rfl rfl ?_
    have hO8 := ((hown6.more (B' := w.heap.size + 1 + 1 + 1) (by omega)).setCell (p := ⟨w.heap.size, 10, none⟩) (by simp; omega) (.slice A5 (placesF p.seats e.n e.pax).length c5)).setRow (g := w.heap.size + 1 + 1) (by omega) #[.string p.loc, .string p.off, .slice an nn cn, .slice ag ng cg, .slice ap np cp, .int .i64 p.tik.kind, .int .i64 p.tik.day, .int .i64 p.tik.min, .string p.rc, .slice ar nr cr, .slice A5 (placesF p.seats e.n e.pax).length c5, .bool p.queued]
    exact RetO.mk' (q := { p with seats := placesF p.seats e.n e.pax }) (h' := (Hd.mk an nn cn ag ng cg ap np cp ar nr cr A5 (placesF p.seats e.n e.pax).length c5)) hfin.out (hF9.op.withSeats (hO8.more (by omega))) hF9.fb (rows_seats (h := (Hd.mk an nn cn ag ng cg ap np cp ar nr cr ae ne ce)) fun k hk => by have := (hO8.bk_lt k hk).1; omega)
end Go.Proofs.YtaakcccffmfmoaaDoor
