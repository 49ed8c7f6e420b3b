/- Put together by program of: Pnr2, Pnr3. -/
import Derived.Test.YtpgeoahlhdifoaaGreatDoorPnr1
import Derived.Test.YtpgeoahlhdifoaaGreatDoorClos
import Derived.Test.YtpgeoahlhdifoaaGreatDoorRseat2
import Derived.Test.YtpgeoahlhdifoaaGreatDoorInsert
namespace Go.Proofs.YtpgeoahlhdifoaaGreatDoor
set_option linter.unusedVariables false
open Go Go.RowKit
theorem filter_with {l : List Plc} {sg px : Int} (h : px ≠ 0) : l.filter (fun x => !withP sg px x) = placesF l sg px := by
  unfold placesF
  congr 1
  funext x
  have h2 : (px != 0) = true := bne_iff_ne.2 h
  unfold withP keepP
  rw [h2, Bool.not_and, Bool.true_and]
  rfl
theorem filter_seg {l : List Plc} {n : Int} : l.filter (fun x => !segP n x) = placesF l n 0 := by
  unfold placesF
  congr 1
  funext x
  unfold segP keepP
  rw [show ((0 : Int) != 0) = false from rfl, Bool.false_and, Bool.or_false]
  rfl
set_option maxRecDepth 100000 in
set_option maxHeartbeats 1000000 in
theorem without_any (l : List Plc) (A : Option Addr) (n c : Nat) (sg px : Int) (w : World) (lo hi : Nat) (hs : Sl w lo hi tPlc A n l) (hn : n ≤ 100000) (hhi : hi ≤ w.heap.size) (hc : A = none → c = 0) :
    Calls Tryz.prog 88 #[.slice A n c, .int .i64 sg, .int .i64 px] w (RetOwn w 87 tPlc (l.filter (fun x => !withP sg px x))) := by
  have HS := Lib.hid hs
  have HC := Lib.hid hc
  have HL := Lib.hid hs.len
  clear hs hc
  go_enter Tryz.func88, Tryz.ntmps88
  go_wp2_with fail
  refine (clone_plc l A n c _ lo hi ((HS.out.alloc hhi _).alloc (by simp; omega) _) hn (by simp; omega) HC.out).mono ?_
  rintro e w1 ⟨A1, c1, rfl, hown1, hb1⟩
  have hsz1 := hb1.size
  simp only [World.size_alloc] at hsz1
  have k1 : w1.cell? ⟨w.heap.size, 0, none⟩ = some (.int .i64 sg) := (hb1.cell (p := ⟨w.heap.size, 0, none⟩) (by simp; omega)).trans (by simp)
  have k2 : w1.cell? ⟨w.heap.size + 1, 0, none⟩ = some (.int .i64 px) := (hb1.cell (p := ⟨w.heap.size + 1, 0, none⟩) (by simp)).trans (by simp)
  have hown2 := hown1.more (B' := w.heap.size + 1 + 1) (by simp)
  have hlt := hown2.bk_lt
  have hp := with_pred sg px w.heap.size (w.heap.size + 1) w1 (bk A1) (fun e => by have := (hlt _ e.symm).1; omega) (fun e => by have := (hlt _ e.symm).1; omega) (by omega) (by omega) k1 k2
  clear k1 k2
  go_wp2_with fail
  refine (delete_any (withP sg px) _ _ l A1 l.length c1 w1 (w.heap.size + 1 + 1) hown2 (by rw [HL.out]; omega) (by omega) hp eg_with).mono ?_
  rintro e w2 ⟨rfl, hown3, hg⟩
  go_wp2
  go_ret
  refine RetOwn.mk' (hown3.more (by omega)) ?_
  have hb0 : Below w.heap.size w w1 := (((Below.refl _ w).alloc (Nat.le_refl _) _).alloc (by simp) _).trans (hb1.mono (by simp; omega))
  exact hb0.grown hg (by omega) (fun k hk => by have := (hlt k hk).1; omega)
set_option maxRecDepth 100000 in
set_option maxHeartbeats 4000000 in
theorem pfree_any (p : Pnr) (h : Hd) (e : Edit) (w : World) (B : Nat) (hp : OP w B p h) (hB : B ≤ w.heap.size) (hs : p.small 100000) (he : e.ok) :
    Calls Tryz.prog 72 #[.agg #[.string p.loc, .string p.off, .slice h.an h.nn h.cn, .slice h.ag h.ng h.cg, .slice h.ap h.np h.cp, .int .i64 p.tik.kind, .int .i64 p.tik.day, .int .i64 p.tik.min, .string p.rc, .slice h.ar h.nr h.cr, .slice h.ae h.ne h.ce, .bool p.queued], .agg #[.int .i64 e.kind, .string e.nam.last, .string e.nam.first, .string e.seg.car, .int .i64 e.seg.num, .int .i64 e.seg.day, .int .u8 e.seg.cls, .bool e.seg.live, .int .i64 e.tik.kind, .int .i64 e.tik.day, .int .i64 e.tik.min, .string e.text, .int .i64 e.n, .int .i64 e.pax, .int .i64 e.row, .int .u8 e.let_]] w (RetO w B h (freeF p e)) := by
  have HS := Lib.hid (hp.hd hs)
  have HE := Lib.hid he
  have HCap := Lib.hid hp.ps.caps
  have HL := Lib.hid hp.at.seats.len
  obtain ⟨e1, e2, e3, e4, e5, e6, e7, e8, e9⟩ := he
  obtain ⟨an, nn, cn, ag, ng, cg, ap, np, cp, ar, nr, cr, ae, ne, ce⟩ := h
  have hF := FO.start hp hB #[.string p.loc, .string p.off, .slice an nn cn, .slice ag ng cg, .slice ap np cp, .int .i64 p.tik.kind, .int .i64 p.tik.day, .int .i64 p.tik.min, .string p.rc, .slice ar nr cr, .slice ae ne ce, .bool p.queued] #[.int .i64 e.kind, .string e.nam.last, .string e.nam.first, .string e.seg.car, .int .i64 e.seg.num, .int .i64 e.seg.day, .int .u8 e.seg.cls, .bool e.seg.live, .int .i64 e.tik.kind, .int .i64 e.tik.day, .int .i64 e.tik.min, .string e.text, .int .i64 e.n, .int .i64 e.pax, .int .i64 e.row, .int .u8 e.let_] zc
  unfold zc at hF
  clear hp hs
  dsimp only
  have hne5 := HS.out.ne
  dsimp only at hne5
  have HX := Lib.hid (show freeF p e = (if whoseF p e ≠ 0 then (p, whoseF p e) else if (placesF p.seats e.n e.pax).length = p.seats.length then (p, 9) else ({ p with seats := placesF p.seats e.n e.pax }, 0)) from rfl)
  rcases whoseF_three p e with q2 | q2
  case inr =>
    have hne : ¬ whoseF p e = 0 := by rcases q2 with q | q <;> rw [q] <;> omega
    have hfin := Lib.hid (HX.out.trans (if_pos hne))
    have q3 : (whoseF p e != 0) = true := by rw [bne_iff_ne]; exact hne
    clear q2 hne
    go_enter Tryz.func72, Tryz.ntmps72
    go_wp2_with fail
    refine (pwhose_any p _ e _ 0 _ hF.at0 HS.out (Nat.le_refl _) HE.out).mono ?_
    rintro en w1 ⟨rfl, hb1⟩
    have hF1 := hF.step hb1
    clear hb1
    have v1 := hF1.c1
    go_wp2_with (refine store_res rfl (.tmp 4) (.tmp 13) rfl #[.string p.loc, .string p.off, .slice an nn cn, .slice ag ng cg, .slice ap np cp, .int .i64 p.tik.kind, .int .i64 p.tik.day, .int .i64 p.tik.min, .string p.rc, .slice ar nr cr, .slice ae ne ce, .bool p.queued] rfl rfl hF1.r3 rfl rfl (by simp [Value.oneCell']) ?_)
    have hF9 := hF1.put3 #[.string p.loc, .string p.off, .slice an nn cn, .slice ag ng cg, .slice ap np cp, .int .i64 p.tik.kind, .int .i64 p.tik.day, .int .i64 p.tik.min, .string p.rc, .slice ar nr cr, .slice ae ne ce, .bool p.queued]
    refine ret_ct Tryz.results72 hF9.r3 rfl rfl rfl rfl ?_
    exact RetO.mk' (h' := (Hd.mk an nn cn ag ng cg ap np cp ar nr cr ae ne ce)) hfin.out hF9.op hF9.fb (fun k hk => .inl hk)
  have HX1 := Lib.hid (HX.out.trans (if_neg (by rw [q2]; simp)))
  have hpx : e.pax ≠ 0 := by
    intro h0
    unfold whoseF at q2
    split at q2
    · split at q2
      · rename_i h
        omega
      · omega
    · omega
  have HFl := Lib.hid (filter_with (l := p.seats) (sg := e.n) hpx)
  clear hpx
  by_cases hm : (placesF p.seats e.n e.pax).length = ne
  · have hfin := Lib.hid (HX1.out.trans (if_pos (by rw [HL.out]; exact hm)))
    have hm2 : (((placesF p.seats e.n e.pax).length : Int) == (ne : Int)) = true := by rw [beq_iff_eq]; omega
    clear hm
    go_enter Tryz.func72, Tryz.ntmps72
    go_wp2_with fail
    refine (pwhose_any p _ e _ 0 _ hF.at0 HS.out (Nat.le_refl _) HE.out).mono ?_
    rintro en w1 ⟨rfl, hb1⟩
    have hF1 := hF.step hb1
    clear hb1
    have v1 := hF1.c1
    have v2 := hF1.c2
    rw [q2]
    go_wp2_with fail
    refine (without_any p.seats ae ne ce e.n e.pax _ 0 _ hF1.at0.seats hne5 (Nat.le_refl _) HCap.out.ae).mono ?_
    rintro en w6 ⟨A5, c5, rfl, hown6, hb6⟩
    rw [HFl.out] at hown6 ⊢
    have hF6 := hF1.step hb6
    clear v1 v2
    have v1 := hF6.c1
    have v2 := hF6.c2
    go_wp2_with (refine store_res rfl (.tmp 4) (.tmp 28) rfl #[.string p.loc, .string p.off, .slice an nn cn, .slice ag ng cg, .slice ap np cp, .int .i64 p.tik.kind, .int .i64 p.tik.day, .int .i64 p.tik.min, .string p.rc, .slice ar nr cr, .slice ae ne ce, .bool p.queued] rfl rfl hF6.r3 rfl rfl (by simp [Value.oneCell']) ?_)
    have hF9 := hF6.put3 #[.string p.loc, .string p.off, .slice an nn cn, .slice ag ng cg, .slice ap np cp, .int .i64 p.tik.kind, .int .i64 p.tik.day, .int .i64 p.tik.min, .string p.rc, .slice ar nr cr, .slice ae ne ce, .bool p.queued]
    refine ret_ct Tryz.results72 hF9.r3 rfl rfl rfl rfl ?_
    exact RetO.mk' (h' := (Hd.mk an nn cn ag ng cg ap np cp ar nr cr ae ne ce)) hfin.out hF9.op hF9.fb (fun k hk => .inl hk)
  · have hfin := Lib.hid (HX1.out.trans (if_neg (by rw [HL.out]; exact hm)))
    have hm2 : (((placesF p.seats e.n e.pax).length : Int) == (ne : Int)) = false := by rw [beq_eq_false_iff_ne]; omega
    clear hm
    go_enter Tryz.func72, Tryz.ntmps72
    go_wp2_with fail
    refine (pwhose_any p _ e _ 0 _ hF.at0 HS.out (Nat.le_refl _) HE.out).mono ?_
    rintro en w1 ⟨rfl, hb1⟩
    have hF1 := hF.step hb1
    clear hb1
    have v1 := hF1.c1
    have v2 := hF1.c2
    rw [q2]
    go_wp2_with fail
    refine (without_any p.seats ae ne ce e.n e.pax _ 0 _ hF1.at0.seats hne5 (Nat.le_refl _) HCap.out.ae).mono ?_
    rintro en w6 ⟨A5, c5, rfl, hown6, hb6⟩
    rw [HFl.out] at hown6 ⊢
    have hF6 := hF1.step hb6
    have hz1 := hF1.z
    clear v1 v2
    have v1 := hF6.c1
    have v2 := hF6.c2
    have v6 := hF6.f1
    have hz6 := hF6.z
    have hz9 : w.heap.size < w6.heap.size := by omega
    have hF7 : FO w B p _ #[.string p.loc, .string p.off, .slice an nn cn, .slice ag ng cg, .slice ap np cp, .int .i64 p.tik.kind, .int .i64 p.tik.day, .int .i64 p.tik.min, .string p.rc, .slice ar nr cr, .slice A5 (placesF p.seats e.n e.pax).length c5, .bool p.queued] #[.int .i64 e.kind, .string e.nam.last, .string e.nam.first, .string e.seg.car, .int .i64 e.seg.num, .int .i64 e.seg.day, .int .u8 e.seg.cls, .bool e.seg.live, .int .i64 e.tik.kind, .int .i64 e.tik.day, .int .i64 e.tik.min, .string e.text, .int .i64 e.n, .int .i64 e.pax, .int .i64 e.row, .int .u8 e.let_] zc _ := hF6.put1 10 (.slice A5 (placesF p.seats e.n e.pax).length c5)
    go_wp2_with (refine store_res rfl (.tmp 4) (.tmp 31) rfl #[.string p.loc, .string p.off, .slice an nn cn, .slice ag ng cg, .slice ap np cp, .int .i64 p.tik.kind, .int .i64 p.tik.day, .int .i64 p.tik.min, .string p.rc, .slice ar nr cr, .slice A5 (placesF p.seats e.n e.pax).length c5, .bool p.queued] rfl rfl hF7.r3 rfl rfl (by simp [Value.oneCell']) ?_)
    have hF9 := hF7.put3 #[.string p.loc, .string p.off, .slice an nn cn, .slice ag ng cg, .slice ap np cp, .int .i64 p.tik.kind, .int .i64 p.tik.day, .int .i64 p.tik.min, .string p.rc, .slice ar nr cr, .slice A5 (placesF p.seats e.n e.pax).length c5, .bool p.queued]
    refine ret_ct Tryz.results72 hF9.r3 rfl rfl rfl rfl ?_
    have hO8 := ((hown6.more (B' := w.heap.size + 1 + 1 + 1) (by omega)).setCell (p := ⟨w.heap.size, 10, none⟩) (by simp; omega) (.slice A5 (placesF p.seats e.n e.pax).length c5)).setRow (g := w.heap.size + 1 + 1) (by omega) #[.string p.loc, .string p.off, .slice an nn cn, .slice ag ng cg, .slice ap np cp, .int .i64 p.tik.kind, .int .i64 p.tik.day, .int .i64 p.tik.min, .string p.rc, .slice ar nr cr, .slice A5 (placesF p.seats e.n e.pax).length c5, .bool p.queued]
    exact RetO.mk' (q := { p with seats := placesF p.seats e.n e.pax }) (h' := (Hd.mk an nn cn ag ng cg ap np cp ar nr cr A5 (placesF p.seats e.n e.pax).length c5)) hfin.out (hF9.op.withSeats (hO8.more (by omega))) hF9.fb (rows_seats (h := (Hd.mk an nn cn ag ng cg ap np cp ar nr cr ae ne ce)) fun k hk => by have := (hO8.bk_lt k hk).1; omega)
end Go.Proofs.YtpgeoahlhdifoaaGreatDoor
namespace Go.Proofs.YtpgeoahlhdifoaaGreatDoor
set_option linter.unusedVariables false
open Go Go.RowKit
theorem aftP_eq (e : Edit) : aftP e = afterB e := by
  funext x
  unfold aftP afterB
  rw [Bool.eq_iff_iff]
  simp
theorem any_of_filter {P : Plc → Bool} {l : List Plc} (h : l.filter (fun x => !P x) = l) : l.any P = false := by
  rw [List.any_eq_false]
  intro x hx
  have := List.filter_eq_self.1 h x hx
  simpa using this
theorem insF_end {e : Edit} {l : List Plc} (h : idxF (aftP e) l = -1) : insF e l = insL l l.length (mine e) := by
  have h1 := any_of_filter (idxF_none h)
  rw [aftP_eq] at h1
  have h2 := insF_none e l [] h1
  rw [List.append_nil] at h2
  rw [h2]
  simp [insL, insF]
theorem insF_at {e : Edit} {l : List Plc} {k : Nat} (h : idxF (aftP e) l = k) : k < l.length ∧ insF e l = insL l k (mine e) := by
  obtain ⟨hk, ⟨x, hx, hp⟩, hf⟩ := idxF_get h
  refine ⟨hk, ?_⟩
  have h1 := any_of_filter hf
  rw [aftP_eq] at h1 hp
  have hd : l.drop k = x :: l.drop (k + 1) := by
    rw [List.drop_eq_getElem_cons hk]
    congr 1
    rw [List.getElem?_eq_getElem hk] at hx
    injection hx
  have h2 := insF_none e (l.take k) (l.drop k) h1
  rw [List.take_append_drop] at h2
  rw [h2, insL, hd]
  simp [insF, hp]
section
variable {w : World} {D : Nat} {p : Pnr} {h : Hd} {pc ec rc : Array Value} {W W1 : World}
/-- A new row is turned. -/
theorem FO.grown {row : Option Nat} (H : FO w D p h pc ec rc W) (hg : W.grownBy W1 row) (hr : ∀ k, row = some k → w.heap.size + 1 + 1 < k) : FO w D p h pc ec rc W1 := by
  refine ⟨H.fb.grown hg fun k hk => ⟨by have := H.fb.le; have := hr k hk; omega, .inr (hr k hk)⟩, ?_, H.lt⟩
  cases row with
  | none => exact H.op.keep ⟨hg.os, hg.tape, hg.output, hg.size, fun k hk => hg.block k hk (by simp)⟩
  | some g => exact H.op.grown (g := g) (fun k hk => by have := H.lt k hk; have := hr g rfl; omega) hg
end
set_option maxRecDepth 100000 in
set_option maxHeartbeats 8000000 in
theorem pseat_any (p : Pnr) (h : Hd) (e : Edit) (w : World) (B : Nat) (hp : OP w B p h) (hB : B ≤ w.heap.size) (hs : p.small 100000) (he : e.ok) :
    Calls Tryz.prog 71 #[.agg #[.string p.loc, .string p.off, .slice h.an h.nn h.cn, .slice h.ag h.ng h.cg, .slice h.ap h.np h.cp, .int .i64 p.tik.kind, .int .i64 p.tik.day, .int .i64 p.tik.min, .string p.rc, .slice h.ar h.nr h.cr, .slice h.ae h.ne h.ce, .bool p.queued], .agg #[.int .i64 e.kind, .string e.nam.last, .string e.nam.first, .string e.seg.car, .int .i64 e.seg.num, .int .i64 e.seg.day, .int .u8 e.seg.cls, .bool e.seg.live, .int .i64 e.tik.kind, .int .i64 e.tik.day, .int .i64 e.tik.min, .string e.text, .int .i64 e.n, .int .i64 e.pax, .int .i64 e.row, .int .u8 e.let_]] w (RetO w B h (seatF p e)) := by
  have HS := Lib.hid (hp.hd hs)
  have HE := Lib.hid he
  have HCap := Lib.hid hp.ps.caps
  have HL := Lib.hid hp.at.seats.len
  obtain ⟨e1, e2, e3, e4, e5, e6, e7, e8, e9⟩ := he
  have hmine : Hid (Plc.ok (mine e)) := ⟨e6, e7, e8, e9⟩
  unfold okInt at e6 e7 e8
  unfold okByte at e9
  obtain ⟨an, nn, cn, ag, ng, cg, ap, np, cp, ar, nr, cr, ae, ne, ce⟩ := h
  have hF := FO.start hp hB #[.string p.loc, .string p.off, .slice an nn cn, .slice ag ng cg, .slice ap np cp, .int .i64 p.tik.kind, .int .i64 p.tik.day, .int .i64 p.tik.min, .string p.rc, .slice ar nr cr, .slice ae ne ce, .bool p.queued] #[.int .i64 e.kind, .string e.nam.last, .string e.nam.first, .string e.seg.car, .int .i64 e.seg.num, .int .i64 e.seg.day, .int .u8 e.seg.cls, .bool e.seg.live, .int .i64 e.tik.kind, .int .i64 e.tik.day, .int .i64 e.tik.min, .string e.text, .int .i64 e.n, .int .i64 e.pax, .int .i64 e.row, .int .u8 e.let_] zc
  unfold zc at hF
  clear hp hs
  dsimp only
  have hne5 := HS.out.ne
  dsimp only at hne5
  have HX := Lib.hid (show seatF p e = (if seatB e.row e.let_ = false then (p, 4) else if whoseF p e ≠ 0 then (p, whoseF p e) else if p.seats.any (takenB e) = true then (p, 14) else ({ p with seats := insF e (placesF p.seats e.n e.pax) }, 0)) from rfl)
  rcases Bool.eq_false_or_eq_true (seatB e.row e.let_) with q1 | q1
  case inr =>
    have hfin := Lib.hid (HX.out.trans (if_pos q1))
    go_enter Tryz.func71, Tryz.ntmps71
    go_wp2_with fail
    refine (ptext_any _ _ _ e9.1 e9.2).mono ?_
    rintro en w2 ⟨t, rfl, ht, hb2⟩
    rw [q1] at ht
    have hF2 := hF.step hb2
    clear hF hb2
    have x1 := hF2.c1
    go_wp2_with (refine store_res rfl (.tmp 4) (.tmp 14) rfl #[.string p.loc, .string p.off, .slice an nn cn, .slice ag ng cg, .slice ap np cp, .int .i64 p.tik.kind, .int .i64 p.tik.day, .int .i64 p.tik.min, .string p.rc, .slice ar nr cr, .slice ae ne ce, .bool p.queued] rfl rfl hF2.r3 rfl rfl (by simp [Value.oneCell']) ?_)
    have hF9 := hF2.put3 #[.string p.loc, .string p.off, .slice an nn cn, .slice ag ng cg, .slice ap np cp, .int .i64 p.tik.kind, .int .i64 p.tik.day, .int .i64 p.tik.min, .string p.rc, .slice ar nr cr, .slice ae ne ce, .bool p.queued]
    refine ret_ct Tryz.results71 hF9.r3 rfl rfl rfl rfl ?_
    exact RetO.mk' (h' := (Hd.mk an nn cn ag ng cg ap np cp ar nr cr ae ne ce)) hfin.out hF9.op hF9.fb (fun k hk => .inl hk)
  have HX1 := Lib.hid (HX.out.trans (if_neg (by rw [q1]; simp)))
  rcases whoseF_three p e with q2 | q2
  case inr =>
    have hne : ¬ whoseF p e = 0 := by rcases q2 with q | q <;> rw [q] <;> omega
    have hfin := Lib.hid (HX1.out.trans (if_pos hne))
    have q3 : (whoseF p e != 0) = true := by rw [bne_iff_ne]; exact hne
    clear q2 hne
    go_enter Tryz.func71, Tryz.ntmps71
    go_wp2_with fail
    refine (ptext_any _ _ _ e9.1 e9.2).mono ?_
    rintro en w2 ⟨t, rfl, ht, hb2⟩
    rw [q1] at ht
    have hF2 := hF.step hb2
    clear hF hb2
    have x1 := hF2.c1
    have x2 := hF2.c2
    go_wp2_with fail
    refine (pwhose_any p _ e _ 0 _ hF2.at0 HS.out (Nat.le_refl _) HE.out).mono ?_
    rintro en w1 ⟨rfl, hb1⟩
    have hF1 := hF2.step hb1
    clear hb1 x1 x2
    have v1 := hF1.c1
    go_wp2_with (refine store_res rfl (.tmp 4) (.tmp 20) rfl #[.string p.loc, .string p.off, .slice an nn cn, .slice ag ng cg, .slice ap np cp, .int .i64 p.tik.kind, .int .i64 p.tik.day, .int .i64 p.tik.min, .string p.rc, .slice ar nr cr, .slice ae ne ce, .bool p.queued] rfl rfl hF1.r3 rfl rfl (by simp [Value.oneCell']) ?_)
    have hF9 := hF1.put3 #[.string p.loc, .string p.off, .slice an nn cn, .slice ag ng cg, .slice ap np cp, .int .i64 p.tik.kind, .int .i64 p.tik.day, .int .i64 p.tik.min, .string p.rc, .slice ar nr cr, .slice ae ne ce, .bool p.queued]
    refine ret_ct Tryz.results71 hF9.r3 rfl rfl rfl rfl ?_
    exact RetO.mk' (h' := (Hd.mk an nn cn ag ng cg ap np cp ar nr cr ae ne ce)) hfin.out hF9.op hF9.fb (fun k hk => .inl hk)
  have HX2 := Lib.hid (HX1.out.trans (if_neg (by rw [q2]; simp)))
  have hpx : e.pax ≠ 0 := by
    intro h0
    unfold whoseF at q2
    split at q2
    · split at q2
      · rename_i h
        omega
      · omega
    · omega
  have HFl := Lib.hid (filter_with (l := p.seats) (sg := e.n) hpx)
  clear hpx HX HX1
  go_enter Tryz.func71, Tryz.ntmps71
  go_wp2_with fail
  refine (ptext_any _ _ _ e9.1 e9.2).mono ?_
  rintro en w2 ⟨t, rfl, ht, hb2⟩
  rw [q1] at ht
  have hF2 := hF.step hb2
  clear hF hb2
  have x1 := hF2.c1
  have x2 := hF2.c2
  go_wp2_with fail
  refine (pwhose_any p _ e _ 0 _ hF2.at0 HS.out (Nat.le_refl _) HE.out).mono ?_
  rintro en w1 ⟨rfl, hb1⟩
  rw [q2]
  have hF1 := hF2.step hb1
  clear hF2 hb1 x1 x2 q2 q1 ht
  have x1 := hF1.c1
  have x2 := hF1.c2
  go_wp2
  go_loopw [8, 25] (fun _ i wr => ∃ k : Nat, k ≤ ne ∧ i = .int .i64 k ∧ Hid ((p.seats.take k).any (takenB e) = false) ∧ FO w B p (Hd.mk an nn cn ag ng cg ap np cp ar nr cr ae ne ce) #[.string p.loc, .string p.off, .slice an nn cn, .slice ag ng cg, .slice ap np cp, .int .i64 p.tik.kind, .int .i64 p.tik.day, .int .i64 p.tik.min, .string p.rc, .slice ar nr cr, .slice ae ne ce, .bool p.queued] #[.int .i64 e.kind, .string e.nam.last, .string e.nam.first, .string e.seg.car, .int .i64 e.seg.num, .int .i64 e.seg.day, .int .u8 e.seg.cls, .bool e.seg.live, .int .i64 e.tik.kind, .int .i64 e.tik.day, .int .i64 e.tik.min, .string e.text, .int .i64 e.n, .int .i64 e.pax, .int .i64 e.row, .int .u8 e.let_] zc wr) (fun _ i _ => ne - (intOf i).toNat)
  case atStart => exact ⟨0, Nat.zero_le _, rfl, (by simp [Hid]), hF1⟩
  case round =>
    clear hF1 x1 x2
    obtain ⟨k, hk, rfl, hany, hFr⟩ := hrel
    have y1 := hFr.c1
    have y2 := hFr.c2
    have hzr := hFr.z
    by_cases hlt : k < ne
    · obtain ⟨b, o, x, rfl, h1, h2, hx, hok, c0, c1, c2, c3⟩ := hFr.at0.seats.plc_ hlt
      obtain ⟨xs, xp, xr, xl⟩ := x
      dsimp only at c0 c1 c2 c3
      have heq := fun u => eql_seat xr e.row xl e.let_ u
      have htk : Hid (takenB e ⟨xs, xp, xr, xl⟩ = ((xs == e.n) && ((decide (xr = e.row) && decide (xl = e.let_)) && (xp != e.pax)))) := rfl
      generalize hb1 : (xs == e.n) = b1 at htk
      generalize hb2 : (decide (xr = e.row) && decide (xl = e.let_)) = b2 at htk heq
      clear hb2
      generalize hb3 : (xp != e.pax) = b3 at htk
      have hk0 : (0 : Int) ≤ k := by omega
      have hkl : (k : Int) < ne := by omega
      have hbs : b < wr.heap.size := h2
      have hFa := hFr.alloc (.cells #[.int .i64 xs, .int .i64 xp, .int .i64 xr, .int .u8 xl] 87)
      have z0 : w.heap.size < wr.heap.size := by omega
      have z1 : w.heap.size + 1 < wr.heap.size := by omega
      rcases b1 with _ | _ <;> rcases b2 with _ | _ <;> rcases b3 with _ | _
      case true.true.true =>
        have hfin := Lib.hid (show seatF p e = (p, 14) by rw [HX2.out, if_pos (any_taken_hit hx.out htk.out)])
        go_wp2_with (refine store_res rfl (.tmp 4) (.tmp 48) rfl #[.string p.loc, .string p.off, .slice an nn cn, .slice ag ng cg, .slice ap np cp, .int .i64 p.tik.kind, .int .i64 p.tik.day, .int .i64 p.tik.min, .string p.rc, .slice ar nr cr, .slice (some ⟨b, o, none⟩) ne ce, .bool p.queued] rfl rfl hFa.r3 rfl rfl (by simp [Value.oneCell']) ?_)
        have hF9 := hFa.put3 #[.string p.loc, .string p.off, .slice an nn cn, .slice ag ng cg, .slice ap np cp, .int .i64 p.tik.kind, .int .i64 p.tik.day, .int .i64 p.tik.min, .string p.rc, .slice ar nr cr, .slice (some ⟨b, o, none⟩) ne ce, .bool p.queued]
        refine ret_ct Tryz.results71 hF9.r3 rfl rfl rfl rfl ?_
        exact RetO.mk' (h' := (Hd.mk an nn cn ag ng cg ap np cp ar nr cr (some ⟨b, o, none⟩) ne ce)) hfin.out hF9.op hF9.fb (fun k hk => .inl hk)
      all_goals
        have hno := Lib.hid (any_taken_step hx.out hany.out htk.out)
        go_wp2
        go_roundw
        case rel => exact ⟨k + 1, by omega, by go_num, hno, hFa⟩
        case measure => simp [intOf]; omega
    · obtain rfl : ne = k := by omega
      have HX3 := Lib.hid (HX2.out.trans (if_neg (by
          have := hany.out
          rw [List.take_of_length_le (by have := HL.out; omega)] at this
          rw [this]; simp)))
      clear hany HX2
      have hplen := placesF_len p.seats e.n e.pax
      have hLl := HL.out
      rw [hLl] at hplen
      clear hLl
      go_wp2_with fail
      refine (without_any p.seats ae ne ce e.n e.pax _ 0 _ hFr.at0.seats hne5 (Nat.le_refl _) HCap.out.ae).mono ?_
      rintro en w5 ⟨A5, c5, rfl, hown5, hb5⟩
      rw [HFl.out] at hown5 ⊢
      have hF5 := hFr.step hb5
      have hown5' := hown5.more (B' := w.heap.size + 1 + 1 + 1) (by omega)
      clear HFl
      generalize placesF p.seats e.n e.pax = rest at HX3 hown5' hplen ⊢
      clear y1 y2 hFr hown5 hb5
      have x1 := hF5.c1
      have x2 := hF5.c2
      have f1 := hF5.f1
      have z5 := hF5.z
      have z5a : w.heap.size < w5.heap.size := by omega
      go_upto_region 13 with fail
      refine wp_world (fun W => FO w B p (Hd.mk an nn cn ag ng cg ap np cp ar nr cr ae ne ce) #[.string p.loc, .string p.off, .slice an nn cn, .slice ag ng cg, .slice ap np cp, .int .i64 p.tik.kind, .int .i64 p.tik.day, .int .i64 p.tik.min, .string p.rc, .slice ar nr cr, .slice A5 rest.length c5, .bool p.queued] #[.int .i64 e.kind, .string e.nam.last, .string e.nam.first, .string e.seg.car, .int .i64 e.seg.num, .int .i64 e.seg.day, .int .u8 e.seg.cls, .bool e.seg.live, .int .i64 e.tik.kind, .int .i64 e.tik.day, .int .i64 e.tik.min, .string e.text, .int .i64 e.n, .int .i64 e.pax, .int .i64 e.row, .int .u8 e.let_] zc W ∧ Own W (w.heap.size + 1 + 1 + 1) 87 tPlc (.slice A5 rest.length c5) rest) ⟨hF5.put1 10 _, hown5'.setCell (p := ⟨w.heap.size, 10, none⟩) (by simp; omega) _⟩ ?_
      clear x1 x2 f1 hF5 hown5' z5 z5a
      rintro W6 ⟨hF6, hown6⟩
      have x1 := hF6.c1
      have x2 := hF6.c2
      have z6 := hF6.z
      have hpr := aft_pred (w.heap.size + 1) e W6 none (by simp) (by omega) hF6.c2
      go_wp2_with fail
      refine (index_any (aftP e) _ _ rest A5 rest.length c5 W6 _ _ hown6.sl (by omega) (Nat.le_refl _) none hpr eg_aft).mono ?_
      rintro en w7 ⟨rfl, hb7⟩
      have hF7 := hF6.step hb7
      have hown7 := hown6.keep hb7
      have z7 := hF7.z
      clear x1 x2 hF6 hown6 hpr hb7
      rcases idxF_cases (aftP e) rest with hi | ⟨k, hi⟩
      · rw [hi]
        have HI := Lib.hid (insF_end hi)
        clear hi
        have x1 := hF7.c1
        have x2 := hF7.c2
        go_wp2_with fail
        refine (insert_any rest A5 rest.length c5 rest.length (mine e) w7.heap.size _ (w.heap.size + 1 + 1 + 1) (hown7.alloc _) (Nat.le_refl _) (by omega) (by simp; omega) hmine.out (Bx.new w7 _ _) (fun e => by have := (hown7.bk_lt _ e).2; omega)).mono ?_
        rintro en w8 ⟨A8, c8, rfl, hown8, hg8, hb8⟩
        rw [← HI.out] at hown8
        have hF8 := (hF7.alloc (.cells #[.int .i64 e.n, .int .i64 e.pax, .int .i64 e.row, .int .u8 e.let_] 87)).grown hg8 (fun k hk => by have := (hown7.bk_lt k hk).1; omega)
        clear x1 x2
        have x1 := hF8.c1
        have x2 := hF8.c2
        have f1 := hF8.f1
        have z8 := hF8.z
        have z8a : w.heap.size < w8.heap.size := by omega
        have hF9 : FO w B p (Hd.mk an nn cn ag ng cg ap np cp ar nr cr ae ne ce) #[.string p.loc, .string p.off, .slice an nn cn, .slice ag ng cg, .slice ap np cp, .int .i64 p.tik.kind, .int .i64 p.tik.day, .int .i64 p.tik.min, .string p.rc, .slice ar nr cr, .slice A8 (rest.length + 1) c8, .bool p.queued] #[.int .i64 e.kind, .string e.nam.last, .string e.nam.first, .string e.seg.car, .int .i64 e.seg.num, .int .i64 e.seg.day, .int .u8 e.seg.cls, .bool e.seg.live, .int .i64 e.tik.kind, .int .i64 e.tik.day, .int .i64 e.tik.min, .string e.text, .int .i64 e.n, .int .i64 e.pax, .int .i64 e.row, .int .u8 e.let_] zc _ := hF8.put1 10 (.slice A8 (rest.length + 1) c8)
        go_wp2_with (refine store_res rfl (.tmp 4) (.tmp 80) rfl #[.string p.loc, .string p.off, .slice an nn cn, .slice ag ng cg, .slice ap np cp, .int .i64 p.tik.kind, .int .i64 p.tik.day, .int .i64 p.tik.min, .string p.rc, .slice ar nr cr, .slice A8 (rest.length + 1) c8, .bool p.queued] rfl rfl hF9.r3 rfl rfl (by simp [Value.oneCell']) ?_)
        have hFz := hF9.put3 #[.string p.loc, .string p.off, .slice an nn cn, .slice ag ng cg, .slice ap np cp, .int .i64 p.tik.kind, .int .i64 p.tik.day, .int .i64 p.tik.min, .string p.rc, .slice ar nr cr, .slice A8 (rest.length + 1) c8, .bool p.queued]
        refine ret_ct Tryz.results71 hFz.r3 rfl rfl rfl rfl ?_
        have hO8 := (hown8.setCell (p := ⟨w.heap.size, 10, none⟩) (by simp; omega) (.slice A8 (rest.length + 1) c8)).setRow (g := w.heap.size + 1 + 1) (by omega) #[.string p.loc, .string p.off, .slice an nn cn, .slice ag ng cg, .slice ap np cp, .int .i64 p.tik.kind, .int .i64 p.tik.day, .int .i64 p.tik.min, .string p.rc, .slice ar nr cr, .slice A8 (rest.length + 1) c8, .bool p.queued]
        exact RetO.mk' (q := { p with seats := insF e rest }) (h' := (Hd.mk an nn cn ag ng cg ap np cp ar nr cr A8 (rest.length + 1) c8)) HX3.out (hFz.op.withSeats (hO8.more (by omega))) hFz.fb (rows_seats (h := (Hd.mk an nn cn ag ng cg ap np cp ar nr cr ae ne ce)) fun k hk => by have := (hO8.bk_lt k hk).1; omega)
      · rw [hi]
        have hkr := (insF_at hi).1
        have HI := Lib.hid (insF_at hi).2
        clear hi
        have hk0 : (0 : Int) ≤ (k : Int) := by omega
        have x1 := hF7.c1
        have x2 := hF7.c2
        go_wp2_with fail
        refine (insert_any rest A5 rest.length c5 k (mine e) w7.heap.size _ (w.heap.size + 1 + 1 + 1) (hown7.alloc _) (by omega) (by omega) (by simp; omega) hmine.out (Bx.new w7 _ _) (fun e => by have := (hown7.bk_lt _ e).2; omega)).mono ?_
        rintro en w8 ⟨A8, c8, rfl, hown8, hg8, hb8⟩
        rw [← HI.out] at hown8
        have hF8 := (hF7.alloc (.cells #[.int .i64 e.n, .int .i64 e.pax, .int .i64 e.row, .int .u8 e.let_] 87)).grown hg8 (fun k hk => by have := (hown7.bk_lt k hk).1; omega)
        clear x1 x2
        have x1 := hF8.c1
        have x2 := hF8.c2
        have f1 := hF8.f1
        have z8 := hF8.z
        have z8a : w.heap.size < w8.heap.size := by omega
        have hF9 : FO w B p (Hd.mk an nn cn ag ng cg ap np cp ar nr cr ae ne ce) #[.string p.loc, .string p.off, .slice an nn cn, .slice ag ng cg, .slice ap np cp, .int .i64 p.tik.kind, .int .i64 p.tik.day, .int .i64 p.tik.min, .string p.rc, .slice ar nr cr, .slice A8 (rest.length + 1) c8, .bool p.queued] #[.int .i64 e.kind, .string e.nam.last, .string e.nam.first, .string e.seg.car, .int .i64 e.seg.num, .int .i64 e.seg.day, .int .u8 e.seg.cls, .bool e.seg.live, .int .i64 e.tik.kind, .int .i64 e.tik.day, .int .i64 e.tik.min, .string e.text, .int .i64 e.n, .int .i64 e.pax, .int .i64 e.row, .int .u8 e.let_] zc _ := hF8.put1 10 (.slice A8 (rest.length + 1) c8)
        go_wp2_with (refine store_res rfl (.tmp 4) (.tmp 80) rfl #[.string p.loc, .string p.off, .slice an nn cn, .slice ag ng cg, .slice ap np cp, .int .i64 p.tik.kind, .int .i64 p.tik.day, .int .i64 p.tik.min, .string p.rc, .slice ar nr cr, .slice A8 (rest.length + 1) c8, .bool p.queued] rfl rfl hF9.r3 rfl rfl (by simp [Value.oneCell']) ?_)
        have hFz := hF9.put3 #[.string p.loc, .string p.off, .slice an nn cn, .slice ag ng cg, .slice ap np cp, .int .i64 p.tik.kind, .int .i64 p.tik.day, .int .i64 p.tik.min, .string p.rc, .slice ar nr cr, .slice A8 (rest.length + 1) c8, .bool p.queued]
        refine ret_ct Tryz.results71 hFz.r3 rfl rfl rfl rfl ?_
        have hO8 := (hown8.setCell (p := ⟨w.heap.size, 10, none⟩) (by simp; omega) (.slice A8 (rest.length + 1) c8)).setRow (g := w.heap.size + 1 + 1) (by omega) #[.string p.loc, .string p.off, .slice an nn cn, .slice ag ng cg, .slice ap np cp, .int .i64 p.tik.kind, .int .i64 p.tik.day, .int .i64 p.tik.min, .string p.rc, .slice ar nr cr, .slice A8 (rest.length + 1) c8, .bool p.queued]
        exact RetO.mk' (q := { p with seats := insF e rest }) (h' := (Hd.mk an nn cn ag ng cg ap np cp ar nr cr A8 (rest.length + 1) c8)) HX3.out (hFz.op.withSeats (hO8.more (by omega))) hFz.fb (rows_seats (h := (Hd.mk an nn cn ag ng cg ap np cp ar nr cr ae ne ce)) fun k hk => by have := (hO8.bk_lt k hk).1; omega)
end Go.Proofs.YtpgeoahlhdifoaaGreatDoor
