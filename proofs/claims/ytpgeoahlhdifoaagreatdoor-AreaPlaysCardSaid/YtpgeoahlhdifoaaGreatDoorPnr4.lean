/- The program's edits of a PNR: a name, a segment, a text. -/
import Derived.Test.YtpgeoahlhdifoaaGreatDoorPnr1
import Derived.Test.YtpgeoahlhdifoaaGreatDoorMOwnp
import Derived.BigGuardPart
namespace Go.Proofs.YtpgeoahlhdifoaaGreatDoor
set_option linter.unusedVariables false
open Go Go.RowKit
/-- What lies apart from the boxes is kept when a box and the result are written. -/
theorem OP.fin {w W : World} {B : Nat} {q : Pnr} {h' : Hd} (H : OP W B q h') (hr : ∀ k, bk h'.an = some k ∨ bk h'.ag = some k ∨ bk h'.ap = some k ∨ bk h'.ar = some k ∨ bk h'.ae = some k → k < w.heap.size ∨ w.heap.size + 1 + 1 < k) (i : Nat) (u : Value) (cs : Array Value) :
    OP ((W.setCell ⟨w.heap.size, i, none⟩ u).setRow (w.heap.size + 1 + 1) cs) B q h' := by
  have h1 : OP (W.setCell ⟨w.heap.size, i, none⟩ u) B q h' := H.grown (g := w.heap.size) (fun k hk => by have := hr k hk; omega) ⟨rfl, rfl, rfl, by simp, fun k _ hne => Below.heap_setCell W _ u k (fun e => hne (by rw [e]))⟩
  exact h1.grown (g := w.heap.size + 1 + 1) (fun k hk => by have := hr k hk; omega) ⟨rfl, rfl, rfl, by simp, fun k _ hne => setRow_other _ _ k cs (fun e => hne (by rw [e]))⟩
/-- What a text of a list hands back. -/
def TextQ (w : World) (B : Nat) (A : Option Addr) (r : List ByteArray × Int) (e : Ending) (w' : World) : Prop :=
  ∃ A' c', e = .returned (.tuple #[.slice A' r.1.length c', .int .i64 r.2]) ∧ Own w' B 9 tStr (.slice A' r.1.length c') r.1 ∧ w.grownBy w' (bk A) ∧ (bk A' = bk A ∨ ∀ k, bk A' = some k → w.heap.size ≤ k)
set_option maxRecDepth 100000 in
set_option maxHeartbeats 1000000 in
theorem ptext1_any (l : List ByteArray) (A : Option Addr) (n c : Nat) (s : ByteArray) (most : Int) (w : World) (B : Nat) (hown : Own w B 9 tStr (.slice A n c) l) (hn : n ≤ 100000) (hB : B ≤ w.heap.size) (hs : okStr s) :
    Calls Tryz.prog 65 #[.slice A n c, .string s, .int .i64 most] w (TextQ w B A (textF l s most)) := by
  have hlen := Lib.hid hown.sl.len
  have HX := Lib.hid (show textF l s most = (if freeB s = false then (l, 4) else if most ≤ l.length then (l, 18) else (l ++ [s], 0)) from rfl)
  rcases Bool.eq_false_or_eq_true (freeB s) with q1 | q1
  case inr =>
    have hfin := Lib.hid (HX.out.trans (if_pos q1))
    go_enter Tryz.func65, Tryz.ntmps65
    go_wp2_with fail
    refine (free_any s _ hs).mono ?_
    rintro en w1 ⟨rfl, hb1⟩
    rw [q1]
    go_wp2
    go_ret2
    rw [hfin.out]
    exact ⟨A, c, by rw [hlen.out]; rfl, by rw [hlen.out]; exact hown.keep hb1, ⟨hb1.os, hb1.tape, hb1.output, hb1.size, fun k hk _ => hb1.block k hk⟩, .inl rfl⟩
  by_cases hm : most ≤ (n : Int)
  · have hfin := Lib.hid (HX.out.trans ((if_neg (by rw [q1]; simp)).trans (if_pos (by rw [hlen.out]; exact hm))))
    go_enter Tryz.func65, Tryz.ntmps65
    go_wp2_with fail
    refine (free_any s _ hs).mono ?_
    rintro en w1 ⟨rfl, hb1⟩
    rw [q1]
    go_wp2
    go_ret2
    rw [hfin.out]
    exact ⟨A, c, by rw [hlen.out]; rfl, by rw [hlen.out]; exact hown.keep hb1, ⟨hb1.os, hb1.tape, hb1.output, hb1.size, fun k hk _ => hb1.block k hk⟩, .inl rfl⟩
  · have hfin := Lib.hid (HX.out.trans ((if_neg (by rw [q1]; simp)).trans (if_neg (by rw [hlen.out]; exact hm))))
    go_enter Tryz.func65, Tryz.ntmps65
    go_wp2_with fail
    refine (free_any s _ hs).mono ?_
    rintro en w1 ⟨rfl, hb1⟩
    rw [q1]
    have hown1 := hown.keep hb1
    have hz1 := hb1.size
    go_wp2_with (at_builtin; refine push_told (T := tStr) (v := .slice A n c) (l := l) (B := B) rfl (.tmp 19) (.tmp 21) rfl sl_str rfl hown1 s hs _ rfl rfl (by omega) (by rw [hlen.out]; omega) ?_; intro v' w' hown' hgr hb')
    go_ret2
    rw [hfin.out]
    obtain ⟨A9, c9, rfl⟩ := hown'.form
    rw [ownBlock_bk] at hgr
    rw [ownBlock_bk, ownBlock_bk] at hb'
    refine ⟨A9, c9, rfl, hown', ?_, ?_⟩
    · exact ⟨hgr.os.trans hb1.os, hgr.tape.trans hb1.tape, hgr.output.trans hb1.output, Nat.le_trans hb1.size hgr.size, fun k hk hr => (hgr.block k (by omega) hr).trans (hb1.block k hk)⟩
    · rcases hb' with hb | hb
      · exact .inl hb
      · exact .inr fun k hk => by have := hb k hk; omega
set_option maxRecDepth 100000 in
set_option maxHeartbeats 4000000 in
theorem pname_any (p : Pnr) (h : Hd) (e : Edit) (w : World) (B : Nat) (hp : OP w B p h) (hD : Ap h) (hB : B ≤ w.heap.size) (hs : p.small 100000) (he : e.ok) :
    Calls Tryz.prog 63 #[.agg #[.string p.loc, .string p.off, .slice h.an h.nn h.cn, .slice h.ag h.ng h.cg, .slice h.ap h.np h.cp, .int .i64 p.tik.kind, .int .i64 p.tik.day, .int .i64 p.tik.min, .string p.rc, .slice h.ar h.nr h.cr, .slice h.ae h.ne h.ce, .bool p.queued], .agg #[.int .i64 e.kind, .string e.nam.last, .string e.nam.first, .string e.seg.car, .int .i64 e.seg.num, .int .i64 e.seg.day, .int .u8 e.seg.cls, .bool e.seg.live, .int .i64 e.tik.kind, .int .i64 e.tik.day, .int .i64 e.tik.min, .string e.text, .int .i64 e.n, .int .i64 e.pax, .int .i64 e.row, .int .u8 e.let_]] w (RetO w B h (nameF p e)) := by
  have HS := Lib.hid (hp.hd hs)
  have HSM := Lib.hid hs
  have HE := Lib.hid he
  have HD := Lib.hid hD
  obtain ⟨e1, e2, e3, e4, e5, e6, e7, e8, e9⟩ := he
  have HLn := Lib.hid hp.at.names.len
  have HLg := Lib.hid hp.at.segs.len
  obtain ⟨an, nn, cn, ag, ng, cg, ap, np, cp, ar, nr, cr, ae, ne, ce⟩ := h
  have hF := FO.start hp hB #[.string p.loc, .string p.off, .slice an nn cn, .slice ag ng cg, .slice ap np cp, .int .i64 p.tik.kind, .int .i64 p.tik.day, .int .i64 p.tik.min, .string p.rc, .slice ar nr cr, .slice ae ne ce, .bool p.queued] #[.int .i64 e.kind, .string e.nam.last, .string e.nam.first, .string e.seg.car, .int .i64 e.seg.num, .int .i64 e.seg.day, .int .u8 e.seg.cls, .bool e.seg.live, .int .i64 e.tik.kind, .int .i64 e.tik.day, .int .i64 e.tik.min, .string e.text, .int .i64 e.n, .int .i64 e.pax, .int .i64 e.row, .int .u8 e.let_] zc
  unfold zc at hF
  clear hp hs hD
  dsimp only
  have HX := Lib.hid (show nameF p e = (if nmB e.nam = false then (p, (4 : Int)) else if p.loc.toList.isEmpty = false then (p, 7) else if 9 ≤ p.names.length then (p, 18) else ({ p with names := p.names ++ [e.nam] }, 0)) from rfl)
  have hnm := Lib.hid (show nmB e.nam = (wordB e.nam.last 1 16 && wordB e.nam.first 1 16) from rfl)
  rcases Bool.eq_false_or_eq_true (wordB e.nam.last 1 16) with q1 | q1
  case inr =>
    have hfin := Lib.hid (HX.out.trans (if_pos (by rw [hnm.out, q1]; rfl)))
    go_enter Tryz.func63, Tryz.ntmps63
    go_wp2_with fail
    refine (person_any e.nam.last _ e2.1).mono ?_
    rintro en w1 ⟨rfl, hb1⟩
    rw [q1]
    have hF1 := hF.step hb1
    clear hb1
    have v11 := hF1.c1
    have v21 := hF1.c2
    go_wp2_with (refine store_res rfl (.tmp 4) (.tmp 19) rfl #[.string p.loc, .string p.off, .slice an nn cn, .slice ag ng cg, .slice ap np cp, .int .i64 p.tik.kind, .int .i64 p.tik.day, .int .i64 p.tik.min, .string p.rc, .slice ar nr cr, .slice ae ne ce, .bool p.queued] rfl rfl hF1.r3 rfl rfl (by simp [Value.oneCell']) ?_)
    have hF9 := hF1.put3 #[.string p.loc, .string p.off, .slice an nn cn, .slice ag ng cg, .slice ap np cp, .int .i64 p.tik.kind, .int .i64 p.tik.day, .int .i64 p.tik.min, .string p.rc, .slice ar nr cr, .slice ae ne ce, .bool p.queued]
    refine ret_ct Tryz.results63 hF9.r3 rfl rfl rfl rfl ?_
    exact RetO.mk' (h' := (Hd.mk an nn cn ag ng cg ap np cp ar nr cr ae ne ce)) hfin.out hF9.op hF9.fb (fun k hk => .inl hk)
  rcases Bool.eq_false_or_eq_true (wordB e.nam.first 1 16) with q2 | q2
  case inr =>
    have hfin := Lib.hid (HX.out.trans (if_pos (by rw [hnm.out, q1, q2]; rfl)))
    go_enter Tryz.func63, Tryz.ntmps63
    go_wp2_with fail
    refine (person_any e.nam.last _ e2.1).mono ?_
    rintro en w1 ⟨rfl, hb1⟩
    rw [q1]
    have hF1 := hF.step hb1
    clear hb1
    have v11 := hF1.c1
    have v21 := hF1.c2
    go_wp2_with fail
    refine (person_any e.nam.first _ e2.2).mono ?_
    rintro en w2 ⟨rfl, hb2⟩
    rw [q2]
    have hF2 := hF1.step hb2
    clear hb2
    have v12 := hF2.c1
    have v22 := hF2.c2
    go_wp2_with (refine store_res rfl (.tmp 4) (.tmp 19) rfl #[.string p.loc, .string p.off, .slice an nn cn, .slice ag ng cg, .slice ap np cp, .int .i64 p.tik.kind, .int .i64 p.tik.day, .int .i64 p.tik.min, .string p.rc, .slice ar nr cr, .slice ae ne ce, .bool p.queued] rfl rfl hF2.r3 rfl rfl (by simp [Value.oneCell']) ?_)
    have hF9 := hF2.put3 #[.string p.loc, .string p.off, .slice an nn cn, .slice ag ng cg, .slice ap np cp, .int .i64 p.tik.kind, .int .i64 p.tik.day, .int .i64 p.tik.min, .string p.rc, .slice ar nr cr, .slice ae ne ce, .bool p.queued]
    refine ret_ct Tryz.results63 hF9.r3 rfl rfl rfl rfl ?_
    exact RetO.mk' (h' := (Hd.mk an nn cn ag ng cg ap np cp ar nr cr ae ne ce)) hfin.out hF9.op hF9.fb (fun k hk => .inl hk)
  have HX1 := Lib.hid (HX.out.trans (if_neg (by rw [hnm.out, q1, q2]; simp)))
  rcases Bool.eq_false_or_eq_true p.loc.toList.isEmpty with q4 | q4
  case inr =>
    have hfin := Lib.hid (HX1.out.trans (if_pos q4))
    go_enter Tryz.func63, Tryz.ntmps63
    go_wp2_with fail
    refine (person_any e.nam.last _ e2.1).mono ?_
    rintro en w1 ⟨rfl, hb1⟩
    rw [q1]
    have hF1 := hF.step hb1
    clear hb1
    have v11 := hF1.c1
    have v21 := hF1.c2
    go_wp2_with fail
    refine (person_any e.nam.first _ e2.2).mono ?_
    rintro en w2 ⟨rfl, hb2⟩
    rw [q2]
    have hF2 := hF1.step hb2
    clear hb2
    have v12 := hF2.c1
    have v22 := hF2.c2
    go_wp2_with (refine store_res rfl (.tmp 4) (.tmp 24) rfl #[.string p.loc, .string p.off, .slice an nn cn, .slice ag ng cg, .slice ap np cp, .int .i64 p.tik.kind, .int .i64 p.tik.day, .int .i64 p.tik.min, .string p.rc, .slice ar nr cr, .slice ae ne ce, .bool p.queued] rfl rfl hF2.r3 rfl rfl (by simp [Value.oneCell']) ?_)
    have hF9 := hF2.put3 #[.string p.loc, .string p.off, .slice an nn cn, .slice ag ng cg, .slice ap np cp, .int .i64 p.tik.kind, .int .i64 p.tik.day, .int .i64 p.tik.min, .string p.rc, .slice ar nr cr, .slice ae ne ce, .bool p.queued]
    refine ret_ct Tryz.results63 hF9.r3 rfl rfl rfl rfl ?_
    exact RetO.mk' (h' := (Hd.mk an nn cn ag ng cg ap np cp ar nr cr ae ne ce)) hfin.out hF9.op hF9.fb (fun k hk => .inl hk)
  have HX2 := Lib.hid (HX1.out.trans (if_neg (by rw [q4]; simp)))
  by_cases hm : (9 : Int) ≤ (nn : Int)
  case pos =>
    have hfin := Lib.hid (HX2.out.trans (if_pos (by rw [HLn.out]; first | omega | (dsimp only; omega))))
    go_enter Tryz.func63, Tryz.ntmps63
    go_wp2_with fail
    refine (person_any e.nam.last _ e2.1).mono ?_
    rintro en w1 ⟨rfl, hb1⟩
    rw [q1]
    have hF1 := hF.step hb1
    clear hb1
    have v11 := hF1.c1
    have v21 := hF1.c2
    go_wp2_with fail
    refine (person_any e.nam.first _ e2.2).mono ?_
    rintro en w2 ⟨rfl, hb2⟩
    rw [q2]
    have hF2 := hF1.step hb2
    clear hb2
    have v12 := hF2.c1
    have v22 := hF2.c2
    go_wp2_with (refine store_res rfl (.tmp 4) (.tmp 30) rfl #[.string p.loc, .string p.off, .slice an nn cn, .slice ag ng cg, .slice ap np cp, .int .i64 p.tik.kind, .int .i64 p.tik.day, .int .i64 p.tik.min, .string p.rc, .slice ar nr cr, .slice ae ne ce, .bool p.queued] rfl rfl hF2.r3 rfl rfl (by simp [Value.oneCell']) ?_)
    have hF9 := hF2.put3 #[.string p.loc, .string p.off, .slice an nn cn, .slice ag ng cg, .slice ap np cp, .int .i64 p.tik.kind, .int .i64 p.tik.day, .int .i64 p.tik.min, .string p.rc, .slice ar nr cr, .slice ae ne ce, .bool p.queued]
    refine ret_ct Tryz.results63 hF9.r3 rfl rfl rfl rfl ?_
    exact RetO.mk' (h' := (Hd.mk an nn cn ag ng cg ap np cp ar nr cr ae ne ce)) hfin.out hF9.op hF9.fb (fun k hk => .inl hk)
  have hfin := Lib.hid (HX2.out.trans (if_neg (by rw [HLn.out]; first | omega | (dsimp only; omega))))
  go_enter Tryz.func63, Tryz.ntmps63
  go_wp2_with fail
  refine (person_any e.nam.last _ e2.1).mono ?_
  rintro en w1 ⟨rfl, hb1⟩
  rw [q1]
  have hF1 := hF.step hb1
  clear hb1
  have v11 := hF1.c1
  have v21 := hF1.c2
  go_wp2_with fail
  refine (person_any e.nam.first _ e2.2).mono ?_
  rintro en w2 ⟨rfl, hb2⟩
  rw [q2]
  have hF2 := hF1.step hb2
  clear hb2
  have v12 := hF2.c1
  have v22 := hF2.c2
  go_upto_region 7 with fail
  clear v11 v21 v12 v22
  have hsm := HSM.out.names
  have zF := hF2.z
  have x1 := hF2.c1
  have x2 := hF2.c2
  have x6 := hF2.f1
  have hBz := hF2.fb.le
  go_upto_region 8 with (at_builtin; refine push_told (T := tNam) (v := .slice an nn cn) (l := p.names) (B := B) rfl (.tmp 32) (.tmp 35) rfl sl_nam rfl hF2.op.names e.nam e2 _ rfl rfl (by omega) (by omega) ?_; intro v' w' hown' hgr hb'; obtain ⟨A9, c9, hv9⟩ := hown'.form; rw [List.length_append, List.length_singleton] at hv9; subst hv9; rw [ownBlock_bk] at hgr; rw [ownBlock_bk, ownBlock_bk] at hb'; have hF' := hF2.fb.grown hgr (fun k hk => ⟨(hF2.op.names.bk_lt k hk).1, .inl ⟨(.inl hk), hF2.lt k (.inl hk)⟩⟩); have g1 := hF'.c1; have g2 := hF'.f1; have g3 := hF'.z; have g4 : w.heap.size < w'.heap.size := (by omega))
  have hO' := hF2.op.names' HD.out hgr hown'
  have hrow : ∀ k, bk A9 = some k → k < w.heap.size ∨ w.heap.size + 1 + 1 < k := fun k hk => by
    rcases hb' with hb | hb
    · exact .inl (hF2.lt k (by rw [hb] at hk; exact (.inl hk)))
    · have := hb k hk
      exact .inr (by omega)
  have hrow2 : ∀ k, bk A9 = some k → rowP (Hd.mk an nn cn ag ng cg ap np cp ar nr cr ae ne ce) k ∨ w.heap.size ≤ k := fun k hk => by
    rcases hb' with hb | hb
    · rw [hb] at hk
      exact .inl (.inl hk)
    · have := hb k hk
      exact .inr (by omega)
  clear x1 x2 x6 hown' hgr hb'
  have hF7 : FB w B (rowP (Hd.mk an nn cn ag ng cg ap np cp ar nr cr ae ne ce)) #[.string p.loc, .string p.off, .slice A9 (p.names.length + 1) c9, .slice ag ng cg, .slice ap np cp, .int .i64 p.tik.kind, .int .i64 p.tik.day, .int .i64 p.tik.min, .string p.rc, .slice ar nr cr, .slice ae ne ce, .bool p.queued] #[.int .i64 e.kind, .string e.nam.last, .string e.nam.first, .string e.seg.car, .int .i64 e.seg.num, .int .i64 e.seg.day, .int .u8 e.seg.cls, .bool e.seg.live, .int .i64 e.tik.kind, .int .i64 e.tik.day, .int .i64 e.tik.min, .string e.text, .int .i64 e.n, .int .i64 e.pax, .int .i64 e.row, .int .u8 e.let_] zc _ := hF'.put1 2 (.slice A9 (p.names.length + 1) c9)
  go_wp2_with (refine store_res rfl (.tmp 4) (.tmp 38) rfl #[.string p.loc, .string p.off, .slice A9 (p.names.length + 1) c9, .slice ag ng cg, .slice ap np cp, .int .i64 p.tik.kind, .int .i64 p.tik.day, .int .i64 p.tik.min, .string p.rc, .slice ar nr cr, .slice ae ne ce, .bool p.queued] rfl rfl hF7.r3 rfl rfl (by simp [Value.oneCell']) ?_)
  have hF9 := hF7.put3 #[.string p.loc, .string p.off, .slice A9 (p.names.length + 1) c9, .slice ag ng cg, .slice ap np cp, .int .i64 p.tik.kind, .int .i64 p.tik.day, .int .i64 p.tik.min, .string p.rc, .slice ar nr cr, .slice ae ne ce, .bool p.queued]
  refine ret_ct Tryz.results63 hF9.r3 rfl rfl rfl rfl ?_
  have hRB : ∀ k, bk (Hd.mk A9 (p.names.length + 1) c9 ag ng cg ap np cp ar nr cr ae ne ce).an = some k ∨ bk (Hd.mk A9 (p.names.length + 1) c9 ag ng cg ap np cp ar nr cr ae ne ce).ag = some k ∨ bk (Hd.mk A9 (p.names.length + 1) c9 ag ng cg ap np cp ar nr cr ae ne ce).ap = some k ∨ bk (Hd.mk A9 (p.names.length + 1) c9 ag ng cg ap np cp ar nr cr ae ne ce).ar = some k ∨ bk (Hd.mk A9 (p.names.length + 1) c9 ag ng cg ap np cp ar nr cr ae ne ce).ae = some k → k < w.heap.size ∨ w.heap.size + 1 + 1 < k := fun k hk => by
    rcases hk with hk | hk | hk | hk | hk <;> first | exact hrow k hk | exact .inl (hF2.lt k (.inl hk)) | exact .inl (hF2.lt k (.inr (.inl hk))) | exact .inl (hF2.lt k (.inr (.inr (.inl hk)))) | exact .inl (hF2.lt k (.inr (.inr (.inr (.inl hk))))) | exact .inl (hF2.lt k (.inr (.inr (.inr (.inr hk)))))
  have hRows : ∀ k, rowP (Hd.mk A9 (p.names.length + 1) c9 ag ng cg ap np cp ar nr cr ae ne ce) k → rowP (Hd.mk an nn cn ag ng cg ap np cp ar nr cr ae ne ce) k ∨ w.heap.size ≤ k := fun k hk => by
    rcases hk with hk | hk | hk | hk | hk <;> first | exact hrow2 k hk | exact .inl (.inl hk) | exact .inl (.inr (.inl hk)) | exact .inl (.inr (.inr (.inl hk))) | exact .inl (.inr (.inr (.inr (.inl hk)))) | exact .inl (.inr (.inr (.inr (.inr hk))))
  exact RetO.mk' (q := { p with names := p.names ++ [e.nam] }) (h' := (Hd.mk A9 (p.names.length + 1) c9 ag ng cg ap np cp ar nr cr ae ne ce)) hfin.out (hO'.fin hRB 2 _ #[.string p.loc, .string p.off, .slice A9 (p.names.length + 1) c9, .slice ag ng cg, .slice ap np cp, .int .i64 p.tik.kind, .int .i64 p.tik.day, .int .i64 p.tik.min, .string p.rc, .slice ar nr cr, .slice ae ne ce, .bool p.queued]) hF9 hRows
set_option maxRecDepth 100000 in
set_option maxHeartbeats 4000000 in
theorem psegment_any (p : Pnr) (h : Hd) (e : Edit) (w : World) (B : Nat) (hp : OP w B p h) (hD : Ap h) (hB : B ≤ w.heap.size) (hs : p.small 100000) (he : e.ok) :
    Calls Tryz.prog 64 #[.agg #[.string p.loc, .string p.off, .slice h.an h.nn h.cn, .slice h.ag h.ng h.cg, .slice h.ap h.np h.cp, .int .i64 p.tik.kind, .int .i64 p.tik.day, .int .i64 p.tik.min, .string p.rc, .slice h.ar h.nr h.cr, .slice h.ae h.ne h.ce, .bool p.queued], .agg #[.int .i64 e.kind, .string e.nam.last, .string e.nam.first, .string e.seg.car, .int .i64 e.seg.num, .int .i64 e.seg.day, .int .u8 e.seg.cls, .bool e.seg.live, .int .i64 e.tik.kind, .int .i64 e.tik.day, .int .i64 e.tik.min, .string e.text, .int .i64 e.n, .int .i64 e.pax, .int .i64 e.row, .int .u8 e.let_]] w (RetO w B h (segmentF p e)) := by
  have HS := Lib.hid (hp.hd hs)
  have HSM := Lib.hid hs
  have HE := Lib.hid he
  have HD := Lib.hid hD
  obtain ⟨e1, e2, e3, e4, e5, e6, e7, e8, e9⟩ := he
  have HLn := Lib.hid hp.at.names.len
  have HLg := Lib.hid hp.at.segs.len
  obtain ⟨an, nn, cn, ag, ng, cg, ap, np, cp, ar, nr, cr, ae, ne, ce⟩ := h
  have hF := FO.start hp hB #[.string p.loc, .string p.off, .slice an nn cn, .slice ag ng cg, .slice ap np cp, .int .i64 p.tik.kind, .int .i64 p.tik.day, .int .i64 p.tik.min, .string p.rc, .slice ar nr cr, .slice ae ne ce, .bool p.queued] #[.int .i64 e.kind, .string e.nam.last, .string e.nam.first, .string e.seg.car, .int .i64 e.seg.num, .int .i64 e.seg.day, .int .u8 e.seg.cls, .bool e.seg.live, .int .i64 e.tik.kind, .int .i64 e.tik.day, .int .i64 e.tik.min, .string e.text, .int .i64 e.n, .int .i64 e.pax, .int .i64 e.row, .int .u8 e.let_] zc
  unfold zc at hF
  clear hp hs hD
  dsimp only
  have hng := HS.out.ng
  dsimp only at hng
  have HX := Lib.hid (show segmentF p e = (if (segB e.seg && e.seg.live) = false then (p, (4 : Int)) else if dupL p.segs e.seg = true then (p, 8) else if 8 ≤ p.segs.length then (p, 18) else ({ p with segs := p.segs ++ [e.seg] }, 0)) from rfl)
  rcases Bool.eq_false_or_eq_true (segB e.seg && e.seg.live) with q1 | q1
  case inr =>
    have hfin := Lib.hid (HX.out.trans (if_pos q1))
    go_enter Tryz.func64, Tryz.ntmps64
    go_wp2_with fail
    refine (pformed_any e.seg _ e3).mono ?_
    rintro en w1 ⟨rfl, hb1⟩
    rw [q1]
    have hF1 := hF.step hb1
    clear hb1
    have v1 := hF1.c1
    have v2 := hF1.c2
    go_wp2_with (refine store_res rfl (.tmp 4) (.tmp 12) rfl #[.string p.loc, .string p.off, .slice an nn cn, .slice ag ng cg, .slice ap np cp, .int .i64 p.tik.kind, .int .i64 p.tik.day, .int .i64 p.tik.min, .string p.rc, .slice ar nr cr, .slice ae ne ce, .bool p.queued] rfl rfl hF1.r3 rfl rfl (by simp [Value.oneCell']) ?_)
    have hF9 := hF1.put3 #[.string p.loc, .string p.off, .slice an nn cn, .slice ag ng cg, .slice ap np cp, .int .i64 p.tik.kind, .int .i64 p.tik.day, .int .i64 p.tik.min, .string p.rc, .slice ar nr cr, .slice ae ne ce, .bool p.queued]
    refine ret_ct Tryz.results64 hF9.r3 rfl rfl rfl rfl ?_
    exact RetO.mk' (h' := (Hd.mk an nn cn ag ng cg ap np cp ar nr cr ae ne ce)) hfin.out hF9.op hF9.fb (fun k hk => .inl hk)
  have HX1 := Lib.hid (HX.out.trans (if_neg (by rw [q1]; simp)))
  clear HX
  go_enter Tryz.func64, Tryz.ntmps64
  go_wp2_with fail
  refine (pformed_any e.seg _ e3).mono ?_
  rintro en w1 ⟨rfl, hb1⟩
  rw [q1]
  have hF1 := hF.step hb1
  clear hb1
  have v1 := hF1.c1
  have v2 := hF1.c2
  clear q1
  go_wp2
  go_loopw [7, 16] (fun _ i wr => ∃ k : Nat, k ≤ ng ∧ i = .int .i64 k ∧ Hid (dupL (p.segs.take k) e.seg = false) ∧ FO w B p (Hd.mk an nn cn ag ng cg ap np cp ar nr cr ae ne ce) #[.string p.loc, .string p.off, .slice an nn cn, .slice ag ng cg, .slice ap np cp, .int .i64 p.tik.kind, .int .i64 p.tik.day, .int .i64 p.tik.min, .string p.rc, .slice ar nr cr, .slice ae ne ce, .bool p.queued] #[.int .i64 e.kind, .string e.nam.last, .string e.nam.first, .string e.seg.car, .int .i64 e.seg.num, .int .i64 e.seg.day, .int .u8 e.seg.cls, .bool e.seg.live, .int .i64 e.tik.kind, .int .i64 e.tik.day, .int .i64 e.tik.min, .string e.text, .int .i64 e.n, .int .i64 e.pax, .int .i64 e.row, .int .u8 e.let_] zc wr) (fun _ i _ => ng - (intOf i).toNat)
  case atStart => exact ⟨0, Nat.zero_le _, rfl, (by rfl), hF1⟩
  case round =>
    clear v1 v2 hF1
    obtain ⟨k, hk0, rfl, hdup, hFr⟩ := hrel
    have y1 := hFr.c1
    have y2 := hFr.c2
    have hzr := hFr.z
    by_cases hlt : k < ng
    · obtain ⟨b, o, x, rfl, h1, h2, hx, hok, c0, c1, c2, c3, c4⟩ := hFr.at0.segs.seg_ hlt
      obtain ⟨xc, xn, xd, xl, xv⟩ := x
      dsimp only at c0 c1 c2 c3 c4
      have heq := fun u => eql_leg xc e.seg.car xn e.seg.num xd e.seg.day u
      have hle : legEq ⟨xc, xn, xd, xl, xv⟩ e.seg = (decide (xc = e.seg.car) && (decide (xn = e.seg.num) && decide (xd = e.seg.day))) := rfl
      rw [← hle] at heq
      clear hle
      generalize hq : legEq ⟨xc, xn, xd, xl, xv⟩ e.seg = bq at heq
      have HQ := Lib.hid hq
      clear hq
      have hki : (0 : Int) ≤ k := by omega
      have hkl : (k : Int) < ng := by omega
      have hbs : b < wr.heap.size := h2
      have z0 : w.heap.size < wr.heap.size := by omega
      have z1 : w.heap.size + 1 < wr.heap.size := by omega
      have hFa := hFr.alloc (.cells #[.string xc, .int .i64 xn, .int .i64 xd, .int .u8 xl, .bool xv] 46)
      rcases xv with _ | _ <;> rcases bq with _ | _
      case true.true =>
        have hd : dupL p.segs e.seg = true := List.any_eq_true.2 ⟨_, List.mem_of_getElem? hx.out, by rw [HQ.out]; rfl⟩
        have hfin := Lib.hid (HX1.out.trans (if_pos hd))
        clear hd
        go_wp2_with (refine store_res rfl (.tmp 4) (.tmp 30) rfl #[.string p.loc, .string p.off, .slice an nn cn, .slice (some ⟨b, o, none⟩) ng cg, .slice ap np cp, .int .i64 p.tik.kind, .int .i64 p.tik.day, .int .i64 p.tik.min, .string p.rc, .slice ar nr cr, .slice ae ne ce, .bool p.queued] rfl rfl hFa.r3 rfl rfl (by simp [Value.oneCell']) ?_)
        have hF9 := hFa.put3 #[.string p.loc, .string p.off, .slice an nn cn, .slice (some ⟨b, o, none⟩) ng cg, .slice ap np cp, .int .i64 p.tik.kind, .int .i64 p.tik.day, .int .i64 p.tik.min, .string p.rc, .slice ar nr cr, .slice ae ne ce, .bool p.queued]
        refine ret_ct Tryz.results64 hF9.r3 rfl rfl rfl rfl ?_
        exact RetO.mk' (h' := (Hd.mk an nn cn (some ⟨b, o, none⟩) ng cg ap np cp ar nr cr ae ne ce)) hfin.out hF9.op hF9.fb (fun k hk => .inl hk)
      all_goals
        have hno := Lib.hid (show dupL (p.segs.take (k + 1)) e.seg = false by
          rw [take_succ_of hx.out]
          have := hdup.out
          unfold dupL at this ⊢
          rw [List.any_append, this]
          simp [HQ.out])
        go_wp2
        go_roundw
        case rel => exact ⟨k + 1, by omega, by go_num, hno, hFa⟩
        case measure => simp [intOf]; omega
    · obtain rfl : ng = k := by omega
      have hl0 := HLg.out
      have HX2 := Lib.hid (HX1.out.trans (if_neg (by rw [← List.take_of_length_le (Nat.le_of_eq hl0), hdup.out]; simp)))
      clear HX1 hl0
      by_cases hm : (8 : Int) ≤ (ng : Int)
      · have hfin := Lib.hid (HX2.out.trans (if_pos (by rw [HLg.out]; first | omega | (dsimp only; omega))))
        go_wp2_with (refine store_res rfl (.tmp 4) (.tmp 36) rfl #[.string p.loc, .string p.off, .slice an nn cn, .slice ag ng cg, .slice ap np cp, .int .i64 p.tik.kind, .int .i64 p.tik.day, .int .i64 p.tik.min, .string p.rc, .slice ar nr cr, .slice ae ne ce, .bool p.queued] rfl rfl hFr.r3 rfl rfl (by simp [Value.oneCell']) ?_)
        have hF9 := hFr.put3 #[.string p.loc, .string p.off, .slice an nn cn, .slice ag ng cg, .slice ap np cp, .int .i64 p.tik.kind, .int .i64 p.tik.day, .int .i64 p.tik.min, .string p.rc, .slice ar nr cr, .slice ae ne ce, .bool p.queued]
        refine ret_ct Tryz.results64 hF9.r3 rfl rfl rfl rfl ?_
        exact RetO.mk' (h' := (Hd.mk an nn cn ag ng cg ap np cp ar nr cr ae ne ce)) hfin.out hF9.op hF9.fb (fun k hk => .inl hk)
      · have hfin := Lib.hid (HX2.out.trans (if_neg (by rw [HLg.out]; first | omega | (dsimp only; omega))))
        go_upto_region 11 with fail
        clear y1 y2
        have hsm := HSM.out.segs
        have zF := hFr.z
        have x1 := hFr.c1
        have x2 := hFr.c2
        have x6 := hFr.f1
        have hBz := hFr.fb.le
        go_upto_region 12 with (at_builtin; refine push_told (T := tSeg) (v := .slice ag ng cg) (l := p.segs) (B := B) rfl (.tmp 38) (.tmp 41) rfl sl_seg rfl hFr.op.segs e.seg e3 _ rfl rfl (by omega) (by omega) ?_; intro v' w' hown' hgr hb'; obtain ⟨A9, c9, hv9⟩ := hown'.form; rw [List.length_append, List.length_singleton] at hv9; subst hv9; rw [ownBlock_bk] at hgr; rw [ownBlock_bk, ownBlock_bk] at hb'; have hF' := hFr.fb.grown hgr (fun k hk => ⟨(hFr.op.segs.bk_lt k hk).1, .inl ⟨(.inr (.inl hk)), hFr.lt k (.inr (.inl hk))⟩⟩); have g1 := hF'.c1; have g2 := hF'.f1; have g3 := hF'.z; have g4 : w.heap.size < w'.heap.size := (by omega))
        have hO' := hFr.op.segs' HD.out hgr hown'
        have hrow : ∀ k, bk A9 = some k → k < w.heap.size ∨ w.heap.size + 1 + 1 < k := fun k hk => by
          rcases hb' with hb | hb
          · exact .inl (hFr.lt k (by rw [hb] at hk; exact (.inr (.inl hk))))
          · have := hb k hk
            exact .inr (by omega)
        have hrow2 : ∀ k, bk A9 = some k → rowP (Hd.mk an nn cn ag ng cg ap np cp ar nr cr ae ne ce) k ∨ w.heap.size ≤ k := fun k hk => by
          rcases hb' with hb | hb
          · rw [hb] at hk
            exact .inl (.inr (.inl hk))
          · have := hb k hk
            exact .inr (by omega)
        clear x1 x2 x6 hown' hgr hb'
        have hF7 : FB w B (rowP (Hd.mk an nn cn ag ng cg ap np cp ar nr cr ae ne ce)) #[.string p.loc, .string p.off, .slice an nn cn, .slice A9 (p.segs.length + 1) c9, .slice ap np cp, .int .i64 p.tik.kind, .int .i64 p.tik.day, .int .i64 p.tik.min, .string p.rc, .slice ar nr cr, .slice ae ne ce, .bool p.queued] #[.int .i64 e.kind, .string e.nam.last, .string e.nam.first, .string e.seg.car, .int .i64 e.seg.num, .int .i64 e.seg.day, .int .u8 e.seg.cls, .bool e.seg.live, .int .i64 e.tik.kind, .int .i64 e.tik.day, .int .i64 e.tik.min, .string e.text, .int .i64 e.n, .int .i64 e.pax, .int .i64 e.row, .int .u8 e.let_] zc _ := hF'.put1 3 (.slice A9 (p.segs.length + 1) c9)
        go_wp2_with (refine store_res rfl (.tmp 4) (.tmp 44) rfl #[.string p.loc, .string p.off, .slice an nn cn, .slice A9 (p.segs.length + 1) c9, .slice ap np cp, .int .i64 p.tik.kind, .int .i64 p.tik.day, .int .i64 p.tik.min, .string p.rc, .slice ar nr cr, .slice ae ne ce, .bool p.queued] rfl rfl hF7.r3 rfl rfl (by simp [Value.oneCell']) ?_)
        have hF9 := hF7.put3 #[.string p.loc, .string p.off, .slice an nn cn, .slice A9 (p.segs.length + 1) c9, .slice ap np cp, .int .i64 p.tik.kind, .int .i64 p.tik.day, .int .i64 p.tik.min, .string p.rc, .slice ar nr cr, .slice ae ne ce, .bool p.queued]
        refine ret_ct Tryz.results64 hF9.r3 rfl rfl rfl rfl ?_
        have hRB : ∀ k, bk (Hd.mk an nn cn A9 (p.segs.length + 1) c9 ap np cp ar nr cr ae ne ce).an = some k ∨ bk (Hd.mk an nn cn A9 (p.segs.length + 1) c9 ap np cp ar nr cr ae ne ce).ag = some k ∨ bk (Hd.mk an nn cn A9 (p.segs.length + 1) c9 ap np cp ar nr cr ae ne ce).ap = some k ∨ bk (Hd.mk an nn cn A9 (p.segs.length + 1) c9 ap np cp ar nr cr ae ne ce).ar = some k ∨ bk (Hd.mk an nn cn A9 (p.segs.length + 1) c9 ap np cp ar nr cr ae ne ce).ae = some k → k < w.heap.size ∨ w.heap.size + 1 + 1 < k := fun k hk => by
          rcases hk with hk | hk | hk | hk | hk <;> first | exact hrow k hk | exact .inl (hFr.lt k (.inl hk)) | exact .inl (hFr.lt k (.inr (.inl hk))) | exact .inl (hFr.lt k (.inr (.inr (.inl hk)))) | exact .inl (hFr.lt k (.inr (.inr (.inr (.inl hk))))) | exact .inl (hFr.lt k (.inr (.inr (.inr (.inr hk)))))
        have hRows : ∀ k, rowP (Hd.mk an nn cn A9 (p.segs.length + 1) c9 ap np cp ar nr cr ae ne ce) k → rowP (Hd.mk an nn cn ag ng cg ap np cp ar nr cr ae ne ce) k ∨ w.heap.size ≤ k := fun k hk => by
          rcases hk with hk | hk | hk | hk | hk <;> first | exact hrow2 k hk | exact .inl (.inl hk) | exact .inl (.inr (.inl hk)) | exact .inl (.inr (.inr (.inl hk))) | exact .inl (.inr (.inr (.inr (.inl hk)))) | exact .inl (.inr (.inr (.inr (.inr hk))))
        exact RetO.mk' (q := { p with segs := p.segs ++ [e.seg] }) (h' := (Hd.mk an nn cn A9 (p.segs.length + 1) c9 ap np cp ar nr cr ae ne ce)) hfin.out (hO'.fin hRB 3 _ #[.string p.loc, .string p.off, .slice an nn cn, .slice A9 (p.segs.length + 1) c9, .slice ap np cp, .int .i64 p.tik.kind, .int .i64 p.tik.day, .int .i64 p.tik.min, .string p.rc, .slice ar nr cr, .slice ae ne ce, .bool p.queued]) hF9 hRows
end Go.Proofs.YtpgeoahlhdifoaaGreatDoor
