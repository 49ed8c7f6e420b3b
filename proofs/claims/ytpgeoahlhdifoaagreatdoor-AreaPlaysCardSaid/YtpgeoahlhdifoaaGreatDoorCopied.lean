/- A PNR in memory of its own, its lists with spare room: the statement's own copy. -/
import Derived.Test.YtpgeoahlhdifoaaGreatDoorPnr5
import Derived.Deep.RegionLaw
import Derived.Deep.DeepCutAuto
import Derived.Laws.MakeOwn
namespace Go.Proofs.YtpgeoahlhdifoaaGreatDoor
set_option linter.unusedVariables false
open Go Go.RowKit
attribute [local go_sem ↓] Go.wp_at_zero Go.wp_at_succ
theorem FC.grown {w W W1 : World} {pc rc : Array Value} {row : Option Nat} (H : FC w pc rc W) (hg : W.grownBy W1 row) (hr : ∀ k, row = some k → w.heap.size + 1 < k) : FC w pc rc W1 :=
  ⟨H.B.grown hg (by have := H.z; omega) (fun k hk => by have := hr k hk; omega), H.r1.grown hg (fun e => by have := hr _ e; omega), H.r2.grown hg (fun e => by have := hr _ e; omega)⟩
/-- 'make([]T, 0, n+2)', as an equation for every world. -/
theorem make_eq {P : Program} {t e : TypeId} {sz : Nat} (S : SlT P t e sz) (n : Nat) (hn : n ≤ 100000) :
    ∃ Z : Array Value, Z.size = (n + 2) * sz ∧ ∀ W : World, (Instr.makeSlice t (.int .i64 0) (.int .i64 ((n : Int) + 2))).run P W = .ok (.slice (some ⟨W.heap.size, 0, none⟩) 0 (n + 2)) (W.alloc (.cells Z e)) := by
  obtain ⟨i, z, b, hi, h0, h1, h2, hb, hz⟩ := S.hi
  have hbb : i.bytes * (n + 2) ≤ 281474976710656 := by rw [h2]; exact Nat.le_trans (Nat.mul_le_mul hb (show n + 2 ≤ 100002 by omega)) (by omega)
  refine ⟨madeCells z.cells ((n + 2) * i.size), by rw [size_madeCells, h1], fun W => ?_⟩
  have hr := run_make (P := P) W t e i z S.ht hi h0 .i64 .i64 0 ((n : Int) + 2) (Int.le_refl _) (by omega) (by
    have h : ((i.bytes * (n + 2) : Nat) : Int) ≤ 281474976710656 := by omega
    rw [Int.natCast_mul] at h
    exact h) (by omega)
  rw [hr, show ((n : Int) + 2).toNat = n + 2 by omega]
  rfl
theorem made_own {α : Type} {T : Ty α} (V : World) (e : TypeId) (n : Nat) (hn : n ≤ 100000) (Z : Array Value) (hZ : Z.size = (n + 2) * T.sz) : Own (V.alloc (.cells Z e)) V.heap.size e T (.slice (some ⟨V.heap.size, 0, none⟩) 0 (n + 2)) [] :=
  ⟨(fun _ h => absurd h List.not_mem_nil), World.ownsRow_made V Z (n + 2) (Nat.le_refl _) (by unfold maxLen; omega) hZ⟩
theorem Own.lower {α : Type} {T : Ty α} {V W : World} {B : Nat} {E : TypeId} {v : Value} {l : List α} {g : Nat} (h : Own V B E T v l) (hg : V.grownBy W (some g)) (hV : V.heap.size ≤ g) : Own W B E T v l :=
  h.kept hg fun k hk e => by have := (h.lt k hk).2; injection e with e; omega
set_option maxRecDepth 100000 in
set_option maxHeartbeats 4000000 in
theorem lcopied_any (p : Pnr) (h : Hd) (w : World) (S : Nat → Prop) (hp : PS w S p h) (hS : ∀ b, S b → b < w.heap.size) (hs : p.small 100000) :
    Calls Tryz.prog 17 #[.agg #[.string p.loc, .string p.off, .slice h.an h.nn h.cn, .slice h.ag h.ng h.cg, .slice h.ap h.np h.cp, .int .i64 p.tik.kind, .int .i64 p.tik.day, .int .i64 p.tik.min, .string p.rc, .slice h.ar h.nr h.cr, .slice h.ae h.ne h.ce, .bool p.queued]] w (fun e w' => ∃ h', e = .returned (.agg #[.string p.loc, .string p.off, .slice h'.an h'.nn h'.cn, .slice h'.ag h'.ng h'.cg, .slice h'.ap h'.np h'.cp, .int .i64 p.tik.kind, .int .i64 p.tik.day, .int .i64 p.tik.min, .string p.rc, .slice h'.ar h'.nr h'.cr, .slice h'.ae h'.ne h'.ce, .bool p.queued]) ∧ OP w' w.heap.size p h' ∧ Below w.heap.size w w') := by
  have HP := Lib.hid (hp.old hS)
  have HC := Lib.hid hp.caps
  obtain ⟨s1, s2, s3, s4, s5⟩ := hs.hd (hp.old hS)
  have HSM := Lib.hid hs
  clear hp hS hs
  obtain ⟨an, nn, cn, ag, ng, cg, ap, np, cp, ar, nr, cr, ae, ne, ce⟩ := h
  dsimp only at s1 s2 s3 s4 s5
  have hF := FC.start w #[.string p.loc, .string p.off, .slice an nn cn, .slice ag ng cg, .slice ap np cp, .int .i64 p.tik.kind, .int .i64 p.tik.day, .int .i64 p.tik.min, .string p.rc, .slice ar nr cr, .slice ae ne ce, .bool p.queued] zc
  unfold zc at hF
  dsimp only
  go_enter Tryz.func17, Tryz.ntmps17
  go_upto_region 1 with fail
  refine wp_world (fun W => FC w #[.string p.loc, .string p.off, .slice an nn cn, .slice ag ng cg, .slice ap np cp, .int .i64 p.tik.kind, .int .i64 p.tik.day, .int .i64 p.tik.min, .string p.rc, .slice ar nr cr, .slice ae ne ce, .bool p.queued] #[.string ⟨#[]⟩, .string ⟨#[]⟩, .slice none 0 0, .slice none 0 0, .slice none 0 0, .int .i64 0, .int .i64 0, .int .i64 0, .string ⟨#[]⟩, .slice none 0 0, .slice none 0 0, .bool false] W) hF ?_
  clear hF
  intro W hF
  obtain ⟨Y0, hY0, hmk0⟩ := make_eq (P := Tryz.prog) sl_nam nn (by omega)
  have HY0 := Lib.hid hY0
  clear hY0
  have x1 := hF.c1
  have x2 := hF.f1
  have z1 := hF.z
  have z0 : w.heap.size < W.heap.size := by omega
  have hw0 : IntKind.i64.wrap ((nn : Int) + 2) = (nn : Int) + 2 := by rw [IntKind.wrap_i64]; omega
  go_cut [11] (fun _ w' => ∃ A1 c1, FC w #[.string p.loc, .string p.off, .slice A1 p.names.length c1, .slice ag ng cg, .slice ap np cp, .int .i64 p.tik.kind, .int .i64 p.tik.day, .int .i64 p.tik.min, .string p.rc, .slice ar nr cr, .slice ae ne ce, .bool p.queued] #[.string ⟨#[]⟩, .string ⟨#[]⟩, .slice none 0 0, .slice none 0 0, .slice none 0 0, .int .i64 0, .int .i64 0, .int .i64 0, .string ⟨#[]⟩, .slice none 0 0, .slice none 0 0, .bool false] w' ∧ Own w' (w.heap.size + 1 + 1) 40 tNam (.slice A1 p.names.length c1) p.names)
  case first =>
    go_region_law (refine step_append_told (T := tNam) (v := .slice (some ⟨W.heap.size, 0, none⟩) 0 (nn + 2)) (l := []) (B := W.heap.size) rfl (.tmp 7) (.tmp 9) (by rfl) sl_nam (by rfl) (made_own W.drew _ nn (by omega) Y0 HY0.out) (by rfl) ((HP.out.below hF.drew.B (Nat.le_refl _)).names.alloc (by simp; omega) _) HC.out.an (by simp) (by simp; omega) ?_; intro v' w' hown' hgr hb'; rw [List.nil_append] at hown'; obtain ⟨A9, c9, hv9⟩ := hown'.form; subst hv9; have hF' := FC.grown (FC.step hF.drew ((Below.refl _ _).alloc (Nat.le_refl _) (.cells Y0 40))) hgr (fun k hk => by have e := hk; simp [Value.ownBlock] at e; omega); have g1 := hF'.c1; have g2 := hF'.f1; have g3 := hF'.z; have g4 : w.heap.size < w'.heap.size := (by omega))
    all_goals
      have hn1 := (hown'.more (B' := w.heap.size + 1 + 1) (by omega)).setCell (p := ⟨w.heap.size, 2, none⟩) (by simp; omega) (.slice A9 p.names.length c9)
      go_wp2
      go_meet
      exact ⟨A9, c9, hF'.put1 2 (.slice A9 p.names.length c9), hn1⟩
  case rest =>
  clear hF x1 x2 z1 z0 hmk0 hw0
  obtain ⟨A1, c1, hF, o1⟩ := hcut
  go_upto_region 2 with fail
  refine wp_world (fun W => FC w #[.string p.loc, .string p.off, .slice A1 p.names.length c1, .slice ag ng cg, .slice ap np cp, .int .i64 p.tik.kind, .int .i64 p.tik.day, .int .i64 p.tik.min, .string p.rc, .slice ar nr cr, .slice ae ne ce, .bool p.queued] #[.string ⟨#[]⟩, .string ⟨#[]⟩, .slice none 0 0, .slice none 0 0, .slice none 0 0, .int .i64 0, .int .i64 0, .int .i64 0, .string ⟨#[]⟩, .slice none 0 0, .slice none 0 0, .bool false] W ∧ Own W (w.heap.size + 1 + 1) 40 tNam (.slice A1 p.names.length c1) p.names) ⟨hF, o1⟩ ?_
  clear hF o1
  rintro W ⟨hF, o1⟩
  obtain ⟨Y1, hY1, hmk1⟩ := make_eq (P := Tryz.prog) sl_seg ng (by omega)
  have HY1 := Lib.hid hY1
  clear hY1
  have x1 := hF.c1
  have x2 := hF.f1
  have z1 := hF.z
  have z0 : w.heap.size < W.heap.size := by omega
  have hw0 : IntKind.i64.wrap ((ng : Int) + 2) = (ng : Int) + 2 := by rw [IntKind.wrap_i64]; omega
  go_cut [20] (fun _ w' => ∃ A2 c2, FC w #[.string p.loc, .string p.off, .slice A1 p.names.length c1, .slice A2 p.segs.length c2, .slice ap np cp, .int .i64 p.tik.kind, .int .i64 p.tik.day, .int .i64 p.tik.min, .string p.rc, .slice ar nr cr, .slice ae ne ce, .bool p.queued] #[.string ⟨#[]⟩, .string ⟨#[]⟩, .slice none 0 0, .slice none 0 0, .slice none 0 0, .int .i64 0, .int .i64 0, .int .i64 0, .string ⟨#[]⟩, .slice none 0 0, .slice none 0 0, .bool false] w' ∧ Own w' (w.heap.size + 1 + 1) 40 tNam (.slice A1 p.names.length c1) p.names ∧ Own w' (w.heap.size + 1 + 1) 46 tSeg (.slice A2 p.segs.length c2) p.segs)
  case first =>
    go_region_law (refine step_append_told (T := tSeg) (v := .slice (some ⟨W.heap.size, 0, none⟩) 0 (ng + 2)) (l := []) (B := W.heap.size) rfl (.tmp 16) (.tmp 18) (by rfl) sl_seg (by rfl) (made_own W.drew _ ng (by omega) Y1 HY1.out) (by rfl) ((HP.out.below hF.drew.B (Nat.le_refl _)).segs.alloc (by simp; omega) _) HC.out.ag (by simp) (by simp; omega) ?_; intro v' w' hown' hgr hb'; rw [List.nil_append] at hown'; obtain ⟨A9, c9, hv9⟩ := hown'.form; subst hv9; have hF' := FC.grown (FC.step hF.drew ((Below.refl _ _).alloc (Nat.le_refl _) (.cells Y1 46))) hgr (fun k hk => by have e := hk; simp [Value.ownBlock] at e; omega); have g1 := hF'.c1; have g2 := hF'.f1; have g3 := hF'.z; have g4 : w.heap.size < w'.heap.size := (by omega))
    all_goals
      have hn1 := (hown'.more (B' := w.heap.size + 1 + 1) (by omega)).setCell (p := ⟨w.heap.size, 3, none⟩) (by simp; omega) (.slice A9 p.segs.length c9)
      have k1 := (((o1.drewN 1).alloc (.cells Y1 46)).kept hgr (fun k hk e => by have h1 := (o1.lt k hk).2; have e2 := e; simp [Value.ownBlock] at e2; omega)).setCell (p := ⟨w.heap.size, 3, none⟩) (by simp; omega) (.slice A9 p.segs.length c9)
      go_wp2
      go_meet
      exact ⟨A9, c9, hF'.put1 3 (.slice A9 p.segs.length c9), k1, hn1⟩
  case rest =>
  clear hF x1 x2 z1 z0 hmk1 hw0 o1
  obtain ⟨A2, c2, hF, o1, o2⟩ := hcut
  go_upto_region 3 with fail
  refine wp_world (fun W => FC w #[.string p.loc, .string p.off, .slice A1 p.names.length c1, .slice A2 p.segs.length c2, .slice ap np cp, .int .i64 p.tik.kind, .int .i64 p.tik.day, .int .i64 p.tik.min, .string p.rc, .slice ar nr cr, .slice ae ne ce, .bool p.queued] #[.string ⟨#[]⟩, .string ⟨#[]⟩, .slice none 0 0, .slice none 0 0, .slice none 0 0, .int .i64 0, .int .i64 0, .int .i64 0, .string ⟨#[]⟩, .slice none 0 0, .slice none 0 0, .bool false] W ∧ Own W (w.heap.size + 1 + 1) 40 tNam (.slice A1 p.names.length c1) p.names ∧ Own W (w.heap.size + 1 + 1) 46 tSeg (.slice A2 p.segs.length c2) p.segs) ⟨hF, o1, o2⟩ ?_
  clear hF o1 o2
  rintro W ⟨hF, o1, o2⟩
  obtain ⟨Y2, hY2, hmk2⟩ := make_eq (P := Tryz.prog) sl_str np (by omega)
  have HY2 := Lib.hid hY2
  clear hY2
  have x1 := hF.c1
  have x2 := hF.f1
  have z1 := hF.z
  have z0 : w.heap.size < W.heap.size := by omega
  have hw0 : IntKind.i64.wrap ((np : Int) + 2) = (np : Int) + 2 := by rw [IntKind.wrap_i64]; omega
  go_cut [29] (fun _ w' => ∃ A3 c3, FC w #[.string p.loc, .string p.off, .slice A1 p.names.length c1, .slice A2 p.segs.length c2, .slice A3 p.phones.length c3, .int .i64 p.tik.kind, .int .i64 p.tik.day, .int .i64 p.tik.min, .string p.rc, .slice ar nr cr, .slice ae ne ce, .bool p.queued] #[.string ⟨#[]⟩, .string ⟨#[]⟩, .slice none 0 0, .slice none 0 0, .slice none 0 0, .int .i64 0, .int .i64 0, .int .i64 0, .string ⟨#[]⟩, .slice none 0 0, .slice none 0 0, .bool false] w' ∧ Own w' (w.heap.size + 1 + 1) 40 tNam (.slice A1 p.names.length c1) p.names ∧ Own w' (w.heap.size + 1 + 1) 46 tSeg (.slice A2 p.segs.length c2) p.segs ∧ Own w' (w.heap.size + 1 + 1) 9 tStr (.slice A3 p.phones.length c3) p.phones)
  case first =>
    go_region_law (refine step_append_told (T := tStr) (v := .slice (some ⟨W.heap.size, 0, none⟩) 0 (np + 2)) (l := []) (B := W.heap.size) rfl (.tmp 25) (.tmp 27) (by rfl) sl_str (by rfl) (made_own W.drew _ np (by omega) Y2 HY2.out) (by rfl) ((HP.out.below hF.drew.B (Nat.le_refl _)).phones.alloc (by simp; omega) _) HC.out.ap (by simp) (by simp; omega) ?_; intro v' w' hown' hgr hb'; rw [List.nil_append] at hown'; obtain ⟨A9, c9, hv9⟩ := hown'.form; subst hv9; have hF' := FC.grown (FC.step hF.drew ((Below.refl _ _).alloc (Nat.le_refl _) (.cells Y2 9))) hgr (fun k hk => by have e := hk; simp [Value.ownBlock] at e; omega); have g1 := hF'.c1; have g2 := hF'.f1; have g3 := hF'.z; have g4 : w.heap.size < w'.heap.size := (by omega))
    all_goals
      have hn1 := (hown'.more (B' := w.heap.size + 1 + 1) (by omega)).setCell (p := ⟨w.heap.size, 4, none⟩) (by simp; omega) (.slice A9 p.phones.length c9)
      have k1 := (((o1.drewN 1).alloc (.cells Y2 9)).kept hgr (fun k hk e => by have h1 := (o1.lt k hk).2; have e2 := e; simp [Value.ownBlock] at e2; omega)).setCell (p := ⟨w.heap.size, 4, none⟩) (by simp; omega) (.slice A9 p.phones.length c9)
      have k2 := (((o2.drewN 1).alloc (.cells Y2 9)).kept hgr (fun k hk e => by have h1 := (o2.lt k hk).2; have e2 := e; simp [Value.ownBlock] at e2; omega)).setCell (p := ⟨w.heap.size, 4, none⟩) (by simp; omega) (.slice A9 p.phones.length c9)
      go_wp2
      go_meet
      exact ⟨A9, c9, hF'.put1 4 (.slice A9 p.phones.length c9), k1, k2, hn1⟩
  case rest =>
  clear hF x1 x2 z1 z0 hmk2 hw0 o1 o2
  obtain ⟨A3, c3, hF, o1, o2, o3⟩ := hcut
  go_upto_region 4 with fail
  refine wp_world (fun W => FC w #[.string p.loc, .string p.off, .slice A1 p.names.length c1, .slice A2 p.segs.length c2, .slice A3 p.phones.length c3, .int .i64 p.tik.kind, .int .i64 p.tik.day, .int .i64 p.tik.min, .string p.rc, .slice ar nr cr, .slice ae ne ce, .bool p.queued] #[.string ⟨#[]⟩, .string ⟨#[]⟩, .slice none 0 0, .slice none 0 0, .slice none 0 0, .int .i64 0, .int .i64 0, .int .i64 0, .string ⟨#[]⟩, .slice none 0 0, .slice none 0 0, .bool false] W ∧ Own W (w.heap.size + 1 + 1) 40 tNam (.slice A1 p.names.length c1) p.names ∧ Own W (w.heap.size + 1 + 1) 46 tSeg (.slice A2 p.segs.length c2) p.segs ∧ Own W (w.heap.size + 1 + 1) 9 tStr (.slice A3 p.phones.length c3) p.phones) ⟨hF, o1, o2, o3⟩ ?_
  clear hF o1 o2 o3
  rintro W ⟨hF, o1, o2, o3⟩
  obtain ⟨Y3, hY3, hmk3⟩ := make_eq (P := Tryz.prog) sl_str nr (by omega)
  have HY3 := Lib.hid hY3
  clear hY3
  have x1 := hF.c1
  have x2 := hF.f1
  have z1 := hF.z
  have z0 : w.heap.size < W.heap.size := by omega
  have hw0 : IntKind.i64.wrap ((nr : Int) + 2) = (nr : Int) + 2 := by rw [IntKind.wrap_i64]; omega
  go_cut [38] (fun _ w' => ∃ A4 c4, FC w #[.string p.loc, .string p.off, .slice A1 p.names.length c1, .slice A2 p.segs.length c2, .slice A3 p.phones.length c3, .int .i64 p.tik.kind, .int .i64 p.tik.day, .int .i64 p.tik.min, .string p.rc, .slice A4 p.remarks.length c4, .slice ae ne ce, .bool p.queued] #[.string ⟨#[]⟩, .string ⟨#[]⟩, .slice none 0 0, .slice none 0 0, .slice none 0 0, .int .i64 0, .int .i64 0, .int .i64 0, .string ⟨#[]⟩, .slice none 0 0, .slice none 0 0, .bool false] w' ∧ Own w' (w.heap.size + 1 + 1) 40 tNam (.slice A1 p.names.length c1) p.names ∧ Own w' (w.heap.size + 1 + 1) 46 tSeg (.slice A2 p.segs.length c2) p.segs ∧ Own w' (w.heap.size + 1 + 1) 9 tStr (.slice A3 p.phones.length c3) p.phones ∧ Own w' (w.heap.size + 1 + 1) 9 tStr (.slice A4 p.remarks.length c4) p.remarks)
  case first =>
    go_region_law (refine step_append_told (T := tStr) (v := .slice (some ⟨W.heap.size, 0, none⟩) 0 (nr + 2)) (l := []) (B := W.heap.size) rfl (.tmp 34) (.tmp 36) (by rfl) sl_str (by rfl) (made_own W.drew _ nr (by omega) Y3 HY3.out) (by rfl) ((HP.out.below hF.drew.B (Nat.le_refl _)).remarks.alloc (by simp; omega) _) HC.out.ar (by simp) (by simp; omega) ?_; intro v' w' hown' hgr hb'; rw [List.nil_append] at hown'; obtain ⟨A9, c9, hv9⟩ := hown'.form; subst hv9; have hF' := FC.grown (FC.step hF.drew ((Below.refl _ _).alloc (Nat.le_refl _) (.cells Y3 9))) hgr (fun k hk => by have e := hk; simp [Value.ownBlock] at e; omega); have g1 := hF'.c1; have g2 := hF'.f1; have g3 := hF'.z; have g4 : w.heap.size < w'.heap.size := (by omega))
    all_goals
      have hn1 := (hown'.more (B' := w.heap.size + 1 + 1) (by omega)).setCell (p := ⟨w.heap.size, 9, none⟩) (by simp; omega) (.slice A9 p.remarks.length c9)
      have k1 := (((o1.drewN 1).alloc (.cells Y3 9)).kept hgr (fun k hk e => by have h1 := (o1.lt k hk).2; have e2 := e; simp [Value.ownBlock] at e2; omega)).setCell (p := ⟨w.heap.size, 9, none⟩) (by simp; omega) (.slice A9 p.remarks.length c9)
      have k2 := (((o2.drewN 1).alloc (.cells Y3 9)).kept hgr (fun k hk e => by have h1 := (o2.lt k hk).2; have e2 := e; simp [Value.ownBlock] at e2; omega)).setCell (p := ⟨w.heap.size, 9, none⟩) (by simp; omega) (.slice A9 p.remarks.length c9)
      have k3 := (((o3.drewN 1).alloc (.cells Y3 9)).kept hgr (fun k hk e => by have h1 := (o3.lt k hk).2; have e2 := e; simp [Value.ownBlock] at e2; omega)).setCell (p := ⟨w.heap.size, 9, none⟩) (by simp; omega) (.slice A9 p.remarks.length c9)
      go_wp2
      go_meet
      exact ⟨A9, c9, hF'.put1 9 (.slice A9 p.remarks.length c9), k1, k2, k3, hn1⟩
  case rest =>
  clear hF x1 x2 z1 z0 hmk3 hw0 o1 o2 o3
  obtain ⟨A4, c4, hF, o1, o2, o3, o4⟩ := hcut
  go_upto_region 5 with fail
  refine wp_world (fun W => FC w #[.string p.loc, .string p.off, .slice A1 p.names.length c1, .slice A2 p.segs.length c2, .slice A3 p.phones.length c3, .int .i64 p.tik.kind, .int .i64 p.tik.day, .int .i64 p.tik.min, .string p.rc, .slice A4 p.remarks.length c4, .slice ae ne ce, .bool p.queued] #[.string ⟨#[]⟩, .string ⟨#[]⟩, .slice none 0 0, .slice none 0 0, .slice none 0 0, .int .i64 0, .int .i64 0, .int .i64 0, .string ⟨#[]⟩, .slice none 0 0, .slice none 0 0, .bool false] W ∧ Own W (w.heap.size + 1 + 1) 40 tNam (.slice A1 p.names.length c1) p.names ∧ Own W (w.heap.size + 1 + 1) 46 tSeg (.slice A2 p.segs.length c2) p.segs ∧ Own W (w.heap.size + 1 + 1) 9 tStr (.slice A3 p.phones.length c3) p.phones ∧ Own W (w.heap.size + 1 + 1) 9 tStr (.slice A4 p.remarks.length c4) p.remarks) ⟨hF, o1, o2, o3, o4⟩ ?_
  clear hF o1 o2 o3 o4
  rintro W ⟨hF, o1, o2, o3, o4⟩
  obtain ⟨Y4, hY4, hmk4⟩ := make_eq (P := Tryz.prog) sl_plc ne (by omega)
  have HY4 := Lib.hid hY4
  clear hY4
  have x1 := hF.c1
  have x2 := hF.f1
  have z1 := hF.z
  have z0 : w.heap.size < W.heap.size := by omega
  have hw0 : IntKind.i64.wrap ((ne : Int) + 2) = (ne : Int) + 2 := by rw [IntKind.wrap_i64]; omega
  go_cut [47] (fun _ w' => ∃ A5 c5, FC w #[.string p.loc, .string p.off, .slice A1 p.names.length c1, .slice A2 p.segs.length c2, .slice A3 p.phones.length c3, .int .i64 p.tik.kind, .int .i64 p.tik.day, .int .i64 p.tik.min, .string p.rc, .slice A4 p.remarks.length c4, .slice A5 p.seats.length c5, .bool p.queued] #[.string ⟨#[]⟩, .string ⟨#[]⟩, .slice none 0 0, .slice none 0 0, .slice none 0 0, .int .i64 0, .int .i64 0, .int .i64 0, .string ⟨#[]⟩, .slice none 0 0, .slice none 0 0, .bool false] w' ∧ Own w' (w.heap.size + 1 + 1) 40 tNam (.slice A1 p.names.length c1) p.names ∧ Own w' (w.heap.size + 1 + 1) 46 tSeg (.slice A2 p.segs.length c2) p.segs ∧ Own w' (w.heap.size + 1 + 1) 9 tStr (.slice A3 p.phones.length c3) p.phones ∧ Own w' (w.heap.size + 1 + 1) 9 tStr (.slice A4 p.remarks.length c4) p.remarks ∧ Own w' (w.heap.size + 1 + 1) 87 tPlc (.slice A5 p.seats.length c5) p.seats)
  case first =>
    go_region_law (refine step_append_told (T := tPlc) (v := .slice (some ⟨W.heap.size, 0, none⟩) 0 (ne + 2)) (l := []) (B := W.heap.size) rfl (.tmp 43) (.tmp 45) (by rfl) sl_plc (by rfl) (made_own W.drew _ ne (by omega) Y4 HY4.out) (by rfl) ((HP.out.below hF.drew.B (Nat.le_refl _)).seats.alloc (by simp; omega) _) HC.out.ae (by simp) (by simp; omega) ?_; intro v' w' hown' hgr hb'; rw [List.nil_append] at hown'; obtain ⟨A9, c9, hv9⟩ := hown'.form; subst hv9; have hF' := FC.grown (FC.step hF.drew ((Below.refl _ _).alloc (Nat.le_refl _) (.cells Y4 87))) hgr (fun k hk => by have e := hk; simp [Value.ownBlock] at e; omega); have g1 := hF'.c1; have g2 := hF'.f1; have g3 := hF'.z; have g4 : w.heap.size < w'.heap.size := (by omega))
    all_goals
      have hn1 := (hown'.more (B' := w.heap.size + 1 + 1) (by omega)).setCell (p := ⟨w.heap.size, 10, none⟩) (by simp; omega) (.slice A9 p.seats.length c9)
      have k1 := (((o1.drewN 1).alloc (.cells Y4 87)).kept hgr (fun k hk e => by have h1 := (o1.lt k hk).2; have e2 := e; simp [Value.ownBlock] at e2; omega)).setCell (p := ⟨w.heap.size, 10, none⟩) (by simp; omega) (.slice A9 p.seats.length c9)
      have k2 := (((o2.drewN 1).alloc (.cells Y4 87)).kept hgr (fun k hk e => by have h1 := (o2.lt k hk).2; have e2 := e; simp [Value.ownBlock] at e2; omega)).setCell (p := ⟨w.heap.size, 10, none⟩) (by simp; omega) (.slice A9 p.seats.length c9)
      have k3 := (((o3.drewN 1).alloc (.cells Y4 87)).kept hgr (fun k hk e => by have h1 := (o3.lt k hk).2; have e2 := e; simp [Value.ownBlock] at e2; omega)).setCell (p := ⟨w.heap.size, 10, none⟩) (by simp; omega) (.slice A9 p.seats.length c9)
      have k4 := (((o4.drewN 1).alloc (.cells Y4 87)).kept hgr (fun k hk e => by have h1 := (o4.lt k hk).2; have e2 := e; simp [Value.ownBlock] at e2; omega)).setCell (p := ⟨w.heap.size, 10, none⟩) (by simp; omega) (.slice A9 p.seats.length c9)
      go_wp2
      go_meet
      exact ⟨A9, c9, hF'.put1 10 (.slice A9 p.seats.length c9), k1, k2, k3, k4, hn1⟩
  case rest =>
  clear hF x1 x2 z1 z0 hmk4 hw0 o1 o2 o3 o4
  obtain ⟨A5, c5, hF, o1, o2, o3, o4, o5⟩ := hcut
  have x1 := hF.c1
  have z1 := hF.z
  go_wp2_with (refine store_res rfl (.tmp 2) (.tmp 48) rfl #[.string p.loc, .string p.off, .slice A1 p.names.length c1, .slice A2 p.segs.length c2, .slice A3 p.phones.length c3, .int .i64 p.tik.kind, .int .i64 p.tik.day, .int .i64 p.tik.min, .string p.rc, .slice A4 p.remarks.length c4, .slice A5 p.seats.length c5, .bool p.queued] rfl rfl hF.r2 rfl rfl (by simp [Value.oneCell']) ?_)
  have hF9 := hF.put2 #[.string p.loc, .string p.off, .slice A1 p.names.length c1, .slice A2 p.segs.length c2, .slice A3 p.phones.length c3, .int .i64 p.tik.kind, .int .i64 p.tik.day, .int .i64 p.tik.min, .string p.rc, .slice A4 p.remarks.length c4, .slice A5 p.seats.length c5, .bool p.queued]
  refine ret_c1 Tryz.results17 hF9.r2 rfl rfl rfl ?_
  have hOP : OP _ (w.heap.size + 1 + 1) p (Hd.mk A1 p.names.length c1 A2 p.segs.length c2 A3 p.phones.length c3 A4 p.remarks.length c4 A5 p.seats.length c5) := ⟨HP.out.loc, HP.out.off, HP.out.rc, HP.out.tik, o1.setRow (g := w.heap.size + 1) (by omega) #[.string p.loc, .string p.off, .slice A1 p.names.length c1, .slice A2 p.segs.length c2, .slice A3 p.phones.length c3, .int .i64 p.tik.kind, .int .i64 p.tik.day, .int .i64 p.tik.min, .string p.rc, .slice A4 p.remarks.length c4, .slice A5 p.seats.length c5, .bool p.queued], o2.setRow (g := w.heap.size + 1) (by omega) #[.string p.loc, .string p.off, .slice A1 p.names.length c1, .slice A2 p.segs.length c2, .slice A3 p.phones.length c3, .int .i64 p.tik.kind, .int .i64 p.tik.day, .int .i64 p.tik.min, .string p.rc, .slice A4 p.remarks.length c4, .slice A5 p.seats.length c5, .bool p.queued], o3.setRow (g := w.heap.size + 1) (by omega) #[.string p.loc, .string p.off, .slice A1 p.names.length c1, .slice A2 p.segs.length c2, .slice A3 p.phones.length c3, .int .i64 p.tik.kind, .int .i64 p.tik.day, .int .i64 p.tik.min, .string p.rc, .slice A4 p.remarks.length c4, .slice A5 p.seats.length c5, .bool p.queued], o4.setRow (g := w.heap.size + 1) (by omega) #[.string p.loc, .string p.off, .slice A1 p.names.length c1, .slice A2 p.segs.length c2, .slice A3 p.phones.length c3, .int .i64 p.tik.kind, .int .i64 p.tik.day, .int .i64 p.tik.min, .string p.rc, .slice A4 p.remarks.length c4, .slice A5 p.seats.length c5, .bool p.queued], o5.setRow (g := w.heap.size + 1) (by omega) #[.string p.loc, .string p.off, .slice A1 p.names.length c1, .slice A2 p.segs.length c2, .slice A3 p.phones.length c3, .int .i64 p.tik.kind, .int .i64 p.tik.day, .int .i64 p.tik.min, .string p.rc, .slice A4 p.remarks.length c4, .slice A5 p.seats.length c5, .bool p.queued]⟩
  exact ⟨_, rfl, hOP.more (by omega), hF9.B⟩
end Go.Proofs.YtpgeoahlhdifoaaGreatDoor

