/- Areas: who has signed in. -/
import Derived.Test.YtpgeoahlhdifoaaGreatDoorArea3
namespace Go.Proofs.YtpgeoahlhdifoaaGreatDoor
set_option linter.unusedVariables false
open Go Go.RowKit
set_option maxRecDepth 100000 in
set_option maxHeartbeats 8000000 in
theorem signed_any (a : Ar) (h : AH) (w : World) (S : Nat → Prop) (hp : AS w S a h) (hS : ∀ b, S b → b < w.heap.size) (hs : a.small 1000) :
    Calls Tryz.prog 40 #[.agg #[.string a.agent, .string a.off, .bool a.open_, .string a.base.loc, .string a.base.off, .slice h.b.an h.b.nn h.b.cn, .slice h.b.ag h.b.ng h.b.cg, .slice h.b.ap h.b.np h.b.cp, .int .i64 a.base.tik.kind, .int .i64 a.base.tik.day, .int .i64 a.base.tik.min, .string a.base.rc, .slice h.b.ar h.b.nr h.b.cr, .slice h.b.ae h.b.ne h.b.ce, .bool a.base.queued, .int .u64 a.ver, .slice h.ad h.nd h.cd, .slice h.al h.nl h.cl, .bool a.working, .int .i64 a.queue]] w (RetS w (signedF a)) := by
  have HP := Lib.hid hp
  have HB := Lib.hid hS
  have HS := Lib.hid hs
  clear hp hS hs
  have hF := F2.start w (aC a h) 53 aZ 53
  have hq : a.agent.toList.isEmpty = noOne a := rfl
  have HR := Lib.hid (show signedF a = if noOne a then (ar0, 50) else (a, 0) from rfl)
  generalize noOne a = b at hq HR
  rcases b with _ | _
  · go_enter Tryz.func40, Tryz.ntmps40
    go_wp2_with (refine load_ra rfl (.tmp 1) rfl rfl hF.r1 rfl ?_)
    refine (acopied_any a h _ S (HP.out.below hF.B HB.out) (fun b hb => by have := HB.out b hb; have := hF.z; omega) HS.out).mono ?_
    rintro en w1 ⟨h1, rfl, o1, d, hb1⟩
    have hF1 := hF.step hb1
    replace o1 := o1.more (B' := w.heap.size + 1 + 1) (by simp)
    clear hF hb1
    go_wp2_with (refine store_ra rfl (.tmp 2) (.tmp 9) rfl (aC a h1) rfl rfl hF1.r2 rfl rfl (aC_one _ _) ?_)
    have hF9 := hF1.row2 (aC a h1)
    refine ret_at Tryz.results40 hF9.r2 rfl rfl rfl rfl ?_
    exact RetS.mk' HR.out ((o1.rowAt (by omega) _).more (by omega)) d hF9.B
  · go_enter Tryz.func40, Tryz.ntmps40
    go_wp2_with (refine store_ra rfl (.tmp 2) (.tmp 7) rfl aZ rfl rfl hF.r2 rfl rfl aZ_one ?_)
    have hF9 := hF.row2 aZ
    refine ret_at Tryz.results40 hF9.r2 rfl rfl rfl rfl ?_
    exact RetS.mk' (h' := ah0) HR.out (ar0_oa _ _) da0 hF9.B
set_option maxRecDepth 100000 in
set_option maxHeartbeats 8000000 in
theorem idle_any (a : Ar) (h : AH) (w : World) (S : Nat → Prop) (hp : AS w S a h) (hS : ∀ b, S b → b < w.heap.size) (hs : a.small 1000) :
    Calls Tryz.prog 42 #[.agg #[.string a.agent, .string a.off, .bool a.open_, .string a.base.loc, .string a.base.off, .slice h.b.an h.b.nn h.b.cn, .slice h.b.ag h.b.ng h.b.cg, .slice h.b.ap h.b.np h.b.cp, .int .i64 a.base.tik.kind, .int .i64 a.base.tik.day, .int .i64 a.base.tik.min, .string a.base.rc, .slice h.b.ar h.b.nr h.b.cr, .slice h.b.ae h.b.ne h.b.ce, .bool a.base.queued, .int .u64 a.ver, .slice h.ad h.nd h.cd, .slice h.al h.nl h.cl, .bool a.working, .int .i64 a.queue]] w (RetA w (idleF a)) := by
  have hsg := fun (W : World) (h1 : AS W S a h) (h2 : ∀ b, S b → b < W.heap.size) => signed_any a h W S h1 h2 hs
  have HP := Lib.hid hp
  have HB := Lib.hid hS
  clear hp hS hs
  have hF := F2.start w (aC a h) 53 aZ 53
  have HR := Lib.hid (show idleF a = if noOne a then (ar0, 50) else if 0 < a.edits.length then (ar0, 53) else (a, 0) from rfl)
  have HG := Lib.hid (show signedF a = if noOne a then (ar0, 50) else (a, 0) from rfl)
  generalize noOne a = b at HR HG
  rw [HG.out] at hsg
  have HSG := Lib.hid hsg
  clear hsg HG
  rcases b with _ | _
  · by_cases hn : 0 < a.edits.length
    · have hfin := HR.out
      rw [if_neg (by simp), if_pos hn] at hfin
      have HFIN := Lib.hid hfin
      clear hfin
      go_enter Tryz.func42, Tryz.ntmps42
      go_wp2_with (refine load_ra rfl (.tmp 1) rfl rfl hF.r1 rfl ?_)
      refine (HSG.out _ (HP.out.below hF.B HB.out) (fun b hb => by have := HB.out b hb; have := hF.z; omega)).mono ?_
      rintro en w1 ⟨h1, rfl, o1, _, hb1⟩
      have hF1 := hF.step hb1
      have hnd : h1.nd = a.edits.length := o1.edits.sl.len.symm
      have hn1 : (0 : Int) < h1.nd := by rw [hnd]; omega
      clear hF hb1 hnd o1
      go_upto_region 2 with (refine store_ra rfl (.tmp 1) (.tmp 8) rfl (aC a h1) rfl rfl hF1.r1 rfl rfl (aC_one _ _) ?_)
      have hF2 := hF1.row1 (aC a h1)
      refine wp_world (F2 w (aC a h1) 53 aZ 53) hF2 ?_
      clear hF1 hF2
      intro W hF
      have x1 := hF.x1
      try dsimp only [aC] at x1
      try dsimp only [aZ] at x1
      go_wp2_with (refine store_ra rfl (.tmp 2) (.tmp 18) rfl aZ rfl rfl hF.r2 rfl rfl aZ_one ?_)
      have hF9 := hF.row2 aZ
      refine ret_at Tryz.results42 hF9.r2 rfl rfl rfl rfl ?_
      exact RetA.mk' (h' := ah0) HFIN.out (ar0_oa _ _) hF9.B
    · have hfin := HR.out
      rw [if_neg (by simp), if_neg hn] at hfin
      have HFIN := Lib.hid hfin
      clear hfin
      go_enter Tryz.func42, Tryz.ntmps42
      go_wp2_with (refine load_ra rfl (.tmp 1) rfl rfl hF.r1 rfl ?_)
      refine (HSG.out _ (HP.out.below hF.B HB.out) (fun b hb => by have := HB.out b hb; have := hF.z; omega)).mono ?_
      rintro en w1 ⟨h1, rfl, o1, _, hb1⟩
      have hF1 := hF.step hb1
      have hnd : h1.nd = a.edits.length := o1.edits.sl.len.symm
      have hn1 : ¬ (0 : Int) < h1.nd := by rw [hnd]; omega
      replace o1 := o1.more (B' := w.heap.size + 1 + 1) (by simp)
      clear hF hb1 hnd
      go_upto_region 2 with (refine store_ra rfl (.tmp 1) (.tmp 8) rfl (aC a h1) rfl rfl hF1.r1 rfl rfl (aC_one _ _) ?_)
      have hF2 := hF1.row1 (aC a h1)
      refine wp_world (fun W => F2 w (aC a h1) 53 aZ 53 W ∧ OA W (w.heap.size + 1 + 1) a h1) ⟨hF2, o1.rowAt (by omega) _⟩ ?_
      clear hF1 hF2 o1
      rintro W ⟨hF, o1⟩
      have x1 := hF.x1
      try dsimp only [aC] at x1
      try dsimp only [aZ] at x1
      go_wp2_with (first | (refine load_ra rfl (.tmp 1) rfl rfl hF.r1 rfl ?_) | refine store_ra rfl (.tmp 2) (.tmp 19) rfl (aC a h1) rfl rfl hF.r2 rfl rfl (aC_one _ _) ?_)
      have hF9 := hF.row2 (aC a h1)
      refine ret_at Tryz.results42 hF9.r2 rfl rfl rfl rfl ?_
      exact RetA.mk' HFIN.out ((o1.rowAt (by omega) _).more (by omega)) hF9.B
  · go_enter Tryz.func42, Tryz.ntmps42
    go_wp2_with (refine load_ra rfl (.tmp 1) rfl rfl hF.r1 rfl ?_)
    refine (HSG.out _ (HP.out.below hF.B HB.out) (fun b hb => by have := HB.out b hb; have := hF.z; omega)).mono ?_
    rintro en w1 ⟨h1, rfl, o1, _, hb1⟩
    have hF1 := hF.step hb1
    replace o1 := o1.more (B' := w.heap.size + 1 + 1) (by simp)
    clear hF hb1
    go_upto_region 2 with (refine store_ra rfl (.tmp 1) (.tmp 8) rfl (aC ar0 h1) rfl rfl hF1.r1 rfl rfl (aC_one _ _) ?_)
    have hF2 := hF1.row1 (aC ar0 h1)
    refine wp_world (fun W => F2 w (aC ar0 h1) 53 aZ 53 W ∧ OA W (w.heap.size + 1 + 1) ar0 h1) ⟨hF2, o1.rowAt (by omega) _⟩ ?_
    clear hF1 hF2 o1
    rintro W ⟨hF, o1⟩
    have x1 := hF.x1
    try dsimp only [aC] at x1
    try dsimp only [aZ] at x1
    go_wp2_with (first | (refine load_ra rfl (.tmp 1) rfl rfl hF.r1 rfl ?_) | refine store_ra rfl (.tmp 2) (.tmp 19) rfl (aC ar0 h1) rfl rfl hF.r2 rfl rfl (aC_one _ _) ?_)
    have hF9 := hF.row2 (aC ar0 h1)
    refine ret_at Tryz.results42 hF9.r2 rfl rfl rfl rfl ?_
    exact RetA.mk' HR.out ((o1.rowAt (by omega) _).more (by omega)) hF9.B
end Go.Proofs.YtpgeoahlhdifoaaGreatDoor
