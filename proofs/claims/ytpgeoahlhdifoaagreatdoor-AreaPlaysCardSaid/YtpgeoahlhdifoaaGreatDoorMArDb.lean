/- Put together by program of: ArDpb, ArDpc. -/
import Derived.Test.YtpgeoahlhdifoaaGreatDoorMArD9
import Derived.Test.YtpgeoahlhdifoaaGreatDoorMArD
import Derived.Test.YtpgeoahlhdifoaaGreatDoorCopied
import Derived.OrdersHeld
namespace Go.Proofs.YtpgeoahlhdifoaaGreatDoor
set_option linter.unusedVariables false
open Go Go.RowKit
attribute [local go_sem ↓] loadA_eq storeA_eq loadD_eq storeD_eq loadE_eq loadP_eq
theorem build0 {P : Program} {t e : TypeId} {sz : Nat} (S : SlT P t e sz) (W : World) : (Instr.buildSlice t 0 #[]).run P W = .ok (.slice (some ⟨W.heap.size, 0, none⟩) 0 0) (W.alloc (.cells #[] e)) := by
  obtain ⟨i, z, b, hi, h0, h1, h2, hb, hz⟩ := S.hi
  simp [Instr.buildSlice, run_underlying S.ht, sizeOf, typeInfo, hi, Instr.fill, newRow]
  rw [show (Array.range 0) = #[] from Array.eq_empty_of_size_eq_zero (by simp)]
  simp
theorem made0_own {α : Type} {T : Ty α} (V : World) (e : TypeId) : Own (V.alloc (.cells #[] e)) V.heap.size e T (.slice (some ⟨V.heap.size, 0, none⟩) 0 0) [] :=
  ⟨(fun _ h => absurd h List.not_mem_nil), World.ownsRow_made V #[] 0 (Nat.le_refl _) (by unfold maxLen; omega) (by simp)⟩
set_option maxRecDepth 100000 in
set_option maxHeartbeats 8000000 in
theorem play_3 (a : Ar) (h hm : AH) (x : ActM) (w : World) (S : Nat → Prop) (ha : AS w (fun b => b < w.heap.size) a h) (hm0 : AS w S a hm) (hS : ∀ b, S b → b < w.heap.size) (hs : a.small 1000) (ho : x.ok) (hps : x.p.small 1000) (hxs : ActAt w S x) :
    Calls Tryz.prog 8 #[.agg #[.string a.agent, .string a.off, .bool a.open_, .string a.base.loc, .string a.base.off, .slice h.b.an h.b.nn h.b.cn, .slice h.b.ag h.b.ng h.b.cg, .slice h.b.ap h.b.np h.b.cp, .int .i64 a.base.tik.kind, .int .i64 a.base.tik.day, .int .i64 a.base.tik.min, .string a.base.rc, .slice h.b.ar h.b.nr h.b.cr, .slice h.b.ae h.b.ne h.b.ce, .bool a.base.queued, .int .u64 a.ver, .slice h.ad h.nd h.cd, .slice h.al h.nl h.cl, .bool a.working, .int .i64 a.queue], .agg #[.string a.agent, .string a.off, .bool a.open_, .string a.base.loc, .string a.base.off, .slice hm.b.an hm.b.nn hm.b.cn, .slice hm.b.ag hm.b.ng hm.b.cg, .slice hm.b.ap hm.b.np hm.b.cp, .int .i64 a.base.tik.kind, .int .i64 a.base.tik.day, .int .i64 a.base.tik.min, .string a.base.rc, .slice hm.b.ar hm.b.nr hm.b.cr, .slice hm.b.ae hm.b.ne hm.b.ce, .bool a.base.queued, .int .u64 a.ver, .slice hm.ad hm.nd hm.cd, .slice hm.al hm.nl hm.cl, .bool a.working, .int .i64 a.queue], .agg #[.int .i64 3, .int .i64 x.n, .string x.text, .string x.off, .int .i64 x.ed.kind, .string x.ed.nam.last, .string x.ed.nam.first, .string x.ed.seg.car, .int .i64 x.ed.seg.num, .int .i64 x.ed.seg.day, .int .u8 x.ed.seg.cls, .bool x.ed.seg.live, .int .i64 x.ed.tik.kind, .int .i64 x.ed.tik.day, .int .i64 x.ed.tik.min, .string x.ed.text, .int .i64 x.ed.n, .int .i64 x.ed.pax, .int .i64 x.ed.row, .int .u8 x.ed.let_, .string x.p.loc, .string x.p.off, .slice x.h.an x.h.nn x.h.cn, .slice x.h.ag x.h.ng x.h.cg, .slice x.h.ap x.h.np x.h.cp, .int .i64 x.p.tik.kind, .int .i64 x.p.tik.day, .int .i64 x.p.tik.min, .string x.p.rc, .slice x.h.ar x.h.nr x.h.cr, .slice x.h.ae x.h.ne x.h.ce, .bool x.p.queued, .int .u64 x.ver, .slice x.al x.nl x.cl]] w (PlayQ w w.heap.size (fun c => w.heap.size ≤ c) S) := by
  have HPG := Lib.hid (fun (hc : Hd) (W : World) (h1 : AS W (fun b => b < W.heap.size) a h) (h3 : PS W (fun b => b < W.heap.size) x.p hc) => (let hz : ∀ b, b < W.heap.size → b < W.heap.size := fun b hb => hb; (load_any a h x.p hc x.ver W _ h1 h3 hz hs hps ho.ver : Calls Tryz.prog 21 #[.agg #[.string a.agent, .string a.off, .bool a.open_, .string a.base.loc, .string a.base.off, .slice h.b.an h.b.nn h.b.cn, .slice h.b.ag h.b.ng h.b.cg, .slice h.b.ap h.b.np h.b.cp, .int .i64 a.base.tik.kind, .int .i64 a.base.tik.day, .int .i64 a.base.tik.min, .string a.base.rc, .slice h.b.ar h.b.nr h.b.cr, .slice h.b.ae h.b.ne h.b.ce, .bool a.base.queued, .int .u64 a.ver, .slice h.ad h.nd h.cd, .slice h.al h.nl h.cl, .bool a.working, .int .i64 a.queue], .agg #[.string x.p.loc, .string x.p.off, .slice hc.an hc.nn hc.cn, .slice hc.ag hc.ng hc.cg, .slice hc.ap hc.np hc.cp, .int .i64 x.p.tik.kind, .int .i64 x.p.tik.day, .int .i64 x.p.tik.min, .string x.p.rc, .slice hc.ar hc.nr hc.cr, .slice hc.ae hc.ne hc.ce, .bool x.p.queued], .int .u64 x.ver] W (RetA W (loadF a x.p x.ver)))))
  have HDC := Lib.hid (fun (W : World) (h1 : AS W S a hm) (h3 : PS W S x.p x.h) (hz : ∀ b, S b → b < W.heap.size) => (rload_any a hm x.p x.h x.ver W S h1 h3 hz ho.ver : Calls Tryz.prog 22 #[.agg #[.string a.agent, .string a.off, .bool a.open_, .string a.base.loc, .string a.base.off, .slice hm.b.an hm.b.nn hm.b.cn, .slice hm.b.ag hm.b.ng hm.b.cg, .slice hm.b.ap hm.b.np hm.b.cp, .int .i64 a.base.tik.kind, .int .i64 a.base.tik.day, .int .i64 a.base.tik.min, .string a.base.rc, .slice hm.b.ar hm.b.nr hm.b.cr, .slice hm.b.ae hm.b.ne hm.b.ce, .bool a.base.queued, .int .u64 a.ver, .slice hm.ad hm.nd hm.cd, .slice hm.al hm.nl hm.cl, .bool a.working, .int .i64 a.queue], .agg #[.string x.p.loc, .string x.p.off, .slice x.h.an x.h.nn x.h.cn, .slice x.h.ag x.h.ng x.h.cg, .slice x.h.ap x.h.np x.h.cp, .int .i64 x.p.tik.kind, .int .i64 x.p.tik.day, .int .i64 x.p.tik.min, .string x.p.rc, .slice x.h.ar x.h.nr x.h.cr, .slice x.h.ae x.h.ne x.h.ce, .bool x.p.queued], .int .u64 x.ver] W (RetD W S (loadF a x.p x.ver))))
  have hsm : (loadF a x.p x.ver).1.small 2000 := load_sm hs hps x.ver
  have HA := Lib.hid ha
  have HM := Lib.hid hm0
  have HS := Lib.hid hS
  have HXS := Lib.hid hxs
  clear hxs
  have HPS := Lib.hid hps
  clear hps
  clear ha hm0 hS hs ho
  generalize loadF a x.p x.ver = r at HPG HDC hsm
  obtain ⟨q, f⟩ := r
  dsimp only at hsm
  have HSM := Lib.hid hsm
  clear hsm
  have hP := P7.start w (aC a h) (aC a hm) (xC 3 x) aZ aZ aZ aZ
  go_enter Tryz.func8, Tryz.ntmps8
  go_upto_region 5 with fail
  refine wp_world (fun W => P7 w (aC a h) (aC a hm) (xC 3 x) aZ aZ aZ aZ W) hP ?_
  clear hP
  intro V hV
  have la1 := lda_of hV.b0 rfl
  have lm1 := ldaD_of hV.b1 rfl
  have z1 := hV.z
  have x01 := (xC0 hV.b2)
  have lp1 := ldk_p hV.b2
  have x321 := (xC32 hV.b2)
  go_upto_region 17 with fail
  clear la1 lm1 x01 lp1 x321
  have hV0 := hV.drew
  have hdr : V.drew.heap.size = V.heap.size := rfl
  refine wp_region_held_drew (S := fun w' => (loadA (.pointer (some ⟨w.heap.size, 0, none⟩))).run Tryz.prog w' = .ok (.agg (aC a h)) w' ∧ (loadP (.pointer (some ⟨w.heap.size + 1 + 1, 20, none⟩))).run Tryz.prog w' = .ok (.agg #[.string x.p.loc, .string x.p.off, .slice x.h.an x.h.nn x.h.cn, .slice x.h.ag x.h.ng x.h.cg, .slice x.h.ap x.h.np x.h.cp, .int .i64 x.p.tik.kind, .int .i64 x.p.tik.day, .int .i64 x.p.tik.min, .string x.p.rc, .slice x.h.ar x.h.nr x.h.cr, .slice x.h.ae x.h.ne x.h.ce, .bool x.p.queued]) w' ∧ w'.cell? ⟨w.heap.size + 1 + 1, 32, none⟩ = some (.int .u64 x.ver)) (by kernel_rfl) ⟨lda_of hV0.b0 rfl, ldk_p hV0.b2, (xC32 hV0.b2)⟩ (fun hS => ?_)
  refine tk (i := 0) (oi := { dst := some 73, op := .load 53 (.tmp 3), type := 53, pos := "law.go:79", after := #[], guard := none }) (v := ?_) ?_ hS ?_
  rotate_left
  · intro w9 hS9; have q1 := hS9.1; have q2 := hS9.2.1; have q3 := hS9.2.2; go_simp; try with_reducible rfl
  try simp only [Act.put, List.setIfInBounds_toArray, List.set_cons_zero, List.set_cons_succ]
  refine tk (i := 1) (oi := { dst := some 74, op := .fieldAddr 52 (.tmp 5) 5, type := 0, pos := "law.go:79", after := #[], guard := none }) (v := ?_) ?_ hS ?_
  rotate_left
  · intro w9 hS9; have q1 := hS9.1; have q2 := hS9.2.1; have q3 := hS9.2.2; go_simp; try with_reducible rfl
  try simp only [Act.put, List.setIfInBounds_toArray, List.set_cons_zero, List.set_cons_succ]
  refine tk (i := 2) (oi := { dst := some 75, op := .load 29 (.tmp 74), type := 29, pos := "law.go:79", after := #[⟨1, .data⟩], guard := none }) (v := ?_) ?_ hS ?_
  rotate_left
  · intro w9 hS9; have q1 := hS9.1; have q2 := hS9.2.1; have q3 := hS9.2.2; go_simp; try with_reducible rfl
  try simp only [Act.put, List.setIfInBounds_toArray, List.set_cons_zero, List.set_cons_succ]
  refine tk (i := 4) (oi := { dst := some 77, op := .fieldAddr 52 (.tmp 5) 6, type := 0, pos := "law.go:79", after := #[], guard := none }) (v := ?_) ?_ hS ?_
  rotate_left
  · intro w9 hS9; have q1 := hS9.1; have q2 := hS9.2.1; have q3 := hS9.2.2; go_simp; try with_reducible rfl
  try simp only [Act.put, List.setIfInBounds_toArray, List.set_cons_zero, List.set_cons_succ]
  refine tk (i := 5) (oi := { dst := some 78, op := .load 30 (.tmp 77), type := 30, pos := "law.go:79", after := #[⟨4, .data⟩], guard := none }) (v := ?_) ?_ hS ?_
  rotate_left
  · intro w9 hS9; have q1 := hS9.1; have q2 := hS9.2.1; have q3 := hS9.2.2; go_simp; try with_reducible rfl
  try simp only [Act.put, List.setIfInBounds_toArray, List.set_cons_zero, List.set_cons_succ]
  refine wpAnyH_ready (rs := [3]) (by kernel_rfl) (by simp) ?_
  refine AllReadyH.cons (o := { dst := some 76, op := .call { callee := .value (.func 17), args := #[.tmp 75], argTypes := #[29] }, type := 29, pos := "law.go:79", after := #[⟨2, .data⟩], guard := none }) rfl (fun K9 hK9 => ?_) AllReadyH.nil
  go_simp
  refine (lcopied_any x.p x.h V.drew S (HXS.out.p.below hV0.B HS.out) (fun b hb => by have := HS.out b hb; have := hV0.z; omega) (HPS.out.mono (by omega))).mono ?_
  rintro e v1 ⟨hc, rfl, oc, h1⟩
  have hV1 := hV0.step h1
  have zc := h1.size
  have hSa : (loadA (.pointer (some ⟨w.heap.size, 0, none⟩))).run Tryz.prog v1 = .ok (.agg (aC a h)) v1 ∧ (loadP (.pointer (some ⟨w.heap.size + 1 + 1, 20, none⟩))).run Tryz.prog v1 = .ok (.agg #[.string x.p.loc, .string x.p.off, .slice x.h.an x.h.nn x.h.cn, .slice x.h.ag x.h.ng x.h.cg, .slice x.h.ap x.h.np x.h.cp, .int .i64 x.p.tik.kind, .int .i64 x.p.tik.day, .int .i64 x.p.tik.min, .string x.p.rc, .slice x.h.ar x.h.nr x.h.cr, .slice x.h.ae x.h.ne x.h.ce, .bool x.p.queued]) v1 ∧ v1.cell? ⟨w.heap.size + 1 + 1, 32, none⟩ = some (.int .u64 x.ver) := ⟨lda_of hV1.b0 rfl, ldk_p hV1.b2, (xC32 hV1.b2)⟩
  refine hK9.out _ _ hSa (fun hS => ?_)
  clear hK9 K9
  try simp only [Act.put, List.setIfInBounds_toArray, List.set_cons_zero, List.set_cons_succ]
  refine wpAnyH_ready (rs := [6]) (by kernel_rfl) (by simp) ?_
  refine AllReadyH.cons (o := { dst := some 79, op := .call { callee := .value (.func 21), args := #[.tmp 73, .tmp 76, .tmp 78], argTypes := #[53, 29, 30] }, type := 64, pos := "law.go:79", after := #[⟨0, .data⟩, ⟨3, .data⟩, ⟨5, .data⟩, ⟨3, .chain⟩], guard := none }) rfl (fun K9 hK9 => ?_) AllReadyH.nil
  go_simp
  refine (HPG.out hc v1 ((HA.out.below hV1.B (fun b hb => hb)).mono fun b hb => by have := hV1.B.size; omega) (oc.ps.mono fun b hb => hb.2)).mono ?_
  rintro en w1 ⟨hb, rfl, ob, hb1⟩
  dsimp only at ob ⊢
  have hP1 := hV1.step hb1
  have hSc : (loadA (.pointer (some ⟨w.heap.size, 0, none⟩))).run Tryz.prog w1 = .ok (.agg (aC a h)) w1 ∧ (loadP (.pointer (some ⟨w.heap.size + 1 + 1, 20, none⟩))).run Tryz.prog w1 = .ok (.agg #[.string x.p.loc, .string x.p.off, .slice x.h.an x.h.nn x.h.cn, .slice x.h.ag x.h.ng x.h.cg, .slice x.h.ap x.h.np x.h.cp, .int .i64 x.p.tik.kind, .int .i64 x.p.tik.day, .int .i64 x.p.tik.min, .string x.p.rc, .slice x.h.ar x.h.nr x.h.cr, .slice x.h.ae x.h.ne x.h.ce, .bool x.p.queued]) w1 ∧ w1.cell? ⟨w.heap.size + 1 + 1, 32, none⟩ = some (.int .u64 x.ver) := ⟨lda_of hP1.b0 rfl, ldk_p hP1.b2, (xC32 hP1.b2)⟩
  refine hK9.out _ _ hSc (fun hS => ?_)
  clear hK9 K9
  try simp only [Act.put, List.setIfInBounds_toArray, List.set_cons_zero, List.set_cons_succ]
  refine tk (i := 7) (oi := { dst := some 72, op := .move (.tmp 79), type := 64, pos := "law.go:79", after := #[⟨6, .data⟩], guard := none }) (v := ?_) ?_ hS ?_
  rotate_left
  · intro w9 hS9; have q1 := hS9.1; have q2 := hS9.2.1; have q3 := hS9.2.2; go_simp; try with_reducible rfl
  try simp only [Act.put, List.setIfInBounds_toArray, List.set_cons_zero, List.set_cons_succ]
  refine tk (i := 8) (oi := { dst := some 80, op := .extract (.tmp 72) 0, type := 53, pos := "law.go:79", after := #[⟨7, .data⟩], guard := none }) (v := ?_) ?_ hS ?_
  rotate_left
  · intro w9 hS9; have q1 := hS9.1; have q2 := hS9.2.1; have q3 := hS9.2.2; go_simp; try with_reducible rfl
  try simp only [Act.put, List.setIfInBounds_toArray, List.set_cons_zero, List.set_cons_succ]
  refine tk (i := 9) (oi := { dst := some 81, op := .extract (.tmp 72) 1, type := 63, pos := "law.go:79", after := #[⟨7, .data⟩, ⟨10, .gcOnly .lateStores⟩], guard := none }) (v := ?_) ?_ hS ?_
  rotate_left
  · intro w9 hS9; have q1 := hS9.1; have q2 := hS9.2.1; have q3 := hS9.2.2; go_simp; try with_reducible rfl
  try simp only [Act.put, List.setIfInBounds_toArray, List.set_cons_zero, List.set_cons_succ]
  refine wpAnyH_ready (rs := [10]) (by kernel_rfl) (by simp) ?_
  refine AllReadyH.cons (o := { dst := none, op := .store 53 (.tmp 12) (.tmp 80), type := 0, pos := "law.go:79", after := #[⟨8, .data⟩, ⟨6, .chain⟩, ⟨0, .phase⟩, ⟨1, .phase⟩, ⟨2, .phase⟩, ⟨3, .phase⟩, ⟨4, .phase⟩, ⟨5, .phase⟩, ⟨6, .phase⟩, ⟨7, .phase⟩, ⟨8, .phase⟩, ⟨9, .textOnly .lateStores⟩], guard := none }) rfl (fun K9 hK9 => ?_) AllReadyH.nil
  have hst := sta_of hP1.b5 (cs := (aC q hb)) rfl rfl (aC_one _ _)
  have hPx := hP1.row5 (aC q hb)
  have hSd := And.intro (lda_of hPx.b0 rfl) (And.intro (ldk_p hPx.b2) ((xC32 hPx.b2)))
  go_simp
  refine hK9.out _ _ hSd (fun hS => ?_)
  clear hK9 K9
  try simp only [Act.put, List.setIfInBounds_toArray, List.set_cons_zero, List.set_cons_succ]
  refine tk (i := 11) (oi := { dst := some 10, op := .assign (.tmp 81), type := 63, pos := "law.go:79", after := #[⟨9, .data⟩, ⟨10, .chain⟩, ⟨0, .phase⟩, ⟨1, .phase⟩, ⟨2, .phase⟩, ⟨3, .phase⟩, ⟨4, .phase⟩, ⟨5, .phase⟩, ⟨6, .phase⟩, ⟨7, .phase⟩, ⟨8, .phase⟩, ⟨9, .phase⟩, ⟨10, .phase⟩], guard := none }) (v := ?_) ?_ hS ?_
  rotate_left
  · intro w9 hS9; have q1 := hS9.1; have q2 := hS9.2.1; have q3 := hS9.2.2; go_simp; try with_reducible rfl
  try simp only [Act.put, List.setIfInBounds_toArray, List.set_cons_zero, List.set_cons_succ]
  refine wpAnyH_done (by kernel_rfl) ?_ _
  have zx : V.heap.size ≤ v1.heap.size := by simpa using zc
  have hh : Below V.heap.size V v1 := ((Below.refl V.heap.size V).drew).trans (h1.mono (Nat.le_refl _))
  replace hb1 : Below V.heap.size V w1 := hh.trans (hb1.mono zx)
  clear hS hSa hSc hSd hPx hV1 oc
  have hP2 := hP1.row5 (aC q hb)
  have la2 := lda_of hP2.b0 rfl
  have lm2 := ldaD_of hP2.b1 rfl
  have z2 := hP2.z
  have x02 := (xC0 hP2.b2)
  have lp2 := ldk_p hP2.b2
  have x322 := (xC32 hP2.b2)
  have bw1 := (ob.more (B' := V.heap.size) (by omega)).bw
  have ob1 := (ob.more (B' := V.heap.size) (by omega)).as
  go_wp2_with fail
  refine (HDC.out _ (HM.out.below hP2.B HS.out) (HXS.out.p.below hP2.B HS.out) (fun b hb => by have := HS.out b hb; omega)).mono ?_
  rintro en w3 ⟨hn, rfl, an, hb3⟩
  dsimp only at an ⊢
  have hP3 := hP2.step hb3
  clear la2 lm2 z2 x02 lp2 x322
  have hst3 := std_of hP3.b6 (cs := (aC q hn)) rfl rfl (aC_one _ _)
  have hP4 := hP3.row6 (aC q hn)
  have z3 := hP3.z
  have zs : w1.heap.size ≤ w3.heap.size := by have := hb3.size; simpa using this
  have zv := hb1.size
  have zw := hV.B.size
  have bw3 := ((bw1.rowLt (g := w.heap.size + 1 + 1 + 1 + 1 + 1) (by omega) (aC q hb)).step hb3 (by simp)).rowLt (g := w.heap.size + 1 + 1 + 1 + 1 + 1 + 1) (by omega) (aC q hn)
  have ob3 : AS w3 (fun b => V.heap.size ≤ b ∧ b < w1.heap.size) q hb := (ob1.keep fun p hp => cell_setRow_other _ (w.heap.size + 1 + 1 + 1 + 1 + 1) (aC q hb) _ (by omega)).below hb3 (fun b hb => by simpa using hb.2)
  have an3 : AS w3 (fun b => S b ∨ (w1.heap.size ≤ b ∧ b < w3.heap.size)) q hn := an.mono fun b hb => by simpa using hb
  have hT : PT w S V.heap.size w1.heap.size q hb hn (w3.setRow (w.heap.size + 1 + 1 + 1 + 1 + 1 + 1) (aC q hn)) := ⟨bw3, by simpa using zs, ob3.keep fun p hp => cell_setRow_other _ _ _ _ (by omega), (an3.keep fun p hp => cell_setRow_other _ _ _ _ (by rcases hp with hp | hp; (have := HS.out _ hp; omega); omega)).mono fun b hb => by simpa using hb⟩
  have x0e := (xC0 hP3.b2)
  go_upto_region 35 with fail
  refine wp_world (fun W => P7 w (aC a h) (aC a hm) (xC 3 x) aZ aZ (aC q hb) (aC q hn) W ∧ PT w S V.heap.size w1.heap.size q hb hn W) ⟨hP4, hT⟩ ?_
  clear hP1 hP2 hP3 hP4 hT hst3 bw1 bw3 ob1 ob3 an an3 ob hb1 hb3 x0e z3 zs
  generalize w1.heap.size = c1 at zv ⊢
  rintro V9 ⟨hP9, hT9⟩
  have hP0 := hP9.drew
  have hT0 := hT9.drew HS.out (by have := hP9.z; omega)
  have hz9 := hP9.z
  refine wp_region_held_drew (S := fun w' => (loadA (.pointer (some ⟨w.heap.size + 1 + 1 + 1 + 1 + 1, 0, none⟩))).run Tryz.prog w' = .ok (.agg (aC q hb)) w' ∧ (loadD (.pointer (some ⟨w.heap.size + 1 + 1 + 1 + 1 + 1 + 1, 0, none⟩))).run Tryz.prog w' = .ok (.agg (aC q hn)) w') (by kernel_rfl) ⟨lda_of hP0.b5 rfl, ldaD_of hP0.b6 rfl⟩ (fun hS => ?_)
  refine tk (i := 0) (oi := { dst := some 175, op := .load 53 (.tmp 12), type := 53, pos := "law.go:100", after := #[], guard := none }) (v := ?_) ?_ hS ?_
  rotate_left
  · intro w9 hS9; have q1 := hS9.1; have q2 := hS9.2; go_simp; try with_reducible rfl
  try simp only [Act.put, List.setIfInBounds_toArray, List.set_cons_zero, List.set_cons_succ]
  refine tk (i := 1) (oi := { dst := some 176, op := .load 34 (.tmp 13), type := 34, pos := "law.go:100", after := #[⟨12, .gcOnly .lateStores⟩], guard := none }) (v := ?_) ?_ hS ?_
  rotate_left
  · intro w9 hS9; have q1 := hS9.1; have q2 := hS9.2; go_simp; try with_reducible rfl
  try simp only [Act.put, List.setIfInBounds_toArray, List.set_cons_zero, List.set_cons_succ]
  refine tk (i := 2) (oi := { dst := some 177, op := .move (.tmp 11), type := 3, pos := "law.go:100", after := #[⟨13, .gcOnly .lateStores⟩], guard := none }) (v := ?_) ?_ hS ?_
  rotate_left
  · intro w9 hS9; have q1 := hS9.1; have q2 := hS9.2; go_simp; try with_reducible rfl
  try simp only [Act.put, List.setIfInBounds_toArray, List.set_cons_zero, List.set_cons_succ]
  refine tk (i := 3) (oi := { dst := some 178, op := .binOp .eql 3 (.tmp 177) (.const (.int .i64 0)) 3, type := 4, pos := "law.go:100", after := #[⟨2, .data⟩, ⟨13, .gcOnly .lateStores⟩], guard := none }) (v := ?_) ?_ hS ?_
  rotate_left
  · intro w9 hS9; have q1 := hS9.1; have q2 := hS9.2; go_simp; try with_reducible rfl
  try simp only [Act.put, List.setIfInBounds_toArray, List.set_cons_zero, List.set_cons_succ]
  refine tk (i := 4) (oi := { dst := some 179, op := .move (.tmp 10), type := 63, pos := "law.go:100", after := #[], guard := none }) (v := ?_) ?_ hS ?_
  rotate_left
  · intro w9 hS9; have q1 := hS9.1; have q2 := hS9.2; go_simp; try with_reducible rfl
  try simp only [Act.put, List.setIfInBounds_toArray, List.set_cons_zero, List.set_cons_succ]
  refine tk (i := 5) (oi := { dst := some 180, op := .move (.tmp 11), type := 3, pos := "law.go:100", after := #[], guard := none }) (v := ?_) ?_ hS ?_
  rotate_left
  · intro w9 hS9; have q1 := hS9.1; have q2 := hS9.2; go_simp; try with_reducible rfl
  try simp only [Act.put, List.setIfInBounds_toArray, List.set_cons_zero, List.set_cons_succ]
  refine tk (i := 6) (oi := { dst := some 181, op := .binOp .eql 3 (.tmp 179) (.tmp 180) 3, type := 4, pos := "law.go:100", after := #[⟨4, .data⟩, ⟨5, .data⟩], guard := none }) (v := ?_) ?_ hS ?_
  rotate_left
  · intro w9 hS9; have q1 := hS9.1; have q2 := hS9.2; go_simp; try with_reducible rfl
  try simp only [Act.put, List.setIfInBounds_toArray, List.set_cons_zero, List.set_cons_succ]
  refine tk (i := 7) (oi := { dst := some 182, op := .move (.tmp 181), type := 4, pos := "law.go:100", after := #[⟨6, .data⟩], guard := none }) (v := ?_) ?_ hS ?_
  rotate_left
  · intro w9 hS9; have q1 := hS9.1; have q2 := hS9.2; go_simp; try with_reducible rfl
  try simp only [Act.put, List.setIfInBounds_toArray, List.set_cons_zero, List.set_cons_succ]
  refine tk (i := 8) (oi := { dst := some 183, op := .load 53 (.tmp 12), type := 53, pos := "law.go:100", after := #[⟨7, .guard⟩], guard := some (7, true) }) (v := ?_) ?_ hS ?_
  rotate_left
  · intro w9 hS9; have q1 := hS9.1; have q2 := hS9.2; go_simp; try with_reducible rfl
  try simp only [Act.put, List.setIfInBounds_toArray, List.set_cons_zero, List.set_cons_succ]
  refine tk (i := 9) (oi := { dst := some 184, op := .load 34 (.tmp 13), type := 34, pos := "law.go:100", after := #[⟨7, .guard⟩], guard := some (7, true) }) (v := ?_) ?_ hS ?_
  rotate_left
  · intro w9 hS9; have q1 := hS9.1; have q2 := hS9.2; go_simp; try with_reducible rfl
  try simp only [Act.put, List.setIfInBounds_toArray, List.set_cons_zero, List.set_cons_succ]
  refine wpAnyH_ready (rs := [10]) (by kernel_rfl) (by simp) ?_
  refine AllReadyH.cons (o := { dst := some 185, op := .call { callee := .value (.func 9), args := #[.tmp 183, .tmp 184], argTypes := #[53, 34] }, type := 4, pos := "law.go:100", after := #[⟨8, .data⟩, ⟨9, .data⟩, ⟨7, .chain⟩, ⟨7, .guard⟩], guard := some (7, true) }) rfl (fun K9 hK9 => ?_) AllReadyH.nil
  go_simp
  refine (same19_any q hb hn V9.drew _ _ hT0.b hT0.n (fun b hb => by have h5 := hT0.hc; omega) (fun b hb => by rcases hb with hb | hb; (have := HS.out b hb; have := hP0.z; omega); exact hb.2) HSM.out).mono ?_
  rintro e w5 ⟨rfl, hb5⟩
  have hP5 := hP0.step hb5
  have hT5 := hT0.step HS.out (by have := hP0.z; omega) hb5
  have hS5 : (loadA (.pointer (some ⟨w.heap.size + 1 + 1 + 1 + 1 + 1, 0, none⟩))).run Tryz.prog w5 = .ok (.agg (aC q hb)) w5 ∧ (loadD (.pointer (some ⟨w.heap.size + 1 + 1 + 1 + 1 + 1 + 1, 0, none⟩))).run Tryz.prog w5 = .ok (.agg (aC q hn)) w5 := ⟨lda_of hP5.b5 rfl, ldaD_of hP5.b6 rfl⟩
  refine hK9.out _ _ hS5 (fun hS => ?_)
  clear hK9 K9
  try simp only [Act.put, List.setIfInBounds_toArray, List.set_cons_zero, List.set_cons_succ]
  refine tk (i := 11) (oi := { dst := some 186, op := .pick (.tmp 182) (.tmp 185) (.const (.bool false)), type := 4, pos := "law.go:100", after := #[⟨7, .data⟩, ⟨10, .data⟩, ⟨14, .gcOnly .lateStores⟩], guard := none }) (v := ?_) ?_ hS ?_
  rotate_left
  · intro w9 hS9; have q1 := hS9.1; have q2 := hS9.2; go_simp; try with_reducible rfl
  try simp only [Act.put, List.setIfInBounds_toArray, List.set_cons_zero, List.set_cons_succ]
  refine wpAnyH_ready (rs := [12]) (by kernel_rfl) (by simp) ?_
  refine AllReadyH.cons (o := { dst := none, op := .store 53 (.tmp 6) (.tmp 175), type := 0, pos := "law.go:100", after := #[⟨0, .data⟩, ⟨10, .chain⟩, ⟨0, .phase⟩, ⟨1, .textOnly .lateStores⟩, ⟨2, .textOnly .lateStores⟩, ⟨3, .textOnly .lateStores⟩, ⟨4, .textOnly .lateStores⟩, ⟨5, .textOnly .lateStores⟩, ⟨6, .textOnly .lateStores⟩, ⟨7, .textOnly .lateStores⟩, ⟨8, .textOnly .lateStores⟩, ⟨9, .textOnly .lateStores⟩, ⟨10, .textOnly .lateStoresUnsure⟩, ⟨11, .textOnly .lateStores⟩], guard := none }) rfl (fun K9 hK9 => ?_) AllReadyH.nil
  have hst6 := sta_of hP5.b3 (cs := (aC q hb)) rfl rfl (aC_one _ _)
  have hP6 := hP5.row3 (aC q hb)
  have hT6 := hT5.row HS.out (g := w.heap.size + 1 + 1 + 1) (by omega) (by omega) (by omega) (aC q hb)
  have hS6 := And.intro (lda_of hP6.b5 rfl) (ldaD_of hP6.b6 rfl)
  go_simp
  refine hK9.out _ _ hS6 (fun hS => ?_)
  clear hK9 K9
  try simp only [Act.put, List.setIfInBounds_toArray, List.set_cons_zero, List.set_cons_succ]
  refine wpAnyH_ready (rs := [13]) (by kernel_rfl) (by simp) ?_
  refine AllReadyH.cons (o := { dst := none, op := .store 34 (.tmp 7) (.tmp 176), type := 0, pos := "law.go:100", after := #[⟨1, .data⟩, ⟨12, .chain⟩, ⟨0, .phase⟩, ⟨1, .phase⟩, ⟨2, .textOnly .lateStores⟩, ⟨3, .textOnly .lateStores⟩, ⟨4, .textOnly .lateStores⟩, ⟨5, .textOnly .lateStores⟩, ⟨6, .textOnly .lateStores⟩, ⟨7, .textOnly .lateStores⟩, ⟨8, .textOnly .lateStores⟩, ⟨9, .textOnly .lateStores⟩, ⟨10, .textOnly .lateStoresUnsure⟩, ⟨11, .textOnly .lateStores⟩, ⟨12, .phase⟩], guard := none }) rfl (fun K9 hK9 => ?_) AllReadyH.nil
  have hst7 := std_of hP6.b4 (cs := (aC q hn)) rfl rfl (aC_one _ _)
  have hP7 := hP6.row4 (aC q hn)
  have hT7 := hT6.row HS.out (g := w.heap.size + 1 + 1 + 1 + 1) (by omega) (by omega) (by omega) (aC q hn)
  have hS7 := And.intro (lda_of hP7.b5 rfl) (ldaD_of hP7.b6 rfl)
  go_simp
  refine hK9.out _ _ hS7 (fun hS => ?_)
  clear hK9 K9
  try simp only [Act.put, List.setIfInBounds_toArray, List.set_cons_zero, List.set_cons_succ]
  refine tk (i := 14) (oi := { dst := some 8, op := .assign (.tmp 178), type := 4, pos := "law.go:100", after := #[⟨3, .data⟩, ⟨13, .chain⟩, ⟨0, .phase⟩, ⟨1, .phase⟩, ⟨2, .phase⟩, ⟨3, .phase⟩, ⟨4, .textOnly .lateStores⟩, ⟨5, .textOnly .lateStores⟩, ⟨6, .textOnly .lateStores⟩, ⟨7, .textOnly .lateStores⟩, ⟨8, .textOnly .lateStores⟩, ⟨9, .textOnly .lateStores⟩, ⟨10, .textOnly .lateStoresUnsure⟩, ⟨11, .textOnly .lateStores⟩, ⟨12, .phase⟩, ⟨13, .phase⟩], guard := none }) (v := ?_) ?_ hS ?_
  rotate_left
  · intro w9 hS9; have q1 := hS9.1; have q2 := hS9.2; go_simp; try with_reducible rfl
  try simp only [Act.put, List.setIfInBounds_toArray, List.set_cons_zero, List.set_cons_succ]
  refine tk (i := 15) (oi := { dst := some 9, op := .assign (.tmp 186), type := 4, pos := "law.go:100", after := #[⟨11, .data⟩, ⟨14, .chain⟩, ⟨0, .phase⟩, ⟨1, .phase⟩, ⟨2, .phase⟩, ⟨3, .phase⟩, ⟨4, .phase⟩, ⟨5, .phase⟩, ⟨6, .phase⟩, ⟨7, .phase⟩, ⟨8, .phase⟩, ⟨9, .phase⟩, ⟨10, .phase⟩, ⟨11, .phase⟩, ⟨12, .phase⟩, ⟨13, .phase⟩, ⟨14, .phase⟩], guard := none }) (v := ?_) ?_ hS ?_
  rotate_left
  · intro w9 hS9; have q1 := hS9.1; have q2 := hS9.2; go_simp; try with_reducible rfl
  try simp only [Act.put, List.setIfInBounds_toArray, List.set_cons_zero, List.set_cons_succ]
  refine wpAnyH_done (by kernel_rfl) ?_ _
  go_wp2
  refine ret_pl Tryz.results8 hP7.b3 rfl hP7.b4 rfl rfl rfl rfl rfl rfl ?_
  obtain ⟨g1, g2, g3⟩ := hT7.heads HSM.out
  exact ⟨q, hb, hn, c1, _, by omega, rfl, HSM.out, hT7.bw.more (by omega), g1, g2, g3, hT7.hc, hT7.n.mono fun b hb => by rcases hb with hb | hb; exact .inl hb; exact .inr ⟨by omega, hb⟩, hP7.B⟩
set_option maxRecDepth 100000 in
set_option maxHeartbeats 8000000 in
theorem play_5 (a : Ar) (h hm : AH) (x : ActM) (w : World) (S : Nat → Prop) (ha : AS w (fun b => b < w.heap.size) a h) (hm0 : AS w S a hm) (hS : ∀ b, S b → b < w.heap.size) (hs : a.small 1000) (ho : x.ok) (hls : x.legs.length ≤ 1000) (hxs : ActAt w S x) :
    Calls Tryz.prog 8 #[.agg #[.string a.agent, .string a.off, .bool a.open_, .string a.base.loc, .string a.base.off, .slice h.b.an h.b.nn h.b.cn, .slice h.b.ag h.b.ng h.b.cg, .slice h.b.ap h.b.np h.b.cp, .int .i64 a.base.tik.kind, .int .i64 a.base.tik.day, .int .i64 a.base.tik.min, .string a.base.rc, .slice h.b.ar h.b.nr h.b.cr, .slice h.b.ae h.b.ne h.b.ce, .bool a.base.queued, .int .u64 a.ver, .slice h.ad h.nd h.cd, .slice h.al h.nl h.cl, .bool a.working, .int .i64 a.queue], .agg #[.string a.agent, .string a.off, .bool a.open_, .string a.base.loc, .string a.base.off, .slice hm.b.an hm.b.nn hm.b.cn, .slice hm.b.ag hm.b.ng hm.b.cg, .slice hm.b.ap hm.b.np hm.b.cp, .int .i64 a.base.tik.kind, .int .i64 a.base.tik.day, .int .i64 a.base.tik.min, .string a.base.rc, .slice hm.b.ar hm.b.nr hm.b.cr, .slice hm.b.ae hm.b.ne hm.b.ce, .bool a.base.queued, .int .u64 a.ver, .slice hm.ad hm.nd hm.cd, .slice hm.al hm.nl hm.cl, .bool a.working, .int .i64 a.queue], .agg #[.int .i64 5, .int .i64 x.n, .string x.text, .string x.off, .int .i64 x.ed.kind, .string x.ed.nam.last, .string x.ed.nam.first, .string x.ed.seg.car, .int .i64 x.ed.seg.num, .int .i64 x.ed.seg.day, .int .u8 x.ed.seg.cls, .bool x.ed.seg.live, .int .i64 x.ed.tik.kind, .int .i64 x.ed.tik.day, .int .i64 x.ed.tik.min, .string x.ed.text, .int .i64 x.ed.n, .int .i64 x.ed.pax, .int .i64 x.ed.row, .int .u8 x.ed.let_, .string x.p.loc, .string x.p.off, .slice x.h.an x.h.nn x.h.cn, .slice x.h.ag x.h.ng x.h.cg, .slice x.h.ap x.h.np x.h.cp, .int .i64 x.p.tik.kind, .int .i64 x.p.tik.day, .int .i64 x.p.tik.min, .string x.p.rc, .slice x.h.ar x.h.nr x.h.cr, .slice x.h.ae x.h.ne x.h.ce, .bool x.p.queued, .int .u64 x.ver, .slice x.al x.nl x.cl]] w (PlayQ w w.heap.size (fun c => w.heap.size ≤ c) S) := by
  have HPG := Lib.hid (fun (Ac : Option Addr) (nc cc : Nat) (W : World) (h1 : AS W (fun b => b < W.heap.size) a h) (h3 : SlS W (fun b => b < W.heap.size) tLeg Ac nc cc x.legs) (h4 : nc ≤ 1000) => (let hz : ∀ b, b < W.heap.size → b < W.heap.size := fun b hb => hb; (list_any a h x.legs Ac nc cc W _ h1 h3 hz hs h4 : Calls Tryz.prog 25 #[.agg #[.string a.agent, .string a.off, .bool a.open_, .string a.base.loc, .string a.base.off, .slice h.b.an h.b.nn h.b.cn, .slice h.b.ag h.b.ng h.b.cg, .slice h.b.ap h.b.np h.b.cp, .int .i64 a.base.tik.kind, .int .i64 a.base.tik.day, .int .i64 a.base.tik.min, .string a.base.rc, .slice h.b.ar h.b.nr h.b.cr, .slice h.b.ae h.b.ne h.b.ce, .bool a.base.queued, .int .u64 a.ver, .slice h.ad h.nd h.cd, .slice h.al h.nl h.cl, .bool a.working, .int .i64 a.queue], .slice Ac nc cc] W (RetA W (listF a x.legs)))))
  have HDC := Lib.hid (fun (W : World) (h1 : AS W S a hm) (h3 : SlS W S tLeg x.al x.nl x.cl x.legs) (hz : ∀ b, S b → b < W.heap.size) => (rlist_any a hm x.legs x.al x.nl x.cl W S h1 hz h3 : Calls Tryz.prog 26 #[.agg #[.string a.agent, .string a.off, .bool a.open_, .string a.base.loc, .string a.base.off, .slice hm.b.an hm.b.nn hm.b.cn, .slice hm.b.ag hm.b.ng hm.b.cg, .slice hm.b.ap hm.b.np hm.b.cp, .int .i64 a.base.tik.kind, .int .i64 a.base.tik.day, .int .i64 a.base.tik.min, .string a.base.rc, .slice hm.b.ar hm.b.nr hm.b.cr, .slice hm.b.ae hm.b.ne hm.b.ce, .bool a.base.queued, .int .u64 a.ver, .slice hm.ad hm.nd hm.cd, .slice hm.al hm.nl hm.cl, .bool a.working, .int .i64 a.queue], .slice x.al x.nl x.cl] W (RetD W S (listF a x.legs))))
  have hsm : (listF a x.legs).1.small 2000 := list_sm hs hls
  have HA := Lib.hid ha
  have HM := Lib.hid hm0
  have HS := Lib.hid hS
  have HXS := Lib.hid hxs
  clear hxs
  have hnl : x.nl ≤ 1000 := by have := HXS.out.l.len; omega
  clear ha hm0 hS hs ho hls
  generalize listF a x.legs = r at HPG HDC hsm
  obtain ⟨q, f⟩ := r
  dsimp only at hsm
  have HSM := Lib.hid hsm
  clear hsm
  have hP := P7.start w (aC a h) (aC a hm) (xC 5 x) aZ aZ aZ aZ
  go_enter Tryz.func8, Tryz.ntmps8
  go_upto_region 5 with fail
  refine wp_world (fun W => P7 w (aC a h) (aC a hm) (xC 5 x) aZ aZ aZ aZ W) hP ?_
  clear hP
  intro V hV
  have la1 := lda_of hV.b0 rfl
  have lm1 := ldaD_of hV.b1 rfl
  have z1 := hV.z
  have x01 := (xC0 hV.b2)
  have x331 := (xC33 hV.b2)
  go_upto_region 23 with fail
  clear la1 lm1 x01 x331
  have hV0 := hV.drew
  have hdr : V.drew.heap.size = V.heap.size := rfl
  have hbs := build0 (P := Tryz.prog) sl_leg
  refine wp_region_held_drew (S := fun w' => (loadA (.pointer (some ⟨w.heap.size, 0, none⟩))).run Tryz.prog w' = .ok (.agg (aC a h)) w' ∧ w'.cell? ⟨w.heap.size + 1 + 1, 33, none⟩ = some (.slice x.al x.nl x.cl)) (by kernel_rfl) ⟨lda_of hV0.b0 rfl, (xC33 hV0.b2)⟩ (fun hS => ?_)
  refine tk (i := 0) (oi := { dst := some 106, op := .load 53 (.tmp 3), type := 53, pos := "law.go:85", after := #[], guard := none }) (v := ?_) ?_ hS ?_
  rotate_left
  · intro w9 hS9; have q1 := hS9.1; have q2 := hS9.2; go_simp; try with_reducible rfl
  try simp only [Act.put, List.setIfInBounds_toArray, List.set_cons_zero, List.set_cons_succ]
  refine tk (i := 2) (oi := { dst := some 108, op := .fieldAddr 52 (.tmp 5) 7, type := 0, pos := "law.go:85", after := #[], guard := none }) (v := ?_) ?_ hS ?_
  rotate_left
  · intro w9 hS9; have q1 := hS9.1; have q2 := hS9.2; go_simp; try with_reducible rfl
  try simp only [Act.put, List.setIfInBounds_toArray, List.set_cons_zero, List.set_cons_succ]
  refine tk (i := 3) (oi := { dst := some 109, op := .load 32 (.tmp 108), type := 32, pos := "law.go:85", after := #[⟨2, .data⟩], guard := none }) (v := ?_) ?_ hS ?_
  rotate_left
  · intro w9 hS9; have q1 := hS9.1; have q2 := hS9.2; go_simp; try with_reducible rfl
  try simp only [Act.put, List.setIfInBounds_toArray, List.set_cons_zero, List.set_cons_succ]
  refine wpAnyH_ready (rs := [1]) (by kernel_rfl) (by simp) ?_
  refine AllReadyH.cons (o := { dst := some 107, op := .buildSlice 32 0 #[], type := 32, pos := "law.go:85", after := #[], guard := none }) rfl (fun K9 hK9 => ?_) AllReadyH.nil
  go_simp
  have hV1 := hV0.step ((Below.refl _ _).alloc (Nat.le_refl _) (.cells #[] 44))
  have om : Own (V.drew.alloc (.cells #[] 44)) V.drew.heap.size 44 tLeg (.slice (some ⟨V.drew.heap.size, 0, none⟩) 0 0) [] := made0_own _ _
  have hSa : (loadA (.pointer (some ⟨w.heap.size, 0, none⟩))).run Tryz.prog (V.drew.alloc (.cells #[] 44)) = .ok (.agg (aC a h)) (V.drew.alloc (.cells #[] 44)) ∧ (V.drew.alloc (.cells #[] 44)).cell? ⟨w.heap.size + 1 + 1, 33, none⟩ = some (.slice x.al x.nl x.cl) := ⟨lda_of hV1.b0 rfl, (xC33 hV1.b2)⟩
  refine hK9.out _ _ hSa (fun hS => ?_)
  clear hK9 K9
  try simp only [Act.put, List.setIfInBounds_toArray, List.set_cons_zero, List.set_cons_succ]
  refine wpAnyH_ready (rs := [4]) (by kernel_rfl) (by simp) ?_
  refine AllReadyH.cons (o := { dst := some 110, op := .call { callee := .builtin .append, args := #[.tmp 107, .tmp 109], argTypes := #[32, 32] }, type := 32, pos := "law.go:85", after := #[⟨1, .data⟩, ⟨3, .data⟩], guard := none }) rfl (fun K9 hK9 => ?_) AllReadyH.nil
  refine step_append_told (T := tLeg) (v := .slice (some ⟨V.drew.heap.size, 0, none⟩) 0 0) (l := []) (B := V.drew.heap.size) rfl (.tmp 107) (.tmp 109) (by rfl) sl_leg (by rfl) om (by rfl) ((HXS.out.l.below hV1.B HS.out).sl (lo := 0) (hi := w.heap.size) fun b hb => ⟨Nat.zero_le _, HS.out b hb⟩) HXS.out.l.nil (by simp) (by simp; omega) ?_
  intro v9 v1 hown hgr hvb
  rw [List.nil_append] at hown
  obtain ⟨Ac, cc, hv9⟩ := hown.form
  subst hv9
  have zc := hgr.size
  have h1 : Below V.drew.heap.size V.drew v1 := ((Below.refl _ _).alloc (Nat.le_refl _) (.cells #[] 44)).grown hgr (by simp) (fun k hk => by have e := hk; simp [Value.ownBlock] at e; omega)
  have hV2 := hV0.step h1
  have zd := h1.size
  have hSb : (loadA (.pointer (some ⟨w.heap.size, 0, none⟩))).run Tryz.prog v1 = .ok (.agg (aC a h)) v1 ∧ v1.cell? ⟨w.heap.size + 1 + 1, 33, none⟩ = some (.slice x.al x.nl x.cl) := ⟨lda_of hV2.b0 rfl, (xC33 hV2.b2)⟩
  refine hK9.out _ _ hSb (fun hS => ?_)
  clear hK9 K9
  try simp only [Act.put, List.setIfInBounds_toArray, List.set_cons_zero, List.set_cons_succ]
  refine wpAnyH_ready (rs := [5]) (by kernel_rfl) (by simp) ?_
  refine AllReadyH.cons (o := { dst := some 111, op := .call { callee := .value (.func 25), args := #[.tmp 106, .tmp 110], argTypes := #[53, 32] }, type := 64, pos := "law.go:85", after := #[⟨0, .data⟩, ⟨4, .data⟩, ⟨4, .chain⟩], guard := none }) rfl (fun K9 hK9 => ?_) AllReadyH.nil
  go_simp
  refine (HPG.out Ac _ cc v1 ((HA.out.below hV2.B (fun b hb => hb)).mono fun b hb => by have := hV2.B.size; omega) (hown.sls.mono fun b hb => hb.2) (by have := HXS.out.l.len; omega)).mono ?_
  rintro en w1 ⟨hb, rfl, ob, hb1⟩
  dsimp only at ob ⊢
  have hP1 := hV2.step hb1
  have hSc : (loadA (.pointer (some ⟨w.heap.size, 0, none⟩))).run Tryz.prog w1 = .ok (.agg (aC a h)) w1 ∧ w1.cell? ⟨w.heap.size + 1 + 1, 33, none⟩ = some (.slice x.al x.nl x.cl) := ⟨lda_of hP1.b0 rfl, (xC33 hP1.b2)⟩
  refine hK9.out _ _ hSc (fun hS => ?_)
  clear hK9 K9
  try simp only [Act.put, List.setIfInBounds_toArray, List.set_cons_zero, List.set_cons_succ]
  refine tk (i := 6) (oi := { dst := some 105, op := .move (.tmp 111), type := 64, pos := "law.go:85", after := #[⟨5, .data⟩], guard := none }) (v := ?_) ?_ hS ?_
  rotate_left
  · intro w9 hS9; have q1 := hS9.1; have q2 := hS9.2; go_simp; try with_reducible rfl
  try simp only [Act.put, List.setIfInBounds_toArray, List.set_cons_zero, List.set_cons_succ]
  refine tk (i := 7) (oi := { dst := some 112, op := .extract (.tmp 105) 0, type := 53, pos := "law.go:85", after := #[⟨6, .data⟩], guard := none }) (v := ?_) ?_ hS ?_
  rotate_left
  · intro w9 hS9; have q1 := hS9.1; have q2 := hS9.2; go_simp; try with_reducible rfl
  try simp only [Act.put, List.setIfInBounds_toArray, List.set_cons_zero, List.set_cons_succ]
  refine tk (i := 8) (oi := { dst := some 113, op := .extract (.tmp 105) 1, type := 63, pos := "law.go:85", after := #[⟨6, .data⟩, ⟨9, .gcOnly .lateStores⟩], guard := none }) (v := ?_) ?_ hS ?_
  rotate_left
  · intro w9 hS9; have q1 := hS9.1; have q2 := hS9.2; go_simp; try with_reducible rfl
  try simp only [Act.put, List.setIfInBounds_toArray, List.set_cons_zero, List.set_cons_succ]
  refine wpAnyH_ready (rs := [9]) (by kernel_rfl) (by simp) ?_
  refine AllReadyH.cons (o := { dst := none, op := .store 53 (.tmp 12) (.tmp 112), type := 0, pos := "law.go:85", after := #[⟨7, .data⟩, ⟨5, .chain⟩, ⟨0, .phase⟩, ⟨1, .phase⟩, ⟨2, .phase⟩, ⟨3, .phase⟩, ⟨4, .phase⟩, ⟨5, .phase⟩, ⟨6, .phase⟩, ⟨7, .phase⟩, ⟨8, .textOnly .lateStores⟩], guard := none }) rfl (fun K9 hK9 => ?_) AllReadyH.nil
  have hst := sta_of hP1.b5 (cs := (aC q hb)) rfl rfl (aC_one _ _)
  have hPx := hP1.row5 (aC q hb)
  have hSd := And.intro (lda_of hPx.b0 rfl) ((xC33 hPx.b2))
  go_simp
  refine hK9.out _ _ hSd (fun hS => ?_)
  clear hK9 K9
  try simp only [Act.put, List.setIfInBounds_toArray, List.set_cons_zero, List.set_cons_succ]
  refine tk (i := 10) (oi := { dst := some 10, op := .assign (.tmp 113), type := 63, pos := "law.go:85", after := #[⟨8, .data⟩, ⟨9, .chain⟩, ⟨0, .phase⟩, ⟨1, .phase⟩, ⟨2, .phase⟩, ⟨3, .phase⟩, ⟨4, .phase⟩, ⟨5, .phase⟩, ⟨6, .phase⟩, ⟨7, .phase⟩, ⟨8, .phase⟩, ⟨9, .phase⟩], guard := none }) (v := ?_) ?_ hS ?_
  rotate_left
  · intro w9 hS9; have q1 := hS9.1; have q2 := hS9.2; go_simp; try with_reducible rfl
  try simp only [Act.put, List.setIfInBounds_toArray, List.set_cons_zero, List.set_cons_succ]
  refine wpAnyH_done (by kernel_rfl) ?_ _
  have zx : V.heap.size ≤ v1.heap.size := by simpa using zd
  have hh : Below V.heap.size V v1 := ((Below.refl V.heap.size V).drew).trans (h1.mono (Nat.le_refl _))
  replace hb1 : Below V.heap.size V w1 := hh.trans (hb1.mono zx)
  clear hS hSa hSb hSc hSd hPx hV1 hV2 om hown hgr hvb
  have hP2 := hP1.row5 (aC q hb)
  have la2 := lda_of hP2.b0 rfl
  have lm2 := ldaD_of hP2.b1 rfl
  have z2 := hP2.z
  have x02 := (xC0 hP2.b2)
  have x332 := (xC33 hP2.b2)
  have bw1 := (ob.more (B' := V.heap.size) (by omega)).bw
  have ob1 := (ob.more (B' := V.heap.size) (by omega)).as
  go_wp2_with fail
  refine (HDC.out _ (HM.out.below hP2.B HS.out) (HXS.out.l.below hP2.B HS.out) (fun b hb => by have := HS.out b hb; omega)).mono ?_
  rintro en w3 ⟨hn, rfl, an, hb3⟩
  dsimp only at an ⊢
  have hP3 := hP2.step hb3
  clear la2 lm2 z2 x02 x332
  have hst3 := std_of hP3.b6 (cs := (aC q hn)) rfl rfl (aC_one _ _)
  have hP4 := hP3.row6 (aC q hn)
  have z3 := hP3.z
  have zs : w1.heap.size ≤ w3.heap.size := by have := hb3.size; simpa using this
  have zv := hb1.size
  have zw := hV.B.size
  have bw3 := ((bw1.rowLt (g := w.heap.size + 1 + 1 + 1 + 1 + 1) (by omega) (aC q hb)).step hb3 (by simp)).rowLt (g := w.heap.size + 1 + 1 + 1 + 1 + 1 + 1) (by omega) (aC q hn)
  have ob3 : AS w3 (fun b => V.heap.size ≤ b ∧ b < w1.heap.size) q hb := (ob1.keep fun p hp => cell_setRow_other _ (w.heap.size + 1 + 1 + 1 + 1 + 1) (aC q hb) _ (by omega)).below hb3 (fun b hb => by simpa using hb.2)
  have an3 : AS w3 (fun b => S b ∨ (w1.heap.size ≤ b ∧ b < w3.heap.size)) q hn := an.mono fun b hb => by simpa using hb
  have hT : PT w S V.heap.size w1.heap.size q hb hn (w3.setRow (w.heap.size + 1 + 1 + 1 + 1 + 1 + 1) (aC q hn)) := ⟨bw3, by simpa using zs, ob3.keep fun p hp => cell_setRow_other _ _ _ _ (by omega), (an3.keep fun p hp => cell_setRow_other _ _ _ _ (by rcases hp with hp | hp; (have := HS.out _ hp; omega); omega)).mono fun b hb => by simpa using hb⟩
  have x0e := (xC0 hP3.b2)
  go_upto_region 35 with fail
  refine wp_world (fun W => P7 w (aC a h) (aC a hm) (xC 5 x) aZ aZ (aC q hb) (aC q hn) W ∧ PT w S V.heap.size w1.heap.size q hb hn W) ⟨hP4, hT⟩ ?_
  clear hP1 hP2 hP3 hP4 hT hst3 bw1 bw3 ob1 ob3 an an3 ob hb1 hb3 x0e z3 zs
  generalize w1.heap.size = c1 at zv ⊢
  rintro V9 ⟨hP9, hT9⟩
  have hP0 := hP9.drew
  have hT0 := hT9.drew HS.out (by have := hP9.z; omega)
  have hz9 := hP9.z
  refine wp_region_held_drew (S := fun w' => (loadA (.pointer (some ⟨w.heap.size + 1 + 1 + 1 + 1 + 1, 0, none⟩))).run Tryz.prog w' = .ok (.agg (aC q hb)) w' ∧ (loadD (.pointer (some ⟨w.heap.size + 1 + 1 + 1 + 1 + 1 + 1, 0, none⟩))).run Tryz.prog w' = .ok (.agg (aC q hn)) w') (by kernel_rfl) ⟨lda_of hP0.b5 rfl, ldaD_of hP0.b6 rfl⟩ (fun hS => ?_)
  refine tk (i := 0) (oi := { dst := some 175, op := .load 53 (.tmp 12), type := 53, pos := "law.go:100", after := #[], guard := none }) (v := ?_) ?_ hS ?_
  rotate_left
  · intro w9 hS9; have q1 := hS9.1; have q2 := hS9.2; go_simp; try with_reducible rfl
  try simp only [Act.put, List.setIfInBounds_toArray, List.set_cons_zero, List.set_cons_succ]
  refine tk (i := 1) (oi := { dst := some 176, op := .load 34 (.tmp 13), type := 34, pos := "law.go:100", after := #[⟨12, .gcOnly .lateStores⟩], guard := none }) (v := ?_) ?_ hS ?_
  rotate_left
  · intro w9 hS9; have q1 := hS9.1; have q2 := hS9.2; go_simp; try with_reducible rfl
  try simp only [Act.put, List.setIfInBounds_toArray, List.set_cons_zero, List.set_cons_succ]
  refine tk (i := 2) (oi := { dst := some 177, op := .move (.tmp 11), type := 3, pos := "law.go:100", after := #[⟨13, .gcOnly .lateStores⟩], guard := none }) (v := ?_) ?_ hS ?_
  rotate_left
  · intro w9 hS9; have q1 := hS9.1; have q2 := hS9.2; go_simp; try with_reducible rfl
  try simp only [Act.put, List.setIfInBounds_toArray, List.set_cons_zero, List.set_cons_succ]
  refine tk (i := 3) (oi := { dst := some 178, op := .binOp .eql 3 (.tmp 177) (.const (.int .i64 0)) 3, type := 4, pos := "law.go:100", after := #[⟨2, .data⟩, ⟨13, .gcOnly .lateStores⟩], guard := none }) (v := ?_) ?_ hS ?_
  rotate_left
  · intro w9 hS9; have q1 := hS9.1; have q2 := hS9.2; go_simp; try with_reducible rfl
  try simp only [Act.put, List.setIfInBounds_toArray, List.set_cons_zero, List.set_cons_succ]
  refine tk (i := 4) (oi := { dst := some 179, op := .move (.tmp 10), type := 63, pos := "law.go:100", after := #[], guard := none }) (v := ?_) ?_ hS ?_
  rotate_left
  · intro w9 hS9; have q1 := hS9.1; have q2 := hS9.2; go_simp; try with_reducible rfl
  try simp only [Act.put, List.setIfInBounds_toArray, List.set_cons_zero, List.set_cons_succ]
  refine tk (i := 5) (oi := { dst := some 180, op := .move (.tmp 11), type := 3, pos := "law.go:100", after := #[], guard := none }) (v := ?_) ?_ hS ?_
  rotate_left
  · intro w9 hS9; have q1 := hS9.1; have q2 := hS9.2; go_simp; try with_reducible rfl
  try simp only [Act.put, List.setIfInBounds_toArray, List.set_cons_zero, List.set_cons_succ]
  refine tk (i := 6) (oi := { dst := some 181, op := .binOp .eql 3 (.tmp 179) (.tmp 180) 3, type := 4, pos := "law.go:100", after := #[⟨4, .data⟩, ⟨5, .data⟩], guard := none }) (v := ?_) ?_ hS ?_
  rotate_left
  · intro w9 hS9; have q1 := hS9.1; have q2 := hS9.2; go_simp; try with_reducible rfl
  try simp only [Act.put, List.setIfInBounds_toArray, List.set_cons_zero, List.set_cons_succ]
  refine tk (i := 7) (oi := { dst := some 182, op := .move (.tmp 181), type := 4, pos := "law.go:100", after := #[⟨6, .data⟩], guard := none }) (v := ?_) ?_ hS ?_
  rotate_left
  · intro w9 hS9; have q1 := hS9.1; have q2 := hS9.2; go_simp; try with_reducible rfl
  try simp only [Act.put, List.setIfInBounds_toArray, List.set_cons_zero, List.set_cons_succ]
  refine tk (i := 8) (oi := { dst := some 183, op := .load 53 (.tmp 12), type := 53, pos := "law.go:100", after := #[⟨7, .guard⟩], guard := some (7, true) }) (v := ?_) ?_ hS ?_
  rotate_left
  · intro w9 hS9; have q1 := hS9.1; have q2 := hS9.2; go_simp; try with_reducible rfl
  try simp only [Act.put, List.setIfInBounds_toArray, List.set_cons_zero, List.set_cons_succ]
  refine tk (i := 9) (oi := { dst := some 184, op := .load 34 (.tmp 13), type := 34, pos := "law.go:100", after := #[⟨7, .guard⟩], guard := some (7, true) }) (v := ?_) ?_ hS ?_
  rotate_left
  · intro w9 hS9; have q1 := hS9.1; have q2 := hS9.2; go_simp; try with_reducible rfl
  try simp only [Act.put, List.setIfInBounds_toArray, List.set_cons_zero, List.set_cons_succ]
  refine wpAnyH_ready (rs := [10]) (by kernel_rfl) (by simp) ?_
  refine AllReadyH.cons (o := { dst := some 185, op := .call { callee := .value (.func 9), args := #[.tmp 183, .tmp 184], argTypes := #[53, 34] }, type := 4, pos := "law.go:100", after := #[⟨8, .data⟩, ⟨9, .data⟩, ⟨7, .chain⟩, ⟨7, .guard⟩], guard := some (7, true) }) rfl (fun K9 hK9 => ?_) AllReadyH.nil
  go_simp
  refine (same19_any q hb hn V9.drew _ _ hT0.b hT0.n (fun b hb => by have h5 := hT0.hc; omega) (fun b hb => by rcases hb with hb | hb; (have := HS.out b hb; have := hP0.z; omega); exact hb.2) HSM.out).mono ?_
  rintro e w5 ⟨rfl, hb5⟩
  have hP5 := hP0.step hb5
  have hT5 := hT0.step HS.out (by have := hP0.z; omega) hb5
  have hS5 : (loadA (.pointer (some ⟨w.heap.size + 1 + 1 + 1 + 1 + 1, 0, none⟩))).run Tryz.prog w5 = .ok (.agg (aC q hb)) w5 ∧ (loadD (.pointer (some ⟨w.heap.size + 1 + 1 + 1 + 1 + 1 + 1, 0, none⟩))).run Tryz.prog w5 = .ok (.agg (aC q hn)) w5 := ⟨lda_of hP5.b5 rfl, ldaD_of hP5.b6 rfl⟩
  refine hK9.out _ _ hS5 (fun hS => ?_)
  clear hK9 K9
  try simp only [Act.put, List.setIfInBounds_toArray, List.set_cons_zero, List.set_cons_succ]
  refine tk (i := 11) (oi := { dst := some 186, op := .pick (.tmp 182) (.tmp 185) (.const (.bool false)), type := 4, pos := "law.go:100", after := #[⟨7, .data⟩, ⟨10, .data⟩, ⟨14, .gcOnly .lateStores⟩], guard := none }) (v := ?_) ?_ hS ?_
  rotate_left
  · intro w9 hS9; have q1 := hS9.1; have q2 := hS9.2; go_simp; try with_reducible rfl
  try simp only [Act.put, List.setIfInBounds_toArray, List.set_cons_zero, List.set_cons_succ]
  refine wpAnyH_ready (rs := [12]) (by kernel_rfl) (by simp) ?_
  refine AllReadyH.cons (o := { dst := none, op := .store 53 (.tmp 6) (.tmp 175), type := 0, pos := "law.go:100", after := #[⟨0, .data⟩, ⟨10, .chain⟩, ⟨0, .phase⟩, ⟨1, .textOnly .lateStores⟩, ⟨2, .textOnly .lateStores⟩, ⟨3, .textOnly .lateStores⟩, ⟨4, .textOnly .lateStores⟩, ⟨5, .textOnly .lateStores⟩, ⟨6, .textOnly .lateStores⟩, ⟨7, .textOnly .lateStores⟩, ⟨8, .textOnly .lateStores⟩, ⟨9, .textOnly .lateStores⟩, ⟨10, .textOnly .lateStoresUnsure⟩, ⟨11, .textOnly .lateStores⟩], guard := none }) rfl (fun K9 hK9 => ?_) AllReadyH.nil
  have hst6 := sta_of hP5.b3 (cs := (aC q hb)) rfl rfl (aC_one _ _)
  have hP6 := hP5.row3 (aC q hb)
  have hT6 := hT5.row HS.out (g := w.heap.size + 1 + 1 + 1) (by omega) (by omega) (by omega) (aC q hb)
  have hS6 := And.intro (lda_of hP6.b5 rfl) (ldaD_of hP6.b6 rfl)
  go_simp
  refine hK9.out _ _ hS6 (fun hS => ?_)
  clear hK9 K9
  try simp only [Act.put, List.setIfInBounds_toArray, List.set_cons_zero, List.set_cons_succ]
  refine wpAnyH_ready (rs := [13]) (by kernel_rfl) (by simp) ?_
  refine AllReadyH.cons (o := { dst := none, op := .store 34 (.tmp 7) (.tmp 176), type := 0, pos := "law.go:100", after := #[⟨1, .data⟩, ⟨12, .chain⟩, ⟨0, .phase⟩, ⟨1, .phase⟩, ⟨2, .textOnly .lateStores⟩, ⟨3, .textOnly .lateStores⟩, ⟨4, .textOnly .lateStores⟩, ⟨5, .textOnly .lateStores⟩, ⟨6, .textOnly .lateStores⟩, ⟨7, .textOnly .lateStores⟩, ⟨8, .textOnly .lateStores⟩, ⟨9, .textOnly .lateStores⟩, ⟨10, .textOnly .lateStoresUnsure⟩, ⟨11, .textOnly .lateStores⟩, ⟨12, .phase⟩], guard := none }) rfl (fun K9 hK9 => ?_) AllReadyH.nil
  have hst7 := std_of hP6.b4 (cs := (aC q hn)) rfl rfl (aC_one _ _)
  have hP7 := hP6.row4 (aC q hn)
  have hT7 := hT6.row HS.out (g := w.heap.size + 1 + 1 + 1 + 1) (by omega) (by omega) (by omega) (aC q hn)
  have hS7 := And.intro (lda_of hP7.b5 rfl) (ldaD_of hP7.b6 rfl)
  go_simp
  refine hK9.out _ _ hS7 (fun hS => ?_)
  clear hK9 K9
  try simp only [Act.put, List.setIfInBounds_toArray, List.set_cons_zero, List.set_cons_succ]
  refine tk (i := 14) (oi := { dst := some 8, op := .assign (.tmp 178), type := 4, pos := "law.go:100", after := #[⟨3, .data⟩, ⟨13, .chain⟩, ⟨0, .phase⟩, ⟨1, .phase⟩, ⟨2, .phase⟩, ⟨3, .phase⟩, ⟨4, .textOnly .lateStores⟩, ⟨5, .textOnly .lateStores⟩, ⟨6, .textOnly .lateStores⟩, ⟨7, .textOnly .lateStores⟩, ⟨8, .textOnly .lateStores⟩, ⟨9, .textOnly .lateStores⟩, ⟨10, .textOnly .lateStoresUnsure⟩, ⟨11, .textOnly .lateStores⟩, ⟨12, .phase⟩, ⟨13, .phase⟩], guard := none }) (v := ?_) ?_ hS ?_
  rotate_left
  · intro w9 hS9; have q1 := hS9.1; have q2 := hS9.2; go_simp; try with_reducible rfl
  try simp only [Act.put, List.setIfInBounds_toArray, List.set_cons_zero, List.set_cons_succ]
  refine tk (i := 15) (oi := { dst := some 9, op := .assign (.tmp 186), type := 4, pos := "law.go:100", after := #[⟨11, .data⟩, ⟨14, .chain⟩, ⟨0, .phase⟩, ⟨1, .phase⟩, ⟨2, .phase⟩, ⟨3, .phase⟩, ⟨4, .phase⟩, ⟨5, .phase⟩, ⟨6, .phase⟩, ⟨7, .phase⟩, ⟨8, .phase⟩, ⟨9, .phase⟩, ⟨10, .phase⟩, ⟨11, .phase⟩, ⟨12, .phase⟩, ⟨13, .phase⟩, ⟨14, .phase⟩], guard := none }) (v := ?_) ?_ hS ?_
  rotate_left
  · intro w9 hS9; have q1 := hS9.1; have q2 := hS9.2; go_simp; try with_reducible rfl
  try simp only [Act.put, List.setIfInBounds_toArray, List.set_cons_zero, List.set_cons_succ]
  refine wpAnyH_done (by kernel_rfl) ?_ _
  go_wp2
  refine ret_pl Tryz.results8 hP7.b3 rfl hP7.b4 rfl rfl rfl rfl rfl rfl ?_
  obtain ⟨g1, g2, g3⟩ := hT7.heads HSM.out
  exact ⟨q, hb, hn, c1, _, by omega, rfl, HSM.out, hT7.bw.more (by omega), g1, g2, g3, hT7.hc, hT7.n.mono fun b hb => by rcases hb with hb | hb; exact .inl hb; exact .inr ⟨by omega, hb⟩, hP7.B⟩
set_option maxRecDepth 100000 in
set_option maxHeartbeats 8000000 in
theorem play_7 (a : Ar) (h hm : AH) (x : ActM) (w : World) (S : Nat → Prop) (ha : AS w (fun b => b < w.heap.size) a h) (hm0 : AS w S a hm) (hS : ∀ b, S b → b < w.heap.size) (hs : a.small 1000) (ho : x.ok) :
    Calls Tryz.prog 8 #[.agg #[.string a.agent, .string a.off, .bool a.open_, .string a.base.loc, .string a.base.off, .slice h.b.an h.b.nn h.b.cn, .slice h.b.ag h.b.ng h.b.cg, .slice h.b.ap h.b.np h.b.cp, .int .i64 a.base.tik.kind, .int .i64 a.base.tik.day, .int .i64 a.base.tik.min, .string a.base.rc, .slice h.b.ar h.b.nr h.b.cr, .slice h.b.ae h.b.ne h.b.ce, .bool a.base.queued, .int .u64 a.ver, .slice h.ad h.nd h.cd, .slice h.al h.nl h.cl, .bool a.working, .int .i64 a.queue], .agg #[.string a.agent, .string a.off, .bool a.open_, .string a.base.loc, .string a.base.off, .slice hm.b.an hm.b.nn hm.b.cn, .slice hm.b.ag hm.b.ng hm.b.cg, .slice hm.b.ap hm.b.np hm.b.cp, .int .i64 a.base.tik.kind, .int .i64 a.base.tik.day, .int .i64 a.base.tik.min, .string a.base.rc, .slice hm.b.ar hm.b.nr hm.b.cr, .slice hm.b.ae hm.b.ne hm.b.ce, .bool a.base.queued, .int .u64 a.ver, .slice hm.ad hm.nd hm.cd, .slice hm.al hm.nl hm.cl, .bool a.working, .int .i64 a.queue], .agg #[.int .i64 7, .int .i64 x.n, .string x.text, .string x.off, .int .i64 x.ed.kind, .string x.ed.nam.last, .string x.ed.nam.first, .string x.ed.seg.car, .int .i64 x.ed.seg.num, .int .i64 x.ed.seg.day, .int .u8 x.ed.seg.cls, .bool x.ed.seg.live, .int .i64 x.ed.tik.kind, .int .i64 x.ed.tik.day, .int .i64 x.ed.tik.min, .string x.ed.text, .int .i64 x.ed.n, .int .i64 x.ed.pax, .int .i64 x.ed.row, .int .u8 x.ed.let_, .string x.p.loc, .string x.p.off, .slice x.h.an x.h.nn x.h.cn, .slice x.h.ag x.h.ng x.h.cg, .slice x.h.ap x.h.np x.h.cp, .int .i64 x.p.tik.kind, .int .i64 x.p.tik.day, .int .i64 x.p.tik.min, .string x.p.rc, .slice x.h.ar x.h.nr x.h.cr, .slice x.h.ae x.h.ne x.h.ce, .bool x.p.queued, .int .u64 x.ver, .slice x.al x.nl x.cl]] w (PlayQ w w.heap.size (fun c => w.heap.size ≤ c) S) := by
  have HPG := Lib.hid (fun (W : World) (h1 : AS W (fun b => b < W.heap.size) a h) => (let hz : ∀ b, b < W.heap.size → b < W.heap.size := fun b hb => hb; (work_any a h x.n W _ h1 hz hs : Calls Tryz.prog 29 #[.agg #[.string a.agent, .string a.off, .bool a.open_, .string a.base.loc, .string a.base.off, .slice h.b.an h.b.nn h.b.cn, .slice h.b.ag h.b.ng h.b.cg, .slice h.b.ap h.b.np h.b.cp, .int .i64 a.base.tik.kind, .int .i64 a.base.tik.day, .int .i64 a.base.tik.min, .string a.base.rc, .slice h.b.ar h.b.nr h.b.cr, .slice h.b.ae h.b.ne h.b.ce, .bool a.base.queued, .int .u64 a.ver, .slice h.ad h.nd h.cd, .slice h.al h.nl h.cl, .bool a.working, .int .i64 a.queue], .int .i64 x.n] W (RetA W (workF a x.n)))))
  have HDC := Lib.hid (fun (W : World) (h1 : AS W S a hm) (hz : ∀ b, S b → b < W.heap.size) => (rwork_any a hm x.n W S h1 hz : Calls Tryz.prog 30 #[.agg #[.string a.agent, .string a.off, .bool a.open_, .string a.base.loc, .string a.base.off, .slice hm.b.an hm.b.nn hm.b.cn, .slice hm.b.ag hm.b.ng hm.b.cg, .slice hm.b.ap hm.b.np hm.b.cp, .int .i64 a.base.tik.kind, .int .i64 a.base.tik.day, .int .i64 a.base.tik.min, .string a.base.rc, .slice hm.b.ar hm.b.nr hm.b.cr, .slice hm.b.ae hm.b.ne hm.b.ce, .bool a.base.queued, .int .u64 a.ver, .slice hm.ad hm.nd hm.cd, .slice hm.al hm.nl hm.cl, .bool a.working, .int .i64 a.queue], .int .i64 x.n] W (RetD W S (workF a x.n))))
  have hsm : (workF a x.n).1.small 2000 := work_sm hs x.n
  have HA := Lib.hid ha
  have HM := Lib.hid hm0
  have HS := Lib.hid hS
  clear ha hm0 hS hs ho
  generalize workF a x.n = r at HPG HDC hsm
  obtain ⟨q, f⟩ := r
  dsimp only at hsm
  have HSM := Lib.hid hsm
  clear hsm
  have hP := P7.start w (aC a h) (aC a hm) (xC 7 x) aZ aZ aZ aZ
  go_enter Tryz.func8, Tryz.ntmps8
  go_upto_region 5 with fail
  refine wp_world (fun W => P7 w (aC a h) (aC a hm) (xC 7 x) aZ aZ aZ aZ W) hP ?_
  clear hP
  intro V hV
  have la1 := lda_of hV.b0 rfl
  have lm1 := ldaD_of hV.b1 rfl
  have z1 := hV.z
  have x01 := (xC0 hV.b2)
  have x11 := (xC1 hV.b2)
  go_wp2_with fail
  refine (HPG.out _ ((HA.out.below hV.B (fun b hb => hb)).mono fun b hb => by omega)).mono ?_
  rintro en w1 ⟨hb, rfl, ob, hb1⟩
  dsimp only at ob ⊢
  have hP1 := hV.step hb1
  clear la1 lm1 x01 x11
  have hst := sta_of hP1.b5 (cs := (aC q hb)) rfl rfl (aC_one _ _)
  have x01 := (xC0 hP1.b2)
  have hP2 := hP1.row5 (aC q hb)
  have la2 := lda_of hP2.b0 rfl
  have lm2 := ldaD_of hP2.b1 rfl
  have z2 := hP2.z
  have x02 := (xC0 hP2.b2)
  have x12 := (xC1 hP2.b2)
  have bw1 := (ob.more (B' := V.heap.size) (by omega)).bw
  have ob1 := (ob.more (B' := V.heap.size) (by omega)).as
  go_wp2_with fail
  refine (HDC.out _ (HM.out.below hP2.B HS.out) (fun b hb => by have := HS.out b hb; omega)).mono ?_
  rintro en w3 ⟨hn, rfl, an, hb3⟩
  dsimp only at an ⊢
  have hP3 := hP2.step hb3
  clear la2 lm2 z2 x02 x12
  have hst3 := std_of hP3.b6 (cs := (aC q hn)) rfl rfl (aC_one _ _)
  have hP4 := hP3.row6 (aC q hn)
  have z3 := hP3.z
  have zs : w1.heap.size ≤ w3.heap.size := by have := hb3.size; simpa using this
  have zv := hb1.size
  have zw := hV.B.size
  have bw3 := ((bw1.rowLt (g := w.heap.size + 1 + 1 + 1 + 1 + 1) (by omega) (aC q hb)).step hb3 (by simp)).rowLt (g := w.heap.size + 1 + 1 + 1 + 1 + 1 + 1) (by omega) (aC q hn)
  have ob3 : AS w3 (fun b => V.heap.size ≤ b ∧ b < w1.heap.size) q hb := (ob1.keep fun p hp => cell_setRow_other _ (w.heap.size + 1 + 1 + 1 + 1 + 1) (aC q hb) _ (by omega)).below hb3 (fun b hb => by simpa using hb.2)
  have an3 : AS w3 (fun b => S b ∨ (w1.heap.size ≤ b ∧ b < w3.heap.size)) q hn := an.mono fun b hb => by simpa using hb
  have hT : PT w S V.heap.size w1.heap.size q hb hn (w3.setRow (w.heap.size + 1 + 1 + 1 + 1 + 1 + 1) (aC q hn)) := ⟨bw3, by simpa using zs, ob3.keep fun p hp => cell_setRow_other _ _ _ _ (by omega), (an3.keep fun p hp => cell_setRow_other _ _ _ _ (by rcases hp with hp | hp; (have := HS.out _ hp; omega); omega)).mono fun b hb => by simpa using hb⟩
  have x0e := (xC0 hP3.b2)
  go_upto_region 35 with fail
  refine wp_world (fun W => P7 w (aC a h) (aC a hm) (xC 7 x) aZ aZ (aC q hb) (aC q hn) W ∧ PT w S V.heap.size w1.heap.size q hb hn W) ⟨hP4, hT⟩ ?_
  clear hP1 hP2 hP3 hP4 hT hst3 bw1 bw3 ob1 ob3 an an3 ob hb1 hb3 x0e z3 zs
  generalize w1.heap.size = c1 at zv ⊢
  rintro V9 ⟨hP9, hT9⟩
  have hP0 := hP9.drew
  have hT0 := hT9.drew HS.out (by have := hP9.z; omega)
  have hz9 := hP9.z
  refine wp_region_held_drew (S := fun w' => (loadA (.pointer (some ⟨w.heap.size + 1 + 1 + 1 + 1 + 1, 0, none⟩))).run Tryz.prog w' = .ok (.agg (aC q hb)) w' ∧ (loadD (.pointer (some ⟨w.heap.size + 1 + 1 + 1 + 1 + 1 + 1, 0, none⟩))).run Tryz.prog w' = .ok (.agg (aC q hn)) w') (by kernel_rfl) ⟨lda_of hP0.b5 rfl, ldaD_of hP0.b6 rfl⟩ (fun hS => ?_)
  refine tk (i := 0) (oi := { dst := some 175, op := .load 53 (.tmp 12), type := 53, pos := "law.go:100", after := #[], guard := none }) (v := ?_) ?_ hS ?_
  rotate_left
  · intro w9 hS9; have q1 := hS9.1; have q2 := hS9.2; go_simp; try with_reducible rfl
  try simp only [Act.put, List.setIfInBounds_toArray, List.set_cons_zero, List.set_cons_succ]
  refine tk (i := 1) (oi := { dst := some 176, op := .load 34 (.tmp 13), type := 34, pos := "law.go:100", after := #[⟨12, .gcOnly .lateStores⟩], guard := none }) (v := ?_) ?_ hS ?_
  rotate_left
  · intro w9 hS9; have q1 := hS9.1; have q2 := hS9.2; go_simp; try with_reducible rfl
  try simp only [Act.put, List.setIfInBounds_toArray, List.set_cons_zero, List.set_cons_succ]
  refine tk (i := 2) (oi := { dst := some 177, op := .move (.tmp 11), type := 3, pos := "law.go:100", after := #[⟨13, .gcOnly .lateStores⟩], guard := none }) (v := ?_) ?_ hS ?_
  rotate_left
  · intro w9 hS9; have q1 := hS9.1; have q2 := hS9.2; go_simp; try with_reducible rfl
  try simp only [Act.put, List.setIfInBounds_toArray, List.set_cons_zero, List.set_cons_succ]
  refine tk (i := 3) (oi := { dst := some 178, op := .binOp .eql 3 (.tmp 177) (.const (.int .i64 0)) 3, type := 4, pos := "law.go:100", after := #[⟨2, .data⟩, ⟨13, .gcOnly .lateStores⟩], guard := none }) (v := ?_) ?_ hS ?_
  rotate_left
  · intro w9 hS9; have q1 := hS9.1; have q2 := hS9.2; go_simp; try with_reducible rfl
  try simp only [Act.put, List.setIfInBounds_toArray, List.set_cons_zero, List.set_cons_succ]
  refine tk (i := 4) (oi := { dst := some 179, op := .move (.tmp 10), type := 63, pos := "law.go:100", after := #[], guard := none }) (v := ?_) ?_ hS ?_
  rotate_left
  · intro w9 hS9; have q1 := hS9.1; have q2 := hS9.2; go_simp; try with_reducible rfl
  try simp only [Act.put, List.setIfInBounds_toArray, List.set_cons_zero, List.set_cons_succ]
  refine tk (i := 5) (oi := { dst := some 180, op := .move (.tmp 11), type := 3, pos := "law.go:100", after := #[], guard := none }) (v := ?_) ?_ hS ?_
  rotate_left
  · intro w9 hS9; have q1 := hS9.1; have q2 := hS9.2; go_simp; try with_reducible rfl
  try simp only [Act.put, List.setIfInBounds_toArray, List.set_cons_zero, List.set_cons_succ]
  refine tk (i := 6) (oi := { dst := some 181, op := .binOp .eql 3 (.tmp 179) (.tmp 180) 3, type := 4, pos := "law.go:100", after := #[⟨4, .data⟩, ⟨5, .data⟩], guard := none }) (v := ?_) ?_ hS ?_
  rotate_left
  · intro w9 hS9; have q1 := hS9.1; have q2 := hS9.2; go_simp; try with_reducible rfl
  try simp only [Act.put, List.setIfInBounds_toArray, List.set_cons_zero, List.set_cons_succ]
  refine tk (i := 7) (oi := { dst := some 182, op := .move (.tmp 181), type := 4, pos := "law.go:100", after := #[⟨6, .data⟩], guard := none }) (v := ?_) ?_ hS ?_
  rotate_left
  · intro w9 hS9; have q1 := hS9.1; have q2 := hS9.2; go_simp; try with_reducible rfl
  try simp only [Act.put, List.setIfInBounds_toArray, List.set_cons_zero, List.set_cons_succ]
  refine tk (i := 8) (oi := { dst := some 183, op := .load 53 (.tmp 12), type := 53, pos := "law.go:100", after := #[⟨7, .guard⟩], guard := some (7, true) }) (v := ?_) ?_ hS ?_
  rotate_left
  · intro w9 hS9; have q1 := hS9.1; have q2 := hS9.2; go_simp; try with_reducible rfl
  try simp only [Act.put, List.setIfInBounds_toArray, List.set_cons_zero, List.set_cons_succ]
  refine tk (i := 9) (oi := { dst := some 184, op := .load 34 (.tmp 13), type := 34, pos := "law.go:100", after := #[⟨7, .guard⟩], guard := some (7, true) }) (v := ?_) ?_ hS ?_
  rotate_left
  · intro w9 hS9; have q1 := hS9.1; have q2 := hS9.2; go_simp; try with_reducible rfl
  try simp only [Act.put, List.setIfInBounds_toArray, List.set_cons_zero, List.set_cons_succ]
  refine wpAnyH_ready (rs := [10]) (by kernel_rfl) (by simp) ?_
  refine AllReadyH.cons (o := { dst := some 185, op := .call { callee := .value (.func 9), args := #[.tmp 183, .tmp 184], argTypes := #[53, 34] }, type := 4, pos := "law.go:100", after := #[⟨8, .data⟩, ⟨9, .data⟩, ⟨7, .chain⟩, ⟨7, .guard⟩], guard := some (7, true) }) rfl (fun K9 hK9 => ?_) AllReadyH.nil
  go_simp
  refine (same19_any q hb hn V9.drew _ _ hT0.b hT0.n (fun b hb => by have h5 := hT0.hc; omega) (fun b hb => by rcases hb with hb | hb; (have := HS.out b hb; have := hP0.z; omega); exact hb.2) HSM.out).mono ?_
  rintro e w5 ⟨rfl, hb5⟩
  have hP5 := hP0.step hb5
  have hT5 := hT0.step HS.out (by have := hP0.z; omega) hb5
  have hS5 : (loadA (.pointer (some ⟨w.heap.size + 1 + 1 + 1 + 1 + 1, 0, none⟩))).run Tryz.prog w5 = .ok (.agg (aC q hb)) w5 ∧ (loadD (.pointer (some ⟨w.heap.size + 1 + 1 + 1 + 1 + 1 + 1, 0, none⟩))).run Tryz.prog w5 = .ok (.agg (aC q hn)) w5 := ⟨lda_of hP5.b5 rfl, ldaD_of hP5.b6 rfl⟩
  refine hK9.out _ _ hS5 (fun hS => ?_)
  clear hK9 K9
  try simp only [Act.put, List.setIfInBounds_toArray, List.set_cons_zero, List.set_cons_succ]
  refine tk (i := 11) (oi := { dst := some 186, op := .pick (.tmp 182) (.tmp 185) (.const (.bool false)), type := 4, pos := "law.go:100", after := #[⟨7, .data⟩, ⟨10, .data⟩, ⟨14, .gcOnly .lateStores⟩], guard := none }) (v := ?_) ?_ hS ?_
  rotate_left
  · intro w9 hS9; have q1 := hS9.1; have q2 := hS9.2; go_simp; try with_reducible rfl
  try simp only [Act.put, List.setIfInBounds_toArray, List.set_cons_zero, List.set_cons_succ]
  refine wpAnyH_ready (rs := [12]) (by kernel_rfl) (by simp) ?_
  refine AllReadyH.cons (o := { dst := none, op := .store 53 (.tmp 6) (.tmp 175), type := 0, pos := "law.go:100", after := #[⟨0, .data⟩, ⟨10, .chain⟩, ⟨0, .phase⟩, ⟨1, .textOnly .lateStores⟩, ⟨2, .textOnly .lateStores⟩, ⟨3, .textOnly .lateStores⟩, ⟨4, .textOnly .lateStores⟩, ⟨5, .textOnly .lateStores⟩, ⟨6, .textOnly .lateStores⟩, ⟨7, .textOnly .lateStores⟩, ⟨8, .textOnly .lateStores⟩, ⟨9, .textOnly .lateStores⟩, ⟨10, .textOnly .lateStoresUnsure⟩, ⟨11, .textOnly .lateStores⟩], guard := none }) rfl (fun K9 hK9 => ?_) AllReadyH.nil
  have hst6 := sta_of hP5.b3 (cs := (aC q hb)) rfl rfl (aC_one _ _)
  have hP6 := hP5.row3 (aC q hb)
  have hT6 := hT5.row HS.out (g := w.heap.size + 1 + 1 + 1) (by omega) (by omega) (by omega) (aC q hb)
  have hS6 := And.intro (lda_of hP6.b5 rfl) (ldaD_of hP6.b6 rfl)
  go_simp
  refine hK9.out _ _ hS6 (fun hS => ?_)
  clear hK9 K9
  try simp only [Act.put, List.setIfInBounds_toArray, List.set_cons_zero, List.set_cons_succ]
  refine wpAnyH_ready (rs := [13]) (by kernel_rfl) (by simp) ?_
  refine AllReadyH.cons (o := { dst := none, op := .store 34 (.tmp 7) (.tmp 176), type := 0, pos := "law.go:100", after := #[⟨1, .data⟩, ⟨12, .chain⟩, ⟨0, .phase⟩, ⟨1, .phase⟩, ⟨2, .textOnly .lateStores⟩, ⟨3, .textOnly .lateStores⟩, ⟨4, .textOnly .lateStores⟩, ⟨5, .textOnly .lateStores⟩, ⟨6, .textOnly .lateStores⟩, ⟨7, .textOnly .lateStores⟩, ⟨8, .textOnly .lateStores⟩, ⟨9, .textOnly .lateStores⟩, ⟨10, .textOnly .lateStoresUnsure⟩, ⟨11, .textOnly .lateStores⟩, ⟨12, .phase⟩], guard := none }) rfl (fun K9 hK9 => ?_) AllReadyH.nil
  have hst7 := std_of hP6.b4 (cs := (aC q hn)) rfl rfl (aC_one _ _)
  have hP7 := hP6.row4 (aC q hn)
  have hT7 := hT6.row HS.out (g := w.heap.size + 1 + 1 + 1 + 1) (by omega) (by omega) (by omega) (aC q hn)
  have hS7 := And.intro (lda_of hP7.b5 rfl) (ldaD_of hP7.b6 rfl)
  go_simp
  refine hK9.out _ _ hS7 (fun hS => ?_)
  clear hK9 K9
  try simp only [Act.put, List.setIfInBounds_toArray, List.set_cons_zero, List.set_cons_succ]
  refine tk (i := 14) (oi := { dst := some 8, op := .assign (.tmp 178), type := 4, pos := "law.go:100", after := #[⟨3, .data⟩, ⟨13, .chain⟩, ⟨0, .phase⟩, ⟨1, .phase⟩, ⟨2, .phase⟩, ⟨3, .phase⟩, ⟨4, .textOnly .lateStores⟩, ⟨5, .textOnly .lateStores⟩, ⟨6, .textOnly .lateStores⟩, ⟨7, .textOnly .lateStores⟩, ⟨8, .textOnly .lateStores⟩, ⟨9, .textOnly .lateStores⟩, ⟨10, .textOnly .lateStoresUnsure⟩, ⟨11, .textOnly .lateStores⟩, ⟨12, .phase⟩, ⟨13, .phase⟩], guard := none }) (v := ?_) ?_ hS ?_
  rotate_left
  · intro w9 hS9; have q1 := hS9.1; have q2 := hS9.2; go_simp; try with_reducible rfl
  try simp only [Act.put, List.setIfInBounds_toArray, List.set_cons_zero, List.set_cons_succ]
  refine tk (i := 15) (oi := { dst := some 9, op := .assign (.tmp 186), type := 4, pos := "law.go:100", after := #[⟨11, .data⟩, ⟨14, .chain⟩, ⟨0, .phase⟩, ⟨1, .phase⟩, ⟨2, .phase⟩, ⟨3, .phase⟩, ⟨4, .phase⟩, ⟨5, .phase⟩, ⟨6, .phase⟩, ⟨7, .phase⟩, ⟨8, .phase⟩, ⟨9, .phase⟩, ⟨10, .phase⟩, ⟨11, .phase⟩, ⟨12, .phase⟩, ⟨13, .phase⟩, ⟨14, .phase⟩], guard := none }) (v := ?_) ?_ hS ?_
  rotate_left
  · intro w9 hS9; have q1 := hS9.1; have q2 := hS9.2; go_simp; try with_reducible rfl
  try simp only [Act.put, List.setIfInBounds_toArray, List.set_cons_zero, List.set_cons_succ]
  refine wpAnyH_done (by kernel_rfl) ?_ _
  go_wp2
  refine ret_pl Tryz.results8 hP7.b3 rfl hP7.b4 rfl rfl rfl rfl rfl rfl ?_
  obtain ⟨g1, g2, g3⟩ := hT7.heads HSM.out
  exact ⟨q, hb, hn, c1, _, by omega, rfl, HSM.out, hT7.bw.more (by omega), g1, g2, g3, hT7.hc, hT7.n.mono fun b hb => by rcases hb with hb | hb; exact .inl hb; exact .inr ⟨by omega, hb⟩, hP7.B⟩
set_option maxRecDepth 100000 in
set_option maxHeartbeats 8000000 in
theorem play_8 (a : Ar) (h hm : AH) (x : ActM) (w : World) (S : Nat → Prop) (ha : AS w (fun b => b < w.heap.size) a h) (hm0 : AS w S a hm) (hS : ∀ b, S b → b < w.heap.size) (hs : a.small 1000) (ho : x.ok) :
    Calls Tryz.prog 8 #[.agg #[.string a.agent, .string a.off, .bool a.open_, .string a.base.loc, .string a.base.off, .slice h.b.an h.b.nn h.b.cn, .slice h.b.ag h.b.ng h.b.cg, .slice h.b.ap h.b.np h.b.cp, .int .i64 a.base.tik.kind, .int .i64 a.base.tik.day, .int .i64 a.base.tik.min, .string a.base.rc, .slice h.b.ar h.b.nr h.b.cr, .slice h.b.ae h.b.ne h.b.ce, .bool a.base.queued, .int .u64 a.ver, .slice h.ad h.nd h.cd, .slice h.al h.nl h.cl, .bool a.working, .int .i64 a.queue], .agg #[.string a.agent, .string a.off, .bool a.open_, .string a.base.loc, .string a.base.off, .slice hm.b.an hm.b.nn hm.b.cn, .slice hm.b.ag hm.b.ng hm.b.cg, .slice hm.b.ap hm.b.np hm.b.cp, .int .i64 a.base.tik.kind, .int .i64 a.base.tik.day, .int .i64 a.base.tik.min, .string a.base.rc, .slice hm.b.ar hm.b.nr hm.b.cr, .slice hm.b.ae hm.b.ne hm.b.ce, .bool a.base.queued, .int .u64 a.ver, .slice hm.ad hm.nd hm.cd, .slice hm.al hm.nl hm.cl, .bool a.working, .int .i64 a.queue], .agg #[.int .i64 8, .int .i64 x.n, .string x.text, .string x.off, .int .i64 x.ed.kind, .string x.ed.nam.last, .string x.ed.nam.first, .string x.ed.seg.car, .int .i64 x.ed.seg.num, .int .i64 x.ed.seg.day, .int .u8 x.ed.seg.cls, .bool x.ed.seg.live, .int .i64 x.ed.tik.kind, .int .i64 x.ed.tik.day, .int .i64 x.ed.tik.min, .string x.ed.text, .int .i64 x.ed.n, .int .i64 x.ed.pax, .int .i64 x.ed.row, .int .u8 x.ed.let_, .string x.p.loc, .string x.p.off, .slice x.h.an x.h.nn x.h.cn, .slice x.h.ag x.h.ng x.h.cg, .slice x.h.ap x.h.np x.h.cp, .int .i64 x.p.tik.kind, .int .i64 x.p.tik.day, .int .i64 x.p.tik.min, .string x.p.rc, .slice x.h.ar x.h.nr x.h.cr, .slice x.h.ae x.h.ne x.h.ce, .bool x.p.queued, .int .u64 x.ver, .slice x.al x.nl x.cl]] w (PlayQ w w.heap.size (fun c => w.heap.size ≤ c) S) := by
  have HPG := Lib.hid (fun (W : World) (h1 : AS W (fun b => b < W.heap.size) a h) => (let hz : ∀ b, b < W.heap.size → b < W.heap.size := fun b hb => hb; (leave_any a h W _ h1 hz hs : Calls Tryz.prog 31 #[.agg #[.string a.agent, .string a.off, .bool a.open_, .string a.base.loc, .string a.base.off, .slice h.b.an h.b.nn h.b.cn, .slice h.b.ag h.b.ng h.b.cg, .slice h.b.ap h.b.np h.b.cp, .int .i64 a.base.tik.kind, .int .i64 a.base.tik.day, .int .i64 a.base.tik.min, .string a.base.rc, .slice h.b.ar h.b.nr h.b.cr, .slice h.b.ae h.b.ne h.b.ce, .bool a.base.queued, .int .u64 a.ver, .slice h.ad h.nd h.cd, .slice h.al h.nl h.cl, .bool a.working, .int .i64 a.queue]] W (RetA W (leaveF a)))))
  have HDC := Lib.hid (fun (W : World) (h1 : AS W S a hm) (hz : ∀ b, S b → b < W.heap.size) => (rleave_any a hm W S h1 hz : Calls Tryz.prog 32 #[.agg #[.string a.agent, .string a.off, .bool a.open_, .string a.base.loc, .string a.base.off, .slice hm.b.an hm.b.nn hm.b.cn, .slice hm.b.ag hm.b.ng hm.b.cg, .slice hm.b.ap hm.b.np hm.b.cp, .int .i64 a.base.tik.kind, .int .i64 a.base.tik.day, .int .i64 a.base.tik.min, .string a.base.rc, .slice hm.b.ar hm.b.nr hm.b.cr, .slice hm.b.ae hm.b.ne hm.b.ce, .bool a.base.queued, .int .u64 a.ver, .slice hm.ad hm.nd hm.cd, .slice hm.al hm.nl hm.cl, .bool a.working, .int .i64 a.queue]] W (RetD W S (leaveF a))))
  have hsm : (leaveF a).1.small 2000 := leave_sm hs
  have HA := Lib.hid ha
  have HM := Lib.hid hm0
  have HS := Lib.hid hS
  clear ha hm0 hS hs ho
  generalize leaveF a = r at HPG HDC hsm
  obtain ⟨q, f⟩ := r
  dsimp only at hsm
  have HSM := Lib.hid hsm
  clear hsm
  have hP := P7.start w (aC a h) (aC a hm) (xC 8 x) aZ aZ aZ aZ
  go_enter Tryz.func8, Tryz.ntmps8
  go_upto_region 5 with fail
  refine wp_world (fun W => P7 w (aC a h) (aC a hm) (xC 8 x) aZ aZ aZ aZ W) hP ?_
  clear hP
  intro V hV
  have la1 := lda_of hV.b0 rfl
  have lm1 := ldaD_of hV.b1 rfl
  have z1 := hV.z
  have x01 := (xC0 hV.b2)
  go_wp2_with fail
  refine (HPG.out _ ((HA.out.below hV.B (fun b hb => hb)).mono fun b hb => by omega)).mono ?_
  rintro en w1 ⟨hb, rfl, ob, hb1⟩
  dsimp only at ob ⊢
  have hP1 := hV.step hb1
  clear la1 lm1 x01
  have hst := sta_of hP1.b5 (cs := (aC q hb)) rfl rfl (aC_one _ _)
  have x01 := (xC0 hP1.b2)
  have hP2 := hP1.row5 (aC q hb)
  have la2 := lda_of hP2.b0 rfl
  have lm2 := ldaD_of hP2.b1 rfl
  have z2 := hP2.z
  have x02 := (xC0 hP2.b2)
  have bw1 := (ob.more (B' := V.heap.size) (by omega)).bw
  have ob1 := (ob.more (B' := V.heap.size) (by omega)).as
  go_wp2_with fail
  refine (HDC.out _ (HM.out.below hP2.B HS.out) (fun b hb => by have := HS.out b hb; omega)).mono ?_
  rintro en w3 ⟨hn, rfl, an, hb3⟩
  dsimp only at an ⊢
  have hP3 := hP2.step hb3
  clear la2 lm2 z2 x02
  have hst3 := std_of hP3.b6 (cs := (aC q hn)) rfl rfl (aC_one _ _)
  have hP4 := hP3.row6 (aC q hn)
  have z3 := hP3.z
  have zs : w1.heap.size ≤ w3.heap.size := by have := hb3.size; simpa using this
  have zv := hb1.size
  have zw := hV.B.size
  have bw3 := ((bw1.rowLt (g := w.heap.size + 1 + 1 + 1 + 1 + 1) (by omega) (aC q hb)).step hb3 (by simp)).rowLt (g := w.heap.size + 1 + 1 + 1 + 1 + 1 + 1) (by omega) (aC q hn)
  have ob3 : AS w3 (fun b => V.heap.size ≤ b ∧ b < w1.heap.size) q hb := (ob1.keep fun p hp => cell_setRow_other _ (w.heap.size + 1 + 1 + 1 + 1 + 1) (aC q hb) _ (by omega)).below hb3 (fun b hb => by simpa using hb.2)
  have an3 : AS w3 (fun b => S b ∨ (w1.heap.size ≤ b ∧ b < w3.heap.size)) q hn := an.mono fun b hb => by simpa using hb
  have hT : PT w S V.heap.size w1.heap.size q hb hn (w3.setRow (w.heap.size + 1 + 1 + 1 + 1 + 1 + 1) (aC q hn)) := ⟨bw3, by simpa using zs, ob3.keep fun p hp => cell_setRow_other _ _ _ _ (by omega), (an3.keep fun p hp => cell_setRow_other _ _ _ _ (by rcases hp with hp | hp; (have := HS.out _ hp; omega); omega)).mono fun b hb => by simpa using hb⟩
  have x0e := (xC0 hP3.b2)
  go_upto_region 35 with fail
  refine wp_world (fun W => P7 w (aC a h) (aC a hm) (xC 8 x) aZ aZ (aC q hb) (aC q hn) W ∧ PT w S V.heap.size w1.heap.size q hb hn W) ⟨hP4, hT⟩ ?_
  clear hP1 hP2 hP3 hP4 hT hst3 bw1 bw3 ob1 ob3 an an3 ob hb1 hb3 x0e z3 zs
  generalize w1.heap.size = c1 at zv ⊢
  rintro V9 ⟨hP9, hT9⟩
  have hP0 := hP9.drew
  have hT0 := hT9.drew HS.out (by have := hP9.z; omega)
  have hz9 := hP9.z
  refine wp_region_held_drew (S := fun w' => (loadA (.pointer (some ⟨w.heap.size + 1 + 1 + 1 + 1 + 1, 0, none⟩))).run Tryz.prog w' = .ok (.agg (aC q hb)) w' ∧ (loadD (.pointer (some ⟨w.heap.size + 1 + 1 + 1 + 1 + 1 + 1, 0, none⟩))).run Tryz.prog w' = .ok (.agg (aC q hn)) w') (by kernel_rfl) ⟨lda_of hP0.b5 rfl, ldaD_of hP0.b6 rfl⟩ (fun hS => ?_)
  refine tk (i := 0) (oi := { dst := some 175, op := .load 53 (.tmp 12), type := 53, pos := "law.go:100", after := #[], guard := none }) (v := ?_) ?_ hS ?_
  rotate_left
  · intro w9 hS9; have q1 := hS9.1; have q2 := hS9.2; go_simp; try with_reducible rfl
  try simp only [Act.put, List.setIfInBounds_toArray, List.set_cons_zero, List.set_cons_succ]
  refine tk (i := 1) (oi := { dst := some 176, op := .load 34 (.tmp 13), type := 34, pos := "law.go:100", after := #[⟨12, .gcOnly .lateStores⟩], guard := none }) (v := ?_) ?_ hS ?_
  rotate_left
  · intro w9 hS9; have q1 := hS9.1; have q2 := hS9.2; go_simp; try with_reducible rfl
  try simp only [Act.put, List.setIfInBounds_toArray, List.set_cons_zero, List.set_cons_succ]
  refine tk (i := 2) (oi := { dst := some 177, op := .move (.tmp 11), type := 3, pos := "law.go:100", after := #[⟨13, .gcOnly .lateStores⟩], guard := none }) (v := ?_) ?_ hS ?_
  rotate_left
  · intro w9 hS9; have q1 := hS9.1; have q2 := hS9.2; go_simp; try with_reducible rfl
  try simp only [Act.put, List.setIfInBounds_toArray, List.set_cons_zero, List.set_cons_succ]
  refine tk (i := 3) (oi := { dst := some 178, op := .binOp .eql 3 (.tmp 177) (.const (.int .i64 0)) 3, type := 4, pos := "law.go:100", after := #[⟨2, .data⟩, ⟨13, .gcOnly .lateStores⟩], guard := none }) (v := ?_) ?_ hS ?_
  rotate_left
  · intro w9 hS9; have q1 := hS9.1; have q2 := hS9.2; go_simp; try with_reducible rfl
  try simp only [Act.put, List.setIfInBounds_toArray, List.set_cons_zero, List.set_cons_succ]
  refine tk (i := 4) (oi := { dst := some 179, op := .move (.tmp 10), type := 63, pos := "law.go:100", after := #[], guard := none }) (v := ?_) ?_ hS ?_
  rotate_left
  · intro w9 hS9; have q1 := hS9.1; have q2 := hS9.2; go_simp; try with_reducible rfl
  try simp only [Act.put, List.setIfInBounds_toArray, List.set_cons_zero, List.set_cons_succ]
  refine tk (i := 5) (oi := { dst := some 180, op := .move (.tmp 11), type := 3, pos := "law.go:100", after := #[], guard := none }) (v := ?_) ?_ hS ?_
  rotate_left
  · intro w9 hS9; have q1 := hS9.1; have q2 := hS9.2; go_simp; try with_reducible rfl
  try simp only [Act.put, List.setIfInBounds_toArray, List.set_cons_zero, List.set_cons_succ]
  refine tk (i := 6) (oi := { dst := some 181, op := .binOp .eql 3 (.tmp 179) (.tmp 180) 3, type := 4, pos := "law.go:100", after := #[⟨4, .data⟩, ⟨5, .data⟩], guard := none }) (v := ?_) ?_ hS ?_
  rotate_left
  · intro w9 hS9; have q1 := hS9.1; have q2 := hS9.2; go_simp; try with_reducible rfl
  try simp only [Act.put, List.setIfInBounds_toArray, List.set_cons_zero, List.set_cons_succ]
  refine tk (i := 7) (oi := { dst := some 182, op := .move (.tmp 181), type := 4, pos := "law.go:100", after := #[⟨6, .data⟩], guard := none }) (v := ?_) ?_ hS ?_
  rotate_left
  · intro w9 hS9; have q1 := hS9.1; have q2 := hS9.2; go_simp; try with_reducible rfl
  try simp only [Act.put, List.setIfInBounds_toArray, List.set_cons_zero, List.set_cons_succ]
  refine tk (i := 8) (oi := { dst := some 183, op := .load 53 (.tmp 12), type := 53, pos := "law.go:100", after := #[⟨7, .guard⟩], guard := some (7, true) }) (v := ?_) ?_ hS ?_
  rotate_left
  · intro w9 hS9; have q1 := hS9.1; have q2 := hS9.2; go_simp; try with_reducible rfl
  try simp only [Act.put, List.setIfInBounds_toArray, List.set_cons_zero, List.set_cons_succ]
  refine tk (i := 9) (oi := { dst := some 184, op := .load 34 (.tmp 13), type := 34, pos := "law.go:100", after := #[⟨7, .guard⟩], guard := some (7, true) }) (v := ?_) ?_ hS ?_
  rotate_left
  · intro w9 hS9; have q1 := hS9.1; have q2 := hS9.2; go_simp; try with_reducible rfl
  try simp only [Act.put, List.setIfInBounds_toArray, List.set_cons_zero, List.set_cons_succ]
  refine wpAnyH_ready (rs := [10]) (by kernel_rfl) (by simp) ?_
  refine AllReadyH.cons (o := { dst := some 185, op := .call { callee := .value (.func 9), args := #[.tmp 183, .tmp 184], argTypes := #[53, 34] }, type := 4, pos := "law.go:100", after := #[⟨8, .data⟩, ⟨9, .data⟩, ⟨7, .chain⟩, ⟨7, .guard⟩], guard := some (7, true) }) rfl (fun K9 hK9 => ?_) AllReadyH.nil
  go_simp
  refine (same19_any q hb hn V9.drew _ _ hT0.b hT0.n (fun b hb => by have h5 := hT0.hc; omega) (fun b hb => by rcases hb with hb | hb; (have := HS.out b hb; have := hP0.z; omega); exact hb.2) HSM.out).mono ?_
  rintro e w5 ⟨rfl, hb5⟩
  have hP5 := hP0.step hb5
  have hT5 := hT0.step HS.out (by have := hP0.z; omega) hb5
  have hS5 : (loadA (.pointer (some ⟨w.heap.size + 1 + 1 + 1 + 1 + 1, 0, none⟩))).run Tryz.prog w5 = .ok (.agg (aC q hb)) w5 ∧ (loadD (.pointer (some ⟨w.heap.size + 1 + 1 + 1 + 1 + 1 + 1, 0, none⟩))).run Tryz.prog w5 = .ok (.agg (aC q hn)) w5 := ⟨lda_of hP5.b5 rfl, ldaD_of hP5.b6 rfl⟩
  refine hK9.out _ _ hS5 (fun hS => ?_)
  clear hK9 K9
  try simp only [Act.put, List.setIfInBounds_toArray, List.set_cons_zero, List.set_cons_succ]
  refine tk (i := 11) (oi := { dst := some 186, op := .pick (.tmp 182) (.tmp 185) (.const (.bool false)), type := 4, pos := "law.go:100", after := #[⟨7, .data⟩, ⟨10, .data⟩, ⟨14, .gcOnly .lateStores⟩], guard := none }) (v := ?_) ?_ hS ?_
  rotate_left
  · intro w9 hS9; have q1 := hS9.1; have q2 := hS9.2; go_simp; try with_reducible rfl
  try simp only [Act.put, List.setIfInBounds_toArray, List.set_cons_zero, List.set_cons_succ]
  refine wpAnyH_ready (rs := [12]) (by kernel_rfl) (by simp) ?_
  refine AllReadyH.cons (o := { dst := none, op := .store 53 (.tmp 6) (.tmp 175), type := 0, pos := "law.go:100", after := #[⟨0, .data⟩, ⟨10, .chain⟩, ⟨0, .phase⟩, ⟨1, .textOnly .lateStores⟩, ⟨2, .textOnly .lateStores⟩, ⟨3, .textOnly .lateStores⟩, ⟨4, .textOnly .lateStores⟩, ⟨5, .textOnly .lateStores⟩, ⟨6, .textOnly .lateStores⟩, ⟨7, .textOnly .lateStores⟩, ⟨8, .textOnly .lateStores⟩, ⟨9, .textOnly .lateStores⟩, ⟨10, .textOnly .lateStoresUnsure⟩, ⟨11, .textOnly .lateStores⟩], guard := none }) rfl (fun K9 hK9 => ?_) AllReadyH.nil
  have hst6 := sta_of hP5.b3 (cs := (aC q hb)) rfl rfl (aC_one _ _)
  have hP6 := hP5.row3 (aC q hb)
  have hT6 := hT5.row HS.out (g := w.heap.size + 1 + 1 + 1) (by omega) (by omega) (by omega) (aC q hb)
  have hS6 := And.intro (lda_of hP6.b5 rfl) (ldaD_of hP6.b6 rfl)
  go_simp
  refine hK9.out _ _ hS6 (fun hS => ?_)
  clear hK9 K9
  try simp only [Act.put, List.setIfInBounds_toArray, List.set_cons_zero, List.set_cons_succ]
  refine wpAnyH_ready (rs := [13]) (by kernel_rfl) (by simp) ?_
  refine AllReadyH.cons (o := { dst := none, op := .store 34 (.tmp 7) (.tmp 176), type := 0, pos := "law.go:100", after := #[⟨1, .data⟩, ⟨12, .chain⟩, ⟨0, .phase⟩, ⟨1, .phase⟩, ⟨2, .textOnly .lateStores⟩, ⟨3, .textOnly .lateStores⟩, ⟨4, .textOnly .lateStores⟩, ⟨5, .textOnly .lateStores⟩, ⟨6, .textOnly .lateStores⟩, ⟨7, .textOnly .lateStores⟩, ⟨8, .textOnly .lateStores⟩, ⟨9, .textOnly .lateStores⟩, ⟨10, .textOnly .lateStoresUnsure⟩, ⟨11, .textOnly .lateStores⟩, ⟨12, .phase⟩], guard := none }) rfl (fun K9 hK9 => ?_) AllReadyH.nil
  have hst7 := std_of hP6.b4 (cs := (aC q hn)) rfl rfl (aC_one _ _)
  have hP7 := hP6.row4 (aC q hn)
  have hT7 := hT6.row HS.out (g := w.heap.size + 1 + 1 + 1 + 1) (by omega) (by omega) (by omega) (aC q hn)
  have hS7 := And.intro (lda_of hP7.b5 rfl) (ldaD_of hP7.b6 rfl)
  go_simp
  refine hK9.out _ _ hS7 (fun hS => ?_)
  clear hK9 K9
  try simp only [Act.put, List.setIfInBounds_toArray, List.set_cons_zero, List.set_cons_succ]
  refine tk (i := 14) (oi := { dst := some 8, op := .assign (.tmp 178), type := 4, pos := "law.go:100", after := #[⟨3, .data⟩, ⟨13, .chain⟩, ⟨0, .phase⟩, ⟨1, .phase⟩, ⟨2, .phase⟩, ⟨3, .phase⟩, ⟨4, .textOnly .lateStores⟩, ⟨5, .textOnly .lateStores⟩, ⟨6, .textOnly .lateStores⟩, ⟨7, .textOnly .lateStores⟩, ⟨8, .textOnly .lateStores⟩, ⟨9, .textOnly .lateStores⟩, ⟨10, .textOnly .lateStoresUnsure⟩, ⟨11, .textOnly .lateStores⟩, ⟨12, .phase⟩, ⟨13, .phase⟩], guard := none }) (v := ?_) ?_ hS ?_
  rotate_left
  · intro w9 hS9; have q1 := hS9.1; have q2 := hS9.2; go_simp; try with_reducible rfl
  try simp only [Act.put, List.setIfInBounds_toArray, List.set_cons_zero, List.set_cons_succ]
  refine tk (i := 15) (oi := { dst := some 9, op := .assign (.tmp 186), type := 4, pos := "law.go:100", after := #[⟨11, .data⟩, ⟨14, .chain⟩, ⟨0, .phase⟩, ⟨1, .phase⟩, ⟨2, .phase⟩, ⟨3, .phase⟩, ⟨4, .phase⟩, ⟨5, .phase⟩, ⟨6, .phase⟩, ⟨7, .phase⟩, ⟨8, .phase⟩, ⟨9, .phase⟩, ⟨10, .phase⟩, ⟨11, .phase⟩, ⟨12, .phase⟩, ⟨13, .phase⟩, ⟨14, .phase⟩], guard := none }) (v := ?_) ?_ hS ?_
  rotate_left
  · intro w9 hS9; have q1 := hS9.1; have q2 := hS9.2; go_simp; try with_reducible rfl
  try simp only [Act.put, List.setIfInBounds_toArray, List.set_cons_zero, List.set_cons_succ]
  refine wpAnyH_done (by kernel_rfl) ?_ _
  go_wp2
  refine ret_pl Tryz.results8 hP7.b3 rfl hP7.b4 rfl rfl rfl rfl rfl rfl ?_
  obtain ⟨g1, g2, g3⟩ := hT7.heads HSM.out
  exact ⟨q, hb, hn, c1, _, by omega, rfl, HSM.out, hT7.bw.more (by omega), g1, g2, g3, hT7.hc, hT7.n.mono fun b hb => by rcases hb with hb | hb; exact .inl hb; exact .inr ⟨by omega, hb⟩, hP7.B⟩
end Go.Proofs.YtpgeoahlhdifoaaGreatDoor
namespace Go.Proofs.YtpgeoahlhdifoaaGreatDoor
set_option linter.unusedVariables false
open Go Go.RowKit
attribute [local go_sem ↓] loadA_eq storeA_eq loadD_eq storeD_eq loadE_eq loadP_eq
set_option maxRecDepth 100000 in
set_option maxHeartbeats 8000000 in
theorem play_6 (a : Ar) (h hm : AH) (x : ActM) (w : World) (S : Nat → Prop) (lo c : Nat) (ha : AS w (fun b => b < w.heap.size) a h) (hm0 : AS w S a hm) (hS : ∀ b, S b → b < w.heap.size) (hs : a.small 1000) (ho : x.ok) (hbw : BW w lo c h) (hc : c ≤ w.heap.size) :
    Calls Tryz.prog 8 #[.agg #[.string a.agent, .string a.off, .bool a.open_, .string a.base.loc, .string a.base.off, .slice h.b.an h.b.nn h.b.cn, .slice h.b.ag h.b.ng h.b.cg, .slice h.b.ap h.b.np h.b.cp, .int .i64 a.base.tik.kind, .int .i64 a.base.tik.day, .int .i64 a.base.tik.min, .string a.base.rc, .slice h.b.ar h.b.nr h.b.cr, .slice h.b.ae h.b.ne h.b.ce, .bool a.base.queued, .int .u64 a.ver, .slice h.ad h.nd h.cd, .slice h.al h.nl h.cl, .bool a.working, .int .i64 a.queue], .agg #[.string a.agent, .string a.off, .bool a.open_, .string a.base.loc, .string a.base.off, .slice hm.b.an hm.b.nn hm.b.cn, .slice hm.b.ag hm.b.ng hm.b.cg, .slice hm.b.ap hm.b.np hm.b.cp, .int .i64 a.base.tik.kind, .int .i64 a.base.tik.day, .int .i64 a.base.tik.min, .string a.base.rc, .slice hm.b.ar hm.b.nr hm.b.cr, .slice hm.b.ae hm.b.ne hm.b.ce, .bool a.base.queued, .int .u64 a.ver, .slice hm.ad hm.nd hm.cd, .slice hm.al hm.nl hm.cl, .bool a.working, .int .i64 a.queue], .agg #[.int .i64 6, .int .i64 x.n, .string x.text, .string x.off, .int .i64 x.ed.kind, .string x.ed.nam.last, .string x.ed.nam.first, .string x.ed.seg.car, .int .i64 x.ed.seg.num, .int .i64 x.ed.seg.day, .int .u8 x.ed.seg.cls, .bool x.ed.seg.live, .int .i64 x.ed.tik.kind, .int .i64 x.ed.tik.day, .int .i64 x.ed.tik.min, .string x.ed.text, .int .i64 x.ed.n, .int .i64 x.ed.pax, .int .i64 x.ed.row, .int .u8 x.ed.let_, .string x.p.loc, .string x.p.off, .slice x.h.an x.h.nn x.h.cn, .slice x.h.ag x.h.ng x.h.cg, .slice x.h.ap x.h.np x.h.cp, .int .i64 x.p.tik.kind, .int .i64 x.p.tik.day, .int .i64 x.p.tik.min, .string x.p.rc, .slice x.h.ar x.h.nr x.h.cr, .slice x.h.ae x.h.ne x.h.ce, .bool x.p.queued, .int .u64 x.ver, .slice x.al x.nl x.cl]] w (PlayQ w lo (fun c9 => c9 = c) S) := by
  have HA := Lib.hid ha
  have HM := Lib.hid hm0
  have HS := Lib.hid hS
  have HBW := Lib.hid hbw
  have HC := Lib.hid hc
  have HSM := Lib.hid (hs.mono (M := 2000) (by omega))
  have HG : Hid (h.nd ≤ 100000 ∧ h.nl ≤ 100000 ∧ Small h.b) := Lib.hid ⟨by have := ha.edits.len; have := hs.edits; omega, by have := ha.legs.len; have := hs.legs; omega, (hs.base.mono (M := 100000) (by omega)).hd (ha.base.at (lo := 0) (hi := w.heap.size) fun b hb => ⟨Nat.zero_le _, hb⟩)⟩
  have HPG := Lib.hid (fun (W : World) (h1 : AS W (fun b => b < W.heap.size) a h) => line_any a h x.n W _ h1 (fun b hb => hb) hs)
  have HDC := Lib.hid (fun (W : World) (h1 : AS W S a hm) (hz : ∀ b, S b → b < W.heap.size) => rline_any a hm x.n W S h1 hz hs ho.n)
  clear ha hm0 hS hs ho hbw hc
  generalize lineF a x.n = r at HPG HDC
  obtain ⟨r1, f⟩ := r
  have hP := P7.start w (aC a h) (aC a hm) (xC 6 x) aZ aZ aZ aZ
  go_enter Tryz.func8, Tryz.ntmps8
  go_upto_region 5 with fail
  refine wp_world (fun W => P7 w (aC a h) (aC a hm) (xC 6 x) aZ aZ aZ aZ W) hP ?_
  clear hP
  intro V hV
  have la1 := lda_of hV.b0 rfl
  have lm1 := ldaD_of hV.b1 rfl
  have z1 := hV.z
  have x01 := (xC0 hV.b2)
  have x11 := (xC1 hV.b2)
  go_wp2_with fail
  refine (HPG.out _ ((HA.out.below hV.B (fun b hb => hb)).mono fun b hb => by omega)).mono ?_
  rintro en w1 ⟨rfl, hb1⟩
  dsimp only
  have hP1 := hV.step hb1
  clear la1 lm1 x01 x11
  have bl := Bx.new w1 #[.string r1.car, .int .i64 r1.num, .int .i64 r1.day] 44
  have hP2 := hP1.step ((Below.refl _ _).alloc (Nat.le_refl _) (.cells #[.string r1.car, .int .i64 r1.num, .int .i64 r1.day] 44))
  have la2 := lda_of hP2.b0 rfl
  have lm2 := ldaD_of hP2.b1 rfl
  have z2 := hP2.z
  have x02 := (xC0 hP2.b2)
  have x12 := (xC1 hP2.b2)
  go_wp2_with fail
  refine (HDC.out _ (HM.out.below hP2.B HS.out) (fun b hb => by have := HS.out b hb; have := hP2.z; omega)).mono ?_
  rintro en w3 ⟨rfl, hb3⟩
  dsimp only
  have hP3 := hP2.step hb3
  have bl3 := bl.below hb3 bl.lt
  clear la2 lm2 z2 x02 x12
  have hP4 := hP3.step ((Below.refl _ _).alloc (Nat.le_refl _) (.cells #[.string r1.car, .int .i64 r1.num, .int .i64 r1.day] 44))
  have bl4 := bl3.alloc (.cells #[.string r1.car, .int .i64 r1.num, .int .i64 r1.day] 44)
  have bl5 := Bx.new w3 #[.string r1.car, .int .i64 r1.num, .int .i64 r1.day] 44
  have zq := hP1.z
  have zr := hP3.z
  have x0e := (xC0 hP3.b2)
  go_upto_region 28 with fail
  refine wp_world (fun W => P7 w (aC a h) (aC a hm) (xC 6 x) aZ aZ aZ aZ W ∧ Bx W w1.heap.size #[.string r1.car, .int .i64 r1.num, .int .i64 r1.day] 44 ∧ Bx W w3.heap.size #[.string r1.car, .int .i64 r1.num, .int .i64 r1.day] 44) ⟨hP4, bl4, bl5⟩ ?_
  clear hP1 hP2 hP3 hP4 bl bl3 bl4 bl5 hb3 hb1 x0e
  generalize w1.heap.size = k1 at zq ⊢
  generalize w3.heap.size = k2 at zr ⊢
  rintro V9 ⟨hP9, bl, bk⟩
  have heq := fun u => eql_leg r1.car r1.car r1.num r1.num r1.day r1.day u
  simp only [decide_true, Bool.and_self] at heq
  have hP0 := hP9.drew
  have bl0 := bl.drewN 1
  have bk0 := bk.drewN 1
  refine wp_region_held_drew (S := fun w' => (loadA (.pointer (some ⟨w.heap.size, 0, none⟩))).run Tryz.prog w' = .ok (.agg (aC a h)) w' ∧ (loadD (.pointer (some ⟨w.heap.size + 1, 0, none⟩))).run Tryz.prog w' = .ok (.agg (aC a hm)) w' ∧ (∀ i : Nat, w'.cell? ⟨k1, i, none⟩ = (#[.string r1.car, .int .i64 r1.num, .int .i64 r1.day] : Array Value)[i]?) ∧ (∀ i : Nat, w'.cell? ⟨k2, i, none⟩ = (#[.string r1.car, .int .i64 r1.num, .int .i64 r1.day] : Array Value)[i]?)) (by kernel_rfl) (And.intro (lda_of hP0.b0 rfl) (And.intro (ldaD_of hP0.b1 rfl) (And.intro bl0.cells bk0.cells))) (fun hS => ?_)
  refine tk (i := 0) (oi := { dst := some 137, op := .load 53 (.tmp 3), type := 53, pos := "law.go:90", after := #[], guard := none }) (v := ?_) ?_ hS ?_
  rotate_left
  · intro w9 hS9; have q1 := hS9.1; have q2 := hS9.2.1; have q3 := hS9.2.2.1; have q4 := hS9.2.2.2; go_simp; try with_reducible rfl
  try simp only [Act.put, List.setIfInBounds_toArray, List.set_cons_zero, List.set_cons_succ]
  refine tk (i := 1) (oi := { dst := some 138, op := .load 34 (.tmp 4), type := 34, pos := "law.go:90", after := #[⟨10, .gcOnly .lateStores⟩], guard := none }) (v := ?_) ?_ hS ?_
  rotate_left
  · intro w9 hS9; have q1 := hS9.1; have q2 := hS9.2.1; have q3 := hS9.2.2.1; have q4 := hS9.2.2.2; go_simp; try with_reducible rfl
  try simp only [Act.put, List.setIfInBounds_toArray, List.set_cons_zero, List.set_cons_succ]
  refine tk (i := 2) (oi := { dst := some 139, op := .load 44 (.tmp 14), type := 44, pos := "law.go:90", after := #[], guard := none }) (v := ?_) ?_ hS ?_
  rotate_left
  · intro w9 hS9; have q1 := hS9.1; have q2 := hS9.2.1; have q3 := hS9.2.2.1; have q4 := hS9.2.2.2; go_simp; try with_reducible rfl
  try simp only [Act.put, List.setIfInBounds_toArray, List.set_cons_zero, List.set_cons_succ]
  refine tk (i := 3) (oi := { dst := some 140, op := .load 44 (.tmp 16), type := 44, pos := "law.go:90", after := #[], guard := none }) (v := ?_) ?_ hS ?_
  rotate_left
  · intro w9 hS9; have q1 := hS9.1; have q2 := hS9.2.1; have q3 := hS9.2.2.1; have q4 := hS9.2.2.2; go_simp; try with_reducible rfl
  try simp only [Act.put, List.setIfInBounds_toArray, List.set_cons_zero, List.set_cons_succ]
  refine tk (i := 4) (oi := { dst := some 141, op := .binOp .eql 44 (.tmp 139) (.tmp 140) 44, type := 4, pos := "law.go:90", after := #[⟨2, .data⟩, ⟨3, .data⟩], guard := none }) (v := ?_) ?_ hS ?_
  rotate_left
  · intro w9 hS9; have q1 := hS9.1; have q2 := hS9.2.1; have q3 := hS9.2.2.1; have q4 := hS9.2.2.2; go_simp; try with_reducible rfl
  try simp only [Act.put, List.setIfInBounds_toArray, List.set_cons_zero, List.set_cons_succ]
  refine tk (i := 5) (oi := { dst := some 142, op := .move (.tmp 141), type := 4, pos := "law.go:90", after := #[⟨4, .data⟩], guard := none }) (v := ?_) ?_ hS ?_
  rotate_left
  · intro w9 hS9; have q1 := hS9.1; have q2 := hS9.2.1; have q3 := hS9.2.2.1; have q4 := hS9.2.2.2; go_simp; try with_reducible rfl
  try simp only [Act.put, List.setIfInBounds_toArray, List.set_cons_zero, List.set_cons_succ]
  refine tk (i := 6) (oi := { dst := some 143, op := .move (.tmp 15), type := 63, pos := "law.go:90", after := #[⟨5, .guard⟩, ⟨12, .gcOnly .lateStores⟩], guard := some (5, true) }) (v := ?_) ?_ hS ?_
  rotate_left
  · intro w9 hS9; have q1 := hS9.1; have q2 := hS9.2.1; have q3 := hS9.2.2.1; have q4 := hS9.2.2.2; go_simp; try with_reducible rfl
  try simp only [Act.put, List.setIfInBounds_toArray, List.set_cons_zero, List.set_cons_succ]
  refine tk (i := 7) (oi := { dst := some 144, op := .move (.tmp 17), type := 3, pos := "law.go:90", after := #[⟨5, .guard⟩, ⟨12, .gcOnly .lateStores⟩], guard := some (5, true) }) (v := ?_) ?_ hS ?_
  rotate_left
  · intro w9 hS9; have q1 := hS9.1; have q2 := hS9.2.1; have q3 := hS9.2.2.1; have q4 := hS9.2.2.2; go_simp; try with_reducible rfl
  try simp only [Act.put, List.setIfInBounds_toArray, List.set_cons_zero, List.set_cons_succ]
  refine tk (i := 8) (oi := { dst := some 145, op := .binOp .eql 3 (.tmp 143) (.tmp 144) 3, type := 4, pos := "law.go:90", after := #[⟨6, .data⟩, ⟨7, .data⟩, ⟨5, .guard⟩, ⟨12, .gcOnly .lateStores⟩], guard := some (5, true) }) (v := ?_) ?_ hS ?_
  rotate_left
  · intro w9 hS9; have q1 := hS9.1; have q2 := hS9.2.1; have q3 := hS9.2.2.1; have q4 := hS9.2.2.2; go_simp; try with_reducible rfl
  try simp only [Act.put, List.setIfInBounds_toArray, List.set_cons_zero, List.set_cons_succ]
  refine tk (i := 9) (oi := { dst := some 146, op := .pick (.tmp 142) (.tmp 145) (.const (.bool false)), type := 4, pos := "law.go:90", after := #[⟨5, .data⟩, ⟨8, .data⟩, ⟨12, .gcOnly .lateStores⟩], guard := none }) (v := ?_) ?_ hS ?_
  rotate_left
  · intro w9 hS9; have q1 := hS9.1; have q2 := hS9.2.1; have q3 := hS9.2.2.1; have q4 := hS9.2.2.2; go_simp; try with_reducible rfl
  try simp only [Act.put, List.setIfInBounds_toArray, List.set_cons_zero, List.set_cons_succ]
  refine wpAnyH_ready (rs := [10]) (by kernel_rfl) (by simp) ?_
  refine AllReadyH.cons (o := { dst := none, op := .store 53 (.tmp 6) (.tmp 137), type := 0, pos := "law.go:90", after := #[⟨0, .data⟩, ⟨5, .chain⟩, ⟨0, .phase⟩, ⟨1, .textOnly .lateStores⟩, ⟨2, .textOnly .lateStores⟩, ⟨3, .textOnly .lateStores⟩, ⟨4, .textOnly .lateStores⟩, ⟨5, .textOnly .lateStores⟩, ⟨6, .textOnly .lateStores⟩, ⟨7, .textOnly .lateStores⟩, ⟨8, .textOnly .lateStores⟩, ⟨9, .textOnly .lateStores⟩], guard := none }) rfl (fun K9 hK9 => ?_) AllReadyH.nil
  have hst6 := sta_of hP0.b3 (cs := (aC a h)) rfl rfl (aC_one _ _)
  have hP6 := hP0.row3 (aC a h)
  have bl6 := bl0.rowOther (g := w.heap.size + 1 + 1 + 1) (by omega) (aC a h)
  have bk6 := bk0.rowOther (g := w.heap.size + 1 + 1 + 1) (by omega) (aC a h)
  have hS6 := And.intro (lda_of hP6.b0 rfl) (And.intro (ldaD_of hP6.b1 rfl) (And.intro bl6.cells bk6.cells))
  go_simp
  refine hK9.out _ _ hS6 (fun hS => ?_)
  clear hK9 K9
  try simp only [Act.put, List.setIfInBounds_toArray, List.set_cons_zero, List.set_cons_succ]
  refine wpAnyH_ready (rs := [11]) (by kernel_rfl) (by simp) ?_
  refine AllReadyH.cons (o := { dst := none, op := .store 34 (.tmp 7) (.tmp 138), type := 0, pos := "law.go:90", after := #[⟨1, .data⟩, ⟨10, .chain⟩, ⟨0, .phase⟩, ⟨1, .phase⟩, ⟨2, .textOnly .lateStores⟩, ⟨3, .textOnly .lateStores⟩, ⟨4, .textOnly .lateStores⟩, ⟨5, .textOnly .lateStores⟩, ⟨6, .textOnly .lateStores⟩, ⟨7, .textOnly .lateStores⟩, ⟨8, .textOnly .lateStores⟩, ⟨9, .textOnly .lateStores⟩, ⟨10, .phase⟩], guard := none }) rfl (fun K9 hK9 => ?_) AllReadyH.nil
  have hst7 := std_of hP6.b4 (cs := (aC a hm)) rfl rfl (aC_one _ _)
  have hP7 := hP6.row4 (aC a hm)
  have bl7 := bl6.rowOther (g := w.heap.size + 1 + 1 + 1 + 1) (by omega) (aC a hm)
  have bk7 := bk6.rowOther (g := w.heap.size + 1 + 1 + 1 + 1) (by omega) (aC a hm)
  have hS7 := And.intro (lda_of hP7.b0 rfl) (And.intro (ldaD_of hP7.b1 rfl) (And.intro bl7.cells bk7.cells))
  go_simp
  refine hK9.out _ _ hS7 (fun hS => ?_)
  clear hK9 K9
  try simp only [Act.put, List.setIfInBounds_toArray, List.set_cons_zero, List.set_cons_succ]
  refine tk (i := 12) (oi := { dst := some 8, op := .assign (.const (.bool true)), type := 4, pos := "law.go:90", after := #[⟨11, .chain⟩, ⟨0, .phase⟩, ⟨1, .phase⟩, ⟨2, .textOnly .lateStores⟩, ⟨3, .textOnly .lateStores⟩, ⟨4, .textOnly .lateStores⟩, ⟨5, .textOnly .lateStores⟩, ⟨6, .textOnly .lateStores⟩, ⟨7, .textOnly .lateStores⟩, ⟨8, .textOnly .lateStores⟩, ⟨9, .textOnly .lateStores⟩, ⟨10, .phase⟩, ⟨11, .phase⟩], guard := none }) (v := ?_) ?_ hS ?_
  rotate_left
  · intro w9 hS9; have q1 := hS9.1; have q2 := hS9.2.1; have q3 := hS9.2.2.1; have q4 := hS9.2.2.2; go_simp; try with_reducible rfl
  try simp only [Act.put, List.setIfInBounds_toArray, List.set_cons_zero, List.set_cons_succ]
  refine tk (i := 13) (oi := { dst := some 9, op := .assign (.tmp 146), type := 4, pos := "law.go:90", after := #[⟨9, .data⟩, ⟨12, .chain⟩, ⟨0, .phase⟩, ⟨1, .phase⟩, ⟨2, .phase⟩, ⟨3, .phase⟩, ⟨4, .phase⟩, ⟨5, .phase⟩, ⟨6, .phase⟩, ⟨7, .phase⟩, ⟨8, .phase⟩, ⟨9, .phase⟩, ⟨10, .phase⟩, ⟨11, .phase⟩, ⟨12, .phase⟩], guard := none }) (v := ?_) ?_ hS ?_
  rotate_left
  · intro w9 hS9; have q1 := hS9.1; have q2 := hS9.2.1; have q3 := hS9.2.2.1; have q4 := hS9.2.2.2; go_simp; try with_reducible rfl
  try simp only [Act.put, List.setIfInBounds_toArray, List.set_cons_zero, List.set_cons_succ]
  refine wpAnyH_done (by kernel_rfl) ?_ _
  go_wp2
  refine ret_pl Tryz.results8 hP7.b3 rfl hP7.b4 rfl rfl rfl rfl rfl rfl ?_
  exact ⟨a, h, hm, c, _, rfl, rfl, HSM.out, HBW.out.kr fun k _ h2 => hP7.B.block k (by have := HC.out; omega), HG.out.1, HG.out.2.1, HG.out.2.2, Nat.le_trans HC.out hP7.B.size, (HM.out.below hP7.B HS.out).mono fun b hb => Or.inl hb, hP7.B⟩
set_option maxRecDepth 100000 in
set_option maxHeartbeats 8000000 in
theorem play_d (a : Ar) (h hm : AH) (x : ActM) (w : World) (S : Nat → Prop) (lo c : Nat) (ha : AS w (fun b => b < w.heap.size) a h) (hm0 : AS w S a hm) (hS : ∀ b, S b → b < w.heap.size) (hs : a.small 1000) (ho : x.ok) (hbw : BW w lo c h) (hc : c ≤ w.heap.size) (hk : x.kind < 0 ∨ 8 < x.kind) :
    Calls Tryz.prog 8 #[.agg #[.string a.agent, .string a.off, .bool a.open_, .string a.base.loc, .string a.base.off, .slice h.b.an h.b.nn h.b.cn, .slice h.b.ag h.b.ng h.b.cg, .slice h.b.ap h.b.np h.b.cp, .int .i64 a.base.tik.kind, .int .i64 a.base.tik.day, .int .i64 a.base.tik.min, .string a.base.rc, .slice h.b.ar h.b.nr h.b.cr, .slice h.b.ae h.b.ne h.b.ce, .bool a.base.queued, .int .u64 a.ver, .slice h.ad h.nd h.cd, .slice h.al h.nl h.cl, .bool a.working, .int .i64 a.queue], .agg #[.string a.agent, .string a.off, .bool a.open_, .string a.base.loc, .string a.base.off, .slice hm.b.an hm.b.nn hm.b.cn, .slice hm.b.ag hm.b.ng hm.b.cg, .slice hm.b.ap hm.b.np hm.b.cp, .int .i64 a.base.tik.kind, .int .i64 a.base.tik.day, .int .i64 a.base.tik.min, .string a.base.rc, .slice hm.b.ar hm.b.nr hm.b.cr, .slice hm.b.ae hm.b.ne hm.b.ce, .bool a.base.queued, .int .u64 a.ver, .slice hm.ad hm.nd hm.cd, .slice hm.al hm.nl hm.cl, .bool a.working, .int .i64 a.queue], .agg #[.int .i64 x.kind, .int .i64 x.n, .string x.text, .string x.off, .int .i64 x.ed.kind, .string x.ed.nam.last, .string x.ed.nam.first, .string x.ed.seg.car, .int .i64 x.ed.seg.num, .int .i64 x.ed.seg.day, .int .u8 x.ed.seg.cls, .bool x.ed.seg.live, .int .i64 x.ed.tik.kind, .int .i64 x.ed.tik.day, .int .i64 x.ed.tik.min, .string x.ed.text, .int .i64 x.ed.n, .int .i64 x.ed.pax, .int .i64 x.ed.row, .int .u8 x.ed.let_, .string x.p.loc, .string x.p.off, .slice x.h.an x.h.nn x.h.cn, .slice x.h.ag x.h.ng x.h.cg, .slice x.h.ap x.h.np x.h.cp, .int .i64 x.p.tik.kind, .int .i64 x.p.tik.day, .int .i64 x.p.tik.min, .string x.p.rc, .slice x.h.ar x.h.nr x.h.cr, .slice x.h.ae x.h.ne x.h.ce, .bool x.p.queued, .int .u64 x.ver, .slice x.al x.nl x.cl]] w (PlayQ w lo (fun c9 => c9 = c) S) := by
  have HA := Lib.hid ha
  have HM := Lib.hid hm0
  have HS := Lib.hid hS
  have HBW := Lib.hid hbw
  have HC := Lib.hid hc
  have HSM := Lib.hid (hs.mono (M := 2000) (by omega))
  have HG : Hid (h.nd ≤ 100000 ∧ h.nl ≤ 100000 ∧ Small h.b) := Lib.hid ⟨by have := ha.edits.len; have := hs.edits; omega, by have := ha.legs.len; have := hs.legs; omega, (hs.base.mono (M := 100000) (by omega)).hd (ha.base.at (lo := 0) (hi := w.heap.size) fun b hb => ⟨Nat.zero_le _, hb⟩)⟩
  clear ha hm0 hS hs ho hbw hc
  have n0 : (x.kind == (0 : Int)) = false := by rw [beq_eq_false_iff_ne]; omega
  have n1 : (x.kind == (1 : Int)) = false := by rw [beq_eq_false_iff_ne]; omega
  have n2 : (x.kind == (2 : Int)) = false := by rw [beq_eq_false_iff_ne]; omega
  have n3 : (x.kind == (3 : Int)) = false := by rw [beq_eq_false_iff_ne]; omega
  have n4 : (x.kind == (4 : Int)) = false := by rw [beq_eq_false_iff_ne]; omega
  have n5 : (x.kind == (5 : Int)) = false := by rw [beq_eq_false_iff_ne]; omega
  have n6 : (x.kind == (6 : Int)) = false := by rw [beq_eq_false_iff_ne]; omega
  have n7 : (x.kind == (7 : Int)) = false := by rw [beq_eq_false_iff_ne]; omega
  have n8 : (x.kind == (8 : Int)) = false := by rw [beq_eq_false_iff_ne]; omega
  clear hk
  have hP := P7.start w (aC a h) (aC a hm) (xC x.kind x) aZ aZ aZ aZ
  go_enter Tryz.func8, Tryz.ntmps8
  go_upto_region 5 with fail
  refine wp_world (fun W => P7 w (aC a h) (aC a hm) (xC x.kind x) aZ aZ aZ aZ W) hP ?_
  clear hP
  intro V hP9
  have la1 := lda_of hP9.b0 rfl
  have lm1 := ldaD_of hP9.b1 rfl
  have z1 := hP9.z
  have x01 := (xC0 hP9.b2)
  go_upto_region 6 with fail
  have hP0 := hP9.drew
  refine wp_region_held_drew (S := fun w' => (loadA (.pointer (some ⟨w.heap.size, 0, none⟩))).run Tryz.prog w' = .ok (.agg (aC a h)) w' ∧ (loadD (.pointer (some ⟨w.heap.size + 1, 0, none⟩))).run Tryz.prog w' = .ok (.agg (aC a hm)) w') (by kernel_rfl) (And.intro (lda_of hP0.b0 rfl) (ldaD_of hP0.b1 rfl)) (fun hS => ?_)
  refine tk (i := 0) (oi := { dst := some 20, op := .load 53 (.tmp 3), type := 53, pos := "law.go:98", after := #[], guard := none }) (v := ?_) ?_ hS ?_
  rotate_left
  · intro w9 hS9; have q1 := hS9.1; have q2 := hS9.2; go_simp; try with_reducible rfl
  try simp only [Act.put, List.setIfInBounds_toArray, List.set_cons_zero, List.set_cons_succ]
  refine tk (i := 1) (oi := { dst := some 21, op := .load 34 (.tmp 4), type := 34, pos := "law.go:98", after := #[⟨2, .gcOnly .lateStores⟩], guard := none }) (v := ?_) ?_ hS ?_
  rotate_left
  · intro w9 hS9; have q1 := hS9.1; have q2 := hS9.2; go_simp; try with_reducible rfl
  try simp only [Act.put, List.setIfInBounds_toArray, List.set_cons_zero, List.set_cons_succ]
  refine wpAnyH_ready (rs := [2]) (by kernel_rfl) (by simp) ?_
  refine AllReadyH.cons (o := { dst := none, op := .store 53 (.tmp 6) (.tmp 20), type := 0, pos := "law.go:98", after := #[⟨0, .data⟩, ⟨0, .phase⟩, ⟨1, .textOnly .lateStores⟩], guard := none }) rfl (fun K9 hK9 => ?_) AllReadyH.nil
  have hst6 := sta_of hP0.b3 (cs := (aC a h)) rfl rfl (aC_one _ _)
  have hP6 := hP0.row3 (aC a h)
  have hS6 := And.intro (lda_of hP6.b0 rfl) (ldaD_of hP6.b1 rfl)
  go_simp
  refine hK9.out _ _ hS6 (fun hS => ?_)
  clear hK9 K9
  try simp only [Act.put, List.setIfInBounds_toArray, List.set_cons_zero, List.set_cons_succ]
  refine wpAnyH_ready (rs := [3]) (by kernel_rfl) (by simp) ?_
  refine AllReadyH.cons (o := { dst := none, op := .store 34 (.tmp 7) (.tmp 21), type := 0, pos := "law.go:98", after := #[⟨1, .data⟩, ⟨2, .chain⟩, ⟨0, .phase⟩, ⟨1, .phase⟩, ⟨2, .phase⟩], guard := none }) rfl (fun K9 hK9 => ?_) AllReadyH.nil
  have hst7 := std_of hP6.b4 (cs := (aC a hm)) rfl rfl (aC_one _ _)
  have hP7 := hP6.row4 (aC a hm)
  have hS7 := And.intro (lda_of hP7.b0 rfl) (ldaD_of hP7.b1 rfl)
  go_simp
  refine hK9.out _ _ hS7 (fun hS => ?_)
  clear hK9 K9
  try simp only [Act.put, List.setIfInBounds_toArray, List.set_cons_zero, List.set_cons_succ]
  refine tk (i := 4) (oi := { dst := some 8, op := .assign (.const (.bool true)), type := 4, pos := "law.go:98", after := #[⟨3, .chain⟩, ⟨0, .phase⟩, ⟨1, .phase⟩, ⟨2, .phase⟩, ⟨3, .phase⟩], guard := none }) (v := ?_) ?_ hS ?_
  rotate_left
  · intro w9 hS9; have q1 := hS9.1; have q2 := hS9.2; go_simp; try with_reducible rfl
  try simp only [Act.put, List.setIfInBounds_toArray, List.set_cons_zero, List.set_cons_succ]
  refine tk (i := 5) (oi := { dst := some 9, op := .assign (.const (.bool true)), type := 4, pos := "law.go:98", after := #[⟨4, .chain⟩, ⟨0, .phase⟩, ⟨1, .phase⟩, ⟨2, .phase⟩, ⟨3, .phase⟩, ⟨4, .phase⟩], guard := none }) (v := ?_) ?_ hS ?_
  rotate_left
  · intro w9 hS9; have q1 := hS9.1; have q2 := hS9.2; go_simp; try with_reducible rfl
  try simp only [Act.put, List.setIfInBounds_toArray, List.set_cons_zero, List.set_cons_succ]
  refine wpAnyH_done (by kernel_rfl) ?_ _
  go_wp2
  refine ret_pl Tryz.results8 hP7.b3 rfl hP7.b4 rfl rfl rfl rfl rfl rfl ?_
  exact ⟨a, h, hm, c, _, rfl, rfl, HSM.out, HBW.out.kr fun k _ h2 => hP7.B.block k (by have := HC.out; omega), HG.out.1, HG.out.2.1, HG.out.2.2, Nat.le_trans HC.out hP7.B.size, (HM.out.below hP7.B HS.out).mono fun b hb => Or.inl hb, hP7.B⟩
end Go.Proofs.YtpgeoahlhdifoaaGreatDoor
