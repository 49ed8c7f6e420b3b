/- PnrSeats: the walk. -/
import Derived.Test.YtaakcccffmfmoaaDoorGrow3
import Derived.Test.YtaakcccffmfmoaaDoorAwake12
import Derived.Deep.RegionHeld3
import Derived.Deep.DeepCutAuto
namespace Go.Proofs.YtaakcccffmfmoaaDoor
set_option linter.unusedVariables false
open Go Go.RowKit
theorem stOk0 : StOk pnr0.segs pnr0.names.length pnr0.seats := ⟨fun x hx => absurd hx List.not_mem_nil, List.Pairwise.nil⟩
theorem PS.at0 {w W : World} {q : Pnr} {h : Hd} (hP : PS W (fun b => b ≠ w.heap.size ∧ b < W.heap.size) q h) : PAt W 0 W.heap.size q h := hP.at (lo := 0) (hi := W.heap.size) fun b hb => ⟨Nat.zero_le _, hb.2⟩
set_option maxRecDepth 100000 in
set_option maxHeartbeats 8000000 in
theorem seats_early (A : Option Addr) (n c : Nat) (v : World) (hn : 100 < n) :
    Calls Tryd.prog 9 #[.slice A n c] v (RetB v true) := by
  have hn1 : (100 : Int) < n := by omega
  clear hn
  go_enter Tryd.func9, Tryd.ntmps9
  go_wp2_with fail
  refine (awake12_any _).mono ?_
  rintro en w ⟨rfl, hb0⟩
  go_wp2
  go_ret
  exact ⟨rfl, hb0⟩
set_option maxRecDepth 100000 in
set_option maxHeartbeats 8000000 in
theorem seats_main (es : List Edit) (A : Option Addr) (n c : Nat) (v : World) (hes : Sl v 0 v.heap.size tEdit A n es) (hn : n ≤ 100) :
    Calls Tryd.prog 9 #[.slice A n c] v (RetB v true) := by
  have hn1 : ¬ (100 : Int) < n := by omega
  have HES0 := Lib.hid hes
  clear hes
  go_enter Tryd.func9, Tryd.ntmps9
  go_wp2_with fail
  refine (awake12_any _).mono ?_
  rintro en w ⟨rfl, hb0⟩
  have HES := Lib.hid ((HES0.out.below hb0 (Nat.le_refl _)).more (Nat.le_refl _) hb0.size)
  have HB0 := Lib.hid hb0
  clear hb0
  have hF := F1.start w #[.string ⟨#[]⟩, .string ⟨#[]⟩, .slice none 0 0, .slice none 0 0, .slice none 0 0, .int .i64 0, .int .i64 0, .int .i64 0, .string ⟨#[]⟩, .slice none 0 0, .slice none 0 0, .bool false]
  go_wp2
  go_loopw [4, 5, 6, 7, 8, 9, 10] (fun i _ _ _ _ _ _ wr => ∃ (k : Nat) (q : Pnr) (hq : Hd), k ≤ n ∧ i = .int .i64 k ∧ Hid (StOk q.segs q.names.length q.seats) ∧ Hid (q.small (1000 + k)) ∧ F1 w #[.string q.loc, .string q.off, .slice hq.an hq.nn hq.cn, .slice hq.ag hq.ng hq.cg, .slice hq.ap hq.np hq.cp, .int .i64 q.tik.kind, .int .i64 q.tik.day, .int .i64 q.tik.min, .string q.rc, .slice hq.ar hq.nr hq.cr, .slice hq.ae hq.ne hq.ce, .bool q.queued] wr ∧ PS wr (fun b => b ≠ w.heap.size ∧ b < wr.heap.size) q hq) (fun i _ _ _ _ _ _ _ => n - (intOf i).toNat)
  case atStart => exact ⟨0, pnr0, hd0, Nat.zero_le _, rfl, stOk0, pnr0_small _, hF, ((pnr0_op _ (w.heap.size + 1)).ps.mono fun b hb => ⟨by omega, hb.2⟩)⟩
  case round =>
    clear hF
    obtain ⟨k, q, hq, hk, rfl, hin, hsm, hF, hP⟩ := hrel
    have x1 := hF.c1
    have z1 := hF.z
    by_cases hlt : k < n
    · obtain ⟨b, o, x, rfl, g1, g2, hx, hok, c0, c1, c2, c3, c4, c5, c6, c7, c8, c9, c10, c11, c12, c13, c14, c15⟩ := (HES.out.below hF.B (Nat.le_refl _)).edit_ hlt
      have hC : C16 wr b (o + k * 16) x := ⟨c0, c1, c2, c3, c4, c5, c6, c7, c8, c9, c10, c11, c12, c13, c14, c15⟩
      have hk0 : (0 : Int) ≤ k := by omega
      have hkl : (k : Int) < n := by omega
      have hbs : b < wr.heap.size := by omega
      have hnxt := applyF_small (e := x) hsm.out
      have HA := Lib.hid (fun (W : World) (S' : Nat → Prop) (h2 : PS W S' q hq) (h3 : ∀ b, S' b → b < W.heap.size) => papply_any q hq x W S' h2 h3 (hsm.out.mono (by omega)) hok)
      have hst := fun (q2 : Pnr) (h0 : applyF q x = (q2, 0)) => Lib.hid (stOk_keep (applyF_ok h0) hin.out)
      generalize applyF q x = r at hnxt HA hst
      obtain ⟨q2, f2⟩ := r
      dsimp only at hnxt
      have HST := Lib.hid (fun (h0 : f2 = 0) => hst q2 (by rw [h0]))
      have HNX := Lib.hid hnxt
      clear hst hnxt hx
      go_wp2
      have hFd := hF.drew
      have hPd := PS.drewN hP 1
      have hCd : C16 wr.drew b (o + k * 16) x := C16.keep hC fun _ => rfl
      have kfd := hFd.c1
      have hFe := hFd.alloc (.cells #[.string ⟨#[]⟩, .string ⟨#[]⟩, .slice none 0 0, .slice none 0 0, .slice none 0 0, .int .i64 0, .int .i64 0, .int .i64 0, .string ⟨#[]⟩, .slice none 0 0, .slice none 0 0, .bool false] 29)
      have hPe := PS.below (B := wr.drew.heap.size) hPd ((Below.refl _ _).alloc (Nat.le_refl _) (.cells #[.string ⟨#[]⟩, .string ⟨#[]⟩, .slice none 0 0, .slice none 0 0, .slice none 0 0, .int .i64 0, .int .i64 0, .int .i64 0, .string ⟨#[]⟩, .slice none 0 0, .slice none 0 0, .bool false] 29)) (fun b hb => hb.2)
      have hCe : C16 (wr.drew.alloc (.cells #[.string ⟨#[]⟩, .string ⟨#[]⟩, .slice none 0 0, .slice none 0 0, .slice none 0 0, .int .i64 0, .int .i64 0, .int .i64 0, .string ⟨#[]⟩, .slice none 0 0, .slice none 0 0, .bool false] 29)) b (o + k * 16) x := C16.below (B := wr.drew.heap.size) hCd ((Below.refl _ _).alloc (Nat.le_refl _) _) hbs
      have kfe := hFe.c1
      have hbx0 : Bx (wr.drew.alloc (.cells #[.string ⟨#[]⟩, .string ⟨#[]⟩, .slice none 0 0, .slice none 0 0, .slice none 0 0, .int .i64 0, .int .i64 0, .int .i64 0, .string ⟨#[]⟩, .slice none 0 0, .slice none 0 0, .bool false] 29)) wr.heap.size #[.string ⟨#[]⟩, .string ⟨#[]⟩, .slice none 0 0, .slice none 0 0, .slice none 0 0, .int .i64 0, .int .i64 0, .int .i64 0, .string ⟨#[]⟩, .slice none 0 0, .slice none 0 0, .bool false] 29 := Bx.new wr.drew _ _
      go_cut [5, 6] (fun sA sB w' => ∃ g h2, sA = .pointer (some ⟨g, 0, none⟩) ∧ sB = .int .i64 f2 ∧ F1 w #[.string q.loc, .string q.off, .slice hq.an hq.nn hq.cn, .slice hq.ag hq.ng hq.cg, .slice hq.ap hq.np hq.cp, .int .i64 q.tik.kind, .int .i64 q.tik.day, .int .i64 q.tik.min, .string q.rc, .slice hq.ar hq.nr hq.cr, .slice hq.ae hq.ne hq.ce, .bool q.queued] w' ∧ PS w' (fun b => b ≠ w.heap.size ∧ b < w'.heap.size) q hq ∧ PS w' (fun b => b ≠ w.heap.size ∧ b < w'.heap.size) q2 h2 ∧ Bx w' g #[.string q2.loc, .string q2.off, .slice h2.an h2.nn h2.cn, .slice h2.ag h2.ng h2.cg, .slice h2.ap h2.np h2.cp, .int .i64 q2.tik.kind, .int .i64 q2.tik.day, .int .i64 q2.tik.min, .string q2.rc, .slice h2.ar h2.nr h2.cr, .slice h2.ae h2.ne h2.ce, .bool q2.queued] 29 ∧ w.heap.size < g)
      case first =>
        go_region_held3 (fun w' => (∀ i : Nat, w'.cell? ⟨w.heap.size, i, none⟩ = (#[.string q.loc, .string q.off, .slice hq.an hq.nn hq.cn, .slice hq.ag hq.ng hq.cg, .slice hq.ap hq.np hq.cp, .int .i64 q.tik.kind, .int .i64 q.tik.day, .int .i64 q.tik.min, .string q.rc, .slice hq.ar hq.nr hq.cr, .slice hq.ae hq.ne hq.ce, .bool q.queued] : Array Value)[i]?) ∧ (w'.cell? ⟨b, o + k * 16, none⟩ = some (.int .i64 x.kind) ∧ w'.cell? ⟨b, o + k * 16 + 1, none⟩ = some (.string x.nam.last) ∧ w'.cell? ⟨b, o + k * 16 + 2, none⟩ = some (.string x.nam.first) ∧ w'.cell? ⟨b, o + k * 16 + 3, none⟩ = some (.string x.seg.car) ∧ w'.cell? ⟨b, o + k * 16 + 4, none⟩ = some (.int .i64 x.seg.num) ∧ w'.cell? ⟨b, o + k * 16 + 5, none⟩ = some (.int .i64 x.seg.day) ∧ w'.cell? ⟨b, o + k * 16 + 6, none⟩ = some (.int .u8 x.seg.cls) ∧ w'.cell? ⟨b, o + k * 16 + 7, none⟩ = some (.bool x.seg.live) ∧ w'.cell? ⟨b, o + k * 16 + 8, none⟩ = some (.int .i64 x.tik.kind) ∧ w'.cell? ⟨b, o + k * 16 + 9, none⟩ = some (.int .i64 x.tik.day) ∧ w'.cell? ⟨b, o + k * 16 + 10, none⟩ = some (.int .i64 x.tik.min) ∧ w'.cell? ⟨b, o + k * 16 + 11, none⟩ = some (.string x.text) ∧ w'.cell? ⟨b, o + k * 16 + 12, none⟩ = some (.int .i64 x.n) ∧ w'.cell? ⟨b, o + k * 16 + 13, none⟩ = some (.int .i64 x.pax) ∧ w'.cell? ⟨b, o + k * 16 + 14, none⟩ = some (.int .i64 x.row) ∧ w'.cell? ⟨b, o + k * 16 + 15, none⟩ = some (.int .u8 x.let_))) (refine ⟨?_, ?_⟩ <;> first | ((repeat (with_reducible refine boxed_set ?_ _ (by first | omega | (simp; omega)) _)); first | with_reducible exact kf2 | with_reducible exact kf2a _ | with_reducible exact kfd | with_reducible exact kfe | exact kfe | exact kf2a _) | (show C16 _ b (o + k * 16) x; (repeat (with_reducible refine C16.set ?_ (by first | omega | (simp; omega)) _)); first | with_reducible exact hC2 | with_reducible exact kc2a _ | with_reducible exact hCd | with_reducible exact hCe | exact hCe | exact kc2a _))
          (first
            | (go_at_call 25; refine (HA.out wr.drew _ hPd (fun b hb => hb.2)).mono ?_; rintro en w2 ⟨h2, rfl, o2, hb2⟩; have hF2 := hFd.step hb2; have hPq2 := PS.below (B := wr.drew.heap.size) hPd hb2 (fun b hb => hb.2); have hC2 : C16 w2 b (o + k * 16) x := C16.below hCd hb2 hbs; have hs2 := hb2.size; have hs3 : wr.heap.size ≤ w2.heap.size := hs2; have kf2 := hF2.c1; have kf2a := fun t => (hF2.alloc t).c1; have u4 : w.heap.size < w2.heap.size := hF2.z; have u5 : b < w2.heap.size := (by omega); have kc2a := fun t => C16.below (B := w2.heap.size) hC2 ((Below.refl _ _).alloc (Nat.le_refl _) t) u5)
            | (go_at_call 25; refine (HA.out (wr.drew.alloc (.cells #[.string ⟨#[]⟩, .string ⟨#[]⟩, .slice none 0 0, .slice none 0 0, .slice none 0 0, .int .i64 0, .int .i64 0, .int .i64 0, .string ⟨#[]⟩, .slice none 0 0, .slice none 0 0, .bool false] 29)) _ hPe (fun b hb => by have := hb.2; simp; omega)).mono ?_; rintro en w2 ⟨h2, rfl, o2, hb2⟩; have hF2 := hFe.step hb2; have hPq2 := PS.below (B := wr.drew.heap.size) hPe (hb2.mono (by simp)) (fun b hb => hb.2); have hC2 : C16 w2 b (o + k * 16) x := C16.below hCe hb2 (by simp; omega); have hbx2 := hbx0.below hb2 (by simp); have hq1 := Bx.cells hbx2; have hq2 := Bx.free hbx2; have hs2 := hb2.size; have hs3 : wr.heap.size < w2.heap.size := (by simp at hs2; omega); have kf2 := hF2.c1; have kf2a := fun t => (hF2.alloc t).c1; have u4 : w.heap.size < w2.heap.size := hF2.z; have u5 : b < w2.heap.size := (by omega); have kc2a := fun t => C16.below (B := w2.heap.size) hC2 ((Below.refl _ _).alloc (Nat.le_refl _) t) u5))
        · have key := end_alloc (q2 := q2) hF2 (by omega) hPq2 hs3 o2
          obtain ⟨k1, k2, k3, k4, k5⟩ := key
          generalize w2.alloc (.cells #[.string q2.loc, .string q2.off, .slice h2.an h2.nn h2.cn, .slice h2.ag h2.ng h2.cg, .slice h2.ap h2.np h2.cp, .int .i64 q2.tik.kind, .int .i64 q2.tik.day, .int .i64 q2.tik.min, .string q2.rc, .slice h2.ar h2.nr h2.cr, .slice h2.ae h2.ne h2.ce, .bool q2.queued] 29) = W9 at k1 k2 k3 k4 ⊢
          go_wp2
          go_meet
          exact ⟨_, h2, rfl, rfl, k1, k2, k3, k4, k5⟩
        · rw [set12 hbx2]
          have key := end_store (q2 := q2) hF2 (by omega) hPq2 hs3 (by have o3 := o2; rw [World.size_alloc] at o3; exact o3) hbx2
          generalize w2.setRow wr.heap.size #[.string q2.loc, .string q2.off, .slice h2.an h2.nn h2.cn, .slice h2.ag h2.ng h2.cg, .slice h2.ap h2.np h2.cp, .int .i64 q2.tik.kind, .int .i64 q2.tik.day, .int .i64 q2.tik.min, .string q2.rc, .slice h2.ar h2.nr h2.cr, .slice h2.ae h2.ne h2.ce, .bool q2.queued] = W9 at key ⊢
          obtain ⟨k1, k2, k3, k4, k5⟩ := key
          go_wp2
          go_meet
          exact ⟨_, h2, rfl, rfl, k1, k2, k3, k4, k5⟩
      case rest =>
        clear c0 c1 c2 c3 c4 c5 c6 c7 c8 c9 c10 c11 c12 c13 c14 c15 hC hF hP hFd hPd hCd hFe hPe hCe hbx0 HA kfd kfe
        obtain ⟨g, h2, rfl, rfl, hF, hP, hP2, hbx, hg1⟩ := hcut
        by_cases hf0 : f2 = 0
        case neg =>
          have hne : (f2 != 0) = true := by rw [bne_iff_ne]; exact hf0
          clear hf0 x1 z1
          go_wp2
          go_roundw
          case rel => exact ⟨k + 1, q, hq, by omega, by go_num, hin, hsm.out.mono (by omega), hF, hP⟩
          case measure => simp [intOf]; omega
        have HST2 := HST.out hf0
        have hne : (f2 != 0) = false := by rw [bne_eq_false_iff_eq]; exact hf0
        clear hf0 x1 z1
        obtain ⟨an, nn, cn, ag, ng, cg, ap, np, cp, ar, nr, cr, ae, ne, ce⟩ := h2
        have hneB : ne ≤ 100000 := by have a := HNX.out.seats; have b := hP2.at0.seats.len; dsimp only at b; omega
        have y1 := hbx.cells
        have y2 := hF.f1
        have y3 := hF.z
        dsimp only at y1
        go_upto_region 12 with (refine store_res rfl (.tmp 3) (.tmp 34) rfl #[.string q2.loc, .string q2.off, .slice an nn cn, .slice ag ng cg, .slice ap np cp, .int .i64 q2.tik.kind, .int .i64 q2.tik.day, .int .i64 q2.tik.min, .string q2.rc, .slice ar nr cr, .slice ae ne ce, .bool q2.queued] rfl rfl hF.r1 rfl rfl (by simp [Value.oneCell']) ?_)
        refine wp_world (fun W => F1 w #[.string q2.loc, .string q2.off, .slice an nn cn, .slice ag ng cg, .slice ap np cp, .int .i64 q2.tik.kind, .int .i64 q2.tik.day, .int .i64 q2.tik.min, .string q2.rc, .slice ar nr cr, .slice ae ne ce, .bool q2.queued] W ∧ PS W (fun b => b ≠ w.heap.size ∧ b < W.heap.size) q2 (Hd.mk an nn cn ag ng cg ap np cp ar nr cr ae ne ce)) ⟨hF.put _, hP2.put _⟩ ?_
        clear hF hP hP2 hbx y1 y2 y3 hg1
        rintro W ⟨hF, hP⟩
        go_wp2
        go_loopw [7, 8, 9, 10] (fun i _ _ _ wr => ∃ kk : Nat, kk ≤ ne ∧ i = .int .i64 kk ∧ F1 w #[.string q2.loc, .string q2.off, .slice an nn cn, .slice ag ng cg, .slice ap np cp, .int .i64 q2.tik.kind, .int .i64 q2.tik.day, .int .i64 q2.tik.min, .string q2.rc, .slice ar nr cr, .slice ae ne ce, .bool q2.queued] wr ∧ PS wr (fun b => b ≠ w.heap.size ∧ b < wr.heap.size) q2 (Hd.mk an nn cn ag ng cg ap np cp ar nr cr ae ne ce)) (fun i _ _ _ _ => ne - (intOf i).toNat)
        case atStart => exact ⟨0, Nat.zero_le _, rfl, hF, hP⟩
        case round =>
          clear hF hP
          obtain ⟨kk, hkk, rfl, hF, hP⟩ := hrel
          have y1 := hF.c1
          have y3 := hF.z
          by_cases hl2 : kk < ne
          · obtain ⟨b, o, x, hA, g1, g2, hx, hok, c0, c1, c2, c3⟩ := hP.at0.seats.plc_ hl2
            have hpl := HST2.out.each x (List.mem_of_getElem? hx.out)
            simp only [plcOk, Bool.and_eq_true, decide_eq_true_eq] at hpl
            obtain ⟨v1, v2, v3, v4⟩ := hpl
            obtain ⟨u1, s, hs, hl⟩ := liveN_got v1
            obtain ⟨m, hm⟩ : ∃ m : Nat, x.seg = (m : Int) + 1 := ⟨(x.seg - 1).toNat, by omega⟩
            have hsm2 : q2.segs[m]? = some s := by rw [show (x.seg - 1).toNat = m by omega] at hs; exact hs
            have hmlt : m < ng := by have h1 := lt_of_get hsm2; have h2 := hP.at0.segs.len; dsimp only at h2; omega
            obtain ⟨b', o', s', hA', g1', g2', hs', hok', e0, e1, e2, e3, e4⟩ := hP.at0.segs.seg_ hmlt
            have hss := hs'.out.symm.trans hsm2
            injection hss with hss
            subst hss
            rw [hl] at e4
            have hnl := hP.at0.names.len
            have hsl := HNX.out.segs
            have hsl2 := hP.at0.segs.len
            dsimp only at hA hA' hnl hsl2
            subst hA hA'
            have hbs : b < wr.heap.size := g2
            have hbs' : b' < wr.heap.size := g2'
            obtain ⟨sg, px, rw_, lt_⟩ := x
            dsimp only at hm c0 c1 c2 c3 v2 v3 v4
            subst hm
            have m0 : (0 : Int) ≤ m := by omega
            have m1 : (m : Int) < ng := by omega
            have m2 : (m : Int) ≤ 100000 := by omega
            have m3 : ¬ (m : Int) + 1 < 1 := by omega
            have m4 : ¬ (ng : Int) < (m : Int) + 1 := by omega
            have m5 : ¬ px < 1 := by omega
            have m6 : ¬ (nn : Int) < px := by omega
            have hk0 : (0 : Int) ≤ kk := by omega
            have hkl : (kk : Int) < ne := by omega
            have l0 : 0 ≤ lt_ := hok.2.2.2.1
            have l1 : lt_ ≤ 255 := hok.2.2.2.2
            have hF0 := hF.alloc (.cells #[.int .i64 ((m : Int) + 1), .int .i64 px, .int .i64 rw_, .int .u8 lt_] 67)
            have hP0 := hP.over ((Below.refl _ _).alloc (Nat.le_refl _) (.cells #[.int .i64 ((m : Int) + 1), .int .i64 px, .int .i64 rw_, .int .u8 lt_] 67))
            have hx0 := boxed_new wr #[.int .i64 ((m : Int) + 1), .int .i64 px, .int .i64 rw_, .int .u8 lt_] 67
            clear hok hok' hs hs' v1 u1 hsm2 hl hmlt hnl hsl hsl2 e0 e1 e2 e3
            go_wp2_with fail
            refine (rtext_any rw_ lt_ _ l0 l1).mono ?_
            rintro en w9 ⟨tx, rfl, htx, hb9⟩
            rw [v4] at htx
            have hF9 := hF0.step hb9
            have hP9 := hP0.over hb9
            have hx9 := boxed_below hx0 hb9 (by simp)
            have hz9 := hb9.size
            simp only [World.size_alloc] at hz9
            clear hF0 hP0 hx0 hb9 c0 c1 c2 c3 e4 y1 y3 hF hP
            go_upto_region 18 with fail
            refine wp_world (fun W => F1 w #[.string q2.loc, .string q2.off, .slice an nn cn, .slice (some ⟨b', o', none⟩) ng cg, .slice ap np cp, .int .i64 q2.tik.kind, .int .i64 q2.tik.day, .int .i64 q2.tik.min, .string q2.rc, .slice ar nr cr, .slice (some ⟨b, o, none⟩) ne ce, .bool q2.queued] W ∧ PS W (fun b => b ≠ w.heap.size ∧ b < W.heap.size) q2 (Hd.mk an nn cn (some ⟨b', o', none⟩) ng cg ap np cp ar nr cr (some ⟨b, o, none⟩) ne ce) ∧ (∀ i : Nat, W.cell? ⟨wr.heap.size, i, none⟩ = (#[.int .i64 ((m : Int) + 1), .int .i64 px, .int .i64 rw_, .int .u8 lt_] : Array Value)[i]?) ∧ wr.heap.size < W.heap.size) ⟨hF9, hP9, hx9, by omega⟩ ?_
            clear hF9 hP9 hx9 hz9 hbs hbs' g1 g2 g1' g2'
            generalize wr.heap.size = g8
            rintro W2 ⟨hF, hP, hx8, hz8⟩
            go_wp2
            go_loopw [9, 10] (fun j _ wr2 => ∃ jj : Nat, jj ≤ kk ∧ j = .int .i64 jj ∧ F1 w #[.string q2.loc, .string q2.off, .slice an nn cn, .slice (some ⟨b', o', none⟩) ng cg, .slice ap np cp, .int .i64 q2.tik.kind, .int .i64 q2.tik.day, .int .i64 q2.tik.min, .string q2.rc, .slice ar nr cr, .slice (some ⟨b, o, none⟩) ne ce, .bool q2.queued] wr2 ∧ PS wr2 (fun b => b ≠ w.heap.size ∧ b < wr2.heap.size) q2 (Hd.mk an nn cn (some ⟨b', o', none⟩) ng cg ap np cp ar nr cr (some ⟨b, o, none⟩) ne ce) ∧ (∀ i : Nat, wr2.cell? ⟨g8, i, none⟩ = (#[.int .i64 ((m : Int) + 1), .int .i64 px, .int .i64 rw_, .int .u8 lt_] : Array Value)[i]?) ∧ g8 < wr2.heap.size) (fun j _ _ => kk - (intOf j).toNat)
            case atStart => exact ⟨0, Nat.zero_le _, rfl, hF, hP, hx8, hz8⟩
            case round =>
              clear hF hP hx8 hz8
              obtain ⟨jj, hjj, rfl, hF, hP, hx8, hz8⟩ := hrel
              have y1 := hF.c1
              have y3 := hF.z
              by_cases hl3 : jj < kk
              · obtain ⟨b9, o9, y, hA9, g19, g29, hy, hok9, d0, d1, d2, d3⟩ := hP.at0.seats.plc_ (show jj < ne by omega)
                have hfb := List.pairwise_iff_getElem.1 HST2.out.ord jj kk (lt_of_get hy.out) (lt_of_get hx.out) hl3
                rw [get_eq hy.out, get_eq hx.out] at hfb
                have hfb := forb_false.1 hfb
                obtain ⟨sg', px', rw', lt'⟩ := y
                dsimp only at hA9 hfb d0 d1 d2 d3
                injection hA9 with hA9
                injection hA9 with q1 q2_ _
                subst q1 q2_
                obtain ⟨f1, f3⟩ := hfb
                have hbs9 : b < wr.heap.size := g29
                have hj0 : (0 : Int) ≤ jj := by omega
                have hj1 : (jj : Int) < kk := by omega
                have hj2 : (jj : Int) < ne := by omega
                clear hy hok9
                by_cases he : sg' = (m : Int) + 1
                · obtain ⟨f4, f5⟩ := f3 he
                  subst he
                  have hdd : (decide (rw' = rw_) && decide (lt' = lt_)) = false := by
                    rw [Bool.eq_false_iff]
                    intro hh
                    rw [Bool.and_eq_true, decide_eq_true_eq, decide_eq_true_eq] at hh
                    exact f5 hh
                  have heq := fun u => eql_seat rw' rw_ lt' lt_ u
                  rw [hdd] at heq
                  have f6 : ¬ px ≤ px' := by omega
                  clear f1 f3 f5 hdd
                  go_wp2
                  go_roundw
                  case rel => exact ⟨jj + 1, by omega, by go_num, hF.step (by (repeat (first | with_reducible exact Below.refl _ _ | (with_reducible refine Below.drew ?_) | (with_reducible refine below_drewN ?_ _) | (with_reducible refine Below.alloc ?_ (by first | (simp; done) | omega | (simp; omega)) _) | (with_reducible refine Below.setCell ?_ (by first | (simp; done) | omega | (simp; omega)) _) | with_reducible assumption))), hP.over (by (repeat (first | with_reducible exact Below.refl _ _ | (with_reducible refine Below.drew ?_) | (with_reducible refine below_drewN ?_ _) | (with_reducible refine Below.alloc ?_ (by first | (simp; done) | omega | (simp; omega)) _) | (with_reducible refine Below.setCell ?_ (by first | (simp; done) | omega | (simp; omega)) _) | with_reducible assumption))), boxed_below hx8 (show Below wr.heap.size wr _ from by (repeat (first | with_reducible exact Below.refl _ _ | (with_reducible refine Below.drew ?_) | (with_reducible refine below_drewN ?_ _) | (with_reducible refine Below.alloc ?_ (by first | (simp; done) | omega | (simp; omega)) _) | (with_reducible refine Below.setCell ?_ (by first | (simp; done) | omega | (simp; omega)) _) | with_reducible assumption))) hz8, by simp; omega⟩
                  case measure => simp [intOf]; omega
                · have f6 : (sg' == (m : Int) + 1) = false := beq_eq_false_iff_ne.2 he
                  clear f3
                  go_wp2
                  go_roundw
                  case rel => exact ⟨jj + 1, by omega, by go_num, hF.step (by (repeat (first | with_reducible exact Below.refl _ _ | (with_reducible refine Below.drew ?_) | (with_reducible refine below_drewN ?_ _) | (with_reducible refine Below.alloc ?_ (by first | (simp; done) | omega | (simp; omega)) _) | (with_reducible refine Below.setCell ?_ (by first | (simp; done) | omega | (simp; omega)) _) | with_reducible assumption))), hP.over (by (repeat (first | with_reducible exact Below.refl _ _ | (with_reducible refine Below.drew ?_) | (with_reducible refine below_drewN ?_ _) | (with_reducible refine Below.alloc ?_ (by first | (simp; done) | omega | (simp; omega)) _) | (with_reducible refine Below.setCell ?_ (by first | (simp; done) | omega | (simp; omega)) _) | with_reducible assumption))), boxed_below hx8 (show Below wr.heap.size wr _ from by (repeat (first | with_reducible exact Below.refl _ _ | (with_reducible refine Below.drew ?_) | (with_reducible refine below_drewN ?_ _) | (with_reducible refine Below.alloc ?_ (by first | (simp; done) | omega | (simp; omega)) _) | (with_reducible refine Below.setCell ?_ (by first | (simp; done) | omega | (simp; omega)) _) | with_reducible assumption))) hz8, by simp; omega⟩
                  case measure => simp [intOf]; omega
              · obtain rfl : jj = kk := by omega
                go_wp2
                go_roundw
                case rel => exact ⟨jj + 1, by omega, by go_num, hF, hP⟩
                case measure => simp [intOf]; omega
          · obtain rfl : kk = ne := by omega
            go_wp2
            go_roundw
            case rel => exact ⟨k + 1, q2, (Hd.mk an nn cn ag ng cg ap np cp ar nr cr ae kk ce), by omega, by go_num, HST2, HNX, hF, hP⟩
            case measure => simp [intOf]; omega
    · obtain rfl : n = k := by omega
      go_wp2
      go_ret
      exact ⟨rfl, HB0.out.trans (hF.B.mono HB0.out.size)⟩
theorem pnrSeats_any (es : List Edit) (A : Option Addr) (n c : Nat) (v : World) (hes : Sl v 0 v.heap.size tEdit A n es) :
    Calls Tryd.prog 9 #[.slice A n c] v (RetB v true) := by
  by_cases hn : 100 < n
  · exact seats_early A n c v hn
  · exact seats_main es A n c v hes (by omega)
end Go.Proofs.YtaakcccffmfmoaaDoor

