/- AreaEdits: the walk. -/
import Derived.Test.YtfbalabmidobeaaDoorArea10
import Derived.Deep.RegionHeld3
import Derived.Deep.DeepCutAuto
import Derived.BigRegion
namespace Go.Proofs.YtfbalabmidobeaaDoor
set_option linter.unusedVariables false
open Go Go.RowKit
attribute [local go_sem ↓] loadA_eq storeA_eq
set_option maxRecDepth 100000 in
set_option maxHeartbeats 8000000 in
theorem ae_early (p : Pnr) (hp : Hd) (A : Option Addr) (n c : Nat) (w : World) (hsb : smallB hp = false ∨ (smallB hp = true ∧ 120 < n)) :
    Calls Tryd.prog 3 #[.agg #[.string p.loc, .string p.off, .slice hp.an hp.nn hp.cn, .slice hp.ag hp.ng hp.cg, .slice hp.ap hp.np hp.cp, .int .i64 p.tik.kind, .int .i64 p.tik.day, .int .i64 p.tik.min, .string p.rc, .slice hp.ar hp.nr hp.cr, .slice hp.ae hp.ne hp.ce, .bool p.queued], .slice A n c] w (RetB w true) := by
  have bx := Bx.new w #[.string p.loc, .string p.off, .slice hp.an hp.nn hp.cn, .slice hp.ag hp.ng hp.cg, .slice hp.ap hp.np hp.cp, .int .i64 p.tik.kind, .int .i64 p.tik.day, .int .i64 p.tik.min, .string p.rc, .slice hp.ar hp.nr hp.cr, .slice hp.ae hp.ne hp.ce, .bool p.queued] 29
  have B0 : Below w.heap.size w (w.alloc (.cells #[.string p.loc, .string p.off, .slice hp.an hp.nn hp.cn, .slice hp.ag hp.ng hp.cg, .slice hp.ap hp.np hp.cp, .int .i64 p.tik.kind, .int .i64 p.tik.day, .int .i64 p.tik.min, .string p.rc, .slice hp.ar hp.nr hp.cr, .slice hp.ae hp.ne hp.ce, .bool p.queued] 29)) := (Below.refl _ _).alloc (Nat.le_refl _) _
  rcases hsb with hsb | ⟨hsb, hn⟩
  all_goals
    try have hn1 : (120 : Int) < n := by omega
    try clear hn
    go_enter Tryd.func3, Tryd.ntmps3
    go_wp2_with fail
    refine (awake19_any _).mono ?_
    rintro en w1 ⟨rfl, hb1⟩
    have bx1 := bx.below hb1 bx.lt
    have B1 := B0.trans (hb1.mono B0.size)
    have x1 := bx1.cells
    have z1 := bx1.lt
    go_wp2_with fail
    refine (small_any p hp _).mono ?_
    rintro en w2 ⟨rfl, hb2⟩
    rw [hsb]
    have B2 := B1.trans (hb2.mono B1.size)
    clear x1 hb1 hb2 bx1 B1 bx B0
    go_wp2
    go_ret
    exact ⟨rfl, B2⟩
set_option maxRecDepth 100000 in
set_option maxHeartbeats 64000000 in
theorem ae_main (p : Pnr) (hp : Hd) (es : List Edit) (A : Option Addr) (n c : Nat) (w : World) (hpp : PAt w 0 w.heap.size p hp) (hc : Caps hp) (hes : Sl w 0 w.heap.size tEdit A n es) (hsb : smallB hp = true) (hn : n ≤ 120) :
    Calls Tryd.prog 3 #[.agg #[.string p.loc, .string p.off, .slice hp.an hp.nn hp.cn, .slice hp.ag hp.ng hp.cg, .slice hp.ap hp.np hp.cp, .int .i64 p.tik.kind, .int .i64 p.tik.day, .int .i64 p.tik.min, .string p.rc, .slice hp.ar hp.nr hp.cr, .slice hp.ae hp.ne hp.ce, .bool p.queued], .slice A n c] w (RetB w true) := by
  have HP := Lib.hid (hpp.ps hc)
  have HPA := Lib.hid hpp
  have hps := smallB_pnr hsb hpp
  have HSM := Lib.hid (hps.mono (show 200 ≤ 1000 by omega))
  have HSh := Lib.hid ((hps.mono (show 200 ≤ 100000 by omega)).hd hpp)
  have HES := Lib.hid hes
  have hn1 : ¬ (120 : Int) < n := by omega
  clear hpp hc hes hps
  have bx := Bx.new w #[.string p.loc, .string p.off, .slice hp.an hp.nn hp.cn, .slice hp.ag hp.ng hp.cg, .slice hp.ap hp.np hp.cp, .int .i64 p.tik.kind, .int .i64 p.tik.day, .int .i64 p.tik.min, .string p.rc, .slice hp.ar hp.nr hp.cr, .slice hp.ae hp.ne hp.ce, .bool p.queued] 29
  have B0 : Below w.heap.size w (w.alloc (.cells #[.string p.loc, .string p.off, .slice hp.an hp.nn hp.cn, .slice hp.ag hp.ng hp.cg, .slice hp.ap hp.np hp.cp, .int .i64 p.tik.kind, .int .i64 p.tik.day, .int .i64 p.tik.min, .string p.rc, .slice hp.ar hp.nr hp.cr, .slice hp.ae hp.ne hp.ce, .bool p.queued] 29)) := (Below.refl _ _).alloc (Nat.le_refl _) _
  go_enter Tryd.func3, Tryd.ntmps3
  go_wp2_with fail
  refine (awake19_any _).mono ?_
  rintro en w1 ⟨rfl, hb1⟩
  have bx1 := bx.below hb1 bx.lt
  have B1 := B0.trans (hb1.mono B0.size)
  have x1 := bx1.cells
  have z1 := bx1.lt
  go_wp2_with fail
  refine (small_any p hp _).mono ?_
  rintro en w2 ⟨rfl, hb2⟩
  rw [hsb]
  have bx2 := bx1.below hb2 z1
  have B2 := B1.trans (hb2.mono B1.size)
  clear x1 hb1 hb2 bx1 B1 bx B0 z1
  go_wp2_with fail
  refine (se_signin _).mono ?_
  rintro en w3 ⟨a, h1, rfl, ha, o1, hb3⟩
  replace ha := Lib.hid ha
  have bx3 := bx2.below hb3 bx2.lt
  have B3 := B2.trans (hb3.mono B2.size)
  have hz3 := bx3.lt
  have hb := below_setRow (w := w3.alloc (.cells #[.string ⟨#[]⟩, .string ⟨#[]⟩, .bool false, .string ⟨#[]⟩, .string ⟨#[]⟩, .slice none 0 0, .slice none 0 0, .slice none 0 0, .int .i64 0, .int .i64 0, .int .i64 0, .string ⟨#[]⟩, .slice none 0 0, .slice none 0 0, .bool false, .int .u64 0, .slice none 0 0, .slice none 0 0, .bool false, .int .i64 0] 36)) ((Below.refl w3.heap.size w3).alloc (Nat.le_refl _) (.cells #[.string ⟨#[]⟩, .string ⟨#[]⟩, .bool false, .string ⟨#[]⟩, .string ⟨#[]⟩, .slice none 0 0, .slice none 0 0, .slice none 0 0, .int .i64 0, .int .i64 0, .int .i64 0, .string ⟨#[]⟩, .slice none 0 0, .slice none 0 0, .bool false, .int .u64 0, .slice none 0 0, .slice none 0 0, .bool false, .int .i64 0] 36)) (Nat.le_refl _) #[.string a.agent, .string a.off, .bool a.open_, .string a.base.loc, .string a.base.off, .slice h1.b.an h1.b.nn h1.b.cn, .slice h1.b.ag h1.b.ng h1.b.cg, .slice h1.b.ap h1.b.np h1.b.cp, .int .i64 a.base.tik.kind, .int .i64 a.base.tik.day, .int .i64 a.base.tik.min, .string a.base.rc, .slice h1.b.ar h1.b.nr h1.b.cr, .slice h1.b.ae h1.b.ne h1.b.ce, .bool a.base.queued, .int .u64 a.ver, .slice h1.ad h1.nd h1.cd, .slice h1.al h1.nl h1.cl, .bool a.working, .int .i64 a.queue]
  go_upto_region 6 with (refine store_ra rfl (.tmp 5) (.tmp 27) rfl #[.string a.agent, .string a.off, .bool a.open_, .string a.base.loc, .string a.base.off, .slice h1.b.an h1.b.nn h1.b.cn, .slice h1.b.ag h1.b.ng h1.b.cg, .slice h1.b.ap h1.b.np h1.b.cp, .int .i64 a.base.tik.kind, .int .i64 a.base.tik.day, .int .i64 a.base.tik.min, .string a.base.rc, .slice h1.b.ar h1.b.nr h1.b.cr, .slice h1.b.ae h1.b.ne h1.b.ce, .bool a.base.queued, .int .u64 a.ver, .slice h1.ad h1.nd h1.cd, .slice h1.al h1.nl h1.cl, .bool a.working, .int .i64 a.queue] rfl rfl (Bx.new w3 #[.string ⟨#[]⟩, .string ⟨#[]⟩, .bool false, .string ⟨#[]⟩, .string ⟨#[]⟩, .slice none 0 0, .slice none 0 0, .slice none 0 0, .int .i64 0, .int .i64 0, .int .i64 0, .string ⟨#[]⟩, .slice none 0 0, .slice none 0 0, .bool false, .int .u64 0, .slice none 0 0, .slice none 0 0, .bool false, .int .i64 0] 36) rfl rfl (by simp [Value.oneCell']) ?_)
  refine wp_world (fun W => Below w.heap.size w W ∧ Bx W w.heap.size #[.string p.loc, .string p.off, .slice hp.an hp.nn hp.cn, .slice hp.ag hp.ng hp.cg, .slice hp.ap hp.np hp.cp, .int .i64 p.tik.kind, .int .i64 p.tik.day, .int .i64 p.tik.min, .string p.rc, .slice hp.ar hp.nr hp.cr, .slice hp.ae hp.ne hp.ce, .bool p.queued] 29 ∧ Bx W w3.heap.size #[.string a.agent, .string a.off, .bool a.open_, .string a.base.loc, .string a.base.off, .slice h1.b.an h1.b.nn h1.b.cn, .slice h1.b.ag h1.b.ng h1.b.cg, .slice h1.b.ap h1.b.np h1.b.cp, .int .i64 a.base.tik.kind, .int .i64 a.base.tik.day, .int .i64 a.base.tik.min, .string a.base.rc, .slice h1.b.ar h1.b.nr h1.b.cr, .slice h1.b.ae h1.b.ne h1.b.ce, .bool a.base.queued, .int .u64 a.ver, .slice h1.ad h1.nd h1.cd, .slice h1.al h1.nl h1.cl, .bool a.working, .int .i64 a.queue] 36 ∧ OA W w2.heap.size a h1 ∧ AS W (fun b => b < w3.heap.size) a h1) ⟨B3.trans (hb.mono B3.size), bx3.below hb hz3, (Bx.new w3 #[.string ⟨#[]⟩, .string ⟨#[]⟩, .bool false, .string ⟨#[]⟩, .string ⟨#[]⟩, .slice none 0 0, .slice none 0 0, .slice none 0 0, .int .i64 0, .int .i64 0, .int .i64 0, .string ⟨#[]⟩, .slice none 0 0, .slice none 0 0, .bool false, .int .u64 0, .slice none 0 0, .slice none 0 0, .bool false, .int .i64 0] 36).row _, o1.keep hb, (o1.as.mono fun b h => h.2).below hb fun b h => h⟩ ?_
  clear bx2 B2 hb3 bx3 B3 hb o1
  generalize w3.heap.size = g5 at hz3 ⊢
  rintro W ⟨B4, bx4, b5, o4, s4⟩
  have x4 := bx4.cells
  have z4 := bx4.lt
  have z5 := b5.lt
  have xl := lda_of b5 rfl
  go_wp2_with fail
  refine (se_load a h1 p hp _ (fun b => b < W.heap.size) (s4.mono fun b h => by omega) ((HP.out.below B4 (fun b hb => hb.2)).mono fun b h => by have := h.2; omega) (fun b h => h) ha.out.2.2 HSM.out ha.out.1 ha.out.2.1).mono ?_
  rintro en w5 ⟨a2, h2, rfl, hA2, o5, hb5⟩
  replace hA2 := Lib.hid hA2
  have bx6 := bx4.below hb5 z4
  have b56 := b5.below hb5 z5
  have B6 := B4.trans (hb5.mono B4.size)
  have q5 := hb5.size
  clear x4 xl s4 o4 bx4 b5 B4 hb5
  go_upto_region 9 with (refine store_ra rfl (.tmp 5) (.tmp 35) rfl #[.string a2.agent, .string a2.off, .bool a2.open_, .string a2.base.loc, .string a2.base.off, .slice h2.b.an h2.b.nn h2.b.cn, .slice h2.b.ag h2.b.ng h2.b.cg, .slice h2.b.ap h2.b.np h2.b.cp, .int .i64 a2.base.tik.kind, .int .i64 a2.base.tik.day, .int .i64 a2.base.tik.min, .string a2.base.rc, .slice h2.b.ar h2.b.nr h2.b.cr, .slice h2.b.ae h2.b.ne h2.b.ce, .bool a2.base.queued, .int .u64 a2.ver, .slice h2.ad h2.nd h2.cd, .slice h2.al h2.nl h2.cl, .bool a2.working, .int .i64 a2.queue] rfl rfl b56 rfl rfl (by simp [Value.oneCell']) ?_)
  refine wp_world (fun V => Below w.heap.size w V ∧ Bx V w.heap.size #[.string p.loc, .string p.off, .slice hp.an hp.nn hp.cn, .slice hp.ag hp.ng hp.cg, .slice hp.ap hp.np hp.cp, .int .i64 p.tik.kind, .int .i64 p.tik.day, .int .i64 p.tik.min, .string p.rc, .slice hp.ar hp.nr hp.cr, .slice hp.ae hp.ne hp.ce, .bool p.queued] 29 ∧ Bx V g5 #[.string a2.agent, .string a2.off, .bool a2.open_, .string a2.base.loc, .string a2.base.off, .slice h2.b.an h2.b.nn h2.b.cn, .slice h2.b.ag h2.b.ng h2.b.cg, .slice h2.b.ap h2.b.np h2.b.cp, .int .i64 a2.base.tik.kind, .int .i64 a2.base.tik.day, .int .i64 a2.base.tik.min, .string a2.base.rc, .slice h2.b.ar h2.b.nr h2.b.cr, .slice h2.b.ae h2.b.ne h2.b.ce, .bool a2.base.queued, .int .u64 a2.ver, .slice h2.ad h2.nd h2.cd, .slice h2.al h2.nl h2.cl, .bool a2.working, .int .i64 a2.queue] 36 ∧ OA V W.heap.size a2 h2) ⟨below_setRow B6 (by omega) _, bx6.rowOther (by omega) _, b56.row _, o5.rowAt (by omega) _⟩ ?_
  clear bx6 b56 B6 o5
  rintro V ⟨B7, bx7, b57, o7⟩
  have hto : Took a2 p := by
    show foldF a2.base a2.edits = (p, a2.edits.length, 0)
    rw [hA2.out.2.2.1, hA2.out.2.1]
    rfl
  have HTO := Lib.hid hto
  have hsm2 : a2.small 1000 := ⟨by rw [hA2.out.2.2.1]; exact HSM.out, by rw [hA2.out.2.1]; simp, hA2.out.2.2.2.2⟩
  have HPN := Lib.hid (fun (W : World) (S : Nat → Prop) (s : AS W S a2 h2) (hS : ∀ b, S b → b < W.heap.size) => apnr_any a2 h2 W S s hS hsm2 p hto.pnr)
  have hsa := fun (W : World) (h' : Hd) (B : Nat) (o : OP W B p h') (hb : Below w.heap.size w W) => rsame_any p p h' hp W B W.heap.size 0 w.heap.size o.at (HPA.out.below hb (Nat.le_refl _)) (o.hd (HSM.out.mono (by omega))) HSh.out (Nat.le_refl _) hb.size
  simp only [eq_self, decide_true] at hsa
  have HSA := Lib.hid hsa
  clear hto hsm2 hsa
  have hd : Below V.heap.size V V.drew := (Below.refl _ _).drew
  have xd := (bx7.below hd bx7.lt).cells
  have ld := lda_of (b57.below hd b57.lt) rfl
  have z7 := bx7.lt
  have z8 := b57.lt
  go_region_held3 (fun w' => ((loadA (.pointer (some ⟨g5, 0, none⟩))).run Tryd.prog w' = .ok (.agg #[.string a2.agent, .string a2.off, .bool a2.open_, .string a2.base.loc, .string a2.base.off, .slice h2.b.an h2.b.nn h2.b.cn, .slice h2.b.ag h2.b.ng h2.b.cg, .slice h2.b.ap h2.b.np h2.b.cp, .int .i64 a2.base.tik.kind, .int .i64 a2.base.tik.day, .int .i64 a2.base.tik.min, .string a2.base.rc, .slice h2.b.ar h2.b.nr h2.b.cr, .slice h2.b.ae h2.b.ne h2.b.ce, .bool a2.base.queued, .int .u64 a2.ver, .slice h2.ad h2.nd h2.cd, .slice h2.al h2.nl h2.cl, .bool a2.working, .int .i64 a2.queue]) w') ∧ (∀ i : Nat, w'.cell? ⟨w.heap.size, i, none⟩ = (#[.string p.loc, .string p.off, .slice hp.an hp.nn hp.cn, .slice hp.ag hp.ng hp.cg, .slice hp.ap hp.np hp.cp, .int .i64 p.tik.kind, .int .i64 p.tik.day, .int .i64 p.tik.min, .string p.rc, .slice hp.ar hp.nr hp.cr, .slice hp.ae hp.ne hp.ce, .bool p.queued] : Array Value)[i]?)) (first | (with_reducible exact ⟨l2, k2⟩) | (with_reducible exact ⟨l1, k1⟩) | (with_reducible exact ⟨ld, xd⟩))
    (first
      | (go_at_call 11; refine (HPN.out _ _ (o7.keep hd).as (fun b hb => hb.2)).mono ?_; rintro en v1 ⟨h', rfl, p1, hv1⟩; have l1 := lda_of ((b57.below hd b57.lt).below hv1 b57.lt) rfl; have k1 := ((bx7.below hd bx7.lt).below hv1 bx7.lt).cells; have B8 := (B7.trans (hd.mono B7.size)).trans (hv1.mono B7.size))
      | (go_at_call 10; refine (HSA.out _ h' _ p1 B8).mono ?_; rintro en v2 ⟨rfl, hv2⟩; have l2 := lda_of (((b57.below hd b57.lt).below hv1 b57.lt).below hv2 (Nat.lt_of_lt_of_le b57.lt hv1.size)) rfl; have k2 := (((bx7.below hd bx7.lt).below hv1 bx7.lt).below hv2 (Nat.lt_of_lt_of_le bx7.lt hv1.size)).cells))
  have B9 := B8.trans (hv2.mono B8.size)
  have o9 := ((o7.keep hd).keep hv1).keep hv2
  have b59 := ((b57.below hd b57.lt).below hv1 b57.lt).below hv2 (Nat.lt_of_lt_of_le b57.lt hv1.size)
  have bx9 := ((bx7.below hd bx7.lt).below hv1 bx7.lt).below hv2 (Nat.lt_of_lt_of_le bx7.lt hv1.size)
  have s1 := hv1.size
  have s2 := hv2.size
  go_upto_region 12 with fail
  refine wp_world (RE w p hp g5 v2.heap.size a2 h2 p hp) ⟨B9.alloc B9.size _, bx9.alloc _, b59.alloc _, Bx.new v2 _ _, (o9.as.below ((Below.refl v2.heap.size v2).alloc (Nat.le_refl _) (.cells #[.string p.loc, .string p.off, .slice hp.an hp.nn hp.cn, .slice hp.ag hp.ng hp.cg, .slice hp.ap hp.np hp.cp, .int .i64 p.tik.kind, .int .i64 p.tik.day, .int .i64 p.tik.min, .string p.rc, .slice hp.ar hp.nr hp.cr, .slice hp.ae hp.ne hp.ce, .bool p.queued] 29)) (fun b h => h.2)).mono fun b h => ?_, PS.mono (PS.below (HP.out.below B9 (fun b hb => hb.2)) ((Below.refl _ _).alloc (Nat.le_refl _) (.cells #[.string p.loc, .string p.off, .slice hp.an hp.nn hp.cn, .slice hp.ag hp.ng hp.cg, .slice hp.ap hp.np hp.cp, .int .i64 p.tik.kind, .int .i64 p.tik.day, .int .i64 p.tik.min, .string p.rc, .slice hp.ar hp.nr hp.cr, .slice hp.ae hp.ne hp.ce, .bool p.queued] 29)) fun b hb => by have := B9.size; omega) fun b h => ?_, hz3, b59.lt⟩ ?_
  · have u1 := h.1
    have u2 := h.2
    exact ⟨by omega, by omega, by simp; omega⟩
  · have u1 := B9.size
    have u2 := h.2
    exact ⟨by omega, by omega, by simp; omega⟩
  clear B9 o9 b59 bx9 l1 k1 l2 k2 ld xd B7 B8 bx7 b57 o7 hv1 hv2 p1 s1 s2
  generalize v2.heap.size = g7
  intro U hR
  go_wp2
  go_loopw [8, 9, 10, 11, 12, 13] (fun m i _ _ _ _ wr => ∃ (k : Nat) (a : Ar) (h1 : AH) (q : Pnr) (hq : Hd), k ≤ n ∧ i = .int .i64 k ∧ m = .int .i64 a.edits.length ∧ Hid (Took a q ∧ a.base = p ∧ a.ver = 7 ∧ noOne a = false ∧ a.edits.length ≤ k ∧ a.legs.length ≤ 1000) ∧ RE w p hp g5 g7 a h1 q hq wr) (fun _ i _ _ _ _ _ => n - (intOf i).toNat)
  case atStart => exact ⟨0, a2, h2, p, hp, Nat.zero_le _, rfl, (by rw [hA2.out.2.1]; rfl), ⟨HTO.out, hA2.out.2.2.1, hA2.out.2.2.2.1, hA2.out.1, (by rw [hA2.out.2.1]; simp), hA2.out.2.2.2.2⟩, hR⟩
  case round =>
    clear hR
    obtain ⟨k, a, h1, q, hq, hk, rfl, rfl, HI, hR⟩ := hrel
    by_cases hlt : k < n
    · obtain ⟨b, o, x, rfl, e1, e2, hx, hok, c0, c1, c2, c3, c4, c5, c6, c7, c8, c9, c10, c11, c12, c13, c14, c15⟩ := HES.out.edit_ hlt
      have hC0 : C16 w b (o + k * 16) x := ⟨c0, c1, c2, c3, c4, c5, c6, c7, c8, c9, c10, c11, c12, c13, c14, c15⟩
      clear c0 c1 c2 c3 c4 c5 c6 c7 c8 c9 c10 c11 c12 c13 c14 c15
      have hC : C16 wr b (o + k * 16) x := C16.below hC0 hR.B e2
      have hk0 : (0 : Int) ≤ k := by omega
      have hkl : (k : Int) < n := by omega
      have hbs : b < wr.heap.size := by have := hR.B.size; omega
      have hqs : q.small 100000 := by
        have h5 := foldF_small9 a.edits a.base 1000 (by rw [HI.out.2.1]; exact HSM.out)
        rw [show foldF a.base a.edits = _ from HI.out.1] at h5
        exact h5.mono (by have := HI.out.2.2.2.2.1; omega)
      have HA := Lib.hid (fun (W : World) (S' : Nat → Prop) (h2 : PS W S' q hq) (h3 : ∀ b, S' b → b < W.heap.size) => rapply_any q hq x W S' h2 h3 hqs hok)
      generalize hr : applyF q x = r at HA
      have HR2 := Lib.hid hr
      clear hr hx hqs
      obtain ⟨q2, f2⟩ := r
      go_wp2
      have hRd := hR.drew
      have kd := hRd.b7.cells
      have hCd : C16 wr.drew b (o + k * 16) x := C16.keep hC fun _ => rfl
      have hRe := hRd.alloc (.cells #[.string ⟨#[]⟩, .string ⟨#[]⟩, .slice none 0 0, .slice none 0 0, .slice none 0 0, .int .i64 0, .int .i64 0, .int .i64 0, .string ⟨#[]⟩, .slice none 0 0, .slice none 0 0, .bool false] 29)
      have ke := hRe.b7.cells
      have hCe : C16 (wr.drew.alloc (.cells #[.string ⟨#[]⟩, .string ⟨#[]⟩, .slice none 0 0, .slice none 0 0, .slice none 0 0, .int .i64 0, .int .i64 0, .int .i64 0, .string ⟨#[]⟩, .slice none 0 0, .slice none 0 0, .bool false] 29)) b (o + k * 16) x := C16.below (B := wr.drew.heap.size) hCd ((Below.refl _ _).alloc (Nat.le_refl _) _) hbs
      have hbx0 : Bx (wr.drew.alloc (.cells #[.string ⟨#[]⟩, .string ⟨#[]⟩, .slice none 0 0, .slice none 0 0, .slice none 0 0, .int .i64 0, .int .i64 0, .int .i64 0, .string ⟨#[]⟩, .slice none 0 0, .slice none 0 0, .bool false] 29)) wr.heap.size #[.string ⟨#[]⟩, .string ⟨#[]⟩, .slice none 0 0, .slice none 0 0, .slice none 0 0, .int .i64 0, .int .i64 0, .int .i64 0, .string ⟨#[]⟩, .slice none 0 0, .slice none 0 0, .bool false] 29 := Bx.new wr.drew _ _
      have hz7 := hR.z7
      have hQe := PS.below (B := wr.drew.heap.size) hRd.Q ((Below.refl _ _).alloc (Nat.le_refl _) (.cells #[.string ⟨#[]⟩, .string ⟨#[]⟩, .slice none 0 0, .slice none 0 0, .slice none 0 0, .int .i64 0, .int .i64 0, .int .i64 0, .string ⟨#[]⟩, .slice none 0 0, .slice none 0 0, .bool false] 29)) (fun b hb => hb.2.2)
      go_cut [10, 11] (fun sA sB w' => ∃ g10 hq2, sA = .pointer (some ⟨g10, 0, none⟩) ∧ sB = .int .i64 f2 ∧ R10 w p hp g5 g7 a h1 q hq g10 q2 hq2 w')
      case first =>
        go_region_held3 (fun w' => (∀ i : Nat, w'.cell? ⟨g7, i, none⟩ = (#[.string q.loc, .string q.off, .slice hq.an hq.nn hq.cn, .slice hq.ag hq.ng hq.cg, .slice hq.ap hq.np hq.cp, .int .i64 q.tik.kind, .int .i64 q.tik.day, .int .i64 q.tik.min, .string q.rc, .slice hq.ar hq.nr hq.cr, .slice hq.ae hq.ne hq.ce, .bool q.queued] : Array Value)[i]?) ∧ (w'.cell? ⟨b, o + k * 16, none⟩ = some (.int .i64 x.kind) ∧ w'.cell? ⟨b, o + k * 16 + 1, none⟩ = some (.string x.nam.last) ∧ w'.cell? ⟨b, o + k * 16 + 2, none⟩ = some (.string x.nam.first) ∧ w'.cell? ⟨b, o + k * 16 + 3, none⟩ = some (.string x.seg.car) ∧ w'.cell? ⟨b, o + k * 16 + 4, none⟩ = some (.int .i64 x.seg.num) ∧ w'.cell? ⟨b, o + k * 16 + 5, none⟩ = some (.int .i64 x.seg.day) ∧ w'.cell? ⟨b, o + k * 16 + 6, none⟩ = some (.int .u8 x.seg.cls) ∧ w'.cell? ⟨b, o + k * 16 + 7, none⟩ = some (.bool x.seg.live) ∧ w'.cell? ⟨b, o + k * 16 + 8, none⟩ = some (.int .i64 x.tik.kind) ∧ w'.cell? ⟨b, o + k * 16 + 9, none⟩ = some (.int .i64 x.tik.day) ∧ w'.cell? ⟨b, o + k * 16 + 10, none⟩ = some (.int .i64 x.tik.min) ∧ w'.cell? ⟨b, o + k * 16 + 11, none⟩ = some (.string x.text) ∧ w'.cell? ⟨b, o + k * 16 + 12, none⟩ = some (.int .i64 x.n) ∧ w'.cell? ⟨b, o + k * 16 + 13, none⟩ = some (.int .i64 x.pax) ∧ w'.cell? ⟨b, o + k * 16 + 14, none⟩ = some (.int .i64 x.row) ∧ w'.cell? ⟨b, o + k * 16 + 15, none⟩ = some (.int .u8 x.let_))) (refine ⟨?_, ?_⟩ <;> first | ((repeat (with_reducible refine boxed_set ?_ _ (by first | omega | (simp; done) | (simp; omega)) _)); first | with_reducible exact k2 | with_reducible exact k2a _ | with_reducible exact kd | with_reducible exact ke | exact ke | exact k2a _) | (show C16 _ b (o + k * 16) x; (repeat (with_reducible refine C16.set ?_ (by first | omega | (simp; done) | (simp; omega)) _)); first | with_reducible exact hC2 | with_reducible exact kc2a _ | with_reducible exact hCd | with_reducible exact hCe | exact hCe | exact kc2a _))
          (first
            | (go_at_call 12; refine (HA.out wr.drew _ hRd.Q (fun b hb => hb.2.2)).mono ?_; rintro en w2 ⟨h2, rfl, p2, hb2⟩; have hR2 := hRd.step hb2; have hC2 : C16 w2 b (o + k * 16) x := C16.below hCd hb2 hbs; have hs2 := hb2.size; have hs3 : wr.heap.size ≤ w2.heap.size := hs2; have k2 := hR2.b7.cells; have k2a := fun t => (hR2.alloc t).b7.cells; have u4 := hR2.z7; have u5 : b < w2.heap.size := (by omega); have kc2a := fun t => C16.below (B := w2.heap.size) hC2 ((Below.refl _ _).alloc (Nat.le_refl _) t) u5)
            | (go_at_call 12; refine (HA.out (wr.drew.alloc (.cells #[.string ⟨#[]⟩, .string ⟨#[]⟩, .slice none 0 0, .slice none 0 0, .slice none 0 0, .int .i64 0, .int .i64 0, .int .i64 0, .string ⟨#[]⟩, .slice none 0 0, .slice none 0 0, .bool false] 29)) _ hQe (fun b hb => by have := hb.2.2; simp at this; simp; omega)).mono ?_; rintro en w2 ⟨h2, rfl, p2, hb2⟩; have hR2 := hRe.step hb2; have hC2 : C16 w2 b (o + k * 16) x := C16.below hCe hb2 (by simp; omega); have hbx2 := hbx0.below hb2 (by simp); have q1 := Bx.cells hbx2; have q2_ := Bx.free hbx2; have hs2 := hb2.size; have hs3 : wr.heap.size < w2.heap.size := (by simp at hs2; omega); have k2 := hR2.b7.cells; have k2a := fun t => (hR2.alloc t).b7.cells; have u4 := hR2.z7; have u5 : b < w2.heap.size := (by omega); have kc2a := fun t => C16.below (B := w2.heap.size) hC2 ((Below.refl _ _).alloc (Nat.le_refl _) t) u5))
        · have k10 := R10.of1 hRd hb2 p2 rfl
          generalize w2.alloc (.cells #[.string q2.loc, .string q2.off, .slice h2.an h2.nn h2.cn, .slice h2.ag h2.ng h2.cg, .slice h2.ap h2.np h2.cp, .int .i64 q2.tik.kind, .int .i64 q2.tik.day, .int .i64 q2.tik.min, .string q2.rc, .slice h2.ar h2.nr h2.cr, .slice h2.ae h2.ne h2.ce, .bool q2.queued] 29) = W9 at k10 ⊢
          go_wp2
          go_meet
          exact ⟨_, h2, rfl, rfl, k10⟩
        · rw [setAll12 hbx2 rfl]
          have k10 := R10.of2 hRd hb2 p2
          rw [show wr.drew.heap.size = wr.heap.size from rfl] at k10
          generalize w2.setRow wr.heap.size #[.string q2.loc, .string q2.off, .slice h2.an h2.nn h2.cn, .slice h2.ag h2.ng h2.cg, .slice h2.ap h2.np h2.cp, .int .i64 q2.tik.kind, .int .i64 q2.tik.day, .int .i64 q2.tik.min, .string q2.rc, .slice h2.ar h2.nr h2.cr, .slice h2.ae h2.ne h2.ce, .bool q2.queued] = W9 at k10 ⊢
          go_wp2
          go_meet
          exact ⟨_, h2, rfl, rfl, k10⟩
      case rest =>
        clear hC hR hRd kd hCd hRe ke hCe hbx0 hQe HA hbs hz7
        obtain ⟨g10, hq2, rfl, rfl, hT⟩ := hcut
        rename World => V
        have hsA : a.small 1000 := ⟨by rw [HI.out.2.1]; exact HSM.out, by have := HI.out.2.2.2.2.1; omega, HI.out.2.2.2.2.2⟩
        have HE := Lib.hid (fun (W : World) (S' : Nat → Prop) (h2 : AS W S' a h1) (h3 : ∀ b, S' b → b < W.heap.size) => edit_any a h1 x W S' h2 h3 hsA hok)
        generalize h3 : editF a x = r3 at HE
        obtain ⟨a3, e3⟩ := r3
        have HR3 := Lib.hid (ed_round HI.out.2.2.2.1 HI.out.1 h3 HR2.out)
        clear h3 hok
        go_wp2
        have hTd := hT.drew
        have hC : C16 V b (o + k * 16) x := C16.below hC0 hT.H.B e2
        have hCd : C16 V.drew b (o + k * 16) x := C16.keep hC fun _ => rfl
        have rd := hTd.H.b5
        have ld := lda_of rd rfl
        have hTe := hTd.alloc (.cells #[.string ⟨#[]⟩, .string ⟨#[]⟩, .bool false, .string ⟨#[]⟩, .string ⟨#[]⟩, .slice none 0 0, .slice none 0 0, .slice none 0 0, .int .i64 0, .int .i64 0, .int .i64 0, .string ⟨#[]⟩, .slice none 0 0, .slice none 0 0, .bool false, .int .u64 0, .slice none 0 0, .slice none 0 0, .bool false, .int .i64 0] 36)
        have re := hTe.H.b5
        have le := lda_of re rfl
        have hbs : b < V.heap.size := by have := hT.H.B.size; omega
        have hCe : C16 (V.drew.alloc (.cells #[.string ⟨#[]⟩, .string ⟨#[]⟩, .bool false, .string ⟨#[]⟩, .string ⟨#[]⟩, .slice none 0 0, .slice none 0 0, .slice none 0 0, .int .i64 0, .int .i64 0, .int .i64 0, .string ⟨#[]⟩, .slice none 0 0, .slice none 0 0, .bool false, .int .u64 0, .slice none 0 0, .slice none 0 0, .bool false, .int .i64 0] 36)) b (o + k * 16) x := C16.below (B := V.drew.heap.size) hCd ((Below.refl _ _).alloc (Nat.le_refl _) _) hbs
        have hbx0 : Bx (V.drew.alloc (.cells #[.string ⟨#[]⟩, .string ⟨#[]⟩, .bool false, .string ⟨#[]⟩, .string ⟨#[]⟩, .slice none 0 0, .slice none 0 0, .slice none 0 0, .int .i64 0, .int .i64 0, .int .i64 0, .string ⟨#[]⟩, .slice none 0 0, .slice none 0 0, .bool false, .int .u64 0, .slice none 0 0, .slice none 0 0, .bool false, .int .i64 0] 36)) V.heap.size #[.string ⟨#[]⟩, .string ⟨#[]⟩, .bool false, .string ⟨#[]⟩, .string ⟨#[]⟩, .slice none 0 0, .slice none 0 0, .slice none 0 0, .int .i64 0, .int .i64 0, .int .i64 0, .string ⟨#[]⟩, .slice none 0 0, .slice none 0 0, .bool false, .int .u64 0, .slice none 0 0, .slice none 0 0, .bool false, .int .i64 0] 36 := Bx.new V.drew _ _
        have hz := hT.b10.lt
        have hz10 := hT.z10
        have hz5 := hT.H.z5
        go_cut [12, 13] (fun sA sB w' => ∃ g12 h3, sA = .pointer (some ⟨g12, 0, none⟩) ∧ sB = .int .i64 e3 ∧ R12 w p hp g5 g7 a h1 q hq g10 q2 hq2 g12 a3 h3 w')
        case first =>
          go_region_held3 (fun w' => ((loadA (.pointer (some ⟨g5, 0, none⟩))).run Tryd.prog w' = .ok (.agg #[.string a.agent, .string a.off, .bool a.open_, .string a.base.loc, .string a.base.off, .slice h1.b.an h1.b.nn h1.b.cn, .slice h1.b.ag h1.b.ng h1.b.cg, .slice h1.b.ap h1.b.np h1.b.cp, .int .i64 a.base.tik.kind, .int .i64 a.base.tik.day, .int .i64 a.base.tik.min, .string a.base.rc, .slice h1.b.ar h1.b.nr h1.b.cr, .slice h1.b.ae h1.b.ne h1.b.ce, .bool a.base.queued, .int .u64 a.ver, .slice h1.ad h1.nd h1.cd, .slice h1.al h1.nl h1.cl, .bool a.working, .int .i64 a.queue]) w') ∧ (w'.cell? ⟨b, o + k * 16, none⟩ = some (.int .i64 x.kind) ∧ w'.cell? ⟨b, o + k * 16 + 1, none⟩ = some (.string x.nam.last) ∧ w'.cell? ⟨b, o + k * 16 + 2, none⟩ = some (.string x.nam.first) ∧ w'.cell? ⟨b, o + k * 16 + 3, none⟩ = some (.string x.seg.car) ∧ w'.cell? ⟨b, o + k * 16 + 4, none⟩ = some (.int .i64 x.seg.num) ∧ w'.cell? ⟨b, o + k * 16 + 5, none⟩ = some (.int .i64 x.seg.day) ∧ w'.cell? ⟨b, o + k * 16 + 6, none⟩ = some (.int .u8 x.seg.cls) ∧ w'.cell? ⟨b, o + k * 16 + 7, none⟩ = some (.bool x.seg.live) ∧ w'.cell? ⟨b, o + k * 16 + 8, none⟩ = some (.int .i64 x.tik.kind) ∧ w'.cell? ⟨b, o + k * 16 + 9, none⟩ = some (.int .i64 x.tik.day) ∧ w'.cell? ⟨b, o + k * 16 + 10, none⟩ = some (.int .i64 x.tik.min) ∧ w'.cell? ⟨b, o + k * 16 + 11, none⟩ = some (.string x.text) ∧ w'.cell? ⟨b, o + k * 16 + 12, none⟩ = some (.int .i64 x.n) ∧ w'.cell? ⟨b, o + k * 16 + 13, none⟩ = some (.int .i64 x.pax) ∧ w'.cell? ⟨b, o + k * 16 + 14, none⟩ = some (.int .i64 x.row) ∧ w'.cell? ⟨b, o + k * 16 + 15, none⟩ = some (.int .u8 x.let_))) (refine ⟨?_, ?_⟩ <;> first | (refine lda_of ?_ rfl; (repeat (with_reducible refine Bx.rowOther ?_ (by first | omega | (simp; done) | (simp; omega)) _)); first | with_reducible exact r2 | with_reducible exact r2a _ | with_reducible exact rd | with_reducible exact re | exact re | exact r2a _) | (show C16 _ b (o + k * 16) x; (repeat (with_reducible refine C16.row ?_ (by first | omega | (simp; done) | (simp; omega)) _)); first | with_reducible exact hC2 | with_reducible exact kc2a _ | with_reducible exact hCd | with_reducible exact hCe | exact hCe | exact kc2a _))
            (first
              | (go_at_call 13; refine (HE.out V.drew _ hTd.H.A (fun b hb => hb.2.2)).mono ?_; rintro en w2 ⟨h3, rfl, o3, hb2⟩; have hT2 := hTd.step hb2; have hC2 : C16 w2 b (o + k * 16) x := C16.below hCd hb2 hbs; have hs2 := hb2.size; have hs3 : V.heap.size ≤ w2.heap.size := hs2; have r2 := hT2.H.b5; have r2a := fun t => (hT2.alloc t).H.b5; have u5 : b < w2.heap.size := (by omega); have kc2a := fun t => C16.below (B := w2.heap.size) hC2 ((Below.refl _ _).alloc (Nat.le_refl _) t) u5; have sn := sta_new w2 (cs := #[.string a3.agent, .string a3.off, .bool a3.open_, .string a3.base.loc, .string a3.base.off, .slice h3.b.an h3.b.nn h3.b.cn, .slice h3.b.ag h3.b.ng h3.b.cg, .slice h3.b.ap h3.b.np h3.b.cp, .int .i64 a3.base.tik.kind, .int .i64 a3.base.tik.day, .int .i64 a3.base.tik.min, .string a3.base.rc, .slice h3.b.ar h3.b.nr h3.b.cr, .slice h3.b.ae h3.b.ne h3.b.ce, .bool a3.base.queued, .int .u64 a3.ver, .slice h3.ad h3.nd h3.cd, .slice h3.al h3.nl h3.cl, .bool a3.working, .int .i64 a3.queue]) (zs := #[.string ⟨#[]⟩, .string ⟨#[]⟩, .bool false, .string ⟨#[]⟩, .string ⟨#[]⟩, .slice none 0 0, .slice none 0 0, .slice none 0 0, .int .i64 0, .int .i64 0, .int .i64 0, .string ⟨#[]⟩, .slice none 0 0, .slice none 0 0, .bool false, .int .u64 0, .slice none 0 0, .slice none 0 0, .bool false, .int .i64 0]) rfl rfl (by simp [Value.oneCell']))
              | (go_at_call 13; refine (HE.out (V.drew.alloc (.cells #[.string ⟨#[]⟩, .string ⟨#[]⟩, .bool false, .string ⟨#[]⟩, .string ⟨#[]⟩, .slice none 0 0, .slice none 0 0, .slice none 0 0, .int .i64 0, .int .i64 0, .int .i64 0, .string ⟨#[]⟩, .slice none 0 0, .slice none 0 0, .bool false, .int .u64 0, .slice none 0 0, .slice none 0 0, .bool false, .int .i64 0] 36)) _ hTe.H.A (fun b hb => hb.2.2)).mono ?_; rintro en w2 ⟨h3, rfl, o3, hb2⟩; have hT2 := hTe.step hb2; have hC2 : C16 w2 b (o + k * 16) x := C16.below hCe hb2 (by simp; omega); have hbx2 := hbx0.below hb2 (by simp); have hs2 := hb2.size; have hs3 : V.heap.size < w2.heap.size := (by simp at hs2; omega); have r2 := hT2.H.b5; have r2a := fun t => (hT2.alloc t).H.b5; have u5 : b < w2.heap.size := (by omega); have kc2a := fun t => C16.below (B := w2.heap.size) hC2 ((Below.refl _ _).alloc (Nat.le_refl _) t) u5; have sn := sta_of (cs := #[.string a3.agent, .string a3.off, .bool a3.open_, .string a3.base.loc, .string a3.base.off, .slice h3.b.an h3.b.nn h3.b.cn, .slice h3.b.ag h3.b.ng h3.b.cg, .slice h3.b.ap h3.b.np h3.b.cp, .int .i64 a3.base.tik.kind, .int .i64 a3.base.tik.day, .int .i64 a3.base.tik.min, .string a3.base.rc, .slice h3.b.ar h3.b.nr h3.b.cr, .slice h3.b.ae h3.b.ne h3.b.ce, .bool a3.base.queued, .int .u64 a3.ver, .slice h3.ad h3.nd h3.cd, .slice h3.al h3.nl h3.cl, .bool a3.working, .int .i64 a3.queue]) hbx2 rfl rfl (by simp [Value.oneCell'])))
          · have k12 := R12.of1 hTd hb2 o3
            generalize w2.alloc (.cells #[.string a3.agent, .string a3.off, .bool a3.open_, .string a3.base.loc, .string a3.base.off, .slice h3.b.an h3.b.nn h3.b.cn, .slice h3.b.ag h3.b.ng h3.b.cg, .slice h3.b.ap h3.b.np h3.b.cp, .int .i64 a3.base.tik.kind, .int .i64 a3.base.tik.day, .int .i64 a3.base.tik.min, .string a3.base.rc, .slice h3.b.ar h3.b.nr h3.b.cr, .slice h3.b.ae h3.b.ne h3.b.ce, .bool a3.base.queued, .int .u64 a3.ver, .slice h3.ad h3.nd h3.cd, .slice h3.al h3.nl h3.cl, .bool a3.working, .int .i64 a3.queue] 36) = W9 at k12 ⊢
            go_wp2
            go_meet
            exact ⟨_, h3, rfl, rfl, k12⟩
          · have k12 := R12.of2 hTd hb2 (by have q := o3; rw [World.size_alloc] at q; exact q)
            rw [show V.drew.heap.size = V.heap.size from rfl] at k12
            generalize w2.setRow V.heap.size #[.string a3.agent, .string a3.off, .bool a3.open_, .string a3.base.loc, .string a3.base.off, .slice h3.b.an h3.b.nn h3.b.cn, .slice h3.b.ag h3.b.ng h3.b.cg, .slice h3.b.ap h3.b.np h3.b.cp, .int .i64 a3.base.tik.kind, .int .i64 a3.base.tik.day, .int .i64 a3.base.tik.min, .string a3.base.rc, .slice h3.b.ar h3.b.nr h3.b.cr, .slice h3.b.ae h3.b.ne h3.b.ce, .bool a3.base.queued, .int .u64 a3.ver, .slice h3.ad h3.nd h3.cd, .slice h3.al h3.nl h3.cl, .bool a3.working, .int .i64 a3.queue] = W9 at k12 ⊢
            go_wp2
            go_meet
            exact ⟨_, h3, rfl, rfl, k12⟩
        case rest =>
          clear hC hT hTd hCd rd ld hTe re le hbs hCe hbx0 hz hz10 hz5 HE
          obtain ⟨g12, h3, rfl, rfl, hU⟩ := hcut
          rename World => V2
          by_cases hm : 100 ≤ a.edits.length
          · obtain rfl := HR3.out.1 hm
            have hm1 : (100 : Int) ≤ a.edits.length := by omega
            clear hm
            go_wp2
            exact ⟨⟨k + 1, a, h1, q, hq, by omega, by go_num, rfl, ⟨HI.out.1, HI.out.2.1, HI.out.2.2.1, HI.out.2.2.2.1, by have := HI.out.2.2.2.2.1; omega, HI.out.2.2.2.2.2⟩, hU.H.H⟩, by simp [intOf]; omega⟩
          · have he : e3 = f2 := by
              by_cases h0 : f2 = 0
              · exact (HR3.out.2.2 (by omega) h0).1.trans h0.symm
              · exact HR3.out.2.1 (by omega) h0
            subst he
            have hm1 : ¬ (100 : Int) ≤ a.edits.length := by omega
            go_upto_if 81 with fail
            go_cut [8] (fun m w' => ∃ a4 h4 q4 hq4, m = .int .i64 h4.nd ∧ Hid (Took a4 q4 ∧ a4.base = p ∧ a4.ver = 7 ∧ noOne a4 = false ∧ a4.edits.length ≤ k + 1 ∧ a4.legs.length ≤ 1000) ∧ RE w p hp g5 g7 a4 h4 q4 hq4 w')
            case first =>
              by_cases h0 : e3 = 0
              · subst h0
                have HE3 := Lib.hid (HR3.out.2.2 (by omega) rfl)
                clear hm
                go_wp2
                have hUd := hU.H.H.drew
                have b5d := hUd.b5
                have b7d := hUd.b7
                have b10d := hU.H.b10.below (w1 := V2.drew) ((Below.refl V2.heap.size _).drew) hU.H.b10.lt
                have b12d := hU.b12.below (w1 := V2.drew) ((Below.refl V2.heap.size _).drew) hU.b12.lt
                have l12 := lda_of b12d rfl
                have k10 := b10d.cells
                have z5 := hUd.z5
                have z10 := hU.H.z10
                have z12 := hU.z12
                have f7 := b7d.free
                have st5 := sta_of (cs := #[.string a3.agent, .string a3.off, .bool a3.open_, .string a3.base.loc, .string a3.base.off, .slice h3.b.an h3.b.nn h3.b.cn, .slice h3.b.ag h3.b.ng h3.b.cg, .slice h3.b.ap h3.b.np h3.b.cp, .int .i64 a3.base.tik.kind, .int .i64 a3.base.tik.day, .int .i64 a3.base.tik.min, .string a3.base.rc, .slice h3.b.ar h3.b.nr h3.b.cr, .slice h3.b.ae h3.b.ne h3.b.ce, .bool a3.base.queued, .int .u64 a3.ver, .slice h3.ad h3.nd h3.cd, .slice h3.al h3.nl h3.cl, .bool a3.working, .int .i64 a3.queue]) b5d rfl rfl (by simp [Value.oneCell'])
                have c7 := b7d.cells
                have st6 := sta_of (cs := #[.string a3.agent, .string a3.off, .bool a3.open_, .string a3.base.loc, .string a3.base.off, .slice h3.b.an h3.b.nn h3.b.cn, .slice h3.b.ag h3.b.ng h3.b.cg, .slice h3.b.ap h3.b.np h3.b.cp, .int .i64 a3.base.tik.kind, .int .i64 a3.base.tik.day, .int .i64 a3.base.tik.min, .string a3.base.rc, .slice h3.b.ar h3.b.nr h3.b.cr, .slice h3.b.ae h3.b.ne h3.b.ce, .bool a3.base.queued, .int .u64 a3.ver, .slice h3.ad h3.nd h3.cd, .slice h3.al h3.nl h3.cl, .bool a3.working, .int .i64 a3.queue]) (b5d.set12 (show g5 ≠ g7 by omega) (.string q2.loc) (.string q2.off) (.slice hq2.an hq2.nn hq2.cn) (.slice hq2.ag hq2.ng hq2.cg) (.slice hq2.ap hq2.np hq2.cp) (.int .i64 q2.tik.kind) (.int .i64 q2.tik.day) (.int .i64 q2.tik.min) (.string q2.rc) (.slice hq2.ar hq2.nr hq2.cr) (.slice hq2.ae hq2.ne hq2.ce) (.bool q2.queued)) rfl rfl (by simp [Value.oneCell'])
                have A3 := hU.A2
                have Q3 := hU.H.Q2.mono (S' := fun b => b ≠ g5 ∧ b ≠ g7 ∧ b < V2.heap.size) (fun b hb => ⟨hb.1, hb.2.1, hb.2.2.2⟩)
                have b7e := b7d.rowOther (show g7 ≠ g5 by omega) #[.string a3.agent, .string a3.off, .bool a3.open_, .string a3.base.loc, .string a3.base.off, .slice h3.b.an h3.b.nn h3.b.cn, .slice h3.b.ag h3.b.ng h3.b.cg, .slice h3.b.ap h3.b.np h3.b.cp, .int .i64 a3.base.tik.kind, .int .i64 a3.base.tik.day, .int .i64 a3.base.tik.min, .string a3.base.rc, .slice h3.b.ar h3.b.nr h3.b.cr, .slice h3.b.ae h3.b.ne h3.b.ce, .bool a3.base.queued, .int .u64 a3.ver, .slice h3.ad h3.nd h3.cd, .slice h3.al h3.nl h3.cl, .bool a3.working, .int .i64 a3.queue]
                have f7e := b7e.free
                have c7e := b7e.cells
                have b10e := b10d.rowOther (show g10 ≠ g5 by omega) #[.string a3.agent, .string a3.off, .bool a3.open_, .string a3.base.loc, .string a3.base.off, .slice h3.b.an h3.b.nn h3.b.cn, .slice h3.b.ag h3.b.ng h3.b.cg, .slice h3.b.ap h3.b.np h3.b.cp, .int .i64 a3.base.tik.kind, .int .i64 a3.base.tik.day, .int .i64 a3.base.tik.min, .string a3.base.rc, .slice h3.b.ar h3.b.nr h3.b.cr, .slice h3.b.ae h3.b.ne h3.b.ce, .bool a3.base.queued, .int .u64 a3.ver, .slice h3.ad h3.nd h3.cd, .slice h3.al h3.nl h3.cl, .bool a3.working, .int .i64 a3.queue]
                have k10e := b10e.cells
                have b12f := b12d.set12 (show g12 ≠ g7 by omega) (.string q2.loc) (.string q2.off) (.slice hq2.an hq2.nn hq2.cn) (.slice hq2.ag hq2.ng hq2.cg) (.slice hq2.ap hq2.np hq2.cp) (.int .i64 q2.tik.kind) (.int .i64 q2.tik.day) (.int .i64 q2.tik.min) (.string q2.rc) (.slice hq2.ar hq2.nr hq2.cr) (.slice hq2.ae hq2.ne hq2.ce) (.bool q2.queued)
                have l12f := lda_of b12f rfl
                go_region
                rw [setAll12 b7e rfl]
                have hT := hUd.turn (A3.keep fun _ _ => rfl) (Q3.keep fun _ _ => rfl)
                have HT := Lib.hid hT
                have hnd : h3.nd = a.edits.length + 1 := by rw [← A3.edits.len]; exact HE3.out.2.2.2.2.2.1
                have HND := Lib.hid hnd
                have hel : (a.edits.length : Int) < 100 := by omega
                clear hUd b5d b7d b10d b12d l12 k10 f7 st5 c7 st6 A3 Q3 b7e f7e c7e b10e k10e b12f l12f hT hnd
                go_wp2
                go_meet
                exact ⟨a3, h3, q2, hq2, (by rw [HND.out]; go_num), ⟨HE3.out.2.1, HE3.out.2.2.1.trans HI.out.2.1, HE3.out.2.2.2.1.trans HI.out.2.2.1, HE3.out.2.2.2.2.1, by have := HI.out.2.2.2.2.1; have := HE3.out.2.2.2.2.2.1; omega, by rw [HE3.out.2.2.2.2.2.2]; exact HI.out.2.2.2.2.2⟩, HT.out⟩
              · clear hm
                have hne : (e3 == 0) = false := by rw [beq_eq_false_iff_ne]; exact h0
                go_wp2
                go_meet
                exact ⟨a, h1, q, hq, (by rw [hU.H.H.A.edits.len]), ⟨HI.out.1, HI.out.2.1, HI.out.2.2.1, HI.out.2.2.2.1, by have := HI.out.2.2.2.2.1; omega, HI.out.2.2.2.2.2⟩, hU.H.H⟩
            case rest =>
              clear hU
              obtain ⟨a4, h4, q4, hq4, rfl, HI4, hR⟩ := hcut
              go_wp2
              rename World => V3
              have hv7 : (a4.ver != 7) = false := by rw [HI4.out.2.2.1]; rfl
              have hsm4 : a4.small 1000 := ⟨by rw [HI4.out.2.1]; exact HSM.out, by have := HI4.out.2.2.2.2.1; omega, HI4.out.2.2.2.2.2⟩
              have HPN4 := Lib.hid (fun (W : World) (S : Nat → Prop) (s : AS W S a4 h4) (hS : ∀ b, S b → b < W.heap.size) => apnr_any a4 h4 W S s hS hsm4 q4 HI4.out.1.pnr)
              have hq4s : q4.small 100000 := by
                have h5 := foldF_small9 a4.edits a4.base 1000 (by rw [HI4.out.2.1]; exact HSM.out)
                rw [show foldF a4.base a4.edits = _ from HI4.out.1] at h5
                exact h5.mono (by have := HI4.out.2.2.2.2.1; omega)
              have HQ4 := Lib.hid hq4s
              have hps9 : p.small 100000 := HSM.out.mono (by omega)
              have HP9 := Lib.hid hps9
              clear hsm4 hq4s hps9
              have hRd := hR.drew
              have k5 := hRd.b5.cells
              have k7 := hRd.b7.cells
              have kp := hRd.bp.cells
              have l5 := lda_of hRd.b5 rfl
              go_region_held3 (fun w' => ((loadA (.pointer (some ⟨g5, 0, none⟩))).run Tryd.prog w' = .ok (.agg #[.string a4.agent, .string a4.off, .bool a4.open_, .string a4.base.loc, .string a4.base.off, .slice h4.b.an h4.b.nn h4.b.cn, .slice h4.b.ag h4.b.ng h4.b.cg, .slice h4.b.ap h4.b.np h4.b.cp, .int .i64 a4.base.tik.kind, .int .i64 a4.base.tik.day, .int .i64 a4.base.tik.min, .string a4.base.rc, .slice h4.b.ar h4.b.nr h4.b.cr, .slice h4.b.ae h4.b.ne h4.b.ce, .bool a4.base.queued, .int .u64 a4.ver, .slice h4.ad h4.nd h4.cd, .slice h4.al h4.nl h4.cl, .bool a4.working, .int .i64 a4.queue]) w') ∧ (∀ i : Nat, w'.cell? ⟨g7, i, none⟩ = (#[.string q4.loc, .string q4.off, .slice hq4.an hq4.nn hq4.cn, .slice hq4.ag hq4.ng hq4.cg, .slice hq4.ap hq4.np hq4.cp, .int .i64 q4.tik.kind, .int .i64 q4.tik.day, .int .i64 q4.tik.min, .string q4.rc, .slice hq4.ar hq4.nr hq4.cr, .slice hq4.ae hq4.ne hq4.ce, .bool q4.queued] : Array Value)[i]?) ∧ (∀ i : Nat, w'.cell? ⟨g5, i, none⟩ = (#[.string a4.agent, .string a4.off, .bool a4.open_, .string a4.base.loc, .string a4.base.off, .slice h4.b.an h4.b.nn h4.b.cn, .slice h4.b.ag h4.b.ng h4.b.cg, .slice h4.b.ap h4.b.np h4.b.cp, .int .i64 a4.base.tik.kind, .int .i64 a4.base.tik.day, .int .i64 a4.base.tik.min, .string a4.base.rc, .slice h4.b.ar h4.b.nr h4.b.cr, .slice h4.b.ae h4.b.ne h4.b.ce, .bool a4.base.queued, .int .u64 a4.ver, .slice h4.ad h4.nd h4.cd, .slice h4.al h4.nl h4.cl, .bool a4.working, .int .i64 a4.queue] : Array Value)[i]?) ∧ (∀ i : Nat, w'.cell? ⟨w.heap.size, i, none⟩ = (#[.string p.loc, .string p.off, .slice hp.an hp.nn hp.cn, .slice hp.ag hp.ng hp.cg, .slice hp.ap hp.np hp.cp, .int .i64 p.tik.kind, .int .i64 p.tik.day, .int .i64 p.tik.min, .string p.rc, .slice hp.ar hp.nr hp.cr, .slice hp.ae hp.ne hp.ce, .bool p.queued] : Array Value)[i]?)) (first | (with_reducible exact ⟨l53, k73, k53, kp3⟩) | (with_reducible exact ⟨l52, k72, k52, kp2⟩) | (with_reducible exact ⟨l51, k71, k51, kp1⟩) | (with_reducible exact ⟨l5, k7, k5, kp⟩))
                (first
                  | (go_at_call 11; refine (HPN4.out _ _ hRd.A (fun b hb => hb.2.2)).mono ?_; rintro en v1 ⟨h', rfl, p1, hv1⟩; have hR1 := hRd.step hv1; have l51 := lda_of hR1.b5 rfl; have k51 := hR1.b5.cells; have k71 := hR1.b7.cells; have kp1 := hR1.bp.cells; have tok1 : True := trivial)
                  | (have _t := tok1; go_at_call 10; refine (psame q4 h' hq4 v1 _ _ p1.ps hR1.Q (fun b hb => hb.2) (fun b hb => hb.2.2) HQ4.out).mono ?_; rintro en v2 ⟨rfl, hv2⟩; clear tok1; have hR2 := hR1.step hv2; have l52 := lda_of hR2.b5 rfl; have k52 := hR2.b5.cells; have k72 := hR2.b7.cells; have kp2 := hR2.bp.cells)
                  | (go_at_call 10; refine (psame2 HI4.out.2.1 h4.b hp v2 _ _ hR2.A.base (HP.out.below hR2.B (fun b hb => hb.2)) (fun b hb => hb.2.2) (fun b hb => Nat.lt_of_lt_of_le hb.2 hR2.B.size) HP9.out).mono ?_; rintro en v3 ⟨rfl, hv3⟩; have hR3 := hR2.step hv3; have l53 := lda_of hR3.b5 rfl; have k53 := hR3.b5.cells; have k73 := hR3.b7.cells; have kp3 := hR3.bp.cells))
              all_goals
                go_wp2
                exact ⟨⟨k + 1, a4, h4, q4, hq4, by omega, by go_num, (by rw [← hR3.A.edits.len]), HI4, hR3⟩, by simp [intOf]; omega⟩
    · obtain rfl : n = k := by omega
      go_wp2
      go_ret
      exact ⟨rfl, hR.B⟩
theorem areaEdits_any (p : Pnr) (hp : Hd) (es : List Edit) (A : Option Addr) (n c : Nat) (w : World) (hpp : PAt w 0 w.heap.size p hp) (hc : Caps hp) (hes : Sl w 0 w.heap.size tEdit A n es) :
    Calls Tryd.prog 3 #[.agg #[.string p.loc, .string p.off, .slice hp.an hp.nn hp.cn, .slice hp.ag hp.ng hp.cg, .slice hp.ap hp.np hp.cp, .int .i64 p.tik.kind, .int .i64 p.tik.day, .int .i64 p.tik.min, .string p.rc, .slice hp.ar hp.nr hp.cr, .slice hp.ae hp.ne hp.ce, .bool p.queued], .slice A n c] w (RetB w true) := by
  rcases Bool.eq_false_or_eq_true (smallB hp) with hsb | hsb
  · by_cases hn : 120 < n
    · exact ae_early p hp A n c w (.inr ⟨hsb, hn⟩)
    · exact ae_main p hp es A n c w hpp hc hes hsb (by omega)
  · exact ae_early p hp A n c w (.inl hsb)
end Go.Proofs.YtfbalabmidobeaaDoor
