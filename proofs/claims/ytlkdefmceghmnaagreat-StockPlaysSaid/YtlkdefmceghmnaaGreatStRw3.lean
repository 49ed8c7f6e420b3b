/- The document's order of legs, Put, Legs; the law's Legs. By program. -/
import Derived.Test.YtlkdefmceghmnaaGreatStPlay
namespace Go.Proofs.YtlkdefmceghmnaaGreat
set_option linter.unusedVariables false
open Go Go.RowKit Go.Sort
theorem ltG_key {a b : Leg} (h : a.key ≠ b.key) : ltG a b = (ltS a.key.car b.key.car || (eqTx a.key.car b.key.car && decide (a.key.num < b.key.num))) := by
  have h2 : ¬ (a.key.car = b.key.car ∧ a.key.num = b.key.num) := fun e => h (by cases ha : a.key; cases hb : b.key; rw [ha, hb] at e; simp_all)
  unfold ltG
  rw [Bool.eq_iff_iff, ltY_iff, ltX_iff]
  unfold eqTx
  simp
  constructor
  · rintro (h3 | ⟨h3, h4 | ⟨h4, _⟩⟩)
    · exact .inl h3
    · exact .inr ⟨h3, h4⟩
    · exact absurd ⟨h3, h4⟩ h2
  · rintro (h3 | ⟨h3, h4⟩)
    · exact .inl h3
    · exact .inr ⟨h3, .inl h4⟩
theorem ltG_day {a b : Leg} (h : a.key = b.key) : ltG a b = decide (a.day < b.day) := by
  unfold ltG
  rw [Bool.eq_iff_iff, ltY_iff, ltX_iff, ltX_iff, h, ltS_irr]
  simp [ltNo]
set_option maxRecDepth 100000 in
set_option maxHeartbeats 2000000 in
theorem rahead_is (a b : Leg) {q : Bool} (hq : ltG a b = q) (w : World) :
    Calls Tryz.prog 95 #[.agg #[.string a.key.car, .int .i64 a.key.num, .int .i64 a.day], .agg #[.string b.key.car, .int .i64 b.key.num, .int .i64 b.day]] w fun e w' => e = .returned (.bool q) ∧ Below w.heap.size w w' := by
  have HKE := Lib.hid (@ltG_key a b)
  have HDA := Lib.hid (@ltG_day a b)
  have HQ := Lib.hid hq
  have hdec : (decide (a.key.car = b.key.car) && (decide (a.key.num = b.key.num))) = decide (a.key = b.key) := by
    obtain ⟨⟨x, y⟩, _⟩ := a
    obtain ⟨⟨x', y'⟩, _⟩ := b
    rw [Bool.eq_iff_iff]; simp
  have hk := fun u => neq_key a.key.car b.key.car a.key.num b.key.num u
  rw [hdec] at hk
  obtain ⟨⟨ac, an⟩, ad⟩ := a
  obtain ⟨⟨bc, bn⟩, bd⟩ := b
  dsimp only at hk ⊢
  have HB : (Bx ((w.alloc (.cells #[.string ac, .int .i64 an, .int .i64 ad] 27)).alloc (.cells #[.string bc, .int .i64 bn, .int .i64 bd] 27)) w.heap.size #[.string ac, .int .i64 an, .int .i64 ad] 27 ∧ Bx ((w.alloc (.cells #[.string ac, .int .i64 an, .int .i64 ad] 27)).alloc (.cells #[.string bc, .int .i64 bn, .int .i64 bd] 27)) (w.heap.size + 1) #[.string bc, .int .i64 bn, .int .i64 bd] 27) ∧ Below w.heap.size w ((w.alloc (.cells #[.string ac, .int .i64 an, .int .i64 ad] 27)).alloc (.cells #[.string bc, .int .i64 bn, .int .i64 bd] 27)) := by
    have h := two_boxes w #[.string ac, .int .i64 an, .int .i64 ad] #[.string bc, .int .i64 bn, .int .i64 bd] 27 27
    exact ⟨⟨h.1, h.2.1⟩, h.2.2.below⟩
  have e1 := eqTx_l ac bc
  have e2 : Op.bytesLess ac.toList bc.toList = ltS ac bc := rfl
  clear hq hdec
  go_enter Tryz.func95, Tryz.ntmps95
  go_upto_region 1 with fail
  refine wp_world (fun V => (Bx V w.heap.size #[.string ac, .int .i64 an, .int .i64 ad] 27 ∧ Bx V (w.heap.size + 1) #[.string bc, .int .i64 bn, .int .i64 bd] 27) ∧ Below w.heap.size w V) HB ?_
  clear HB
  rintro V ⟨⟨b1, b2⟩, hb⟩
  have c1 := b1.cells
  have c2 := b2.cells
  by_cases hkk : (⟨ac, an⟩ : Key) = ⟨bc, bn⟩
  · have HE := Lib.hid ((HDA.out hkk).symm.trans HQ.out)
    rw [decide_eq_true hkk] at hk
    clear hkk HKE HDA
    dsimp only at HE
    go_wp2
    go_ret
    exact ⟨ret_bool HE.out, hb⟩
  · have HE := Lib.hid ((HKE.out hkk).symm.trans HQ.out)
    rw [decide_eq_false hkk] at hk
    clear hkk HKE HDA
    dsimp only at HE
    generalize ltS ac bc = q1 at e2 HE
    generalize eqTx ac bc = q2 at e1 HE
    rcases q1 with _ | _
    · rcases q2 with _ | _
      · go_wp2
        go_ret
        exact ⟨ret_bool (by rw [← HE.out]; rfl), hb⟩
      · go_wp2
        go_ret
        exact ⟨ret_bool (by rw [← HE.out]; rfl), hb⟩
    · go_wp2
      go_ret
      exact ⟨ret_bool (by rw [← HE.out]; rfl), hb⟩
set_option maxRecDepth 100000 in
set_option maxHeartbeats 8000000 in
theorem rPut_any (l : List Leg) (A : Option Addr) (n c : Nat) (g : Leg) (w : World) (lo hi : Nat) (hs : Sl w lo hi tLeg A n l) (hg : g.ok) (hn : n ≤ 100000) (hhi : hi ≤ w.heap.size) :
    Calls Tryz.prog 60 #[.slice A n c, .agg #[.string g.key.car, .int .i64 g.key.num, .int .i64 g.day]] w (RetOwn w 27 tLeg (puG g l)) := by
  have HS := Lib.hid hs
  have HL := Lib.hid hs.len
  have HG := Lib.hid hg
  obtain ⟨⟨kc, kn⟩, d⟩ := g
  dsimp only
  have HB := BB.start w #[.string kc, .int .i64 kn, .int .i64 d] 27
  clear hs hg
  go_enter Tryz.func60, Tryz.ntmps60
  go_upto_region 1 with fail
  refine wp_world (BB w #[.string kc, .int .i64 kn, .int .i64 d] 27) HB ?_
  clear HB
  intro W hG
  go_wp2
  go_loopw [5, 6, 7] (fun v dn i wr => ∃ (k : Nat) (q : Bool) (out : List Leg), k ≤ n ∧ i = .int .i64 k ∧ dn = .bool q ∧ Hid (foG ⟨⟨kc, kn⟩, d⟩ (l.take k) = (out, q)) ∧ out.length ≤ n + 1 ∧ Own wr (w.heap.size + 1) 27 tLeg v out ∧ BB w #[.string kc, .int .i64 kn, .int .i64 d] 27 wr) (fun _ _ i _ => n - (intOf i).toNat)
  case atStart => exact ⟨0, false, [], Nat.zero_le _, rfl, rfl, rfl, by simp, Own.nil_ _ _ _ _, hG⟩
  case round =>
    clear hG
    obtain ⟨k, q, out, hk, rfl, rfl, HQ, hlen, ho, hG⟩ := hrel
    have hz : w.heap.size + 1 ≤ wr.heap.size := hG.lt
    by_cases hlt : k < n
    · obtain ⟨b0, o0, ⟨⟨yc, yn⟩, yd⟩, hA, _, _, hx, hok, d0, d1, d2⟩ := (HS.out.below hG.2 hhi).leg_ hlt
      subst hA
      dsimp only at d0 d1 d2
      have hst := Lib.hid (show foG ⟨⟨kc, kn⟩, d⟩ (l.take (k + 1)) = stG ⟨⟨kc, kn⟩, d⟩ (out, q) ⟨⟨yc, yn⟩, yd⟩ by rw [take_snoc' hx.out, foG_snoc, HQ.out])
      have hln : Hid (∀ out' q', foG ⟨⟨kc, kn⟩, d⟩ (l.take (k + 1)) = (out', q') → out'.length ≤ n + 1) := fun out' q' h => by
        have h1 := (foG_len ⟨⟨kc, kn⟩, d⟩ (l.take (k + 1)) [] false).1
        have h2 : (foG ⟨⟨kc, kn⟩, d⟩ (l.take (k + 1))).1.length ≤ 0 + (l.take (k + 1)).length + 1 := h1
        rw [h, List.length_take, HL.out] at h2
        dsimp only at h2
        omega
      have c1 := hG.1.cells
      have i0 : (0 : Int) ≤ k := by omega
      have i1 : (k : Int) < n := by omega
      have zb : b0 < wr.heap.size := by omega
      have zb2 : b0 < w.heap.size + 1 := by omega
      have zw : w.heap.size < wr.heap.size := by omega
      have hk := fun u => neq_lg ⟨⟨yc, yn⟩, yd⟩ ⟨⟨kc, kn⟩, d⟩ u
      dsimp only at hk
      have HOK := Lib.hid hok
      clear hok
      rcases q with _ | _
      rotate_left
      · by_cases e : (⟨⟨yc, yn⟩, yd⟩ : Leg) = ⟨⟨kc, kn⟩, d⟩
        · have hf := Lib.hid (show foG ⟨⟨kc, kn⟩, d⟩ (l.take (k + 1)) = (out, true) by rw [hst.out]; simp [stG, e])
          rw [decide_eq_true e] at hk
          clear e
          go_wp2
          go_quiet (fail)
          go_wp2
          go_quiet (fail)
          go_wp2
          go_roundw
          case rel => exact ⟨k + 1, true, out, by omega, by go_num, rfl, hf, hln.out _ _ hf.out, ho.drewN _, hG.drewN _⟩
          case measure => simp [intOf]; omega
        · have hf := Lib.hid (show foG ⟨⟨kc, kn⟩, d⟩ (l.take (k + 1)) = (out ++ [⟨⟨yc, yn⟩, yd⟩], true) by rw [hst.out]; simp [stG, e])
          rw [decide_eq_false e] at hk
          clear e
          go_wp2
          go_quiet (fail)
          go_wp2
          go_quiet (fail)
          go_wp2_with (at_builtin; refine push_law rfl (.tmp 35) (.tmp 40) rfl sl_leg rfl (Own.drewN ho _) (⟨⟨yc, yn⟩, yd⟩ : Leg) HOK.out _ rfl rfl (by exact hz) (by omega) ?_; intro v1 w1 ho1 hb1)
          go_roundw
          case rel => exact ⟨k + 1, true, _, by omega, by go_num, rfl, hf, hln.out _ _ hf.out, ho1, (hG.drewN _).over hb1⟩
          case measure => simp [intOf]; omega
      · generalize hq2 : ltG ⟨⟨yc, yn⟩, yd⟩ ⟨⟨kc, kn⟩, d⟩ = q
        have HQ2 := Lib.hid hq2
        have HC := Lib.hid (fun u : Blw wr => rahead_is ⟨⟨yc, yn⟩, yd⟩ ⟨⟨kc, kn⟩, d⟩ HQ2.out u.W)
        clear hq2
        go_upto_region 6 with fail
        rcases q with _ | _
        · skip
          refine wp_region_below (by kernel_rfl) (by kernel_rfl) ?_
          intro q9
          repeat
            (refine QH.step (fun K9 hK9 => ?_)
             go_simp
             first
             | (refine hK9 _ ?_; clear hK9 K9)
             | (apply Exists.intro
                refine ⟨fun _ => ?_, hK9 _ ?_⟩
                · first | (exact Calls.blw _ (HC.out _))
                clear hK9 K9))
          refine QH.nil_ ?_
          clear q9
          rintro ⟨V9, hV9⟩
          dsimp only
          have hG9 := hG.step hV9
          have ho9 := ho.keep hV9
          have hz9 := hG9.lt
          replace d0 := (hV9.cell (p := ⟨b0, o0 + k * 3, none⟩) zb).trans d0
          replace d1 := (hV9.cell (p := ⟨b0, o0 + k * 3 + 1, none⟩) zb).trans d1
          replace d2 := (hV9.cell (p := ⟨b0, o0 + k * 3 + 2, none⟩) zb).trans d2
          clear c1 ho hG hz hV9 HC
          have c1 := hG9.1.cells
          by_cases e : (⟨⟨yc, yn⟩, yd⟩ : Leg) = ⟨⟨kc, kn⟩, d⟩
          · have hf := Lib.hid (show foG ⟨⟨kc, kn⟩, d⟩ (l.take (k + 1)) = (out ++ [⟨⟨kc, kn⟩, d⟩], true) by rw [hst.out]; have := HQ2.out; simp_all [stG])
            rw [decide_eq_true e] at hk
            clear e
            go_wp2_with (at_builtin; refine push_law rfl (.tmp 25) (.tmp 27) rfl sl_leg rfl ho9 (⟨⟨kc, kn⟩, d⟩ : Leg) HG.out _ rfl rfl (by exact hz9) (by omega) ?_; intro v1 w1 ho1 hb1; have hG1 := hG9.over hb1; have e0 := (hb1.cell (p := ⟨b0, o0 + k * 3, none⟩) zb2).trans d0; have e1 := (hb1.cell (p := ⟨b0, o0 + k * 3 + 1, none⟩) zb2).trans d1; have e2 := (hb1.cell (p := ⟨b0, o0 + k * 3 + 2, none⟩) zb2).trans d2; have c2 := hG1.1.cells)
            go_quiet (fail)
            go_wp2
            go_roundw
            case rel => exact ⟨k + 1, true, _, by omega, by go_num, rfl, hf, hln.out _ _ hf.out, ho1.drewN _, hG1.drewN _⟩
            case measure => simp [intOf]; omega
          · have hf := Lib.hid (show foG ⟨⟨kc, kn⟩, d⟩ (l.take (k + 1)) = (out ++ [⟨⟨kc, kn⟩, d⟩] ++ [⟨⟨yc, yn⟩, yd⟩], true) by rw [hst.out]; have := HQ2.out; unfold stG; rw [if_pos (show _ ∧ _ from ⟨rfl, this⟩), if_neg e])
            rw [decide_eq_false e] at hk
            clear e
            go_wp2_with (at_builtin; refine push_law rfl (.tmp 25) (.tmp 27) rfl sl_leg rfl ho9 (⟨⟨kc, kn⟩, d⟩ : Leg) HG.out _ rfl rfl (by exact hz9) (by omega) ?_; intro v1 w1 ho1 hb1; have hG1 := hG9.over hb1; have e0 := (hb1.cell (p := ⟨b0, o0 + k * 3, none⟩) zb2).trans d0; have e1 := (hb1.cell (p := ⟨b0, o0 + k * 3 + 1, none⟩) zb2).trans d1; have e2 := (hb1.cell (p := ⟨b0, o0 + k * 3 + 2, none⟩) zb2).trans d2; have c2 := hG1.1.cells)
            have hz1 := hG1.lt
            have hl1 : (out ++ [(⟨⟨kc, kn⟩, d⟩ : Leg)]).length ≤ n + 2 := by simp; omega
            go_quiet (fail)
            go_wp2_with (at_builtin; refine push_law rfl (.tmp 35) (.tmp 40) rfl sl_leg rfl (Own.drewN ho1 _) (⟨⟨yc, yn⟩, yd⟩ : Leg) HOK.out _ rfl rfl (by exact hz1) (by omega) ?_; intro v2 w2 ho2 hb2)
            go_roundw
            case rel => exact ⟨k + 1, true, _, by omega, by go_num, rfl, hf, hln.out _ _ hf.out, ho2, (hG1.drewN _).over hb2⟩
            case measure => simp [intOf]; omega
        · skip
          refine wp_region_below (by kernel_rfl) (by kernel_rfl) ?_
          intro q9
          repeat
            (refine QH.step (fun K9 hK9 => ?_)
             go_simp
             first
             | (refine hK9 _ ?_; clear hK9 K9)
             | (apply Exists.intro
                refine ⟨fun _ => ?_, hK9 _ ?_⟩
                · first | (exact Calls.blw _ (HC.out _))
                clear hK9 K9))
          refine QH.nil_ ?_
          clear q9
          rintro ⟨V9, hV9⟩
          dsimp only
          have hG9 := hG.step hV9
          have ho9 := ho.keep hV9
          have hz9 := hG9.lt
          replace d0 := (hV9.cell (p := ⟨b0, o0 + k * 3, none⟩) zb).trans d0
          replace d1 := (hV9.cell (p := ⟨b0, o0 + k * 3 + 1, none⟩) zb).trans d1
          replace d2 := (hV9.cell (p := ⟨b0, o0 + k * 3 + 2, none⟩) zb).trans d2
          clear c1 ho hG hz hV9 HC
          have c1 := hG9.1.cells
          have e : ¬ (⟨⟨yc, yn⟩, yd⟩ : Leg) = ⟨⟨kc, kn⟩, d⟩ := fun e => by have := HQ2.out; rw [e, lts_g.irr] at this; cases this
          have hf := Lib.hid (show foG ⟨⟨kc, kn⟩, d⟩ (l.take (k + 1)) = (out ++ [⟨⟨yc, yn⟩, yd⟩], false) by rw [hst.out]; have := HQ2.out; simp [stG, e, this])
          rw [decide_eq_false e] at hk
          clear e
          go_wp2
          go_quiet (fail)
          go_wp2_with (at_builtin; refine push_law rfl (.tmp 35) (.tmp 40) rfl sl_leg rfl (Own.drewN ho9 _) (⟨⟨yc, yn⟩, yd⟩ : Leg) HOK.out _ rfl rfl (by exact hz9) (by omega) ?_; intro v1 w1 ho1 hb1)
          go_roundw
          case rel => exact ⟨k + 1, false, _, by omega, by go_num, rfl, hf, hln.out _ _ hf.out, ho1, (hG9.drewN _).over hb1⟩
          case measure => simp [intOf]; omega
    · obtain rfl : n = k := by omega
      have HF : Hid (l.take n = l) := List.take_of_length_le (Nat.le_of_eq HL.out)
      rw [HF.out] at HQ
      have c1 := hG.1.cells
      rcases q with _ | _
      · have hfin := Lib.hid (show puG ⟨⟨kc, kn⟩, d⟩ l = out ++ [⟨⟨kc, kn⟩, d⟩] by unfold puG; rw [HQ.out]; rfl)
        go_wp2_with (at_builtin; refine push_law rfl (.tmp 44) (.tmp 46) rfl sl_leg rfl ho (⟨⟨kc, kn⟩, d⟩ : Leg) HG.out _ rfl rfl (by exact hz) (by omega) ?_; intro v1 w1 ho1 hb1)
        go_ret
        refine RetOwn.mk' ?_ (hG.2.trans (hb1.mono (by omega)))
        rw [hfin.out]
        exact ho1.more (by omega)
      · have hfin := Lib.hid (show puG ⟨⟨kc, kn⟩, d⟩ l = out by unfold puG; rw [HQ.out]; rfl)
        go_wp2
        go_ret
        refine RetOwn.mk' ?_ hG.2
        rw [hfin.out]
        exact ho.more (by omega)
set_option maxRecDepth 100000 in
set_option maxHeartbeats 4000000 in
theorem rLegs_any (m : List Row10) (A : Option Addr) (n c : Nat) (w : World) (lo hi : Nat) (hs : Sl w lo hi tRow A n m) (hn : n ≤ 1000) (hhi : hi ≤ w.heap.size) :
    Calls Tryz.prog 24 #[.slice A n c] w (RetOwn w 27 tLeg (legsR m)) := by
  have HS := Lib.hid hs
  have HL := Lib.hid hs.len
  clear hs
  go_enter Tryz.func24, Tryz.ntmps24
  go_wp2
  go_loopw [3, 4] (fun v i wr => ∃ (k : Nat) (A' : Option Addr) (n' c' : Nat), k ≤ n ∧ i = .int .i64 k ∧ v = .slice A' n' c' ∧ Own wr w.heap.size 27 tLeg (.slice A' n' c') (legsR (m.take k)) ∧ Below w.heap.size w wr) (fun _ i _ => n - (intOf i).toNat)
  case atStart => exact ⟨0, none, 0, 0, Nat.zero_le _, rfl, rfl, Own.nil_ _ _ _ _, Below.refl _ _⟩
  case round =>
    obtain ⟨k, A', n', c', hk, rfl, rfl, ho, hb⟩ := hrel
    have HO := Lib.hid ho
    have HB := Lib.hid hb
    have hz := hb.size
    clear ho hb
    by_cases hlt : k < n
    · obtain ⟨b0, o0, ⟨⟨⟨⟨xc, xn⟩, xd⟩, xl⟩, xz⟩, hA, _, _, hx, hok, d0, d1, d2, d3, d4⟩ := (HS.out.below HB.out hhi).row_ hlt
      subst hA
      dsimp only at d0 d1 d2 d3 d4
      have i0 : (0 : Int) ≤ k := by omega
      have i1 : (k : Int) < n := by omega
      have hn' : n' ≤ 100000 := by
        have h1 := HO.out.sl.len
        have h2 := legsR_len (m.take k) []
        have h3 : (legsR (m.take k)).length ≤ 0 + (m.take k).length := h2
        rw [List.length_take] at h3
        omega
      have hst := Lib.hid (show legsR (m.take (k + 1)) = puG ⟨⟨xc, xn⟩, xd⟩ (legsR (m.take k)) from legsR_next hx.out)
      go_wp2_with fail
      refine (rPut_any (legsR (m.take k)) A' n' c' ⟨⟨xc, xn⟩, xd⟩ wr w.heap.size wr.heap.size HO.out.sl hok.1.1 hn' (Nat.le_refl _)).mono ?_
      rintro e w1 ⟨A1, c1, rfl, ho1, hb1⟩
      have HO1 := Lib.hid (ho1.more hz)
      have HB1 := Lib.hid (HB.out.trans (hb1.mono hz))
      clear ho1 hb1 d0 d1 d2 d3 d4
      go_wp2
      go_roundw
      case rel => exact ⟨k + 1, A1, _, c1, by omega, by go_num, rfl, by rw [hst.out]; exact HO1.out, HB1.out⟩
      case measure => simp [intOf]; omega
    · obtain rfl : n = k := by omega
      have HF : Hid (m.take n = m) := List.take_of_length_le (Nat.le_of_eq HL.out)
      go_wp2
      go_ret
      refine RetOwn.mk' ?_ HB.out
      have h := HO.out
      rw [HF.out] at h
      exact h
set_option maxRecDepth 100000 in
set_option maxHeartbeats 4000000 in
/-- The law's Legs, of one list twice. -/
theorem lawLegs_any (l : List Leg) (A A2 : Option Addr) (n c n2 c2 : Nat) (w : World) (lo hi lo2 hi2 : Nat) (hs : Sl w lo hi tLeg A n l) (hs2 : Sl w lo2 hi2 tLeg A2 n2 l) (hn : n ≤ 100000) :
    Calls Tryz.prog 22 #[.slice A n c, .slice A2 n2 c2] w fun e w' => e = .returned (.bool true) ∧ Below w.heap.size w w' := by
  have HS := Lib.hid hs
  have HS2 := Lib.hid hs2
  obtain rfl : n = n2 := hs.len.symm.trans hs2.len
  have t0 : ((n : Int) != n) = false := by simp
  clear hs hs2
  go_enter Tryz.func22, Tryz.ntmps22
  go_wp2
  go_loopw [5] (fun i wr => ∃ k : Nat, k ≤ n ∧ i = .int .i64 k ∧ Below w.heap.size w wr ∧ Hid (Sl wr lo hi tLeg A n l ∧ Sl wr lo2 hi2 tLeg A2 n l)) (fun i _ => n - (intOf i).toNat)
  case atStart => exact ⟨0, Nat.zero_le _, rfl, Below.refl _ _, HS.out, HS2.out⟩
  case round =>
    obtain ⟨k, hk, rfl, hb, HT⟩ := hrel
    by_cases hlt : k < n
    · obtain ⟨b0, o0, ⟨⟨yc, yn⟩, yd⟩, hA, _, _, hx, hok, d0, d1, d2⟩ := HT.out.1.leg_ hlt
      subst hA
      obtain ⟨b1, o1, ⟨⟨zc, zn⟩, zd⟩, hA2, _, _, hx2, _, e0, e1, e2⟩ := HT.out.2.leg_ hlt
      subst hA2
      have h := hx.out.symm.trans hx2.out
      injection h with h
      injection h with h3 h4
      injection h3 with h1 h2
      subst h1 h2 h4
      dsimp only at d0 d1 d2 e0 e1 e2
      have i0 : (0 : Int) ≤ k := by omega
      have i1 : (k : Int) < n := by omega
      have hk := fun u => neq_lg ⟨⟨yc, yn⟩, yd⟩ ⟨⟨yc, yn⟩, yd⟩ u
      rw [decide_eq_true rfl] at hk
      dsimp only at hk
      clear hok
      go_wp2
      go_quiet (fail)
      go_wp2
      go_roundw
      case rel => exact ⟨k + 1, by omega, by go_num, below_drewN hb _, HT.out.1.drewN _, HT.out.2.drewN _⟩
      case measure => simp [intOf]; omega
    · obtain rfl : n = k := by omega
      go_wp2
      go_ret
      exact ⟨rfl, hb⟩
end Go.Proofs.YtlkdefmceghmnaaGreat
