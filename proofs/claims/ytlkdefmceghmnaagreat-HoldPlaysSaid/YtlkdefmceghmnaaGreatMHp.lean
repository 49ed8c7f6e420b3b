/- Put together by program of: Hp1, Hp2, Hp3, Hp4. -/
import Derived.Test.YtlkdefmceghmnaaGreatMHc
import Derived.Test.YtlkdefmceghmnaaGreatFlRef2
import Derived.Deep.QuietTactic
import Derived.BigQuiet
namespace Go.Proofs.YtlkdefmceghmnaaGreat
set_option linter.unusedVariables false
open Go Go.RowKit Go.Sort
/-- A parameter in its box, first among the new blocks. -/
def BB (w : World) (cs : Array Value) (t : TypeId) (W : World) : Prop := Bx W w.heap.size cs t ∧ Below w.heap.size w W
section
variable {w W W1 : World} {cs : Array Value} {t : TypeId}
theorem BB.start (w : World) (cs : Array Value) (t : TypeId) : BB w cs t (w.alloc (.cells cs t)) := box1 w cs t
theorem BB.lt (h : BB w cs t W) : w.heap.size + 1 ≤ W.heap.size := h.1.lt
theorem BB.step (h : BB w cs t W) (hb : Below W.heap.size W W1) : BB w cs t W1 := ⟨h.1.below hb h.1.lt, h.2.trans (hb.mono h.2.size)⟩
theorem BB.over (h : BB w cs t W) (hb : Below (w.heap.size + 1) W W1) : BB w cs t W1 := ⟨h.1.below hb (by omega), h.2.trans (hb.mono (by omega))⟩
theorem BB.drewN (h : BB w cs t W) (n : Nat) : BB w cs t (W.drewN n) := ⟨h.1.drewN n, below_drewN h.2 n⟩
end
theorem sl_leg : SlT Tryz.prog 48 27 3 := SlT.mk' (z := .agg #[.string ⟨#[]⟩, .int .i64 0, .int .i64 0]) (b := 32) (by kernel_rfl) (by kernel_rfl) (by omega) rfl
theorem Sl.leg_ {w : World} {lo hi k n : Nat} {A : Option Addr} {l : List Leg} (h : Sl w lo hi tLeg A n l) (hk : k < n) :
    ∃ b o x, A = some ⟨b, o, none⟩ ∧ lo ≤ b ∧ b < hi ∧ Hid (l[k]? = some x) ∧ Leg.ok x ∧ w.cell? ⟨b, o + k * 3, none⟩ = some (.string x.key.car) ∧ w.cell? ⟨b, o + k * 3 + 1, none⟩ = some (.int .i64 x.key.num) ∧ w.cell? ⟨b, o + k * 3 + 2, none⟩ = some (.int .i64 x.day) := by
  obtain ⟨b, o, x, h1, h2, h3, h4, h5, hc⟩ := h.at_ hk
  exact ⟨b, o, x, h1, h2, h3, h4, h5, by simpa [tLeg] using hc 0 _ rfl, hc 1 _ rfl, hc 2 _ rfl⟩
/-- A rising list of legs with a leg: as the rounds make it. -/
def stG (x : Leg) (p : List Leg × Bool) (y : Leg) : List Leg × Bool :=
  let r := if p.2 = false ∧ ltG y x = false then (p.1 ++ [x], true) else p
  if y = x then r else (r.1 ++ [y], r.2)
def foG (x : Leg) (l : List Leg) : List Leg × Bool := l.foldl (stG x) ([], false)
def puG (x : Leg) (l : List Leg) : List Leg := if (foG x l).2 then (foG x l).1 else (foG x l).1 ++ [x]
theorem foG_snoc (x : Leg) (l : List Leg) (y : Leg) : foG x (l ++ [y]) = stG x (foG x l) y := by unfold foG; rw [List.foldl_append]; rfl
def insG (x : Leg) : List Leg → List Leg
  | [] => [x]
  | y :: t => if ltG y x then y :: insG x t else x :: (y :: t).filter fun z => decide (z ≠ x)
theorem foG_true (x : Leg) : ∀ (l acc : List Leg), l.foldl (stG x) (acc, true) = (acc ++ l.filter (fun z => decide (z ≠ x)), true)
  | [], acc => by simp
  | y :: l, acc => by
    rw [List.foldl_cons]
    by_cases e : y = x
    · rw [show stG x (acc, true) y = (acc, true) by simp [stG, e], foG_true x l]
      simp [e]
    · rw [show stG x (acc, true) y = (acc ++ [y], true) by simp [stG, e], foG_true x l]
      simp [e]
theorem foG_fin (x : Leg) : ∀ (l acc : List Leg), (let p := l.foldl (stG x) (acc, false); if p.2 then p.1 else p.1 ++ [x]) = acc ++ insG x l
  | [], acc => by simp [insG]
  | y :: l, acc => by
    rw [List.foldl_cons]
    unfold insG
    by_cases h : ltG y x = true
    · have e : y ≠ x := fun e => by rw [e, lts_g.irr] at h; cases h
      rw [show stG x (acc, false) y = (acc ++ [y], false) by simp [stG, h, e], if_pos h]
      have := foG_fin x l (acc ++ [y])
      rw [this]
      simp
    · have h' : ltG y x = false := by simpa using h
      rw [if_neg h]
      by_cases e : y = x
      · rw [show stG x (acc, false) y = (acc ++ [x], true) by simp [stG, e, lts_g.irr], foG_true]
        simp [e]
      · rw [show stG x (acc, false) y = (acc ++ [x] ++ [y], true) by simp [stG, h', e], foG_true]
        simp [e]
theorem puG_is (x : Leg) (l : List Leg) : puG x l = insG x l := by
  have := foG_fin x l []
  unfold puG foG
  simpa using this
theorem mem_insG (x g : Leg) : ∀ l : List Leg, g ∈ insG x l ↔ g = x ∨ g ∈ l
  | [] => by simp [insG]
  | y :: l => by
    unfold insG
    split
    · simp only [List.mem_cons, mem_insG x g l]
      constructor
      · rintro (h | h | h) <;> simp [h]
      · rintro (h | h | h) <;> simp [h]
    · simp only [List.mem_cons, List.mem_filter, decide_eq_true_eq]
      constructor
      · rintro (h | ⟨h, _⟩)
        · exact .inl h
        · exact .inr h
      · intro h
        by_cases e : g = x
        · exact .inl e
        · rcases h with h | h
          · exact absurd h e
          · exact .inr ⟨h, e⟩
theorem RisL.insG {x : Leg} : ∀ {l : List Leg}, RisL ltG l → RisL ltG (insG x l)
  | [], _ => List.pairwise_singleton _ _
  | y :: l, h => by
    obtain ⟨h1, h2⟩ := List.pairwise_cons.1 h
    unfold Go.Proofs.YtlkdefmceghmnaaGreat.insG
    split
    · rename_i hlt
      refine List.pairwise_cons.2 ⟨fun z hz => ?_, RisL.insG h2⟩
      rcases (mem_insG x z l).1 hz with rfl | hz
      · exact hlt
      · exact h1 z hz
    · rename_i hlt
      refine List.pairwise_cons.2 ⟨fun z hz => ?_, List.Pairwise.filter _ h⟩
      rw [List.mem_filter, decide_eq_true_eq] at hz
      obtain ⟨hz, hne⟩ := hz
      rcases ltG_or hne with h3 | h3
      · exfalso
        rcases List.mem_cons.1 hz with rfl | hz
        · exact hlt h3
        · exact hlt (lts_g.tr _ _ _ (h1 z hz) h3)
      · exact h3
theorem foG_len (x : Leg) : ∀ (l acc : List Leg) (d : Bool), (l.foldl (stG x) (acc, d)).1.length ≤ acc.length + l.length + 1 ∧ (d = true → (l.foldl (stG x) (acc, d)).1.length ≤ acc.length + l.length)
  | [], acc, d => by simp
  | y :: l, acc, d => by
    rw [List.foldl_cons]
    have h1 := foG_len x l (stG x (acc, d) y).1 (stG x (acc, d) y).2
    have h2 : (stG x (acc, d) y).1.length ≤ acc.length + 2 ∧ ((stG x (acc, d) y).2 = false → (stG x (acc, d) y).1.length ≤ acc.length + 1) ∧ (d = true → (stG x (acc, d) y).2 = true ∧ (stG x (acc, d) y).1.length ≤ acc.length + 1) := by
      unfold stG
      cases d <;> by_cases e : y = x <;> by_cases e2 : ltG y x = false <;> (subst_vars; simp [*]; try (split <;> simp))
    simp only [List.length_cons]
    obtain ⟨h3, h4⟩ := h1
    obtain ⟨h5, h6, h7⟩ := h2
    refine ⟨?_, fun hd => ?_⟩
    · cases h8 : (stG x (acc, d) y).2 with
      | true => have := h4 h8; simp only [Prod.eta] at *; omega
      | false => have := h6 h8; simp only [Prod.eta] at *; omega
    · obtain ⟨h8, h9⟩ := h7 hd
      have := h4 h8
      simp only [Prod.eta] at *
      omega
theorem ltG_key {a b : Leg} (h : a.key ≠ b.key) : ltG a b = (ltS a.key.car b.key.car || (eqTx a.key.car b.key.car && decide (a.key.num < b.key.num))) := by
  have h2 : ¬ (a.key.car = b.key.car ∧ a.key.num = b.key.num) := fun e => h (by cases ha : a.key; cases hb : b.key; rw [ha, hb] at e; simp_all)
  unfold ltG
  rw [Bool.eq_iff_iff, ltY_iff, ltX_iff]
  unfold eqTx
  simp
  constructor
  · rintro (h3 | ⟨h3, h4 | ⟨h4, _⟩⟩)
    · exact .inl h3
    · exact .inr ⟨h3, h4⟩
    · exact absurd ⟨h3, h4⟩ h2
  · rintro (h3 | ⟨h3, h4⟩)
    · exact .inl h3
    · exact .inr ⟨h3, .inl h4⟩
theorem ltG_day {a b : Leg} (h : a.key = b.key) : ltG a b = decide (a.day < b.day) := by
  unfold ltG
  rw [Bool.eq_iff_iff, ltY_iff, ltX_iff, ltX_iff, h, ltS_irr]
  simp [ltNo]
set_option maxRecDepth 100000 in
set_option maxHeartbeats 2000000 in
theorem rahead_is (a b : Leg) {q : Bool} (hq : ltG a b = q) (w : World) :
    Calls Tryz.prog 95 #[.agg #[.string a.key.car, .int .i64 a.key.num, .int .i64 a.day], .agg #[.string b.key.car, .int .i64 b.key.num, .int .i64 b.day]] w fun e w' => e = .returned (.bool q) ∧ Below w.heap.size w w' := by
  have HKE := Lib.hid (@ltG_key a b)
  have HDA := Lib.hid (@ltG_day a b)
  have HQ := Lib.hid hq
  have hdec : (decide (a.key.car = b.key.car) && (decide (a.key.num = b.key.num))) = decide (a.key = b.key) := by
    obtain ⟨⟨x, y⟩, _⟩ := a
    obtain ⟨⟨x', y'⟩, _⟩ := b
    rw [Bool.eq_iff_iff]; simp
  have hk := fun u => neq_key a.key.car b.key.car a.key.num b.key.num u
  rw [hdec] at hk
  obtain ⟨⟨ac, an⟩, ad⟩ := a
  obtain ⟨⟨bc, bn⟩, bd⟩ := b
  dsimp only at hk ⊢
  have HB : (Bx ((w.alloc (.cells #[.string ac, .int .i64 an, .int .i64 ad] 27)).alloc (.cells #[.string bc, .int .i64 bn, .int .i64 bd] 27)) w.heap.size #[.string ac, .int .i64 an, .int .i64 ad] 27 ∧ Bx ((w.alloc (.cells #[.string ac, .int .i64 an, .int .i64 ad] 27)).alloc (.cells #[.string bc, .int .i64 bn, .int .i64 bd] 27)) (w.heap.size + 1) #[.string bc, .int .i64 bn, .int .i64 bd] 27) ∧ Below w.heap.size w ((w.alloc (.cells #[.string ac, .int .i64 an, .int .i64 ad] 27)).alloc (.cells #[.string bc, .int .i64 bn, .int .i64 bd] 27)) := by
    have h := two_boxes w #[.string ac, .int .i64 an, .int .i64 ad] #[.string bc, .int .i64 bn, .int .i64 bd] 27 27
    exact ⟨⟨h.1, h.2.1⟩, h.2.2.below⟩
  have e1 := eqTx_l ac bc
  have e2 : Op.bytesLess ac.toList bc.toList = ltS ac bc := rfl
  clear hq hdec
  go_enter Tryz.func95, Tryz.ntmps95
  go_upto_region 1 with fail
  refine wp_world (fun V => (Bx V w.heap.size #[.string ac, .int .i64 an, .int .i64 ad] 27 ∧ Bx V (w.heap.size + 1) #[.string bc, .int .i64 bn, .int .i64 bd] 27) ∧ Below w.heap.size w V) HB ?_
  clear HB
  rintro V ⟨⟨b1, b2⟩, hb⟩
  have c1 := b1.cells
  have c2 := b2.cells
  by_cases hkk : (⟨ac, an⟩ : Key) = ⟨bc, bn⟩
  · have HE := Lib.hid ((HDA.out hkk).symm.trans HQ.out)
    rw [decide_eq_true hkk] at hk
    clear hkk HKE HDA
    dsimp only at HE
    go_wp2
    go_ret
    exact ⟨ret_bool HE.out, hb⟩
  · have HE := Lib.hid ((HKE.out hkk).symm.trans HQ.out)
    rw [decide_eq_false hkk] at hk
    clear hkk HKE HDA
    dsimp only at HE
    generalize ltS ac bc = q1 at e2 HE
    generalize eqTx ac bc = q2 at e1 HE
    rcases q1 with _ | _
    · rcases q2 with _ | _
      · go_wp2
        go_ret
        exact ⟨ret_bool (by rw [← HE.out]; rfl), hb⟩
      · go_wp2
        go_ret
        exact ⟨ret_bool (by rw [← HE.out]; rfl), hb⟩
    · go_wp2
      go_ret
      exact ⟨ret_bool (by rw [← HE.out]; rfl), hb⟩
set_option maxRecDepth 100000 in
set_option maxHeartbeats 8000000 in
theorem rPut_any (l : List Leg) (A : Option Addr) (n c : Nat) (g : Leg) (w : World) (lo hi : Nat) (hs : Sl w lo hi tLeg A n l) (hg : g.ok) (hn : n ≤ 100000) (hhi : hi ≤ w.heap.size) :
    Calls Tryz.prog 60 #[.slice A n c, .agg #[.string g.key.car, .int .i64 g.key.num, .int .i64 g.day]] w (RetOwn w 27 tLeg (puG g l)) := by
  have HS := Lib.hid hs
  have HL := Lib.hid hs.len
  have HG := Lib.hid hg
  obtain ⟨⟨kc, kn⟩, d⟩ := g
  dsimp only
  have HB := BB.start w #[.string kc, .int .i64 kn, .int .i64 d] 27
  clear hs hg
  go_enter Tryz.func60, Tryz.ntmps60
  go_upto_region 1 with fail
  refine wp_world (BB w #[.string kc, .int .i64 kn, .int .i64 d] 27) HB ?_
  clear HB
  intro W hG
  go_wp2
  go_loopw [5, 6, 7] (fun v dn i wr => ∃ (k : Nat) (q : Bool) (out : List Leg), k ≤ n ∧ i = .int .i64 k ∧ dn = .bool q ∧ Hid (foG ⟨⟨kc, kn⟩, d⟩ (l.take k) = (out, q)) ∧ out.length ≤ n + 1 ∧ Own wr (w.heap.size + 1) 27 tLeg v out ∧ BB w #[.string kc, .int .i64 kn, .int .i64 d] 27 wr) (fun _ _ i _ => n - (intOf i).toNat)
  case atStart => exact ⟨0, false, [], Nat.zero_le _, rfl, rfl, rfl, by simp, Own.nil_ _ _ _ _, hG⟩
  case round =>
    clear hG
    obtain ⟨k, q, out, hk, rfl, rfl, HQ, hlen, ho, hG⟩ := hrel
    have hz : w.heap.size + 1 ≤ wr.heap.size := hG.lt
    by_cases hlt : k < n
    · obtain ⟨b0, o0, ⟨⟨yc, yn⟩, yd⟩, hA, _, _, hx, hok, d0, d1, d2⟩ := (HS.out.below hG.2 hhi).leg_ hlt
      subst hA
      dsimp only at d0 d1 d2
      have hst := Lib.hid (show foG ⟨⟨kc, kn⟩, d⟩ (l.take (k + 1)) = stG ⟨⟨kc, kn⟩, d⟩ (out, q) ⟨⟨yc, yn⟩, yd⟩ by rw [take_snoc' hx.out, foG_snoc, HQ.out])
      have hln : Hid (∀ out' q', foG ⟨⟨kc, kn⟩, d⟩ (l.take (k + 1)) = (out', q') → out'.length ≤ n + 1) := fun out' q' h => by
        have h1 := (foG_len ⟨⟨kc, kn⟩, d⟩ (l.take (k + 1)) [] false).1
        have h2 : (foG ⟨⟨kc, kn⟩, d⟩ (l.take (k + 1))).1.length ≤ 0 + (l.take (k + 1)).length + 1 := h1
        rw [h, List.length_take, HL.out] at h2
        dsimp only at h2
        omega
      have c1 := hG.1.cells
      have i0 : (0 : Int) ≤ k := by omega
      have i1 : (k : Int) < n := by omega
      have zb : b0 < wr.heap.size := by omega
      have zb2 : b0 < w.heap.size + 1 := by omega
      have zw : w.heap.size < wr.heap.size := by omega
      have hk := fun u => neq_lg ⟨⟨yc, yn⟩, yd⟩ ⟨⟨kc, kn⟩, d⟩ u
      dsimp only at hk
      have HOK := Lib.hid hok
      clear hok
      rcases q with _ | _
      rotate_left
      · by_cases e : (⟨⟨yc, yn⟩, yd⟩ : Leg) = ⟨⟨kc, kn⟩, d⟩
        · have hf := Lib.hid (show foG ⟨⟨kc, kn⟩, d⟩ (l.take (k + 1)) = (out, true) by rw [hst.out]; simp [stG, e])
          rw [decide_eq_true e] at hk
          clear e
          go_wp2
          go_quiet (fail)
          go_wp2
          go_quiet (fail)
          go_wp2
          go_roundw
          case rel => exact ⟨k + 1, true, out, by omega, by go_num, rfl, hf, hln.out _ _ hf.out, ho.drewN _, hG.drewN _⟩
          case measure => simp [intOf]; omega
        · have hf := Lib.hid (show foG ⟨⟨kc, kn⟩, d⟩ (l.take (k + 1)) = (out ++ [⟨⟨yc, yn⟩, yd⟩], true) by rw [hst.out]; simp [stG, e])
          rw [decide_eq_false e] at hk
          clear e
          go_wp2
          go_quiet (fail)
          go_wp2
          go_quiet (fail)
          go_wp2_with (at_builtin; refine push_law rfl (.tmp 35) (.tmp 40) rfl sl_leg rfl (Own.drewN ho _) (⟨⟨yc, yn⟩, yd⟩ : Leg) HOK.out _ rfl rfl (by exact hz) (by omega) ?_; intro v1 w1 ho1 hb1)
          go_roundw
          case rel => exact ⟨k + 1, true, _, by omega, by go_num, rfl, hf, hln.out _ _ hf.out, ho1, (hG.drewN _).over hb1⟩
          case measure => simp [intOf]; omega
      · generalize hq2 : ltG ⟨⟨yc, yn⟩, yd⟩ ⟨⟨kc, kn⟩, d⟩ = q
        have HQ2 := Lib.hid hq2
        have HC := Lib.hid (fun u : Blw wr => rahead_is ⟨⟨yc, yn⟩, yd⟩ ⟨⟨kc, kn⟩, d⟩ HQ2.out u.W)
        clear hq2
        go_upto_region 6 with fail
        rcases q with _ | _
        · skip
          refine wp_region_below (by kernel_rfl) (by kernel_rfl) ?_
          intro q9
          repeat
            (refine QH.step (fun K9 hK9 => ?_)
             go_simp
             first
             | (refine hK9 _ ?_; clear hK9 K9)
             | (apply Exists.intro
                refine ⟨fun _ => ?_, hK9 _ ?_⟩
                · first | (exact Calls.blw _ (HC.out _))
                clear hK9 K9))
          refine QH.nil_ ?_
          clear q9
          rintro ⟨V9, hV9⟩
          dsimp only
          have hG9 := hG.step hV9
          have ho9 := ho.keep hV9
          have hz9 := hG9.lt
          replace d0 := (hV9.cell (p := ⟨b0, o0 + k * 3, none⟩) zb).trans d0
          replace d1 := (hV9.cell (p := ⟨b0, o0 + k * 3 + 1, none⟩) zb).trans d1
          replace d2 := (hV9.cell (p := ⟨b0, o0 + k * 3 + 2, none⟩) zb).trans d2
          clear c1 ho hG hz hV9 HC
          have c1 := hG9.1.cells
          by_cases e : (⟨⟨yc, yn⟩, yd⟩ : Leg) = ⟨⟨kc, kn⟩, d⟩
          · have hf := Lib.hid (show foG ⟨⟨kc, kn⟩, d⟩ (l.take (k + 1)) = (out ++ [⟨⟨kc, kn⟩, d⟩], true) by rw [hst.out]; have := HQ2.out; simp_all [stG])
            rw [decide_eq_true e] at hk
            clear e
            go_wp2_with (at_builtin; refine push_law rfl (.tmp 25) (.tmp 27) rfl sl_leg rfl ho9 (⟨⟨kc, kn⟩, d⟩ : Leg) HG.out _ rfl rfl (by exact hz9) (by omega) ?_; intro v1 w1 ho1 hb1; have hG1 := hG9.over hb1; have e0 := (hb1.cell (p := ⟨b0, o0 + k * 3, none⟩) zb2).trans d0; have e1 := (hb1.cell (p := ⟨b0, o0 + k * 3 + 1, none⟩) zb2).trans d1; have e2 := (hb1.cell (p := ⟨b0, o0 + k * 3 + 2, none⟩) zb2).trans d2; have c2 := hG1.1.cells)
            go_quiet (fail)
            go_wp2
            go_roundw
            case rel => exact ⟨k + 1, true, _, by omega, by go_num, rfl, hf, hln.out _ _ hf.out, ho1.drewN _, hG1.drewN _⟩
            case measure => simp [intOf]; omega
          · have hf := Lib.hid (show foG ⟨⟨kc, kn⟩, d⟩ (l.take (k + 1)) = (out ++ [⟨⟨kc, kn⟩, d⟩] ++ [⟨⟨yc, yn⟩, yd⟩], true) by rw [hst.out]; have := HQ2.out; unfold stG; rw [if_pos (show _ ∧ _ from ⟨rfl, this⟩), if_neg e])
            rw [decide_eq_false e] at hk
            clear e
            go_wp2_with (at_builtin; refine push_law rfl (.tmp 25) (.tmp 27) rfl sl_leg rfl ho9 (⟨⟨kc, kn⟩, d⟩ : Leg) HG.out _ rfl rfl (by exact hz9) (by omega) ?_; intro v1 w1 ho1 hb1; have hG1 := hG9.over hb1; have e0 := (hb1.cell (p := ⟨b0, o0 + k * 3, none⟩) zb2).trans d0; have e1 := (hb1.cell (p := ⟨b0, o0 + k * 3 + 1, none⟩) zb2).trans d1; have e2 := (hb1.cell (p := ⟨b0, o0 + k * 3 + 2, none⟩) zb2).trans d2; have c2 := hG1.1.cells)
            have hz1 := hG1.lt
            have hl1 : (out ++ [(⟨⟨kc, kn⟩, d⟩ : Leg)]).length ≤ n + 2 := by simp; omega
            go_quiet (fail)
            go_wp2_with (at_builtin; refine push_law rfl (.tmp 35) (.tmp 40) rfl sl_leg rfl (Own.drewN ho1 _) (⟨⟨yc, yn⟩, yd⟩ : Leg) HOK.out _ rfl rfl (by exact hz1) (by omega) ?_; intro v2 w2 ho2 hb2)
            go_roundw
            case rel => exact ⟨k + 1, true, _, by omega, by go_num, rfl, hf, hln.out _ _ hf.out, ho2, (hG1.drewN _).over hb2⟩
            case measure => simp [intOf]; omega
        · skip
          refine wp_region_below (by kernel_rfl) (by kernel_rfl) ?_
          intro q9
          repeat
            (refine QH.step (fun K9 hK9 => ?_)
             go_simp
             first
             | (refine hK9 _ ?_; clear hK9 K9)
             | (apply Exists.intro
                refine ⟨fun _ => ?_, hK9 _ ?_⟩
                · first | (exact Calls.blw _ (HC.out _))
                clear hK9 K9))
          refine QH.nil_ ?_
          clear q9
          rintro ⟨V9, hV9⟩
          dsimp only
          have hG9 := hG.step hV9
          have ho9 := ho.keep hV9
          have hz9 := hG9.lt
          replace d0 := (hV9.cell (p := ⟨b0, o0 + k * 3, none⟩) zb).trans d0
          replace d1 := (hV9.cell (p := ⟨b0, o0 + k * 3 + 1, none⟩) zb).trans d1
          replace d2 := (hV9.cell (p := ⟨b0, o0 + k * 3 + 2, none⟩) zb).trans d2
          clear c1 ho hG hz hV9 HC
          have c1 := hG9.1.cells
          have e : ¬ (⟨⟨yc, yn⟩, yd⟩ : Leg) = ⟨⟨kc, kn⟩, d⟩ := fun e => by have := HQ2.out; rw [e, lts_g.irr] at this; cases this
          have hf := Lib.hid (show foG ⟨⟨kc, kn⟩, d⟩ (l.take (k + 1)) = (out ++ [⟨⟨yc, yn⟩, yd⟩], false) by rw [hst.out]; have := HQ2.out; simp [stG, e, this])
          rw [decide_eq_false e] at hk
          clear e
          go_wp2
          go_quiet (fail)
          go_wp2_with (at_builtin; refine push_law rfl (.tmp 35) (.tmp 40) rfl sl_leg rfl (Own.drewN ho9 _) (⟨⟨yc, yn⟩, yd⟩ : Leg) HOK.out _ rfl rfl (by exact hz9) (by omega) ?_; intro v1 w1 ho1 hb1)
          go_roundw
          case rel => exact ⟨k + 1, false, _, by omega, by go_num, rfl, hf, hln.out _ _ hf.out, ho1, (hG9.drewN _).over hb1⟩
          case measure => simp [intOf]; omega
    · obtain rfl : n = k := by omega
      have HF : Hid (l.take n = l) := List.take_of_length_le (Nat.le_of_eq HL.out)
      rw [HF.out] at HQ
      have c1 := hG.1.cells
      rcases q with _ | _
      · have hfin := Lib.hid (show puG ⟨⟨kc, kn⟩, d⟩ l = out ++ [⟨⟨kc, kn⟩, d⟩] by unfold puG; rw [HQ.out]; rfl)
        go_wp2_with (at_builtin; refine push_law rfl (.tmp 44) (.tmp 46) rfl sl_leg rfl ho (⟨⟨kc, kn⟩, d⟩ : Leg) HG.out _ rfl rfl (by exact hz) (by omega) ?_; intro v1 w1 ho1 hb1)
        go_ret
        refine RetOwn.mk' ?_ (hG.2.trans (hb1.mono (by omega)))
        rw [hfin.out]
        exact ho1.more (by omega)
      · have hfin := Lib.hid (show puG ⟨⟨kc, kn⟩, d⟩ l = out by unfold puG; rw [HQ.out]; rfl)
        go_wp2
        go_ret
        refine RetOwn.mk' ?_ hG.2
        rw [hfin.out]
        exact ho.more (by omega)
set_option maxRecDepth 100000 in
set_option maxHeartbeats 4000000 in
/-- The law's Legs, of one list twice. -/
theorem lawLegs_any (l : List Leg) (A A2 : Option Addr) (n c n2 c2 : Nat) (w : World) (lo hi lo2 hi2 : Nat) (hs : Sl w lo hi tLeg A n l) (hs2 : Sl w lo2 hi2 tLeg A2 n2 l) (hn : n ≤ 100000) :
    Calls Tryz.prog 22 #[.slice A n c, .slice A2 n2 c2] w fun e w' => e = .returned (.bool true) ∧ Below w.heap.size w w' := by
  have HS := Lib.hid hs
  have HS2 := Lib.hid hs2
  obtain rfl : n = n2 := hs.len.symm.trans hs2.len
  have t0 : ((n : Int) != n) = false := by simp
  clear hs hs2
  go_enter Tryz.func22, Tryz.ntmps22
  go_wp2
  go_loopw [5] (fun i wr => ∃ k : Nat, k ≤ n ∧ i = .int .i64 k ∧ Below w.heap.size w wr ∧ Hid (Sl wr lo hi tLeg A n l ∧ Sl wr lo2 hi2 tLeg A2 n l)) (fun i _ => n - (intOf i).toNat)
  case atStart => exact ⟨0, Nat.zero_le _, rfl, Below.refl _ _, HS.out, HS2.out⟩
  case round =>
    obtain ⟨k, hk, rfl, hb, HT⟩ := hrel
    by_cases hlt : k < n
    · obtain ⟨b0, o0, ⟨⟨yc, yn⟩, yd⟩, hA, _, _, hx, hok, d0, d1, d2⟩ := HT.out.1.leg_ hlt
      subst hA
      obtain ⟨b1, o1, ⟨⟨zc, zn⟩, zd⟩, hA2, _, _, hx2, _, e0, e1, e2⟩ := HT.out.2.leg_ hlt
      subst hA2
      have h := hx.out.symm.trans hx2.out
      injection h with h
      injection h with h3 h4
      injection h3 with h1 h2
      subst h1 h2 h4
      dsimp only at d0 d1 d2 e0 e1 e2
      have i0 : (0 : Int) ≤ k := by omega
      have i1 : (k : Int) < n := by omega
      have hk := fun u => neq_lg ⟨⟨yc, yn⟩, yd⟩ ⟨⟨yc, yn⟩, yd⟩ u
      rw [decide_eq_true rfl] at hk
      dsimp only at hk
      clear hok
      go_wp2
      go_quiet (fail)
      go_wp2
      go_roundw
      case rel => exact ⟨k + 1, by omega, by go_num, below_drewN hb _, HT.out.1.drewN _, HT.out.2.drewN _⟩
      case measure => simp [intOf]; omega
    · obtain rfl : n = k := by omega
      go_wp2
      go_ret
      exact ⟨rfl, hb⟩
/-- A row of the document: a seat of a leg, and whose it is. -/
structure HRow where
  c : Hpl
  h : Hol
def HRow.ok (r : HRow) : Prop := r.c.ok ∧ r.h.ok
def tHR : Ty HRow := ⟨fun r => [.string r.c.leg.key.car, .int .i64 r.c.leg.key.num, .int .i64 r.c.leg.day, .int .i64 r.c.seat.row, .int .u8 r.c.seat.let_, .string r.h.loc, .int .i64 r.h.pax], 7, HRow.ok, fun _ => rfl, fun x u h => by simp at h; rcases h with h | h | h | h | h | h | h <;> subst h <;> rfl, by omega⟩
theorem sl_hrow : SlT Tryz.prog 65 146 7 := SlT.mk' (z := .agg #[.string ⟨#[]⟩, .int .i64 0, .int .i64 0, .int .i64 0, .int .u8 0, .string ⟨#[]⟩, .int .i64 0]) (b := 72) (by kernel_rfl) (by kernel_rfl) (by omega) rfl
theorem Sl.hr_ {w : World} {lo hi k n : Nat} {A : Option Addr} {l : List HRow} (h : Sl w lo hi tHR A n l) (hk : k < n) :
    ∃ b o r, A = some ⟨b, o, none⟩ ∧ lo ≤ b ∧ b < hi ∧ Hid (l[k]? = some r) ∧ HRow.ok r ∧ w.cell? ⟨b, o + k * 7, none⟩ = some (.string r.c.leg.key.car) ∧ w.cell? ⟨b, o + k * 7 + 1, none⟩ = some (.int .i64 r.c.leg.key.num) ∧ w.cell? ⟨b, o + k * 7 + 2, none⟩ = some (.int .i64 r.c.leg.day) ∧ w.cell? ⟨b, o + k * 7 + 3, none⟩ = some (.int .i64 r.c.seat.row) ∧ w.cell? ⟨b, o + k * 7 + 4, none⟩ = some (.int .u8 r.c.seat.let_) ∧ w.cell? ⟨b, o + k * 7 + 5, none⟩ = some (.string r.h.loc) ∧ w.cell? ⟨b, o + k * 7 + 6, none⟩ = some (.int .i64 r.h.pax) := by
  obtain ⟨b, o, x, h1, h2, h3, h4, h5, hc⟩ := h.at_ hk
  exact ⟨b, o, x, h1, h2, h3, h4, h5, by simpa [tHR] using hc 0 _ rfl, hc 1 _ rfl, hc 2 _ rfl, hc 3 _ rfl, hc 4 _ rfl, hc 5 _ rfl, hc 6 _ rfl⟩
/-- Whose a seat is, by the rows. -/
def whoR (m : List HRow) (c : Hpl) : Option Hol := (m.find? fun r => decide (r.c = c)).map (·.h)
theorem whoR_nil (c : Hpl) : whoR [] c = none := rfl
theorem whoR_cons (r : HRow) (m : List HRow) (c : Hpl) : whoR (r :: m) c = if r.c = c then some r.h else whoR m c := by
  unfold whoR
  by_cases e : r.c = c
  · rw [List.find?_cons_of_pos (by simp [e]), if_pos e]
    rfl
  · rw [List.find?_cons_of_neg (by simp [e]), if_neg e]
theorem whoR_at {c : Hpl} : ∀ {m : List HRow} {k : Nat} {r : HRow}, (∀ (j : Nat) (s : HRow), j < k → m[j]? = some s → s.c ≠ c) → m[k]? = some r → r.c = c → whoR m c = some r.h
  | s :: m, 0, r, _, hx, hr => by
    obtain rfl : s = r := by simpa using hx
    rw [whoR_cons, if_pos hr]
  | s :: m, k + 1, r, hn, hx, hr => by
    rw [whoR_cons, if_neg (hn 0 s (by omega) (by simp))]
    exact whoR_at (k := k) (r := r) (m := m) (fun j t hj ht => hn (j + 1) t (by omega) (by simpa using ht)) (by simpa using hx) hr
theorem whoR_no {c : Hpl} : ∀ {m : List HRow}, (∀ (j : Nat) (s : HRow), m[j]? = some s → s.c ≠ c) → whoR m c = none
  | [], _ => rfl
  | s :: m, hn => by
    rw [whoR_cons, if_neg (hn 0 s (by simp))]
    exact whoR_no fun j t ht => hn (j + 1) t (by simpa using ht)
/-- The rows tell whose the seats are. -/
structure RH (m : List HRow) (q : Hpl → Option Hol) : Prop where
  nod : (m.map (·.c)).Nodup
  is : ∀ c h, q c = some h ↔ (⟨c, h⟩ : HRow) ∈ m
  ok : ∀ r ∈ m, r.ok
theorem RH.nil_ : RH [] (fun _ => none) := ⟨List.nodup_nil, by simp, by simp⟩
theorem RH.who {m : List HRow} {q : Hpl → Option Hol} (h : RH m q) (c : Hpl) : whoR m c = q c := by
  unfold whoR
  cases e : m.find? (fun r => decide (r.c = c)) with
  | some r =>
    have h1 := List.mem_of_find?_eq_some e
    have h2 : r.c = c := by simpa using List.find?_some e
    subst h2
    exact ((h.is _ _).2 h1).symm
  | none =>
    cases e2 : q c with
    | none => rfl
    | some x =>
      have h1 := (h.is _ _).1 e2
      have h2 := List.find?_eq_none.1 e _ h1
      simp at h2
theorem RH.mem_c {m : List HRow} {q : Hpl → Option Hol} (h : RH m q) (c : Hpl) : c ∈ m.map (·.c) ↔ q c ≠ none := by
  constructor
  · intro hc
    obtain ⟨r, hr, rfl⟩ := List.mem_map.1 hc
    rw [(h.is _ _).2 (show (⟨r.c, r.h⟩ : HRow) ∈ m from hr)]
    simp
  · intro hc
    cases e : q c with
    | none => exact absurd e hc
    | some x => exact List.mem_map.2 ⟨_, (h.is _ _).1 e, rfl⟩
theorem RH.take {m : List HRow} {q : Hpl → Option Hol} (h : RH m q) {c : Hpl} {x : Hol} (hc : q c = none) (ho : c.ok) (hx : x.ok) : RH (m ++ [⟨c, x⟩]) (updH q c (some x)) := by
  refine ⟨?_, fun d y => ?_, fun r hr => ?_⟩
  · rw [List.map_append, List.nodup_append]
    refine ⟨h.nod, by simp, fun a ha b hb => ?_⟩
    rintro rfl
    have h1 : a = c := by simpa using hb
    subst h1
    exact (h.mem_c _).1 ha hc
  · by_cases e : d = c
    · subst e
      rw [updH_same, List.mem_append, List.mem_singleton]
      constructor
      · intro h1
        injection h1 with h1
        subst h1
        exact .inr rfl
      · rintro (h1 | h1)
        · rw [(h.is _ _).2 h1] at hc
          cases hc
        · injection h1 with _ h2
          rw [h2]
    · rw [updH_other _ _ _ e, h.is d y, List.mem_append, List.mem_singleton]
      exact ⟨.inl, fun h1 => h1.resolve_right (fun h2 => e (congrArg HRow.c h2))⟩
  · rcases List.mem_append.1 hr with h1 | h1
    · exact h.ok r h1
    · rw [List.mem_singleton.1 h1]
      exact ⟨ho, hx⟩
def dropR (m : List HRow) (c : Hpl) : List HRow := m.filter fun r => !decide (r.c = c)
theorem RH.free {m : List HRow} {q : Hpl → Option Hol} (h : RH m q) (c : Hpl) : RH (dropR m c) (updH q c none) := by
  refine ⟨h.nod.sublist (List.Sublist.map _ (List.filter_sublist ..)), fun d y => ?_, fun r hr => h.ok r (List.mem_filter.1 hr).1⟩
  unfold dropR
  rw [List.mem_filter]
  by_cases e : d = c
  · subst e
    rw [updH_same]
    simp
  · rw [updH_other _ _ _ e, h.is d y]
    simp [e]
theorem dropR_next {m : List HRow} {k : Nat} {r : HRow} {c : Hpl} (h : m[k]? = some r) : dropR (m.take (k + 1)) c = dropR (m.take k) c ++ (if r.c = c then [] else [r]) := by
  unfold dropR
  rw [take_snoc' h, List.filter_append]
  by_cases e : r.c = c
  · rw [if_pos e, List.filter_cons_of_neg (by simp [e])]
    rfl
  · rw [if_neg e, List.filter_cons_of_pos (by simp [e])]
    rfl
/-- The legs of the rows, one after another put in order. -/
def legsH (m : List HRow) : List Leg := m.foldl (fun acc r => puG r.c.leg acc) []
theorem legsH_next {m : List HRow} {k : Nat} {x : HRow} (h : m[k]? = some x) : legsH (m.take (k + 1)) = puG x.c.leg (legsH (m.take k)) := by
  unfold legsH
  rw [take_snoc' h, List.foldl_append]
  rfl
theorem legsH_facts : ∀ (m : List HRow) (acc : List Leg), RisL ltG acc → RisL ltG (m.foldl (fun acc r => puG r.c.leg acc) acc) ∧ ∀ g, g ∈ m.foldl (fun acc r => puG r.c.leg acc) acc ↔ g ∈ acc ∨ ∃ r ∈ m, r.c.leg = g
  | [], acc, h => ⟨h, fun g => by simp⟩
  | r :: m, acc, h => by
    have h1 : RisL ltG (puG r.c.leg acc) := by rw [puG_is]; exact RisL.insG h
    obtain ⟨h2, h3⟩ := legsH_facts m _ h1
    refine ⟨h2, fun g => ?_⟩
    rw [List.foldl_cons, h3 g, puG_is, mem_insG]
    constructor
    · rintro ((rfl | h4) | ⟨s, hs, rfl⟩)
      · exact .inr ⟨r, by simp, rfl⟩
      · exact .inl h4
      · exact .inr ⟨s, by simp [hs], rfl⟩
    · rintro (h4 | ⟨s, hs, rfl⟩)
      · exact .inl (.inr h4)
      · rcases List.mem_cons.1 hs with rfl | hs
        · exact .inl (.inl rfl)
        · exact .inr ⟨s, hs, rfl⟩
theorem legsH_len : ∀ (m : List HRow) (acc : List Leg), (m.foldl (fun acc r => puG r.c.leg acc) acc).length ≤ acc.length + m.length
  | [], acc => by simp
  | r :: m, acc => by
    rw [List.foldl_cons, puG_is]
    have h1 := legsH_len m (insG r.c.leg acc)
    have h2 : ∀ (x : Leg) (l : List Leg), (insG x l).length ≤ l.length + 1 := by
      intro x l
      induction l with
      | nil => simp [insG]
      | cons y t ih =>
        unfold insG
        split
        · simp; omega
        · have := List.length_filter_le (fun z => decide (z ≠ x)) (y :: t)
          simp only [List.length_cons] at this ⊢
          omega
    have h3 := h2 r.c.leg acc
    simp only [List.length_cons]
    omega
theorem RH.legs {m : List HRow} {q : Hpl → Option Hol} (h : RH m q) {out : List Leg} (h1 : RisL ltG out) (h2 : ∀ g, g ∈ out ↔ ∃ c : Hpl, q c ≠ none ∧ c.leg = g) : out = legsH m := by
  obtain ⟨h3, h4⟩ := legsH_facts m [] List.Pairwise.nil
  refine RisL.eq lts_g h1 h3 fun g => ?_
  rw [h2 g]
  unfold legsH
  rw [h4 g]
  constructor
  · rintro ⟨c, hc, rfl⟩
    obtain ⟨r, hr, rfl⟩ := List.mem_map.1 ((h.mem_c c).2 hc)
    exact .inr ⟨r, hr, rfl⟩
  · rintro (h5 | ⟨r, hr, rfl⟩)
    · cases h5
    · exact ⟨r.c, (h.mem_c _).1 (List.mem_map_of_mem hr), rfl⟩
/-- The seats of a leg, put in one after another. -/
def toHld (r : HRow) : Hld := ⟨r.c.seat, r.h⟩
def stepH (g : Leg) (acc : List Hld) (r : HRow) : List Hld := if r.c.leg = g then insL ltHd (toHld r) acc else acc
def onH (m : List HRow) (g : Leg) : List Hld := m.foldl (stepH g) []
theorem onH_next {m : List HRow} {k : Nat} {r : HRow} {g : Leg} (h : m[k]? = some r) : onH (m.take (k + 1)) g = stepH g (onH (m.take k) g) r := by
  unfold onH
  rw [take_snoc' h, List.foldl_append]
  rfl
theorem len_insL {α : Type} (lt : α → α → Bool) (x : α) : ∀ l : List α, (insL lt x l).length = l.length + 1
  | [] => rfl
  | y :: t => by
    unfold insL
    split
    · rfl
    · rw [List.length_cons, len_insL lt x t, List.length_cons]
theorem onH_len (g : Leg) : ∀ (m : List HRow) (acc : List Hld), (m.foldl (stepH g) acc).length ≤ acc.length + m.length
  | [], acc => by simp
  | r :: m, acc => by
    have h1 := onH_len g m (stepH g acc r)
    have h2 : (stepH g acc r).length ≤ acc.length + 1 := by
      unfold stepH
      split
      · rw [len_insL]
        exact Nat.le_refl _
      · omega
    rw [List.foldl_cons, List.length_cons]
    omega
theorem onH_facts (g : Leg) : ∀ (m : List HRow) (acc : List Hld), (m.map (·.c)).Nodup → RisL ltHd acc → (∀ x ∈ acc, ∀ r ∈ m, r.c ≠ ⟨g, x.seat⟩) → RisL ltHd (m.foldl (stepH g) acc) ∧ ∀ x, x ∈ m.foldl (stepH g) acc ↔ x ∈ acc ∨ (⟨⟨g, x.seat⟩, x.hol⟩ : HRow) ∈ m
  | [], acc, _, h, _ => ⟨h, fun x => by simp⟩
  | r :: m, acc, hn, h, ha => by
    rw [List.map_cons, List.nodup_cons] at hn
    rw [List.foldl_cons]
    by_cases e : r.c.leg = g
    · have hs : stepH g acc r = insL ltHd (toHld r) acc := by unfold stepH; rw [if_pos e]
      have hne : ∀ x ∈ acc, (toHld r).seat ≠ x.seat := fun x hx h1 => ha x hx r (by simp) (by
        obtain ⟨⟨rl, rs⟩, rh⟩ := r
        subst e
        exact congrArg (Hpl.mk rl) h1)
      have h1 : RisL ltHd (insL ltHd (toHld r) acc) := RisL.ins lts_hd h fun x hx => ltHd_or (hne x hx)
      rw [hs]
      obtain ⟨h2, h3⟩ := onH_facts g m _ hn.2 h1 (fun x hx s hs2 h4 => by
        rcases (mem_insL _ _ _).1 hx with rfl | hx
        · refine hn.1 ?_
          have h5 : s.c = r.c := by
            rw [h4, ← e]
            rfl
          exact h5 ▸ List.mem_map_of_mem hs2
        · exact ha x hx s (by simp [hs2]) h4)
      refine ⟨h2, fun x => ?_⟩
      rw [h3 x, mem_insL, List.mem_cons]
      have h6 : (⟨⟨g, x.seat⟩, x.hol⟩ : HRow) = r ↔ x = toHld r := by
        obtain ⟨⟨rl, rs⟩, rh⟩ := r
        obtain ⟨xs, xh⟩ := x
        subst e
        unfold toHld
        simp
      rw [h6]
      constructor
      · rintro ((h7 | h7) | h7)
        · exact .inr (.inl h7)
        · exact .inl h7
        · exact .inr (.inr h7)
      · rintro (h7 | h7 | h7)
        · exact .inl (.inr h7)
        · exact .inl (.inl h7)
        · exact .inr h7
    · have hs : stepH g acc r = acc := by unfold stepH; rw [if_neg e]
      rw [hs]
      obtain ⟨h2, h3⟩ := onH_facts g m acc hn.2 h (fun x hx s hs2 => ha x hx s (by simp [hs2]))
      refine ⟨h2, fun x => ?_⟩
      rw [h3 x, List.mem_cons]
      have h6 : ¬ (⟨⟨g, x.seat⟩, x.hol⟩ : HRow) = r := fun h7 => e (by rw [← h7])
      simp [h6]
theorem RH.on {m : List HRow} {q : Hpl → Option Hol} (h : RH m q) {g : Leg} {out : List Hld} (h1 : RisL ltHd out) (h2 : ∀ x, x ∈ out ↔ q ⟨g, x.seat⟩ = some x.hol) : out = onH m g := by
  obtain ⟨h3, h4⟩ := onH_facts g m [] h.nod List.Pairwise.nil (by simp)
  refine RisL.eq lts_hd h1 h3 fun x => ?_
  rw [h2 x, h.is]
  unfold onH
  rw [h4 x]
  simp
/-- One seat is put into a list: as the loop goes. -/
def stH (x : Hld) (p : List Hld × Bool) (y : Hld) : List Hld × Bool := if p.2 = false ∧ ltHd x y = true then (p.1 ++ [x] ++ [y], true) else (p.1 ++ [y], p.2)
def foH (x : Hld) (l : List Hld) : List Hld × Bool := l.foldl (stH x) ([], false)
theorem foH_next {x : Hld} {l : List Hld} {k : Nat} {y : Hld} (h : l[k]? = some y) : foH x (l.take (k + 1)) = stH x (foH x (l.take k)) y := by
  unfold foH
  rw [take_snoc' h, List.foldl_append]
  rfl
theorem foH_true (x : Hld) : ∀ (l acc : List Hld), l.foldl (stH x) (acc, true) = (acc ++ l, true)
  | [], acc => by simp
  | y :: t, acc => by
    rw [List.foldl_cons]
    have h : stH x (acc, true) y = (acc ++ [y], true) := by unfold stH; rw [if_neg (fun h => by cases h.1)]
    rw [h, foH_true x t]
    simp
theorem foH_fin (x : Hld) : ∀ (l acc : List Hld), (if (l.foldl (stH x) (acc, false)).2 = true then (l.foldl (stH x) (acc, false)).1 else (l.foldl (stH x) (acc, false)).1 ++ [x]) = acc ++ insL ltHd x l
  | [], acc => by simp [insL]
  | y :: t, acc => by
    rw [List.foldl_cons]
    by_cases e : ltHd x y = true
    · have h : stH x (acc, false) y = (acc ++ [x] ++ [y], true) := by unfold stH; rw [if_pos ⟨rfl, e⟩]
      rw [h, foH_true]
      unfold insL
      rw [if_pos rfl, if_pos e]
      simp
    · have h : stH x (acc, false) y = (acc ++ [y], false) := by unfold stH; rw [if_neg (fun h => e h.2)]
      rw [h, foH_fin x t, show insL ltHd x (y :: t) = if ltHd x y = true then x :: y :: t else y :: insL ltHd x t from rfl, if_neg e]
      simp
theorem foH_len (x : Hld) : ∀ (l acc : List Hld) (d : Bool), (l.foldl (stH x) (acc, d)).1.length ≤ acc.length + l.length + 1 ∧ (d = true → (l.foldl (stH x) (acc, d)).1.length ≤ acc.length + l.length)
  | [], acc, d => by simp
  | y :: t, acc, d => by
    rw [List.foldl_cons]
    unfold stH
    split
    · rename_i e
      have h1 := foH_len x t (acc ++ [x] ++ [y]) true
      have h2 := h1.2 rfl
      simp only [List.length_append, List.length_cons, List.length_nil] at h2 ⊢
      refine ⟨by show (t.foldl (stH x) (acc ++ [x] ++ [y], true)).1.length ≤ _; omega, fun hd => by have e1 : d = false := e.1; rw [e1] at hd; cases hd⟩
    · have h1 := foH_len x t (acc ++ [y]) d
      simp only [List.length_append, List.length_cons, List.length_nil] at h1 ⊢
      exact ⟨by have := h1.1; show (t.foldl (stH x) (acc ++ [y], d)).1.length ≤ _; omega, fun hd => by have := h1.2 hd; show (t.foldl (stH x) (acc ++ [y], d)).1.length ≤ _; omega⟩
set_option maxRecDepth 100000 in
set_option maxHeartbeats 8000000 in
theorem rwho_any (m : List HRow) (A : Option Addr) (n c : Nat) (g : Leg) (s : Sit) (w : World) (lo hi : Nat) (hs : Sl w lo hi tHR A n m) (hn : n ≤ 100000) (hhi : hi ≤ w.heap.size) {o : Option Hol} (ho : whoR m ⟨g, s⟩ = o) :
    Calls Tryz.prog 31 #[.slice A n c, .agg #[.string g.key.car, .int .i64 g.key.num, .int .i64 g.day], .agg #[.int .i64 s.row, .int .u8 s.let_]] w fun e w' => e = .returned (.tuple #[.agg #[.string (o.getD hol0).loc, .int .i64 (o.getD hol0).pax], .bool o.isSome]) ∧ Below w.heap.size w w' := by
  have HS := Lib.hid hs
  have HL := Lib.hid hs.len
  have HO := Lib.hid ho
  have HB : (Bx (((w.alloc (.cells #[.string g.key.car, .int .i64 g.key.num, .int .i64 g.day] 27)).alloc (.cells #[.int .i64 s.row, .int .u8 s.let_] 67)).alloc (.cells #[.string ⟨#[]⟩, .int .i64 0] 69)) w.heap.size #[.string g.key.car, .int .i64 g.key.num, .int .i64 g.day] 27 ∧ Bx (((w.alloc (.cells #[.string g.key.car, .int .i64 g.key.num, .int .i64 g.day] 27)).alloc (.cells #[.int .i64 s.row, .int .u8 s.let_] 67)).alloc (.cells #[.string ⟨#[]⟩, .int .i64 0] 69)) (w.heap.size + 1) #[.int .i64 s.row, .int .u8 s.let_] 67 ∧ Bx (((w.alloc (.cells #[.string g.key.car, .int .i64 g.key.num, .int .i64 g.day] 27)).alloc (.cells #[.int .i64 s.row, .int .u8 s.let_] 67)).alloc (.cells #[.string ⟨#[]⟩, .int .i64 0] 69)) (w.heap.size + 1 + 1) #[.string ⟨#[]⟩, .int .i64 0] 69) ∧ Below w.heap.size w (((w.alloc (.cells #[.string g.key.car, .int .i64 g.key.num, .int .i64 g.day] 27)).alloc (.cells #[.int .i64 s.row, .int .u8 s.let_] 67)).alloc (.cells #[.string ⟨#[]⟩, .int .i64 0] 69)) := by
    have h2 := two_boxes w #[.string g.key.car, .int .i64 g.key.num, .int .i64 g.day] #[.int .i64 s.row, .int .u8 s.let_] 27 67
    have h3 := Bx.new ((w.alloc (.cells #[.string g.key.car, .int .i64 g.key.num, .int .i64 g.day] 27)).alloc (.cells #[.int .i64 s.row, .int .u8 s.let_] 67)) #[.string ⟨#[]⟩, .int .i64 0] 69
    rw [World.size_alloc, World.size_alloc] at h3
    exact ⟨⟨h2.1.alloc _, h2.2.1.alloc _, h3⟩, h2.2.2.below.alloc (by simp; omega) _⟩
  clear hs ho
  go_enter Tryz.func31, Tryz.ntmps31
  go_upto_region 1 with fail
  refine wp_world (fun V => (Bx V w.heap.size #[.string g.key.car, .int .i64 g.key.num, .int .i64 g.day] 27 ∧ Bx V (w.heap.size + 1) #[.int .i64 s.row, .int .u8 s.let_] 67 ∧ Bx V (w.heap.size + 1 + 1) #[.string ⟨#[]⟩, .int .i64 0] 69) ∧ Below w.heap.size w V) HB ?_
  clear HB
  rintro V ⟨⟨b1, b2, b3⟩, hb⟩
  go_wp2
  go_loopw [8] (fun i wr => ∃ k : Nat, k ≤ n ∧ i = .int .i64 k ∧ Hid (∀ j r, j < k → m[j]? = some r → r.c ≠ ⟨g, s⟩) ∧ (Bx wr w.heap.size #[.string g.key.car, .int .i64 g.key.num, .int .i64 g.day] 27 ∧ Bx wr (w.heap.size + 1) #[.int .i64 s.row, .int .u8 s.let_] 67 ∧ Bx wr (w.heap.size + 1 + 1) #[.string ⟨#[]⟩, .int .i64 0] 69) ∧ Below w.heap.size w wr) (fun i _ => n - (intOf i).toNat)
  case atStart => exact ⟨0, Nat.zero_le _, rfl, fun j r hj => absurd hj (by omega), ⟨b1, b2, b3⟩, hb⟩
  case round =>
    clear b1 b2 b3 hb
    obtain ⟨k, hk, rfl, HN, ⟨b1, b2, b3⟩, hb⟩ := hrel
    have HB := Lib.hid hb
    have HB1 := Lib.hid b1
    have HB2 := Lib.hid b2
    have HB3 := Lib.hid b3
    have zw := hb.size
    have z1 := b1.lt
    have z2 := b2.lt
    have z3 := b3.lt
    by_cases hlt : k < n
    · obtain ⟨b0, o0, r, hA, _, hb0, hx, hok, d0, d1, d2, d3, d4, d5, d6⟩ := (Sl.below HS.out hb hhi).hr_ hlt
      subst hA
      have i0 : (0 : Int) ≤ k := by omega
      have i1 : (k : Int) < n := by omega
      have hb0w : b0 < wr.heap.size := by omega
      have HX := Lib.hid hx.out
      have c1 := b1.cells
      have c2 := b2.cells
      have hg := fun u => eql_lg r.c.leg g u
      have hss := fun u => eql_sit r.c.seat.row s.row r.c.seat.let_ s.let_ u
      rw [dec_sit] at hss
      clear hb hx hok b1 b2 b3
      by_cases e1 : r.c.leg = g
      · rw [decide_eq_true e1] at hg
        by_cases e2 : r.c.seat = s
        · rw [decide_eq_true e2] at hss
          have HE : Hid (o = some r.h) := HO.out.symm.trans (whoR_at HN.out HX.out (by rw [← e1, ← e2]))
          clear e1 e2
          go_upto_region 4 with fail
          refine wp_region_below (by kernel_rfl) (by kernel_rfl) ?_
          intro q9
          repeat
            (refine QH.step (fun K9 hK9 => ?_)
             go_simp
             first
             | (refine hK9 _ ?_; clear hK9 K9)
             | (apply Exists.intro
                refine ⟨fun _ => ?_, hK9 _ ?_⟩
                · first | fail
                clear hK9 K9))
          refine QH.nil_ ?_
          clear q9
          rintro ⟨V9, hV9⟩
          dsimp only
          have hB9 := Lib.hid (HB.out.trans (hV9.mono zw))
          have hB39 := HB3.out.below hV9 z3
          have e5 := (hV9.cell (p := ⟨b0, o0 + k * 7 + 5, none⟩) hb0w).trans d5
          have e6 := (hV9.cell (p := ⟨b0, o0 + k * 7 + 6, none⟩) hb0w).trans d6
          have z39 := hB39.lt
          clear hV9 c1 c2 d0 d1 d2 d3 d4 d5 d6 hg hss
          have f3 := hB39.free
          have c3 := hB39.cells
          have HB39 := Lib.hid hB39
          clear hB39
          go_wp2
          refine ret_hb Tryz.results31 ((HB39.out.put 0 (.string r.h.loc)).put 1 (.int .i64 r.h.pax)) rfl rfl rfl rfl ?_
          exact ⟨by rw [HE.out]; rfl, (hB9.out.setCell (by simp <;> omega) _).setCell (by simp <;> omega) _⟩
        · rw [decide_eq_false e2] at hss
          have HN2 : Hid (∀ j t, j < k + 1 → m[j]? = some t → t.c ≠ ⟨g, s⟩) := fun j t hj ht => by
            by_cases hjk : j < k
            · exact HN.out j t hjk ht
            · obtain rfl : j = k := by omega
              rw [HX.out] at ht
              injection ht with ht
              subst ht
              exact fun h => e2 (congrArg Hpl.seat h)
          clear e1 e2
          go_upto_region 4 with fail
          refine wp_region_below (by kernel_rfl) (by kernel_rfl) ?_
          intro q9
          repeat
            (refine QH.step (fun K9 hK9 => ?_)
             go_simp
             first
             | (refine hK9 _ ?_; clear hK9 K9)
             | (apply Exists.intro
                refine ⟨fun _ => ?_, hK9 _ ?_⟩
                · first | fail
                clear hK9 K9))
          refine QH.nil_ ?_
          clear q9
          rintro ⟨V9, hV9⟩
          dsimp only
          have hB9 := Lib.hid (HB.out.trans (hV9.mono zw))
          go_wp2
          go_roundw
          case rel => exact ⟨k + 1, by omega, by go_num, HN2, ⟨HB1.out.below hV9 z1, HB2.out.below hV9 z2, HB3.out.below hV9 z3⟩, hB9.out⟩
          case measure => simp [intOf]; omega
      · rw [decide_eq_false e1] at hg
        have HN2 : Hid (∀ j t, j < k + 1 → m[j]? = some t → t.c ≠ ⟨g, s⟩) := fun j t hj ht => by
          by_cases hjk : j < k
          · exact HN.out j t hjk ht
          · obtain rfl : j = k := by omega
            rw [HX.out] at ht
            injection ht with ht
            subst ht
            exact fun h => e1 (congrArg Hpl.leg h)
        clear e1
        go_upto_region 4 with fail
        refine wp_region_below (by kernel_rfl) (by kernel_rfl) ?_
        intro q9
        repeat
          (refine QH.step (fun K9 hK9 => ?_)
           go_simp
           first
           | (refine hK9 _ ?_; clear hK9 K9)
           | (apply Exists.intro
              refine ⟨fun _ => ?_, hK9 _ ?_⟩
              · first | fail
              clear hK9 K9))
        refine QH.nil_ ?_
        clear q9
        rintro ⟨V9, hV9⟩
        dsimp only
        have hB9 := Lib.hid (HB.out.trans (hV9.mono zw))
        go_wp2
        go_roundw
        case rel => exact ⟨k + 1, by omega, by go_num, HN2, ⟨HB1.out.below hV9 z1, HB2.out.below hV9 z2, HB3.out.below hV9 z3⟩, hB9.out⟩
        case measure => simp [intOf]; omega
    · obtain rfl : n = k := by omega
      have HE : Hid (o = none) := HO.out.symm.trans (whoR_no fun j t ht => HN.out j t (by rw [← HL.out]; exact (List.getElem?_eq_some_iff.1 ht).1) ht)
      have f3 := b3.free
      have c3 := b3.cells
      clear b1 b2 b3 hb
      go_wp2
      refine ret_hb Tryz.results31 ((HB3.out.put 0 (.string ⟨#[]⟩)).put 1 (.int .i64 0)) rfl rfl rfl rfl ?_
      exact ⟨by rw [HE.out]; rfl, (HB.out.setCell (by simp <;> omega) _).setCell (by simp <;> omega) _⟩
set_option maxRecDepth 100000 in
set_option maxHeartbeats 4000000 in
theorem rlegsH_any (m : List HRow) (A : Option Addr) (n c : Nat) (w : World) (lo hi : Nat) (hs : Sl w lo hi tHR A n m) (hn : n ≤ 1000) (hhi : hi ≤ w.heap.size) :
    Calls Tryz.prog 43 #[.slice A n c] w (RetOwn w 27 tLeg (legsH m)) := by
  have HS := Lib.hid hs
  have HL := Lib.hid hs.len
  clear hs
  go_enter Tryz.func43, Tryz.ntmps43
  go_wp2
  go_loopw [3, 4] (fun v i wr => ∃ (k : Nat) (A' : Option Addr) (n' c' : Nat), k ≤ n ∧ i = .int .i64 k ∧ v = .slice A' n' c' ∧ Own wr w.heap.size 27 tLeg (.slice A' n' c') (legsH (m.take k)) ∧ Below w.heap.size w wr) (fun _ i _ => n - (intOf i).toNat)
  case atStart => exact ⟨0, none, 0, 0, Nat.zero_le _, rfl, rfl, Own.nil_ _ _ _ _, Below.refl _ _⟩
  case round =>
    obtain ⟨k, A', n', c', hk, rfl, rfl, ho, hb⟩ := hrel
    have HO := Lib.hid ho
    have HB := Lib.hid hb
    have hz := hb.size
    clear ho hb
    by_cases hlt : k < n
    · obtain ⟨b0, o0, r, hA, _, _, hx, hok, d0, d1, d2, d3, d4, d5, d6⟩ := (HS.out.below HB.out hhi).hr_ hlt
      subst hA
      have i0 : (0 : Int) ≤ k := by omega
      have i1 : (k : Int) < n := by omega
      have hn' : n' ≤ 100000 := by
        have h1 := HO.out.sl.len
        have h2 := legsH_len (m.take k) []
        have h3 : (legsH (m.take k)).length ≤ 0 + (m.take k).length := h2
        rw [List.length_take] at h3
        omega
      have hst := Lib.hid (show legsH (m.take (k + 1)) = puG r.c.leg (legsH (m.take k)) from legsH_next hx.out)
      have HOK := Lib.hid hok
      clear hok hx
      go_wp2_with fail
      refine (rPut_any (legsH (m.take k)) A' n' c' r.c.leg wr w.heap.size wr.heap.size HO.out.sl HOK.out.1.1 hn' (Nat.le_refl _)).mono ?_
      rintro e w1 ⟨A1, c1, rfl, ho1, hb1⟩
      have HO1 := Lib.hid (ho1.more hz)
      have HB1 := Lib.hid (HB.out.trans (hb1.mono hz))
      clear ho1 hb1 d0 d1 d2 d3 d4 d5 d6
      go_wp2
      go_roundw
      case rel => exact ⟨k + 1, A1, _, c1, by omega, by go_num, rfl, by rw [hst.out]; exact HO1.out, HB1.out⟩
      case measure => simp [intOf]; omega
    · obtain rfl : n = k := by omega
      have HF : Hid (m.take n = m) := List.take_of_length_le (Nat.le_of_eq HL.out)
      go_wp2
      go_ret
      refine RetOwn.mk' ?_ HB.out
      have h := HO.out
      rw [HF.out] at h
      exact h
end Go.Proofs.YtlkdefmceghmnaaGreat
namespace Go.Proofs.YtlkdefmceghmnaaGreat
set_option linter.unusedVariables false
open Go Go.RowKit Go.Sort
theorem ltHd_no {a b : Hld} (h : ¬ ltHd a b = true) : b.seat.row < a.seat.row ∨ (a.seat.row = b.seat.row ∧ b.seat.let_ ≤ a.seat.let_) := by
  unfold ltHd ltX ltNo at h
  simp only [Bool.or_eq_true, Bool.and_eq_true, decide_eq_true_eq, Bool.and_false, Bool.or_false] at h
  omega
set_option maxRecDepth 100000 in
set_option maxHeartbeats 16000000 in
theorem ron_any (m : List HRow) (A : Option Addr) (n c : Nat) (g : Leg) (w : World) (lo hi : Nat) (hs : Sl w lo hi tHR A n m) (hn : n ≤ 1000) (hhi : hi ≤ w.heap.size) :
    Calls Tryz.prog 41 #[.slice A n c, .agg #[.string g.key.car, .int .i64 g.key.num, .int .i64 g.day]] w (RetOwn w 89 tHld (onH m g)) := by
  have HS := Lib.hid hs
  have HL := Lib.hid hs.len
  have HB := BB.start w #[.string g.key.car, .int .i64 g.key.num, .int .i64 g.day] 27
  clear hs
  go_enter Tryz.func41, Tryz.ntmps41
  go_upto_region 1 with fail
  refine wp_world (BB w #[.string g.key.car, .int .i64 g.key.num, .int .i64 g.day] 27) HB ?_
  clear HB
  intro W0 hG0
  go_wp2
  go_loopw [5, 6] (fun v i wr => ∃ (k : Nat) (A' : Option Addr) (n' c' : Nat), k ≤ n ∧ i = .int .i64 k ∧ v = .slice A' n' c' ∧ Own wr (w.heap.size + 1) 89 tHld (.slice A' n' c') (onH (m.take k) g) ∧ BB w #[.string g.key.car, .int .i64 g.key.num, .int .i64 g.day] 27 wr) (fun _ i _ => n - (intOf i).toNat)
  case atStart => exact ⟨0, none, 0, 0, Nat.zero_le _, rfl, rfl, Own.nil_ _ _ _ _, hG0⟩
  case round =>
    clear hG0
    obtain ⟨k, A5, n5, c5, hk, rfl, rfl, ho, hG⟩ := hrel
    have HO := Lib.hid ho
    have HBB := Lib.hid hG
    have hz : w.heap.size + 1 ≤ wr.heap.size := hG.lt
    clear ho
    by_cases hlt : k < n
    · obtain ⟨b0, o0, r, hA, _, _, hx, hok, d0, d1, d2, d3, d4, d5, d6⟩ := (HS.out.below hG.2 hhi).hr_ hlt
      subst hA
      have i0 : (0 : Int) ≤ k := by omega
      have i1 : (k : Int) < n := by omega
      have hb0w : b0 < wr.heap.size := by omega
      have hb0w2 : b0 < w.heap.size := by omega
      have HX := Lib.hid hx.out
      have HXO : Hid (tHld.wf (toHld r)) := ⟨hok.1.2, hok.2⟩
      have HL5 : Hid ((onH (m.take k) g).length = n5) := HO.out.sl.len
      have hn5 : n5 ≤ 1000 := by
        have h1 := HL5.out
        have h2 : (onH (m.take k) g).length ≤ 0 + (m.take k).length := onH_len g (m.take k) []
        rw [List.length_take] at h2
        omega
      have c1 := hG.1.cells
      have zg := hG.1.lt
      have hk := fun u => neq_lg r.c.leg g u
      clear hx hok
      by_cases e : r.c.leg = g
      rotate_left
      · rw [decide_eq_false e] at hk
        have HST : Hid (onH (m.take (k + 1)) g = onH (m.take k) g) := by show _ = _; rw [onH_next HX.out]; unfold stepH; rw [if_neg e]
        clear e hG
        go_upto_region 5 with fail
        refine wp_region_below (by kernel_rfl) (by kernel_rfl) ?_
        intro q9
        repeat
          (refine QH.step (fun K9 hK9 => ?_)
           go_simp
           first
           | (refine hK9 _ ?_; clear hK9 K9)
           | (apply Exists.intro
              refine ⟨fun _ => ?_, hK9 _ ?_⟩
              · first | fail
              clear hK9 K9))
        refine QH.nil_ ?_
        clear q9
        rintro ⟨V9, hV9⟩
        dsimp only
        go_wp2
        go_roundw
        case rel => exact ⟨k + 1, A5, n5, c5, by omega, by go_num, rfl, by rw [HST.out]; exact HO.out.keep hV9, HBB.out.step hV9⟩
        case measure => simp [intOf]; omega
      · rw [decide_eq_true e] at hk
        have HST : Hid (onH (m.take (k + 1)) g = insL ltHd (toHld r) (onH (m.take k) g)) := by show _ = _; rw [onH_next HX.out]; unfold stepH; rw [if_pos e]
        clear e hG
        go_upto_region 5 with fail
        refine wp_region_below (by kernel_rfl) (by kernel_rfl) ?_
        intro q9
        repeat
          (refine QH.step (fun K9 hK9 => ?_)
           go_simp
           first
           | (refine hK9 _ ?_; clear hK9 K9)
           | (apply Exists.intro
              refine ⟨fun _ => ?_, hK9 _ ?_⟩
              · first | fail
              clear hK9 K9))
        refine QH.nil_ ?_
        clear q9
        rintro ⟨V9, hV9⟩
        dsimp only
        have hG9 := HBB.out.step hV9
        have ho9 := HO.out.keep hV9
        have e3 := (hV9.cell (p := ⟨b0, o0 + k * 7 + 3, none⟩) hb0w).trans d3
        have e4 := (hV9.cell (p := ⟨b0, o0 + k * 7 + 4, none⟩) hb0w).trans d4
        have e5 := (hV9.cell (p := ⟨b0, o0 + k * 7 + 5, none⟩) hb0w).trans d5
        have e6 := (hV9.cell (p := ⟨b0, o0 + k * 7 + 6, none⟩) hb0w).trans d6
        clear hV9 c1 d0 d1 d2 d3 d4 d5 d6 hk HO HBB
        go_upto_region 8 with fail
        refine wp_world (fun V => ∃ kx, (kx = V9.heap.size ∧ Bx V kx #[.int .i64 r.c.seat.row, .int .u8 r.c.seat.let_, .string r.h.loc, .int .i64 r.h.pax] 89) ∧ BB w #[.string g.key.car, .int .i64 g.key.num, .int .i64 g.day] 27 V ∧ Own V (w.heap.size + 1) 89 tHld (.slice A5 n5 c5) (onH (m.take k) g)) ⟨_, ⟨rfl, Bx.new _ _ _⟩, hG9.step ((Below.refl _ _).alloc (Nat.le_refl _) _), ho9.keep ((Below.refl _ _).alloc (Nat.le_refl _) _)⟩ ?_
        clear hG9 ho9 e3 e4 e5 e6
        rintro V ⟨kx, ⟨hkx, bX⟩, hG, ho⟩
        try rw [← hkx]
        have BXV := Lib.hid bX
        have HBBV := Lib.hid hG
        have HSL := Lib.hid ho.sl
        have HBW := Lib.hid hG.2
        have zV0 : w.heap.size ≤ V.heap.size := hG.2.size
        have zV1 : w.heap.size + 1 ≤ V.heap.size := hG.lt
        clear bX hG ho hkx
        go_wp2
        go_loopw [7, 9, 10] (fun v dn i wr => ∃ (j : Nat) (q : Bool) (out2 : List Hld), j ≤ n5 ∧ i = .int .i64 j ∧ dn = .bool q ∧ Hid (foH (toHld r) ((onH (m.take k) g).take j) = (out2, q)) ∧ out2.length ≤ n5 + 1 ∧ Own wr V.heap.size 89 tHld v out2 ∧ Below V.heap.size V wr) (fun _ _ i _ => n5 - (intOf i).toNat)
        case atStart => exact ⟨0, false, [], Nat.zero_le _, rfl, rfl, rfl, by simp, Own.nil_ _ _ _ _, Below.refl _ _⟩
        case round =>
          obtain ⟨j, qd, out2, hj, rfl, rfl, HFO2, hlen2, ho2, hbr⟩ := hrel
          have HO2 := Lib.hid ho2
          have HBV := Lib.hid hbr
          have zr := hbr.size
          clear ho2
          by_cases hlt2 : j < n5
          · obtain ⟨b4, o4, y, hA4, _, hb4, hy, hyok, d0, d1, d2, d3⟩ := (Sl.below HSL.out hbr (Nat.le_refl _)).hld_ hlt2
            subst hA4
            have j0 : (0 : Int) ≤ j := by omega
            have j1 : (j : Int) < n5 := by omega
            have hb4w : b4 < wr.heap.size := by omega
            have HY := Lib.hid hy.out
            have HYO := Lib.hid hyok
            have hst := Lib.hid (show foH (toHld r) ((onH (m.take k) g).take (j + 1)) = stH (toHld r) (out2, qd) y by rw [foH_next hy.out, HFO2.out])
            have hln : Hid (∀ out' q', foH (toHld r) ((onH (m.take k) g).take (j + 1)) = (out', q') → out'.length ≤ n5 + 1) := fun out' q' h => by
              have h1 := (foH_len (toHld r) ((onH (m.take k) g).take (j + 1)) [] false).1
              have h2 : (foH (toHld r) ((onH (m.take k) g).take (j + 1))).1.length ≤ 0 + ((onH (m.take k) g).take (j + 1)).length + 1 := h1
              rw [h, List.length_take, HL5.out] at h2
              dsimp only at h2
              omega
            have cx := (BXV.out.below hbr BXV.out.lt).cells
            have zx : kx < wr.heap.size := by have := BXV.out.lt; omega
            clear hy hyok
            go_upto_region 12 with fail
            rcases qd with _ | _
            · by_cases hlt3 : ltHd (toHld r) y = true
              · have hf := Lib.hid (show foH (toHld r) ((onH (m.take k) g).take (j + 1)) = (out2 ++ [toHld r] ++ [y], true) by rw [hst.out]; unfold stH; rw [if_pos ⟨rfl, hlt3⟩])
                rcases ltHd_cases hlt3 with hc | ⟨hc1, hc2⟩
                · have t1 : decide (r.c.seat.row < y.seat.row) = true := decide_eq_true hc
                  clear hc hlt3
                  refine wp_region_below (by kernel_rfl) (by kernel_rfl) ?_
                  intro q9
                  repeat
                    (refine QH.step (fun K9 hK9 => ?_)
                     go_simp
                     first
                     | (refine hK9 _ ?_; clear hK9 K9)
                     | (apply Exists.intro
                        refine ⟨fun _ => ?_, hK9 _ ?_⟩
                        · first | fail
                        clear hK9 K9))
                  refine QH.nil_ ?_
                  clear q9
                  rintro ⟨V9, hV9⟩
                  dsimp only
                  have hB9 := HBV.out.trans (hV9.mono HBV.out.size)
                  have ho9 := HO2.out.keep hV9
                  have hz9 : V.heap.size ≤ V9.heap.size := hB9.size
                  have cx9 := (BXV.out.below hB9 BXV.out.lt).cells
                  have e0 := (hV9.cell (p := ⟨b4, o4 + j * 4, none⟩) hb4w).trans d0
                  have e1 := (hV9.cell (p := ⟨b4, o4 + j * 4 + 1, none⟩) hb4w).trans d1
                  have e2 := (hV9.cell (p := ⟨b4, o4 + j * 4 + 2, none⟩) hb4w).trans d2
                  have e3 := (hV9.cell (p := ⟨b4, o4 + j * 4 + 3, none⟩) hb4w).trans d3
                  clear hV9 cx d0 d1 d2 d3 hbr
                  go_wp2_with (first
                    | (at_builtin; refine push_law rfl (.tmp 73) (.tmp 75) rfl sl_hld rfl ho9 (toHld r) HXO.out _ rfl rfl (by exact hz9) (by omega) ?_; intro v1 w1 ho1 hb1; have g0 := (hb1.cell (p := ⟨b4, o4 + j * 4, none⟩) hb4).trans e0; have g1 := (hb1.cell (p := ⟨b4, o4 + j * 4 + 1, none⟩) hb4).trans e1; have g2 := (hb1.cell (p := ⟨b4, o4 + j * 4 + 2, none⟩) hb4).trans e2; have g3 := (hb1.cell (p := ⟨b4, o4 + j * 4 + 3, none⟩) hb4).trans e3; have hB1 := hB9.trans hb1; have hz1 : V.heap.size ≤ w1.heap.size := hB1.size; have hl1 : (out2 ++ [toHld r]).length ≤ n5 + 2 := (by simp; omega))
                    | (at_builtin; refine push_law rfl (.tmp 77) (.tmp 82) rfl sl_hld rfl ho1 y HYO.out _ rfl rfl (by exact hz1) (by omega) ?_; intro v2 w2 ho2 hb2))
                  go_roundw
                  case rel => exact ⟨j + 1, true, _, by omega, by go_num, rfl, hf, hln.out _ _ hf.out, ho2, hB1.trans hb2⟩
                  case measure => simp [intOf]; omega
                · have t1 : decide (r.c.seat.row < y.seat.row) = false := decide_eq_false (by have : r.c.seat.row = y.seat.row := hc1; omega)
                  have t2 : (r.c.seat.row == y.seat.row) = true := by have : r.c.seat.row = y.seat.row := hc1; simp [this]
                  have t3 : decide (r.c.seat.let_ < y.seat.let_) = true := decide_eq_true hc2
                  clear hc1 hc2 hlt3
                  refine wp_region_below (by kernel_rfl) (by kernel_rfl) ?_
                  intro q9
                  repeat
                    (refine QH.step (fun K9 hK9 => ?_)
                     go_simp
                     first
                     | (refine hK9 _ ?_; clear hK9 K9)
                     | (apply Exists.intro
                        refine ⟨fun _ => ?_, hK9 _ ?_⟩
                        · first | fail
                        clear hK9 K9))
                  refine QH.nil_ ?_
                  clear q9
                  rintro ⟨V9, hV9⟩
                  dsimp only
                  have hB9 := HBV.out.trans (hV9.mono HBV.out.size)
                  have ho9 := HO2.out.keep hV9
                  have hz9 : V.heap.size ≤ V9.heap.size := hB9.size
                  have cx9 := (BXV.out.below hB9 BXV.out.lt).cells
                  have e0 := (hV9.cell (p := ⟨b4, o4 + j * 4, none⟩) hb4w).trans d0
                  have e1 := (hV9.cell (p := ⟨b4, o4 + j * 4 + 1, none⟩) hb4w).trans d1
                  have e2 := (hV9.cell (p := ⟨b4, o4 + j * 4 + 2, none⟩) hb4w).trans d2
                  have e3 := (hV9.cell (p := ⟨b4, o4 + j * 4 + 3, none⟩) hb4w).trans d3
                  clear hV9 cx d0 d1 d2 d3 hbr
                  go_wp2_with (first
                    | (at_builtin; refine push_law rfl (.tmp 73) (.tmp 75) rfl sl_hld rfl ho9 (toHld r) HXO.out _ rfl rfl (by exact hz9) (by omega) ?_; intro v1 w1 ho1 hb1; have g0 := (hb1.cell (p := ⟨b4, o4 + j * 4, none⟩) hb4).trans e0; have g1 := (hb1.cell (p := ⟨b4, o4 + j * 4 + 1, none⟩) hb4).trans e1; have g2 := (hb1.cell (p := ⟨b4, o4 + j * 4 + 2, none⟩) hb4).trans e2; have g3 := (hb1.cell (p := ⟨b4, o4 + j * 4 + 3, none⟩) hb4).trans e3; have hB1 := hB9.trans hb1; have hz1 : V.heap.size ≤ w1.heap.size := hB1.size; have hl1 : (out2 ++ [toHld r]).length ≤ n5 + 2 := (by simp; omega))
                    | (at_builtin; refine push_law rfl (.tmp 77) (.tmp 82) rfl sl_hld rfl ho1 y HYO.out _ rfl rfl (by exact hz1) (by omega) ?_; intro v2 w2 ho2 hb2))
                  go_roundw
                  case rel => exact ⟨j + 1, true, _, by omega, by go_num, rfl, hf, hln.out _ _ hf.out, ho2, hB1.trans hb2⟩
                  case measure => simp [intOf]; omega
              · have hf := Lib.hid (show foH (toHld r) ((onH (m.take k) g).take (j + 1)) = (out2 ++ [y], false) by rw [hst.out]; unfold stH; rw [if_neg (fun h => hlt3 h.2)])
                rcases ltHd_no hlt3 with hc | ⟨hc1, hc2⟩
                · have hc' : y.seat.row < r.c.seat.row := hc
                  have t1 : decide (r.c.seat.row < y.seat.row) = false := decide_eq_false (by omega)
                  have t2 : (r.c.seat.row == y.seat.row) = false := beq_eq_false_iff_ne.2 (by omega)
                  clear hc hc' hlt3
                  refine wp_region_below (by kernel_rfl) (by kernel_rfl) ?_
                  intro q9
                  repeat
                    (refine QH.step (fun K9 hK9 => ?_)
                     go_simp
                     first
                     | (refine hK9 _ ?_; clear hK9 K9)
                     | (apply Exists.intro
                        refine ⟨fun _ => ?_, hK9 _ ?_⟩
                        · first | fail
                        clear hK9 K9))
                  refine QH.nil_ ?_
                  clear q9
                  rintro ⟨V9, hV9⟩
                  dsimp only
                  have hB9 := HBV.out.trans (hV9.mono HBV.out.size)
                  have ho9 := HO2.out.keep hV9
                  have hz9 : V.heap.size ≤ V9.heap.size := hB9.size
                  have cx9 := (BXV.out.below hB9 BXV.out.lt).cells
                  have e0 := (hV9.cell (p := ⟨b4, o4 + j * 4, none⟩) hb4w).trans d0
                  have e1 := (hV9.cell (p := ⟨b4, o4 + j * 4 + 1, none⟩) hb4w).trans d1
                  have e2 := (hV9.cell (p := ⟨b4, o4 + j * 4 + 2, none⟩) hb4w).trans d2
                  have e3 := (hV9.cell (p := ⟨b4, o4 + j * 4 + 3, none⟩) hb4w).trans d3
                  clear hV9 cx d0 d1 d2 d3 hbr
                  go_wp2_with (at_builtin; refine push_law rfl (.tmp 77) (.tmp 82) rfl sl_hld rfl ho9 y HYO.out _ rfl rfl (by exact hz9) (by omega) ?_; intro v2 w2 ho2 hb2)
                  go_roundw
                  case rel => exact ⟨j + 1, false, _, by omega, by go_num, rfl, hf, hln.out _ _ hf.out, ho2, hB9.trans hb2⟩
                  case measure => simp [intOf]; omega
                · have hc' : r.c.seat.row = y.seat.row := hc1
                  have hc'' : y.seat.let_ ≤ r.c.seat.let_ := hc2
                  have t1 : decide (r.c.seat.row < y.seat.row) = false := decide_eq_false (by omega)
                  have t2 : (r.c.seat.row == y.seat.row) = true := by simp [hc']
                  have t3 : decide (r.c.seat.let_ < y.seat.let_) = false := decide_eq_false (by omega)
                  clear hc1 hc2 hc' hc'' hlt3
                  refine wp_region_below (by kernel_rfl) (by kernel_rfl) ?_
                  intro q9
                  repeat
                    (refine QH.step (fun K9 hK9 => ?_)
                     go_simp
                     first
                     | (refine hK9 _ ?_; clear hK9 K9)
                     | (apply Exists.intro
                        refine ⟨fun _ => ?_, hK9 _ ?_⟩
                        · first | fail
                        clear hK9 K9))
                  refine QH.nil_ ?_
                  clear q9
                  rintro ⟨V9, hV9⟩
                  dsimp only
                  have hB9 := HBV.out.trans (hV9.mono HBV.out.size)
                  have ho9 := HO2.out.keep hV9
                  have hz9 : V.heap.size ≤ V9.heap.size := hB9.size
                  have cx9 := (BXV.out.below hB9 BXV.out.lt).cells
                  have e0 := (hV9.cell (p := ⟨b4, o4 + j * 4, none⟩) hb4w).trans d0
                  have e1 := (hV9.cell (p := ⟨b4, o4 + j * 4 + 1, none⟩) hb4w).trans d1
                  have e2 := (hV9.cell (p := ⟨b4, o4 + j * 4 + 2, none⟩) hb4w).trans d2
                  have e3 := (hV9.cell (p := ⟨b4, o4 + j * 4 + 3, none⟩) hb4w).trans d3
                  clear hV9 cx d0 d1 d2 d3 hbr
                  go_wp2_with (at_builtin; refine push_law rfl (.tmp 77) (.tmp 82) rfl sl_hld rfl ho9 y HYO.out _ rfl rfl (by exact hz9) (by omega) ?_; intro v2 w2 ho2 hb2)
                  go_roundw
                  case rel => exact ⟨j + 1, false, _, by omega, by go_num, rfl, hf, hln.out _ _ hf.out, ho2, hB9.trans hb2⟩
                  case measure => simp [intOf]; omega
            · have hf := Lib.hid (show foH (toHld r) ((onH (m.take k) g).take (j + 1)) = (out2 ++ [y], true) by rw [hst.out]; unfold stH; rw [if_neg (fun h => by cases h.1)])
              refine wp_region_below (by kernel_rfl) (by kernel_rfl) ?_
              intro q9
              repeat
                (refine QH.step (fun K9 hK9 => ?_)
                 go_simp
                 first
                 | (refine hK9 _ ?_; clear hK9 K9)
                 | (apply Exists.intro
                    refine ⟨fun _ => ?_, hK9 _ ?_⟩
                    · first | fail
                    clear hK9 K9))
              refine QH.nil_ ?_
              clear q9
              rintro ⟨V9, hV9⟩
              dsimp only
              have hB9 := HBV.out.trans (hV9.mono HBV.out.size)
              have ho9 := HO2.out.keep hV9
              have hz9 : V.heap.size ≤ V9.heap.size := hB9.size
              have cx9 := (BXV.out.below hB9 BXV.out.lt).cells
              have e0 := (hV9.cell (p := ⟨b4, o4 + j * 4, none⟩) hb4w).trans d0
              have e1 := (hV9.cell (p := ⟨b4, o4 + j * 4 + 1, none⟩) hb4w).trans d1
              have e2 := (hV9.cell (p := ⟨b4, o4 + j * 4 + 2, none⟩) hb4w).trans d2
              have e3 := (hV9.cell (p := ⟨b4, o4 + j * 4 + 3, none⟩) hb4w).trans d3
              clear hV9 cx d0 d1 d2 d3 hbr
              go_wp2_with (at_builtin; refine push_law rfl (.tmp 77) (.tmp 82) rfl sl_hld rfl ho9 y HYO.out _ rfl rfl (by exact hz9) (by omega) ?_; intro v2 w2 ho2 hb2)
              go_roundw
              case rel => exact ⟨j + 1, true, _, by omega, by go_num, rfl, hf, hln.out _ _ hf.out, ho2, hB9.trans hb2⟩
              case measure => simp [intOf]; omega
          · obtain rfl : n5 = j := by omega
            have HF2 : Hid ((onH (m.take k) g).take n5 = onH (m.take k) g) := List.take_of_length_le (Nat.le_of_eq HL5.out)
            rw [HF2.out] at HFO2
            have hfin0 := foH_fin (toHld r) (onH (m.take k) g) []
            have hfo : (onH (m.take k) g).foldl (stH (toHld r)) ([], false) = (out2, qd) := HFO2.out
            rw [hfo, List.nil_append] at hfin0
            dsimp only at hfin0
            have hB2 := HBW.out.trans (hbr.mono zV0)
            have cx := (BXV.out.below hbr BXV.out.lt).cells
            have hBBr := HBBV.out.step hbr
            rcases qd with _ | _
            · have hstep : onH (m.take (k + 1)) g = out2 ++ [toHld r] := by rw [HST.out, ← hfin0]; rfl
              have HSTEP := Lib.hid hstep
              clear hfin0 hfo hbr
              go_wp2_with (at_builtin; refine push_law rfl (.tmp 86) (.tmp 88) rfl sl_hld rfl HO2.out (toHld r) HXO.out _ rfl rfl (by exact zr) (by omega) ?_; intro v2 w2 ho2 hb2)
              obtain ⟨A9, c9, hv9⟩ := ho2.form
              subst hv9
              go_roundw
              case rel => exact ⟨k + 1, A9, _, c9, by omega, by go_num, rfl, by rw [HSTEP.out]; exact ho2.more zV1, hBBr.over (hb2.mono zV1)⟩
              case measure => simp [intOf]; omega
            · have hstep : onH (m.take (k + 1)) g = out2 := by rw [HST.out, ← hfin0]; rfl
              have HSTEP := Lib.hid hstep
              obtain ⟨A9, c9, hv9⟩ := HO2.out.form
              subst hv9
              clear hfin0 hfo hbr
              go_wp2
              go_roundw
              case rel => exact ⟨k + 1, A9, _, c9, by omega, by go_num, rfl, by rw [HSTEP.out]; exact HO2.out.more zV1, hBBr⟩
              case measure => simp [intOf]; omega
    · obtain rfl : n = k := by omega
      have HF : Hid (m.take n = m) := List.take_of_length_le (Nat.le_of_eq HL.out)
      rw [HF.out] at HO
      clear hG
      go_wp2
      go_ret
      exact RetOwn.mk' (HO.out.more (by omega)) HBB.out.2
end Go.Proofs.YtlkdefmceghmnaaGreat
namespace Go.Proofs.YtlkdefmceghmnaaGreat
set_option linter.unusedVariables false
open Go Go.RowKit Go.Sort
/-- Has a leg that seat, by the document? -/
def hasD (rl : List FlR) (pl : List PlR) (c : Hpl) : Bool := fliesF (rl.map (·.f)) c.leg && (match pl[(plnF rl c.leg.key).toNat]? with | some r => hasR r.p c.seat | none => false)
def wrongD (rl : List FlR) (pl : List PlR) (c : Hpl) : Int := if fliesF (rl.map (·.f)) c.leg = false then 9 else if hasD rl pl c = false then 15 else 0
theorem plnF_is (rs : List FlR) (k : Key) : plnF rs k = match findF (rs.map (·.f)) k with | some f => f.pln | none => 0 := by
  unfold plnF
  rw [findR_f]
  cases findR rs k <;> rfl
theorem plnF_eq {rl rs : List FlR} (ht : Tab (rl.map (·.f)) (rs.map (·.f))) (k : Key) : plnF rs k = plnF rl k := by
  rw [plnF_is, plnF_is, ht.find]
theorem hasB_D {rl rs : List FlR} {pl : List PlR} {ps : List PlM} (ht : Tab (rl.map (·.f)) (rs.map (·.f))) (hk : PlKs pl ps pl.length) (c : Hpl) : hasB rs ps c = hasD rl pl c := by
  unfold hasB hasD
  rw [ht.flies, plnF_eq ht]
  generalize (plnF rl c.leg.key).toNat = k
  congr 1
  cases h : pl[k]? with
  | some r =>
    obtain ⟨x, h1, h2⟩ := hk.2 k r (List.getElem?_eq_some_iff.1 h).1 h
    rw [h1]
    exact h2.2 c.seat
  | none =>
    have h1 : ps[k]? = none := List.getElem?_eq_none (by rw [hk.1]; exact List.getElem?_eq_none_iff.1 h)
    rw [h1]
theorem wrongB_D {rl rs : List FlR} {pl : List PlR} {ps : List PlM} (ht : Tab (rl.map (·.f)) (rs.map (·.f))) (hk : PlKs pl ps pl.length) (c : Hpl) : wrongB rs ps c = wrongD rl pl c := by
  unfold wrongB wrongD
  rw [ht.flies, hasB_D ht hk]
theorem rfind_is {rl : List FlR} {A : Option Addr} {n c : Nat} {k : Key} {pn : Int} {w : World} {lo hi : Nat} (hpl : plnF rl k = pn) (hs : FlS w lo hi A n rl) (hn : n ≤ 100000) (hhi : hi ≤ w.heap.size) :
    Calls Tryz.prog 52 #[.slice A n c, .agg #[.string k.car, .int .i64 k.num]] w fun e w' => ∃ s0 z1 s2 s3 z4 z5 z6 A6 n6 c6 bb, e = .returned (.tuple #[.agg #[.string s0, .int .i64 z1, .string s2, .string s3, .int .u8 z4, .int .i64 z5, .int .i64 z6, .slice A6 n6 c6, .int .i64 pn], .bool bb]) ∧ Below w.heap.size w w' := by
  refine (rfind_any rl A n c k w lo hi hs hn hhi).mono fun e w' h => ?_
  unfold plnF at hpl
  cases hf : findR rl k with
  | none =>
    rw [hf] at hpl h
    obtain ⟨h1, h2⟩ := h
    subst hpl
    exact ⟨_, _, _, _, _, _, _, _, _, _, _, h1, h2⟩
  | some r =>
    rw [hf] at hpl h
    obtain ⟨h1, h2⟩ := h
    subst hpl
    exact ⟨_, _, _, _, _, _, _, _, _, _, _, h1, h2⟩
set_option maxRecDepth 100000 in
set_option maxHeartbeats 8000000 in
theorem rhasD_any (rl : List FlR) (A : Option Addr) (n c : Nat) (pl : List PlR) (A2 : Option Addr) (n2 c2 : Nat) (g : Leg) (s : Sit) (w : World) (lo hi : Nat) (hs : FlS w lo hi A n rl) (hp : PlS w lo hi A2 n2 pl) (hn : n ≤ 100000) (hhi : hi ≤ w.heap.size) (hd : ∀ r ∈ pl, hdR r.p = true) (hr : ∀ f ∈ rl.map (·.f), rightB f = true) {q0 : Bool} (hq : hasD rl pl ⟨g, s⟩ = q0) :
    Calls Tryz.prog 38 #[.slice A n c, .slice A2 n2 c2, .agg #[.string g.key.car, .int .i64 g.key.num, .int .i64 g.day], .agg #[.int .i64 s.row, .int .u8 s.let_]] w fun e w' => e = .returned (.bool q0) ∧ Below w.heap.size w w' := by
  have HFS := Lib.hid hs
  have HPS := Lib.hid hp
  have HD := Lib.hid hd
  have HL2 := Lib.hid hp.sl.len
  have HQ := Lib.hid hq
  generalize hfl : fliesF (rl.map (·.f)) g = fl
  have HFL := Lib.hid hfl
  obtain ⟨pn, hpn⟩ : ∃ pn, plnF rl g.key = pn := ⟨_, rfl⟩
  have hbd := plnF_bd (fun r hr2 => hr r.f (List.mem_map_of_mem hr2)) g.key (rs := rl)
  rw [hpn] at hbd
  obtain ⟨k, rfl⟩ := Int.eq_ofNat_of_zero_le hbd.1
  have HPN := Lib.hid hpn
  have HB : (Bx ((w.alloc (.cells #[.string g.key.car, .int .i64 g.key.num, .int .i64 g.day] 27)).alloc (.cells #[.int .i64 s.row, .int .u8 s.let_] 67)) w.heap.size #[.string g.key.car, .int .i64 g.key.num, .int .i64 g.day] 27 ∧ Bx ((w.alloc (.cells #[.string g.key.car, .int .i64 g.key.num, .int .i64 g.day] 27)).alloc (.cells #[.int .i64 s.row, .int .u8 s.let_] 67)) (w.heap.size + 1) #[.int .i64 s.row, .int .u8 s.let_] 67) ∧ Below w.heap.size w ((w.alloc (.cells #[.string g.key.car, .int .i64 g.key.num, .int .i64 g.day] 27)).alloc (.cells #[.int .i64 s.row, .int .u8 s.let_] 67)) := by
    have h2 := two_boxes w #[.string g.key.car, .int .i64 g.key.num, .int .i64 g.day] #[.int .i64 s.row, .int .u8 s.let_] 27 67
    exact ⟨⟨h2.1, h2.2.1⟩, h2.2.2.below⟩
  clear hs hp hd hr hq hfl hpn hbd
  go_enter Tryz.func38, Tryz.ntmps38
  go_upto_region 1 with fail
  refine wp_world (fun V => (Bx V w.heap.size #[.string g.key.car, .int .i64 g.key.num, .int .i64 g.day] 27 ∧ Bx V (w.heap.size + 1) #[.int .i64 s.row, .int .u8 s.let_] 67) ∧ Below w.heap.size w V) HB ?_
  clear HB
  rintro V ⟨⟨b1, b2⟩, hb⟩
  have HB1 := Lib.hid b1
  have HB2 := Lib.hid b2
  have HBV := Lib.hid hb
  have zV := hb.size
  have cc1 := b1.cells
  have cc2 := b2.cells
  clear b1 b2 hb
  go_wp2_with fail
  refine (rflies_any rl A n c g V lo hi (HFS.out.below HBV.out hhi) hn (Nat.le_trans hhi zV)).mono ?_
  rintro e w1 ⟨rfl, h1⟩
  rw [HFL.out]
  have HB1 := Lib.hid (HB1.out.below h1 HB1.out.lt)
  have HB2 := Lib.hid (HB2.out.below h1 HB2.out.lt)
  have HBV := Lib.hid (HBV.out.trans (h1.mono HBV.out.size))
  have z1 := HBV.out.size
  have zz1 := h1.size
  clear cc1 cc2
  clear h1
  have cc1 := HB1.out.cells
  have cc2 := HB2.out.cells
  rcases fl with _ | _
  · have HN : Hid (false = q0) := by show _ = _; rw [← HQ.out]; unfold hasD; rw [HFL.out]; rfl
    go_wp2
    go_ret
    exact ⟨ret_bool HN.out, HBV.out⟩
  go_wp2_with fail
  refine (rfind_is HPN.out (HFS.out.below HBV.out hhi) hn (Nat.le_trans hhi z1)).mono ?_
  rintro e w2 ⟨s0, z1', s2, s3, z4, z5, z6, A6, n6, c6, bb, rfl, h2⟩
  have HB1 := Lib.hid (HB1.out.below h2 HB1.out.lt)
  have HB2 := Lib.hid (HB2.out.below h2 HB2.out.lt)
  have HBV := Lib.hid (HBV.out.trans (h2.mono HBV.out.size))
  have z2 := HBV.out.size
  have zz2 := h2.size
  clear cc1 cc2
  clear h2
  have cc1 := HB1.out.cells
  have cc2 := HB2.out.cells
  go_upto_region 4 with fail
  refine wp_world (fun V3 => Bx V3 w2.heap.size #[.string s0, .int .i64 z1', .string s2, .string s3, .int .u8 z4, .int .i64 z5, .int .i64 z6, .slice A6 n6 c6, .int .i64 k] 96 ∧ Below w2.heap.size w2 V3) ⟨Bx.new _ _ _, (Below.refl _ _).alloc (Nat.le_refl _) _⟩ ?_
  rintro V3 ⟨bF, h3⟩
  have HB1 := Lib.hid (HB1.out.below h3 HB1.out.lt)
  have HB2 := Lib.hid (HB2.out.below h3 HB2.out.lt)
  have HBV := Lib.hid (HBV.out.trans (h3.mono HBV.out.size))
  have z3 := HBV.out.size
  have zz3 := h3.size
  clear cc1 cc2
  clear h3
  have cc1 := HB1.out.cells
  have cc2 := HB2.out.cells
  have cF := bF.cells
  have zF := bF.lt
  have zb1 := HB1.out.lt
  have zb2 := HB2.out.lt
  clear bF
  by_cases hk : k < n2
  rotate_left
  · have t1 : decide ((k : Int) < n2) = false := decide_eq_false (by omega)
    have t1b : decide (k < n2) = false := decide_eq_false (by omega)
    have HN : Hid (false = q0) := by
      show _ = _
      rw [← HQ.out]
      unfold hasD
      rw [HFL.out, HPN.out, List.getElem?_eq_none (by rw [HL2.out]; show n2 ≤ ((k : Int)).toNat; omega)]
      rfl
    clear hk
    refine wp_region_below (by kernel_rfl) (by kernel_rfl) ?_
    intro q9
    repeat
      (refine QH.step (fun K9 hK9 => ?_)
       go_simp
       first
       | (refine hK9 _ ?_; clear hK9 K9)
       | (apply Exists.intro
          refine ⟨fun _ => ?_, hK9 _ ?_⟩
          · first | fail
          clear hK9 K9))
    refine QH.nil_ ?_
    clear q9
    rintro ⟨V9, hV9⟩
    dsimp only
    go_wp2
    go_ret
    exact ⟨ret_bool HN.out, HBV.out.trans (hV9.mono z3)⟩
  · have t1 : decide ((k : Int) < n2) = true := decide_eq_true (by omega)
    have t1b : decide (k < n2) = true := decide_eq_true (by omega)
    have HP3 := Lib.hid (HPS.out.below HBV.out hhi)
    obtain ⟨b0, o0, r, hA, _, hb0, hx, hwf, d0, d1, d2, d3, d4⟩ := HP3.out.pl_ hk
    subst hA
    have i0 : (0 : Int) ≤ k := by omega
    have i1 : (k : Int) < n2 := by omega
    have hb0w : b0 < V3.heap.size := by omega
    have hmem := List.mem_of_getElem? hx.out
    obtain ⟨l2, hl2, h10, f1, f2, f3, _⟩ := hdR_facts (HD.out r hmem)
    have HQ2 : Hid (hasR r.p s = q0) := by
      show _ = _
      rw [← HQ.out]
      unfold hasD
      rw [HFL.out, HPN.out]
      show _ = (true && (match pl[((k : Int)).toNat]? with | some r => hasR r.p s | none => false))
      rw [show ((k : Int)).toNat = k from rfl, hx.out]
      rfl
    have HAT := Lib.hid (HP3.out.at_ r hmem)
    have HH := Lib.hid (fun u : Blw V3 => phasR_any r s u.W lo hi hwf.1 (HAT.out.below u.b (Nat.le_trans hhi z3)) (Nat.le_trans (Nat.le_trans hhi z3) u.b.size) hwf.2.2 f1 f2 f3 hl2 h10 HQ2.out)
    clear hk hmem hx hwf
    refine wp_region_below (by kernel_rfl) (by kernel_rfl) ?_
    intro q9
    repeat
      (refine QH.step (fun K9 hK9 => ?_)
       go_simp
       first
       | (refine hK9 _ ?_; clear hK9 K9)
       | (apply Exists.intro
          refine ⟨fun _ => ?_, hK9 _ ?_⟩
          · first | (with_reducible exact Calls.blw _ (HH.out _))
          clear hK9 K9))
    refine QH.nil_ ?_
    clear q9
    rintro ⟨V9, hV9⟩
    dsimp only
    go_wp2
    go_ret
    exact ⟨ret_bool rfl, HBV.out.trans (hV9.mono z3)⟩
set_option maxRecDepth 100000 in
set_option maxHeartbeats 8000000 in
theorem rwrongD_any (rl : List FlR) (A : Option Addr) (n c : Nat) (pl : List PlR) (A2 : Option Addr) (n2 c2 : Nat) (g : Leg) (s : Sit) (w : World) (lo hi : Nat) (hs : FlS w lo hi A n rl) (hp : PlS w lo hi A2 n2 pl) (hn : n ≤ 100000) (hhi : hi ≤ w.heap.size) (hd : ∀ r ∈ pl, hdR r.p = true) (hr : ∀ f ∈ rl.map (·.f), rightB f = true) {q0 : Int} (hq : wrongD rl pl ⟨g, s⟩ = q0) :
    Calls Tryz.prog 70 #[.slice A n c, .slice A2 n2 c2, .agg #[.string g.key.car, .int .i64 g.key.num, .int .i64 g.day], .agg #[.int .i64 s.row, .int .u8 s.let_]] w fun e w' => e = .returned (.int .i64 q0) ∧ Below w.heap.size w w' := by
  have HFS := Lib.hid hs
  have HPS := Lib.hid hp
  have HD := Lib.hid hd
  have HR := Lib.hid hr
  have HQ := Lib.hid hq
  generalize hfl : fliesF (rl.map (·.f)) g = fl
  have HFL := Lib.hid hfl
  generalize hhd : hasD rl pl ⟨g, s⟩ = hh
  have HHD := Lib.hid hhd
  have HB : (Bx ((w.alloc (.cells #[.string g.key.car, .int .i64 g.key.num, .int .i64 g.day] 27)).alloc (.cells #[.int .i64 s.row, .int .u8 s.let_] 67)) w.heap.size #[.string g.key.car, .int .i64 g.key.num, .int .i64 g.day] 27 ∧ Bx ((w.alloc (.cells #[.string g.key.car, .int .i64 g.key.num, .int .i64 g.day] 27)).alloc (.cells #[.int .i64 s.row, .int .u8 s.let_] 67)) (w.heap.size + 1) #[.int .i64 s.row, .int .u8 s.let_] 67) ∧ Below w.heap.size w ((w.alloc (.cells #[.string g.key.car, .int .i64 g.key.num, .int .i64 g.day] 27)).alloc (.cells #[.int .i64 s.row, .int .u8 s.let_] 67)) := by
    have h2 := two_boxes w #[.string g.key.car, .int .i64 g.key.num, .int .i64 g.day] #[.int .i64 s.row, .int .u8 s.let_] 27 67
    exact ⟨⟨h2.1, h2.2.1⟩, h2.2.2.below⟩
  clear hs hp hd hr hq hfl hhd
  go_enter Tryz.func70, Tryz.ntmps70
  go_upto_region 1 with fail
  refine wp_world (fun V => (Bx V w.heap.size #[.string g.key.car, .int .i64 g.key.num, .int .i64 g.day] 27 ∧ Bx V (w.heap.size + 1) #[.int .i64 s.row, .int .u8 s.let_] 67) ∧ Below w.heap.size w V) HB ?_
  clear HB
  rintro V ⟨⟨b1, b2⟩, hb⟩
  have HB1 := Lib.hid b1
  have HB2 := Lib.hid b2
  have HBV := Lib.hid hb
  have zV := hb.size
  have cc1 := b1.cells
  have cc2 := b2.cells
  clear b1 b2 hb
  go_wp2_with fail
  refine (rflies_any rl A n c g V lo hi (HFS.out.below HBV.out hhi) hn (Nat.le_trans hhi zV)).mono ?_
  rintro e w1 ⟨rfl, h1⟩
  rw [HFL.out]
  have HB1 := Lib.hid (HB1.out.below h1 HB1.out.lt)
  have HB2 := Lib.hid (HB2.out.below h1 HB2.out.lt)
  have HBV := Lib.hid (HBV.out.trans (h1.mono HBV.out.size))
  have z1 := HBV.out.size
  have zz1 := h1.size
  clear cc1 cc2
  clear h1
  have cc1 := HB1.out.cells
  have cc2 := HB2.out.cells
  rcases fl with _ | _
  · have HN : Hid (9 = q0) := by show _ = _; rw [← HQ.out]; unfold wrongD; rw [HFL.out]; rfl
    go_wp2
    go_ret
    exact ⟨ret_int HN.out, HBV.out⟩
  go_wp2_with fail
  refine (rhasD_any rl A n c pl A2 n2 c2 g s w1 lo hi (HFS.out.below HBV.out hhi) (HPS.out.below HBV.out hhi) hn (Nat.le_trans hhi z1) HD.out HR.out HHD.out).mono ?_
  rintro e w2 ⟨rfl, h2⟩
  have HB1 := Lib.hid (HB1.out.below h2 HB1.out.lt)
  have HB2 := Lib.hid (HB2.out.below h2 HB2.out.lt)
  have HBV := Lib.hid (HBV.out.trans (h2.mono HBV.out.size))
  have z2 := HBV.out.size
  have zz2 := h2.size
  clear cc1 cc2
  clear h2
  have cc1 := HB1.out.cells
  have cc2 := HB2.out.cells
  rcases hh with _ | _
  · have HN : Hid (15 = q0) := by show _ = _; rw [← HQ.out]; unfold wrongD; rw [HFL.out, HHD.out]; rfl
    go_wp2
    go_ret
    exact ⟨ret_int HN.out, HBV.out⟩
  · have HN : Hid (0 = q0) := by show _ = _; rw [← HQ.out]; unfold wrongD; rw [HFL.out, HHD.out]; rfl
    go_wp2
    go_ret
    exact ⟨ret_int HN.out, HBV.out⟩
/-- Rows that lie from lo on. -/
def RS (w : World) (lo : Nat) (A : Option Addr) (n c : Nat) (m : List HRow) : Prop := Sl w lo w.heap.size tHR A n m ∧ (A = none → c = 0)
/-- What the document's Take and Free hand back. -/
def RetHR (w : World) (lo : Nat) (r : Int × List HRow) (e : Ending) (w' : World) : Prop :=
  ∃ A n c, e = .returned (.tuple #[.slice A n c, .int .i64 r.1]) ∧ RS w' lo A n c r.2 ∧ Below w.heap.size w w'
theorem RS.below {w w' : World} {lo n c : Nat} {A : Option Addr} {m : List HRow} (h : RS w lo A n c m) (hb : Below w.heap.size w w') : RS w' lo A n c m := ⟨(h.1.below hb (Nat.le_refl _)).more (Nat.le_refl _) hb.size, h.2⟩
theorem RS.of_own {w : World} {B lo n c : Nat} {A : Option Addr} {m : List HRow} (h : Own w B 146 tHR (.slice A n c) m) (hl : lo ≤ B) : RS w lo A n c m := ⟨h.sl.more hl (Nat.le_refl _), h.nil_c⟩
/-- What the rows are behind a Take; a Free. -/
def takeRw (wr : Int) (m : List HRow) (c : Hpl) (x : Hol) : Int × List HRow := if wr ≠ 0 then (wr, m) else match whoR m c with | some y => (if y = x then 8 else 14, m) | none => (0, m ++ [⟨c, x⟩])
def freeRw (wr : Int) (m : List HRow) (c : Hpl) (x : Hol) : Int × List HRow := if wr ≠ 0 then (wr, m) else match whoR m c with | some y => if y = x then (0, dropR m c) else (7, m) | none => (7, m)
theorem RetHR.mk' {w w' : World} {lo n c : Nat} {A : Option Addr} {r : Int × List HRow} {k : Int} {m : List HRow} (h : r = (k, m)) (hs : RS w' lo A n c m) (hb : Below w.heap.size w w') : RetHR w lo r (.returned (.tuple #[.slice A n c, .int .i64 k])) w' := by
  subst h
  exact ⟨A, n, c, rfl, hs, hb⟩
set_option maxRecDepth 100000 in
set_option maxHeartbeats 8000000 in
theorem rtakeH_any (rl : List FlR) (A : Option Addr) (n c : Nat) (pl : List PlR) (A2 : Option Addr) (n2 c2 : Nat) (m : List HRow) (A3 : Option Addr) (n3 c3 : Nat) (g : Leg) (s : Sit) (x : Hol) (w : World) (lo hi l3 : Nat) (hs : FlS w lo hi A n rl) (hp : PlS w lo hi A2 n2 pl) (hn : n ≤ 100000) (hhi : hi ≤ w.heap.size) (hd : ∀ r ∈ pl, hdR r.p = true) (hr : ∀ f ∈ rl.map (·.f), rightB f = true) (hm : RS w l3 A3 n3 c3 m) (hl3 : l3 ≤ w.heap.size) (hn3 : n3 ≤ 1000) (hg : g.ok) (hso : s.ok) (hxo : x.ok) {wr : Int} (hq : wrongD rl pl ⟨g, s⟩ = wr) :
    Calls Tryz.prog 32 #[.slice A n c, .slice A2 n2 c2, .slice A3 n3 c3, .agg #[.string g.key.car, .int .i64 g.key.num, .int .i64 g.day], .agg #[.int .i64 s.row, .int .u8 s.let_], .agg #[.string x.loc, .int .i64 x.pax]] w (RetHR w l3 (takeRw wr m ⟨g, s⟩ x)) := by
  have HFS := Lib.hid hs
  have HPS := Lib.hid hp
  have HD := Lib.hid hd
  have HR := Lib.hid hr
  have HWR := Lib.hid hq
  have HM := Lib.hid hm
  have HL3 := Lib.hid hm.1.len
  have HRO : Hid (HRow.ok ⟨⟨g, s⟩, x⟩) := ⟨⟨hg, hso⟩, hxo⟩
  obtain ⟨o, ho⟩ : ∃ o, whoR m ⟨g, s⟩ = o := ⟨_, rfl⟩
  have HO := Lib.hid ho
  have HB : (Bx (((w.alloc (.cells #[.string g.key.car, .int .i64 g.key.num, .int .i64 g.day] 27)).alloc (.cells #[.int .i64 s.row, .int .u8 s.let_] 67)).alloc (.cells #[.string x.loc, .int .i64 x.pax] 69)) w.heap.size #[.string g.key.car, .int .i64 g.key.num, .int .i64 g.day] 27 ∧ Bx (((w.alloc (.cells #[.string g.key.car, .int .i64 g.key.num, .int .i64 g.day] 27)).alloc (.cells #[.int .i64 s.row, .int .u8 s.let_] 67)).alloc (.cells #[.string x.loc, .int .i64 x.pax] 69)) (w.heap.size + 1) #[.int .i64 s.row, .int .u8 s.let_] 67 ∧ Bx (((w.alloc (.cells #[.string g.key.car, .int .i64 g.key.num, .int .i64 g.day] 27)).alloc (.cells #[.int .i64 s.row, .int .u8 s.let_] 67)).alloc (.cells #[.string x.loc, .int .i64 x.pax] 69)) (w.heap.size + 1 + 1) #[.string x.loc, .int .i64 x.pax] 69) ∧ Below w.heap.size w (((w.alloc (.cells #[.string g.key.car, .int .i64 g.key.num, .int .i64 g.day] 27)).alloc (.cells #[.int .i64 s.row, .int .u8 s.let_] 67)).alloc (.cells #[.string x.loc, .int .i64 x.pax] 69)) := by
    have h2 := two_boxes w #[.string g.key.car, .int .i64 g.key.num, .int .i64 g.day] #[.int .i64 s.row, .int .u8 s.let_] 27 67
    have h3 := Bx.new ((w.alloc (.cells #[.string g.key.car, .int .i64 g.key.num, .int .i64 g.day] 27)).alloc (.cells #[.int .i64 s.row, .int .u8 s.let_] 67)) #[.string x.loc, .int .i64 x.pax] 69
    rw [World.size_alloc, World.size_alloc] at h3
    exact ⟨⟨h2.1.alloc _, h2.2.1.alloc _, h3⟩, h2.2.2.below.alloc (by simp; omega) _⟩
  clear hs hp hd hr hq hm hg hso hxo ho
  have HW := fun (V : World) (hV : Below w.heap.size w V) => rwrongD_any rl A n c pl A2 n2 c2 g s V lo hi (HFS.out.below hV hhi) (HPS.out.below hV hhi) hn (Nat.le_trans hhi hV.size) HD.out HR.out (q0 := wr) HWR.out
  have HWC := Lib.hid HW
  clear HW
  go_enter Tryz.func32, Tryz.ntmps32
  go_upto_region 1 with fail
  refine wp_world (fun V => (Bx V w.heap.size #[.string g.key.car, .int .i64 g.key.num, .int .i64 g.day] 27 ∧ Bx V (w.heap.size + 1) #[.int .i64 s.row, .int .u8 s.let_] 67 ∧ Bx V (w.heap.size + 1 + 1) #[.string x.loc, .int .i64 x.pax] 69) ∧ Below w.heap.size w V) HB ?_
  clear HB
  rintro V ⟨⟨b1, b2, b3⟩, hb⟩
  have HB1 := Lib.hid b1
  have HB2 := Lib.hid b2
  have HB3 := Lib.hid b3
  have HBV := Lib.hid hb
  have zV := hb.size
  have cc1 := b1.cells
  have cc2 := b2.cells
  have cc3 := b3.cells
  clear b1 b2 b3 hb
  go_wp2_with fail
  refine (HWC.out V HBV.out).mono ?_
  rintro e w1 ⟨rfl, h1⟩
  have HB1 := Lib.hid (HB1.out.below h1 HB1.out.lt)
  have HB2 := Lib.hid (HB2.out.below h1 HB2.out.lt)
  have HB3 := Lib.hid (HB3.out.below h1 HB3.out.lt)
  have HBV := Lib.hid (HBV.out.trans (h1.mono HBV.out.size))
  have z1 := HBV.out.size
  have zz1 := h1.size
  clear cc1 cc2 cc3
  clear h1
  have cc1 := HB1.out.cells
  have cc2 := HB2.out.cells
  have cc3 := HB3.out.cells
  by_cases hw : wr = 0
  rotate_left
  · have tw : (wr != 0) = true := by simp [hw]
    have HF : Hid (takeRw wr m ⟨g, s⟩ x = (wr, m)) := by show _ = _; unfold takeRw; rw [if_pos hw]
    clear hw
    go_wp2
    go_ret2
    exact RetHR.mk' HF.out (HM.out.below HBV.out) HBV.out
  subst hw
  go_wp2_with fail
  refine (rwho_any m A3 n3 c3 g s w1 l3 w.heap.size (HM.out.1.below HBV.out (Nat.le_refl _)) (by omega) z1 HO.out).mono ?_
  rintro e w2 ⟨he, h2⟩
  rcases o with _ | y
  · obtain rfl : e = .returned (.tuple #[.agg #[.string ⟨#[]⟩, .int .i64 0], .bool false]) := he
    have HF : Hid (takeRw 0 m ⟨g, s⟩ x = (0, m ++ [⟨⟨g, s⟩, x⟩])) := by show _ = _; unfold takeRw; rw [if_neg (by decide), HO.out]
    have HB1 := Lib.hid (HB1.out.below h2 HB1.out.lt)
    have HB2 := Lib.hid (HB2.out.below h2 HB2.out.lt)
    have HB3 := Lib.hid (HB3.out.below h2 HB3.out.lt)
    have HBV := Lib.hid (HBV.out.trans (h2.mono HBV.out.size))
    have z2 := HBV.out.size
    have zz2 := h2.size
    clear cc1 cc2 cc3
    clear h2
    have cc1 := HB1.out.cells
    have cc2 := HB2.out.cells
    have cc3 := HB3.out.cells
    go_upto_region 10 with fail
    refine wp_world (fun V3 => Below w2.heap.size w2 V3) ((Below.refl _ _).alloc (Nat.le_refl _) _) ?_
    rintro V3 h3
    have HB1 := Lib.hid (HB1.out.below h3 HB1.out.lt)
    have HB2 := Lib.hid (HB2.out.below h3 HB2.out.lt)
    have HB3 := Lib.hid (HB3.out.below h3 HB3.out.lt)
    have HBV := Lib.hid (HBV.out.trans (h3.mono HBV.out.size))
    have z3 := HBV.out.size
    have zz3 := h3.size
    clear cc1 cc2 cc3
    clear h3
    have cc1 := HB1.out.cells
    have cc2 := HB2.out.cells
    have cc3 := HB3.out.cells
    have hsl := (HM.out.1.below HBV.out (Nat.le_refl _))
    have HSL := Lib.hid hsl
    have HNL := Lib.hid HM.out.2
    have hown : Own V3 w.heap.size 146 tHR (.slice none 0 0) [] := Own.nil_ _ _ _ _
    have zz9 := HB1.out.lt
    have zz8 := HB2.out.lt
    have zz7 := HB3.out.lt
    go_wp2_with (first
      | (at_builtin; refine append_law (l := []) rfl (.tmp 43) (.tmp 44) rfl sl_hrow rfl (Own.nil_ V3 (w.heap.size + 1 + 1 + 1) _ tHR) rfl HSL.out HNL.out (by omega) (by simp; omega) ?_; intro v4 w4 ho4 hg4 hor4; rw [List.nil_append] at ho4; have hB4 := (Below.refl V3.heap.size V3).grown hg4 (Nat.le_refl _) (fun k hk => by cases hk); have HB14 := Lib.hid (HB1.out.below hB4 zz9); have HB24 := Lib.hid (HB2.out.below hB4 zz8); have HB34 := Lib.hid (HB3.out.below hB4 zz7); have HBV4 := Lib.hid (HBV.out.trans (hB4.mono z3)); clear cc1 cc2 cc3; have cc1 := HB14.out.cells; have cc2 := HB24.out.cells; have cc3 := HB34.out.cells; have z4 : w.heap.size + 1 + 1 + 1 ≤ w4.heap.size := (by have := hB4.size; omega))
      | (at_builtin; refine push_law rfl (.tmp 46) (.tmp 52) rfl sl_hrow rfl ho4 (⟨⟨g, s⟩, x⟩ : HRow) HRO.out _ rfl rfl (by exact z4) (by rw [HL3.out]; omega) ?_; intro v5 w5 ho5 hb5; have HBV5 := Lib.hid (HBV4.out.trans (hb5.mono (by omega)))))
    obtain ⟨A9, c9, hv9⟩ := ho5.form
    subst hv9
    go_ret2
    exact RetHR.mk' HF.out (RS.of_own ho5 (by omega)) HBV5.out
  · obtain rfl : e = .returned (.tuple #[.agg #[.string y.loc, .int .i64 y.pax], .bool true]) := he
    have hel := fun u => eql_hol y.loc x.loc y.pax x.pax u
    have HB1 := Lib.hid (HB1.out.below h2 HB1.out.lt)
    have HB2 := Lib.hid (HB2.out.below h2 HB2.out.lt)
    have HB3 := Lib.hid (HB3.out.below h2 HB3.out.lt)
    have HBV := Lib.hid (HBV.out.trans (h2.mono HBV.out.size))
    have z2 := HBV.out.size
    have zz2 := h2.size
    clear cc1 cc2 cc3
    clear h2
    have cc1 := HB1.out.cells
    have cc2 := HB2.out.cells
    have cc3 := HB3.out.cells
    go_upto_region 5 with fail
    refine wp_world (fun V3 => Bx V3 w2.heap.size #[.string y.loc, .int .i64 y.pax] 69 ∧ Below w2.heap.size w2 V3) ⟨Bx.new _ _ _, (Below.refl _ _).alloc (Nat.le_refl _) _⟩ ?_
    rintro V3 ⟨bY, h3⟩
    have HB1 := Lib.hid (HB1.out.below h3 HB1.out.lt)
    have HB2 := Lib.hid (HB2.out.below h3 HB2.out.lt)
    have HB3 := Lib.hid (HB3.out.below h3 HB3.out.lt)
    have HBV := Lib.hid (HBV.out.trans (h3.mono HBV.out.size))
    have z3 := HBV.out.size
    have zz3 := h3.size
    clear cc1 cc2 cc3
    clear h3
    have cc1 := HB1.out.cells
    have cc2 := HB2.out.cells
    have cc3 := HB3.out.cells
    have cY := bY.cells
    clear bY
    by_cases e1 : y = x
    · have HF : Hid (takeRw 0 m ⟨g, s⟩ x = (8, m)) := by show _ = _; unfold takeRw; rw [if_neg (by decide), HO.out]; simp [e1]
      rw [decide_eq_true (show (⟨y.loc, y.pax⟩ : Hol) = ⟨x.loc, x.pax⟩ from e1)] at hel
      clear e1
      go_wp2
      go_ret2
      exact RetHR.mk' HF.out (HM.out.below HBV.out) HBV.out
    · have HF : Hid (takeRw 0 m ⟨g, s⟩ x = (14, m)) := by show _ = _; unfold takeRw; rw [if_neg (by decide), HO.out]; simp [e1]
      rw [decide_eq_false (show ¬ (⟨y.loc, y.pax⟩ : Hol) = ⟨x.loc, x.pax⟩ from e1)] at hel
      clear e1
      go_wp2
      go_ret2
      exact RetHR.mk' HF.out (HM.out.below HBV.out) HBV.out
set_option maxRecDepth 100000 in
set_option maxHeartbeats 8000000 in
theorem rfreeH_any (rl : List FlR) (A : Option Addr) (n c : Nat) (pl : List PlR) (A2 : Option Addr) (n2 c2 : Nat) (m : List HRow) (A3 : Option Addr) (n3 c3 : Nat) (g : Leg) (s : Sit) (x : Hol) (w : World) (lo hi l3 : Nat) (hs : FlS w lo hi A n rl) (hp : PlS w lo hi A2 n2 pl) (hn : n ≤ 100000) (hhi : hi ≤ w.heap.size) (hd : ∀ r ∈ pl, hdR r.p = true) (hr : ∀ f ∈ rl.map (·.f), rightB f = true) (hm : RS w l3 A3 n3 c3 m) (hl3 : l3 ≤ w.heap.size) (hn3 : n3 ≤ 1000) (hg : g.ok) (hso : s.ok) (hxo : x.ok) {wr : Int} (hq : wrongD rl pl ⟨g, s⟩ = wr) :
    Calls Tryz.prog 34 #[.slice A n c, .slice A2 n2 c2, .slice A3 n3 c3, .agg #[.string g.key.car, .int .i64 g.key.num, .int .i64 g.day], .agg #[.int .i64 s.row, .int .u8 s.let_], .agg #[.string x.loc, .int .i64 x.pax]] w (RetHR w l3 (freeRw wr m ⟨g, s⟩ x)) := by
  have HFS := Lib.hid hs
  have HPS := Lib.hid hp
  have HD := Lib.hid hd
  have HR := Lib.hid hr
  have HWR := Lib.hid hq
  have HM := Lib.hid hm
  have HL3 := Lib.hid hm.1.len
  have HRO : Hid (HRow.ok ⟨⟨g, s⟩, x⟩) := ⟨⟨hg, hso⟩, hxo⟩
  obtain ⟨o, ho⟩ : ∃ o, whoR m ⟨g, s⟩ = o := ⟨_, rfl⟩
  have HO := Lib.hid ho
  have HB : (Bx (((w.alloc (.cells #[.string g.key.car, .int .i64 g.key.num, .int .i64 g.day] 27)).alloc (.cells #[.int .i64 s.row, .int .u8 s.let_] 67)).alloc (.cells #[.string x.loc, .int .i64 x.pax] 69)) w.heap.size #[.string g.key.car, .int .i64 g.key.num, .int .i64 g.day] 27 ∧ Bx (((w.alloc (.cells #[.string g.key.car, .int .i64 g.key.num, .int .i64 g.day] 27)).alloc (.cells #[.int .i64 s.row, .int .u8 s.let_] 67)).alloc (.cells #[.string x.loc, .int .i64 x.pax] 69)) (w.heap.size + 1) #[.int .i64 s.row, .int .u8 s.let_] 67 ∧ Bx (((w.alloc (.cells #[.string g.key.car, .int .i64 g.key.num, .int .i64 g.day] 27)).alloc (.cells #[.int .i64 s.row, .int .u8 s.let_] 67)).alloc (.cells #[.string x.loc, .int .i64 x.pax] 69)) (w.heap.size + 1 + 1) #[.string x.loc, .int .i64 x.pax] 69) ∧ Below w.heap.size w (((w.alloc (.cells #[.string g.key.car, .int .i64 g.key.num, .int .i64 g.day] 27)).alloc (.cells #[.int .i64 s.row, .int .u8 s.let_] 67)).alloc (.cells #[.string x.loc, .int .i64 x.pax] 69)) := by
    have h2 := two_boxes w #[.string g.key.car, .int .i64 g.key.num, .int .i64 g.day] #[.int .i64 s.row, .int .u8 s.let_] 27 67
    have h3 := Bx.new ((w.alloc (.cells #[.string g.key.car, .int .i64 g.key.num, .int .i64 g.day] 27)).alloc (.cells #[.int .i64 s.row, .int .u8 s.let_] 67)) #[.string x.loc, .int .i64 x.pax] 69
    rw [World.size_alloc, World.size_alloc] at h3
    exact ⟨⟨h2.1.alloc _, h2.2.1.alloc _, h3⟩, h2.2.2.below.alloc (by simp; omega) _⟩
  clear hs hp hd hr hq hm hg hso hxo ho
  have HW := fun (V : World) (hV : Below w.heap.size w V) => rwrongD_any rl A n c pl A2 n2 c2 g s V lo hi (HFS.out.below hV hhi) (HPS.out.below hV hhi) hn (Nat.le_trans hhi hV.size) HD.out HR.out (q0 := wr) HWR.out
  have HWC := Lib.hid HW
  clear HW
  go_enter Tryz.func34, Tryz.ntmps34
  go_upto_region 1 with fail
  refine wp_world (fun V => (Bx V w.heap.size #[.string g.key.car, .int .i64 g.key.num, .int .i64 g.day] 27 ∧ Bx V (w.heap.size + 1) #[.int .i64 s.row, .int .u8 s.let_] 67 ∧ Bx V (w.heap.size + 1 + 1) #[.string x.loc, .int .i64 x.pax] 69) ∧ Below w.heap.size w V) HB ?_
  clear HB
  rintro V ⟨⟨b1, b2, b3⟩, hb⟩
  have HB1 := Lib.hid b1
  have HB2 := Lib.hid b2
  have HB3 := Lib.hid b3
  have HBV := Lib.hid hb
  have zV := hb.size
  have cc1 := b1.cells
  have cc2 := b2.cells
  have cc3 := b3.cells
  clear b1 b2 b3 hb
  go_wp2_with fail
  refine (HWC.out V HBV.out).mono ?_
  rintro e w1 ⟨rfl, h1⟩
  have HB1 := Lib.hid (HB1.out.below h1 HB1.out.lt)
  have HB2 := Lib.hid (HB2.out.below h1 HB2.out.lt)
  have HB3 := Lib.hid (HB3.out.below h1 HB3.out.lt)
  have HBV := Lib.hid (HBV.out.trans (h1.mono HBV.out.size))
  have z1 := HBV.out.size
  have zz1 := h1.size
  clear cc1 cc2 cc3
  clear h1
  have cc1 := HB1.out.cells
  have cc2 := HB2.out.cells
  have cc3 := HB3.out.cells
  by_cases hw : wr = 0
  rotate_left
  · have tw : (wr != 0) = true := by simp [hw]
    have HF : Hid (freeRw wr m ⟨g, s⟩ x = (wr, m)) := by show _ = _; unfold freeRw; rw [if_pos hw]
    clear hw
    go_wp2
    go_ret2
    exact RetHR.mk' HF.out (HM.out.below HBV.out) HBV.out
  subst hw
  go_wp2_with fail
  refine (rwho_any m A3 n3 c3 g s w1 l3 w.heap.size (HM.out.1.below HBV.out (Nat.le_refl _)) (by omega) z1 HO.out).mono ?_
  rintro e w2 ⟨he, h2⟩
  rcases o with _ | y
  · obtain rfl : e = .returned (.tuple #[.agg #[.string ⟨#[]⟩, .int .i64 0], .bool false]) := he
    have HF : Hid (freeRw 0 m ⟨g, s⟩ x = (7, m)) := by show _ = _; unfold freeRw; rw [if_neg (by decide), HO.out]
    have HB1 := Lib.hid (HB1.out.below h2 HB1.out.lt)
    have HB2 := Lib.hid (HB2.out.below h2 HB2.out.lt)
    have HB3 := Lib.hid (HB3.out.below h2 HB3.out.lt)
    have HBV := Lib.hid (HBV.out.trans (h2.mono HBV.out.size))
    have z2 := HBV.out.size
    have zz2 := h2.size
    clear cc1 cc2 cc3
    clear h2
    have cc1 := HB1.out.cells
    have cc2 := HB2.out.cells
    have cc3 := HB3.out.cells
    go_upto_region 5 with fail
    refine wp_world (fun V3 => Below w2.heap.size w2 V3) ((Below.refl _ _).alloc (Nat.le_refl _) _) ?_
    rintro V3 h3
    have HB1 := Lib.hid (HB1.out.below h3 HB1.out.lt)
    have HB2 := Lib.hid (HB2.out.below h3 HB2.out.lt)
    have HB3 := Lib.hid (HB3.out.below h3 HB3.out.lt)
    have HBV := Lib.hid (HBV.out.trans (h3.mono HBV.out.size))
    have z3 := HBV.out.size
    have zz3 := h3.size
    clear cc1 cc2 cc3
    clear h3
    have cc1 := HB1.out.cells
    have cc2 := HB2.out.cells
    have cc3 := HB3.out.cells
    go_wp2
    go_ret2
    exact RetHR.mk' HF.out (HM.out.below HBV.out) HBV.out
  obtain rfl : e = .returned (.tuple #[.agg #[.string y.loc, .int .i64 y.pax], .bool true]) := he
  have hne := fun u => neq_hol y.loc x.loc y.pax x.pax u
  have HB1 := Lib.hid (HB1.out.below h2 HB1.out.lt)
  have HB2 := Lib.hid (HB2.out.below h2 HB2.out.lt)
  have HB3 := Lib.hid (HB3.out.below h2 HB3.out.lt)
  have HBV := Lib.hid (HBV.out.trans (h2.mono HBV.out.size))
  have z2 := HBV.out.size
  have zz2 := h2.size
  clear cc1 cc2 cc3
  clear h2
  have cc1 := HB1.out.cells
  have cc2 := HB2.out.cells
  have cc3 := HB3.out.cells
  go_upto_region 5 with fail
  refine wp_world (fun V3 => Bx V3 w2.heap.size #[.string y.loc, .int .i64 y.pax] 69 ∧ Below w2.heap.size w2 V3) ⟨Bx.new _ _ _, (Below.refl _ _).alloc (Nat.le_refl _) _⟩ ?_
  rintro V3 ⟨bY, h3⟩
  have HB1 := Lib.hid (HB1.out.below h3 HB1.out.lt)
  have HB2 := Lib.hid (HB2.out.below h3 HB2.out.lt)
  have HB3 := Lib.hid (HB3.out.below h3 HB3.out.lt)
  have HBV := Lib.hid (HBV.out.trans (h3.mono HBV.out.size))
  have z3 := HBV.out.size
  have zz3 := h3.size
  clear cc1 cc2 cc3
  clear h3
  have cc1 := HB1.out.cells
  have cc2 := HB2.out.cells
  have cc3 := HB3.out.cells
  have cY := bY.cells
  clear bY
  by_cases e1 : y = x
  rotate_left
  · have HF : Hid (freeRw 0 m ⟨g, s⟩ x = (7, m)) := by show _ = _; unfold freeRw; rw [if_neg (by decide), HO.out]; simp [e1]
    rw [decide_eq_false (show ¬ (⟨y.loc, y.pax⟩ : Hol) = ⟨x.loc, x.pax⟩ from e1)] at hne
    clear e1
    go_wp2
    go_ret2
    exact RetHR.mk' HF.out (HM.out.below HBV.out) HBV.out
  have HF : Hid (freeRw 0 m ⟨g, s⟩ x = (0, dropR m ⟨g, s⟩)) := by show _ = _; unfold freeRw; rw [if_neg (by decide), HO.out]; simp [e1]
  rw [decide_eq_true (show (⟨y.loc, y.pax⟩ : Hol) = ⟨x.loc, x.pax⟩ from e1)] at hne
  have hbx3 : (w.heap.size + 1 + 1) < V3.heap.size := HB3.out.lt
  clear e1
  go_wp2
  go_loopw [17, 18] (fun v i wr => ∃ (k : Nat) (A' : Option Addr) (n' c' : Nat), k ≤ n3 ∧ i = .int .i64 k ∧ v = .slice A' n' c' ∧ Own wr (w.heap.size + 1 + 1 + 1) 146 tHR (.slice A' n' c') (dropR (m.take k) ⟨g, s⟩) ∧ (Bx wr w.heap.size #[.string g.key.car, .int .i64 g.key.num, .int .i64 g.day] 27 ∧ Bx wr (w.heap.size + 1) #[.int .i64 s.row, .int .u8 s.let_] 67) ∧ Below w.heap.size w wr ∧ w.heap.size + 1 + 1 + 1 ≤ wr.heap.size) (fun _ i _ => n3 - (intOf i).toNat)
  case atStart => exact ⟨0, none, 0, 0, Nat.zero_le _, rfl, rfl, Own.nil_ _ _ _ _, ⟨HB1.out, HB2.out⟩, HBV.out, hbx3⟩
  case round =>
    clear hbx3 cY hne cc1 cc2 cc3
    obtain ⟨k, A', n', c', hk, rfl, rfl, ho, ⟨b1, b2⟩, hb, hz3⟩ := hrel
    have HO9 := Lib.hid ho
    have HB9 := Lib.hid hb
    have HB19 := Lib.hid b1
    have HB29 := Lib.hid b2
    have z1 := b1.lt
    have z2 := b2.lt
    have zw := hb.size
    clear ho
    by_cases hlt : k < n3
    · obtain ⟨b0, o0, r, hA, _, hb0, hx, hok, d0, d1, d2, d3, d4, d5, d6⟩ := (Sl.below HM.out.1 hb (Nat.le_refl _)).hr_ hlt
      subst hA
      have i0 : (0 : Int) ≤ k := by omega
      have i1 : (k : Int) < n3 := by omega
      have hb0w : b0 < wr.heap.size := by omega
      have hl9 : (dropR (m.take k) ⟨g, s⟩).length ≤ 1000 := by
        have h1 : (dropR (m.take k) (⟨g, s⟩ : Hpl)).length ≤ (m.take k).length := List.length_filter_le _ _
        rw [List.length_take] at h1
        omega
      have HST := Lib.hid (dropR_next (c := ⟨g, s⟩) hx.out)
      have HOK := Lib.hid hok
      have cc1 := b1.cells
      have cc2 := b2.cells
      have hg := fun u => neq_lg r.c.leg g u
      have hss := fun u => neq_sit r.c.seat.row s.row r.c.seat.let_ s.let_ u
      rw [dec_sit] at hss
      clear hb hx hok b1 b2
      go_upto_region 11 with fail
      go_cut [65] (fun u w' => u = .bool (!decide (r.c = (⟨g, s⟩ : Hpl))) ∧ Below wr.heap.size wr w')
      case first =>
        by_cases e1 : r.c.leg = g
        · rw [decide_eq_true e1] at hg
          by_cases e2 : r.c.seat = s
          · rw [decide_eq_true e2] at hss
            have HE : Hid (decide (r.c = (⟨g, s⟩ : Hpl)) = true) := decide_eq_true (by rw [← e1, ← e2])
            clear e1 e2
            refine wp_region_below (by kernel_rfl) (by kernel_rfl) ?_
            intro q9
            repeat
              (refine QH.step (fun K9 hK9 => ?_)
               go_simp
               first
               | (refine hK9 _ ?_; clear hK9 K9)
               | (apply Exists.intro
                  refine ⟨fun _ => ?_, hK9 _ ?_⟩
                  · first | fail
                  clear hK9 K9))
            refine QH.nil_ ?_
            clear q9
            rintro ⟨V9, hV9⟩
            dsimp only
            go_wp2
            go_meet
            exact ⟨by rw [HE.out]; rfl, hV9⟩
          · rw [decide_eq_false e2] at hss
            have HE : Hid (decide (r.c = (⟨g, s⟩ : Hpl)) = false) := decide_eq_false (fun h => e2 (congrArg Hpl.seat h))
            clear e1 e2
            refine wp_region_below (by kernel_rfl) (by kernel_rfl) ?_
            intro q9
            repeat
              (refine QH.step (fun K9 hK9 => ?_)
               go_simp
               first
               | (refine hK9 _ ?_; clear hK9 K9)
               | (apply Exists.intro
                  refine ⟨fun _ => ?_, hK9 _ ?_⟩
                  · first | fail
                  clear hK9 K9))
            refine QH.nil_ ?_
            clear q9
            rintro ⟨V9, hV9⟩
            dsimp only
            go_wp2
            go_meet
            exact ⟨by rw [HE.out]; rfl, hV9⟩
        · rw [decide_eq_false e1] at hg
          have HE : Hid (decide (r.c = (⟨g, s⟩ : Hpl)) = false) := decide_eq_false (fun h => e1 (congrArg Hpl.leg h))
          clear e1
          refine wp_region_below (by kernel_rfl) (by kernel_rfl) ?_
          intro q9
          repeat
            (refine QH.step (fun K9 hK9 => ?_)
             go_simp
             first
             | (refine hK9 _ ?_; clear hK9 K9)
             | (apply Exists.intro
                refine ⟨fun _ => ?_, hK9 _ ?_⟩
                · first | fail
                clear hK9 K9))
          refine QH.nil_ ?_
          clear q9
          rintro ⟨V9, hV9⟩
          dsimp only
          go_wp2
          go_meet
          exact ⟨by rw [HE.out]; rfl, hV9⟩
      case rest =>
        obtain ⟨rfl, hV9⟩ := hcut
        have hB9 := Lib.hid (HB9.out.trans (hV9.mono zw))
        have e0 := (hV9.cell (p := ⟨b0, o0 + k * 7, none⟩) hb0w).trans d0
        have e1 := (hV9.cell (p := ⟨b0, o0 + k * 7 + 1, none⟩) hb0w).trans d1
        have e2 := (hV9.cell (p := ⟨b0, o0 + k * 7 + 2, none⟩) hb0w).trans d2
        have e3 := (hV9.cell (p := ⟨b0, o0 + k * 7 + 3, none⟩) hb0w).trans d3
        have e4 := (hV9.cell (p := ⟨b0, o0 + k * 7 + 4, none⟩) hb0w).trans d4
        have e5 := (hV9.cell (p := ⟨b0, o0 + k * 7 + 5, none⟩) hb0w).trans d5
        have e6 := (hV9.cell (p := ⟨b0, o0 + k * 7 + 6, none⟩) hb0w).trans d6
        have HBA := Lib.hid (HB19.out.below hV9 z1)
        have HBB := Lib.hid (HB29.out.below hV9 z2)
        have ho9 := HO9.out.keep hV9
        have hz9 : w.heap.size + 1 + 1 + 1 ≤ wc.heap.size := Nat.le_trans hz3 hV9.size
        clear hV9 d0 d1 d2 d3 d4 d5 d6 hg hss cc1 cc2 HB9 HB19 HB29
        by_cases e : r.c = (⟨g, s⟩ : Hpl)
        · rw [decide_eq_true e]
          have HST2 : Hid (dropR (m.take (k + 1)) ⟨g, s⟩ = dropR (m.take k) ⟨g, s⟩) := by show _ = _; rw [HST.out, if_pos e, List.append_nil]
          have HO10 := Lib.hid ho9
          clear e ho9
          go_wp2
          go_roundw
          case rel => exact ⟨k + 1, A', n', c', by omega, by go_num, rfl, by rw [HST2.out]; exact HO10.out, ⟨HBA.out, HBB.out⟩, hB9.out, hz9⟩
          case measure => simp [intOf]; omega
        · rw [decide_eq_false e]
          have HST2 : Hid (dropR (m.take (k + 1)) ⟨g, s⟩ = dropR (m.take k) ⟨g, s⟩ ++ [r]) := by show _ = _; rw [HST.out, if_neg e]
          clear e
          go_wp2_with (at_builtin; refine push_law rfl (.tmp 66) (.tmp 71) rfl sl_hrow rfl ho9 r HOK.out _ rfl rfl (by exact hz9) (by omega) ?_; intro v1 w1 ho1 hb1)
          obtain ⟨A9, c9, hv9⟩ := ho1.form
          subst hv9
          go_roundw
          case rel => exact ⟨k + 1, A9, _, c9, by omega, by go_num, rfl, by rw [HST2.out]; exact ho1, ⟨HBA.out.below hb1 (by omega), HBB.out.below hb1 (by omega)⟩, hB9.out.trans (hb1.mono (by omega)), Nat.le_trans hz9 hb1.size⟩
          case measure => simp [intOf]; omega
    · obtain rfl : n3 = k := by omega
      have HFT : Hid (m.take n3 = m) := List.take_of_length_le (Nat.le_of_eq HL3.out)
      have h9 := HO9.out
      rw [HFT.out] at h9
      have HO10 := Lib.hid h9
      clear hb b1 b2 h9
      go_wp2
      go_ret2
      exact RetHR.mk' HF.out (RS.of_own HO10.out (by omega)) HB9.out
end Go.Proofs.YtlkdefmceghmnaaGreat
namespace Go.Proofs.YtlkdefmceghmnaaGreat
set_option linter.unusedVariables false
open Go Go.RowKit Go.Sort
/-- A slice of new memory that reads as a list. -/
def RetSl {α : Type} (w : World) (T : Ty α) (l : List α) (e : Ending) (w' : World) : Prop := ∃ A c, e = .returned (.slice A l.length c) ∧ Sl w' w.heap.size w'.heap.size T A l.length l ∧ Below w.heap.size w w'
theorem RetSl.of_own {α : Type} {w w' : World} {T : Ty α} {t : TypeId} {l : List α} {e : Ending} (h : RetOwn w t T l e w') : RetSl w T l e w' := by
  obtain ⟨A, c, rfl, ho, hb⟩ := h
  exact ⟨A, c, rfl, ho.sl, hb⟩
theorem onB_is {W : World} {lo hi t p b : Nat} {rs : List FlR} {ps : List PlM} {q : Hpl → Option Hol} (h : HK W lo hi t p b rs ps q) (g : Leg) {m : List HRow} (hm : RH m q) (hl : m.length ≤ 1000) :
    Calls Tryz.prog 40 #[.pointer (some ⟨p, 0, none⟩), .agg #[.string g.key.car, .int .i64 g.key.num, .int .i64 g.day]] W (RetSl W tHld (onH m g)) :=
  (hon_any h g (m.map (·.c)) (by rw [List.length_map]; exact hl) (fun c hc => (hm.mem_c c).2 hc)).mono fun e w' h1 => by
    obtain ⟨A, n, c, out, rfl, ho, hr, hx, hb⟩ := h1
    have e1 := hm.on hr hx
    subst e1
    obtain rfl := ho.sl.len
    exact ⟨A, c, rfl, ho.sl, hb⟩
theorem legsB_is {W : World} {lo hi t p b : Nat} {rs : List FlR} {ps : List PlM} {q : Hpl → Option Hol} (h : HK W lo hi t p b rs ps q) {m : List HRow} (hm : RH m q) (hl : m.length ≤ 1000) :
    Calls Tryz.prog 42 #[.pointer (some ⟨p, 0, none⟩)] W (RetSl W tLeg (legsH m)) :=
  (hlegs_any h (m.map (·.c)) (by rw [List.length_map]; exact hl) (fun c hc => (hm.mem_c c).2 hc)).mono fun e w' h1 => by
    obtain ⟨A, n, c, out, rfl, ho, hr, hx, hb⟩ := h1
    have e1 := hm.legs hr hx
    subst e1
    obtain rfl := ho.sl.len
    exact ⟨A, c, rfl, ho.sl, hb⟩
theorem both_take {m : List HRow} {q : Hpl → Option Hol} (h : RH m q) (wr : Int) (c : Hpl) (x : Hol) (hc : c.ok) (hx : x.ok) : ∃ k m' o', takeRw wr m c x = (k, m') ∧ takeF wr (q c) x = (k, o') ∧ RH m' (updH q c o') ∧ m'.length ≤ m.length + 1 := by
  unfold takeRw takeF
  rw [h.who c]
  by_cases hw : wr = 0
  · rw [if_neg (fun e => e hw), if_neg (fun e => e hw)]
    cases e : q c with
    | none => exact ⟨0, _, some x, rfl, rfl, h.take e hc hx, by simp⟩
    | some y => exact ⟨_, m, some y, rfl, rfl, by rw [← e, updH_self]; exact h, by omega⟩
  · rw [if_pos hw, if_pos hw]
    exact ⟨wr, m, q c, rfl, rfl, by rw [updH_self]; exact h, by omega⟩
theorem both_free {m : List HRow} {q : Hpl → Option Hol} (h : RH m q) (wr : Int) (c : Hpl) (x : Hol) : ∃ k m' o', freeRw wr m c x = (k, m') ∧ freeF wr (q c) x = (k, o') ∧ RH m' (updH q c o') ∧ m'.length ≤ m.length + 1 := by
  unfold freeRw freeF
  rw [h.who c]
  by_cases hw : wr = 0
  · rw [if_neg (fun e => e hw), if_neg (fun e => e hw)]
    cases e : q c with
    | none => exact ⟨7, m, none, rfl, rfl, by rw [← e, updH_self]; exact h, by omega⟩
    | some y =>
      by_cases hy : y = x
      · exact ⟨0, dropR m c, none, by simp [hy], by simp [hy], h.free c, by
          have h1 : (dropR m c).length ≤ m.length := List.length_filter_le _ _
          omega⟩
      · exact ⟨7, m, some y, by simp [hy], by simp [hy], by rw [← e, updH_self]; exact h, by omega⟩
  · rw [if_pos hw, if_pos hw]
    exact ⟨wr, m, q c, rfl, rfl, by rw [updH_self]; exact h, by omega⟩
theorem RS.kb {w w' : World} {lo n c b : Nat} {A : Option Addr} {m : List HRow} (h : RS w lo A n c m) (hk : Kb b w w') (h1 : b < lo) : RS w' lo A n c m := ⟨(Sl.kb h.1 hk h1 (Nat.le_refl _)).more (Nat.le_refl _) hk.size, h.2⟩
/-- The boxes of a round of HoldPlays. -/
structure H7 (W : World) (kw ka kx kh : Nat) (wc : Array Value) (a : HAct) (g : Leg) (y : Hol) : Prop where
  bw : Bx W kw wc 60
  ba : Bx W ka #[.int .i64 a.kind, .int .i64 a.fl, .string a.leg.key.car, .int .i64 a.leg.key.num, .int .i64 a.leg.day, .int .i64 a.seat.row, .int .u8 a.seat.let_, .string a.hol.loc, .int .i64 a.hol.pax] 71
  bx : Bx W kx #[.string g.key.car, .int .i64 g.key.num, .int .i64 g.day] 27
  bh : Bx W kh #[.string y.loc, .int .i64 y.pax] 69
section
variable {W W' : World} {kw ka kx kh : Nat} {wc : Array Value} {a : HAct} {g : Leg} {y : Hol}
theorem H7.below (h : H7 W kw ka kx kh wc a g y) (hb : Below W.heap.size W W') : H7 W' kw ka kx kh wc a g y := ⟨h.bw.below hb h.bw.lt, h.ba.below hb h.ba.lt, h.bx.below hb h.bx.lt, h.bh.below hb h.bh.lt⟩
theorem H7.kb {b : Nat} (h : H7 W kw ka kx kh wc a g y) (hk : Kb b W W') (h1 : kw ≠ b) (h2 : ka ≠ b) (h3 : kx ≠ b) (h4 : kh ≠ b) : H7 W' kw ka kx kh wc a g y := ⟨h.bw.kb hk h1, h.ba.kb hk h2, h.bx.kb hk h3, h.bh.kb hk h4⟩
end
end Go.Proofs.YtlkdefmceghmnaaGreat
