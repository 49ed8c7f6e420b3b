/- Put together by program of: FlTab2, FlTab3. -/
import Derived.Test.YtlkdefmceghmnaaGreatDoorFlNew
import Derived.Test.YtlkdefmceghmnaaGreatDoorQuietB
namespace Go.Proofs.YtlkdefmceghmnaaGreatDoor
set_option linter.unusedVariables false
open Go Go.RowKit Go.Sort
theorem idxR_find {rl : List FlR} {k : Key} {i : Nat} (h : idxR rl rl.length k = some i) : ∃ r, rl[i]? = some r ∧ r.key = k ∧ findR rl k = some r := by
  obtain ⟨h1, r, hr, hk⟩ := idxR_some h
  refine ⟨r, hr, hk, findR_at (n := i) (fun j s hj hs => ?_) hr hk⟩
  unfold idxR at h
  rw [List.take_of_length_le (Nat.le_refl _), List.findIdx?_eq_some_iff_getElem] at h
  obtain ⟨h2, _, h4⟩ := h
  have hj' : j < rl.length := by omega
  have := h4 j hj
  rw [List.getElem?_eq_getElem hj'] at hs
  injection hs with hs
  rw [hs] at this
  simpa using this
theorem idxR_nofind {rl : List FlR} {k : Key} (h : idxR rl rl.length k = none) : findR rl k = none := findR_no (idxR_none h)
/-- A table that is read. -/
theorem TB.open_ {W : World} {lo p : Nat} {rl : List FlR} (h : TB W lo p rl) : ∃ mp A n c, Bx W p #[.map (some mp), .slice A n c] 66 ∧ FlS W lo W.heap.size A n rl ∧ n ≤ 64 ∧
    (∀ (k : Key) (i : Nat), k.ok → idxR rl rl.length k = some i → ∀ (b : Bool) (m : Nat), (Instr.lookup 64 (.map (some mp)) (.agg #[.string k.car, .int .i64 k.num]) b).run Tryz.prog (W.drewN m) = .ok (if b then .tuple #[.int .i64 (i : Nat), .bool true] else .int .i64 (i : Nat)) (W.drewN m)) ∧
    (∀ (k : Key), k.ok → idxR rl rl.length k = none → ∀ (b : Bool) (m : Nat), (Instr.lookup 64 (.map (some mp)) (.agg #[.string k.car, .int .i64 k.num]) b).run Tryz.prog (W.drewN m) = .ok (if b then .tuple #[.int .i64 0, .bool false] else .int .i64 0) (W.drewN m)) := by
  obtain ⟨⟨mp, A, n, c, g, hx, ho, hm, hg, h1, h2⟩, h3, h4⟩ := h
  refine ⟨mp, A, n, c, hx, ho.sl, by have := ho.own.sl.len; omega, fun k i hk hi b m => ?_, fun k hk hi b m => ?_⟩
  · obtain ⟨kl, hkl⟩ := keyKey k hk
    have := (hm.drewN m).look lawKey Tryz.underlying64 zeroInt hkl b
    rw [hg, hi] at this
    exact this
  · obtain ⟨kl, hkl⟩ := keyKey k hk
    have := (hm.drewN m).look lawKey Tryz.underlying64 zeroInt hkl b
    rw [hg, hi] at this
    exact this
/-- A flight that was found, copied; or none. -/
def RetFC (w : World) (o : Option FlR) (e : Ending) (w' : World) : Prop :=
  match o with
  | some r => ∃ A c, e = .returned (.tuple #[.agg #[.string r.f.car, .int .i64 r.f.num, .string r.f.frm, .string r.f.to_, .int .u8 r.f.days, .int .i64 r.f.dep, .int .i64 r.f.arr, .slice A r.n c, .int .i64 r.f.pln], .bool true]) ∧ (FlR.mk r.f A r.n c).ok ∧ ClOwn w' 99 w.heap.size (FlR.mk r.f A r.n c) ∧ Below w.heap.size w w'
  | none => e = .returned (.tuple #[.agg zf, .bool false]) ∧ Below w.heap.size w w'
set_option maxRecDepth 100000 in
set_option maxHeartbeats 4000000 in
theorem find_any (rl : List FlR) (p lo : Nat) (k : Key) (w : World) (ht : TB w lo p rl) (hk : k.ok) :
    Calls Tryz.prog 55 #[.pointer (some ⟨p, 0, none⟩), .agg #[.string k.car, .int .i64 k.num]] w (RetFC w (findR rl k)) := by
  have HK := Lib.hid hk
  obtain ⟨kc, kn⟩ := k
  dsimp only
  have hB := one_box w #[.string kc, .int .i64 kn] 52 zf 55
  have HB := And.intro hB (ht.keep (((Below.refl w.heap.size w).alloc (Nat.le_refl _) (.cells #[.string kc, .int .i64 kn] 52)).alloc (by simp) (.cells zf 55)))
  clear hB hk
  have HSM := Lib.hid ht.small
  clear ht
  go_enter Tryz.func55, Tryz.ntmps55
  go_upto_region 1 with fail
  refine wp_world (fun W => (Bx W w.heap.size #[.string kc, .int .i64 kn] 52 ∧ Bx W (w.heap.size + 1) zf 55 ∧ Below w.heap.size w W) ∧ TB W lo p rl) HB ?_
  clear HB
  rintro W ⟨⟨b1, b2, hb⟩, ht⟩
  obtain ⟨mp, A, n, c, hx, hs, hn, hl1, hl2⟩ := ht.open_
  have L1 := Lib.hid hl1
  have L2 := Lib.hid hl2
  clear hl1 hl2
  have c1 := b1.cells
  have cx := hx.cells
  cases hi : idxR rl rl.length ⟨kc, kn⟩ with
  | none =>
    have hlk := fun m => L2.out ⟨kc, kn⟩ HK.out hi true m
    have hf := Lib.hid (idxR_nofind hi)
    dsimp only at hlk
    clear hi
    go_quiet (fail)
    clear hlk
    go_wp2_with ((refine store_rf rfl (.tmp 4) (.tmp 19) rfl zf rfl rfl (b2.drewN _) rfl rfl one_zf ?_))
    refine ret_fb Tryz.results55 ((b2.drewN _).row _) rfl rfl rfl rfl ?_
    unfold RetFC
    rw [hf.out]
    exact ⟨rfl, below_setRow (below_drewN hb _) (by omega) _⟩
  | some i =>
    have hlk := fun m => L1.out ⟨kc, kn⟩ i HK.out hi true m
    obtain ⟨r, hr, hrk, hf⟩ := idxR_find hi
    have hlt : i < n := by have := (List.getElem?_eq_some_iff.1 hr).1; have := hs.sl.len; omega
    have HF := Lib.hid hf
    have HR := Lib.hid hr
    dsimp only at hlk
    clear hi hf hr hrk
    obtain ⟨b0, o0, s, hA, _, hb0, hxs, hok, hcl, d0, d1, d2, d3, d4, d5, d6, d7, d8⟩ := hs.at_ hlt
    have hsr := hxs.out.symm.trans HR.out
    injection hsr with hsr
    subst hsr
    subst hA
    have i0 : (0 : Int) ≤ i := by omega
    have i1 : (i : Int) < n := by omega
    go_quiet (fail)
    clear hlk
    have z2 := b2.lt
    go_wp2_with (first
      | (go_at_call 18; refine (copied_any s _ lo W.heap.size hok (hcl.below (below_drewN (Below.refl W.heap.size W) _) (Nat.le_refl _)) (by have := HSM.out s (List.mem_of_getElem? HR.out); omega) (Nat.le_refl _)).mono ?_; rintro e w2 ⟨A1, c2, rfl, hsok, hso, h2⟩; have E2 := Lib.hid ((b2.drewN nq).below h2 z2))
      | (refine store_rf rfl (.tmp 4) (.tmp 27) rfl #[.string s.f.car, .int .i64 s.f.num, .string s.f.frm, .string s.f.to_, .int .u8 s.f.days, .int .i64 s.f.dep, .int .i64 s.f.arr, .slice A1 s.n c2, .int .i64 s.f.pln] rfl rfl E2.out rfl rfl (one_fw _ _ _ _) ?_))
    refine ret_fb Tryz.results55 (E2.out.row _) rfl rfl rfl rfl ?_
    unfold RetFC
    rw [HF.out]
    have hso2 : ClOwn w2 99 (w.heap.size + 1 + 1) (FlR.mk s.f A1 s.n c2) := Own.more hso (show w.heap.size + 1 + 1 ≤ W.heap.size by omega)
    exact ⟨A1, c2, rfl, hsok, Own.more (Own.setRow hso2 (by omega) _) (by omega), below_setRow ((below_drewN hb nq).trans (h2.mono (show w.heap.size ≤ W.heap.size by omega))) (by omega) _⟩
set_option maxRecDepth 100000 in
set_option maxHeartbeats 4000000 in
theorem tflies_any (rl : List FlR) (p lo : Nat) (g : Leg) (w : World) (ht : TB w lo p rl) (hg : g.ok) :
    Calls Tryz.prog 53 #[.pointer (some ⟨p, 0, none⟩), .agg #[.string g.key.car, .int .i64 g.key.num, .int .i64 g.day]] w (RetB w (fliesF (rl.map (·.f)) g)) := by
  have HK := Lib.hid hg.1
  obtain ⟨⟨kc, kn⟩, d⟩ := g
  dsimp only
  have HB := And.intro (box1 w #[.string kc, .int .i64 kn, .int .i64 d] 74) (ht.keep ((Below.refl w.heap.size w).alloc (Nat.le_refl _) (.cells #[.string kc, .int .i64 kn, .int .i64 d] 74)))
  clear ht hg
  go_enter Tryz.func53, Tryz.ntmps53
  go_upto_region 1 with fail
  refine wp_world (fun W => (Bx W w.heap.size #[.string kc, .int .i64 kn, .int .i64 d] 74 ∧ Below w.heap.size w W) ∧ TB W lo p rl) HB ?_
  clear HB
  rintro W ⟨⟨b1, hb⟩, ht⟩
  obtain ⟨mp, A, n, c, hx, hs, hn, hl1, hl2⟩ := ht.open_
  have L1 := Lib.hid hl1
  have L2 := Lib.hid hl2
  clear hl1 hl2
  have c1 := b1.cells
  have cx := hx.cells
  have zx := hx.lt
  have z1 := b1.lt
  cases hi : idxR rl rl.length ⟨kc, kn⟩ with
  | none =>
    have hlk := fun m => L2.out ⟨kc, kn⟩ HK.out hi true m
    have hf := Lib.hid (fliesF_none (g := ⟨⟨kc, kn⟩, d⟩) (idxR_nofind hi))
    dsimp only at hlk
    clear hi
    go_quiet (fail)
    clear hlk
    go_wp2
    go_quiet (fail)
    go_wp2
    go_ret
    exact ⟨ret_bool hf.out.symm, below_drewN (below_drewN hb _) _⟩
  | some i =>
    have hlk := fun m => L1.out ⟨kc, kn⟩ i HK.out hi true m
    obtain ⟨r, hr, hrk, hf⟩ := idxR_find hi
    have hlt : i < n := by have := (List.getElem?_eq_some_iff.1 hr).1; have := hs.sl.len; omega
    have HF := Lib.hid (fliesF_some (g := ⟨⟨kc, kn⟩, d⟩) hf)
    have HR := Lib.hid hr
    dsimp only at hlk
    clear hi hf hr hrk
    go_quiet (fail)
    clear hlk
    go_upto_region 2 with fail
    refine wp_world (fun V => Bx V w.heap.size #[.string kc, .int .i64 kn, .int .i64 d] 74 ∧ Bx V p #[.map (some mp), .slice A n c] 66 ∧ FlS V lo V.heap.size A n rl ∧ Below w.heap.size w V) ⟨b1.drewN nq, hx.drewN nq, hs.drewN nq, below_drewN hb nq⟩ ?_
    clear b1 hx hs hb c1 cx zx z1 ht L1 L2
    rintro V ⟨b1, hx, hs, hb⟩
    have c1 := b1.cells
    have cx := hx.cells
    have zx := hx.lt
    have z1 := b1.lt
    obtain ⟨b0, o0, s, hA, _, hb0, hxs, hok, hcl, d0, d1, d2, d3, d4, d5, d6, d7, d8⟩ := hs.at_ hlt
    have hsr := hxs.out.symm.trans HR.out
    injection hsr with hsr
    subst hsr
    subst hA
    have i0 : (0 : Int) ≤ i := by omega
    have i1 : (i : Int) < n := by omega
    have HC := Lib.hid (fun V => (flies_any s d V hok.f.days : Calls _ _ _ _ (RetB V (onB s.f d))))
    refine wp_region_below (by kernel_rfl) (by kernel_rfl) ?_
    intro q9
    repeat
      (refine QH.step (fun K9 hK9 => ?_)
       go_simp
       first
       | (refine hK9 _ ?_; clear hK9 K9)
       | (apply Exists.intro
          refine ⟨fun _ => ?_, hK9 _ ?_⟩
          · first | (exact Calls.blw _ (HC.out _))
          clear hK9 K9))
    refine QH.nil_ ?_
    clear q9
    rintro ⟨V9, hV9⟩
    dsimp only
    go_wp2
    go_ret
    exact ⟨ret_bool HF.out.symm, hb.trans (hV9.mono hb.size)⟩
end Go.Proofs.YtlkdefmceghmnaaGreatDoor
namespace Go.Proofs.YtlkdefmceghmnaaGreatDoor
set_option linter.unusedVariables false
open Go Go.RowKit Go.Sort
set_option maxRecDepth 100000 in
set_option maxHeartbeats 4000000 in
theorem tlevel_any (rl : List FlR) (p lo : Nat) (g : Leg) (cl : Int) (w : World) (ht : TB w lo p rl) (hg : g.ok) :
    Calls Tryz.prog 22 #[.pointer (some ⟨p, 0, none⟩), .agg #[.string g.key.car, .int .i64 g.key.num, .int .i64 g.day], .int .u8 cl] w (RetN2 w (levelF (rl.map (·.f)) g cl)) := by
  have HG := Lib.hid hg
  have HK := Lib.hid hg.1
  obtain ⟨⟨kc, kn⟩, d⟩ := g
  dsimp only
  have HB := And.intro (box1 w #[.string kc, .int .i64 kn, .int .i64 d] 74) (ht.keep ((Below.refl w.heap.size w).alloc (Nat.le_refl _) (.cells #[.string kc, .int .i64 kn, .int .i64 d] 74)))
  clear ht hg
  go_enter Tryz.func22, Tryz.ntmps22
  go_upto_region 1 with fail
  refine wp_world (fun W => (Bx W w.heap.size #[.string kc, .int .i64 kn, .int .i64 d] 74 ∧ Below w.heap.size w W) ∧ TB W lo p rl) HB ?_
  clear HB
  rintro W ⟨⟨b1, hb⟩, ht⟩
  have c1 := b1.cells
  have z1 := b1.lt
  go_wp2_with fail
  refine (tflies_any rl p lo ⟨⟨kc, kn⟩, d⟩ W ht HG.out).mono ?_
  generalize hfr : fliesF (rl.map (·.f)) ⟨⟨kc, kn⟩, d⟩ = q
  have HF := Lib.hid hfr
  clear hfr
  rintro e w1 ⟨rfl, h1⟩
  have b1' := b1.below h1 z1
  have hb1 := hb.trans (h1.mono hb.size)
  have ht1 := ht.keep h1
  clear c1 ht b1 z1
  have c1 := b1'.cells
  have z1 := b1'.lt
  rcases q with _ | _
  · have hno := Lib.hid (levelF_no (c := cl) HF.out)
    go_wp2
    go_ret2
    exact RetN2.mk' hno.out hb1
  · cases hi : idxR rl rl.length ⟨kc, kn⟩ with
    | none =>
      have := fliesF_none (g := ⟨⟨kc, kn⟩, d⟩) (idxR_nofind hi)
      rw [HF.out] at this
      cases this
    | some i =>
      obtain ⟨mp, A, n, c, hx, hs, hn, hl1, hl2⟩ := ht1.open_
      have hlk := fun m => hl1 ⟨kc, kn⟩ i HK.out hi false m
      obtain ⟨r, hr, hrk, hf⟩ := idxR_find hi
      have hlt : i < n := by have := (List.getElem?_eq_some_iff.1 hr).1; have := hs.sl.len; omega
      have HY := Lib.hid (levelF_yes (c := cl) HF.out hf)
      have HR := Lib.hid hr
      have HSM := Lib.hid ht1.small
      simp only [Bool.false_eq_true, if_false] at hlk
      clear hi hf hr hrk hl1 hl2 ht1
      obtain ⟨b0, o0, ⟨f, A', n', c'⟩, hA, _, hb0, hxs, hok, hcl, d0, d1, d2, d3, d4, d5, d6, d7, d8⟩ := hs.at_ hlt
      have hsr := hxs.out.symm.trans HR.out
      injection hsr with hsr
      subst hsr
      subst hA
      have cx := hx.cells
      have i0 : (0 : Int) ≤ i := by omega
      have i1 : (i : Int) < n := by omega
      have hn' : n' ≤ 6 := HSM.out _ (List.mem_of_getElem? HR.out)
      have hlen : Hid (f.cls.length = n') := hok.len
      have HCL := Lib.hid hcl
      have HW1 := Lib.hid (Nat.le_refl w1.heap.size)
      dsimp only at d0 d1 d2 d3 d4 d5 d6 d7 d8
      clear hok hcl
      go_wp2
      go_quiet (fail)
      clear hlk
      go_wp2
      go_loopw [29] (fun i wr => ∃ j : Nat, j ≤ n' ∧ i = .int .i64 j ∧ Hid (noCl f.cls cl j) ∧ Below w1.heap.size w1 wr) (fun i _ => n' - (intOf i).toNat)
      case atStart => exact ⟨0, by omega, rfl, fun j r hj => absurd hj (by omega), below_drewN (Below.refl _ _) _⟩
      case round =>
        obtain ⟨j, hj, rfl, HN, hV⟩ := hrel
        have hbV := hb1.trans (hV.mono hb1.size)
        by_cases hlt2 : j < n'
        · obtain ⟨b2, o2, ⟨x, y⟩, hA, _, _, hx2, hok2, e0, e1⟩ := (Sl.below HCL.out hV (Nat.le_refl _)).cls_ hlt2
          have hA' : A' = some ⟨b2, o2, none⟩ := hA
          subst hA'
          dsimp only at e0 e1
          have k0 : (0 : Int) ≤ j := by omega
          have k1 : (j : Int) < n' := by omega
          by_cases hq : x = cl
          · have hq' : (x == cl) = true := by simp [hq]
            have hfin := Lib.hid (HY.out.trans (lvF_at HN.out hx2.out hq))
            clear hq
            go_wp2
            go_ret2
            exact RetN2.mk' hfin.out (hbV.alloc hbV.size _)
          · have hq' : (x == cl) = false := by simp [hq]
            have hno := Lib.hid (show noCl f.cls cl (j + 1) from fun i r hi hr => by
              rcases Nat.lt_succ_iff_lt_or_eq.1 hi with h | h
              · exact HN.out i r h hr
              · rw [h, hx2.out] at hr
                injection hr with hr
                subst hr
                exact hq)
            clear hq
            go_wp2
            go_roundw
            case rel => exact ⟨j + 1, by omega, by go_num, hno, hV.alloc hV.size _⟩
            case measure => simp [intOf]; omega
        · obtain rfl : n' = j := by omega
          have hfin := Lib.hid (HY.out.trans (lvF_no (by rw [hlen.out]; exact HN.out)))
          go_wp2
          go_ret2
          exact RetN2.mk' hfin.out hbV
/-- A list of flights in new memory. -/
def RetL (w : World) (L : List Flt) (e : Ending) (w' : World) : Prop :=
  ∃ A n c out, e = .returned (.slice A n c) ∧ OwnF w' 55 99 w.heap.size (.slice A n c) out ∧ out.map (·.f) = L ∧ Below w.heap.size w w'
/-- Flights that are collected, copied one by one. -/
structure Col (w : World) (l : List FlR) (v : Value) (W : World) : Prop where
  out : ∃ out, OwnF W 55 99 w.heap.size v out ∧ out.map (·.f) = l.map (·.f)
  B : Below w.heap.size w W
theorem Col.zero (w : World) : Col w [] (.slice none 0 0) w := ⟨⟨[], OwnF.nil_ _ _ _ _, rfl⟩, Below.refl _ _⟩
theorem Col.step {w W W1 : World} {l : List FlR} {v : Value} (h : Col w l v W) (hb : Below W.heap.size W W1) : Col w l v W1 := by
  obtain ⟨out, h1, h2⟩ := h.out
  exact ⟨⟨out, h1.keep hb, h2⟩, h.B.trans (hb.mono h.B.size)⟩
theorem Col.next {w W W1 W2 : World} {l out : List FlR} {v v' : Value} {s : FlR} {A1 : Option Addr} {c1 : Nat} (ho : OwnF W 55 99 w.heap.size v out) (hm : out.map (·.f) = l.map (·.f)) (hB : Below w.heap.size w W)
    (h1 : Below W.heap.size W W1) (hs : ClOwn W1 99 W.heap.size (FlR.mk s.f A1 s.n c1)) (h2 : Own W2 w.heap.size 55 tFl v' (out ++ [FlR.mk s.f A1 s.n c1])) (hg : W1.grownBy W2 v.ownBlock)
    (hv : v'.ownBlock = v.ownBlock ∨ ∀ k, v'.ownBlock = some k → W1.heap.size ≤ k) : Col w (l ++ [s]) v' W2 := by
  refine ⟨⟨_, OwnF.push ho h1 hs hB.size h2 hg hv, by rw [List.map_append, List.map_append, hm]; rfl⟩, ?_⟩
  exact (hB.trans (h1.mono hB.size)).grown hg (Nat.le_trans hB.size h1.size) fun k hk => (ho.own.lt k hk).1
end Go.Proofs.YtlkdefmceghmnaaGreatDoor
