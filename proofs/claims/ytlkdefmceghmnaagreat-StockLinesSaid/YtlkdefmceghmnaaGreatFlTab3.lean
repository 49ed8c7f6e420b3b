/- Package flight: what a table tells: Level, All, Between. -/
import Derived.Test.YtlkdefmceghmnaaGreatFlTab2
namespace Go.Proofs.YtlkdefmceghmnaaGreat
set_option linter.unusedVariables false
open Go Go.RowKit Go.Sort
set_option maxRecDepth 100000 in
set_option maxHeartbeats 4000000 in
theorem tlevel_any (rl : List FlR) (p lo : Nat) (g : Leg) (cl : Int) (w : World) (ht : TB w lo p rl) (hg : g.ok) :
    Calls Tryz.prog 48 #[.pointer (some ⟨p, 0, none⟩), .agg #[.string g.key.car, .int .i64 g.key.num, .int .i64 g.day], .int .u8 cl] w (RetN2 w (levelF (rl.map (·.f)) g cl)) := by
  have HG := Lib.hid hg
  have HK := Lib.hid hg.1
  obtain ⟨⟨kc, kn⟩, d⟩ := g
  dsimp only
  have HB := And.intro (box1 w #[.string kc, .int .i64 kn, .int .i64 d] 27) (ht.keep ((Below.refl w.heap.size w).alloc (Nat.le_refl _) (.cells #[.string kc, .int .i64 kn, .int .i64 d] 27)))
  clear ht hg
  go_enter Tryz.func48, Tryz.ntmps48
  go_upto_region 1 with fail
  refine wp_world (fun W => (Bx W w.heap.size #[.string kc, .int .i64 kn, .int .i64 d] 27 ∧ Below w.heap.size w W) ∧ TB W lo p rl) HB ?_
  clear HB
  rintro W ⟨⟨b1, hb⟩, ht⟩
  have c1 := b1.cells
  have z1 := b1.lt
  go_wp2_with fail
  refine (tflies_any rl p lo ⟨⟨kc, kn⟩, d⟩ W ht HG.out).mono ?_
  generalize hfr : fliesF (rl.map (·.f)) ⟨⟨kc, kn⟩, d⟩ = q
  have HF := Lib.hid hfr
  clear hfr
  rintro e w1 ⟨rfl, h1⟩
  have b1' := b1.below h1 z1
  have hb1 := hb.trans (h1.mono hb.size)
  have ht1 := ht.keep h1
  clear c1 ht b1 z1
  have c1 := b1'.cells
  have z1 := b1'.lt
  rcases q with _ | _
  · have hno := Lib.hid (levelF_no (c := cl) HF.out)
    go_wp2
    go_ret2
    exact RetN2.mk' hno.out hb1
  · cases hi : idxR rl rl.length ⟨kc, kn⟩ with
    | none =>
      have := fliesF_none (g := ⟨⟨kc, kn⟩, d⟩) (idxR_nofind hi)
      rw [HF.out] at this
      cases this
    | some i =>
      obtain ⟨mp, A, n, c, hx, hs, hn, hl1, hl2⟩ := ht1.open_
      have hlk := fun m => hl1 ⟨kc, kn⟩ i HK.out hi false m
      obtain ⟨r, hr, hrk, hf⟩ := idxR_find hi
      have hlt : i < n := by have := (List.getElem?_eq_some_iff.1 hr).1; have := hs.sl.len; omega
      have HY := Lib.hid (levelF_yes (c := cl) HF.out hf)
      have HR := Lib.hid hr
      have HSM := Lib.hid ht1.small
      simp only [Bool.false_eq_true, if_false] at hlk
      clear hi hf hr hrk hl1 hl2 ht1
      obtain ⟨b0, o0, ⟨f, A', n', c'⟩, hA, _, hb0, hxs, hok, hcl, d0, d1, d2, d3, d4, d5, d6, d7, d8⟩ := hs.at_ hlt
      have hsr := hxs.out.symm.trans HR.out
      injection hsr with hsr
      subst hsr
      subst hA
      have cx := hx.cells
      have i0 : (0 : Int) ≤ i := by omega
      have i1 : (i : Int) < n := by omega
      have hn' : n' ≤ 6 := HSM.out _ (List.mem_of_getElem? HR.out)
      have hlen : Hid (f.cls.length = n') := hok.len
      have HCL := Lib.hid hcl
      have HW1 := Lib.hid (Nat.le_refl w1.heap.size)
      dsimp only at d0 d1 d2 d3 d4 d5 d6 d7 d8
      clear hok hcl
      go_wp2
      go_quiet (fail)
      clear hlk
      go_wp2
      go_loopw [29] (fun i wr => ∃ j : Nat, j ≤ n' ∧ i = .int .i64 j ∧ Hid (noCl f.cls cl j) ∧ Below w1.heap.size w1 wr) (fun i _ => n' - (intOf i).toNat)
      case atStart => exact ⟨0, by omega, rfl, fun j r hj => absurd hj (by omega), below_drewN (Below.refl _ _) _⟩
      case round =>
        obtain ⟨j, hj, rfl, HN, hV⟩ := hrel
        have hbV := hb1.trans (hV.mono hb1.size)
        by_cases hlt2 : j < n'
        · obtain ⟨b2, o2, ⟨x, y⟩, hA, _, _, hx2, hok2, e0, e1⟩ := (Sl.below HCL.out hV (Nat.le_refl _)).cls_ hlt2
          have hA' : A' = some ⟨b2, o2, none⟩ := hA
          subst hA'
          dsimp only at e0 e1
          have k0 : (0 : Int) ≤ j := by omega
          have k1 : (j : Int) < n' := by omega
          by_cases hq : x = cl
          · have hq' : (x == cl) = true := by simp [hq]
            have hfin := Lib.hid (HY.out.trans (lvF_at HN.out hx2.out hq))
            clear hq
            go_wp2
            go_ret2
            exact RetN2.mk' hfin.out (hbV.alloc hbV.size _)
          · have hq' : (x == cl) = false := by simp [hq]
            have hno := Lib.hid (show noCl f.cls cl (j + 1) from fun i r hi hr => by
              rcases Nat.lt_succ_iff_lt_or_eq.1 hi with h | h
              · exact HN.out i r h hr
              · rw [h, hx2.out] at hr
                injection hr with hr
                subst hr
                exact hq)
            clear hq
            go_wp2
            go_roundw
            case rel => exact ⟨j + 1, by omega, by go_num, hno, hV.alloc hV.size _⟩
            case measure => simp [intOf]; omega
        · obtain rfl : n' = j := by omega
          have hfin := Lib.hid (HY.out.trans (lvF_no (by rw [hlen.out]; exact HN.out)))
          go_wp2
          go_ret2
          exact RetN2.mk' hfin.out hbV
/-- A list of flights in new memory. -/
def RetL (w : World) (L : List Flt) (e : Ending) (w' : World) : Prop :=
  ∃ A n c out, e = .returned (.slice A n c) ∧ OwnF w' 96 93 w.heap.size (.slice A n c) out ∧ out.map (·.f) = L ∧ Below w.heap.size w w'
/-- Flights that are collected, copied one by one. -/
structure Col (w : World) (l : List FlR) (v : Value) (W : World) : Prop where
  out : ∃ out, OwnF W 96 93 w.heap.size v out ∧ out.map (·.f) = l.map (·.f)
  B : Below w.heap.size w W
theorem Col.zero (w : World) : Col w [] (.slice none 0 0) w := ⟨⟨[], OwnF.nil_ _ _ _ _, rfl⟩, Below.refl _ _⟩
theorem Col.step {w W W1 : World} {l : List FlR} {v : Value} (h : Col w l v W) (hb : Below W.heap.size W W1) : Col w l v W1 := by
  obtain ⟨out, h1, h2⟩ := h.out
  exact ⟨⟨out, h1.keep hb, h2⟩, h.B.trans (hb.mono h.B.size)⟩
theorem Col.next {w W W1 W2 : World} {l out : List FlR} {v v' : Value} {s : FlR} {A1 : Option Addr} {c1 : Nat} (ho : OwnF W 96 93 w.heap.size v out) (hm : out.map (·.f) = l.map (·.f)) (hB : Below w.heap.size w W)
    (h1 : Below W.heap.size W W1) (hs : ClOwn W1 93 W.heap.size (FlR.mk s.f A1 s.n c1)) (h2 : Own W2 w.heap.size 96 tFl v' (out ++ [FlR.mk s.f A1 s.n c1])) (hg : W1.grownBy W2 v.ownBlock)
    (hv : v'.ownBlock = v.ownBlock ∨ ∀ k, v'.ownBlock = some k → W1.heap.size ≤ k) : Col w (l ++ [s]) v' W2 := by
  refine ⟨⟨_, OwnF.push ho h1 hs hB.size h2 hg hv, by rw [List.map_append, List.map_append, hm]; rfl⟩, ?_⟩
  exact (hB.trans (h1.mono hB.size)).grown hg (Nat.le_trans hB.size h1.size) fun k hk => (ho.own.lt k hk).1
end Go.Proofs.YtlkdefmceghmnaaGreat
