/- StockNever is true of every input. -/
import Derived.Test.YtlkdefmceghmnaaGreatStLaw
import Derived.BigGuardPart
namespace Go.Proofs.YtlkdefmceghmnaaGreat
set_option linter.unusedVariables false
open Go Go.RowKit Go.Sort
/-- No more than the level, nor fewer than none. -/
def NV (fs : List Flt) (q : Cel → Int) : Prop := ∀ c : Cel, 0 ≤ q c ∧ q c ≤ (levelF fs c.leg c.cl).1
theorem NV.qb {fs : List Flt} {q : Cel → Int} (h : NV fs q) (hr : ∀ f ∈ fs, rightB f = true) : QB q := fun c => ⟨(h c).1, Int.le_trans (h c).2 (level_le hr c.leg c.cl).2⟩
theorem NV.zero {fs : List Flt} (hr : ∀ f ∈ fs, rightB f = true) : NV fs (fun _ => 0) := fun c => ⟨Int.le_refl _, (level_le hr c.leg c.cl).1⟩
theorem NV.upd {fs : List Flt} {q : Cel → Int} (h : NV fs q) {c : Cel} {z : Int} (h0 : 0 ≤ z) (h1 : z ≤ (levelF fs c.leg c.cl).1) : NV fs (updQ q c z) := fun d => by
  by_cases e : d = c
  · rw [e, updQ_same]; exact ⟨h0, h1⟩
  · rw [updQ_other _ _ _ e]; exact h d
theorem wrap64_small {z : Int} (h0 : -9223372036854775808 ≤ z) (h1 : z ≤ 9223372036854775807) : wrap64 z = z := by unfold wrap64; omega
theorem sell_facts (lv : Int × Int) (z n : Int) : (1 ≤ n ∧ n ≤ 9 ∧ z + n ≤ lv.1 ∧ sellF lv z n = (0, z + n)) ∨ ∃ k, k ≠ 0 ∧ sellF lv z n = (k, z) := by
  unfold sellF
  split
  · exact .inr ⟨1, by decide, rfl⟩
  · split
    · rename_i h; exact .inr ⟨lv.2, h, rfl⟩
    · split
      · exact .inr ⟨13, by decide, rfl⟩
      · exact .inl ⟨by omega, by omega, by omega, rfl⟩
theorem canc_facts (lv : Int × Int) (z n : Int) : (1 ≤ n ∧ n ≤ 9 ∧ n ≤ z ∧ cancF lv z n = (0, z - n)) ∨ ∃ k, k ≠ 0 ∧ cancF lv z n = (k, z) := by
  unfold cancF
  split
  · exact .inr ⟨1, by decide, rfl⟩
  · split
    · rename_i h; exact .inr ⟨lv.2, h, rfl⟩
    · split
      · exact .inr ⟨7, by decide, rfl⟩
      · exact .inl ⟨by omega, by omega, by omega, rfl⟩
set_option maxRecDepth 100000 in
set_option maxHeartbeats 16000000 in
theorem stockNever_any (rl : List FlR) (A : Option Addr) (n c : Nat) (w : World) (hs : FlS w 0 w.heap.size A n rl) (sc : List SAct) (A2 : Option Addr) (n2 c2 : Nat) (ha : Sl w 0 w.heap.size tSA A2 n2 sc) :
    Calls Tryz.prog 4 #[.slice A n c, .slice A2 n2 c2] w (RetB w true) := by
  have HS := Lib.hid hs
  have HA := Lib.hid ha
  have HL := Lib.hid hs.sl.len
  have HOK := Lib.hid hs.sl.wf
  clear hs ha
  go_enter Tryz.func4, Tryz.ntmps4
  go_wp2_with fail
  refine (awake10_any w).mono ?_
  rintro e w1 ⟨rfl, h1⟩
  have H1 := Lib.hid h1
  have z1 := h1.size
  clear h1
  go_wp2_with fail
  refine (begun_any rl A n c w1 0 w.heap.size (HS.out.below H1.out (Nat.le_refl _)) z1).mono ?_
  rintro e w2 ⟨h2, hq⟩
  have H2 := Lib.hid (H1.out.trans (h2.mono z1))
  have z2 := H2.out.size
  rcases hq with ⟨_, rfl⟩ | ⟨hnew, lo, hi, t, p, b, rs, rfl, hSK, hz, htab⟩
  · go_wp2
    go_ret
    exact ⟨rfl, H2.out⟩
  have HR := Lib.hid htab.right
  have HT := Lib.hid htab
  have hn64 : n ≤ 64 := by have h5 := htab.most; rw [List.length_map, HL.out] at h5; exact h5
  have HFO := Lib.hid (show ∀ f ∈ rl.map (·.f), f.ok from fun f hf => by obtain ⟨r, hr, rfl⟩ := List.mem_map.1 hf; exact (HOK.out r hr).f)
  have HSM := Lib.hid (show ∀ r ∈ rl, r.n ≤ 100000 from fun r hr => by
    have h5 := right_few (HR.out _ (List.mem_map_of_mem hr))
    have h6 := (HOK.out r hr).len
    omega)
  have HSK := Lib.hid hSK
  have zb := hSK.hb
  have zbb := hSK.blt
  clear htab hSK h2 hnew
  by_cases hm : 200 < n2
  · have hm' : (200 : Int) < n2 := by omega
    go_wp2
    go_ret
    exact ⟨rfl, H2.out⟩
  have hm' : (n2 : Int) ≤ 200 := by omega
  go_wp2
  go_loopw [7] (fun i wr => ∃ k : Nat, k ≤ n2 ∧ i = .int .i64 k ∧ (∃ q, SK wr lo hi t p b rs q ∧ Hid (NV (rl.map (·.f)) q)) ∧ Below w.heap.size w wr) (fun i _ => n2 - (intOf i).toNat)
  case atStart => exact ⟨0, Nat.zero_le _, rfl, ⟨_, HSK.out, NV.zero HR.out⟩, H2.out⟩
  case round =>
    clear HSK zbb
    obtain ⟨k, hk, rfl, ⟨q, hSK, HNV⟩, hb⟩ := hrel
    have HSK := Lib.hid hSK
    have HB := Lib.hid hb
    have zbb := hSK.blt
    have zw := hb.size
    by_cases hlt : k < n2
    · obtain ⟨b0, o0, a, hA, _, hb0, hx, hok, d0, d1, d2, d3, d4, d5, d6⟩ := (Sl.below HA.out hb (Nat.le_refl _)).act_ hlt
      subst hA
      have i0 : (0 : Int) ≤ k := by omega
      have i1 : (k : Int) < n2 := by omega
      have hb0w : b0 < wr.heap.size := by omega
      clear hSK hb
      have HOA := Lib.hid hok
      clear hok hx
      go_upto_region 10 with fail
      refine wp_world (fun V => Bx V wr.heap.size #[.int .i64 a.kind, .int .i64 a.fl, .int .i64 a.n, .string a.leg.key.car, .int .i64 a.leg.key.num, .int .i64 a.leg.day, .int .u8 a.cl] 29 ∧ SK V lo hi t p b rs q ∧ Below w.heap.size w V) ⟨Bx.new _ _ _, HSK.out.keep ((Below.refl _ _).alloc (Nat.le_refl _) _), HB.out.alloc zw _⟩ ?_
      clear d0 d1 d2 d3 d4 d5 d6 HSK HB
      rintro V ⟨bA, hSK, hb⟩
      have HSK := Lib.hid hSK
      have HB := Lib.hid hb
      have BA := Lib.hid bA
      have zA := bA.lt
      have c1 := bA.cells
      clear hSK hb bA
      go_wp2_with fail
      refine (leg_any rl A n c V 0 w.heap.size (HS.out.below HB.out (Nat.le_refl _)) HB.out.size a).mono ?_
      generalize hg : legA (rl.map (·.f)) a = g
      have HG := Lib.hid (show g.ok from hg ▸ legA_ok HOA.out HFO.out)
      clear hg
      rintro e w3 ⟨rfl, h3⟩
      have HSK3 := Lib.hid (HSK.out.keep h3)
      have HB3 := Lib.hid (HB.out.trans (h3.mono HB.out.size))
      have BA3 := Lib.hid (BA.out.below h3 BA.out.lt)
      have z3 := HB3.out.size
      clear h3 HSK HB BA c1
      go_upto_region 11 with fail
      refine wp_world (fun V => (Bx V wr.heap.size #[.int .i64 a.kind, .int .i64 a.fl, .int .i64 a.n, .string a.leg.key.car, .int .i64 a.leg.key.num, .int .i64 a.leg.day, .int .u8 a.cl] 29 ∧ Bx V w3.heap.size #[.string g.key.car, .int .i64 g.key.num, .int .i64 g.day] 27) ∧ SK V lo hi t p b rs q ∧ Below w.heap.size w V) ⟨⟨BA3.out.alloc _, Bx.new _ _ _⟩, HSK3.out.keep ((Below.refl _ _).alloc (Nat.le_refl _) _), HB3.out.alloc z3 _⟩ ?_
      have zA3 := BA3.out.lt
      have zb3 := HSK3.out.blt
      clear HSK3 HB3 BA3
      rintro V2 ⟨⟨bA, bX⟩, hSK, hb⟩
      have HSK2 := Lib.hid hSK
      have HB2 := Lib.hid hb
      have BA2 := Lib.hid bA
      have BX2 := Lib.hid bX
      have c1 := bA.cells
      have c2 := bX.cells
      clear hSK hb bA bX
      have HLT := Lib.hid (HT.out.level g a.cl)
      have HLB := Lib.hid (show 0 ≤ (levelF (rs.map (·.f)) g a.cl).1 ∧ (levelF (rs.map (·.f)) g a.cl).1 ≤ 400 by rw [HLT.out]; exact level_le HR.out _ _)
      have HNVc := Lib.hid (HNV.out ⟨g, a.cl⟩)
      generalize hlv : levelF (rl.map (·.f)) g a.cl = lv at HLT HNVc
      have HLV := Lib.hid hlv
      clear hlv
      go_wp2_with fail
      refine (sold_any HSK2.out g a.cl HG.out HOA.out.cl).mono ?_
      generalize hz : q ⟨g, a.cl⟩ = z at HNVc
      have HZ := Lib.hid hz
      rintro e w4 ⟨rfl, h4⟩
      have HSK4 := Lib.hid (HSK2.out.keep h4)
      have HB4 := Lib.hid (HB2.out.trans (h4.mono HB2.out.size))
      have bA4 := BA2.out.below h4 BA2.out.lt
      have bX4 := BX2.out.below h4 BX2.out.lt
      have BA4 := Lib.hid bA4
      have BX4 := Lib.hid bX4
      have z4 := HB4.out.size
      clear c1 c2 h4 hz HSK2 HB2 BA2 BX2
      have c1 := bA4.cells
      have c2 := bX4.cells
      clear bA4 bX4
      have hnz0 := HNVc.out.1
      have hnz1 := HNVc.out.2
      by_cases k0 : a.kind = 0
      · rw [k0] at c1
        go_wp2_with fail
        refine (sell_any HSK4.out g a.cl a.n HG.out HOA.out.cl (HNV.out.qb HR.out) HLB.out).mono ?_
        rintro e w5 h5
        rw [HLT.out, HZ.out] at h5
        rcases sell_facts lv z a.n with ⟨m1, m9, mle, hr⟩ | ⟨kc, hkc, hr⟩
        · obtain ⟨rfl, hS5, hk5⟩ := h5.is (k := 0) (z := z + a.n) hr
          clear h5 hr
          have bA5 := BA4.out.kb hk5 (by omega)
          have bX5 := BX4.out.kb hk5 (by omega)
          have HB5 := Lib.hid (hk5.below HB4.out (by omega) z4)
          have HSK5 := Lib.hid hS5
          have BA5 := Lib.hid bA5
          have BX5 := Lib.hid bX5
          have c1 := bA5.cells
          have c2 := bX5.cells
          clear hS5 hk5 bA5 bX5
          have hlv4 := HLB.out.2
          rw [HLT.out] at hlv4
          go_upto_region 23 with fail
          have HW : z + min (max a.n 0) 9 = z + a.n := by omega
          rw [HW]
          clear HW
          have hv0 : 0 ≤ z + a.n := by omega
          have hv1 : z + a.n ≤ lv.1 := by omega
          have HNV5 := Lib.hid (HNV.out.upd (c := ⟨g, a.cl⟩) (z := z + a.n) hv0 (by rw [HLV.out]; exact hv1))
          generalize z + a.n = nv at hv0 hv1 HSK5 HNV5
          have t1 : (nv != nv) = false := by simp
          have t2 : decide (nv < 0) = false := by simp; omega
          have t3 : decide (lv.1 < nv) = false := by simp; omega
          have z5 := HB5.out.size
          go_wp2_with fail
          refine (rlevel_any rl A n c g a.cl w5 0 w.heap.size (HS.out.below HB5.out (Nat.le_refl _)) (by omega) z5 HSM.out).mono ?_
          rintro e w6 ⟨rfl, h6⟩
          rw [HLV.out]
          have HSK6 := Lib.hid (HSK5.out.keep h6)
          have HB6 := Lib.hid (HB5.out.trans (h6.mono z5))
          have bA6 := BA5.out.below h6 BA5.out.lt
          have bX6 := BX5.out.below h6 BX5.out.lt
          have BA6 := Lib.hid bA6
          have BX6 := Lib.hid bX6
          have z6 := HB6.out.size
          clear c1 c2 h6 HSK5 HB5 BA5 BX5
          have c1 := bA6.cells
          have c2 := bX6.cells
          clear bA6 bX6
          go_wp2_with fail
          refine (sold_any HSK6.out g a.cl HG.out HOA.out.cl).mono ?_
          rintro e w7 ⟨rfl, h7⟩
          rw [updQ_same]
          have HSK7 := Lib.hid (HSK6.out.keep h7)
          have HB7 := Lib.hid (HB6.out.trans (h7.mono z6))
          have bA7 := BA6.out.below h7 BA6.out.lt
          have bX7 := BX6.out.below h7 BX6.out.lt
          have z7 := HB7.out.size
          clear c1 c2 h7 HSK6 HB6 BA6 BX6
          have c1 := bA7.cells
          have c2 := bX7.cells
          clear bA7 bX7
          go_wp2_with fail
          refine (left_any HSK7.out g a.cl HG.out HOA.out.cl (HNV5.out.qb HR.out) HLB.out).mono ?_
          rintro e w8 ⟨rfl, h8⟩
          rw [HLT.out, updQ_same]
          have HSK8 := Lib.hid (HSK7.out.keep h8)
          have HB8 := Lib.hid (HB7.out.trans (h8.mono z7))
          clear c1 c2 h8 HSK7 HB7
          go_wp2
          go_roundw
          case rel => exact ⟨k + 1, by omega, by go_num, ⟨_, HSK8.out, HNV5.out⟩, HB8.out⟩
          case measure => simp [intOf]; omega
        · obtain ⟨rfl, hS5, hk5⟩ := h5.is (k := kc) (z := z) hr
          clear h5 hr
          have bA5 := BA4.out.kb hk5 (by omega)
          have bX5 := BX4.out.kb hk5 (by omega)
          have HB5 := Lib.hid (hk5.below HB4.out (by omega) z4)
          have HSK5 := Lib.hid hS5
          have BA5 := Lib.hid bA5
          have BX5 := Lib.hid bX5
          have c1 := bA5.cells
          have c2 := bX5.cells
          clear hS5 hk5 bA5 bX5
          have hlv4 := HLB.out.2
          rw [HLT.out] at hlv4
          go_upto_region 23 with fail
          have hv0 : 0 ≤ z := by omega
          have hv1 : z ≤ lv.1 := by omega
          have HNV5 := Lib.hid (HNV.out.upd (c := ⟨g, a.cl⟩) (z := z) hv0 (by rw [HLV.out]; exact hv1))
          generalize z = nv at hv0 hv1 HSK5 HNV5
          have t1 : (nv != nv) = false := by simp
          have t2 : decide (nv < 0) = false := by simp; omega
          have t3 : decide (lv.1 < nv) = false := by simp; omega
          have z5 := HB5.out.size
          go_wp2_with fail
          refine (rlevel_any rl A n c g a.cl w5 0 w.heap.size (HS.out.below HB5.out (Nat.le_refl _)) (by omega) z5 HSM.out).mono ?_
          rintro e w6 ⟨rfl, h6⟩
          rw [HLV.out]
          have HSK6 := Lib.hid (HSK5.out.keep h6)
          have HB6 := Lib.hid (HB5.out.trans (h6.mono z5))
          have bA6 := BA5.out.below h6 BA5.out.lt
          have bX6 := BX5.out.below h6 BX5.out.lt
          have BA6 := Lib.hid bA6
          have BX6 := Lib.hid bX6
          have z6 := HB6.out.size
          clear c1 c2 h6 HSK5 HB5 BA5 BX5
          have c1 := bA6.cells
          have c2 := bX6.cells
          clear bA6 bX6
          go_wp2_with fail
          refine (sold_any HSK6.out g a.cl HG.out HOA.out.cl).mono ?_
          rintro e w7 ⟨rfl, h7⟩
          rw [updQ_same]
          have HSK7 := Lib.hid (HSK6.out.keep h7)
          have HB7 := Lib.hid (HB6.out.trans (h7.mono z6))
          have bA7 := BA6.out.below h7 BA6.out.lt
          have bX7 := BX6.out.below h7 BX6.out.lt
          have z7 := HB7.out.size
          clear c1 c2 h7 HSK6 HB6 BA6 BX6
          have c1 := bA7.cells
          have c2 := bX7.cells
          clear bA7 bX7
          go_wp2_with fail
          refine (left_any HSK7.out g a.cl HG.out HOA.out.cl (HNV5.out.qb HR.out) HLB.out).mono ?_
          rintro e w8 ⟨rfl, h8⟩
          rw [HLT.out, updQ_same]
          have HSK8 := Lib.hid (HSK7.out.keep h8)
          have HB8 := Lib.hid (HB7.out.trans (h8.mono z7))
          clear c1 c2 h8 HSK7 HB7
          go_wp2
          go_roundw
          case rel => exact ⟨k + 1, by omega, by go_num, ⟨_, HSK8.out, HNV5.out⟩, HB8.out⟩
          case measure => simp [intOf]; omega
      · by_cases k1 : a.kind = 1
        · rw [k1] at c1
          go_wp2_with fail
          refine (cancel_any HSK4.out g a.cl a.n HG.out HOA.out.cl (HNV.out.qb HR.out) HLB.out).mono ?_
          rintro e w5 h5
          rw [HLT.out, HZ.out] at h5
          rcases canc_facts lv z a.n with ⟨m1, m9, mle, hr⟩ | ⟨kc, hkc, hr⟩
          · obtain ⟨rfl, hS5, hk5⟩ := h5.is (k := 0) (z := z - a.n) hr
            clear h5 hr
            have bA5 := BA4.out.kb hk5 (by omega)
            have bX5 := BX4.out.kb hk5 (by omega)
            have HB5 := Lib.hid (hk5.below HB4.out (by omega) z4)
            have HSK5 := Lib.hid hS5
            have BA5 := Lib.hid bA5
            have BX5 := Lib.hid bX5
            have c1 := bA5.cells
            have c2 := bX5.cells
            clear hS5 hk5 bA5 bX5
            have hlv4 := HLB.out.2
            rw [HLT.out] at hlv4
            go_upto_region 23 with fail
            have HW : z - min (max a.n 0) 9 = z - a.n := by omega
            rw [HW]
            clear HW
            have hv0 : 0 ≤ z - a.n := by omega
            have hv1 : z - a.n ≤ lv.1 := by omega
            have HNV5 := Lib.hid (HNV.out.upd (c := ⟨g, a.cl⟩) (z := z - a.n) hv0 (by rw [HLV.out]; exact hv1))
            generalize z - a.n = nv at hv0 hv1 HSK5 HNV5
            have t1 : (nv != nv) = false := by simp
            have t2 : decide (nv < 0) = false := by simp; omega
            have t3 : decide (lv.1 < nv) = false := by simp; omega
            have z5 := HB5.out.size
            go_wp2_with fail
            refine (rlevel_any rl A n c g a.cl w5 0 w.heap.size (HS.out.below HB5.out (Nat.le_refl _)) (by omega) z5 HSM.out).mono ?_
            rintro e w6 ⟨rfl, h6⟩
            rw [HLV.out]
            have HSK6 := Lib.hid (HSK5.out.keep h6)
            have HB6 := Lib.hid (HB5.out.trans (h6.mono z5))
            have bA6 := BA5.out.below h6 BA5.out.lt
            have bX6 := BX5.out.below h6 BX5.out.lt
            have BA6 := Lib.hid bA6
            have BX6 := Lib.hid bX6
            have z6 := HB6.out.size
            clear c1 c2 h6 HSK5 HB5 BA5 BX5
            have c1 := bA6.cells
            have c2 := bX6.cells
            clear bA6 bX6
            go_wp2_with fail
            refine (sold_any HSK6.out g a.cl HG.out HOA.out.cl).mono ?_
            rintro e w7 ⟨rfl, h7⟩
            rw [updQ_same]
            have HSK7 := Lib.hid (HSK6.out.keep h7)
            have HB7 := Lib.hid (HB6.out.trans (h7.mono z6))
            have bA7 := BA6.out.below h7 BA6.out.lt
            have bX7 := BX6.out.below h7 BX6.out.lt
            have z7 := HB7.out.size
            clear c1 c2 h7 HSK6 HB6 BA6 BX6
            have c1 := bA7.cells
            have c2 := bX7.cells
            clear bA7 bX7
            go_wp2_with fail
            refine (left_any HSK7.out g a.cl HG.out HOA.out.cl (HNV5.out.qb HR.out) HLB.out).mono ?_
            rintro e w8 ⟨rfl, h8⟩
            rw [HLT.out, updQ_same]
            have HSK8 := Lib.hid (HSK7.out.keep h8)
            have HB8 := Lib.hid (HB7.out.trans (h8.mono z7))
            clear c1 c2 h8 HSK7 HB7
            go_wp2
            go_roundw
            case rel => exact ⟨k + 1, by omega, by go_num, ⟨_, HSK8.out, HNV5.out⟩, HB8.out⟩
            case measure => simp [intOf]; omega
          · obtain ⟨rfl, hS5, hk5⟩ := h5.is (k := kc) (z := z) hr
            clear h5 hr
            have bA5 := BA4.out.kb hk5 (by omega)
            have bX5 := BX4.out.kb hk5 (by omega)
            have HB5 := Lib.hid (hk5.below HB4.out (by omega) z4)
            have HSK5 := Lib.hid hS5
            have BA5 := Lib.hid bA5
            have BX5 := Lib.hid bX5
            have c1 := bA5.cells
            have c2 := bX5.cells
            clear hS5 hk5 bA5 bX5
            have hlv4 := HLB.out.2
            rw [HLT.out] at hlv4
            go_upto_region 23 with fail
            have hv0 : 0 ≤ z := by omega
            have hv1 : z ≤ lv.1 := by omega
            have HNV5 := Lib.hid (HNV.out.upd (c := ⟨g, a.cl⟩) (z := z) hv0 (by rw [HLV.out]; exact hv1))
            generalize z = nv at hv0 hv1 HSK5 HNV5
            have t1 : (nv != nv) = false := by simp
            have t2 : decide (nv < 0) = false := by simp; omega
            have t3 : decide (lv.1 < nv) = false := by simp; omega
            have z5 := HB5.out.size
            go_wp2_with fail
            refine (rlevel_any rl A n c g a.cl w5 0 w.heap.size (HS.out.below HB5.out (Nat.le_refl _)) (by omega) z5 HSM.out).mono ?_
            rintro e w6 ⟨rfl, h6⟩
            rw [HLV.out]
            have HSK6 := Lib.hid (HSK5.out.keep h6)
            have HB6 := Lib.hid (HB5.out.trans (h6.mono z5))
            have bA6 := BA5.out.below h6 BA5.out.lt
            have bX6 := BX5.out.below h6 BX5.out.lt
            have BA6 := Lib.hid bA6
            have BX6 := Lib.hid bX6
            have z6 := HB6.out.size
            clear c1 c2 h6 HSK5 HB5 BA5 BX5
            have c1 := bA6.cells
            have c2 := bX6.cells
            clear bA6 bX6
            go_wp2_with fail
            refine (sold_any HSK6.out g a.cl HG.out HOA.out.cl).mono ?_
            rintro e w7 ⟨rfl, h7⟩
            rw [updQ_same]
            have HSK7 := Lib.hid (HSK6.out.keep h7)
            have HB7 := Lib.hid (HB6.out.trans (h7.mono z6))
            have bA7 := BA6.out.below h7 BA6.out.lt
            have bX7 := BX6.out.below h7 BX6.out.lt
            have z7 := HB7.out.size
            clear c1 c2 h7 HSK6 HB6 BA6 BX6
            have c1 := bA7.cells
            have c2 := bX7.cells
            clear bA7 bX7
            go_wp2_with fail
            refine (left_any HSK7.out g a.cl HG.out HOA.out.cl (HNV5.out.qb HR.out) HLB.out).mono ?_
            rintro e w8 ⟨rfl, h8⟩
            rw [HLT.out, updQ_same]
            have HSK8 := Lib.hid (HSK7.out.keep h8)
            have HB8 := Lib.hid (HB7.out.trans (h8.mono z7))
            clear c1 c2 h8 HSK7 HB7
            go_wp2
            go_roundw
            case rel => exact ⟨k + 1, by omega, by go_num, ⟨_, HSK8.out, HNV5.out⟩, HB8.out⟩
            case measure => simp [intOf]; omega
        · have HSK5 : Hid (SK w4 lo hi t p b rs (updQ q ⟨g, a.cl⟩ z)) := by rw [← HZ.out, updQ_self]; exact HSK4
          have HB5 := HB4
          have BA5 := BA4
          have BX5 := BX4
          have hlv4 := HLB.out.2
          rw [HLT.out] at hlv4
          go_upto_region 23 with fail
          have hv0 : 0 ≤ z := by omega
          have hv1 : z ≤ lv.1 := by omega
          have HNV5 := Lib.hid (HNV.out.upd (c := ⟨g, a.cl⟩) (z := z) hv0 (by rw [HLV.out]; exact hv1))
          generalize z = nv at hv0 hv1 HSK5 HNV5
          have t1 : (nv != nv) = false := by simp
          have t2 : decide (nv < 0) = false := by simp; omega
          have t3 : decide (lv.1 < nv) = false := by simp; omega
          have z5 := HB5.out.size
          go_wp2_with fail
          refine (rlevel_any rl A n c g a.cl w4 0 w.heap.size (HS.out.below HB5.out (Nat.le_refl _)) (by omega) z5 HSM.out).mono ?_
          rintro e w6 ⟨rfl, h6⟩
          rw [HLV.out]
          have HSK6 := Lib.hid (HSK5.out.keep h6)
          have HB6 := Lib.hid (HB5.out.trans (h6.mono z5))
          have bA6 := BA5.out.below h6 BA5.out.lt
          have bX6 := BX5.out.below h6 BX5.out.lt
          have BA6 := Lib.hid bA6
          have BX6 := Lib.hid bX6
          have z6 := HB6.out.size
          clear c1 c2 h6 HSK5 HB5 BA5 BX5
          have c1 := bA6.cells
          have c2 := bX6.cells
          clear bA6 bX6
          go_wp2_with fail
          refine (sold_any HSK6.out g a.cl HG.out HOA.out.cl).mono ?_
          rintro e w7 ⟨rfl, h7⟩
          rw [updQ_same]
          have HSK7 := Lib.hid (HSK6.out.keep h7)
          have HB7 := Lib.hid (HB6.out.trans (h7.mono z6))
          have bA7 := BA6.out.below h7 BA6.out.lt
          have bX7 := BX6.out.below h7 BX6.out.lt
          have z7 := HB7.out.size
          clear c1 c2 h7 HSK6 HB6 BA6 BX6
          have c1 := bA7.cells
          have c2 := bX7.cells
          clear bA7 bX7
          go_wp2_with fail
          refine (left_any HSK7.out g a.cl HG.out HOA.out.cl (HNV5.out.qb HR.out) HLB.out).mono ?_
          rintro e w8 ⟨rfl, h8⟩
          rw [HLT.out, updQ_same]
          have HSK8 := Lib.hid (HSK7.out.keep h8)
          have HB8 := Lib.hid (HB7.out.trans (h8.mono z7))
          clear c1 c2 h8 HSK7 HB7
          go_wp2
          go_roundw
          case rel => exact ⟨k + 1, by omega, by go_num, ⟨_, HSK8.out, HNV5.out⟩, HB8.out⟩
          case measure => simp [intOf]; omega
    · obtain rfl : n2 = k := by omega
      go_wp2
      go_ret
      exact ⟨rfl, HB.out⟩
end Go.Proofs.YtlkdefmceghmnaaGreat
