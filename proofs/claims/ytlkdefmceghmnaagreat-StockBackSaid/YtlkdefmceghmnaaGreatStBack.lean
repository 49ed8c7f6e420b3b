/- StockBack is true of every input. By program. -/
import Derived.Test.YtlkdefmceghmnaaGreatStPl
import Derived.Test.YtlkdefmceghmnaaGreatStCopy
import Derived.Deep.RegionHeld3
namespace Go.Proofs.YtlkdefmceghmnaaGreat
set_option linter.unusedVariables false
open Go Go.RowKit Go.Sort
set_option maxRecDepth 100000 in
set_option maxHeartbeats 16000000 in
theorem stockBack_any (rl : List FlR) (A : Option Addr) (n c : Nat) (w : World) (hs : FlS w 0 w.heap.size A n rl) (sc : List SAct) (A2 : Option Addr) (n2 c2 : Nat) (ha : Sl w 0 w.heap.size tSA A2 n2 sc) (a : SAct) (haok : a.ok) (part : Int) (hpart : okInt part) :
    Calls Tryz.prog 5 #[.slice A n c, .slice A2 n2 c2, sactV a, .int .i64 part] w (RetB w true) := by
  have HS := Lib.hid hs
  have HA := Lib.hid ha
  have HL := Lib.hid hs.sl.len
  have HOK := Lib.hid hs.sl.wf
  have HOA := Lib.hid haok
  have hnl := eql_stk
  unfold sactV
  clear hs ha haok
  go_enter Tryz.func5, Tryz.ntmps5
  go_upto_region 1 with fail
  refine wp_world (fun V => (Bx V w.heap.size #[.int .i64 a.kind, .int .i64 a.fl, .int .i64 a.n, .string a.leg.key.car, .int .i64 a.leg.key.num, .int .i64 a.leg.day, .int .u8 a.cl] 29) ∧ Below w.heap.size w V) ⟨Bx.new _ _ _, (Below.refl _ _).alloc (Nat.le_refl _) _⟩ ?_
  rintro V0 ⟨bA, hb0⟩
  have BA0 := Lib.hid bA
  have HB0 := Lib.hid hb0
  have zV0 := bA.lt
  have z0 := hb0.size
  clear bA hb0
  go_wp2_with fail
  refine (awake10_any V0).mono ?_
  rintro e w1 ⟨rfl, h1⟩
  have H1 := Lib.hid (HB0.out.trans (h1.mono z0))
  have bA1 := BA0.out.below h1 BA0.out.lt
  have BA1 : Hid (Bx w1 w.heap.size #[.int .i64 a.kind, .int .i64 a.fl, .int .i64 a.n, .string a.leg.key.car, .int .i64 a.leg.key.num, .int .i64 a.leg.day, .int .u8 a.cl] 29) := bA1
  have z1 := H1.out.size
  clear h1 bA1
  go_wp2_with fail
  refine (begun_any rl A n c w1 0 w.heap.size (HS.out.below H1.out (Nat.le_refl _)) z1).mono ?_
  rintro e w2 ⟨h2, hq⟩
  have H2 := Lib.hid (H1.out.trans (h2.mono z1))
  have z2 := H2.out.size
  have hzz := h2.size
  have bA2 := BA1.out.below h2 BA1.out.lt
  have BA2 : Hid (Bx w2 w.heap.size #[.int .i64 a.kind, .int .i64 a.fl, .int .i64 a.n, .string a.leg.key.car, .int .i64 a.leg.key.num, .int .i64 a.leg.day, .int .u8 a.cl] 29) := bA2
  have zV1 := BA1.out.lt
  clear bA2 h2
  rcases hq with ⟨_, rfl⟩ | ⟨hnew, lo, hi, t, p, b, rs, rfl, hSK, hz, htab⟩
  · go_wp2
    go_ret
    exact ⟨rfl, H2.out⟩
  have HR := Lib.hid htab.right
  have HT := Lib.hid htab
  have HFO := Lib.hid (show ∀ f ∈ rl.map (·.f), f.ok from fun f hf => by obtain ⟨r, hr, rfl⟩ := List.mem_map.1 hf; exact (HOK.out r hr).f)
  have HSK := Lib.hid hSK
  have zb := hSK.hb
  have zbb := hSK.blt
  clear htab hSK hnew
  by_cases hm : 200 < n2
  · have hm' : (200 : Int) < n2 := by omega
    go_wp2
    go_ret
    exact ⟨rfl, H2.out⟩
  have hm' : (n2 : Int) ≤ 200 := by omega
  have hwb : w.heap.size < b := by omega
  go_wp2
  go_loopw [11] (fun i wr => ∃ k : Nat, k ≤ n2 ∧ i = .int .i64 k ∧ (∃ q, SK wr lo hi t p b rs q ∧ Hid (NV (rl.map (·.f)) q)) ∧ (Bx wr w.heap.size #[.int .i64 a.kind, .int .i64 a.fl, .int .i64 a.n, .string a.leg.key.car, .int .i64 a.leg.key.num, .int .i64 a.leg.day, .int .u8 a.cl] 29) ∧ Below w.heap.size w wr) (fun i _ => n2 - (intOf i).toNat)
  case atStart => exact ⟨0, Nat.zero_le _, rfl, ⟨_, HSK.out, NV.zero HR.out⟩, BA2.out, H2.out⟩
  case round =>
    clear HSK zbb BA2 BA1 BA0 zV0 zV1 HB0 H1
    obtain ⟨k, hk, rfl, ⟨q, hSK, HNV⟩, bA, hb⟩ := hrel
    have HSK := Lib.hid hSK
    have HB := Lib.hid hb
    have BA : Hid (Bx wr w.heap.size #[.int .i64 a.kind, .int .i64 a.fl, .int .i64 a.n, .string a.leg.key.car, .int .i64 a.leg.key.num, .int .i64 a.leg.day, .int .u8 a.cl] 29) := bA
    have zbb := hSK.blt
    have zw := hb.size
    clear bA
    by_cases hlt : k < n2
    · obtain ⟨b0, o0, x, hA, _, hb0, hx, hok, d0, d1, d2, d3, d4, d5, d6⟩ := (Sl.below HA.out hb (Nat.le_refl _)).act_ hlt
      subst hA
      have i0 : (0 : Int) ≤ k := by omega
      have i1 : (k : Int) < n2 := by omega
      have hb0w : b0 < wr.heap.size := by omega
      have hb0b : b0 ≠ b := by omega
      clear hSK hb hx
      by_cases k0 : x.kind = 0
      · have HNV2 := Lib.hid (HNV.out.sell (g := legA (rl.map (·.f)) x) (cl := x.cl) (m := x.n) HT.out)
        have HG := Lib.hid (legA_ok hok HFO.out)
        have HLEG := Lib.hid (fun (V : World) (hV : Below w.heap.size w V) => (leg_any rl A n c V 0 w.heap.size (HS.out.below hV (Nat.le_refl _)) hV.size x))
        unfold sactV at HLEG
        have HSELL := Lib.hid (fun (V : World) (hV : Below wr.heap.size wr V) => sell_any (HSK.out.keep hV) (legA (rl.map (·.f)) x) x.cl x.n HG.out hok.cl ((HNV.out.qb HR.out)) (by rw [HT.out.level]; exact level_le HR.out _ _))
        generalize legA (rl.map (·.f)) x = g at HNV2 HG HLEG HSELL
        rw [k0] at HLEG d0
        have k0' : (x.kind : Int) = 0 := k0
        have X0 : Hid (wr.cell? ⟨b0, o0 + k * 7, none⟩ = some (.int .i64 0) ∧ wr.cell? ⟨b0, o0 + k * 7 + 1, none⟩ = some (.int .i64 x.fl) ∧ wr.cell? ⟨b0, o0 + k * 7 + 2, none⟩ = some (.int .i64 x.n) ∧ wr.cell? ⟨b0, o0 + k * 7 + 3, none⟩ = some (.string x.leg.key.car) ∧ wr.cell? ⟨b0, o0 + k * 7 + 4, none⟩ = some (.int .i64 x.leg.key.num) ∧ wr.cell? ⟨b0, o0 + k * 7 + 5, none⟩ = some (.int .i64 x.leg.day) ∧ wr.cell? ⟨b0, o0 + k * 7 + 6, none⟩ = some (.int .u8 x.cl)) := ⟨d0, d1, d2, d3, d4, d5, d6⟩
        go_upto_region 10 with fail
        have XD : Hid (wr.drew.cell? ⟨b0, o0 + k * 7, none⟩ = some (.int .i64 0) ∧ wr.drew.cell? ⟨b0, o0 + k * 7 + 1, none⟩ = some (.int .i64 x.fl) ∧ wr.drew.cell? ⟨b0, o0 + k * 7 + 2, none⟩ = some (.int .i64 x.n) ∧ wr.drew.cell? ⟨b0, o0 + k * 7 + 3, none⟩ = some (.string x.leg.key.car) ∧ wr.drew.cell? ⟨b0, o0 + k * 7 + 4, none⟩ = some (.int .i64 x.leg.key.num) ∧ wr.drew.cell? ⟨b0, o0 + k * 7 + 5, none⟩ = some (.int .i64 x.leg.day) ∧ wr.drew.cell? ⟨b0, o0 + k * 7 + 6, none⟩ = some (.int .u8 x.cl)) := X0.out
        clear d0 d1 d2 d3 d4 d5 d6
        go_region_held3 (fun w' => w'.cell? ⟨b0, o0 + k * 7, none⟩ = some (.int .i64 0) ∧ w'.cell? ⟨b0, o0 + k * 7 + 1, none⟩ = some (.int .i64 x.fl) ∧ w'.cell? ⟨b0, o0 + k * 7 + 2, none⟩ = some (.int .i64 x.n) ∧ w'.cell? ⟨b0, o0 + k * 7 + 3, none⟩ = some (.string x.leg.key.car) ∧ w'.cell? ⟨b0, o0 + k * 7 + 4, none⟩ = some (.int .i64 x.leg.key.num) ∧ w'.cell? ⟨b0, o0 + k * 7 + 5, none⟩ = some (.int .i64 x.leg.day) ∧ w'.cell? ⟨b0, o0 + k * 7 + 6, none⟩ = some (.int .u8 x.cl)) (first | (with_reducible exact XD.out) | (with_reducible exact X1.out) | (with_reducible exact X2.out)) (first
          | (go_at_call 15; (with_reducible refine (HLEG.out _ HB.out.drew).mono ?_); rintro e w3 ⟨rfl, h3⟩; have h3' : Below wr.heap.size wr w3 := ((Below.refl wr.heap.size wr).drew).trans h3; have H3 := Lib.hid h3'; have X1 : Hid (w3.cell? ⟨b0, o0 + k * 7, none⟩ = some (.int .i64 0) ∧ w3.cell? ⟨b0, o0 + k * 7 + 1, none⟩ = some (.int .i64 x.fl) ∧ w3.cell? ⟨b0, o0 + k * 7 + 2, none⟩ = some (.int .i64 x.n) ∧ w3.cell? ⟨b0, o0 + k * 7 + 3, none⟩ = some (.string x.leg.key.car) ∧ w3.cell? ⟨b0, o0 + k * 7 + 4, none⟩ = some (.int .i64 x.leg.key.num) ∧ w3.cell? ⟨b0, o0 + k * 7 + 5, none⟩ = some (.int .i64 x.leg.day) ∧ w3.cell? ⟨b0, o0 + k * 7 + 6, none⟩ = some (.int .u8 x.cl)) := ⟨(h3.cell (p := ⟨b0, o0 + k * 7, none⟩) hb0w).trans XD.out.1, (h3.cell (p := ⟨b0, o0 + k * 7 + 1, none⟩) hb0w).trans XD.out.2.1, (h3.cell (p := ⟨b0, o0 + k * 7 + 2, none⟩) hb0w).trans XD.out.2.2.1, (h3.cell (p := ⟨b0, o0 + k * 7 + 3, none⟩) hb0w).trans XD.out.2.2.2.1, (h3.cell (p := ⟨b0, o0 + k * 7 + 4, none⟩) hb0w).trans XD.out.2.2.2.2.1, (h3.cell (p := ⟨b0, o0 + k * 7 + 5, none⟩) hb0w).trans XD.out.2.2.2.2.2.1, (h3.cell (p := ⟨b0, o0 + k * 7 + 6, none⟩) hb0w).trans XD.out.2.2.2.2.2.2⟩; clear h3 h3')
          | (go_at_call 14; (with_reducible refine (HSELL.out _ H3.out).mono ?_); rintro e w4 ⟨rfl, hS4, hK4⟩; have HS4 := Lib.hid hS4; have HK4 := Lib.hid hK4; have hb0w3 : b0 < w3.heap.size := Nat.lt_of_lt_of_le hb0w H3.out.size; have X2 : Hid (w4.cell? ⟨b0, o0 + k * 7, none⟩ = some (.int .i64 0) ∧ w4.cell? ⟨b0, o0 + k * 7 + 1, none⟩ = some (.int .i64 x.fl) ∧ w4.cell? ⟨b0, o0 + k * 7 + 2, none⟩ = some (.int .i64 x.n) ∧ w4.cell? ⟨b0, o0 + k * 7 + 3, none⟩ = some (.string x.leg.key.car) ∧ w4.cell? ⟨b0, o0 + k * 7 + 4, none⟩ = some (.int .i64 x.leg.key.num) ∧ w4.cell? ⟨b0, o0 + k * 7 + 5, none⟩ = some (.int .i64 x.leg.day) ∧ w4.cell? ⟨b0, o0 + k * 7 + 6, none⟩ = some (.int .u8 x.cl)) := ⟨(kb_cell hK4 hb0w3 hb0b _).trans X1.out.1, (kb_cell hK4 hb0w3 hb0b _).trans X1.out.2.1, (kb_cell hK4 hb0w3 hb0b _).trans X1.out.2.2.1, (kb_cell hK4 hb0w3 hb0b _).trans X1.out.2.2.2.1, (kb_cell hK4 hb0w3 hb0b _).trans X1.out.2.2.2.2.1, (kb_cell hK4 hb0w3 hb0b _).trans X1.out.2.2.2.2.2.1, (kb_cell hK4 hb0w3 hb0b _).trans X1.out.2.2.2.2.2.2⟩; clear hS4 hK4))
        go_wp2
        go_roundw
        case rel => exact ⟨k + 1, by omega, by go_num, ⟨_, HS4.out, HNV2.out⟩, (BA.out.below H3.out BA.out.lt).kb HK4.out (by omega), HK4.out.below (HB.out.trans (H3.out.mono zw)) (by omega) (Nat.le_trans zw H3.out.size)⟩
        case measure => simp [intOf]; omega
      · go_wp2
        go_roundw
        case rel => exact ⟨k + 1, by omega, by go_num, ⟨_, HSK.out, HNV⟩, BA.out, HB.out⟩
        case measure => simp [intOf]; omega
    · obtain rfl : n2 = k := by omega
      clear hSK hb hlt
      have HLEG := leg_any rl A n c wr 0 w.heap.size (HS.out.below HB.out (Nat.le_refl _)) HB.out.size a
      unfold sactV at HLEG
      have HG := Lib.hid (legA_ok HOA.out HFO.out)
      generalize legA (rl.map (·.f)) a = g at HLEG HG
      have HLEG := Lib.hid HLEG
      have c1 := BA.out.cells
      go_wp2_with fail
      refine HLEG.out.mono ?_
      rintro e w3 ⟨rfl, h3⟩
      have HSK3 := Lib.hid (HSK.out.keep h3)
      have HB3 := Lib.hid (HB.out.trans (h3.mono HB.out.size))
      have BA3 := Lib.hid (BA.out.below h3 BA.out.lt)
      have z3 := HB3.out.size
      clear h3 HSK HB BA c1 HLEG
      go_upto_region 12 with fail
      refine wp_world (fun V => (Bx V w.heap.size #[.int .i64 a.kind, .int .i64 a.fl, .int .i64 a.n, .string a.leg.key.car, .int .i64 a.leg.key.num, .int .i64 a.leg.day, .int .u8 a.cl] 29 ∧ Bx V w3.heap.size #[.string g.key.car, .int .i64 g.key.num, .int .i64 g.day] 27) ∧ SK V lo hi t p b rs q ∧ Below w.heap.size w V) ⟨⟨BA3.out.alloc _, Bx.new _ _ _⟩, HSK3.out.keep ((Below.refl _ _).alloc (Nat.le_refl _) _), HB3.out.alloc z3 _⟩ ?_
      have zA3 := BA3.out.lt
      have zb3 := HSK3.out.blt
      clear HSK3 HB3 BA3
      rintro V2 ⟨⟨bA, bX⟩, hSK, hb⟩
      have HSK2 := Lib.hid hSK
      have HB2 := Lib.hid hb
      have BA2 := Lib.hid bA
      have BX2 := Lib.hid bX
      have c1 := bA.cells
      have c2 := bX.cells
      have zV2 := bX.lt
      clear hSK hb bA bX
      have HLT := Lib.hid (HT.out.level g a.cl)
      have HLB := Lib.hid (show 0 ≤ (levelF (rs.map (·.f)) g a.cl).1 ∧ (levelF (rs.map (·.f)) g a.cl).1 ≤ 400 by rw [HLT.out]; exact level_le HR.out _ _)
      have HNVc := Lib.hid (HNV.out ⟨g, a.cl⟩)
      have HQB := Lib.hid (HNV.out.qb HR.out)
      generalize hlv : levelF (rl.map (·.f)) g a.cl = lv at HLT HNVc
      clear hlv
      have hlv4 := HLB.out.2
      rw [HLT.out] at hlv4
      go_wp2_with fail
      refine (sold_any HSK2.out g a.cl HG.out HOA.out.cl).mono ?_
      generalize hz : q ⟨g, a.cl⟩ = z at HNVc
      have HZ := Lib.hid hz
      rintro e w4 ⟨rfl, h4⟩
      have HSK4 := Lib.hid (HSK2.out.keep h4)
      have HB4 := Lib.hid (HB2.out.trans (h4.mono HB2.out.size))
      have BA4 := Lib.hid (BA2.out.below h4 BA2.out.lt)
      have BX4 := Lib.hid (BX2.out.below h4 BX2.out.lt)
      have z4 := HB4.out.size
      have hnz0 := HNVc.out.1
      have hnz1 := HNVc.out.2
      clear c1 c2 h4 hz HSK2 HB2 BA2 BX2
      go_wp2_with fail
      refine (copy_any HSK4.out).mono ?_
      rintro e w5 ⟨p5, b5, rfl, hS5, hp5, hb5, h5⟩
      have HSC := Lib.hid hS5
      have HSK5 := Lib.hid (HSK4.out.keep h5)
      have HB5 := Lib.hid (HB4.out.trans (h5.mono HB4.out.size))
      have bA5 := BA4.out.below h5 BA4.out.lt
      have bX5 := BX4.out.below h5 BX4.out.lt
      have BA5 := Lib.hid bA5
      have BX5 := Lib.hid bX5
      have z5 := HB5.out.size
      have y1 := HSK4.out.blt
      have y2 := BX4.out.lt
      have y3 := HSC.out.plt
      have y4 := HSC.out.blt
      have y5 := HSK4.out.plt
      have y6 := HSK4.out.hb
      have y7 := HSC.out.hb
      have y8 := BA4.out.lt
      clear hS5 h5 HSK4 HB4 BA4 BX4
      have c1 := bA5.cells
      have c2 := bX5.cells
      clear bA5 bX5
      go_wp2_with fail
      refine (sell_any HSK5.out g a.cl a.n HG.out HOA.out.cl HQB.out HLB.out).mono ?_
      rintro e w6 h6
      rw [HLT.out, HZ.out] at h6
      rcases sell_full lv z a.n with ⟨m1, m9, mlv, mle, hr⟩ | ⟨kc, hkc, hr⟩
      rotate_left
      · obtain ⟨rfl, hS6, hk6⟩ := h6.is (k := kc) (z := z) hr
        rw [← HZ.out, updQ_self] at hS6
        have HSK6 := Lib.hid hS6
        have bA6 := BA5.out.kb hk6 (by omega)
        have bX6 := BX5.out.kb hk6 (by omega)
        have HB6 := Lib.hid (hk6.below HB5.out (by omega) z5)
        have c1 := bA6.cells
        have c2 := bX6.cells
        have z6 := HB6.out.size
        clear h6 hS6 hk6 bA6 bX6
        go_wp2_with fail
        refine (sold_any HSK6.out g a.cl HG.out HOA.out.cl).mono ?_
        rintro e w7 ⟨rfl, h7⟩
        rw [HZ.out]
        have hb7 := HB6.out.trans (h7.mono z6)
        go_wp2
        go_ret
        exact ⟨ret_bool (by simp), hb7⟩
      · obtain ⟨rfl, hS6, hk6⟩ := h6.is (k := 0) (z := z + a.n) hr
        generalize hq1 : updQ q ⟨g, a.cl⟩ (z + a.n) = q1 at hS6
        have hq1c : q1 ⟨g, a.cl⟩ = z + a.n := by rw [← hq1]; exact updQ_same _ _ _
        have HQ1 := Lib.hid (show QB q1 by rw [← hq1]; exact HQB.out.upd _ (by omega) (by omega))
        have HQ1c := Lib.hid hq1c
        clear hq1 hq1c
        have HSK6 := Lib.hid hS6
        have HSC6 := Lib.hid (HSC.out.kb hk6 (by omega) (by omega) (by omega))
        have bA6 := BA5.out.kb hk6 (by omega)
        have bX6 := BX5.out.kb hk6 (by omega)
        have BA6 := Lib.hid bA6
        have BX6 := Lib.hid bX6
        have HB6 := Lib.hid (hk6.below HB5.out (by omega) z5)
        have c1 := bA6.cells
        have c2 := bX6.cells
        have z6 := HB6.out.size
        have z56 := hk6.size
        clear h6 hS6 hk6 bA6 bX6
        by_cases hpt : 1 ≤ part ∧ part < a.n
        · obtain ⟨hp1, hp2⟩ := hpt
          have t1 : decide ((1 : Int) ≤ part) = true := by simp; omega
          have t2 : decide (part < a.n) = true := by simp; omega
          have HC1 := Lib.hid (fun (V : World) (hV : Below w6.heap.size w6 V) => sell_any (HSC6.out.keep hV) g a.cl part HG.out HOA.out.cl HQB.out HLB.out)
          rw [HLT.out, HZ.out, show sellF lv z part = (0, z + part) from sellF_yes (by omega) (by omega) mlv (by omega)] at HC1
          generalize hq2 : updQ q ⟨g, a.cl⟩ (z + part) = q2
          have HQ2 := Lib.hid (show QB q2 by rw [← hq2]; exact HQB.out.upd _ (by omega) (by omega))
          have hq2c : q2 ⟨g, a.cl⟩ = z + part := by rw [← hq2]; exact updQ_same _ _ _
          have HQ2e := Lib.hid hq2
          clear hq2
          have HC2 : Hid (∀ V : World, SK V lo hi t p5 b5 rs q2 → Calls Tryz.prog 14 #[.pointer (some ⟨p5, 0, none⟩), .agg #[.string g.key.car, .int .i64 g.key.num, .int .i64 g.day], .int .u8 a.cl, .int .i64 (IntKind.i64.wrap (a.n - part))] V (RetSt V lo hi t p5 b5 rs q2 ⟨g, a.cl⟩ (0, z + a.n))) := fun V hV => by
            rw [show IntKind.i64.wrap (a.n - part) = a.n - part by (rw [IntKind.wrap_i64]; omega)]
            have h5 := sell_any hV g a.cl (a.n - part) HG.out HOA.out.cl HQ2.out HLB.out
            rw [HLT.out, hq2c, sellF_yes (by omega) (by omega) mlv (by omega), show z + part + (a.n - part) = z + a.n by omega] at h5
            exact h5
          generalize hq3 : updQ q2 ⟨g, a.cl⟩ (z + a.n) = q3
          have hq3c : q3 ⟨g, a.cl⟩ = z + a.n := by rw [← hq3]; exact updQ_same _ _ _
          have HQ3 := Lib.hid hq3
          have HC3 : Hid (∀ V : World, SK V lo hi t p5 b5 rs q3 → Calls Tryz.prog 17 #[.pointer (some ⟨p5, 0, none⟩), .agg #[.string g.key.car, .int .i64 g.key.num, .int .i64 g.day], .int .u8 a.cl] V (fun e w' => e = .returned (.int .i64 (z + a.n)) ∧ Below V.heap.size V w')) := fun V hV => by
            have h5 := sold_any hV g a.cl HG.out HOA.out.cl
            rw [hq3c] at h5
            exact h5
          have HC4 : Hid (∀ V : World, SK V lo hi t p b rs q1 → Calls Tryz.prog 17 #[.pointer (some ⟨p, 0, none⟩), .agg #[.string g.key.car, .int .i64 g.key.num, .int .i64 g.day], .int .u8 a.cl] V (fun e w' => e = .returned (.int .i64 (z + a.n)) ∧ Below V.heap.size V w')) := fun V hV => by
            have h5 := sold_any hV g a.cl HG.out HOA.out.cl
            rw [HQ1c.out] at h5
            exact h5
          clear hq2c hq3 hq3c
          go_upto_region 19 with fail
          have X6 : Hid ((∀ i : Nat, w6.drew.cell? ⟨w.heap.size, i, none⟩ = (#[.int .i64 a.kind, .int .i64 a.fl, .int .i64 a.n, .string a.leg.key.car, .int .i64 a.leg.key.num, .int .i64 a.leg.day, .int .u8 a.cl] : Array Value)[i]?) ∧ (∀ i : Nat, w6.drew.cell? ⟨w3.heap.size, i, none⟩ = (#[.string g.key.car, .int .i64 g.key.num, .int .i64 g.day] : Array Value)[i]?)) := ⟨c1, c2⟩
          clear c1 c2
          go_region_held3 (fun w' => (∀ i : Nat, w'.cell? ⟨w.heap.size, i, none⟩ = (#[.int .i64 a.kind, .int .i64 a.fl, .int .i64 a.n, .string a.leg.key.car, .int .i64 a.leg.key.num, .int .i64 a.leg.day, .int .u8 a.cl] : Array Value)[i]?) ∧ (∀ i : Nat, w'.cell? ⟨w3.heap.size, i, none⟩ = (#[.string g.key.car, .int .i64 g.key.num, .int .i64 g.day] : Array Value)[i]?)) (first | (with_reducible exact X6.out) | (with_reducible exact X7.out) | (with_reducible exact X8.out) | (with_reducible exact X9.out) | (with_reducible exact X10.out)) (first
            | (go_at_call 14; (with_reducible refine (HC1.out _ (Below.refl _ _).drew).mono ?_); rintro e w7 ⟨rfl, hS7, hk7⟩; rw [HQ2e.out] at hS7; have HS7 := Lib.hid hS7; have hkk7 : Kb b5 w6 w7 := (Kb.of_below ((Below.refl w6.heap.size w6).drew)).trans hk7; have HK7 := Lib.hid hkk7; have BA7 := Lib.hid (BA6.out.kb hkk7 (by omega)); have BX7 := Lib.hid (BX6.out.kb hkk7 (by omega)); have X7 : Hid ((∀ i : Nat, w7.cell? ⟨w.heap.size, i, none⟩ = (#[.int .i64 a.kind, .int .i64 a.fl, .int .i64 a.n, .string a.leg.key.car, .int .i64 a.leg.key.num, .int .i64 a.leg.day, .int .u8 a.cl] : Array Value)[i]?) ∧ (∀ i : Nat, w7.cell? ⟨w3.heap.size, i, none⟩ = (#[.string g.key.car, .int .i64 g.key.num, .int .i64 g.day] : Array Value)[i]?)) := ⟨BA7.out.cells, BX7.out.cells⟩; clear hS7 hk7 hkk7)
            | (go_at_call 14; (with_reducible refine (HC2.out _ HS7.out).mono ?_); rintro e w8 ⟨rfl, hS8, hk8⟩; rw [HQ3.out] at hS8; have HS8 := Lib.hid hS8; have HK8 := Lib.hid (HK7.out.trans hk8); have BA8 := Lib.hid (BA7.out.kb hk8 (by omega)); have BX8 := Lib.hid (BX7.out.kb hk8 (by omega)); have HSS8 := Lib.hid (HSK6.out.kb HK8.out (by omega) (by omega) (by omega)); have X8 : Hid ((∀ i : Nat, w8.cell? ⟨w.heap.size, i, none⟩ = (#[.int .i64 a.kind, .int .i64 a.fl, .int .i64 a.n, .string a.leg.key.car, .int .i64 a.leg.key.num, .int .i64 a.leg.day, .int .u8 a.cl] : Array Value)[i]?) ∧ (∀ i : Nat, w8.cell? ⟨w3.heap.size, i, none⟩ = (#[.string g.key.car, .int .i64 g.key.num, .int .i64 g.day] : Array Value)[i]?)) := ⟨BA8.out.cells, BX8.out.cells⟩; clear hS8 hk8)
            | (go_at_call 17; (with_reducible refine (HC3.out _ HS8.out).mono ?_); rintro e w9 ⟨rfl, h9⟩; have H9 := Lib.hid h9; have BA9 := Lib.hid (BA8.out.below h9 BA8.out.lt); have BX9 := Lib.hid (BX8.out.below h9 BX8.out.lt); have HSS9 := Lib.hid (HSS8.out.keep h9); have X9 : Hid ((∀ i : Nat, w9.cell? ⟨w.heap.size, i, none⟩ = (#[.int .i64 a.kind, .int .i64 a.fl, .int .i64 a.n, .string a.leg.key.car, .int .i64 a.leg.key.num, .int .i64 a.leg.day, .int .u8 a.cl] : Array Value)[i]?) ∧ (∀ i : Nat, w9.cell? ⟨w3.heap.size, i, none⟩ = (#[.string g.key.car, .int .i64 g.key.num, .int .i64 g.day] : Array Value)[i]?)) := ⟨BA9.out.cells, BX9.out.cells⟩; clear h9)
            | (go_at_call 17; (with_reducible refine (HC4.out _ HSS9.out).mono ?_); rintro e w10 ⟨rfl, h10⟩; have H10 := Lib.hid h10; have BA10 := Lib.hid (BA9.out.below h10 BA9.out.lt); have BX10 := Lib.hid (BX9.out.below h10 BX9.out.lt); have HSS10 := Lib.hid (HSS9.out.keep h10); have X10 : Hid ((∀ i : Nat, w10.cell? ⟨w.heap.size, i, none⟩ = (#[.int .i64 a.kind, .int .i64 a.fl, .int .i64 a.n, .string a.leg.key.car, .int .i64 a.leg.key.num, .int .i64 a.leg.day, .int .u8 a.cl] : Array Value)[i]?) ∧ (∀ i : Nat, w10.cell? ⟨w3.heap.size, i, none⟩ = (#[.string g.key.car, .int .i64 g.key.num, .int .i64 g.day] : Array Value)[i]?)) := ⟨BA10.out.cells, BX10.out.cells⟩; clear h10))
          have HB8 := Lib.hid (HK8.out.below HB6.out (by omega) z6)
          have HB9 := Lib.hid (HB8.out.trans (H9.out.mono HB8.out.size))
          have HBX := Lib.hid (HB9.out.trans (H10.out.mono HB9.out.size))
          have zX := HBX.out.size
          have SKX := HSS10
          have BAX := BA10
          have BXX := BX10
          have yX := HSS10.out.blt
          have c1 := X10.out.1
          have c2 := X10.out.2
          clear X6 X7 X8 X9 X10
          go_wp2_with fail
          refine (cancel_any SKX.out g a.cl a.n HG.out HOA.out.cl HQ1.out HLB.out).mono ?_
          rintro e w12 h12
          rw [HLT.out, HQ1c.out, cancF_yes m1 m9 mlv (by omega)] at h12
          obtain ⟨rfl, hS12, hk12⟩ := h12.is (k := 0) (z := z + a.n - a.n) rfl
          have HSK12 := Lib.hid hS12
          have bA12 := BAX.out.kb hk12 (by omega)
          have bX12 := BXX.out.kb hk12 (by omega)
          have HB12 := Lib.hid (hk12.below HBX.out (by omega) zX)
          have c1 := bA12.cells
          have c2 := bX12.cells
          have z12 := HB12.out.size
          clear h12 hS12 hk12 bA12 bX12
          go_wp2_with fail
          refine (sold_any HSK12.out g a.cl HG.out HOA.out.cl).mono ?_
          rintro e w13 ⟨rfl, h13⟩
          rw [updQ_same, Int.add_sub_cancel]
          have hb13 := HB12.out.trans (h13.mono z12)
          go_wp2
          go_ret
          exact ⟨ret_bool (by simp), hb13⟩
        · have SKX := HSK6
          have HBX := HB6
          have zX := z6
          have BAX := BA6
          have BXX := BX6
          by_cases hp1 : 1 ≤ part
          · have t1 : decide ((1 : Int) ≤ part) = true := by simp; omega
            have t2 : decide (part < a.n) = false := by simp; omega
            go_wp2_with fail
            refine (cancel_any SKX.out g a.cl a.n HG.out HOA.out.cl HQ1.out HLB.out).mono ?_
            rintro e w12 h12
            rw [HLT.out, HQ1c.out, cancF_yes m1 m9 mlv (by omega)] at h12
            obtain ⟨rfl, hS12, hk12⟩ := h12.is (k := 0) (z := z + a.n - a.n) rfl
            have HSK12 := Lib.hid hS12
            have bA12 := BAX.out.kb hk12 (by omega)
            have bX12 := BXX.out.kb hk12 (by omega)
            have HB12 := Lib.hid (hk12.below HBX.out (by omega) zX)
            have c1 := bA12.cells
            have c2 := bX12.cells
            have z12 := HB12.out.size
            clear h12 hS12 hk12 bA12 bX12
            go_wp2_with fail
            refine (sold_any HSK12.out g a.cl HG.out HOA.out.cl).mono ?_
            rintro e w13 ⟨rfl, h13⟩
            rw [updQ_same, Int.add_sub_cancel]
            have hb13 := HB12.out.trans (h13.mono z12)
            go_wp2
            go_ret
            exact ⟨ret_bool (by simp), hb13⟩
          · have t1 : decide ((1 : Int) ≤ part) = false := by simp; omega
            go_wp2_with fail
            refine (cancel_any SKX.out g a.cl a.n HG.out HOA.out.cl HQ1.out HLB.out).mono ?_
            rintro e w12 h12
            rw [HLT.out, HQ1c.out, cancF_yes m1 m9 mlv (by omega)] at h12
            obtain ⟨rfl, hS12, hk12⟩ := h12.is (k := 0) (z := z + a.n - a.n) rfl
            have HSK12 := Lib.hid hS12
            have bA12 := BAX.out.kb hk12 (by omega)
            have bX12 := BXX.out.kb hk12 (by omega)
            have HB12 := Lib.hid (hk12.below HBX.out (by omega) zX)
            have c1 := bA12.cells
            have c2 := bX12.cells
            have z12 := HB12.out.size
            clear h12 hS12 hk12 bA12 bX12
            go_wp2_with fail
            refine (sold_any HSK12.out g a.cl HG.out HOA.out.cl).mono ?_
            rintro e w13 ⟨rfl, h13⟩
            rw [updQ_same, Int.add_sub_cancel]
            have hb13 := HB12.out.trans (h13.mono z12)
            go_wp2
            go_ret
            exact ⟨ret_bool (by simp), hb13⟩
end Go.Proofs.YtlkdefmceghmnaaGreat
