/- StockApart is true of every input. By program. -/
import Derived.Test.YtlkdefmceghmnaaGreatStPl
import Derived.Test.YtlkdefmceghmnaaGreatStCopy
import Derived.Test.YtlkdefmceghmnaaGreatStRf
import Derived.Deep.RegionHeld3
namespace Go.Proofs.YtlkdefmceghmnaaGreat
set_option linter.unusedVariables false
open Go Go.RowKit Go.Sort
theorem sold_is {W : World} {lo hi t p b : Nat} {rs : List FlR} {q : Cel → Int} (h : SK W lo hi t p b rs q) (g : Leg) (cl : Int) (hg : g.ok) (hc : okByte cl) {z : Int} (hz : q ⟨g, cl⟩ = z) :
    Calls Tryz.prog 17 #[.pointer (some ⟨p, 0, none⟩), .agg #[.string g.key.car, .int .i64 g.key.num, .int .i64 g.day], .int .u8 cl] W fun e w' => e = .returned (.int .i64 z) ∧ Below W.heap.size W w' := by
  subst hz
  exact sold_any h g cl hg hc
set_option maxRecDepth 100000 in
set_option maxHeartbeats 16000000 in
theorem stockApart_any (rl : List FlR) (A : Option Addr) (n c : Nat) (w : World) (hs : FlS w 0 w.heap.size A n rl) (sc : List SAct) (A2 : Option Addr) (n2 c2 : Nat) (ha : Sl w 0 w.heap.size tSA A2 n2 sc) (a : SAct) (haok : a.ok) (og : Leg) (hog : og.ok) (ocl : Int) (hocl : okByte ocl) :
    Calls Tryz.prog 3 #[.slice A n c, .slice A2 n2 c2, sactV a, .agg #[.string og.key.car, .int .i64 og.key.num, .int .i64 og.day], .int .u8 ocl] w (RetB w true) := by
  have HS := Lib.hid hs
  have HA := Lib.hid ha
  have HL := Lib.hid hs.sl.len
  have HOK := Lib.hid hs.sl.wf
  have HOA := Lib.hid haok
  have HOG := Lib.hid hog
  have HOC := Lib.hid hocl
  have hnl := eql_stk
  unfold sactV
  clear hs ha haok
  go_enter Tryz.func3, Tryz.ntmps3
  go_upto_region 1 with fail
  refine wp_world (fun V => (Bx V w.heap.size #[.int .i64 a.kind, .int .i64 a.fl, .int .i64 a.n, .string a.leg.key.car, .int .i64 a.leg.key.num, .int .i64 a.leg.day, .int .u8 a.cl] 29 ∧ Bx V (w.heap.size + 1) #[.string og.key.car, .int .i64 og.key.num, .int .i64 og.day] 27) ∧ Below w.heap.size w V) ⟨⟨(Bx.new _ _ _).alloc _, by have h := Bx.new (w.alloc (.cells #[.int .i64 a.kind, .int .i64 a.fl, .int .i64 a.n, .string a.leg.key.car, .int .i64 a.leg.key.num, .int .i64 a.leg.day, .int .u8 a.cl] 29)) #[.string og.key.car, .int .i64 og.key.num, .int .i64 og.day] 27; rw [World.size_alloc] at h; exact h⟩, ((Below.refl _ _).alloc (Nat.le_refl _) _).alloc (by simp) _⟩ ?_
  rintro V0 ⟨bA, hb0⟩
  have BA0 := Lib.hid bA
  have HB0 := Lib.hid hb0
  have zV0 := bA.1.lt
  have z0 := hb0.size
  clear bA hb0
  go_wp2_with fail
  refine (awake10_any V0).mono ?_
  rintro e w1 ⟨rfl, h1⟩
  have H1 := Lib.hid (HB0.out.trans (h1.mono z0))
  have bA1 : Bx w1 w.heap.size #[.int .i64 a.kind, .int .i64 a.fl, .int .i64 a.n, .string a.leg.key.car, .int .i64 a.leg.key.num, .int .i64 a.leg.day, .int .u8 a.cl] 29 ∧ Bx w1 (w.heap.size + 1) #[.string og.key.car, .int .i64 og.key.num, .int .i64 og.day] 27 := ⟨BA0.out.1.below h1 BA0.out.1.lt, BA0.out.2.below h1 BA0.out.2.lt⟩
  have BA1 : Hid (Bx w1 w.heap.size #[.int .i64 a.kind, .int .i64 a.fl, .int .i64 a.n, .string a.leg.key.car, .int .i64 a.leg.key.num, .int .i64 a.leg.day, .int .u8 a.cl] 29 ∧ Bx w1 (w.heap.size + 1) #[.string og.key.car, .int .i64 og.key.num, .int .i64 og.day] 27) := bA1
  have z1 := H1.out.size
  clear h1 bA1
  go_wp2_with fail
  refine (begun_any rl A n c w1 0 w.heap.size (HS.out.below H1.out (Nat.le_refl _)) z1).mono ?_
  rintro e w2 ⟨h2, hq⟩
  have H2 := Lib.hid (H1.out.trans (h2.mono z1))
  have z2 := H2.out.size
  have hzz := h2.size
  have bA2 : Bx w2 w.heap.size #[.int .i64 a.kind, .int .i64 a.fl, .int .i64 a.n, .string a.leg.key.car, .int .i64 a.leg.key.num, .int .i64 a.leg.day, .int .u8 a.cl] 29 ∧ Bx w2 (w.heap.size + 1) #[.string og.key.car, .int .i64 og.key.num, .int .i64 og.day] 27 := ⟨BA1.out.1.below h2 BA1.out.1.lt, BA1.out.2.below h2 BA1.out.2.lt⟩
  have BA2 : Hid (Bx w2 w.heap.size #[.int .i64 a.kind, .int .i64 a.fl, .int .i64 a.n, .string a.leg.key.car, .int .i64 a.leg.key.num, .int .i64 a.leg.day, .int .u8 a.cl] 29 ∧ Bx w2 (w.heap.size + 1) #[.string og.key.car, .int .i64 og.key.num, .int .i64 og.day] 27) := bA2
  have zV1 := BA1.out.2.lt
  clear bA2 h2
  rcases hq with ⟨_, rfl⟩ | ⟨hnew, lo, hi, t, p, b, rs, rfl, hSK, hz, htab⟩
  · go_wp2
    go_ret
    exact ⟨rfl, H2.out⟩
  have HR := Lib.hid htab.right
  have HT := Lib.hid htab
  have HFO := Lib.hid (show ∀ f ∈ rl.map (·.f), f.ok from fun f hf => by obtain ⟨r, hr, rfl⟩ := List.mem_map.1 hf; exact (HOK.out r hr).f)
  have HSK := Lib.hid hSK
  have zb := hSK.hb
  have zbb := hSK.blt
  clear htab hSK hnew
  by_cases hm : 200 < n2
  · have hm' : (200 : Int) < n2 := by omega
    go_wp2
    go_ret
    exact ⟨rfl, H2.out⟩
  have hm' : (n2 : Int) ≤ 200 := by omega
  have hwb : w.heap.size + 1 < b := by omega
  go_wp2
  go_loopw [13] (fun i wr => ∃ k : Nat, k ≤ n2 ∧ i = .int .i64 k ∧ (∃ q, SK wr lo hi t p b rs q ∧ Hid (NV (rl.map (·.f)) q)) ∧ (Bx wr w.heap.size #[.int .i64 a.kind, .int .i64 a.fl, .int .i64 a.n, .string a.leg.key.car, .int .i64 a.leg.key.num, .int .i64 a.leg.day, .int .u8 a.cl] 29 ∧ Bx wr (w.heap.size + 1) #[.string og.key.car, .int .i64 og.key.num, .int .i64 og.day] 27) ∧ Below w.heap.size w wr) (fun i _ => n2 - (intOf i).toNat)
  case atStart => exact ⟨0, Nat.zero_le _, rfl, ⟨_, HSK.out, NV.zero HR.out⟩, BA2.out, H2.out⟩
  case round =>
    clear HSK zbb BA2 BA1 BA0 zV0 zV1 HB0 H1
    obtain ⟨k, hk, rfl, ⟨q, hSK, HNV⟩, bA, hb⟩ := hrel
    have HSK := Lib.hid hSK
    have HB := Lib.hid hb
    have BA : Hid (Bx wr w.heap.size #[.int .i64 a.kind, .int .i64 a.fl, .int .i64 a.n, .string a.leg.key.car, .int .i64 a.leg.key.num, .int .i64 a.leg.day, .int .u8 a.cl] 29 ∧ Bx wr (w.heap.size + 1) #[.string og.key.car, .int .i64 og.key.num, .int .i64 og.day] 27) := bA
    have zbb := hSK.blt
    have zw := hb.size
    clear bA
    by_cases hlt : k < n2
    · obtain ⟨b0, o0, x, hA, _, hb0, hx, hok, d0, d1, d2, d3, d4, d5, d6⟩ := (Sl.below HA.out hb (Nat.le_refl _)).act_ hlt
      subst hA
      have i0 : (0 : Int) ≤ k := by omega
      have i1 : (k : Int) < n2 := by omega
      have hb0w : b0 < wr.heap.size := by omega
      have hb0b : b0 ≠ b := by omega
      clear hSK hb hx
      by_cases k0 : x.kind = 0
      · have HNV2 := Lib.hid (HNV.out.sell (g := legA (rl.map (·.f)) x) (cl := x.cl) (m := x.n) HT.out)
        have HG := Lib.hid (legA_ok hok HFO.out)
        have HLEG := Lib.hid (fun (V : World) (hV : Below w.heap.size w V) => (leg_any rl A n c V 0 w.heap.size (HS.out.below hV (Nat.le_refl _)) hV.size x))
        unfold sactV at HLEG
        have HSELL := Lib.hid (fun (V : World) (hV : Below wr.heap.size wr V) => sell_any (HSK.out.keep hV) (legA (rl.map (·.f)) x) x.cl x.n HG.out hok.cl ((HNV.out.qb HR.out)) (by rw [HT.out.level]; exact level_le HR.out _ _))
        generalize legA (rl.map (·.f)) x = g at HNV2 HG HLEG HSELL
        rw [k0] at HLEG d0
        have k0' : (x.kind : Int) = 0 := k0
        have X0 : Hid (wr.cell? ⟨b0, o0 + k * 7, none⟩ = some (.int .i64 0) ∧ wr.cell? ⟨b0, o0 + k * 7 + 1, none⟩ = some (.int .i64 x.fl) ∧ wr.cell? ⟨b0, o0 + k * 7 + 2, none⟩ = some (.int .i64 x.n) ∧ wr.cell? ⟨b0, o0 + k * 7 + 3, none⟩ = some (.string x.leg.key.car) ∧ wr.cell? ⟨b0, o0 + k * 7 + 4, none⟩ = some (.int .i64 x.leg.key.num) ∧ wr.cell? ⟨b0, o0 + k * 7 + 5, none⟩ = some (.int .i64 x.leg.day) ∧ wr.cell? ⟨b0, o0 + k * 7 + 6, none⟩ = some (.int .u8 x.cl)) := ⟨d0, d1, d2, d3, d4, d5, d6⟩
        go_upto_region 10 with fail
        have XD : Hid (wr.drew.cell? ⟨b0, o0 + k * 7, none⟩ = some (.int .i64 0) ∧ wr.drew.cell? ⟨b0, o0 + k * 7 + 1, none⟩ = some (.int .i64 x.fl) ∧ wr.drew.cell? ⟨b0, o0 + k * 7 + 2, none⟩ = some (.int .i64 x.n) ∧ wr.drew.cell? ⟨b0, o0 + k * 7 + 3, none⟩ = some (.string x.leg.key.car) ∧ wr.drew.cell? ⟨b0, o0 + k * 7 + 4, none⟩ = some (.int .i64 x.leg.key.num) ∧ wr.drew.cell? ⟨b0, o0 + k * 7 + 5, none⟩ = some (.int .i64 x.leg.day) ∧ wr.drew.cell? ⟨b0, o0 + k * 7 + 6, none⟩ = some (.int .u8 x.cl)) := X0.out
        clear d0 d1 d2 d3 d4 d5 d6
        go_region_held3 (fun w' => w'.cell? ⟨b0, o0 + k * 7, none⟩ = some (.int .i64 0) ∧ w'.cell? ⟨b0, o0 + k * 7 + 1, none⟩ = some (.int .i64 x.fl) ∧ w'.cell? ⟨b0, o0 + k * 7 + 2, none⟩ = some (.int .i64 x.n) ∧ w'.cell? ⟨b0, o0 + k * 7 + 3, none⟩ = some (.string x.leg.key.car) ∧ w'.cell? ⟨b0, o0 + k * 7 + 4, none⟩ = some (.int .i64 x.leg.key.num) ∧ w'.cell? ⟨b0, o0 + k * 7 + 5, none⟩ = some (.int .i64 x.leg.day) ∧ w'.cell? ⟨b0, o0 + k * 7 + 6, none⟩ = some (.int .u8 x.cl)) (first | (with_reducible exact XD.out) | (with_reducible exact X1.out) | (with_reducible exact X2.out)) (first
          | (go_at_call 15; (with_reducible refine (HLEG.out _ HB.out.drew).mono ?_); rintro e w3 ⟨rfl, h3⟩; have h3' : Below wr.heap.size wr w3 := ((Below.refl wr.heap.size wr).drew).trans h3; have H3 := Lib.hid h3'; have X1 : Hid (w3.cell? ⟨b0, o0 + k * 7, none⟩ = some (.int .i64 0) ∧ w3.cell? ⟨b0, o0 + k * 7 + 1, none⟩ = some (.int .i64 x.fl) ∧ w3.cell? ⟨b0, o0 + k * 7 + 2, none⟩ = some (.int .i64 x.n) ∧ w3.cell? ⟨b0, o0 + k * 7 + 3, none⟩ = some (.string x.leg.key.car) ∧ w3.cell? ⟨b0, o0 + k * 7 + 4, none⟩ = some (.int .i64 x.leg.key.num) ∧ w3.cell? ⟨b0, o0 + k * 7 + 5, none⟩ = some (.int .i64 x.leg.day) ∧ w3.cell? ⟨b0, o0 + k * 7 + 6, none⟩ = some (.int .u8 x.cl)) := ⟨(h3.cell (p := ⟨b0, o0 + k * 7, none⟩) hb0w).trans XD.out.1, (h3.cell (p := ⟨b0, o0 + k * 7 + 1, none⟩) hb0w).trans XD.out.2.1, (h3.cell (p := ⟨b0, o0 + k * 7 + 2, none⟩) hb0w).trans XD.out.2.2.1, (h3.cell (p := ⟨b0, o0 + k * 7 + 3, none⟩) hb0w).trans XD.out.2.2.2.1, (h3.cell (p := ⟨b0, o0 + k * 7 + 4, none⟩) hb0w).trans XD.out.2.2.2.2.1, (h3.cell (p := ⟨b0, o0 + k * 7 + 5, none⟩) hb0w).trans XD.out.2.2.2.2.2.1, (h3.cell (p := ⟨b0, o0 + k * 7 + 6, none⟩) hb0w).trans XD.out.2.2.2.2.2.2⟩; clear h3 h3')
          | (go_at_call 14; (with_reducible refine (HSELL.out _ H3.out).mono ?_); rintro e w4 ⟨rfl, hS4, hK4⟩; have HS4 := Lib.hid hS4; have HK4 := Lib.hid hK4; have hb0w3 : b0 < w3.heap.size := Nat.lt_of_lt_of_le hb0w H3.out.size; have X2 : Hid (w4.cell? ⟨b0, o0 + k * 7, none⟩ = some (.int .i64 0) ∧ w4.cell? ⟨b0, o0 + k * 7 + 1, none⟩ = some (.int .i64 x.fl) ∧ w4.cell? ⟨b0, o0 + k * 7 + 2, none⟩ = some (.int .i64 x.n) ∧ w4.cell? ⟨b0, o0 + k * 7 + 3, none⟩ = some (.string x.leg.key.car) ∧ w4.cell? ⟨b0, o0 + k * 7 + 4, none⟩ = some (.int .i64 x.leg.key.num) ∧ w4.cell? ⟨b0, o0 + k * 7 + 5, none⟩ = some (.int .i64 x.leg.day) ∧ w4.cell? ⟨b0, o0 + k * 7 + 6, none⟩ = some (.int .u8 x.cl)) := ⟨(kb_cell hK4 hb0w3 hb0b _).trans X1.out.1, (kb_cell hK4 hb0w3 hb0b _).trans X1.out.2.1, (kb_cell hK4 hb0w3 hb0b _).trans X1.out.2.2.1, (kb_cell hK4 hb0w3 hb0b _).trans X1.out.2.2.2.1, (kb_cell hK4 hb0w3 hb0b _).trans X1.out.2.2.2.2.1, (kb_cell hK4 hb0w3 hb0b _).trans X1.out.2.2.2.2.2.1, (kb_cell hK4 hb0w3 hb0b _).trans X1.out.2.2.2.2.2.2⟩; clear hS4 hK4))
        go_wp2
        go_roundw
        case rel => exact ⟨k + 1, by omega, by go_num, ⟨_, HS4.out, HNV2.out⟩, ⟨(BA.out.1.below H3.out BA.out.1.lt).kb HK4.out (by omega), (BA.out.2.below H3.out BA.out.2.lt).kb HK4.out (by omega)⟩, HK4.out.below (HB.out.trans (H3.out.mono zw)) (by omega) (Nat.le_trans zw H3.out.size)⟩
        case measure => simp [intOf]; omega
      · go_wp2
        go_roundw
        case rel => exact ⟨k + 1, by omega, by go_num, ⟨_, HSK.out, HNV⟩, BA.out, HB.out⟩
        case measure => simp [intOf]; omega
    · obtain rfl : n2 = k := by omega
      clear hSK hb hlt
      have c1 := BA.out.1.cells
      have y1 := HSK.out.blt
      have y5 := HSK.out.plt
      have y6 := HSK.out.hb
      go_wp2_with fail
      refine (copy_any HSK.out).mono ?_
      rintro e w3 ⟨p5, b5, rfl, hS5, hp5, hb5, h5⟩
      have HSC3 := Lib.hid hS5
      have HSK3 := Lib.hid (HSK.out.keep h5)
      have HB3 := Lib.hid (HB.out.trans (h5.mono HB.out.size))
      have bA3 := BA.out.1.below h5 BA.out.1.lt
      have bO3 := BA.out.2.below h5 BA.out.2.lt
      have BA3 := Lib.hid bA3
      have BO3 := Lib.hid bO3
      have z3 := HB3.out.size
      have y3 := HSC3.out.plt
      have y4 := HSC3.out.blt
      have y7 := HSC3.out.hb
      have y8 := BA.out.2.lt
      clear hS5 h5 HSK HB BA c1
      have c1 := bA3.cells
      clear bA3 bO3
      have HLEG := leg_any rl A n c w3 0 w.heap.size (HS.out.below HB3.out (Nat.le_refl _)) HB3.out.size a
      unfold sactV at HLEG
      have HG := Lib.hid (legA_ok HOA.out HFO.out)
      generalize legA (rl.map (·.f)) a = g at HLEG HG
      have HLEG := Lib.hid HLEG
      go_wp2_with fail
      refine HLEG.out.mono ?_
      rintro e w4 ⟨rfl, h4⟩
      have HSC4 := Lib.hid (HSC3.out.keep h4)
      have HSK4 := Lib.hid (HSK3.out.keep h4)
      have HB4 := Lib.hid (HB3.out.trans (h4.mono z3))
      have BA4 := Lib.hid (BA3.out.below h4 BA3.out.lt)
      have BO4 := Lib.hid (BO3.out.below h4 BO3.out.lt)
      have z4 := HB4.out.size
      clear h4 HSC3 HSK3 HB3 BA3 BO3 c1 HLEG
      go_upto_region 15 with fail
      refine wp_world (fun V => (Bx V w.heap.size #[.int .i64 a.kind, .int .i64 a.fl, .int .i64 a.n, .string a.leg.key.car, .int .i64 a.leg.key.num, .int .i64 a.leg.day, .int .u8 a.cl] 29 ∧ Bx V (w.heap.size + 1) #[.string og.key.car, .int .i64 og.key.num, .int .i64 og.day] 27 ∧ Bx V w4.heap.size #[.string g.key.car, .int .i64 g.key.num, .int .i64 g.day] 27) ∧ (SK V lo hi t p b rs q ∧ SK V lo hi t p5 b5 rs q) ∧ Below w.heap.size w V) ⟨⟨BA4.out.alloc _, BO4.out.alloc _, Bx.new _ _ _⟩, ⟨HSK4.out.keep ((Below.refl _ _).alloc (Nat.le_refl _) _), HSC4.out.keep ((Below.refl _ _).alloc (Nat.le_refl _) _)⟩, HB4.out.alloc z4 _⟩ ?_
      have zb3 := HSK4.out.blt
      have zb5 := HSC4.out.blt
      clear HSK4 HSC4 HB4 BA4 BO4
      rintro V2 ⟨⟨bA, bO, bX⟩, ⟨hSK, hSC⟩, hb⟩
      have HSK2 := Lib.hid hSK
      have HSC2 := Lib.hid hSC
      have HB2 := Lib.hid hb
      have BA2 := Lib.hid bA
      have BO2 := Lib.hid bO
      have BX2 := Lib.hid bX
      have c1 := bA.cells
      have c2 := bO.cells
      have c3 := bX.cells
      have zA2 := bA.lt
      have zO2 := bO.lt
      have zX2 := bX.lt
      have zV2 := hb.size
      clear hSK hSC hb bA bO bX
      have HLT := Lib.hid (HT.out.level g a.cl)
      have HLB := Lib.hid (show 0 ≤ (levelF (rs.map (·.f)) g a.cl).1 ∧ (levelF (rs.map (·.f)) g a.cl).1 ≤ 400 by rw [HLT.out]; exact level_le HR.out _ _)
      have HNVc := Lib.hid (HNV.out ⟨g, a.cl⟩)
      have HQB := Lib.hid (HNV.out.qb HR.out)
      generalize hlv : levelF (rl.map (·.f)) g a.cl = lv at HLT HNVc
      clear hlv
      have hlv4 := HLB.out.2
      rw [HLT.out] at hlv4
      generalize hz : q ⟨g, a.cl⟩ = z at HNVc
      have HZ := Lib.hid hz
      generalize hy : q ⟨og, ocl⟩ = y
      have HY := Lib.hid hy
      have hnz0 := HNVc.out.1
      have hnz1 := HNVc.out.2
      have HX1 := Lib.hid (fun u : Blw V2 => sold_is (HSK2.out.keep u.b) g a.cl HG.out HOA.out.cl HZ.out)
      have HX2 := Lib.hid (fun u : Blw V2 => sold_is (HSK2.out.keep u.b) og ocl HOG.out HOC.out HY.out)
      clear hz hy
      refine wp_region_below (by kernel_rfl) (by kernel_rfl) ?_
      intro q9
      repeat
        (refine QH.step (fun K9 hK9 => ?_)
         go_simp
         first
         | (refine hK9 _ ?_; clear hK9 K9)
         | (apply Exists.intro
            refine ⟨fun _ => ?_, hK9 _ ?_⟩
            · first | (with_reducible exact Calls.blw _ (HX1.out _)) | (with_reducible exact Calls.blw _ (HX2.out _))
            clear hK9 K9))
      refine QH.nil_ ?_
      clear q9
      rintro ⟨V9, hV9⟩
      dsimp only
      have HSK9 := Lib.hid (HSK2.out.keep hV9)
      have HSC9 := Lib.hid (HSC2.out.keep hV9)
      have HB9 := Lib.hid (HB2.out.trans (hV9.mono zV2))
      have bA9 := BA2.out.below hV9 zA2
      have bO9 := BO2.out.below hV9 zO2
      have bX9 := BX2.out.below hV9 zX2
      have BA9 := Lib.hid bA9
      have BO9 := Lib.hid bO9
      have BX9 := Lib.hid bX9
      have z9 := HB9.out.size
      have z29 := hV9.size
      clear c1 c2 c3 hV9 HSK2 HSC2 HB2 BA2 BO2 BX2 HX1 HX2
      have c1 := bA9.cells
      have c2 := bO9.cells
      have c3 := bX9.cells
      have zA9 := bA9.lt
      have zO9 := bO9.lt
      have zX9 := bX9.lt
      clear bA9 bO9 bX9
      go_wp2_with fail
      refine (sell_any HSC9.out g a.cl a.n HG.out HOA.out.cl HQB.out HLB.out).mono ?_
      rintro e w6 h6
      rw [HLT.out, HZ.out] at h6
      rcases sell_full lv z a.n with ⟨m1, m9, mlv, mle, hr⟩ | ⟨kc, hkc, hr⟩
      · obtain ⟨rfl, hS6, hk6⟩ := h6.is (k := 0) (z := z + a.n) hr
        obtain ⟨zn, hzn⟩ : ∃ zn, zn = z + a.n := ⟨_, rfl⟩
        rw [← hzn] at hS6
        have HSC6 := Lib.hid hS6
        have HSK6 := Lib.hid (HSK9.out.kb hk6 (by omega) (by omega) (by omega))
        have bA6 := BA9.out.kb hk6 (by omega)
        have bO6 := BO9.out.kb hk6 (by omega)
        have bX6 := BX9.out.kb hk6 (by omega)
        have BA6 := Lib.hid bA6
        have BO6 := Lib.hid bO6
        have BX6 := Lib.hid bX6
        have HB6 := Lib.hid (hk6.below HB9.out (by omega) z9)
        have z6 := HB6.out.size
        have z96 := hk6.size
        clear c1 c2 c3 h6 hS6 hk6 HSK9 HSC9 HB9 BA9 BO9 BX9 hr
        have c1 := bA6.cells
        have c2 := bO6.cells
        have c3 := bX6.cells
        have zA6 := bA6.lt
        have zO6 := bO6.lt
        have zX6 := bX6.lt
        clear bA6 bO6 bX6
        have hw : IntKind.i64.wrap (z + a.n) = zn := by rw [IntKind.wrap_i64]; omega
        have HC6 := Lib.hid (updQ_same q ⟨g, a.cl⟩ zn)
        have HX1 := Lib.hid (fun u : Blw w6 => sold_is (HSK6.out.keep u.b) g a.cl HG.out HOA.out.cl HZ.out)
        have HX2 := Lib.hid (fun u : Blw w6 => sold_is (HSC6.out.keep u.b) g a.cl HG.out HOA.out.cl HC6.out)
        have t1 : (z != z) = false := by simp
        have t2 : (zn != zn) = false := by simp
        go_upto_region 17 with fail
        refine wp_region_below (by kernel_rfl) (by kernel_rfl) ?_
        intro q9
        repeat
          (refine QH.step (fun K9 hK9 => ?_)
           go_simp
           first
           | (refine hK9 _ ?_; clear hK9 K9)
           | (apply Exists.intro
              refine ⟨fun _ => ?_, hK9 _ ?_⟩
              · first | (with_reducible exact Calls.blw _ (HX1.out _)) | (with_reducible exact Calls.blw _ (HX2.out _))
              clear hK9 K9))
        refine QH.nil_ ?_
        clear q9
        rintro ⟨V9, hV9⟩
        dsimp only
        have HSC7 := Lib.hid (HSC6.out.keep hV9)
        have HB7 := Lib.hid (HB6.out.trans (hV9.mono z6))
        have bA7 := BA6.out.below hV9 zA6
        have bO7 := BO6.out.below hV9 zO6
        have bX7 := BX6.out.below hV9 zX6
        have z7 := HB7.out.size
        have z67 := hV9.size
        clear c1 c2 c3 hV9 HSK6 HSC6 HB6 BA6 BO6 BX6 HX1 HX2
        have c1 := bA7.cells
        have c2 := bO7.cells
        have c3 := bX7.cells
        have BA7 := Lib.hid bA7
        have BO7 := Lib.hid bO7
        have BX7 := Lib.hid bX7
        clear bA7 bO7 bX7
        by_cases hcc : (⟨og, ocl⟩ : Cel) = ⟨g, a.cl⟩
        · injection hcc with hc1 hc2
          subst hc1
          subst hc2
          have t3 : (zn == y) = false := by have h := HZ.out; have h2 := HY.out; rw [h] at h2; simp; omega
          have heq := fun u => eql_lg og og u
          rw [decide_eq_true rfl] at heq
          have t4 : (a.cl == a.cl) = true := by simp
          go_wp2_with fail
          refine (sold_is HSC7.out og a.cl HG.out HOA.out.cl HC6.out).mono ?_
          rintro e w8 ⟨rfl, h8⟩
          have HB8 := Lib.hid (HB7.out.trans (h8.mono z7))
          have bA8 := BA7.out.below h8 BA7.out.lt
          have bO8 := BO7.out.below h8 BO7.out.lt
          have bX8 := BX7.out.below h8 BX7.out.lt
          clear c1 c2 c3 h8
          have c1 := bA8.cells
          have c2 := bO8.cells
          have c3 := bX8.cells
          clear bA8 bO8 bX8
          go_wp2
          all_goals go_ret
          all_goals exact ⟨rfl, HB8.out⟩
        · have HC7 := Lib.hid ((updQ_other q ⟨g, a.cl⟩ zn hcc).trans HY.out)
          have t3 : (y == y) = true := by simp
          clear hcc
          go_wp2_with fail
          refine (sold_is HSC7.out og ocl HOG.out HOC.out HC7.out).mono ?_
          rintro e w8 ⟨rfl, h8⟩
          have HB8 := Lib.hid (HB7.out.trans (h8.mono z7))
          clear c1 c2 c3 h8
          go_wp2
          go_ret
          exact ⟨rfl, HB8.out⟩
      · obtain ⟨rfl, hS6, hk6⟩ := h6.is (k := kc) (z := z) hr
        rw [← HZ.out, updQ_self] at hS6
        have HSC6 := Lib.hid hS6
        have HSK6 := Lib.hid (HSK9.out.kb hk6 (by omega) (by omega) (by omega))
        have bA6 := BA9.out.kb hk6 (by omega)
        have bO6 := BO9.out.kb hk6 (by omega)
        have bX6 := BX9.out.kb hk6 (by omega)
        have BA6 := Lib.hid bA6
        have BO6 := Lib.hid bO6
        have BX6 := Lib.hid bX6
        have HB6 := Lib.hid (hk6.below HB9.out (by omega) z9)
        have z6 := HB6.out.size
        have z96 := hk6.size
        clear c1 c2 c3 h6 hS6 hk6 HSK9 HSC9 HB9 BA9 BO9 BX9 hr
        have c1 := bA6.cells
        have c2 := bO6.cells
        have c3 := bX6.cells
        have zA6 := bA6.lt
        have zO6 := bO6.lt
        have zX6 := bX6.lt
        clear bA6 bO6 bX6
        have HX1 := Lib.hid (fun u : Blw w6 => sold_is (HSK6.out.keep u.b) g a.cl HG.out HOA.out.cl HZ.out)
        have t1 : (z != z) = false := by simp
        have t2 : (kc == 0) = false := by simpa using hkc
        clear hkc
        go_upto_region 17 with fail
        refine wp_region_below (by kernel_rfl) (by kernel_rfl) ?_
        intro q9
        repeat
          (refine QH.step (fun K9 hK9 => ?_)
           go_simp
           first
           | (refine hK9 _ ?_; clear hK9 K9)
           | (apply Exists.intro
              refine ⟨fun _ => ?_, hK9 _ ?_⟩
              · first | (exact Calls.blw _ (HX1.out _))
              clear hK9 K9))
        refine QH.nil_ ?_
        clear q9
        rintro ⟨V9, hV9⟩
        dsimp only
        have HSC7 := Lib.hid (HSC6.out.keep hV9)
        have HB7 := Lib.hid (HB6.out.trans (hV9.mono z6))
        have bO7 := BO6.out.below hV9 zO6
        have z7 := HB7.out.size
        clear c1 c2 c3 hV9 HSK6 HSC6 HB6 BA6 BO6 BX6 HX1
        have c2 := bO7.cells
        clear bO7
        have t3 : (y == y) = true := by simp
        go_wp2_with fail
        refine (sold_is HSC7.out og ocl HOG.out HOC.out HY.out).mono ?_
        rintro e w8 ⟨rfl, h8⟩
        have HB8 := Lib.hid (HB7.out.trans (h8.mono z7))
        clear c2 h8
        go_wp2
        go_ret
        exact ⟨rfl, HB8.out⟩
end Go.Proofs.YtlkdefmceghmnaaGreat
