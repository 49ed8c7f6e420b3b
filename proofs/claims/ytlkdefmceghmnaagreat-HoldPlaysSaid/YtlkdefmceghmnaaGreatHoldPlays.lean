/- HoldPlays is true of every input. By program. -/
import Derived.Test.YtlkdefmceghmnaaGreatMHp
import Derived.Deep.RegionHeld3
import Derived.BigGuardPart
namespace Go.Proofs.YtlkdefmceghmnaaGreat
set_option linter.unusedVariables false
open Go Go.RowKit Go.Sort
set_option maxRecDepth 100000 in
set_option maxHeartbeats 32000000 in
theorem holdPlays_any (rl : List FlR) (A : Option Addr) (n c : Nat) (pl : List PlR) (A2 : Option Addr) (n2 c2 : Nat) (w : World) (hs : FlS w 0 w.heap.size A n rl) (hp : PlS w 0 w.heap.size A2 n2 pl) (sc : List HAct) (A3 : Option Addr) (n3 c3 : Nat) (ha : Sl w 0 w.heap.size tHA A3 n3 sc) :
    Calls Tryz.prog 8 #[.agg #[.slice A n c, .slice A2 n2 c2], .slice A3 n3 c3] w (RetB w true) := by
  have HFS := Lib.hid hs
  have HPS := Lib.hid hp
  have HA := Lib.hid ha
  have HOK := Lib.hid hs.sl.wf
  have HB := box1 w #[.slice A n c, .slice A2 n2 c2] 60
  clear hs hp ha
  go_enter Tryz.func8, Tryz.ntmps8
  go_upto_region 1 with fail
  refine wp_world (fun V => Bx V w.heap.size #[.slice A n c, .slice A2 n2 c2] 60 ∧ Below w.heap.size w V) HB ?_
  clear HB
  rintro V0 ⟨bW, hb0⟩
  have BW0 := Lib.hid bW
  have HB0 := Lib.hid hb0
  have z0 := hb0.size
  clear bW hb0
  go_wp2_with fail
  refine (awake11_any V0).mono ?_
  rintro e w1 ⟨rfl, h1⟩
  have BW1 := Lib.hid (BW0.out.below h1 BW0.out.lt)
  have H1 := Lib.hid (HB0.out.trans (h1.mono z0))
  have z1 := H1.out.size
  have zW1 := BW1.out.lt
  clear h1 BW0 HB0
  have cc1 := BW1.out.cells
  go_wp2_with fail
  refine (hbegun_any rl A n c pl A2 n2 c2 w1 0 w.heap.size (HFS.out.below H1.out (Nat.le_refl _)) (HPS.out.below H1.out (Nat.le_refl _)) z1).mono ?_
  rintro e w2 ⟨h2, hq⟩
  have BW2 := Lib.hid (BW1.out.below h2 BW1.out.lt)
  have H2 := Lib.hid (H1.out.trans (h2.mono z1))
  have z2 := H2.out.size
  have z12 := h2.size
  clear h2 cc1 BW1
  rcases hq with ⟨_, rfl⟩ | ⟨hnew, lo, hi, t, p, b, rs, ps, rfl, hHK, hz, htab, hks⟩
  · go_wp2
    go_ret
    exact ⟨rfl, H2.out⟩
  have HR := Lib.hid htab.right_rs
  have HTB := Lib.hid htab
  have HKS := Lib.hid hks
  have HFO := Lib.hid (show ∀ f ∈ rl.map (·.f), f.ok from fun f hf => by obtain ⟨r, hr, rfl⟩ := List.mem_map.1 hf; exact (HOK.out r hr).f)
  have HHK := Lib.hid hHK
  have zb := hHK.hb
  have zbb := hHK.blt
  have zpp := hHK.plt
  clear htab hHK hnew hks
  by_cases hm : 100 < n3
  · have hm' : (100 : Int) < n3 := by omega
    go_wp2
    go_ret
    exact ⟨rfl, H2.out⟩
  have hm' : (n3 : Int) ≤ 100 := by omega
  have hwb : w.heap.size < b := by omega
  have hn64 : n ≤ 100000 := by have h1 := HTB.out.most; have h2 := HFS.out.sl.len; rw [List.length_map] at h1; omega
  have HDD : Hid (∀ r ∈ pl, hdR r.p = true) := fun r hr => by
    obtain ⟨i, hi2, rfl⟩ := List.mem_iff_getElem.1 hr
    obtain ⟨x, _, h2⟩ := HKS.out.2 i _ hi2 (List.getElem?_eq_getElem hi2)
    exact h2.1
  have HRR := Lib.hid HTB.out.right
  go_wp2
  go_loopw [7, 8] (fun v i wr => ∃ (k : Nat) (q : Hpl → Option Hol) (m : List HRow) (A9 : Option Addr) (n9 c9 : Nat), k ≤ n3 ∧ i = .int .i64 k ∧ v = .slice A9 n9 c9 ∧ HK wr lo hi t p b rs ps q ∧ Hid (RH m q) ∧ RS wr w2.heap.size A9 n9 c9 m ∧ n9 ≤ k ∧ Bx wr w.heap.size #[.slice A n c, .slice A2 n2 c2] 60 ∧ Below w.heap.size w wr ∧ w2.heap.size ≤ wr.heap.size) (fun _ i _ => n3 - (intOf i).toNat)
  case atStart => exact ⟨0, _, [], none, 0, 0, Nat.zero_le _, rfl, rfl, HHK.out, RH.nil_, ⟨Sl.nil_ _, fun _ => rfl⟩, Nat.le_refl _, BW2.out, H2.out, Nat.le_refl _⟩
  case round =>
    clear HHK zpp BW2
    obtain ⟨k, q, m, A9, n9, c9, hk, rfl, rfl, hHK, HRH, hrs, hn9, bW, hb, hz2r⟩ := hrel
    have HHK := Lib.hid hHK
    have HB := Lib.hid hb
    have BW := Lib.hid bW
    have RS0 := Lib.hid hrs
    have HN9 : Hid (m.length ≤ k) := by have := hrs.1.len; show _ ≤ _; omega
    have zw := hb.size
    have zbb := hHK.blt
    have zpp := hHK.plt
    clear hHK bW hrs
    by_cases hlt : k < n3
    · obtain ⟨b1, o1, a, hA, _, hb1, hx1, hok, d0, d1, d2, d3, d4, d5, d6, d7, d8⟩ := (Sl.below HA.out hb (Nat.le_refl _)).ha_ hlt
      subst hA
      have i0 : (0 : Int) ≤ k := by omega
      have i1 : (k : Int) < n3 := by omega
      have HOA := Lib.hid hok
      have zw2 : w2.heap.size ≤ wr.heap.size := hz2r
      clear hb hx1 hok
      go_upto_region 11 with fail
      refine wp_world (fun V => ∃ ka, (ka = wr.heap.size ∧ Bx V ka #[.int .i64 a.kind, .int .i64 a.fl, .string a.leg.key.car, .int .i64 a.leg.key.num, .int .i64 a.leg.day, .int .i64 a.seat.row, .int .u8 a.seat.let_, .string a.hol.loc, .int .i64 a.hol.pax] 71) ∧ Below wr.heap.size wr V) ⟨_, ⟨rfl, Bx.new _ _ _⟩, (Below.refl _ _).alloc (Nat.le_refl _) _⟩ ?_
      clear d0 d1 d2 d3 d4 d5 d6 d7 d8
      rintro V ⟨ka, ⟨hka, bA⟩, hv⟩
      try rw [← hka]
      have zka : b < ka := by omega
      have HSV := Lib.hid (HHK.out.keep hv)
      have RSV := Lib.hid (RS0.out.below hv)
      have BWV := Lib.hid (BW.out.below hv BW.out.lt)
      have BAV := Lib.hid bA
      have HBV := Lib.hid (HB.out.trans (hv.mono zw))
      have zV := HBV.out.size
      have zzV := hv.size
      have HR1 := Lib.hid hv
      have HSL0 := Lib.hid RS0.out.1
      have HNC0 := Lib.hid RS0.out.2
      have zpka : p < ka := by omega
      clear hv bA hka HHK RS0 BW HB
      have hleg := hleg_any rl A n c A2 n2 c2 V 0 w.heap.size (HFS.out.below HBV.out (Nat.le_refl _)) zV a
      have HG := Lib.hid (legH_ok HOA.out HFO.out)
      unfold hactV at hleg
      generalize legH (rl.map (·.f)) a = g at hleg HG
      have HLEG := Lib.hid hleg
      have cc1 := BWV.out.cells
      have cc2 := BAV.out.cells
      clear hleg
      go_wp2_with fail
      refine HLEG.out.mono ?_
      rintro e w4 ⟨rfl, h4⟩
      have BW4 := Lib.hid (BWV.out.below h4 BWV.out.lt)
      have bA4 := BAV.out.below h4 BAV.out.lt
      have BA4 := Lib.hid bA4
      have HS4 := Lib.hid (HSV.out.keep h4)
      have RS4 := Lib.hid (RSV.out.below h4)
      have HB4 := Lib.hid (HBV.out.trans (h4.mono zV))
      have z4 := HB4.out.size
      have zz4 := h4.size
      have HR2 := Lib.hid (HR1.out.trans (h4.mono zzV))
      clear cc1 cc2 HLEG h4 HSV RSV BWV BAV HBV
      have cc2 := bA4.cells
      have zq4 := bA4.lt
      clear bA4
      go_upto_region 13 with fail
      refine wp_world (fun V => ∃ kx kh, (kx = w4.heap.size ∧ kh = w4.heap.size + 1 ∧ Bx V kx #[.string g.key.car, .int .i64 g.key.num, .int .i64 g.day] 27 ∧ Bx V kh #[.string a.hol.loc, .int .i64 a.hol.pax] 69) ∧ Below w4.heap.size w4 V) ⟨_, _, ⟨rfl, rfl, (two_boxes w4 #[.string g.key.car, .int .i64 g.key.num, .int .i64 g.day] #[.string a.hol.loc, .int .i64 a.hol.pax] 27 69).1, (two_boxes w4 #[.string g.key.car, .int .i64 g.key.num, .int .i64 g.day] #[.string a.hol.loc, .int .i64 a.hol.pax] 27 69).2.1⟩, (two_boxes w4 #[.string g.key.car, .int .i64 g.key.num, .int .i64 g.day] #[.string a.hol.loc, .int .i64 a.hol.pax] 27 69).2.2.below⟩ ?_
      clear cc2
      rintro WC ⟨kx, kh, ⟨hkx, hkh, bX, bH⟩, hv⟩
      try rw [← hkh]
      try rw [← hkx]
      have zkx : b < kx := by omega
      have zkh : b < kh := by omega
      have zkxh : kx < kh := by omega
      have zkah : ka < kh := by have := BA4.out.lt; omega
      have HSC := Lib.hid (HS4.out.keep hv)
      have RSC := Lib.hid (RS4.out.below hv)
      have H7C : Hid (H7 WC w.heap.size ka kx kh #[.slice A n c, .slice A2 n2 c2] a g a.hol) := ⟨BW4.out.below hv BW4.out.lt, BA4.out.below hv BA4.out.lt, bX, bH⟩
      have HBC := Lib.hid (HB4.out.trans (hv.mono z4))
      have zC := HBC.out.size
      have zzC := hv.size
      have zzh := bH.lt
      have HR3 := Lib.hid (HR2.out.trans (hv.mono (Nat.le_trans zzV zz4)))
      have zrkh : wr.heap.size ≤ kh := by omega
      clear hv bX bH hkx hkh HS4 RS4 BW4 BA4 HB4
      have cc1 := H7C.out.bw.cells
      have cc2 := H7C.out.ba.cells
      have cc3 := H7C.out.bx.cells
      have cc4 := H7C.out.bh.cells
      by_cases k0 : a.kind = 0
      · rw [k0] at cc2
        have HYO : Hid (a.hol.ok) := HOA.out.hol
        clear k0
        as_aux_lemma =>
        go_upto_region 18 with fail
        clear cc2
        have cc2 := H7C.out.ba.cells
        obtain ⟨kk, m', o', hk1, hk2, hrh, hlen⟩ := both_take HRH.out (wrongD rl pl ⟨g, a.seat⟩) ⟨g, a.seat⟩ a.hol ⟨HG.out, HOA.out.seat⟩ HYO.out
        have HK1 := Lib.hid hk1
        have HK2 := Lib.hid hk2
        have HRH2 := Lib.hid hrh
        have HLEN := Lib.hid hlen
        clear hk1 hk2 hrh hlen
        go_wp2_with fail
        refine (rtakeH_any rl A n c pl A2 n2 c2 m A9 n9 c9 g a.seat a.hol WC 0 w.heap.size w2.heap.size (HFS.out.below HBC.out (Nat.le_refl _)) (HPS.out.below HBC.out (Nat.le_refl _)) (by omega) zC HDD.out HRR.out RSC.out (by omega) (by omega) HG.out HOA.out.seat HYO.out rfl).mono ?_
        rintro e w5 ⟨A5, n5, c5, rfl, hrs5, h5⟩
        rw [HK1.out] at hrs5 ⊢
        dsimp only at hrs5 ⊢
        have RSD := Lib.hid hrs5
        clear cc1 cc2 cc3 cc4
        have HSD := Lib.hid (HSC.out.keep h5)
        have H7D := Lib.hid (H7C.out.below h5)
        have HBD := Lib.hid (HBC.out.trans (h5.mono zC))
        have zD := HBD.out.size
        have zzD := h5.size
        clear h5 HSC H7C HBC 
        clear hrs5 RSC
        have cc1 := H7D.out.bw.cells
        have cc2 := H7D.out.ba.cells
        have cc3 := H7D.out.bx.cells
        have cc4 := H7D.out.bh.cells
        go_wp2_with fail
        refine (take_any HSD.out HR.out g a.seat a.hol HG.out HOA.out.seat HYO.out).mono ?_
        rintro e w6 ⟨rfl, hS6, hK6⟩
        rw [wrongB_D HTB.out HKS.out, HK2.out] at hS6 ⊢
        dsimp only at hS6 ⊢
        have HSE := Lib.hid hS6
        have H7E := Lib.hid (H7D.out.kb hK6 (by omega) (by omega) (by omega) (by omega))
        have HBE := Lib.hid (hK6.below HBD.out (by omega) zD)
        have zE := HBE.out.size
        have zzE := hK6.size
        have RSE := Lib.hid (RSD.out.kb hK6 (by omega))
        clear hS6 hK6 HSD H7D HBD RSD
        clear cc1 cc2 cc3 cc4
        -- from region 22 on: state E; slots: rows, e, code
        obtain ⟨yn, bn, hyn1, hyn2⟩ : ∃ (h : Hol) (bb : Bool), ((updH q ⟨g, a.seat⟩ o') ⟨g, a.seat⟩).getD hol0 = h ∧ ((updH q ⟨g, a.seat⟩ o') ⟨g, a.seat⟩).isSome = bb := ⟨_, _, rfl, rfl⟩
        have hwho := who_any HSE.out g a.seat HG.out HOA.out.seat
        rw [hyn1, hyn2] at hwho
        unfold holV at hwho
        have HWHO := Lib.hid hwho
        have HYN1 := Lib.hid hyn1
        have HYN2 := Lib.hid hyn2
        clear hwho hyn1 hyn2
        have cc1 := H7E.out.bw.cells
        have cc2 := H7E.out.ba.cells
        have cc3 := H7E.out.bx.cells
        have cc4 := H7E.out.bh.cells
        go_wp2_with fail
        refine HWHO.out.mono ?_
        rintro e w7 ⟨rfl, h7⟩
        clear cc1 cc2 cc3 cc4
        have HSF := Lib.hid (HSE.out.keep h7)
        have H7F := Lib.hid (H7E.out.below h7)
        have HBF := Lib.hid (HBE.out.trans (h7.mono zE))
        have zF := HBF.out.size
        have zzF := h7.size
        have RSF := Lib.hid (RSE.out.below h7)
        clear h7 HSE H7E HBE RSE
        clear HWHO
        go_upto_region 23 with fail
        refine wp_world (fun V7 => ∃ k14, (k14 = w7.heap.size ∧ Bx V7 k14 #[.string yn.loc, .int .i64 yn.pax] 69) ∧ Below w7.heap.size w7 V7) ⟨_, ⟨rfl, Bx.new _ _ _⟩, (Below.refl _ _).alloc (Nat.le_refl _) _⟩ ?_
        rintro V7 ⟨k14, ⟨hk14, b14⟩, h8⟩
        try rw [← hk14]
        have HSG := Lib.hid (HSF.out.keep h8)
        have H7G := Lib.hid (H7F.out.below h8)
        have HBG := Lib.hid (HBF.out.trans (h8.mono zF))
        have zG := HBG.out.size
        have zzG := h8.size
        have RSG := Lib.hid (RSF.out.below h8)
        clear h8 HSF H7F HBF RSF
        have B14 := Lib.hid b14
        clear b14 hk14
        have cc1 := H7G.out.bw.cells
        have cc2 := H7G.out.ba.cells
        have cc3 := H7G.out.bx.cells
        have cc4 := H7G.out.bh.cells
        have hn5 : n5 ≤ 101 := by have h1 := RSG.out.1.len; have h2 := HLEN.out; have h3 := HN9.out; omega
        have hdw := rwho_any m' A5 n5 c5 g a.seat V7 w2.heap.size V7.heap.size RSG.out.1 (by omega) (Nat.le_refl _) (HRH2.out.who ⟨g, a.seat⟩)
        rw [HYN1.out, HYN2.out] at hdw
        have HDW := Lib.hid hdw
        clear hdw
        go_wp2_with fail
        refine HDW.out.mono ?_
        rintro e w8 ⟨rfl, h9⟩
        clear cc1 cc2 cc3 cc4
        have B149 := Lib.hid (B14.out.below h9 B14.out.lt)
        have HSH_ := Lib.hid (HSG.out.keep h9)
        have H7H_ := Lib.hid (H7G.out.below h9)
        have HBH_ := Lib.hid (HBG.out.trans (h9.mono zG))
        have zH_ := HBH_.out.size
        have zzH_ := h9.size
        have RSH_ := Lib.hid (RSG.out.below h9)
        clear h9 HSG H7G HBG RSG
        clear HDW B14
        go_upto_region 24 with fail
        refine wp_world (fun V8 => ∃ k16, (k16 = w8.heap.size ∧ Bx V8 k16 #[.string yn.loc, .int .i64 yn.pax] 69) ∧ Below w8.heap.size w8 V8) ⟨_, ⟨rfl, Bx.new _ _ _⟩, (Below.refl _ _).alloc (Nat.le_refl _) _⟩ ?_
        rintro WH ⟨k16, ⟨hk16, b16⟩, h10⟩
        try rw [← hk16]
        have B14W := Lib.hid (B149.out.below h10 B149.out.lt)
        have B16W := Lib.hid b16
        have HSW := Lib.hid (HSH_.out.keep h10)
        have H7W := Lib.hid (H7H_.out.below h10)
        have HBW := Lib.hid (HBH_.out.trans (h10.mono zH_))
        have zW := HBW.out.size
        have zzW := h10.size
        have RSW := Lib.hid (RSH_.out.below h10)
        clear h10 HSH_ H7H_ HBH_ RSH_
        clear b16 hk16 B149
        have hne := fun u => neq_hol yn.loc yn.loc yn.pax yn.pax u
        rw [decide_eq_true (rfl : (⟨yn.loc, yn.pax⟩ : Hol) = ⟨yn.loc, yn.pax⟩)] at hne
        have tk : (kk != kk) = false := by simp
        have tb : (bn != bn) = false := by simp
        obtain ⟨hh, hhe⟩ : ∃ hh, hasB rs ps ⟨g, a.seat⟩ = hh := ⟨_, rfl⟩
        have hhd : hasD rl pl ⟨g, a.seat⟩ = hh := (hasB_D HTB.out HKS.out _).symm.trans hhe
        have th : (hh != hh) = false := by simp
        have HHB := Lib.hid (fun (V : World) (hV : Below WH.heap.size WH V) => hhas_any (HSW.out.keep hV) HR.out g a.seat HG.out HOA.out.seat hhe)
        have HHD := Lib.hid (fun (V : World) (hV : Below WH.heap.size WH V) => rhasD_any rl A n c pl A2 n2 c2 g a.seat V 0 w.heap.size (HFS.out.below (HBW.out.trans (hV.mono zW)) (Nat.le_refl _)) (HPS.out.below (HBW.out.trans (hV.mono zW)) (Nat.le_refl _)) (by omega) (Nat.le_trans zW hV.size) HDD.out HRR.out hhd)
        have hml : m'.length = n5 := RSW.out.1.len
        have HOB := Lib.hid (fun (V : World) (hV : Below WH.heap.size WH V) => onB_is (HSW.out.keep hV) g HRH2.out (by omega))
        have HOD := Lib.hid (fun (V : World) (hV : Below WH.heap.size WH V) => (ron_any m' A5 n5 c5 g V w2.heap.size V.heap.size (RSW.out.below hV).1 (by omega) (Nat.le_refl _)).mono fun e w' h => RetSl.of_own h)
        have HLB := Lib.hid (fun (V : World) (hV : Below WH.heap.size WH V) => legsB_is (HSW.out.keep hV) HRH2.out (by omega))
        have HLD := Lib.hid (fun (V : World) (hV : Below WH.heap.size WH V) => (rlegsH_any m' A5 n5 c5 V w2.heap.size V.heap.size (RSW.out.below hV).1 (by omega) (Nat.le_refl _)).mono fun e w' h => RetSl.of_own h)
        have HOL : Hid ((onH m' g).length ≤ 100000) := by
          have h1 : (onH m' g).length ≤ 0 + m'.length := onH_len g m' []
          show _ ≤ _
          omega
        have HLL : Hid ((legsH m').length ≤ 100000) := by
          have h1 : (legsH m').length ≤ 0 + m'.length := legsH_len m' []
          show _ ≤ _
          omega
        have HSK := Lib.hid (fun (V : World) (hV : Below WH.heap.size WH V) => (⟨(H7W.out.bw.below hV H7W.out.bw.lt).cells, (H7W.out.ba.below hV H7W.out.ba.lt).cells, (H7W.out.bx.below hV H7W.out.bx.lt).cells, (B14W.out.below hV B14W.out.lt).cells, (B16W.out.below hV B16W.out.lt).cells⟩ : (∀ i : Nat, V.cell? ⟨w.heap.size, i, none⟩ = (#[.slice A n c, .slice A2 n2 c2] : Array Value)[i]?) ∧ (∀ i : Nat, V.cell? ⟨ka, i, none⟩ = (#[.int .i64 a.kind, .int .i64 a.fl, .string a.leg.key.car, .int .i64 a.leg.key.num, .int .i64 a.leg.day, .int .i64 a.seat.row, .int .u8 a.seat.let_, .string a.hol.loc, .int .i64 a.hol.pax] : Array Value)[i]?) ∧ (∀ i : Nat, V.cell? ⟨kx, i, none⟩ = (#[.string g.key.car, .int .i64 g.key.num, .int .i64 g.day] : Array Value)[i]?) ∧ (∀ i : Nat, V.cell? ⟨k14, i, none⟩ = (#[.string yn.loc, .int .i64 yn.pax] : Array Value)[i]?) ∧ (∀ i : Nat, V.cell? ⟨k16, i, none⟩ = (#[.string yn.loc, .int .i64 yn.pax] : Array Value)[i]?)))
        have hT_0 : Below WH.heap.size WH WH.drew := (Below.refl _ _).drew
        have hn9k := HN9.out
        clear hhe hhd hml
        go_cut [161] (fun u w' => u = .bool false ∧ Below WH.heap.size WH w')
        case first =>
         as_aux_lemma =>
          refine wp_region_held_drew (S := fun w' => (∀ i : Nat, w'.cell? ⟨w.heap.size, i, none⟩ = (#[.slice A n c, .slice A2 n2 c2] : Array Value)[i]?) ∧ (∀ i : Nat, w'.cell? ⟨ka, i, none⟩ = (#[.int .i64 a.kind, .int .i64 a.fl, .string a.leg.key.car, .int .i64 a.leg.key.num, .int .i64 a.leg.day, .int .i64 a.seat.row, .int .u8 a.seat.let_, .string a.hol.loc, .int .i64 a.hol.pax] : Array Value)[i]?) ∧ (∀ i : Nat, w'.cell? ⟨kx, i, none⟩ = (#[.string g.key.car, .int .i64 g.key.num, .int .i64 g.day] : Array Value)[i]?) ∧ (∀ i : Nat, w'.cell? ⟨k14, i, none⟩ = (#[.string yn.loc, .int .i64 yn.pax] : Array Value)[i]?) ∧ (∀ i : Nat, w'.cell? ⟨k16, i, none⟩ = (#[.string yn.loc, .int .i64 yn.pax] : Array Value)[i]?)) (by kernel_rfl) (HSK.out _ hT_0) (fun hS => ?_)
          refine wpAnyH_take (i := 0) (oi := { dst := some 115, op := Op.move (Operand.tmp 12), type := 34, pos := "law.go:129", after := #[], guard := none }) (v := ?_) rfl (by kernel_rfl) (by kernel_rfl) (by kernel_rfl) (fun _ _ _ h => h) (Or.inl ⟨by rfl, ?_⟩) hS ?_
          rotate_left
          · intro w9 hS9; obtain ⟨q1, q2, q3, q4, q5⟩ := hS9; go_simp; try with_reducible rfl
          try simp only [Act.put]
          try simp only [List.setIfInBounds_toArray]
          try simp only [List.set_cons_zero]
          try simp only [List.set_cons_succ, List.set_cons_zero]
          refine wpAnyH_take (i := 1) (oi := { dst := some 116, op := Op.move (Operand.tmp 13), type := 3, pos := "law.go:129", after := #[], guard := none }) (v := ?_) rfl (by kernel_rfl) (by kernel_rfl) (by kernel_rfl) (fun _ _ _ h => h) (Or.inl ⟨by rfl, ?_⟩) hS ?_
          rotate_left
          · intro w9 hS9; obtain ⟨q1, q2, q3, q4, q5⟩ := hS9; go_simp; try with_reducible rfl
          try simp only [Act.put]
          try simp only [List.setIfInBounds_toArray]
          try simp only [List.set_cons_zero]
          try simp only [List.set_cons_succ, List.set_cons_zero]
          refine wpAnyH_take (i := 2) (oi := { dst := some 117, op := Op.binOp BinOp.neq 3 (Operand.tmp 115) (Operand.tmp 116) 3, type := 4, pos := "law.go:129", after := #[{ on := 0, ground := Ground.data }, { on := 1, ground := Ground.data }], guard := none }) (v := ?_) rfl (by kernel_rfl) (by kernel_rfl) (by kernel_rfl) (fun _ _ _ h => h) (Or.inl ⟨by rfl, ?_⟩) hS ?_
          rotate_left
          · intro w9 hS9; obtain ⟨q1, q2, q3, q4, q5⟩ := hS9; go_simp; try with_reducible rfl
          try simp only [Act.put]
          try simp only [List.setIfInBounds_toArray]
          try simp only [List.set_cons_zero]
          try simp only [List.set_cons_succ, List.set_cons_zero]
          refine wpAnyH_take (i := 3) (oi := { dst := some 118, op := Op.move (Operand.tmp 117), type := 4, pos := "law.go:129", after := #[{ on := 2, ground := Ground.data }], guard := none }) (v := ?_) rfl (by kernel_rfl) (by kernel_rfl) (by kernel_rfl) (fun _ _ _ h => h) (Or.inl ⟨by rfl, ?_⟩) hS ?_
          rotate_left
          · intro w9 hS9; obtain ⟨q1, q2, q3, q4, q5⟩ := hS9; go_simp; try with_reducible rfl
          try simp only [Act.put]
          try simp only [List.setIfInBounds_toArray]
          try simp only [List.set_cons_zero]
          try simp only [List.set_cons_succ, List.set_cons_zero]
          refine wpAnyH_take (i := 4) (oi := { dst := some 119, op := Op.load 69 (Operand.tmp 14), type := 69, pos := "law.go:129", after := #[{ on := 3, ground := Ground.guard }], guard := some (3, false) }) (v := ?_) rfl (by kernel_rfl) (by kernel_rfl) (by kernel_rfl) (fun _ _ _ h => h) (Or.inl ⟨by rfl, ?_⟩) hS ?_
          rotate_left
          · intro w9 hS9; obtain ⟨q1, q2, q3, q4, q5⟩ := hS9; go_simp; try with_reducible rfl
          try simp only [Act.put]
          try simp only [List.setIfInBounds_toArray]
          try simp only [List.set_cons_zero]
          try simp only [List.set_cons_succ, List.set_cons_zero]
          refine wpAnyH_take (i := 5) (oi := { dst := some 120, op := Op.load 69 (Operand.tmp 16), type := 69, pos := "law.go:129", after := #[{ on := 3, ground := Ground.guard }], guard := some (3, false) }) (v := ?_) rfl (by kernel_rfl) (by kernel_rfl) (by kernel_rfl) (fun _ _ _ h => h) (Or.inl ⟨by rfl, ?_⟩) hS ?_
          rotate_left
          · intro w9 hS9; obtain ⟨q1, q2, q3, q4, q5⟩ := hS9; go_simp; try with_reducible rfl
          try simp only [Act.put]
          try simp only [List.setIfInBounds_toArray]
          try simp only [List.set_cons_zero]
          try simp only [List.set_cons_succ, List.set_cons_zero]
          refine wpAnyH_take (i := 6) (oi := { dst := some 121, op := Op.binOp BinOp.neq 69 (Operand.tmp 119) (Operand.tmp 120) 69, type := 4, pos := "law.go:129", after := #[{ on := 4, ground := Ground.data }, { on := 5, ground := Ground.data }, { on := 3, ground := Ground.guard }], guard := some (3, false) }) (v := ?_) rfl (by kernel_rfl) (by kernel_rfl) (by kernel_rfl) (fun _ _ _ h => h) (Or.inl ⟨by rfl, ?_⟩) hS ?_
          rotate_left
          · intro w9 hS9; obtain ⟨q1, q2, q3, q4, q5⟩ := hS9; go_simp; try with_reducible rfl
          try simp only [Act.put]
          try simp only [List.setIfInBounds_toArray]
          try simp only [List.set_cons_zero]
          try simp only [List.set_cons_succ, List.set_cons_zero]
          refine wpAnyH_take (i := 7) (oi := { dst := some 122, op := Op.pick (Operand.tmp 118) (Operand.const (Value.bool true)) (Operand.tmp 121), type := 4, pos := "law.go:129", after := #[{ on := 3, ground := Ground.data }, { on := 6, ground := Ground.data }], guard := none }) (v := ?_) rfl (by kernel_rfl) (by kernel_rfl) (by kernel_rfl) (fun _ _ _ h => h) (Or.inl ⟨by rfl, ?_⟩) hS ?_
          rotate_left
          · intro w9 hS9; obtain ⟨q1, q2, q3, q4, q5⟩ := hS9; go_simp; try with_reducible rfl
          try simp only [Act.put]
          try simp only [List.setIfInBounds_toArray]
          try simp only [List.set_cons_zero]
          try simp only [List.set_cons_succ, List.set_cons_zero]
          refine wpAnyH_take (i := 8) (oi := { dst := some 123, op := Op.move (Operand.tmp 122), type := 4, pos := "law.go:129", after := #[{ on := 7, ground := Ground.data }, { on := 3, ground := Ground.chain }], guard := none }) (v := ?_) rfl (by kernel_rfl) (by kernel_rfl) (by kernel_rfl) (fun _ _ _ h => h) (Or.inl ⟨by rfl, ?_⟩) hS ?_
          rotate_left
          · intro w9 hS9; obtain ⟨q1, q2, q3, q4, q5⟩ := hS9; go_simp; try with_reducible rfl
          try simp only [Act.put]
          try simp only [List.setIfInBounds_toArray]
          try simp only [List.set_cons_zero]
          try simp only [List.set_cons_succ, List.set_cons_zero]
          refine wpAnyH_take (i := 9) (oi := { dst := some 124, op := Op.move (Operand.tmp 15), type := 4, pos := "law.go:129", after := #[{ on := 8, ground := Ground.guard }], guard := some (8, false) }) (v := ?_) rfl (by kernel_rfl) (by kernel_rfl) (by kernel_rfl) (fun _ _ _ h => h) (Or.inl ⟨by rfl, ?_⟩) hS ?_
          rotate_left
          · intro w9 hS9; obtain ⟨q1, q2, q3, q4, q5⟩ := hS9; go_simp; try with_reducible rfl
          try simp only [Act.put]
          try simp only [List.setIfInBounds_toArray]
          try simp only [List.set_cons_zero]
          try simp only [List.set_cons_succ, List.set_cons_zero]
          refine wpAnyH_take (i := 10) (oi := { dst := some 125, op := Op.move (Operand.tmp 17), type := 4, pos := "law.go:129", after := #[{ on := 8, ground := Ground.guard }], guard := some (8, false) }) (v := ?_) rfl (by kernel_rfl) (by kernel_rfl) (by kernel_rfl) (fun _ _ _ h => h) (Or.inl ⟨by rfl, ?_⟩) hS ?_
          rotate_left
          · intro w9 hS9; obtain ⟨q1, q2, q3, q4, q5⟩ := hS9; go_simp; try with_reducible rfl
          try simp only [Act.put]
          try simp only [List.setIfInBounds_toArray]
          try simp only [List.set_cons_zero]
          try simp only [List.set_cons_succ, List.set_cons_zero]
          refine wpAnyH_take (i := 11) (oi := { dst := some 126, op := Op.binOp BinOp.neq 4 (Operand.tmp 124) (Operand.tmp 125) 4, type := 4, pos := "law.go:129", after := #[{ on := 9, ground := Ground.data }, { on := 10, ground := Ground.data }, { on := 8, ground := Ground.guard }], guard := some (8, false) }) (v := ?_) rfl (by kernel_rfl) (by kernel_rfl) (by kernel_rfl) (fun _ _ _ h => h) (Or.inl ⟨by rfl, ?_⟩) hS ?_
          rotate_left
          · intro w9 hS9; obtain ⟨q1, q2, q3, q4, q5⟩ := hS9; go_simp; try with_reducible rfl
          try simp only [Act.put]
          try simp only [List.setIfInBounds_toArray]
          try simp only [List.set_cons_zero]
          try simp only [List.set_cons_succ, List.set_cons_zero]
          refine wpAnyH_take (i := 12) (oi := { dst := some 127, op := Op.pick (Operand.tmp 123) (Operand.const (Value.bool true)) (Operand.tmp 126), type := 4, pos := "law.go:129", after := #[{ on := 8, ground := Ground.data }, { on := 11, ground := Ground.data }], guard := none }) (v := ?_) rfl (by kernel_rfl) (by kernel_rfl) (by kernel_rfl) (fun _ _ _ h => h) (Or.inl ⟨by rfl, ?_⟩) hS ?_
          rotate_left
          · intro w9 hS9; obtain ⟨q1, q2, q3, q4, q5⟩ := hS9; go_simp; try with_reducible rfl
          try simp only [Act.put]
          try simp only [List.setIfInBounds_toArray]
          try simp only [List.set_cons_zero]
          try simp only [List.set_cons_succ, List.set_cons_zero]
          refine wpAnyH_take (i := 13) (oi := { dst := some 128, op := Op.move (Operand.tmp 127), type := 4, pos := "law.go:129", after := #[{ on := 12, ground := Ground.data }, { on := 8, ground := Ground.chain }], guard := none }) (v := ?_) rfl (by kernel_rfl) (by kernel_rfl) (by kernel_rfl) (fun _ _ _ h => h) (Or.inl ⟨by rfl, ?_⟩) hS ?_
          rotate_left
          · intro w9 hS9; obtain ⟨q1, q2, q3, q4, q5⟩ := hS9; go_simp; try with_reducible rfl
          try simp only [Act.put]
          try simp only [List.setIfInBounds_toArray]
          try simp only [List.set_cons_zero]
          try simp only [List.set_cons_succ, List.set_cons_zero]
          refine wpAnyH_take (i := 14) (oi := { dst := some 129, op := Op.move (Operand.tmp 5), type := 62, pos := "law.go:129", after := #[{ on := 13, ground := Ground.guard }], guard := some (13, false) }) (v := ?_) rfl (by kernel_rfl) (by kernel_rfl) (by kernel_rfl) (fun _ _ _ h => h) (Or.inl ⟨by rfl, ?_⟩) hS ?_
          rotate_left
          · intro w9 hS9; obtain ⟨q1, q2, q3, q4, q5⟩ := hS9; go_simp; try with_reducible rfl
          try simp only [Act.put]
          try simp only [List.setIfInBounds_toArray]
          try simp only [List.set_cons_zero]
          try simp only [List.set_cons_succ, List.set_cons_zero]
          refine wpAnyH_take (i := 15) (oi := { dst := some 130, op := Op.load 27 (Operand.tmp 10), type := 27, pos := "law.go:129", after := #[{ on := 13, ground := Ground.guard }], guard := some (13, false) }) (v := ?_) rfl (by kernel_rfl) (by kernel_rfl) (by kernel_rfl) (fun _ _ _ h => h) (Or.inl ⟨by rfl, ?_⟩) hS ?_
          rotate_left
          · intro w9 hS9; obtain ⟨q1, q2, q3, q4, q5⟩ := hS9; go_simp; try with_reducible rfl
          try simp only [Act.put]
          try simp only [List.setIfInBounds_toArray]
          try simp only [List.set_cons_zero]
          try simp only [List.set_cons_succ, List.set_cons_zero]
          refine wpAnyH_take (i := 16) (oi := { dst := some 131, op := Op.fieldAddr 71 (Operand.tmp 9) 3, type := 0, pos := "law.go:129", after := #[{ on := 13, ground := Ground.guard }], guard := some (13, false) }) (v := ?_) rfl (by kernel_rfl) (by kernel_rfl) (by kernel_rfl) (fun _ _ _ h => h) (Or.inl ⟨by rfl, ?_⟩) hS ?_
          rotate_left
          · intro w9 hS9; obtain ⟨q1, q2, q3, q4, q5⟩ := hS9; go_simp; try with_reducible rfl
          try simp only [Act.put]
          try simp only [List.setIfInBounds_toArray]
          try simp only [List.set_cons_zero]
          try simp only [List.set_cons_succ, List.set_cons_zero]
          refine wpAnyH_take (i := 17) (oi := { dst := some 132, op := Op.load 67 (Operand.tmp 131), type := 67, pos := "law.go:129", after := #[{ on := 16, ground := Ground.data }, { on := 13, ground := Ground.guard }], guard := some (13, false) }) (v := ?_) rfl (by kernel_rfl) (by kernel_rfl) (by kernel_rfl) (fun _ _ _ h => h) (Or.inl ⟨by rfl, ?_⟩) hS ?_
          rotate_left
          · intro w9 hS9; obtain ⟨q1, q2, q3, q4, q5⟩ := hS9; go_simp; try with_reducible rfl
          try simp only [Act.put]
          try simp only [List.setIfInBounds_toArray]
          try simp only [List.set_cons_zero]
          try simp only [List.set_cons_succ, List.set_cons_zero]
          refine wpAnyH_take (i := 19) (oi := { dst := some 134, op := Op.fieldAddr 60 (Operand.tmp 2) 0, type := 0, pos := "law.go:129", after := #[{ on := 13, ground := Ground.guard }], guard := some (13, false) }) (v := ?_) rfl (by kernel_rfl) (by kernel_rfl) (by kernel_rfl) (fun _ _ _ h => h) (Or.inl ⟨by rfl, ?_⟩) hS ?_
          rotate_left
          · intro w9 hS9; obtain ⟨q1, q2, q3, q4, q5⟩ := hS9; go_simp; try with_reducible rfl
          try simp only [Act.put]
          try simp only [List.setIfInBounds_toArray]
          try simp only [List.set_cons_zero]
          try simp only [List.set_cons_succ, List.set_cons_zero]
          refine wpAnyH_take (i := 20) (oi := { dst := some 135, op := Op.load 22 (Operand.tmp 134), type := 22, pos := "law.go:129", after := #[{ on := 19, ground := Ground.data }, { on := 13, ground := Ground.guard }], guard := some (13, false) }) (v := ?_) rfl (by kernel_rfl) (by kernel_rfl) (by kernel_rfl) (fun _ _ _ h => h) (Or.inl ⟨by rfl, ?_⟩) hS ?_
          rotate_left
          · intro w9 hS9; obtain ⟨q1, q2, q3, q4, q5⟩ := hS9; go_simp; try with_reducible rfl
          try simp only [Act.put]
          try simp only [List.setIfInBounds_toArray]
          try simp only [List.set_cons_zero]
          try simp only [List.set_cons_succ, List.set_cons_zero]
          refine wpAnyH_take (i := 21) (oi := { dst := some 136, op := Op.fieldAddr 60 (Operand.tmp 2) 1, type := 0, pos := "law.go:129", after := #[{ on := 13, ground := Ground.guard }], guard := some (13, false) }) (v := ?_) rfl (by kernel_rfl) (by kernel_rfl) (by kernel_rfl) (fun _ _ _ h => h) (Or.inl ⟨by rfl, ?_⟩) hS ?_
          rotate_left
          · intro w9 hS9; obtain ⟨q1, q2, q3, q4, q5⟩ := hS9; go_simp; try with_reducible rfl
          try simp only [Act.put]
          try simp only [List.setIfInBounds_toArray]
          try simp only [List.set_cons_zero]
          try simp only [List.set_cons_succ, List.set_cons_zero]
          refine wpAnyH_take (i := 22) (oi := { dst := some 137, op := Op.load 58 (Operand.tmp 136), type := 58, pos := "law.go:129", after := #[{ on := 21, ground := Ground.data }, { on := 13, ground := Ground.guard }], guard := some (13, false) }) (v := ?_) rfl (by kernel_rfl) (by kernel_rfl) (by kernel_rfl) (fun _ _ _ h => h) (Or.inl ⟨by rfl, ?_⟩) hS ?_
          rotate_left
          · intro w9 hS9; obtain ⟨q1, q2, q3, q4, q5⟩ := hS9; go_simp; try with_reducible rfl
          try simp only [Act.put]
          try simp only [List.setIfInBounds_toArray]
          try simp only [List.set_cons_zero]
          try simp only [List.set_cons_succ, List.set_cons_zero]
          refine wpAnyH_take (i := 23) (oi := { dst := some 138, op := Op.load 27 (Operand.tmp 10), type := 27, pos := "law.go:129", after := #[{ on := 13, ground := Ground.guard }], guard := some (13, false) }) (v := ?_) rfl (by kernel_rfl) (by kernel_rfl) (by kernel_rfl) (fun _ _ _ h => h) (Or.inl ⟨by rfl, ?_⟩) hS ?_
          rotate_left
          · intro w9 hS9; obtain ⟨q1, q2, q3, q4, q5⟩ := hS9; go_simp; try with_reducible rfl
          try simp only [Act.put]
          try simp only [List.setIfInBounds_toArray]
          try simp only [List.set_cons_zero]
          try simp only [List.set_cons_succ, List.set_cons_zero]
          refine wpAnyH_take (i := 24) (oi := { dst := some 139, op := Op.fieldAddr 71 (Operand.tmp 9) 3, type := 0, pos := "law.go:129", after := #[{ on := 13, ground := Ground.guard }], guard := some (13, false) }) (v := ?_) rfl (by kernel_rfl) (by kernel_rfl) (by kernel_rfl) (fun _ _ _ h => h) (Or.inl ⟨by rfl, ?_⟩) hS ?_
          rotate_left
          · intro w9 hS9; obtain ⟨q1, q2, q3, q4, q5⟩ := hS9; go_simp; try with_reducible rfl
          try simp only [Act.put]
          try simp only [List.setIfInBounds_toArray]
          try simp only [List.set_cons_zero]
          try simp only [List.set_cons_succ, List.set_cons_zero]
          refine wpAnyH_take (i := 25) (oi := { dst := some 140, op := Op.load 67 (Operand.tmp 139), type := 67, pos := "law.go:129", after := #[{ on := 24, ground := Ground.data }, { on := 13, ground := Ground.guard }], guard := some (13, false) }) (v := ?_) rfl (by kernel_rfl) (by kernel_rfl) (by kernel_rfl) (fun _ _ _ h => h) (Or.inl ⟨by rfl, ?_⟩) hS ?_
          rotate_left
          · intro w9 hS9; obtain ⟨q1, q2, q3, q4, q5⟩ := hS9; go_simp; try with_reducible rfl
          try simp only [Act.put]
          try simp only [List.setIfInBounds_toArray]
          try simp only [List.set_cons_zero]
          try simp only [List.set_cons_succ, List.set_cons_zero]
          refine wpAnyH_ready (rs := [18]) (by kernel_rfl) (by simp) ?_
          refine AllReadyH.cons (o := { dst := some 133, op := Op.call { callee := Callee.value (Operand.func 37), args := #[Operand.tmp 129, Operand.tmp 130, Operand.tmp 132], argTypes := #[62, 27, 67] }, type := 4, pos := "law.go:129", after := #[{ on := 14, ground := Ground.data }, { on := 15, ground := Ground.data }, { on := 17, ground := Ground.data }, { on := 13, ground := Ground.chain }, { on := 13, ground := Ground.guard }], guard := some (13, false) }) rfl (fun K9 hK9 => ?_) AllReadyH.nil
          go_simp
          refine (HHB.out _ hT_0).mono ?_
          rintro e v1 ⟨rfl, h1⟩
          have hT_1 := hT_0.trans (h1.mono hT_0.size)
          have hS_1 := HSK.out _ hT_1
          refine hK9.out _ _ hS_1 (fun hS => ?_)
          clear hK9 K9
          try simp only [Act.put]
          try simp only [List.setIfInBounds_toArray]
          try simp only [List.set_cons_zero]
          try simp only [List.set_cons_succ, List.set_cons_zero]
          refine wpAnyH_ready (rs := [26]) (by kernel_rfl) (by simp) ?_
          refine AllReadyH.cons (o := { dst := some 141, op := Op.call { callee := Callee.value (Operand.func 38), args := #[Operand.tmp 135, Operand.tmp 137, Operand.tmp 138, Operand.tmp 140], argTypes := #[22, 58, 27, 67] }, type := 4, pos := "law.go:129", after := #[{ on := 20, ground := Ground.data }, { on := 22, ground := Ground.data }, { on := 23, ground := Ground.data }, { on := 25, ground := Ground.data }, { on := 18, ground := Ground.chain }, { on := 13, ground := Ground.guard }], guard := some (13, false) }) rfl (fun K9 hK9 => ?_) AllReadyH.nil
          go_simp
          refine (HHD.out _ hT_1).mono ?_
          rintro e v2 ⟨rfl, h2⟩
          have hT_2 := hT_1.trans (h2.mono hT_1.size)
          have hS_2 := HSK.out _ hT_2
          refine hK9.out _ _ hS_2 (fun hS => ?_)
          clear hK9 K9
          try simp only [Act.put]
          try simp only [List.setIfInBounds_toArray]
          try simp only [List.set_cons_zero]
          try simp only [List.set_cons_succ, List.set_cons_zero]
          refine wpAnyH_take (i := 27) (oi := { dst := some 142, op := Op.binOp BinOp.neq 4 (Operand.tmp 133) (Operand.tmp 141) 4, type := 4, pos := "law.go:129", after := #[{ on := 18, ground := Ground.data }, { on := 26, ground := Ground.data }, { on := 13, ground := Ground.guard }], guard := some (13, false) }) (v := ?_) rfl (by kernel_rfl) (by kernel_rfl) (by kernel_rfl) (fun _ _ _ h => h) (Or.inl ⟨by rfl, ?_⟩) hS ?_
          rotate_left
          · intro w9 hS9; obtain ⟨q1, q2, q3, q4, q5⟩ := hS9; go_simp; try with_reducible rfl
          try simp only [Act.put]
          try simp only [List.setIfInBounds_toArray]
          try simp only [List.set_cons_zero]
          try simp only [List.set_cons_succ, List.set_cons_zero]
          refine wpAnyH_take (i := 28) (oi := { dst := some 143, op := Op.pick (Operand.tmp 128) (Operand.const (Value.bool true)) (Operand.tmp 142), type := 4, pos := "law.go:129", after := #[{ on := 13, ground := Ground.data }, { on := 27, ground := Ground.data }], guard := none }) (v := ?_) rfl (by kernel_rfl) (by kernel_rfl) (by kernel_rfl) (fun _ _ _ h => h) (Or.inl ⟨by rfl, ?_⟩) hS ?_
          rotate_left
          · intro w9 hS9; obtain ⟨q1, q2, q3, q4, q5⟩ := hS9; go_simp; try with_reducible rfl
          try simp only [Act.put]
          try simp only [List.setIfInBounds_toArray]
          try simp only [List.set_cons_zero]
          try simp only [List.set_cons_succ, List.set_cons_zero]
          refine wpAnyH_take (i := 29) (oi := { dst := some 144, op := Op.move (Operand.tmp 143), type := 4, pos := "law.go:129", after := #[{ on := 28, ground := Ground.data }, { on := 26, ground := Ground.chain }], guard := none }) (v := ?_) rfl (by kernel_rfl) (by kernel_rfl) (by kernel_rfl) (fun _ _ _ h => h) (Or.inl ⟨by rfl, ?_⟩) hS ?_
          rotate_left
          · intro w9 hS9; obtain ⟨q1, q2, q3, q4, q5⟩ := hS9; go_simp; try with_reducible rfl
          try simp only [Act.put]
          try simp only [List.setIfInBounds_toArray]
          try simp only [List.set_cons_zero]
          try simp only [List.set_cons_succ, List.set_cons_zero]
          refine wpAnyH_take (i := 30) (oi := { dst := some 145, op := Op.move (Operand.tmp 5), type := 62, pos := "law.go:129", after := #[{ on := 29, ground := Ground.guard }], guard := some (29, false) }) (v := ?_) rfl (by kernel_rfl) (by kernel_rfl) (by kernel_rfl) (fun _ _ _ h => h) (Or.inl ⟨by rfl, ?_⟩) hS ?_
          rotate_left
          · intro w9 hS9; obtain ⟨q1, q2, q3, q4, q5⟩ := hS9; go_simp; try with_reducible rfl
          try simp only [Act.put]
          try simp only [List.setIfInBounds_toArray]
          try simp only [List.set_cons_zero]
          try simp only [List.set_cons_succ, List.set_cons_zero]
          refine wpAnyH_take (i := 31) (oi := { dst := some 146, op := Op.load 27 (Operand.tmp 10), type := 27, pos := "law.go:129", after := #[{ on := 29, ground := Ground.guard }], guard := some (29, false) }) (v := ?_) rfl (by kernel_rfl) (by kernel_rfl) (by kernel_rfl) (fun _ _ _ h => h) (Or.inl ⟨by rfl, ?_⟩) hS ?_
          rotate_left
          · intro w9 hS9; obtain ⟨q1, q2, q3, q4, q5⟩ := hS9; go_simp; try with_reducible rfl
          try simp only [Act.put]
          try simp only [List.setIfInBounds_toArray]
          try simp only [List.set_cons_zero]
          try simp only [List.set_cons_succ, List.set_cons_zero]
          refine wpAnyH_take (i := 33) (oi := { dst := some 148, op := Op.move (Operand.tmp 7), type := 65, pos := "law.go:129", after := #[{ on := 29, ground := Ground.guard }], guard := some (29, false) }) (v := ?_) rfl (by kernel_rfl) (by kernel_rfl) (by kernel_rfl) (fun _ _ _ h => h) (Or.inl ⟨by rfl, ?_⟩) hS ?_
          rotate_left
          · intro w9 hS9; obtain ⟨q1, q2, q3, q4, q5⟩ := hS9; go_simp; try with_reducible rfl
          try simp only [Act.put]
          try simp only [List.setIfInBounds_toArray]
          try simp only [List.set_cons_zero]
          try simp only [List.set_cons_succ, List.set_cons_zero]
          refine wpAnyH_take (i := 34) (oi := { dst := some 149, op := Op.load 27 (Operand.tmp 10), type := 27, pos := "law.go:129", after := #[{ on := 29, ground := Ground.guard }], guard := some (29, false) }) (v := ?_) rfl (by kernel_rfl) (by kernel_rfl) (by kernel_rfl) (fun _ _ _ h => h) (Or.inl ⟨by rfl, ?_⟩) hS ?_
          rotate_left
          · intro w9 hS9; obtain ⟨q1, q2, q3, q4, q5⟩ := hS9; go_simp; try with_reducible rfl
          try simp only [Act.put]
          try simp only [List.setIfInBounds_toArray]
          try simp only [List.set_cons_zero]
          try simp only [List.set_cons_succ, List.set_cons_zero]
          refine wpAnyH_ready (rs := [32]) (by kernel_rfl) (by simp) ?_
          refine AllReadyH.cons (o := { dst := some 147, op := Op.call { callee := Callee.value (Operand.func 40), args := #[Operand.tmp 145, Operand.tmp 146], argTypes := #[62, 27] }, type := 82, pos := "law.go:129", after := #[{ on := 30, ground := Ground.data }, { on := 31, ground := Ground.data }, { on := 29, ground := Ground.chain }, { on := 29, ground := Ground.guard }], guard := some (29, false) }) rfl (fun K9 hK9 => ?_) AllReadyH.nil
          go_simp
          refine (HOB.out _ hT_2).mono ?_
          rintro e v3 ⟨Aob, cob, rfl, hLob_3, h3⟩
          have hT_3 := hT_2.trans (h3.mono hT_2.size)
          have hS_3 := HSK.out _ hT_3
          refine hK9.out _ _ hS_3 (fun hS => ?_)
          clear hK9 K9
          try simp only [Act.put]
          try simp only [List.setIfInBounds_toArray]
          try simp only [List.set_cons_zero]
          try simp only [List.set_cons_succ, List.set_cons_zero]
          refine wpAnyH_ready (rs := [35]) (by kernel_rfl) (by simp) ?_
          refine AllReadyH.cons (o := { dst := some 150, op := Op.call { callee := Callee.value (Operand.func 41), args := #[Operand.tmp 148, Operand.tmp 149], argTypes := #[65, 27] }, type := 82, pos := "law.go:129", after := #[{ on := 33, ground := Ground.data }, { on := 34, ground := Ground.data }, { on := 32, ground := Ground.chain }, { on := 29, ground := Ground.guard }], guard := some (29, false) }) rfl (fun K9 hK9 => ?_) AllReadyH.nil
          go_simp
          refine (HOD.out _ hT_3).mono ?_
          rintro e v4 ⟨Aod, cod, rfl, hLod_4, h4⟩
          have hLob_4 := (Sl.below hLob_3 h4 (Nat.le_refl _)).more (Nat.le_refl _) h4.size
          have hT_4 := hT_3.trans (h4.mono hT_3.size)
          have hS_4 := HSK.out _ hT_4
          refine hK9.out _ _ hS_4 (fun hS => ?_)
          clear hK9 K9
          try simp only [Act.put]
          try simp only [List.setIfInBounds_toArray]
          try simp only [List.set_cons_zero]
          try simp only [List.set_cons_succ, List.set_cons_zero]
          refine wpAnyH_ready (rs := [36]) (by kernel_rfl) (by simp) ?_
          refine AllReadyH.cons (o := { dst := some 151, op := Op.call { callee := Callee.value (Operand.func 39), args := #[Operand.tmp 147, Operand.tmp 150], argTypes := #[82, 82] }, type := 4, pos := "law.go:129", after := #[{ on := 32, ground := Ground.data }, { on := 35, ground := Ground.data }, { on := 35, ground := Ground.chain }, { on := 29, ground := Ground.guard }], guard := some (29, false) }) rfl (fun K9 hK9 => ?_) AllReadyH.nil
          go_simp
          refine (hsame_any (onH m' g) Aob _ cob Aod cod v4 _ _ _ _ hLob_4 hLod_4 (Nat.le_refl _) (Nat.le_refl _) HOL.out).mono ?_
          rintro e v5 ⟨rfl, h5⟩
          have hLob_5 := (Sl.below hLob_4 h5 (Nat.le_refl _)).more (Nat.le_refl _) h5.size
          have hLod_5 := (Sl.below hLod_4 h5 (Nat.le_refl _)).more (Nat.le_refl _) h5.size
          have hT_5 := hT_4.trans (h5.mono hT_4.size)
          have hS_5 := HSK.out _ hT_5
          refine hK9.out _ _ hS_5 (fun hS => ?_)
          clear hK9 K9
          try simp only [Act.put]
          try simp only [List.setIfInBounds_toArray]
          try simp only [List.set_cons_zero]
          try simp only [List.set_cons_succ, List.set_cons_zero]
          refine wpAnyH_take (i := 37) (oi := { dst := some 152, op := Op.unOp UnOp.not 4 (Operand.tmp 151), type := 4, pos := "law.go:129", after := #[{ on := 36, ground := Ground.data }, { on := 29, ground := Ground.guard }], guard := some (29, false) }) (v := ?_) rfl (by kernel_rfl) (by kernel_rfl) (by kernel_rfl) (fun _ _ _ h => h) (Or.inl ⟨by rfl, ?_⟩) hS ?_
          rotate_left
          · intro w9 hS9; obtain ⟨q1, q2, q3, q4, q5⟩ := hS9; go_simp; try with_reducible rfl
          try simp only [Act.put]
          try simp only [List.setIfInBounds_toArray]
          try simp only [List.set_cons_zero]
          try simp only [List.set_cons_succ, List.set_cons_zero]
          refine wpAnyH_take (i := 38) (oi := { dst := some 153, op := Op.pick (Operand.tmp 144) (Operand.const (Value.bool true)) (Operand.tmp 152), type := 4, pos := "law.go:129", after := #[{ on := 29, ground := Ground.data }, { on := 37, ground := Ground.data }], guard := none }) (v := ?_) rfl (by kernel_rfl) (by kernel_rfl) (by kernel_rfl) (fun _ _ _ h => h) (Or.inl ⟨by rfl, ?_⟩) hS ?_
          rotate_left
          · intro w9 hS9; obtain ⟨q1, q2, q3, q4, q5⟩ := hS9; go_simp; try with_reducible rfl
          try simp only [Act.put]
          try simp only [List.setIfInBounds_toArray]
          try simp only [List.set_cons_zero]
          try simp only [List.set_cons_succ, List.set_cons_zero]
          refine wpAnyH_take (i := 39) (oi := { dst := some 154, op := Op.move (Operand.tmp 153), type := 4, pos := "law.go:129", after := #[{ on := 38, ground := Ground.data }, { on := 36, ground := Ground.chain }], guard := none }) (v := ?_) rfl (by kernel_rfl) (by kernel_rfl) (by kernel_rfl) (fun _ _ _ h => h) (Or.inl ⟨by rfl, ?_⟩) hS ?_
          rotate_left
          · intro w9 hS9; obtain ⟨q1, q2, q3, q4, q5⟩ := hS9; go_simp; try with_reducible rfl
          try simp only [Act.put]
          try simp only [List.setIfInBounds_toArray]
          try simp only [List.set_cons_zero]
          try simp only [List.set_cons_succ, List.set_cons_zero]
          refine wpAnyH_take (i := 40) (oi := { dst := some 155, op := Op.move (Operand.tmp 5), type := 62, pos := "law.go:129", after := #[{ on := 39, ground := Ground.guard }], guard := some (39, false) }) (v := ?_) rfl (by kernel_rfl) (by kernel_rfl) (by kernel_rfl) (fun _ _ _ h => h) (Or.inl ⟨by rfl, ?_⟩) hS ?_
          rotate_left
          · intro w9 hS9; obtain ⟨q1, q2, q3, q4, q5⟩ := hS9; go_simp; try with_reducible rfl
          try simp only [Act.put]
          try simp only [List.setIfInBounds_toArray]
          try simp only [List.set_cons_zero]
          try simp only [List.set_cons_succ, List.set_cons_zero]
          refine wpAnyH_take (i := 42) (oi := { dst := some 157, op := Op.move (Operand.tmp 7), type := 65, pos := "law.go:129", after := #[{ on := 39, ground := Ground.guard }], guard := some (39, false) }) (v := ?_) rfl (by kernel_rfl) (by kernel_rfl) (by kernel_rfl) (fun _ _ _ h => h) (Or.inl ⟨by rfl, ?_⟩) hS ?_
          rotate_left
          · intro w9 hS9; obtain ⟨q1, q2, q3, q4, q5⟩ := hS9; go_simp; try with_reducible rfl
          try simp only [Act.put]
          try simp only [List.setIfInBounds_toArray]
          try simp only [List.set_cons_zero]
          try simp only [List.set_cons_succ, List.set_cons_zero]
          refine wpAnyH_ready (rs := [41]) (by kernel_rfl) (by simp) ?_
          refine AllReadyH.cons (o := { dst := some 156, op := Op.call { callee := Callee.value (Operand.func 42), args := #[Operand.tmp 155], argTypes := #[62] }, type := 48, pos := "law.go:129", after := #[{ on := 40, ground := Ground.data }, { on := 39, ground := Ground.chain }, { on := 39, ground := Ground.guard }], guard := some (39, false) }) rfl (fun K9 hK9 => ?_) AllReadyH.nil
          go_simp
          refine (HLB.out _ hT_5).mono ?_
          rintro e v6 ⟨Alb, clb, rfl, hLlb_6, h6⟩
          have hLob_6 := (Sl.below hLob_5 h6 (Nat.le_refl _)).more (Nat.le_refl _) h6.size
          have hLod_6 := (Sl.below hLod_5 h6 (Nat.le_refl _)).more (Nat.le_refl _) h6.size
          have hT_6 := hT_5.trans (h6.mono hT_5.size)
          have hS_6 := HSK.out _ hT_6
          refine hK9.out _ _ hS_6 (fun hS => ?_)
          clear hK9 K9
          try simp only [Act.put]
          try simp only [List.setIfInBounds_toArray]
          try simp only [List.set_cons_zero]
          try simp only [List.set_cons_succ, List.set_cons_zero]
          refine wpAnyH_ready (rs := [43]) (by kernel_rfl) (by simp) ?_
          refine AllReadyH.cons (o := { dst := some 158, op := Op.call { callee := Callee.value (Operand.func 43), args := #[Operand.tmp 157], argTypes := #[65] }, type := 48, pos := "law.go:129", after := #[{ on := 42, ground := Ground.data }, { on := 41, ground := Ground.chain }, { on := 39, ground := Ground.guard }], guard := some (39, false) }) rfl (fun K9 hK9 => ?_) AllReadyH.nil
          go_simp
          refine (HLD.out _ hT_6).mono ?_
          rintro e v7 ⟨Ald, cld, rfl, hLld_7, h7⟩
          have hLob_7 := (Sl.below hLob_6 h7 (Nat.le_refl _)).more (Nat.le_refl _) h7.size
          have hLod_7 := (Sl.below hLod_6 h7 (Nat.le_refl _)).more (Nat.le_refl _) h7.size
          have hLlb_7 := (Sl.below hLlb_6 h7 (Nat.le_refl _)).more (Nat.le_refl _) h7.size
          have hT_7 := hT_6.trans (h7.mono hT_6.size)
          have hS_7 := HSK.out _ hT_7
          refine hK9.out _ _ hS_7 (fun hS => ?_)
          clear hK9 K9
          try simp only [Act.put]
          try simp only [List.setIfInBounds_toArray]
          try simp only [List.set_cons_zero]
          try simp only [List.set_cons_succ, List.set_cons_zero]
          refine wpAnyH_ready (rs := [44]) (by kernel_rfl) (by simp) ?_
          refine AllReadyH.cons (o := { dst := some 159, op := Op.call { callee := Callee.value (Operand.func 22), args := #[Operand.tmp 156, Operand.tmp 158], argTypes := #[48, 48] }, type := 4, pos := "law.go:129", after := #[{ on := 41, ground := Ground.data }, { on := 43, ground := Ground.data }, { on := 43, ground := Ground.chain }, { on := 39, ground := Ground.guard }], guard := some (39, false) }) rfl (fun K9 hK9 => ?_) AllReadyH.nil
          go_simp
          refine (lawLegs_any (legsH m') Alb Ald _ clb _ cld v7 _ _ _ _ hLlb_7 hLld_7 HLL.out).mono ?_
          rintro e v8 ⟨rfl, h8⟩
          have hLob_8 := (Sl.below hLob_7 h8 (Nat.le_refl _)).more (Nat.le_refl _) h8.size
          have hLod_8 := (Sl.below hLod_7 h8 (Nat.le_refl _)).more (Nat.le_refl _) h8.size
          have hLlb_8 := (Sl.below hLlb_7 h8 (Nat.le_refl _)).more (Nat.le_refl _) h8.size
          have hLld_8 := (Sl.below hLld_7 h8 (Nat.le_refl _)).more (Nat.le_refl _) h8.size
          have hT_8 := hT_7.trans (h8.mono hT_7.size)
          have hS_8 := HSK.out _ hT_8
          refine hK9.out _ _ hS_8 (fun hS => ?_)
          clear hK9 K9
          try simp only [Act.put]
          try simp only [List.setIfInBounds_toArray]
          try simp only [List.set_cons_zero]
          try simp only [List.set_cons_succ, List.set_cons_zero]
          refine wpAnyH_take (i := 45) (oi := { dst := some 160, op := Op.unOp UnOp.not 4 (Operand.tmp 159), type := 4, pos := "law.go:129", after := #[{ on := 44, ground := Ground.data }, { on := 39, ground := Ground.guard }], guard := some (39, false) }) (v := ?_) rfl (by kernel_rfl) (by kernel_rfl) (by kernel_rfl) (fun _ _ _ h => h) (Or.inl ⟨by rfl, ?_⟩) hS ?_
          rotate_left
          · intro w9 hS9; obtain ⟨q1, q2, q3, q4, q5⟩ := hS9; go_simp; try with_reducible rfl
          try simp only [Act.put]
          try simp only [List.setIfInBounds_toArray]
          try simp only [List.set_cons_zero]
          try simp only [List.set_cons_succ, List.set_cons_zero]
          refine wpAnyH_take (i := 46) (oi := { dst := some 161, op := Op.pick (Operand.tmp 154) (Operand.const (Value.bool true)) (Operand.tmp 160), type := 4, pos := "law.go:129", after := #[{ on := 39, ground := Ground.data }, { on := 45, ground := Ground.data }], guard := none }) (v := ?_) rfl (by kernel_rfl) (by kernel_rfl) (by kernel_rfl) (fun _ _ _ h => h) (Or.inl ⟨by rfl, ?_⟩) hS ?_
          rotate_left
          · intro w9 hS9; obtain ⟨q1, q2, q3, q4, q5⟩ := hS9; go_simp; try with_reducible rfl
          try simp only [Act.put]
          try simp only [List.setIfInBounds_toArray]
          try simp only [List.set_cons_zero]
          try simp only [List.set_cons_succ, List.set_cons_zero]
          refine wpAnyH_done (by kernel_rfl) ?_ _
          go_wp2
          go_meet
          exact ⟨rfl, hT_8⟩
        case rest =>
          obtain ⟨rfl, hbc⟩ := hcut
          have HSZ := Lib.hid (HSW.out.keep hbc)
          have RSZ := Lib.hid (RSW.out.below hbc)
          have BWZ := Lib.hid (H7W.out.bw.below hbc H7W.out.bw.lt)
          have HBZ := Lib.hid (HBW.out.trans (hbc.mono zW))
          have hl9 : n5 ≤ k + 1 := by have h1 := RSW.out.1.len; have h2 := HLEN.out; omega
          have hcz := hbc.size
          clear hbc
          go_wp2
          go_roundw
          case rel => exact ⟨k + 1, _, m', A5, n5, c5, by omega, by go_num, rfl, HSZ.out, HRH2, RSZ.out, hl9, BWZ.out, HBZ.out, by have := hcz; omega⟩
          case measure => simp [intOf]; omega
      · by_cases k2 : a.kind = 2
        · have t0 : (a.kind == 0) = false := by simp [k0]
          rw [k2] at cc2
          clear k0 k2
          obtain ⟨y, hy⟩ : ∃ y, (q ⟨g, a.seat⟩).getD hol0 = y := ⟨_, rfl⟩
          have HYO : Hid (y.ok) := by
            show Hol.ok y
            rw [← hy]
            cases e : q ⟨g, a.seat⟩ with
            | none => exact ⟨(show okStr ⟨#[]⟩ by unfold okStr; decide), (show okInt 0 by unfold okInt; decide)⟩
            | some x => exact (HRH.out.ok _ ((HRH.out.is _ _).1 e)).2
          have hdw := rwho_any m A9 n9 c9 g a.seat WC w2.heap.size WC.heap.size RSC.out.1 (by omega) (Nat.le_refl _) (HRH.out.who ⟨g, a.seat⟩)
          rw [hy] at hdw
          have HDW := Lib.hid hdw
          clear hdw hy
          as_aux_lemma =>
          go_upto_region 16 with fail
          clear cc2
          have cc2 := H7C.out.ba.cells
          go_wp2_with fail
          refine HDW.out.mono ?_
          rintro e w4b ⟨rfl, h4⟩
          have HR4 := Lib.hid (HR3.out.trans (h4.mono HR3.out.size))
          clear cc1 cc2 cc3 cc4
          have HSQ := Lib.hid (HSC.out.keep h4)
          have H7Q := Lib.hid (H7C.out.below h4)
          have HBQ := Lib.hid (HBC.out.trans (h4.mono zC))
          have zQ := HBQ.out.size
          have zzQ := h4.size
          have RSQ := Lib.hid (RSC.out.below h4)
          clear h4 HSC H7C HBC RSC
          clear HDW
          have fh := H7Q.out.bh.free
          have ch := H7Q.out.bh.cells
          have cc2 := H7Q.out.ba.cells
          go_upto_region 17 with fail
          refine wp_world (fun V => Bx V kh #[.string y.loc, .int .i64 y.pax] 69 ∧ Kb kh w4b V) ⟨(H7Q.out.bh.put 0 (.string y.loc)).put 1 (.int .i64 y.pax), (Kb.cell kh w4b 0 _).trans (Kb.cell kh _ 1 _)⟩ ?_
          rintro V ⟨bH, hkb⟩
          have HSY := Lib.hid (HSQ.out.kb hkb (by omega) (by omega) (by omega))
          have zr4 : wr.heap.size ≤ w4b.heap.size := HR4.out.size
          have RSY : Hid (RS V w2.heap.size A9 n9 c9 m) := ⟨(Sl.kbx (HSL0.out.below HR4.out (Nat.le_refl _)) hkb zrkh zr4).more (Nat.le_refl _) (Nat.le_trans zr4 hkb.size), HNC0.out⟩
          have H7Y : Hid (H7 V w.heap.size ka kx kh #[.slice A n c, .slice A2 n2 c2] a g y) := ⟨H7Q.out.bw.kb hkb (by omega), H7Q.out.ba.kb hkb (by omega), H7Q.out.bx.kb hkb (by omega), bH⟩
          have HBY := Lib.hid (hkb.below HBQ.out (by omega) zQ)
          have zY := HBY.out.size
          have zzY := hkb.size
          clear fh ch cc2 bH hkb HSQ RSQ H7Q HBQ
          have cc1 := H7Y.out.bw.cells
          have cc2 := H7Y.out.ba.cells
          have cc3 := H7Y.out.bx.cells
          have cc4 := H7Y.out.bh.cells
          go_upto_region 20 with fail
          obtain ⟨kk, m', o', hk1, hk2, hrh, hlen⟩ := both_free HRH.out (wrongD rl pl ⟨g, a.seat⟩) ⟨g, a.seat⟩ y
          have HK1 := Lib.hid hk1
          have HK2 := Lib.hid hk2
          have HRH2 := Lib.hid hrh
          have HLEN := Lib.hid hlen
          clear hk1 hk2 hrh hlen
          go_wp2_with fail
          refine (rfreeH_any rl A n c pl A2 n2 c2 m A9 n9 c9 g a.seat y V 0 w.heap.size w2.heap.size (HFS.out.below HBY.out (Nat.le_refl _)) (HPS.out.below HBY.out (Nat.le_refl _)) (by omega) zY HDD.out HRR.out RSY.out (by omega) (by omega) HG.out HOA.out.seat HYO.out rfl).mono ?_
          rintro e w5 ⟨A5, n5, c5, rfl, hrs5, h5⟩
          rw [HK1.out] at hrs5 ⊢
          dsimp only at hrs5 ⊢
          have RSD := Lib.hid hrs5
          clear cc1 cc2 cc3 cc4
          have HSD := Lib.hid (HSY.out.keep h5)
          have H7D := Lib.hid (H7Y.out.below h5)
          have HBD := Lib.hid (HBY.out.trans (h5.mono zY))
          have zD := HBD.out.size
          have zzD := h5.size
          clear h5 HSY H7Y HBY 
          clear hrs5 RSY
          have cc1 := H7D.out.bw.cells
          have cc2 := H7D.out.ba.cells
          have cc3 := H7D.out.bx.cells
          have cc4 := H7D.out.bh.cells
          go_wp2_with fail
          refine (free_any HSD.out HR.out g a.seat y HG.out HOA.out.seat HYO.out).mono ?_
          rintro e w6 ⟨rfl, hS6, hK6⟩
          rw [wrongB_D HTB.out HKS.out, HK2.out] at hS6 ⊢
          dsimp only at hS6 ⊢
          have HSE := Lib.hid hS6
          have H7E := Lib.hid (H7D.out.kb hK6 (by omega) (by omega) (by omega) (by omega))
          have HBE := Lib.hid (hK6.below HBD.out (by omega) zD)
          have zE := HBE.out.size
          have zzE := hK6.size
          have RSE := Lib.hid (RSD.out.kb hK6 (by omega))
          clear hS6 hK6 HSD H7D HBD RSD
          clear cc1 cc2 cc3 cc4
          -- from region 22 on: state E; slots: rows, e, code
          obtain ⟨yn, bn, hyn1, hyn2⟩ : ∃ (h : Hol) (bb : Bool), ((updH q ⟨g, a.seat⟩ o') ⟨g, a.seat⟩).getD hol0 = h ∧ ((updH q ⟨g, a.seat⟩ o') ⟨g, a.seat⟩).isSome = bb := ⟨_, _, rfl, rfl⟩
          have hwho := who_any HSE.out g a.seat HG.out HOA.out.seat
          rw [hyn1, hyn2] at hwho
          unfold holV at hwho
          have HWHO := Lib.hid hwho
          have HYN1 := Lib.hid hyn1
          have HYN2 := Lib.hid hyn2
          clear hwho hyn1 hyn2
          have cc1 := H7E.out.bw.cells
          have cc2 := H7E.out.ba.cells
          have cc3 := H7E.out.bx.cells
          have cc4 := H7E.out.bh.cells
          go_wp2_with fail
          refine HWHO.out.mono ?_
          rintro e w7 ⟨rfl, h7⟩
          clear cc1 cc2 cc3 cc4
          have HSF := Lib.hid (HSE.out.keep h7)
          have H7F := Lib.hid (H7E.out.below h7)
          have HBF := Lib.hid (HBE.out.trans (h7.mono zE))
          have zF := HBF.out.size
          have zzF := h7.size
          have RSF := Lib.hid (RSE.out.below h7)
          clear h7 HSE H7E HBE RSE
          clear HWHO
          go_upto_region 23 with fail
          refine wp_world (fun V7 => ∃ k14, (k14 = w7.heap.size ∧ Bx V7 k14 #[.string yn.loc, .int .i64 yn.pax] 69) ∧ Below w7.heap.size w7 V7) ⟨_, ⟨rfl, Bx.new _ _ _⟩, (Below.refl _ _).alloc (Nat.le_refl _) _⟩ ?_
          rintro V7 ⟨k14, ⟨hk14, b14⟩, h8⟩
          try rw [← hk14]
          have HSG := Lib.hid (HSF.out.keep h8)
          have H7G := Lib.hid (H7F.out.below h8)
          have HBG := Lib.hid (HBF.out.trans (h8.mono zF))
          have zG := HBG.out.size
          have zzG := h8.size
          have RSG := Lib.hid (RSF.out.below h8)
          clear h8 HSF H7F HBF RSF
          have B14 := Lib.hid b14
          clear b14 hk14
          have cc1 := H7G.out.bw.cells
          have cc2 := H7G.out.ba.cells
          have cc3 := H7G.out.bx.cells
          have cc4 := H7G.out.bh.cells
          have hn5 : n5 ≤ 101 := by have h1 := RSG.out.1.len; have h2 := HLEN.out; have h3 := HN9.out; omega
          have hdw := rwho_any m' A5 n5 c5 g a.seat V7 w2.heap.size V7.heap.size RSG.out.1 (by omega) (Nat.le_refl _) (HRH2.out.who ⟨g, a.seat⟩)
          rw [HYN1.out, HYN2.out] at hdw
          have HDW := Lib.hid hdw
          clear hdw
          go_wp2_with fail
          refine HDW.out.mono ?_
          rintro e w8 ⟨rfl, h9⟩
          clear cc1 cc2 cc3 cc4
          have B149 := Lib.hid (B14.out.below h9 B14.out.lt)
          have HSH_ := Lib.hid (HSG.out.keep h9)
          have H7H_ := Lib.hid (H7G.out.below h9)
          have HBH_ := Lib.hid (HBG.out.trans (h9.mono zG))
          have zH_ := HBH_.out.size
          have zzH_ := h9.size
          have RSH_ := Lib.hid (RSG.out.below h9)
          clear h9 HSG H7G HBG RSG
          clear HDW B14
          go_upto_region 24 with fail
          refine wp_world (fun V8 => ∃ k16, (k16 = w8.heap.size ∧ Bx V8 k16 #[.string yn.loc, .int .i64 yn.pax] 69) ∧ Below w8.heap.size w8 V8) ⟨_, ⟨rfl, Bx.new _ _ _⟩, (Below.refl _ _).alloc (Nat.le_refl _) _⟩ ?_
          rintro WH ⟨k16, ⟨hk16, b16⟩, h10⟩
          try rw [← hk16]
          have B14W := Lib.hid (B149.out.below h10 B149.out.lt)
          have B16W := Lib.hid b16
          have HSW := Lib.hid (HSH_.out.keep h10)
          have H7W := Lib.hid (H7H_.out.below h10)
          have HBW := Lib.hid (HBH_.out.trans (h10.mono zH_))
          have zW := HBW.out.size
          have zzW := h10.size
          have RSW := Lib.hid (RSH_.out.below h10)
          clear h10 HSH_ H7H_ HBH_ RSH_
          clear b16 hk16 B149
          have hne := fun u => neq_hol yn.loc yn.loc yn.pax yn.pax u
          rw [decide_eq_true (rfl : (⟨yn.loc, yn.pax⟩ : Hol) = ⟨yn.loc, yn.pax⟩)] at hne
          have tk : (kk != kk) = false := by simp
          have tb : (bn != bn) = false := by simp
          obtain ⟨hh, hhe⟩ : ∃ hh, hasB rs ps ⟨g, a.seat⟩ = hh := ⟨_, rfl⟩
          have hhd : hasD rl pl ⟨g, a.seat⟩ = hh := (hasB_D HTB.out HKS.out _).symm.trans hhe
          have th : (hh != hh) = false := by simp
          have HHB := Lib.hid (fun (V : World) (hV : Below WH.heap.size WH V) => hhas_any (HSW.out.keep hV) HR.out g a.seat HG.out HOA.out.seat hhe)
          have HHD := Lib.hid (fun (V : World) (hV : Below WH.heap.size WH V) => rhasD_any rl A n c pl A2 n2 c2 g a.seat V 0 w.heap.size (HFS.out.below (HBW.out.trans (hV.mono zW)) (Nat.le_refl _)) (HPS.out.below (HBW.out.trans (hV.mono zW)) (Nat.le_refl _)) (by omega) (Nat.le_trans zW hV.size) HDD.out HRR.out hhd)
          have hml : m'.length = n5 := RSW.out.1.len
          have HOB := Lib.hid (fun (V : World) (hV : Below WH.heap.size WH V) => onB_is (HSW.out.keep hV) g HRH2.out (by omega))
          have HOD := Lib.hid (fun (V : World) (hV : Below WH.heap.size WH V) => (ron_any m' A5 n5 c5 g V w2.heap.size V.heap.size (RSW.out.below hV).1 (by omega) (Nat.le_refl _)).mono fun e w' h => RetSl.of_own h)
          have HLB := Lib.hid (fun (V : World) (hV : Below WH.heap.size WH V) => legsB_is (HSW.out.keep hV) HRH2.out (by omega))
          have HLD := Lib.hid (fun (V : World) (hV : Below WH.heap.size WH V) => (rlegsH_any m' A5 n5 c5 V w2.heap.size V.heap.size (RSW.out.below hV).1 (by omega) (Nat.le_refl _)).mono fun e w' h => RetSl.of_own h)
          have HOL : Hid ((onH m' g).length ≤ 100000) := by
            have h1 : (onH m' g).length ≤ 0 + m'.length := onH_len g m' []
            show _ ≤ _
            omega
          have HLL : Hid ((legsH m').length ≤ 100000) := by
            have h1 : (legsH m').length ≤ 0 + m'.length := legsH_len m' []
            show _ ≤ _
            omega
          have HSK := Lib.hid (fun (V : World) (hV : Below WH.heap.size WH V) => (⟨(H7W.out.bw.below hV H7W.out.bw.lt).cells, (H7W.out.ba.below hV H7W.out.ba.lt).cells, (H7W.out.bx.below hV H7W.out.bx.lt).cells, (B14W.out.below hV B14W.out.lt).cells, (B16W.out.below hV B16W.out.lt).cells⟩ : (∀ i : Nat, V.cell? ⟨w.heap.size, i, none⟩ = (#[.slice A n c, .slice A2 n2 c2] : Array Value)[i]?) ∧ (∀ i : Nat, V.cell? ⟨ka, i, none⟩ = (#[.int .i64 a.kind, .int .i64 a.fl, .string a.leg.key.car, .int .i64 a.leg.key.num, .int .i64 a.leg.day, .int .i64 a.seat.row, .int .u8 a.seat.let_, .string a.hol.loc, .int .i64 a.hol.pax] : Array Value)[i]?) ∧ (∀ i : Nat, V.cell? ⟨kx, i, none⟩ = (#[.string g.key.car, .int .i64 g.key.num, .int .i64 g.day] : Array Value)[i]?) ∧ (∀ i : Nat, V.cell? ⟨k14, i, none⟩ = (#[.string yn.loc, .int .i64 yn.pax] : Array Value)[i]?) ∧ (∀ i : Nat, V.cell? ⟨k16, i, none⟩ = (#[.string yn.loc, .int .i64 yn.pax] : Array Value)[i]?)))
          have hT_0 : Below WH.heap.size WH WH.drew := (Below.refl _ _).drew
          have hn9k := HN9.out
          clear hhe hhd hml
          go_cut [161] (fun u w' => u = .bool false ∧ Below WH.heap.size WH w')
          case first =>
           as_aux_lemma =>
            refine wp_region_held_drew (S := fun w' => (∀ i : Nat, w'.cell? ⟨w.heap.size, i, none⟩ = (#[.slice A n c, .slice A2 n2 c2] : Array Value)[i]?) ∧ (∀ i : Nat, w'.cell? ⟨ka, i, none⟩ = (#[.int .i64 a.kind, .int .i64 a.fl, .string a.leg.key.car, .int .i64 a.leg.key.num, .int .i64 a.leg.day, .int .i64 a.seat.row, .int .u8 a.seat.let_, .string a.hol.loc, .int .i64 a.hol.pax] : Array Value)[i]?) ∧ (∀ i : Nat, w'.cell? ⟨kx, i, none⟩ = (#[.string g.key.car, .int .i64 g.key.num, .int .i64 g.day] : Array Value)[i]?) ∧ (∀ i : Nat, w'.cell? ⟨k14, i, none⟩ = (#[.string yn.loc, .int .i64 yn.pax] : Array Value)[i]?) ∧ (∀ i : Nat, w'.cell? ⟨k16, i, none⟩ = (#[.string yn.loc, .int .i64 yn.pax] : Array Value)[i]?)) (by kernel_rfl) (HSK.out _ hT_0) (fun hS => ?_)
            refine wpAnyH_take (i := 0) (oi := { dst := some 115, op := Op.move (Operand.tmp 12), type := 34, pos := "law.go:129", after := #[], guard := none }) (v := ?_) rfl (by kernel_rfl) (by kernel_rfl) (by kernel_rfl) (fun _ _ _ h => h) (Or.inl ⟨by rfl, ?_⟩) hS ?_
            rotate_left
            · intro w9 hS9; obtain ⟨q1, q2, q3, q4, q5⟩ := hS9; go_simp; try with_reducible rfl
            try simp only [Act.put]
            try simp only [List.setIfInBounds_toArray]
            try simp only [List.set_cons_zero]
            try simp only [List.set_cons_succ, List.set_cons_zero]
            refine wpAnyH_take (i := 1) (oi := { dst := some 116, op := Op.move (Operand.tmp 13), type := 3, pos := "law.go:129", after := #[], guard := none }) (v := ?_) rfl (by kernel_rfl) (by kernel_rfl) (by kernel_rfl) (fun _ _ _ h => h) (Or.inl ⟨by rfl, ?_⟩) hS ?_
            rotate_left
            · intro w9 hS9; obtain ⟨q1, q2, q3, q4, q5⟩ := hS9; go_simp; try with_reducible rfl
            try simp only [Act.put]
            try simp only [List.setIfInBounds_toArray]
            try simp only [List.set_cons_zero]
            try simp only [List.set_cons_succ, List.set_cons_zero]
            refine wpAnyH_take (i := 2) (oi := { dst := some 117, op := Op.binOp BinOp.neq 3 (Operand.tmp 115) (Operand.tmp 116) 3, type := 4, pos := "law.go:129", after := #[{ on := 0, ground := Ground.data }, { on := 1, ground := Ground.data }], guard := none }) (v := ?_) rfl (by kernel_rfl) (by kernel_rfl) (by kernel_rfl) (fun _ _ _ h => h) (Or.inl ⟨by rfl, ?_⟩) hS ?_
            rotate_left
            · intro w9 hS9; obtain ⟨q1, q2, q3, q4, q5⟩ := hS9; go_simp; try with_reducible rfl
            try simp only [Act.put]
            try simp only [List.setIfInBounds_toArray]
            try simp only [List.set_cons_zero]
            try simp only [List.set_cons_succ, List.set_cons_zero]
            refine wpAnyH_take (i := 3) (oi := { dst := some 118, op := Op.move (Operand.tmp 117), type := 4, pos := "law.go:129", after := #[{ on := 2, ground := Ground.data }], guard := none }) (v := ?_) rfl (by kernel_rfl) (by kernel_rfl) (by kernel_rfl) (fun _ _ _ h => h) (Or.inl ⟨by rfl, ?_⟩) hS ?_
            rotate_left
            · intro w9 hS9; obtain ⟨q1, q2, q3, q4, q5⟩ := hS9; go_simp; try with_reducible rfl
            try simp only [Act.put]
            try simp only [List.setIfInBounds_toArray]
            try simp only [List.set_cons_zero]
            try simp only [List.set_cons_succ, List.set_cons_zero]
            refine wpAnyH_take (i := 4) (oi := { dst := some 119, op := Op.load 69 (Operand.tmp 14), type := 69, pos := "law.go:129", after := #[{ on := 3, ground := Ground.guard }], guard := some (3, false) }) (v := ?_) rfl (by kernel_rfl) (by kernel_rfl) (by kernel_rfl) (fun _ _ _ h => h) (Or.inl ⟨by rfl, ?_⟩) hS ?_
            rotate_left
            · intro w9 hS9; obtain ⟨q1, q2, q3, q4, q5⟩ := hS9; go_simp; try with_reducible rfl
            try simp only [Act.put]
            try simp only [List.setIfInBounds_toArray]
            try simp only [List.set_cons_zero]
            try simp only [List.set_cons_succ, List.set_cons_zero]
            refine wpAnyH_take (i := 5) (oi := { dst := some 120, op := Op.load 69 (Operand.tmp 16), type := 69, pos := "law.go:129", after := #[{ on := 3, ground := Ground.guard }], guard := some (3, false) }) (v := ?_) rfl (by kernel_rfl) (by kernel_rfl) (by kernel_rfl) (fun _ _ _ h => h) (Or.inl ⟨by rfl, ?_⟩) hS ?_
            rotate_left
            · intro w9 hS9; obtain ⟨q1, q2, q3, q4, q5⟩ := hS9; go_simp; try with_reducible rfl
            try simp only [Act.put]
            try simp only [List.setIfInBounds_toArray]
            try simp only [List.set_cons_zero]
            try simp only [List.set_cons_succ, List.set_cons_zero]
            refine wpAnyH_take (i := 6) (oi := { dst := some 121, op := Op.binOp BinOp.neq 69 (Operand.tmp 119) (Operand.tmp 120) 69, type := 4, pos := "law.go:129", after := #[{ on := 4, ground := Ground.data }, { on := 5, ground := Ground.data }, { on := 3, ground := Ground.guard }], guard := some (3, false) }) (v := ?_) rfl (by kernel_rfl) (by kernel_rfl) (by kernel_rfl) (fun _ _ _ h => h) (Or.inl ⟨by rfl, ?_⟩) hS ?_
            rotate_left
            · intro w9 hS9; obtain ⟨q1, q2, q3, q4, q5⟩ := hS9; go_simp; try with_reducible rfl
            try simp only [Act.put]
            try simp only [List.setIfInBounds_toArray]
            try simp only [List.set_cons_zero]
            try simp only [List.set_cons_succ, List.set_cons_zero]
            refine wpAnyH_take (i := 7) (oi := { dst := some 122, op := Op.pick (Operand.tmp 118) (Operand.const (Value.bool true)) (Operand.tmp 121), type := 4, pos := "law.go:129", after := #[{ on := 3, ground := Ground.data }, { on := 6, ground := Ground.data }], guard := none }) (v := ?_) rfl (by kernel_rfl) (by kernel_rfl) (by kernel_rfl) (fun _ _ _ h => h) (Or.inl ⟨by rfl, ?_⟩) hS ?_
            rotate_left
            · intro w9 hS9; obtain ⟨q1, q2, q3, q4, q5⟩ := hS9; go_simp; try with_reducible rfl
            try simp only [Act.put]
            try simp only [List.setIfInBounds_toArray]
            try simp only [List.set_cons_zero]
            try simp only [List.set_cons_succ, List.set_cons_zero]
            refine wpAnyH_take (i := 8) (oi := { dst := some 123, op := Op.move (Operand.tmp 122), type := 4, pos := "law.go:129", after := #[{ on := 7, ground := Ground.data }, { on := 3, ground := Ground.chain }], guard := none }) (v := ?_) rfl (by kernel_rfl) (by kernel_rfl) (by kernel_rfl) (fun _ _ _ h => h) (Or.inl ⟨by rfl, ?_⟩) hS ?_
            rotate_left
            · intro w9 hS9; obtain ⟨q1, q2, q3, q4, q5⟩ := hS9; go_simp; try with_reducible rfl
            try simp only [Act.put]
            try simp only [List.setIfInBounds_toArray]
            try simp only [List.set_cons_zero]
            try simp only [List.set_cons_succ, List.set_cons_zero]
            refine wpAnyH_take (i := 9) (oi := { dst := some 124, op := Op.move (Operand.tmp 15), type := 4, pos := "law.go:129", after := #[{ on := 8, ground := Ground.guard }], guard := some (8, false) }) (v := ?_) rfl (by kernel_rfl) (by kernel_rfl) (by kernel_rfl) (fun _ _ _ h => h) (Or.inl ⟨by rfl, ?_⟩) hS ?_
            rotate_left
            · intro w9 hS9; obtain ⟨q1, q2, q3, q4, q5⟩ := hS9; go_simp; try with_reducible rfl
            try simp only [Act.put]
            try simp only [List.setIfInBounds_toArray]
            try simp only [List.set_cons_zero]
            try simp only [List.set_cons_succ, List.set_cons_zero]
            refine wpAnyH_take (i := 10) (oi := { dst := some 125, op := Op.move (Operand.tmp 17), type := 4, pos := "law.go:129", after := #[{ on := 8, ground := Ground.guard }], guard := some (8, false) }) (v := ?_) rfl (by kernel_rfl) (by kernel_rfl) (by kernel_rfl) (fun _ _ _ h => h) (Or.inl ⟨by rfl, ?_⟩) hS ?_
            rotate_left
            · intro w9 hS9; obtain ⟨q1, q2, q3, q4, q5⟩ := hS9; go_simp; try with_reducible rfl
            try simp only [Act.put]
            try simp only [List.setIfInBounds_toArray]
            try simp only [List.set_cons_zero]
            try simp only [List.set_cons_succ, List.set_cons_zero]
            refine wpAnyH_take (i := 11) (oi := { dst := some 126, op := Op.binOp BinOp.neq 4 (Operand.tmp 124) (Operand.tmp 125) 4, type := 4, pos := "law.go:129", after := #[{ on := 9, ground := Ground.data }, { on := 10, ground := Ground.data }, { on := 8, ground := Ground.guard }], guard := some (8, false) }) (v := ?_) rfl (by kernel_rfl) (by kernel_rfl) (by kernel_rfl) (fun _ _ _ h => h) (Or.inl ⟨by rfl, ?_⟩) hS ?_
            rotate_left
            · intro w9 hS9; obtain ⟨q1, q2, q3, q4, q5⟩ := hS9; go_simp; try with_reducible rfl
            try simp only [Act.put]
            try simp only [List.setIfInBounds_toArray]
            try simp only [List.set_cons_zero]
            try simp only [List.set_cons_succ, List.set_cons_zero]
            refine wpAnyH_take (i := 12) (oi := { dst := some 127, op := Op.pick (Operand.tmp 123) (Operand.const (Value.bool true)) (Operand.tmp 126), type := 4, pos := "law.go:129", after := #[{ on := 8, ground := Ground.data }, { on := 11, ground := Ground.data }], guard := none }) (v := ?_) rfl (by kernel_rfl) (by kernel_rfl) (by kernel_rfl) (fun _ _ _ h => h) (Or.inl ⟨by rfl, ?_⟩) hS ?_
            rotate_left
            · intro w9 hS9; obtain ⟨q1, q2, q3, q4, q5⟩ := hS9; go_simp; try with_reducible rfl
            try simp only [Act.put]
            try simp only [List.setIfInBounds_toArray]
            try simp only [List.set_cons_zero]
            try simp only [List.set_cons_succ, List.set_cons_zero]
            refine wpAnyH_take (i := 13) (oi := { dst := some 128, op := Op.move (Operand.tmp 127), type := 4, pos := "law.go:129", after := #[{ on := 12, ground := Ground.data }, { on := 8, ground := Ground.chain }], guard := none }) (v := ?_) rfl (by kernel_rfl) (by kernel_rfl) (by kernel_rfl) (fun _ _ _ h => h) (Or.inl ⟨by rfl, ?_⟩) hS ?_
            rotate_left
            · intro w9 hS9; obtain ⟨q1, q2, q3, q4, q5⟩ := hS9; go_simp; try with_reducible rfl
            try simp only [Act.put]
            try simp only [List.setIfInBounds_toArray]
            try simp only [List.set_cons_zero]
            try simp only [List.set_cons_succ, List.set_cons_zero]
            refine wpAnyH_take (i := 14) (oi := { dst := some 129, op := Op.move (Operand.tmp 5), type := 62, pos := "law.go:129", after := #[{ on := 13, ground := Ground.guard }], guard := some (13, false) }) (v := ?_) rfl (by kernel_rfl) (by kernel_rfl) (by kernel_rfl) (fun _ _ _ h => h) (Or.inl ⟨by rfl, ?_⟩) hS ?_
            rotate_left
            · intro w9 hS9; obtain ⟨q1, q2, q3, q4, q5⟩ := hS9; go_simp; try with_reducible rfl
            try simp only [Act.put]
            try simp only [List.setIfInBounds_toArray]
            try simp only [List.set_cons_zero]
            try simp only [List.set_cons_succ, List.set_cons_zero]
            refine wpAnyH_take (i := 15) (oi := { dst := some 130, op := Op.load 27 (Operand.tmp 10), type := 27, pos := "law.go:129", after := #[{ on := 13, ground := Ground.guard }], guard := some (13, false) }) (v := ?_) rfl (by kernel_rfl) (by kernel_rfl) (by kernel_rfl) (fun _ _ _ h => h) (Or.inl ⟨by rfl, ?_⟩) hS ?_
            rotate_left
            · intro w9 hS9; obtain ⟨q1, q2, q3, q4, q5⟩ := hS9; go_simp; try with_reducible rfl
            try simp only [Act.put]
            try simp only [List.setIfInBounds_toArray]
            try simp only [List.set_cons_zero]
            try simp only [List.set_cons_succ, List.set_cons_zero]
            refine wpAnyH_take (i := 16) (oi := { dst := some 131, op := Op.fieldAddr 71 (Operand.tmp 9) 3, type := 0, pos := "law.go:129", after := #[{ on := 13, ground := Ground.guard }], guard := some (13, false) }) (v := ?_) rfl (by kernel_rfl) (by kernel_rfl) (by kernel_rfl) (fun _ _ _ h => h) (Or.inl ⟨by rfl, ?_⟩) hS ?_
            rotate_left
            · intro w9 hS9; obtain ⟨q1, q2, q3, q4, q5⟩ := hS9; go_simp; try with_reducible rfl
            try simp only [Act.put]
            try simp only [List.setIfInBounds_toArray]
            try simp only [List.set_cons_zero]
            try simp only [List.set_cons_succ, List.set_cons_zero]
            refine wpAnyH_take (i := 17) (oi := { dst := some 132, op := Op.load 67 (Operand.tmp 131), type := 67, pos := "law.go:129", after := #[{ on := 16, ground := Ground.data }, { on := 13, ground := Ground.guard }], guard := some (13, false) }) (v := ?_) rfl (by kernel_rfl) (by kernel_rfl) (by kernel_rfl) (fun _ _ _ h => h) (Or.inl ⟨by rfl, ?_⟩) hS ?_
            rotate_left
            · intro w9 hS9; obtain ⟨q1, q2, q3, q4, q5⟩ := hS9; go_simp; try with_reducible rfl
            try simp only [Act.put]
            try simp only [List.setIfInBounds_toArray]
            try simp only [List.set_cons_zero]
            try simp only [List.set_cons_succ, List.set_cons_zero]
            refine wpAnyH_take (i := 19) (oi := { dst := some 134, op := Op.fieldAddr 60 (Operand.tmp 2) 0, type := 0, pos := "law.go:129", after := #[{ on := 13, ground := Ground.guard }], guard := some (13, false) }) (v := ?_) rfl (by kernel_rfl) (by kernel_rfl) (by kernel_rfl) (fun _ _ _ h => h) (Or.inl ⟨by rfl, ?_⟩) hS ?_
            rotate_left
            · intro w9 hS9; obtain ⟨q1, q2, q3, q4, q5⟩ := hS9; go_simp; try with_reducible rfl
            try simp only [Act.put]
            try simp only [List.setIfInBounds_toArray]
            try simp only [List.set_cons_zero]
            try simp only [List.set_cons_succ, List.set_cons_zero]
            refine wpAnyH_take (i := 20) (oi := { dst := some 135, op := Op.load 22 (Operand.tmp 134), type := 22, pos := "law.go:129", after := #[{ on := 19, ground := Ground.data }, { on := 13, ground := Ground.guard }], guard := some (13, false) }) (v := ?_) rfl (by kernel_rfl) (by kernel_rfl) (by kernel_rfl) (fun _ _ _ h => h) (Or.inl ⟨by rfl, ?_⟩) hS ?_
            rotate_left
            · intro w9 hS9; obtain ⟨q1, q2, q3, q4, q5⟩ := hS9; go_simp; try with_reducible rfl
            try simp only [Act.put]
            try simp only [List.setIfInBounds_toArray]
            try simp only [List.set_cons_zero]
            try simp only [List.set_cons_succ, List.set_cons_zero]
            refine wpAnyH_take (i := 21) (oi := { dst := some 136, op := Op.fieldAddr 60 (Operand.tmp 2) 1, type := 0, pos := "law.go:129", after := #[{ on := 13, ground := Ground.guard }], guard := some (13, false) }) (v := ?_) rfl (by kernel_rfl) (by kernel_rfl) (by kernel_rfl) (fun _ _ _ h => h) (Or.inl ⟨by rfl, ?_⟩) hS ?_
            rotate_left
            · intro w9 hS9; obtain ⟨q1, q2, q3, q4, q5⟩ := hS9; go_simp; try with_reducible rfl
            try simp only [Act.put]
            try simp only [List.setIfInBounds_toArray]
            try simp only [List.set_cons_zero]
            try simp only [List.set_cons_succ, List.set_cons_zero]
            refine wpAnyH_take (i := 22) (oi := { dst := some 137, op := Op.load 58 (Operand.tmp 136), type := 58, pos := "law.go:129", after := #[{ on := 21, ground := Ground.data }, { on := 13, ground := Ground.guard }], guard := some (13, false) }) (v := ?_) rfl (by kernel_rfl) (by kernel_rfl) (by kernel_rfl) (fun _ _ _ h => h) (Or.inl ⟨by rfl, ?_⟩) hS ?_
            rotate_left
            · intro w9 hS9; obtain ⟨q1, q2, q3, q4, q5⟩ := hS9; go_simp; try with_reducible rfl
            try simp only [Act.put]
            try simp only [List.setIfInBounds_toArray]
            try simp only [List.set_cons_zero]
            try simp only [List.set_cons_succ, List.set_cons_zero]
            refine wpAnyH_take (i := 23) (oi := { dst := some 138, op := Op.load 27 (Operand.tmp 10), type := 27, pos := "law.go:129", after := #[{ on := 13, ground := Ground.guard }], guard := some (13, false) }) (v := ?_) rfl (by kernel_rfl) (by kernel_rfl) (by kernel_rfl) (fun _ _ _ h => h) (Or.inl ⟨by rfl, ?_⟩) hS ?_
            rotate_left
            · intro w9 hS9; obtain ⟨q1, q2, q3, q4, q5⟩ := hS9; go_simp; try with_reducible rfl
            try simp only [Act.put]
            try simp only [List.setIfInBounds_toArray]
            try simp only [List.set_cons_zero]
            try simp only [List.set_cons_succ, List.set_cons_zero]
            refine wpAnyH_take (i := 24) (oi := { dst := some 139, op := Op.fieldAddr 71 (Operand.tmp 9) 3, type := 0, pos := "law.go:129", after := #[{ on := 13, ground := Ground.guard }], guard := some (13, false) }) (v := ?_) rfl (by kernel_rfl) (by kernel_rfl) (by kernel_rfl) (fun _ _ _ h => h) (Or.inl ⟨by rfl, ?_⟩) hS ?_
            rotate_left
            · intro w9 hS9; obtain ⟨q1, q2, q3, q4, q5⟩ := hS9; go_simp; try with_reducible rfl
            try simp only [Act.put]
            try simp only [List.setIfInBounds_toArray]
            try simp only [List.set_cons_zero]
            try simp only [List.set_cons_succ, List.set_cons_zero]
            refine wpAnyH_take (i := 25) (oi := { dst := some 140, op := Op.load 67 (Operand.tmp 139), type := 67, pos := "law.go:129", after := #[{ on := 24, ground := Ground.data }, { on := 13, ground := Ground.guard }], guard := some (13, false) }) (v := ?_) rfl (by kernel_rfl) (by kernel_rfl) (by kernel_rfl) (fun _ _ _ h => h) (Or.inl ⟨by rfl, ?_⟩) hS ?_
            rotate_left
            · intro w9 hS9; obtain ⟨q1, q2, q3, q4, q5⟩ := hS9; go_simp; try with_reducible rfl
            try simp only [Act.put]
            try simp only [List.setIfInBounds_toArray]
            try simp only [List.set_cons_zero]
            try simp only [List.set_cons_succ, List.set_cons_zero]
            refine wpAnyH_ready (rs := [18]) (by kernel_rfl) (by simp) ?_
            refine AllReadyH.cons (o := { dst := some 133, op := Op.call { callee := Callee.value (Operand.func 37), args := #[Operand.tmp 129, Operand.tmp 130, Operand.tmp 132], argTypes := #[62, 27, 67] }, type := 4, pos := "law.go:129", after := #[{ on := 14, ground := Ground.data }, { on := 15, ground := Ground.data }, { on := 17, ground := Ground.data }, { on := 13, ground := Ground.chain }, { on := 13, ground := Ground.guard }], guard := some (13, false) }) rfl (fun K9 hK9 => ?_) AllReadyH.nil
            go_simp
            refine (HHB.out _ hT_0).mono ?_
            rintro e v1 ⟨rfl, h1⟩
            have hT_1 := hT_0.trans (h1.mono hT_0.size)
            have hS_1 := HSK.out _ hT_1
            refine hK9.out _ _ hS_1 (fun hS => ?_)
            clear hK9 K9
            try simp only [Act.put]
            try simp only [List.setIfInBounds_toArray]
            try simp only [List.set_cons_zero]
            try simp only [List.set_cons_succ, List.set_cons_zero]
            refine wpAnyH_ready (rs := [26]) (by kernel_rfl) (by simp) ?_
            refine AllReadyH.cons (o := { dst := some 141, op := Op.call { callee := Callee.value (Operand.func 38), args := #[Operand.tmp 135, Operand.tmp 137, Operand.tmp 138, Operand.tmp 140], argTypes := #[22, 58, 27, 67] }, type := 4, pos := "law.go:129", after := #[{ on := 20, ground := Ground.data }, { on := 22, ground := Ground.data }, { on := 23, ground := Ground.data }, { on := 25, ground := Ground.data }, { on := 18, ground := Ground.chain }, { on := 13, ground := Ground.guard }], guard := some (13, false) }) rfl (fun K9 hK9 => ?_) AllReadyH.nil
            go_simp
            refine (HHD.out _ hT_1).mono ?_
            rintro e v2 ⟨rfl, h2⟩
            have hT_2 := hT_1.trans (h2.mono hT_1.size)
            have hS_2 := HSK.out _ hT_2
            refine hK9.out _ _ hS_2 (fun hS => ?_)
            clear hK9 K9
            try simp only [Act.put]
            try simp only [List.setIfInBounds_toArray]
            try simp only [List.set_cons_zero]
            try simp only [List.set_cons_succ, List.set_cons_zero]
            refine wpAnyH_take (i := 27) (oi := { dst := some 142, op := Op.binOp BinOp.neq 4 (Operand.tmp 133) (Operand.tmp 141) 4, type := 4, pos := "law.go:129", after := #[{ on := 18, ground := Ground.data }, { on := 26, ground := Ground.data }, { on := 13, ground := Ground.guard }], guard := some (13, false) }) (v := ?_) rfl (by kernel_rfl) (by kernel_rfl) (by kernel_rfl) (fun _ _ _ h => h) (Or.inl ⟨by rfl, ?_⟩) hS ?_
            rotate_left
            · intro w9 hS9; obtain ⟨q1, q2, q3, q4, q5⟩ := hS9; go_simp; try with_reducible rfl
            try simp only [Act.put]
            try simp only [List.setIfInBounds_toArray]
            try simp only [List.set_cons_zero]
            try simp only [List.set_cons_succ, List.set_cons_zero]
            refine wpAnyH_take (i := 28) (oi := { dst := some 143, op := Op.pick (Operand.tmp 128) (Operand.const (Value.bool true)) (Operand.tmp 142), type := 4, pos := "law.go:129", after := #[{ on := 13, ground := Ground.data }, { on := 27, ground := Ground.data }], guard := none }) (v := ?_) rfl (by kernel_rfl) (by kernel_rfl) (by kernel_rfl) (fun _ _ _ h => h) (Or.inl ⟨by rfl, ?_⟩) hS ?_
            rotate_left
            · intro w9 hS9; obtain ⟨q1, q2, q3, q4, q5⟩ := hS9; go_simp; try with_reducible rfl
            try simp only [Act.put]
            try simp only [List.setIfInBounds_toArray]
            try simp only [List.set_cons_zero]
            try simp only [List.set_cons_succ, List.set_cons_zero]
            refine wpAnyH_take (i := 29) (oi := { dst := some 144, op := Op.move (Operand.tmp 143), type := 4, pos := "law.go:129", after := #[{ on := 28, ground := Ground.data }, { on := 26, ground := Ground.chain }], guard := none }) (v := ?_) rfl (by kernel_rfl) (by kernel_rfl) (by kernel_rfl) (fun _ _ _ h => h) (Or.inl ⟨by rfl, ?_⟩) hS ?_
            rotate_left
            · intro w9 hS9; obtain ⟨q1, q2, q3, q4, q5⟩ := hS9; go_simp; try with_reducible rfl
            try simp only [Act.put]
            try simp only [List.setIfInBounds_toArray]
            try simp only [List.set_cons_zero]
            try simp only [List.set_cons_succ, List.set_cons_zero]
            refine wpAnyH_take (i := 30) (oi := { dst := some 145, op := Op.move (Operand.tmp 5), type := 62, pos := "law.go:129", after := #[{ on := 29, ground := Ground.guard }], guard := some (29, false) }) (v := ?_) rfl (by kernel_rfl) (by kernel_rfl) (by kernel_rfl) (fun _ _ _ h => h) (Or.inl ⟨by rfl, ?_⟩) hS ?_
            rotate_left
            · intro w9 hS9; obtain ⟨q1, q2, q3, q4, q5⟩ := hS9; go_simp; try with_reducible rfl
            try simp only [Act.put]
            try simp only [List.setIfInBounds_toArray]
            try simp only [List.set_cons_zero]
            try simp only [List.set_cons_succ, List.set_cons_zero]
            refine wpAnyH_take (i := 31) (oi := { dst := some 146, op := Op.load 27 (Operand.tmp 10), type := 27, pos := "law.go:129", after := #[{ on := 29, ground := Ground.guard }], guard := some (29, false) }) (v := ?_) rfl (by kernel_rfl) (by kernel_rfl) (by kernel_rfl) (fun _ _ _ h => h) (Or.inl ⟨by rfl, ?_⟩) hS ?_
            rotate_left
            · intro w9 hS9; obtain ⟨q1, q2, q3, q4, q5⟩ := hS9; go_simp; try with_reducible rfl
            try simp only [Act.put]
            try simp only [List.setIfInBounds_toArray]
            try simp only [List.set_cons_zero]
            try simp only [List.set_cons_succ, List.set_cons_zero]
            refine wpAnyH_take (i := 33) (oi := { dst := some 148, op := Op.move (Operand.tmp 7), type := 65, pos := "law.go:129", after := #[{ on := 29, ground := Ground.guard }], guard := some (29, false) }) (v := ?_) rfl (by kernel_rfl) (by kernel_rfl) (by kernel_rfl) (fun _ _ _ h => h) (Or.inl ⟨by rfl, ?_⟩) hS ?_
            rotate_left
            · intro w9 hS9; obtain ⟨q1, q2, q3, q4, q5⟩ := hS9; go_simp; try with_reducible rfl
            try simp only [Act.put]
            try simp only [List.setIfInBounds_toArray]
            try simp only [List.set_cons_zero]
            try simp only [List.set_cons_succ, List.set_cons_zero]
            refine wpAnyH_take (i := 34) (oi := { dst := some 149, op := Op.load 27 (Operand.tmp 10), type := 27, pos := "law.go:129", after := #[{ on := 29, ground := Ground.guard }], guard := some (29, false) }) (v := ?_) rfl (by kernel_rfl) (by kernel_rfl) (by kernel_rfl) (fun _ _ _ h => h) (Or.inl ⟨by rfl, ?_⟩) hS ?_
            rotate_left
            · intro w9 hS9; obtain ⟨q1, q2, q3, q4, q5⟩ := hS9; go_simp; try with_reducible rfl
            try simp only [Act.put]
            try simp only [List.setIfInBounds_toArray]
            try simp only [List.set_cons_zero]
            try simp only [List.set_cons_succ, List.set_cons_zero]
            refine wpAnyH_ready (rs := [32]) (by kernel_rfl) (by simp) ?_
            refine AllReadyH.cons (o := { dst := some 147, op := Op.call { callee := Callee.value (Operand.func 40), args := #[Operand.tmp 145, Operand.tmp 146], argTypes := #[62, 27] }, type := 82, pos := "law.go:129", after := #[{ on := 30, ground := Ground.data }, { on := 31, ground := Ground.data }, { on := 29, ground := Ground.chain }, { on := 29, ground := Ground.guard }], guard := some (29, false) }) rfl (fun K9 hK9 => ?_) AllReadyH.nil
            go_simp
            refine (HOB.out _ hT_2).mono ?_
            rintro e v3 ⟨Aob, cob, rfl, hLob_3, h3⟩
            have hT_3 := hT_2.trans (h3.mono hT_2.size)
            have hS_3 := HSK.out _ hT_3
            refine hK9.out _ _ hS_3 (fun hS => ?_)
            clear hK9 K9
            try simp only [Act.put]
            try simp only [List.setIfInBounds_toArray]
            try simp only [List.set_cons_zero]
            try simp only [List.set_cons_succ, List.set_cons_zero]
            refine wpAnyH_ready (rs := [35]) (by kernel_rfl) (by simp) ?_
            refine AllReadyH.cons (o := { dst := some 150, op := Op.call { callee := Callee.value (Operand.func 41), args := #[Operand.tmp 148, Operand.tmp 149], argTypes := #[65, 27] }, type := 82, pos := "law.go:129", after := #[{ on := 33, ground := Ground.data }, { on := 34, ground := Ground.data }, { on := 32, ground := Ground.chain }, { on := 29, ground := Ground.guard }], guard := some (29, false) }) rfl (fun K9 hK9 => ?_) AllReadyH.nil
            go_simp
            refine (HOD.out _ hT_3).mono ?_
            rintro e v4 ⟨Aod, cod, rfl, hLod_4, h4⟩
            have hLob_4 := (Sl.below hLob_3 h4 (Nat.le_refl _)).more (Nat.le_refl _) h4.size
            have hT_4 := hT_3.trans (h4.mono hT_3.size)
            have hS_4 := HSK.out _ hT_4
            refine hK9.out _ _ hS_4 (fun hS => ?_)
            clear hK9 K9
            try simp only [Act.put]
            try simp only [List.setIfInBounds_toArray]
            try simp only [List.set_cons_zero]
            try simp only [List.set_cons_succ, List.set_cons_zero]
            refine wpAnyH_ready (rs := [36]) (by kernel_rfl) (by simp) ?_
            refine AllReadyH.cons (o := { dst := some 151, op := Op.call { callee := Callee.value (Operand.func 39), args := #[Operand.tmp 147, Operand.tmp 150], argTypes := #[82, 82] }, type := 4, pos := "law.go:129", after := #[{ on := 32, ground := Ground.data }, { on := 35, ground := Ground.data }, { on := 35, ground := Ground.chain }, { on := 29, ground := Ground.guard }], guard := some (29, false) }) rfl (fun K9 hK9 => ?_) AllReadyH.nil
            go_simp
            refine (hsame_any (onH m' g) Aob _ cob Aod cod v4 _ _ _ _ hLob_4 hLod_4 (Nat.le_refl _) (Nat.le_refl _) HOL.out).mono ?_
            rintro e v5 ⟨rfl, h5⟩
            have hLob_5 := (Sl.below hLob_4 h5 (Nat.le_refl _)).more (Nat.le_refl _) h5.size
            have hLod_5 := (Sl.below hLod_4 h5 (Nat.le_refl _)).more (Nat.le_refl _) h5.size
            have hT_5 := hT_4.trans (h5.mono hT_4.size)
            have hS_5 := HSK.out _ hT_5
            refine hK9.out _ _ hS_5 (fun hS => ?_)
            clear hK9 K9
            try simp only [Act.put]
            try simp only [List.setIfInBounds_toArray]
            try simp only [List.set_cons_zero]
            try simp only [List.set_cons_succ, List.set_cons_zero]
            refine wpAnyH_take (i := 37) (oi := { dst := some 152, op := Op.unOp UnOp.not 4 (Operand.tmp 151), type := 4, pos := "law.go:129", after := #[{ on := 36, ground := Ground.data }, { on := 29, ground := Ground.guard }], guard := some (29, false) }) (v := ?_) rfl (by kernel_rfl) (by kernel_rfl) (by kernel_rfl) (fun _ _ _ h => h) (Or.inl ⟨by rfl, ?_⟩) hS ?_
            rotate_left
            · intro w9 hS9; obtain ⟨q1, q2, q3, q4, q5⟩ := hS9; go_simp; try with_reducible rfl
            try simp only [Act.put]
            try simp only [List.setIfInBounds_toArray]
            try simp only [List.set_cons_zero]
            try simp only [List.set_cons_succ, List.set_cons_zero]
            refine wpAnyH_take (i := 38) (oi := { dst := some 153, op := Op.pick (Operand.tmp 144) (Operand.const (Value.bool true)) (Operand.tmp 152), type := 4, pos := "law.go:129", after := #[{ on := 29, ground := Ground.data }, { on := 37, ground := Ground.data }], guard := none }) (v := ?_) rfl (by kernel_rfl) (by kernel_rfl) (by kernel_rfl) (fun _ _ _ h => h) (Or.inl ⟨by rfl, ?_⟩) hS ?_
            rotate_left
            · intro w9 hS9; obtain ⟨q1, q2, q3, q4, q5⟩ := hS9; go_simp; try with_reducible rfl
            try simp only [Act.put]
            try simp only [List.setIfInBounds_toArray]
            try simp only [List.set_cons_zero]
            try simp only [List.set_cons_succ, List.set_cons_zero]
            refine wpAnyH_take (i := 39) (oi := { dst := some 154, op := Op.move (Operand.tmp 153), type := 4, pos := "law.go:129", after := #[{ on := 38, ground := Ground.data }, { on := 36, ground := Ground.chain }], guard := none }) (v := ?_) rfl (by kernel_rfl) (by kernel_rfl) (by kernel_rfl) (fun _ _ _ h => h) (Or.inl ⟨by rfl, ?_⟩) hS ?_
            rotate_left
            · intro w9 hS9; obtain ⟨q1, q2, q3, q4, q5⟩ := hS9; go_simp; try with_reducible rfl
            try simp only [Act.put]
            try simp only [List.setIfInBounds_toArray]
            try simp only [List.set_cons_zero]
            try simp only [List.set_cons_succ, List.set_cons_zero]
            refine wpAnyH_take (i := 40) (oi := { dst := some 155, op := Op.move (Operand.tmp 5), type := 62, pos := "law.go:129", after := #[{ on := 39, ground := Ground.guard }], guard := some (39, false) }) (v := ?_) rfl (by kernel_rfl) (by kernel_rfl) (by kernel_rfl) (fun _ _ _ h => h) (Or.inl ⟨by rfl, ?_⟩) hS ?_
            rotate_left
            · intro w9 hS9; obtain ⟨q1, q2, q3, q4, q5⟩ := hS9; go_simp; try with_reducible rfl
            try simp only [Act.put]
            try simp only [List.setIfInBounds_toArray]
            try simp only [List.set_cons_zero]
            try simp only [List.set_cons_succ, List.set_cons_zero]
            refine wpAnyH_take (i := 42) (oi := { dst := some 157, op := Op.move (Operand.tmp 7), type := 65, pos := "law.go:129", after := #[{ on := 39, ground := Ground.guard }], guard := some (39, false) }) (v := ?_) rfl (by kernel_rfl) (by kernel_rfl) (by kernel_rfl) (fun _ _ _ h => h) (Or.inl ⟨by rfl, ?_⟩) hS ?_
            rotate_left
            · intro w9 hS9; obtain ⟨q1, q2, q3, q4, q5⟩ := hS9; go_simp; try with_reducible rfl
            try simp only [Act.put]
            try simp only [List.setIfInBounds_toArray]
            try simp only [List.set_cons_zero]
            try simp only [List.set_cons_succ, List.set_cons_zero]
            refine wpAnyH_ready (rs := [41]) (by kernel_rfl) (by simp) ?_
            refine AllReadyH.cons (o := { dst := some 156, op := Op.call { callee := Callee.value (Operand.func 42), args := #[Operand.tmp 155], argTypes := #[62] }, type := 48, pos := "law.go:129", after := #[{ on := 40, ground := Ground.data }, { on := 39, ground := Ground.chain }, { on := 39, ground := Ground.guard }], guard := some (39, false) }) rfl (fun K9 hK9 => ?_) AllReadyH.nil
            go_simp
            refine (HLB.out _ hT_5).mono ?_
            rintro e v6 ⟨Alb, clb, rfl, hLlb_6, h6⟩
            have hLob_6 := (Sl.below hLob_5 h6 (Nat.le_refl _)).more (Nat.le_refl _) h6.size
            have hLod_6 := (Sl.below hLod_5 h6 (Nat.le_refl _)).more (Nat.le_refl _) h6.size
            have hT_6 := hT_5.trans (h6.mono hT_5.size)
            have hS_6 := HSK.out _ hT_6
            refine hK9.out _ _ hS_6 (fun hS => ?_)
            clear hK9 K9
            try simp only [Act.put]
            try simp only [List.setIfInBounds_toArray]
            try simp only [List.set_cons_zero]
            try simp only [List.set_cons_succ, List.set_cons_zero]
            refine wpAnyH_ready (rs := [43]) (by kernel_rfl) (by simp) ?_
            refine AllReadyH.cons (o := { dst := some 158, op := Op.call { callee := Callee.value (Operand.func 43), args := #[Operand.tmp 157], argTypes := #[65] }, type := 48, pos := "law.go:129", after := #[{ on := 42, ground := Ground.data }, { on := 41, ground := Ground.chain }, { on := 39, ground := Ground.guard }], guard := some (39, false) }) rfl (fun K9 hK9 => ?_) AllReadyH.nil
            go_simp
            refine (HLD.out _ hT_6).mono ?_
            rintro e v7 ⟨Ald, cld, rfl, hLld_7, h7⟩
            have hLob_7 := (Sl.below hLob_6 h7 (Nat.le_refl _)).more (Nat.le_refl _) h7.size
            have hLod_7 := (Sl.below hLod_6 h7 (Nat.le_refl _)).more (Nat.le_refl _) h7.size
            have hLlb_7 := (Sl.below hLlb_6 h7 (Nat.le_refl _)).more (Nat.le_refl _) h7.size
            have hT_7 := hT_6.trans (h7.mono hT_6.size)
            have hS_7 := HSK.out _ hT_7
            refine hK9.out _ _ hS_7 (fun hS => ?_)
            clear hK9 K9
            try simp only [Act.put]
            try simp only [List.setIfInBounds_toArray]
            try simp only [List.set_cons_zero]
            try simp only [List.set_cons_succ, List.set_cons_zero]
            refine wpAnyH_ready (rs := [44]) (by kernel_rfl) (by simp) ?_
            refine AllReadyH.cons (o := { dst := some 159, op := Op.call { callee := Callee.value (Operand.func 22), args := #[Operand.tmp 156, Operand.tmp 158], argTypes := #[48, 48] }, type := 4, pos := "law.go:129", after := #[{ on := 41, ground := Ground.data }, { on := 43, ground := Ground.data }, { on := 43, ground := Ground.chain }, { on := 39, ground := Ground.guard }], guard := some (39, false) }) rfl (fun K9 hK9 => ?_) AllReadyH.nil
            go_simp
            refine (lawLegs_any (legsH m') Alb Ald _ clb _ cld v7 _ _ _ _ hLlb_7 hLld_7 HLL.out).mono ?_
            rintro e v8 ⟨rfl, h8⟩
            have hLob_8 := (Sl.below hLob_7 h8 (Nat.le_refl _)).more (Nat.le_refl _) h8.size
            have hLod_8 := (Sl.below hLod_7 h8 (Nat.le_refl _)).more (Nat.le_refl _) h8.size
            have hLlb_8 := (Sl.below hLlb_7 h8 (Nat.le_refl _)).more (Nat.le_refl _) h8.size
            have hLld_8 := (Sl.below hLld_7 h8 (Nat.le_refl _)).more (Nat.le_refl _) h8.size
            have hT_8 := hT_7.trans (h8.mono hT_7.size)
            have hS_8 := HSK.out _ hT_8
            refine hK9.out _ _ hS_8 (fun hS => ?_)
            clear hK9 K9
            try simp only [Act.put]
            try simp only [List.setIfInBounds_toArray]
            try simp only [List.set_cons_zero]
            try simp only [List.set_cons_succ, List.set_cons_zero]
            refine wpAnyH_take (i := 45) (oi := { dst := some 160, op := Op.unOp UnOp.not 4 (Operand.tmp 159), type := 4, pos := "law.go:129", after := #[{ on := 44, ground := Ground.data }, { on := 39, ground := Ground.guard }], guard := some (39, false) }) (v := ?_) rfl (by kernel_rfl) (by kernel_rfl) (by kernel_rfl) (fun _ _ _ h => h) (Or.inl ⟨by rfl, ?_⟩) hS ?_
            rotate_left
            · intro w9 hS9; obtain ⟨q1, q2, q3, q4, q5⟩ := hS9; go_simp; try with_reducible rfl
            try simp only [Act.put]
            try simp only [List.setIfInBounds_toArray]
            try simp only [List.set_cons_zero]
            try simp only [List.set_cons_succ, List.set_cons_zero]
            refine wpAnyH_take (i := 46) (oi := { dst := some 161, op := Op.pick (Operand.tmp 154) (Operand.const (Value.bool true)) (Operand.tmp 160), type := 4, pos := "law.go:129", after := #[{ on := 39, ground := Ground.data }, { on := 45, ground := Ground.data }], guard := none }) (v := ?_) rfl (by kernel_rfl) (by kernel_rfl) (by kernel_rfl) (fun _ _ _ h => h) (Or.inl ⟨by rfl, ?_⟩) hS ?_
            rotate_left
            · intro w9 hS9; obtain ⟨q1, q2, q3, q4, q5⟩ := hS9; go_simp; try with_reducible rfl
            try simp only [Act.put]
            try simp only [List.setIfInBounds_toArray]
            try simp only [List.set_cons_zero]
            try simp only [List.set_cons_succ, List.set_cons_zero]
            refine wpAnyH_done (by kernel_rfl) ?_ _
            go_wp2
            go_meet
            exact ⟨rfl, hT_8⟩
          case rest =>
            obtain ⟨rfl, hbc⟩ := hcut
            have HSZ := Lib.hid (HSW.out.keep hbc)
            have RSZ := Lib.hid (RSW.out.below hbc)
            have BWZ := Lib.hid (H7W.out.bw.below hbc H7W.out.bw.lt)
            have HBZ := Lib.hid (HBW.out.trans (hbc.mono zW))
            have hl9 : n5 ≤ k + 1 := by have h1 := RSW.out.1.len; have h2 := HLEN.out; omega
            have hcz := hbc.size
            clear hbc
            go_wp2
            go_roundw
            case rel => exact ⟨k + 1, _, m', A5, n5, c5, by omega, by go_num, rfl, HSZ.out, HRH2, RSZ.out, hl9, BWZ.out, HBZ.out, by have := hcz; omega⟩
            case measure => simp [intOf]; omega
        · have t0 : (a.kind == 0) = false := by simp [k0]
          have t2 : (a.kind == 2) = false := by simp [k2]
          have HYO : Hid (a.hol.ok) := HOA.out.hol
          as_aux_lemma =>
          go_upto_region 20 with fail
          obtain ⟨kk, m', o', hk1, hk2, hrh, hlen⟩ := both_free HRH.out (wrongD rl pl ⟨g, a.seat⟩) ⟨g, a.seat⟩ a.hol
          have HK1 := Lib.hid hk1
          have HK2 := Lib.hid hk2
          have HRH2 := Lib.hid hrh
          have HLEN := Lib.hid hlen
          clear hk1 hk2 hrh hlen
          go_wp2_with fail
          refine (rfreeH_any rl A n c pl A2 n2 c2 m A9 n9 c9 g a.seat a.hol WC 0 w.heap.size w2.heap.size (HFS.out.below HBC.out (Nat.le_refl _)) (HPS.out.below HBC.out (Nat.le_refl _)) (by omega) zC HDD.out HRR.out RSC.out (by omega) (by omega) HG.out HOA.out.seat HYO.out rfl).mono ?_
          rintro e w5 ⟨A5, n5, c5, rfl, hrs5, h5⟩
          rw [HK1.out] at hrs5 ⊢
          dsimp only at hrs5 ⊢
          have RSD := Lib.hid hrs5
          clear cc1 cc2 cc3 cc4
          have HSD := Lib.hid (HSC.out.keep h5)
          have H7D := Lib.hid (H7C.out.below h5)
          have HBD := Lib.hid (HBC.out.trans (h5.mono zC))
          have zD := HBD.out.size
          have zzD := h5.size
          clear h5 HSC H7C HBC 
          clear hrs5 RSC
          have cc1 := H7D.out.bw.cells
          have cc2 := H7D.out.ba.cells
          have cc3 := H7D.out.bx.cells
          have cc4 := H7D.out.bh.cells
          go_wp2_with fail
          refine (free_any HSD.out HR.out g a.seat a.hol HG.out HOA.out.seat HYO.out).mono ?_
          rintro e w6 ⟨rfl, hS6, hK6⟩
          rw [wrongB_D HTB.out HKS.out, HK2.out] at hS6 ⊢
          dsimp only at hS6 ⊢
          have HSE := Lib.hid hS6
          have H7E := Lib.hid (H7D.out.kb hK6 (by omega) (by omega) (by omega) (by omega))
          have HBE := Lib.hid (hK6.below HBD.out (by omega) zD)
          have zE := HBE.out.size
          have zzE := hK6.size
          have RSE := Lib.hid (RSD.out.kb hK6 (by omega))
          clear hS6 hK6 HSD H7D HBD RSD
          clear cc1 cc2 cc3 cc4
          -- from region 22 on: state E; slots: rows, e, code
          obtain ⟨yn, bn, hyn1, hyn2⟩ : ∃ (h : Hol) (bb : Bool), ((updH q ⟨g, a.seat⟩ o') ⟨g, a.seat⟩).getD hol0 = h ∧ ((updH q ⟨g, a.seat⟩ o') ⟨g, a.seat⟩).isSome = bb := ⟨_, _, rfl, rfl⟩
          have hwho := who_any HSE.out g a.seat HG.out HOA.out.seat
          rw [hyn1, hyn2] at hwho
          unfold holV at hwho
          have HWHO := Lib.hid hwho
          have HYN1 := Lib.hid hyn1
          have HYN2 := Lib.hid hyn2
          clear hwho hyn1 hyn2
          have cc1 := H7E.out.bw.cells
          have cc2 := H7E.out.ba.cells
          have cc3 := H7E.out.bx.cells
          have cc4 := H7E.out.bh.cells
          go_wp2_with fail
          refine HWHO.out.mono ?_
          rintro e w7 ⟨rfl, h7⟩
          clear cc1 cc2 cc3 cc4
          have HSF := Lib.hid (HSE.out.keep h7)
          have H7F := Lib.hid (H7E.out.below h7)
          have HBF := Lib.hid (HBE.out.trans (h7.mono zE))
          have zF := HBF.out.size
          have zzF := h7.size
          have RSF := Lib.hid (RSE.out.below h7)
          clear h7 HSE H7E HBE RSE
          clear HWHO
          go_upto_region 23 with fail
          refine wp_world (fun V7 => ∃ k14, (k14 = w7.heap.size ∧ Bx V7 k14 #[.string yn.loc, .int .i64 yn.pax] 69) ∧ Below w7.heap.size w7 V7) ⟨_, ⟨rfl, Bx.new _ _ _⟩, (Below.refl _ _).alloc (Nat.le_refl _) _⟩ ?_
          rintro V7 ⟨k14, ⟨hk14, b14⟩, h8⟩
          try rw [← hk14]
          have HSG := Lib.hid (HSF.out.keep h8)
          have H7G := Lib.hid (H7F.out.below h8)
          have HBG := Lib.hid (HBF.out.trans (h8.mono zF))
          have zG := HBG.out.size
          have zzG := h8.size
          have RSG := Lib.hid (RSF.out.below h8)
          clear h8 HSF H7F HBF RSF
          have B14 := Lib.hid b14
          clear b14 hk14
          have cc1 := H7G.out.bw.cells
          have cc2 := H7G.out.ba.cells
          have cc3 := H7G.out.bx.cells
          have cc4 := H7G.out.bh.cells
          have hn5 : n5 ≤ 101 := by have h1 := RSG.out.1.len; have h2 := HLEN.out; have h3 := HN9.out; omega
          have hdw := rwho_any m' A5 n5 c5 g a.seat V7 w2.heap.size V7.heap.size RSG.out.1 (by omega) (Nat.le_refl _) (HRH2.out.who ⟨g, a.seat⟩)
          rw [HYN1.out, HYN2.out] at hdw
          have HDW := Lib.hid hdw
          clear hdw
          go_wp2_with fail
          refine HDW.out.mono ?_
          rintro e w8 ⟨rfl, h9⟩
          clear cc1 cc2 cc3 cc4
          have B149 := Lib.hid (B14.out.below h9 B14.out.lt)
          have HSH_ := Lib.hid (HSG.out.keep h9)
          have H7H_ := Lib.hid (H7G.out.below h9)
          have HBH_ := Lib.hid (HBG.out.trans (h9.mono zG))
          have zH_ := HBH_.out.size
          have zzH_ := h9.size
          have RSH_ := Lib.hid (RSG.out.below h9)
          clear h9 HSG H7G HBG RSG
          clear HDW B14
          go_upto_region 24 with fail
          refine wp_world (fun V8 => ∃ k16, (k16 = w8.heap.size ∧ Bx V8 k16 #[.string yn.loc, .int .i64 yn.pax] 69) ∧ Below w8.heap.size w8 V8) ⟨_, ⟨rfl, Bx.new _ _ _⟩, (Below.refl _ _).alloc (Nat.le_refl _) _⟩ ?_
          rintro WH ⟨k16, ⟨hk16, b16⟩, h10⟩
          try rw [← hk16]
          have B14W := Lib.hid (B149.out.below h10 B149.out.lt)
          have B16W := Lib.hid b16
          have HSW := Lib.hid (HSH_.out.keep h10)
          have H7W := Lib.hid (H7H_.out.below h10)
          have HBW := Lib.hid (HBH_.out.trans (h10.mono zH_))
          have zW := HBW.out.size
          have zzW := h10.size
          have RSW := Lib.hid (RSH_.out.below h10)
          clear h10 HSH_ H7H_ HBH_ RSH_
          clear b16 hk16 B149
          have hne := fun u => neq_hol yn.loc yn.loc yn.pax yn.pax u
          rw [decide_eq_true (rfl : (⟨yn.loc, yn.pax⟩ : Hol) = ⟨yn.loc, yn.pax⟩)] at hne
          have tk : (kk != kk) = false := by simp
          have tb : (bn != bn) = false := by simp
          obtain ⟨hh, hhe⟩ : ∃ hh, hasB rs ps ⟨g, a.seat⟩ = hh := ⟨_, rfl⟩
          have hhd : hasD rl pl ⟨g, a.seat⟩ = hh := (hasB_D HTB.out HKS.out _).symm.trans hhe
          have th : (hh != hh) = false := by simp
          have HHB := Lib.hid (fun (V : World) (hV : Below WH.heap.size WH V) => hhas_any (HSW.out.keep hV) HR.out g a.seat HG.out HOA.out.seat hhe)
          have HHD := Lib.hid (fun (V : World) (hV : Below WH.heap.size WH V) => rhasD_any rl A n c pl A2 n2 c2 g a.seat V 0 w.heap.size (HFS.out.below (HBW.out.trans (hV.mono zW)) (Nat.le_refl _)) (HPS.out.below (HBW.out.trans (hV.mono zW)) (Nat.le_refl _)) (by omega) (Nat.le_trans zW hV.size) HDD.out HRR.out hhd)
          have hml : m'.length = n5 := RSW.out.1.len
          have HOB := Lib.hid (fun (V : World) (hV : Below WH.heap.size WH V) => onB_is (HSW.out.keep hV) g HRH2.out (by omega))
          have HOD := Lib.hid (fun (V : World) (hV : Below WH.heap.size WH V) => (ron_any m' A5 n5 c5 g V w2.heap.size V.heap.size (RSW.out.below hV).1 (by omega) (Nat.le_refl _)).mono fun e w' h => RetSl.of_own h)
          have HLB := Lib.hid (fun (V : World) (hV : Below WH.heap.size WH V) => legsB_is (HSW.out.keep hV) HRH2.out (by omega))
          have HLD := Lib.hid (fun (V : World) (hV : Below WH.heap.size WH V) => (rlegsH_any m' A5 n5 c5 V w2.heap.size V.heap.size (RSW.out.below hV).1 (by omega) (Nat.le_refl _)).mono fun e w' h => RetSl.of_own h)
          have HOL : Hid ((onH m' g).length ≤ 100000) := by
            have h1 : (onH m' g).length ≤ 0 + m'.length := onH_len g m' []
            show _ ≤ _
            omega
          have HLL : Hid ((legsH m').length ≤ 100000) := by
            have h1 : (legsH m').length ≤ 0 + m'.length := legsH_len m' []
            show _ ≤ _
            omega
          have HSK := Lib.hid (fun (V : World) (hV : Below WH.heap.size WH V) => (⟨(H7W.out.bw.below hV H7W.out.bw.lt).cells, (H7W.out.ba.below hV H7W.out.ba.lt).cells, (H7W.out.bx.below hV H7W.out.bx.lt).cells, (B14W.out.below hV B14W.out.lt).cells, (B16W.out.below hV B16W.out.lt).cells⟩ : (∀ i : Nat, V.cell? ⟨w.heap.size, i, none⟩ = (#[.slice A n c, .slice A2 n2 c2] : Array Value)[i]?) ∧ (∀ i : Nat, V.cell? ⟨ka, i, none⟩ = (#[.int .i64 a.kind, .int .i64 a.fl, .string a.leg.key.car, .int .i64 a.leg.key.num, .int .i64 a.leg.day, .int .i64 a.seat.row, .int .u8 a.seat.let_, .string a.hol.loc, .int .i64 a.hol.pax] : Array Value)[i]?) ∧ (∀ i : Nat, V.cell? ⟨kx, i, none⟩ = (#[.string g.key.car, .int .i64 g.key.num, .int .i64 g.day] : Array Value)[i]?) ∧ (∀ i : Nat, V.cell? ⟨k14, i, none⟩ = (#[.string yn.loc, .int .i64 yn.pax] : Array Value)[i]?) ∧ (∀ i : Nat, V.cell? ⟨k16, i, none⟩ = (#[.string yn.loc, .int .i64 yn.pax] : Array Value)[i]?)))
          have hT_0 : Below WH.heap.size WH WH.drew := (Below.refl _ _).drew
          have hn9k := HN9.out
          clear hhe hhd hml
          go_cut [161] (fun u w' => u = .bool false ∧ Below WH.heap.size WH w')
          case first =>
           as_aux_lemma =>
            refine wp_region_held_drew (S := fun w' => (∀ i : Nat, w'.cell? ⟨w.heap.size, i, none⟩ = (#[.slice A n c, .slice A2 n2 c2] : Array Value)[i]?) ∧ (∀ i : Nat, w'.cell? ⟨ka, i, none⟩ = (#[.int .i64 a.kind, .int .i64 a.fl, .string a.leg.key.car, .int .i64 a.leg.key.num, .int .i64 a.leg.day, .int .i64 a.seat.row, .int .u8 a.seat.let_, .string a.hol.loc, .int .i64 a.hol.pax] : Array Value)[i]?) ∧ (∀ i : Nat, w'.cell? ⟨kx, i, none⟩ = (#[.string g.key.car, .int .i64 g.key.num, .int .i64 g.day] : Array Value)[i]?) ∧ (∀ i : Nat, w'.cell? ⟨k14, i, none⟩ = (#[.string yn.loc, .int .i64 yn.pax] : Array Value)[i]?) ∧ (∀ i : Nat, w'.cell? ⟨k16, i, none⟩ = (#[.string yn.loc, .int .i64 yn.pax] : Array Value)[i]?)) (by kernel_rfl) (HSK.out _ hT_0) (fun hS => ?_)
            refine wpAnyH_take (i := 0) (oi := { dst := some 115, op := Op.move (Operand.tmp 12), type := 34, pos := "law.go:129", after := #[], guard := none }) (v := ?_) rfl (by kernel_rfl) (by kernel_rfl) (by kernel_rfl) (fun _ _ _ h => h) (Or.inl ⟨by rfl, ?_⟩) hS ?_
            rotate_left
            · intro w9 hS9; obtain ⟨q1, q2, q3, q4, q5⟩ := hS9; go_simp; try with_reducible rfl
            try simp only [Act.put]
            try simp only [List.setIfInBounds_toArray]
            try simp only [List.set_cons_zero]
            try simp only [List.set_cons_succ, List.set_cons_zero]
            refine wpAnyH_take (i := 1) (oi := { dst := some 116, op := Op.move (Operand.tmp 13), type := 3, pos := "law.go:129", after := #[], guard := none }) (v := ?_) rfl (by kernel_rfl) (by kernel_rfl) (by kernel_rfl) (fun _ _ _ h => h) (Or.inl ⟨by rfl, ?_⟩) hS ?_
            rotate_left
            · intro w9 hS9; obtain ⟨q1, q2, q3, q4, q5⟩ := hS9; go_simp; try with_reducible rfl
            try simp only [Act.put]
            try simp only [List.setIfInBounds_toArray]
            try simp only [List.set_cons_zero]
            try simp only [List.set_cons_succ, List.set_cons_zero]
            refine wpAnyH_take (i := 2) (oi := { dst := some 117, op := Op.binOp BinOp.neq 3 (Operand.tmp 115) (Operand.tmp 116) 3, type := 4, pos := "law.go:129", after := #[{ on := 0, ground := Ground.data }, { on := 1, ground := Ground.data }], guard := none }) (v := ?_) rfl (by kernel_rfl) (by kernel_rfl) (by kernel_rfl) (fun _ _ _ h => h) (Or.inl ⟨by rfl, ?_⟩) hS ?_
            rotate_left
            · intro w9 hS9; obtain ⟨q1, q2, q3, q4, q5⟩ := hS9; go_simp; try with_reducible rfl
            try simp only [Act.put]
            try simp only [List.setIfInBounds_toArray]
            try simp only [List.set_cons_zero]
            try simp only [List.set_cons_succ, List.set_cons_zero]
            refine wpAnyH_take (i := 3) (oi := { dst := some 118, op := Op.move (Operand.tmp 117), type := 4, pos := "law.go:129", after := #[{ on := 2, ground := Ground.data }], guard := none }) (v := ?_) rfl (by kernel_rfl) (by kernel_rfl) (by kernel_rfl) (fun _ _ _ h => h) (Or.inl ⟨by rfl, ?_⟩) hS ?_
            rotate_left
            · intro w9 hS9; obtain ⟨q1, q2, q3, q4, q5⟩ := hS9; go_simp; try with_reducible rfl
            try simp only [Act.put]
            try simp only [List.setIfInBounds_toArray]
            try simp only [List.set_cons_zero]
            try simp only [List.set_cons_succ, List.set_cons_zero]
            refine wpAnyH_take (i := 4) (oi := { dst := some 119, op := Op.load 69 (Operand.tmp 14), type := 69, pos := "law.go:129", after := #[{ on := 3, ground := Ground.guard }], guard := some (3, false) }) (v := ?_) rfl (by kernel_rfl) (by kernel_rfl) (by kernel_rfl) (fun _ _ _ h => h) (Or.inl ⟨by rfl, ?_⟩) hS ?_
            rotate_left
            · intro w9 hS9; obtain ⟨q1, q2, q3, q4, q5⟩ := hS9; go_simp; try with_reducible rfl
            try simp only [Act.put]
            try simp only [List.setIfInBounds_toArray]
            try simp only [List.set_cons_zero]
            try simp only [List.set_cons_succ, List.set_cons_zero]
            refine wpAnyH_take (i := 5) (oi := { dst := some 120, op := Op.load 69 (Operand.tmp 16), type := 69, pos := "law.go:129", after := #[{ on := 3, ground := Ground.guard }], guard := some (3, false) }) (v := ?_) rfl (by kernel_rfl) (by kernel_rfl) (by kernel_rfl) (fun _ _ _ h => h) (Or.inl ⟨by rfl, ?_⟩) hS ?_
            rotate_left
            · intro w9 hS9; obtain ⟨q1, q2, q3, q4, q5⟩ := hS9; go_simp; try with_reducible rfl
            try simp only [Act.put]
            try simp only [List.setIfInBounds_toArray]
            try simp only [List.set_cons_zero]
            try simp only [List.set_cons_succ, List.set_cons_zero]
            refine wpAnyH_take (i := 6) (oi := { dst := some 121, op := Op.binOp BinOp.neq 69 (Operand.tmp 119) (Operand.tmp 120) 69, type := 4, pos := "law.go:129", after := #[{ on := 4, ground := Ground.data }, { on := 5, ground := Ground.data }, { on := 3, ground := Ground.guard }], guard := some (3, false) }) (v := ?_) rfl (by kernel_rfl) (by kernel_rfl) (by kernel_rfl) (fun _ _ _ h => h) (Or.inl ⟨by rfl, ?_⟩) hS ?_
            rotate_left
            · intro w9 hS9; obtain ⟨q1, q2, q3, q4, q5⟩ := hS9; go_simp; try with_reducible rfl
            try simp only [Act.put]
            try simp only [List.setIfInBounds_toArray]
            try simp only [List.set_cons_zero]
            try simp only [List.set_cons_succ, List.set_cons_zero]
            refine wpAnyH_take (i := 7) (oi := { dst := some 122, op := Op.pick (Operand.tmp 118) (Operand.const (Value.bool true)) (Operand.tmp 121), type := 4, pos := "law.go:129", after := #[{ on := 3, ground := Ground.data }, { on := 6, ground := Ground.data }], guard := none }) (v := ?_) rfl (by kernel_rfl) (by kernel_rfl) (by kernel_rfl) (fun _ _ _ h => h) (Or.inl ⟨by rfl, ?_⟩) hS ?_
            rotate_left
            · intro w9 hS9; obtain ⟨q1, q2, q3, q4, q5⟩ := hS9; go_simp; try with_reducible rfl
            try simp only [Act.put]
            try simp only [List.setIfInBounds_toArray]
            try simp only [List.set_cons_zero]
            try simp only [List.set_cons_succ, List.set_cons_zero]
            refine wpAnyH_take (i := 8) (oi := { dst := some 123, op := Op.move (Operand.tmp 122), type := 4, pos := "law.go:129", after := #[{ on := 7, ground := Ground.data }, { on := 3, ground := Ground.chain }], guard := none }) (v := ?_) rfl (by kernel_rfl) (by kernel_rfl) (by kernel_rfl) (fun _ _ _ h => h) (Or.inl ⟨by rfl, ?_⟩) hS ?_
            rotate_left
            · intro w9 hS9; obtain ⟨q1, q2, q3, q4, q5⟩ := hS9; go_simp; try with_reducible rfl
            try simp only [Act.put]
            try simp only [List.setIfInBounds_toArray]
            try simp only [List.set_cons_zero]
            try simp only [List.set_cons_succ, List.set_cons_zero]
            refine wpAnyH_take (i := 9) (oi := { dst := some 124, op := Op.move (Operand.tmp 15), type := 4, pos := "law.go:129", after := #[{ on := 8, ground := Ground.guard }], guard := some (8, false) }) (v := ?_) rfl (by kernel_rfl) (by kernel_rfl) (by kernel_rfl) (fun _ _ _ h => h) (Or.inl ⟨by rfl, ?_⟩) hS ?_
            rotate_left
            · intro w9 hS9; obtain ⟨q1, q2, q3, q4, q5⟩ := hS9; go_simp; try with_reducible rfl
            try simp only [Act.put]
            try simp only [List.setIfInBounds_toArray]
            try simp only [List.set_cons_zero]
            try simp only [List.set_cons_succ, List.set_cons_zero]
            refine wpAnyH_take (i := 10) (oi := { dst := some 125, op := Op.move (Operand.tmp 17), type := 4, pos := "law.go:129", after := #[{ on := 8, ground := Ground.guard }], guard := some (8, false) }) (v := ?_) rfl (by kernel_rfl) (by kernel_rfl) (by kernel_rfl) (fun _ _ _ h => h) (Or.inl ⟨by rfl, ?_⟩) hS ?_
            rotate_left
            · intro w9 hS9; obtain ⟨q1, q2, q3, q4, q5⟩ := hS9; go_simp; try with_reducible rfl
            try simp only [Act.put]
            try simp only [List.setIfInBounds_toArray]
            try simp only [List.set_cons_zero]
            try simp only [List.set_cons_succ, List.set_cons_zero]
            refine wpAnyH_take (i := 11) (oi := { dst := some 126, op := Op.binOp BinOp.neq 4 (Operand.tmp 124) (Operand.tmp 125) 4, type := 4, pos := "law.go:129", after := #[{ on := 9, ground := Ground.data }, { on := 10, ground := Ground.data }, { on := 8, ground := Ground.guard }], guard := some (8, false) }) (v := ?_) rfl (by kernel_rfl) (by kernel_rfl) (by kernel_rfl) (fun _ _ _ h => h) (Or.inl ⟨by rfl, ?_⟩) hS ?_
            rotate_left
            · intro w9 hS9; obtain ⟨q1, q2, q3, q4, q5⟩ := hS9; go_simp; try with_reducible rfl
            try simp only [Act.put]
            try simp only [List.setIfInBounds_toArray]
            try simp only [List.set_cons_zero]
            try simp only [List.set_cons_succ, List.set_cons_zero]
            refine wpAnyH_take (i := 12) (oi := { dst := some 127, op := Op.pick (Operand.tmp 123) (Operand.const (Value.bool true)) (Operand.tmp 126), type := 4, pos := "law.go:129", after := #[{ on := 8, ground := Ground.data }, { on := 11, ground := Ground.data }], guard := none }) (v := ?_) rfl (by kernel_rfl) (by kernel_rfl) (by kernel_rfl) (fun _ _ _ h => h) (Or.inl ⟨by rfl, ?_⟩) hS ?_
            rotate_left
            · intro w9 hS9; obtain ⟨q1, q2, q3, q4, q5⟩ := hS9; go_simp; try with_reducible rfl
            try simp only [Act.put]
            try simp only [List.setIfInBounds_toArray]
            try simp only [List.set_cons_zero]
            try simp only [List.set_cons_succ, List.set_cons_zero]
            refine wpAnyH_take (i := 13) (oi := { dst := some 128, op := Op.move (Operand.tmp 127), type := 4, pos := "law.go:129", after := #[{ on := 12, ground := Ground.data }, { on := 8, ground := Ground.chain }], guard := none }) (v := ?_) rfl (by kernel_rfl) (by kernel_rfl) (by kernel_rfl) (fun _ _ _ h => h) (Or.inl ⟨by rfl, ?_⟩) hS ?_
            rotate_left
            · intro w9 hS9; obtain ⟨q1, q2, q3, q4, q5⟩ := hS9; go_simp; try with_reducible rfl
            try simp only [Act.put]
            try simp only [List.setIfInBounds_toArray]
            try simp only [List.set_cons_zero]
            try simp only [List.set_cons_succ, List.set_cons_zero]
            refine wpAnyH_take (i := 14) (oi := { dst := some 129, op := Op.move (Operand.tmp 5), type := 62, pos := "law.go:129", after := #[{ on := 13, ground := Ground.guard }], guard := some (13, false) }) (v := ?_) rfl (by kernel_rfl) (by kernel_rfl) (by kernel_rfl) (fun _ _ _ h => h) (Or.inl ⟨by rfl, ?_⟩) hS ?_
            rotate_left
            · intro w9 hS9; obtain ⟨q1, q2, q3, q4, q5⟩ := hS9; go_simp; try with_reducible rfl
            try simp only [Act.put]
            try simp only [List.setIfInBounds_toArray]
            try simp only [List.set_cons_zero]
            try simp only [List.set_cons_succ, List.set_cons_zero]
            refine wpAnyH_take (i := 15) (oi := { dst := some 130, op := Op.load 27 (Operand.tmp 10), type := 27, pos := "law.go:129", after := #[{ on := 13, ground := Ground.guard }], guard := some (13, false) }) (v := ?_) rfl (by kernel_rfl) (by kernel_rfl) (by kernel_rfl) (fun _ _ _ h => h) (Or.inl ⟨by rfl, ?_⟩) hS ?_
            rotate_left
            · intro w9 hS9; obtain ⟨q1, q2, q3, q4, q5⟩ := hS9; go_simp; try with_reducible rfl
            try simp only [Act.put]
            try simp only [List.setIfInBounds_toArray]
            try simp only [List.set_cons_zero]
            try simp only [List.set_cons_succ, List.set_cons_zero]
            refine wpAnyH_take (i := 16) (oi := { dst := some 131, op := Op.fieldAddr 71 (Operand.tmp 9) 3, type := 0, pos := "law.go:129", after := #[{ on := 13, ground := Ground.guard }], guard := some (13, false) }) (v := ?_) rfl (by kernel_rfl) (by kernel_rfl) (by kernel_rfl) (fun _ _ _ h => h) (Or.inl ⟨by rfl, ?_⟩) hS ?_
            rotate_left
            · intro w9 hS9; obtain ⟨q1, q2, q3, q4, q5⟩ := hS9; go_simp; try with_reducible rfl
            try simp only [Act.put]
            try simp only [List.setIfInBounds_toArray]
            try simp only [List.set_cons_zero]
            try simp only [List.set_cons_succ, List.set_cons_zero]
            refine wpAnyH_take (i := 17) (oi := { dst := some 132, op := Op.load 67 (Operand.tmp 131), type := 67, pos := "law.go:129", after := #[{ on := 16, ground := Ground.data }, { on := 13, ground := Ground.guard }], guard := some (13, false) }) (v := ?_) rfl (by kernel_rfl) (by kernel_rfl) (by kernel_rfl) (fun _ _ _ h => h) (Or.inl ⟨by rfl, ?_⟩) hS ?_
            rotate_left
            · intro w9 hS9; obtain ⟨q1, q2, q3, q4, q5⟩ := hS9; go_simp; try with_reducible rfl
            try simp only [Act.put]
            try simp only [List.setIfInBounds_toArray]
            try simp only [List.set_cons_zero]
            try simp only [List.set_cons_succ, List.set_cons_zero]
            refine wpAnyH_take (i := 19) (oi := { dst := some 134, op := Op.fieldAddr 60 (Operand.tmp 2) 0, type := 0, pos := "law.go:129", after := #[{ on := 13, ground := Ground.guard }], guard := some (13, false) }) (v := ?_) rfl (by kernel_rfl) (by kernel_rfl) (by kernel_rfl) (fun _ _ _ h => h) (Or.inl ⟨by rfl, ?_⟩) hS ?_
            rotate_left
            · intro w9 hS9; obtain ⟨q1, q2, q3, q4, q5⟩ := hS9; go_simp; try with_reducible rfl
            try simp only [Act.put]
            try simp only [List.setIfInBounds_toArray]
            try simp only [List.set_cons_zero]
            try simp only [List.set_cons_succ, List.set_cons_zero]
            refine wpAnyH_take (i := 20) (oi := { dst := some 135, op := Op.load 22 (Operand.tmp 134), type := 22, pos := "law.go:129", after := #[{ on := 19, ground := Ground.data }, { on := 13, ground := Ground.guard }], guard := some (13, false) }) (v := ?_) rfl (by kernel_rfl) (by kernel_rfl) (by kernel_rfl) (fun _ _ _ h => h) (Or.inl ⟨by rfl, ?_⟩) hS ?_
            rotate_left
            · intro w9 hS9; obtain ⟨q1, q2, q3, q4, q5⟩ := hS9; go_simp; try with_reducible rfl
            try simp only [Act.put]
            try simp only [List.setIfInBounds_toArray]
            try simp only [List.set_cons_zero]
            try simp only [List.set_cons_succ, List.set_cons_zero]
            refine wpAnyH_take (i := 21) (oi := { dst := some 136, op := Op.fieldAddr 60 (Operand.tmp 2) 1, type := 0, pos := "law.go:129", after := #[{ on := 13, ground := Ground.guard }], guard := some (13, false) }) (v := ?_) rfl (by kernel_rfl) (by kernel_rfl) (by kernel_rfl) (fun _ _ _ h => h) (Or.inl ⟨by rfl, ?_⟩) hS ?_
            rotate_left
            · intro w9 hS9; obtain ⟨q1, q2, q3, q4, q5⟩ := hS9; go_simp; try with_reducible rfl
            try simp only [Act.put]
            try simp only [List.setIfInBounds_toArray]
            try simp only [List.set_cons_zero]
            try simp only [List.set_cons_succ, List.set_cons_zero]
            refine wpAnyH_take (i := 22) (oi := { dst := some 137, op := Op.load 58 (Operand.tmp 136), type := 58, pos := "law.go:129", after := #[{ on := 21, ground := Ground.data }, { on := 13, ground := Ground.guard }], guard := some (13, false) }) (v := ?_) rfl (by kernel_rfl) (by kernel_rfl) (by kernel_rfl) (fun _ _ _ h => h) (Or.inl ⟨by rfl, ?_⟩) hS ?_
            rotate_left
            · intro w9 hS9; obtain ⟨q1, q2, q3, q4, q5⟩ := hS9; go_simp; try with_reducible rfl
            try simp only [Act.put]
            try simp only [List.setIfInBounds_toArray]
            try simp only [List.set_cons_zero]
            try simp only [List.set_cons_succ, List.set_cons_zero]
            refine wpAnyH_take (i := 23) (oi := { dst := some 138, op := Op.load 27 (Operand.tmp 10), type := 27, pos := "law.go:129", after := #[{ on := 13, ground := Ground.guard }], guard := some (13, false) }) (v := ?_) rfl (by kernel_rfl) (by kernel_rfl) (by kernel_rfl) (fun _ _ _ h => h) (Or.inl ⟨by rfl, ?_⟩) hS ?_
            rotate_left
            · intro w9 hS9; obtain ⟨q1, q2, q3, q4, q5⟩ := hS9; go_simp; try with_reducible rfl
            try simp only [Act.put]
            try simp only [List.setIfInBounds_toArray]
            try simp only [List.set_cons_zero]
            try simp only [List.set_cons_succ, List.set_cons_zero]
            refine wpAnyH_take (i := 24) (oi := { dst := some 139, op := Op.fieldAddr 71 (Operand.tmp 9) 3, type := 0, pos := "law.go:129", after := #[{ on := 13, ground := Ground.guard }], guard := some (13, false) }) (v := ?_) rfl (by kernel_rfl) (by kernel_rfl) (by kernel_rfl) (fun _ _ _ h => h) (Or.inl ⟨by rfl, ?_⟩) hS ?_
            rotate_left
            · intro w9 hS9; obtain ⟨q1, q2, q3, q4, q5⟩ := hS9; go_simp; try with_reducible rfl
            try simp only [Act.put]
            try simp only [List.setIfInBounds_toArray]
            try simp only [List.set_cons_zero]
            try simp only [List.set_cons_succ, List.set_cons_zero]
            refine wpAnyH_take (i := 25) (oi := { dst := some 140, op := Op.load 67 (Operand.tmp 139), type := 67, pos := "law.go:129", after := #[{ on := 24, ground := Ground.data }, { on := 13, ground := Ground.guard }], guard := some (13, false) }) (v := ?_) rfl (by kernel_rfl) (by kernel_rfl) (by kernel_rfl) (fun _ _ _ h => h) (Or.inl ⟨by rfl, ?_⟩) hS ?_
            rotate_left
            · intro w9 hS9; obtain ⟨q1, q2, q3, q4, q5⟩ := hS9; go_simp; try with_reducible rfl
            try simp only [Act.put]
            try simp only [List.setIfInBounds_toArray]
            try simp only [List.set_cons_zero]
            try simp only [List.set_cons_succ, List.set_cons_zero]
            refine wpAnyH_ready (rs := [18]) (by kernel_rfl) (by simp) ?_
            refine AllReadyH.cons (o := { dst := some 133, op := Op.call { callee := Callee.value (Operand.func 37), args := #[Operand.tmp 129, Operand.tmp 130, Operand.tmp 132], argTypes := #[62, 27, 67] }, type := 4, pos := "law.go:129", after := #[{ on := 14, ground := Ground.data }, { on := 15, ground := Ground.data }, { on := 17, ground := Ground.data }, { on := 13, ground := Ground.chain }, { on := 13, ground := Ground.guard }], guard := some (13, false) }) rfl (fun K9 hK9 => ?_) AllReadyH.nil
            go_simp
            refine (HHB.out _ hT_0).mono ?_
            rintro e v1 ⟨rfl, h1⟩
            have hT_1 := hT_0.trans (h1.mono hT_0.size)
            have hS_1 := HSK.out _ hT_1
            refine hK9.out _ _ hS_1 (fun hS => ?_)
            clear hK9 K9
            try simp only [Act.put]
            try simp only [List.setIfInBounds_toArray]
            try simp only [List.set_cons_zero]
            try simp only [List.set_cons_succ, List.set_cons_zero]
            refine wpAnyH_ready (rs := [26]) (by kernel_rfl) (by simp) ?_
            refine AllReadyH.cons (o := { dst := some 141, op := Op.call { callee := Callee.value (Operand.func 38), args := #[Operand.tmp 135, Operand.tmp 137, Operand.tmp 138, Operand.tmp 140], argTypes := #[22, 58, 27, 67] }, type := 4, pos := "law.go:129", after := #[{ on := 20, ground := Ground.data }, { on := 22, ground := Ground.data }, { on := 23, ground := Ground.data }, { on := 25, ground := Ground.data }, { on := 18, ground := Ground.chain }, { on := 13, ground := Ground.guard }], guard := some (13, false) }) rfl (fun K9 hK9 => ?_) AllReadyH.nil
            go_simp
            refine (HHD.out _ hT_1).mono ?_
            rintro e v2 ⟨rfl, h2⟩
            have hT_2 := hT_1.trans (h2.mono hT_1.size)
            have hS_2 := HSK.out _ hT_2
            refine hK9.out _ _ hS_2 (fun hS => ?_)
            clear hK9 K9
            try simp only [Act.put]
            try simp only [List.setIfInBounds_toArray]
            try simp only [List.set_cons_zero]
            try simp only [List.set_cons_succ, List.set_cons_zero]
            refine wpAnyH_take (i := 27) (oi := { dst := some 142, op := Op.binOp BinOp.neq 4 (Operand.tmp 133) (Operand.tmp 141) 4, type := 4, pos := "law.go:129", after := #[{ on := 18, ground := Ground.data }, { on := 26, ground := Ground.data }, { on := 13, ground := Ground.guard }], guard := some (13, false) }) (v := ?_) rfl (by kernel_rfl) (by kernel_rfl) (by kernel_rfl) (fun _ _ _ h => h) (Or.inl ⟨by rfl, ?_⟩) hS ?_
            rotate_left
            · intro w9 hS9; obtain ⟨q1, q2, q3, q4, q5⟩ := hS9; go_simp; try with_reducible rfl
            try simp only [Act.put]
            try simp only [List.setIfInBounds_toArray]
            try simp only [List.set_cons_zero]
            try simp only [List.set_cons_succ, List.set_cons_zero]
            refine wpAnyH_take (i := 28) (oi := { dst := some 143, op := Op.pick (Operand.tmp 128) (Operand.const (Value.bool true)) (Operand.tmp 142), type := 4, pos := "law.go:129", after := #[{ on := 13, ground := Ground.data }, { on := 27, ground := Ground.data }], guard := none }) (v := ?_) rfl (by kernel_rfl) (by kernel_rfl) (by kernel_rfl) (fun _ _ _ h => h) (Or.inl ⟨by rfl, ?_⟩) hS ?_
            rotate_left
            · intro w9 hS9; obtain ⟨q1, q2, q3, q4, q5⟩ := hS9; go_simp; try with_reducible rfl
            try simp only [Act.put]
            try simp only [List.setIfInBounds_toArray]
            try simp only [List.set_cons_zero]
            try simp only [List.set_cons_succ, List.set_cons_zero]
            refine wpAnyH_take (i := 29) (oi := { dst := some 144, op := Op.move (Operand.tmp 143), type := 4, pos := "law.go:129", after := #[{ on := 28, ground := Ground.data }, { on := 26, ground := Ground.chain }], guard := none }) (v := ?_) rfl (by kernel_rfl) (by kernel_rfl) (by kernel_rfl) (fun _ _ _ h => h) (Or.inl ⟨by rfl, ?_⟩) hS ?_
            rotate_left
            · intro w9 hS9; obtain ⟨q1, q2, q3, q4, q5⟩ := hS9; go_simp; try with_reducible rfl
            try simp only [Act.put]
            try simp only [List.setIfInBounds_toArray]
            try simp only [List.set_cons_zero]
            try simp only [List.set_cons_succ, List.set_cons_zero]
            refine wpAnyH_take (i := 30) (oi := { dst := some 145, op := Op.move (Operand.tmp 5), type := 62, pos := "law.go:129", after := #[{ on := 29, ground := Ground.guard }], guard := some (29, false) }) (v := ?_) rfl (by kernel_rfl) (by kernel_rfl) (by kernel_rfl) (fun _ _ _ h => h) (Or.inl ⟨by rfl, ?_⟩) hS ?_
            rotate_left
            · intro w9 hS9; obtain ⟨q1, q2, q3, q4, q5⟩ := hS9; go_simp; try with_reducible rfl
            try simp only [Act.put]
            try simp only [List.setIfInBounds_toArray]
            try simp only [List.set_cons_zero]
            try simp only [List.set_cons_succ, List.set_cons_zero]
            refine wpAnyH_take (i := 31) (oi := { dst := some 146, op := Op.load 27 (Operand.tmp 10), type := 27, pos := "law.go:129", after := #[{ on := 29, ground := Ground.guard }], guard := some (29, false) }) (v := ?_) rfl (by kernel_rfl) (by kernel_rfl) (by kernel_rfl) (fun _ _ _ h => h) (Or.inl ⟨by rfl, ?_⟩) hS ?_
            rotate_left
            · intro w9 hS9; obtain ⟨q1, q2, q3, q4, q5⟩ := hS9; go_simp; try with_reducible rfl
            try simp only [Act.put]
            try simp only [List.setIfInBounds_toArray]
            try simp only [List.set_cons_zero]
            try simp only [List.set_cons_succ, List.set_cons_zero]
            refine wpAnyH_take (i := 33) (oi := { dst := some 148, op := Op.move (Operand.tmp 7), type := 65, pos := "law.go:129", after := #[{ on := 29, ground := Ground.guard }], guard := some (29, false) }) (v := ?_) rfl (by kernel_rfl) (by kernel_rfl) (by kernel_rfl) (fun _ _ _ h => h) (Or.inl ⟨by rfl, ?_⟩) hS ?_
            rotate_left
            · intro w9 hS9; obtain ⟨q1, q2, q3, q4, q5⟩ := hS9; go_simp; try with_reducible rfl
            try simp only [Act.put]
            try simp only [List.setIfInBounds_toArray]
            try simp only [List.set_cons_zero]
            try simp only [List.set_cons_succ, List.set_cons_zero]
            refine wpAnyH_take (i := 34) (oi := { dst := some 149, op := Op.load 27 (Operand.tmp 10), type := 27, pos := "law.go:129", after := #[{ on := 29, ground := Ground.guard }], guard := some (29, false) }) (v := ?_) rfl (by kernel_rfl) (by kernel_rfl) (by kernel_rfl) (fun _ _ _ h => h) (Or.inl ⟨by rfl, ?_⟩) hS ?_
            rotate_left
            · intro w9 hS9; obtain ⟨q1, q2, q3, q4, q5⟩ := hS9; go_simp; try with_reducible rfl
            try simp only [Act.put]
            try simp only [List.setIfInBounds_toArray]
            try simp only [List.set_cons_zero]
            try simp only [List.set_cons_succ, List.set_cons_zero]
            refine wpAnyH_ready (rs := [32]) (by kernel_rfl) (by simp) ?_
            refine AllReadyH.cons (o := { dst := some 147, op := Op.call { callee := Callee.value (Operand.func 40), args := #[Operand.tmp 145, Operand.tmp 146], argTypes := #[62, 27] }, type := 82, pos := "law.go:129", after := #[{ on := 30, ground := Ground.data }, { on := 31, ground := Ground.data }, { on := 29, ground := Ground.chain }, { on := 29, ground := Ground.guard }], guard := some (29, false) }) rfl (fun K9 hK9 => ?_) AllReadyH.nil
            go_simp
            refine (HOB.out _ hT_2).mono ?_
            rintro e v3 ⟨Aob, cob, rfl, hLob_3, h3⟩
            have hT_3 := hT_2.trans (h3.mono hT_2.size)
            have hS_3 := HSK.out _ hT_3
            refine hK9.out _ _ hS_3 (fun hS => ?_)
            clear hK9 K9
            try simp only [Act.put]
            try simp only [List.setIfInBounds_toArray]
            try simp only [List.set_cons_zero]
            try simp only [List.set_cons_succ, List.set_cons_zero]
            refine wpAnyH_ready (rs := [35]) (by kernel_rfl) (by simp) ?_
            refine AllReadyH.cons (o := { dst := some 150, op := Op.call { callee := Callee.value (Operand.func 41), args := #[Operand.tmp 148, Operand.tmp 149], argTypes := #[65, 27] }, type := 82, pos := "law.go:129", after := #[{ on := 33, ground := Ground.data }, { on := 34, ground := Ground.data }, { on := 32, ground := Ground.chain }, { on := 29, ground := Ground.guard }], guard := some (29, false) }) rfl (fun K9 hK9 => ?_) AllReadyH.nil
            go_simp
            refine (HOD.out _ hT_3).mono ?_
            rintro e v4 ⟨Aod, cod, rfl, hLod_4, h4⟩
            have hLob_4 := (Sl.below hLob_3 h4 (Nat.le_refl _)).more (Nat.le_refl _) h4.size
            have hT_4 := hT_3.trans (h4.mono hT_3.size)
            have hS_4 := HSK.out _ hT_4
            refine hK9.out _ _ hS_4 (fun hS => ?_)
            clear hK9 K9
            try simp only [Act.put]
            try simp only [List.setIfInBounds_toArray]
            try simp only [List.set_cons_zero]
            try simp only [List.set_cons_succ, List.set_cons_zero]
            refine wpAnyH_ready (rs := [36]) (by kernel_rfl) (by simp) ?_
            refine AllReadyH.cons (o := { dst := some 151, op := Op.call { callee := Callee.value (Operand.func 39), args := #[Operand.tmp 147, Operand.tmp 150], argTypes := #[82, 82] }, type := 4, pos := "law.go:129", after := #[{ on := 32, ground := Ground.data }, { on := 35, ground := Ground.data }, { on := 35, ground := Ground.chain }, { on := 29, ground := Ground.guard }], guard := some (29, false) }) rfl (fun K9 hK9 => ?_) AllReadyH.nil
            go_simp
            refine (hsame_any (onH m' g) Aob _ cob Aod cod v4 _ _ _ _ hLob_4 hLod_4 (Nat.le_refl _) (Nat.le_refl _) HOL.out).mono ?_
            rintro e v5 ⟨rfl, h5⟩
            have hLob_5 := (Sl.below hLob_4 h5 (Nat.le_refl _)).more (Nat.le_refl _) h5.size
            have hLod_5 := (Sl.below hLod_4 h5 (Nat.le_refl _)).more (Nat.le_refl _) h5.size
            have hT_5 := hT_4.trans (h5.mono hT_4.size)
            have hS_5 := HSK.out _ hT_5
            refine hK9.out _ _ hS_5 (fun hS => ?_)
            clear hK9 K9
            try simp only [Act.put]
            try simp only [List.setIfInBounds_toArray]
            try simp only [List.set_cons_zero]
            try simp only [List.set_cons_succ, List.set_cons_zero]
            refine wpAnyH_take (i := 37) (oi := { dst := some 152, op := Op.unOp UnOp.not 4 (Operand.tmp 151), type := 4, pos := "law.go:129", after := #[{ on := 36, ground := Ground.data }, { on := 29, ground := Ground.guard }], guard := some (29, false) }) (v := ?_) rfl (by kernel_rfl) (by kernel_rfl) (by kernel_rfl) (fun _ _ _ h => h) (Or.inl ⟨by rfl, ?_⟩) hS ?_
            rotate_left
            · intro w9 hS9; obtain ⟨q1, q2, q3, q4, q5⟩ := hS9; go_simp; try with_reducible rfl
            try simp only [Act.put]
            try simp only [List.setIfInBounds_toArray]
            try simp only [List.set_cons_zero]
            try simp only [List.set_cons_succ, List.set_cons_zero]
            refine wpAnyH_take (i := 38) (oi := { dst := some 153, op := Op.pick (Operand.tmp 144) (Operand.const (Value.bool true)) (Operand.tmp 152), type := 4, pos := "law.go:129", after := #[{ on := 29, ground := Ground.data }, { on := 37, ground := Ground.data }], guard := none }) (v := ?_) rfl (by kernel_rfl) (by kernel_rfl) (by kernel_rfl) (fun _ _ _ h => h) (Or.inl ⟨by rfl, ?_⟩) hS ?_
            rotate_left
            · intro w9 hS9; obtain ⟨q1, q2, q3, q4, q5⟩ := hS9; go_simp; try with_reducible rfl
            try simp only [Act.put]
            try simp only [List.setIfInBounds_toArray]
            try simp only [List.set_cons_zero]
            try simp only [List.set_cons_succ, List.set_cons_zero]
            refine wpAnyH_take (i := 39) (oi := { dst := some 154, op := Op.move (Operand.tmp 153), type := 4, pos := "law.go:129", after := #[{ on := 38, ground := Ground.data }, { on := 36, ground := Ground.chain }], guard := none }) (v := ?_) rfl (by kernel_rfl) (by kernel_rfl) (by kernel_rfl) (fun _ _ _ h => h) (Or.inl ⟨by rfl, ?_⟩) hS ?_
            rotate_left
            · intro w9 hS9; obtain ⟨q1, q2, q3, q4, q5⟩ := hS9; go_simp; try with_reducible rfl
            try simp only [Act.put]
            try simp only [List.setIfInBounds_toArray]
            try simp only [List.set_cons_zero]
            try simp only [List.set_cons_succ, List.set_cons_zero]
            refine wpAnyH_take (i := 40) (oi := { dst := some 155, op := Op.move (Operand.tmp 5), type := 62, pos := "law.go:129", after := #[{ on := 39, ground := Ground.guard }], guard := some (39, false) }) (v := ?_) rfl (by kernel_rfl) (by kernel_rfl) (by kernel_rfl) (fun _ _ _ h => h) (Or.inl ⟨by rfl, ?_⟩) hS ?_
            rotate_left
            · intro w9 hS9; obtain ⟨q1, q2, q3, q4, q5⟩ := hS9; go_simp; try with_reducible rfl
            try simp only [Act.put]
            try simp only [List.setIfInBounds_toArray]
            try simp only [List.set_cons_zero]
            try simp only [List.set_cons_succ, List.set_cons_zero]
            refine wpAnyH_take (i := 42) (oi := { dst := some 157, op := Op.move (Operand.tmp 7), type := 65, pos := "law.go:129", after := #[{ on := 39, ground := Ground.guard }], guard := some (39, false) }) (v := ?_) rfl (by kernel_rfl) (by kernel_rfl) (by kernel_rfl) (fun _ _ _ h => h) (Or.inl ⟨by rfl, ?_⟩) hS ?_
            rotate_left
            · intro w9 hS9; obtain ⟨q1, q2, q3, q4, q5⟩ := hS9; go_simp; try with_reducible rfl
            try simp only [Act.put]
            try simp only [List.setIfInBounds_toArray]
            try simp only [List.set_cons_zero]
            try simp only [List.set_cons_succ, List.set_cons_zero]
            refine wpAnyH_ready (rs := [41]) (by kernel_rfl) (by simp) ?_
            refine AllReadyH.cons (o := { dst := some 156, op := Op.call { callee := Callee.value (Operand.func 42), args := #[Operand.tmp 155], argTypes := #[62] }, type := 48, pos := "law.go:129", after := #[{ on := 40, ground := Ground.data }, { on := 39, ground := Ground.chain }, { on := 39, ground := Ground.guard }], guard := some (39, false) }) rfl (fun K9 hK9 => ?_) AllReadyH.nil
            go_simp
            refine (HLB.out _ hT_5).mono ?_
            rintro e v6 ⟨Alb, clb, rfl, hLlb_6, h6⟩
            have hLob_6 := (Sl.below hLob_5 h6 (Nat.le_refl _)).more (Nat.le_refl _) h6.size
            have hLod_6 := (Sl.below hLod_5 h6 (Nat.le_refl _)).more (Nat.le_refl _) h6.size
            have hT_6 := hT_5.trans (h6.mono hT_5.size)
            have hS_6 := HSK.out _ hT_6
            refine hK9.out _ _ hS_6 (fun hS => ?_)
            clear hK9 K9
            try simp only [Act.put]
            try simp only [List.setIfInBounds_toArray]
            try simp only [List.set_cons_zero]
            try simp only [List.set_cons_succ, List.set_cons_zero]
            refine wpAnyH_ready (rs := [43]) (by kernel_rfl) (by simp) ?_
            refine AllReadyH.cons (o := { dst := some 158, op := Op.call { callee := Callee.value (Operand.func 43), args := #[Operand.tmp 157], argTypes := #[65] }, type := 48, pos := "law.go:129", after := #[{ on := 42, ground := Ground.data }, { on := 41, ground := Ground.chain }, { on := 39, ground := Ground.guard }], guard := some (39, false) }) rfl (fun K9 hK9 => ?_) AllReadyH.nil
            go_simp
            refine (HLD.out _ hT_6).mono ?_
            rintro e v7 ⟨Ald, cld, rfl, hLld_7, h7⟩
            have hLob_7 := (Sl.below hLob_6 h7 (Nat.le_refl _)).more (Nat.le_refl _) h7.size
            have hLod_7 := (Sl.below hLod_6 h7 (Nat.le_refl _)).more (Nat.le_refl _) h7.size
            have hLlb_7 := (Sl.below hLlb_6 h7 (Nat.le_refl _)).more (Nat.le_refl _) h7.size
            have hT_7 := hT_6.trans (h7.mono hT_6.size)
            have hS_7 := HSK.out _ hT_7
            refine hK9.out _ _ hS_7 (fun hS => ?_)
            clear hK9 K9
            try simp only [Act.put]
            try simp only [List.setIfInBounds_toArray]
            try simp only [List.set_cons_zero]
            try simp only [List.set_cons_succ, List.set_cons_zero]
            refine wpAnyH_ready (rs := [44]) (by kernel_rfl) (by simp) ?_
            refine AllReadyH.cons (o := { dst := some 159, op := Op.call { callee := Callee.value (Operand.func 22), args := #[Operand.tmp 156, Operand.tmp 158], argTypes := #[48, 48] }, type := 4, pos := "law.go:129", after := #[{ on := 41, ground := Ground.data }, { on := 43, ground := Ground.data }, { on := 43, ground := Ground.chain }, { on := 39, ground := Ground.guard }], guard := some (39, false) }) rfl (fun K9 hK9 => ?_) AllReadyH.nil
            go_simp
            refine (lawLegs_any (legsH m') Alb Ald _ clb _ cld v7 _ _ _ _ hLlb_7 hLld_7 HLL.out).mono ?_
            rintro e v8 ⟨rfl, h8⟩
            have hLob_8 := (Sl.below hLob_7 h8 (Nat.le_refl _)).more (Nat.le_refl _) h8.size
            have hLod_8 := (Sl.below hLod_7 h8 (Nat.le_refl _)).more (Nat.le_refl _) h8.size
            have hLlb_8 := (Sl.below hLlb_7 h8 (Nat.le_refl _)).more (Nat.le_refl _) h8.size
            have hLld_8 := (Sl.below hLld_7 h8 (Nat.le_refl _)).more (Nat.le_refl _) h8.size
            have hT_8 := hT_7.trans (h8.mono hT_7.size)
            have hS_8 := HSK.out _ hT_8
            refine hK9.out _ _ hS_8 (fun hS => ?_)
            clear hK9 K9
            try simp only [Act.put]
            try simp only [List.setIfInBounds_toArray]
            try simp only [List.set_cons_zero]
            try simp only [List.set_cons_succ, List.set_cons_zero]
            refine wpAnyH_take (i := 45) (oi := { dst := some 160, op := Op.unOp UnOp.not 4 (Operand.tmp 159), type := 4, pos := "law.go:129", after := #[{ on := 44, ground := Ground.data }, { on := 39, ground := Ground.guard }], guard := some (39, false) }) (v := ?_) rfl (by kernel_rfl) (by kernel_rfl) (by kernel_rfl) (fun _ _ _ h => h) (Or.inl ⟨by rfl, ?_⟩) hS ?_
            rotate_left
            · intro w9 hS9; obtain ⟨q1, q2, q3, q4, q5⟩ := hS9; go_simp; try with_reducible rfl
            try simp only [Act.put]
            try simp only [List.setIfInBounds_toArray]
            try simp only [List.set_cons_zero]
            try simp only [List.set_cons_succ, List.set_cons_zero]
            refine wpAnyH_take (i := 46) (oi := { dst := some 161, op := Op.pick (Operand.tmp 154) (Operand.const (Value.bool true)) (Operand.tmp 160), type := 4, pos := "law.go:129", after := #[{ on := 39, ground := Ground.data }, { on := 45, ground := Ground.data }], guard := none }) (v := ?_) rfl (by kernel_rfl) (by kernel_rfl) (by kernel_rfl) (fun _ _ _ h => h) (Or.inl ⟨by rfl, ?_⟩) hS ?_
            rotate_left
            · intro w9 hS9; obtain ⟨q1, q2, q3, q4, q5⟩ := hS9; go_simp; try with_reducible rfl
            try simp only [Act.put]
            try simp only [List.setIfInBounds_toArray]
            try simp only [List.set_cons_zero]
            try simp only [List.set_cons_succ, List.set_cons_zero]
            refine wpAnyH_done (by kernel_rfl) ?_ _
            go_wp2
            go_meet
            exact ⟨rfl, hT_8⟩
          case rest =>
            obtain ⟨rfl, hbc⟩ := hcut
            have HSZ := Lib.hid (HSW.out.keep hbc)
            have RSZ := Lib.hid (RSW.out.below hbc)
            have BWZ := Lib.hid (H7W.out.bw.below hbc H7W.out.bw.lt)
            have HBZ := Lib.hid (HBW.out.trans (hbc.mono zW))
            have hl9 : n5 ≤ k + 1 := by have h1 := RSW.out.1.len; have h2 := HLEN.out; omega
            have hcz := hbc.size
            clear hbc
            go_wp2
            go_roundw
            case rel => exact ⟨k + 1, _, m', A5, n5, c5, by omega, by go_num, rfl, HSZ.out, HRH2, RSZ.out, hl9, BWZ.out, HBZ.out, by have := hcz; omega⟩
            case measure => simp [intOf]; omega
    · obtain rfl : n3 = k := by omega
      clear hb
      go_wp2
      go_ret
      exact ⟨rfl, HB.out⟩
end Go.Proofs.YtlkdefmceghmnaaGreat
