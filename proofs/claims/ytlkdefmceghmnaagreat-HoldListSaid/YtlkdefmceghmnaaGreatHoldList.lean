/- HoldList is true of every input. By program. -/
import Derived.Test.YtlkdefmceghmnaaGreatHd10
import Derived.Deep.RegionHeld3
import Derived.BigGuardPart
namespace Go.Proofs.YtlkdefmceghmnaaGreat
set_option linter.unusedVariables false
open Go Go.RowKit Go.Sort
theorem Sl.leg_ {w : World} {lo hi n k : Nat} {A : Option Addr} {l : List Leg} (h : Sl w lo hi tLeg A n l) (hk : k < n) :
    ∃ b o x, A = some ⟨b, o, none⟩ ∧ lo ≤ b ∧ b < hi ∧ Hid (l[k]? = some x) ∧ Leg.ok x ∧ w.cell? ⟨b, o + k * 3, none⟩ = some (.string x.key.car) ∧ w.cell? ⟨b, o + k * 3 + 1, none⟩ = some (.int .i64 x.key.num) ∧ w.cell? ⟨b, o + k * 3 + 2, none⟩ = some (.int .i64 x.day) := by
  obtain ⟨b, o, x, h1, h2, h3, h4, h5, hc⟩ := h.at_ hk
  exact ⟨b, o, x, h1, h2, h3, h4, h5, by simpa [tLeg] using hc 0 _ rfl, hc 1 _ rfl, hc 2 _ rfl⟩
theorem Sl.hld_ {w : World} {lo hi n k : Nat} {A : Option Addr} {l : List Hld} (h : Sl w lo hi tHld A n l) (hk : k < n) :
    ∃ b o x, A = some ⟨b, o, none⟩ ∧ lo ≤ b ∧ b < hi ∧ Hid (l[k]? = some x) ∧ Hld.ok x ∧ w.cell? ⟨b, o + k * 4, none⟩ = some (.int .i64 x.seat.row) ∧ w.cell? ⟨b, o + k * 4 + 1, none⟩ = some (.int .u8 x.seat.let_) ∧ w.cell? ⟨b, o + k * 4 + 2, none⟩ = some (.string x.hol.loc) ∧ w.cell? ⟨b, o + k * 4 + 3, none⟩ = some (.int .i64 x.hol.pax) := by
  obtain ⟨b, o, x, h1, h2, h3, h4, h5, hc⟩ := h.at_ hk
  exact ⟨b, o, x, h1, h2, h3, h4, h5, by simpa [tHld] using hc 0 _ rfl, hc 1 _ rfl, hc 2 _ rfl, hc 3 _ rfl⟩
set_option maxRecDepth 100000 in
set_option maxHeartbeats 32000000 in
theorem holdList_any (rl : List FlR) (A : Option Addr) (n c : Nat) (pl : List PlR) (A2 : Option Addr) (n2 c2 : Nat) (w : World) (hs : FlS w 0 w.heap.size A n rl) (hp : PlS w 0 w.heap.size A2 n2 pl) (sc : List HAct) (A3 : Option Addr) (n3 c3 : Nat) (ha : Sl w 0 w.heap.size tHA A3 n3 sc) :
    Calls Tryz.prog 10 #[.agg #[.slice A n c, .slice A2 n2 c2], .slice A3 n3 c3] w (RetB w true) := by
  have HFS := Lib.hid hs
  have HPS := Lib.hid hp
  have HA := Lib.hid ha
  have HOK := Lib.hid hs.sl.wf
  have HB := box1 w #[.slice A n c, .slice A2 n2 c2] 60
  clear hs hp ha
  go_enter Tryz.func10, Tryz.ntmps10
  go_upto_region 1 with fail
  refine wp_world (fun V => Bx V w.heap.size #[.slice A n c, .slice A2 n2 c2] 60 ∧ Below w.heap.size w V) HB ?_
  clear HB
  rintro V0 ⟨bW, hb0⟩
  have BW0 := Lib.hid bW
  have HB0 := Lib.hid hb0
  have z0 := hb0.size
  clear bW hb0
  go_wp2_with fail
  refine (awake11_any V0).mono ?_
  rintro e w1 ⟨rfl, h1⟩
  have BW1 := Lib.hid (BW0.out.below h1 BW0.out.lt)
  have H1 := Lib.hid (HB0.out.trans (h1.mono z0))
  have z1 := H1.out.size
  have zW1 := BW1.out.lt
  clear h1 BW0 HB0
  have cc1 := BW1.out.cells
  go_wp2_with fail
  refine (hbegun_any rl A n c pl A2 n2 c2 w1 0 w.heap.size (HFS.out.below H1.out (Nat.le_refl _)) (HPS.out.below H1.out (Nat.le_refl _)) z1).mono ?_
  rintro e w2 ⟨h2, hq⟩
  have BW2 := Lib.hid (BW1.out.below h2 BW1.out.lt)
  have H2 := Lib.hid (H1.out.trans (h2.mono z1))
  have z2 := H2.out.size
  have z12 := h2.size
  clear h2 cc1 BW1
  rcases hq with ⟨_, rfl⟩ | ⟨hnew, lo, hi, t, p, b, rs, ps, rfl, hHK, hz, htab, hks⟩
  · go_wp2
    go_ret
    exact ⟨rfl, H2.out⟩
  have HR := Lib.hid htab.right_rs
  have HTB := Lib.hid htab
  have HKS := Lib.hid hks
  have HFO := Lib.hid (show ∀ f ∈ rl.map (·.f), f.ok from fun f hf => by obtain ⟨r, hr, rfl⟩ := List.mem_map.1 hf; exact (HOK.out r hr).f)
  have HHK := Lib.hid hHK
  have zb := hHK.hb
  have zbb := hHK.blt
  have zpp := hHK.plt
  clear htab hHK hnew hks
  by_cases hm : 100 < n3
  · have hm' : (100 : Int) < n3 := by omega
    go_wp2
    go_ret
    exact ⟨rfl, H2.out⟩
  have hm' : (n3 : Int) ≤ 100 := by omega
  have hwb : w.heap.size < b := by omega
  go_wp2
  go_loopw [8, 7] (fun i v wr => ∃ (k : Nat) (E : List Hpl) (m : Nat), k ≤ n3 ∧ i = .int .i64 k ∧ v = .int .i64 m ∧ ∃ q, HK wr lo hi t p b rs ps q ∧ Hid (QW rs ps q) ∧ Hid (En q E) ∧ Hid (E.length = m) ∧ m ≤ k ∧ Bx wr w.heap.size #[.slice A n c, .slice A2 n2 c2] 60 ∧ Below w.heap.size w wr) (fun i _ _ => n3 - (intOf i).toNat)
  case atStart => exact ⟨0, [], 0, Nat.zero_le _, rfl, rfl, _, HHK.out, QW.none_ _ _, En.zero, rfl, Nat.le_refl _, BW2.out, H2.out⟩
  case round =>
    clear HHK zbb zpp BW2
    obtain ⟨k, E, m, hk, rfl, rfl, q, hHK, HQW, HEN, HEL, hmk, bW, hb⟩ := hrel
    have HHK := Lib.hid hHK
    have HB := Lib.hid hb
    have BW := Lib.hid bW
    have zw := hb.size
    have zbb := hHK.blt
    clear hHK bW
    by_cases hlt : k < n3
    · obtain ⟨b1, o1, a, hA, _, hb1, hx1, hok, d0, d1, d2, d3, d4, d5, d6, d7, d8⟩ := (Sl.below HA.out hb (Nat.le_refl _)).ha_ hlt
      subst hA
      have i0 : (0 : Int) ≤ k := by omega
      have i1 : (k : Int) < n3 := by omega
      have HOA := Lib.hid hok
      clear hb hx1 hok
      go_upto_region 11 with fail
      refine wp_world (fun V => ∃ ka, (ka = wr.heap.size ∧ Bx V ka #[.int .i64 a.kind, .int .i64 a.fl, .string a.leg.key.car, .int .i64 a.leg.key.num, .int .i64 a.leg.day, .int .i64 a.seat.row, .int .u8 a.seat.let_, .string a.hol.loc, .int .i64 a.hol.pax] 71) ∧ Bx V w.heap.size #[.slice A n c, .slice A2 n2 c2] 60 ∧ HK V lo hi t p b rs ps q ∧ Below w.heap.size w V) ⟨_, ⟨rfl, Bx.new _ _ _⟩, BW.out.alloc _, HHK.out.keep ((Below.refl _ _).alloc (Nat.le_refl _) _), HB.out.alloc zw _⟩ ?_
      clear BW HHK d0 d1 d2 d3 d4 d5 d6 d7 d8 HB
      rintro V ⟨ka, ⟨hka, bA⟩, bW, hHK, hb⟩
      try rw [← hka]
      have zka : b < ka := by omega
      clear hka
      have BWV := Lib.hid bW
      have BAV := Lib.hid bA
      have HSV := Lib.hid hHK
      have HBV := Lib.hid hb
      have zV := hb.size
      have zq1 := bW.lt
      have zq4 := bA.lt
      have HLEG := Lib.hid (fun (V : World) (hV : Below w.heap.size w V) => (hleg_any rl A n c A2 n2 c2 V 0 w.heap.size (HFS.out.below hV (Nat.le_refl _)) hV.size a))
      have HG := Lib.hid (legH_ok HOA.out HFO.out)
      unfold hactV at HLEG
      generalize legH (rl.map (·.f)) a = g at HLEG HG
      have cc1 := bW.cells
      have cc5 := bA.cells
      clear bA bW hHK hb
      by_cases k0 : a.kind = 0
      · have HTAKE := Lib.hid (fun (W : World) (hW : Below V.heap.size V W) => take_is (HSV.out.keep hW) HR.out g a.seat a.hol HG.out HOA.out.seat HOA.out.hol)
        rw [k0] at HLEG BAV
        clear k0 cc1 cc5
        have XD : Hid ((∀ i : Nat, V.drew.cell? ⟨w.heap.size, i, none⟩ = (#[.slice A n c, .slice A2 n2 c2] : Array Value)[i]?) ∧ (∀ i : Nat, V.drew.cell? ⟨ka, i, none⟩ = (#[.int .i64 0, .int .i64 a.fl, .string a.leg.key.car, .int .i64 a.leg.key.num, .int .i64 a.leg.day, .int .i64 a.seat.row, .int .u8 a.seat.let_, .string a.hol.loc, .int .i64 a.hol.pax] : Array Value)[i]?)) := ⟨BWV.out.cells, BAV.out.cells⟩
        go_region_held3 (fun w' => (∀ i : Nat, w'.cell? ⟨w.heap.size, i, none⟩ = (#[.slice A n c, .slice A2 n2 c2] : Array Value)[i]?) ∧ (∀ i : Nat, w'.cell? ⟨ka, i, none⟩ = (#[.int .i64 0, .int .i64 a.fl, .string a.leg.key.car, .int .i64 a.leg.key.num, .int .i64 a.leg.day, .int .i64 a.seat.row, .int .u8 a.seat.let_, .string a.hol.loc, .int .i64 a.hol.pax] : Array Value)[i]?)) (first | (with_reducible exact XD.out) | (with_reducible exact X1.out) | (with_reducible exact X2.out)) (first
          | (go_at_call 30; (with_reducible refine (HLEG.out _ HBV.out.drew).mono ?_); rintro e w3 ⟨rfl, h3⟩; have h3' : Below V.heap.size V w3 := ((Below.refl V.heap.size V).drew).trans h3; have H3 := Lib.hid h3'; have X1 : Hid ((∀ i : Nat, w3.cell? ⟨w.heap.size, i, none⟩ = (#[.slice A n c, .slice A2 n2 c2] : Array Value)[i]?) ∧ (∀ i : Nat, w3.cell? ⟨ka, i, none⟩ = (#[.int .i64 0, .int .i64 a.fl, .string a.leg.key.car, .int .i64 a.leg.key.num, .int .i64 a.leg.day, .int .i64 a.seat.row, .int .u8 a.seat.let_, .string a.hol.loc, .int .i64 a.hol.pax] : Array Value)[i]?)) := ⟨(BWV.out.below h3' BWV.out.lt).cells, (BAV.out.below h3' BAV.out.lt).cells⟩; clear h3 h3')
          | (go_at_call 33; (with_reducible refine (HTAKE.out _ H3.out).mono ?_); rintro e w4 ⟨kk, q2, rfl, hS4, hK4, HCS⟩; have HS4 := Lib.hid hS4; have HK4 := Lib.hid hK4; have X2 : Hid ((∀ i : Nat, w4.cell? ⟨w.heap.size, i, none⟩ = (#[.slice A n c, .slice A2 n2 c2] : Array Value)[i]?) ∧ (∀ i : Nat, w4.cell? ⟨ka, i, none⟩ = (#[.int .i64 0, .int .i64 a.fl, .string a.leg.key.car, .int .i64 a.leg.key.num, .int .i64 a.leg.day, .int .i64 a.seat.row, .int .u8 a.seat.let_, .string a.hol.loc, .int .i64 a.hol.pax] : Array Value)[i]?)) := ⟨((BWV.out.below H3.out BWV.out.lt).kb hK4 (by omega)).cells, ((BAV.out.below H3.out BAV.out.lt).kb hK4 (by omega)).cells⟩; clear hS4 hK4))
        have z34 := H3.out.size
        have BWF := Lib.hid ((BWV.out.below H3.out BWV.out.lt).kb HK4.out (by omega))
        have BAF := Lib.hid ((BAV.out.below H3.out BAV.out.lt).kb HK4.out (by omega))
        have HBF := Lib.hid (HK4.out.below (HBV.out.trans (H3.out.mono zV)) (by omega) (Nat.le_trans zV H3.out.size))
        have zF := HBF.out.size
        have cc1 := BWF.out.cells
        have cc5 := BAF.out.cells
        have zq1 := BWF.out.lt
        have zq4 := BAF.out.lt
        clear H3 HK4 X1 X2 XD z34
        rcases HCS.out with ⟨rfl, hw, hq, rfl⟩ | ⟨hk0, rfl⟩
        · have HEN2 := Lib.hid (HEN.out.cons hq a.hol)
          have HQW2 := Lib.hid (HQW.out.upd (c := ⟨g, a.seat⟩) (o := some a.hol) (fun _ => hw))
          have HSF := HS4
          clear hw hq HS4 HCS
          go_upto_region 13 with fail
          refine wp_region_below (by kernel_rfl) (by kernel_rfl) ?_
          intro q9
          repeat
            (refine QH.step (fun K9 hK9 => ?_)
             go_simp
             first
             | (refine hK9 _ ?_; clear hK9 K9)
             | (apply Exists.intro
                refine ⟨fun _ => ?_, hK9 _ ?_⟩
                · first | fail
                clear hK9 K9))
          refine QH.nil_ ?_
          clear q9
          rintro ⟨V9, hV9⟩
          dsimp only
          have HS9 := Lib.hid (HSF.out.keep hV9)
          have BW9 := Lib.hid (BWF.out.below hV9 BWF.out.lt)
          have BA9 := Lib.hid (BAF.out.below hV9 BAF.out.lt)
          have HB9 := Lib.hid (HBF.out.trans (hV9.mono zF))
          have z9 := HB9.out.size
          go_wp2
          go_roundw
          case rel => exact ⟨k + 1, _, m + 1, by omega, by go_num, by go_num, _, HS9.out, HQW2, HEN2, Lib.hid (by simp [HEL.out]), by omega, BW9.out, HB9.out⟩
          case measure => simp [intOf]; omega
        · have te : (kk == 0) = false := by simp [hk0]
          have HSF := HS4
          clear HS4 HCS
          go_upto_region 13 with fail
          refine wp_region_below (by kernel_rfl) (by kernel_rfl) ?_
          intro q9
          repeat
            (refine QH.step (fun K9 hK9 => ?_)
             go_simp
             first
             | (refine hK9 _ ?_; clear hK9 K9)
             | (apply Exists.intro
                refine ⟨fun _ => ?_, hK9 _ ?_⟩
                · first | fail
                clear hK9 K9))
          refine QH.nil_ ?_
          clear q9
          rintro ⟨V9, hV9⟩
          dsimp only
          have HS9 := Lib.hid (HSF.out.keep hV9)
          have BW9 := Lib.hid (BWF.out.below hV9 BWF.out.lt)
          have BA9 := Lib.hid (BAF.out.below hV9 BAF.out.lt)
          have HB9 := Lib.hid (HBF.out.trans (hV9.mono zF))
          have z9 := HB9.out.size
          go_wp2
          go_roundw
          case rel => exact ⟨k + 1, _, m, by omega, by go_num, by go_num, _, HS9.out, HQW, HEN, HEL, by omega, BW9.out, HB9.out⟩
          case measure => simp [intOf]; omega
      · have te : (a.kind == 0) = false := by simp [k0]
        refine wp_region_below (by kernel_rfl) (by kernel_rfl) ?_
        intro q9
        repeat
          (refine QH.step (fun K9 hK9 => ?_)
           go_simp
           first
           | (refine hK9 _ ?_; clear hK9 K9)
           | (apply Exists.intro
              refine ⟨fun _ => ?_, hK9 _ ?_⟩
              · first | fail
              clear hK9 K9))
        refine QH.nil_ ?_
        clear q9
        rintro ⟨V9, hV9⟩
        dsimp only
        have HS9 := Lib.hid (HSV.out.keep hV9)
        have BW9 := Lib.hid (BWV.out.below hV9 BWV.out.lt)
        have BA9 := Lib.hid (BAV.out.below hV9 BAV.out.lt)
        have HB9 := Lib.hid (HBV.out.trans (hV9.mono zV))
        have z9 := HB9.out.size
        clear cc1 cc5 hV9 zq1 zq4 HSV BWV BAV HBV zV te k0
        go_upto_region 13 with fail
        generalize hVV : V9 = V at *
        have BWV := BW9
        have BAV := BA9
        have HSV := HS9
        have HBV := HB9
        have zV := z9
        have zq1 := BWV.out.lt
        have zq4 := BAV.out.lt
        have cc1 := BWV.out.cells
        have cc5 := BAV.out.cells
        clear BW9 BA9 HS9 HB9 z9 hVV
        by_cases k1 : a.kind = 1
        · have HFREE := Lib.hid (fun (W : World) (hW : Below V.heap.size V W) => free_is (HSV.out.keep hW) HR.out g a.seat a.hol HG.out HOA.out.seat HOA.out.hol)
          rw [k1] at HLEG BAV
          clear k1 cc1 cc5
          have XD : Hid ((∀ i : Nat, V.drew.cell? ⟨w.heap.size, i, none⟩ = (#[.slice A n c, .slice A2 n2 c2] : Array Value)[i]?) ∧ (∀ i : Nat, V.drew.cell? ⟨ka, i, none⟩ = (#[.int .i64 1, .int .i64 a.fl, .string a.leg.key.car, .int .i64 a.leg.key.num, .int .i64 a.leg.day, .int .i64 a.seat.row, .int .u8 a.seat.let_, .string a.hol.loc, .int .i64 a.hol.pax] : Array Value)[i]?)) := ⟨BWV.out.cells, BAV.out.cells⟩
          go_region_held3 (fun w' => (∀ i : Nat, w'.cell? ⟨w.heap.size, i, none⟩ = (#[.slice A n c, .slice A2 n2 c2] : Array Value)[i]?) ∧ (∀ i : Nat, w'.cell? ⟨ka, i, none⟩ = (#[.int .i64 1, .int .i64 a.fl, .string a.leg.key.car, .int .i64 a.leg.key.num, .int .i64 a.leg.day, .int .i64 a.seat.row, .int .u8 a.seat.let_, .string a.hol.loc, .int .i64 a.hol.pax] : Array Value)[i]?)) (first | (with_reducible exact XD.out) | (with_reducible exact X1.out) | (with_reducible exact X2.out)) (first
            | (go_at_call 30; (with_reducible refine (HLEG.out _ HBV.out.drew).mono ?_); rintro e w3 ⟨rfl, h3⟩; have h3' : Below V.heap.size V w3 := ((Below.refl V.heap.size V).drew).trans h3; have H3 := Lib.hid h3'; have X1 : Hid ((∀ i : Nat, w3.cell? ⟨w.heap.size, i, none⟩ = (#[.slice A n c, .slice A2 n2 c2] : Array Value)[i]?) ∧ (∀ i : Nat, w3.cell? ⟨ka, i, none⟩ = (#[.int .i64 1, .int .i64 a.fl, .string a.leg.key.car, .int .i64 a.leg.key.num, .int .i64 a.leg.day, .int .i64 a.seat.row, .int .u8 a.seat.let_, .string a.hol.loc, .int .i64 a.hol.pax] : Array Value)[i]?)) := ⟨(BWV.out.below h3' BWV.out.lt).cells, (BAV.out.below h3' BAV.out.lt).cells⟩; clear h3 h3')
            | (go_at_call 35; (with_reducible refine (HFREE.out _ H3.out).mono ?_); rintro e w4 ⟨kk, q2, rfl, hS4, hK4, HCS⟩; have HS4 := Lib.hid hS4; have HK4 := Lib.hid hK4; have X2 : Hid ((∀ i : Nat, w4.cell? ⟨w.heap.size, i, none⟩ = (#[.slice A n c, .slice A2 n2 c2] : Array Value)[i]?) ∧ (∀ i : Nat, w4.cell? ⟨ka, i, none⟩ = (#[.int .i64 1, .int .i64 a.fl, .string a.leg.key.car, .int .i64 a.leg.key.num, .int .i64 a.leg.day, .int .i64 a.seat.row, .int .u8 a.seat.let_, .string a.hol.loc, .int .i64 a.hol.pax] : Array Value)[i]?)) := ⟨((BWV.out.below H3.out BWV.out.lt).kb hK4 (by omega)).cells, ((BAV.out.below H3.out BAV.out.lt).kb hK4 (by omega)).cells⟩; clear hS4 hK4))
          have z34 := H3.out.size
          have BWF := Lib.hid ((BWV.out.below H3.out BWV.out.lt).kb HK4.out (by omega))
          have BAF := Lib.hid ((BAV.out.below H3.out BAV.out.lt).kb HK4.out (by omega))
          have HBF := Lib.hid (HK4.out.below (HBV.out.trans (H3.out.mono zV)) (by omega) (Nat.le_trans zV H3.out.size))
          have zF := HBF.out.size
          have cc1 := BWF.out.cells
          have cc5 := BAF.out.cells
          have zq1 := BWF.out.lt
          have zq4 := BAF.out.lt
          clear H3 HK4 X1 X2 XD z34
          rcases HCS.out with ⟨rfl, hw, hq, rfl⟩ | ⟨hk0, rfl⟩
          · have hmem : (⟨g, a.seat⟩ : Hpl) ∈ E := (HEN.out.mem _).1 (by rw [hq]; simp)
            have HEN2 := Lib.hid (HEN.out.erase ⟨g, a.seat⟩)
            have hl := len_filter_ne ⟨g, a.seat⟩ HEN.out.nod hmem
            obtain ⟨m2, rfl⟩ : ∃ m2, m = m2 + 1 := ⟨m - 1, by have := HEL.out; omega⟩
            have HEL2 : Hid ((E.filter fun d => !decide (d = (⟨g, a.seat⟩ : Hpl))).length = m2) := by have h := HEL.out; show _ = _; omega
            have HQW2 := Lib.hid (HQW.out.upd (c := ⟨g, a.seat⟩) (o := none) (fun h => absurd rfl h))
            have hwr : IntKind.i64.wrap (((m2 + 1 : Nat) : Int) - 1) = (m2 : Int) := by rw [IntKind.wrap_i64]; omega
            clear hw hq hmem hl HCS
            go_wp2
            go_roundw
            case rel => exact ⟨k + 1, _, m2, by omega, by go_num, by go_num, _, HS4.out, HQW2, HEN2, HEL2, by omega, BWF.out, HBF.out⟩
            case measure => simp [intOf]; omega
          · have te : (kk == 0) = false := by simp [hk0]
            go_wp2
            go_roundw
            case rel => exact ⟨k + 1, _, m, by omega, by go_num, by go_num, _, HS4.out, HQW, HEN, HEL, by omega, BWF.out, HBF.out⟩
            case measure => simp [intOf]; omega
        · have te : (a.kind == 1) = false := by simp [k1]
          refine wp_region_below (by kernel_rfl) (by kernel_rfl) ?_
          intro q9
          repeat
            (refine QH.step (fun K9 hK9 => ?_)
             go_simp
             first
             | (refine hK9 _ ?_; clear hK9 K9)
             | (apply Exists.intro
                refine ⟨fun _ => ?_, hK9 _ ?_⟩
                · first | fail
                clear hK9 K9))
          refine QH.nil_ ?_
          clear q9
          rintro ⟨V9, hV9⟩
          dsimp only
          have HS9 := Lib.hid (HSV.out.keep hV9)
          have BW9 := Lib.hid (BWV.out.below hV9 BWV.out.lt)
          have BA9 := Lib.hid (BAV.out.below hV9 BAV.out.lt)
          have HB9 := Lib.hid (HBV.out.trans (hV9.mono zV))
          have z9 := HB9.out.size
          go_wp2
          go_roundw
          case rel => exact ⟨k + 1, _, m, by omega, by go_num, by go_num, _, HS9.out, HQW, HEN, HEL, by omega, BW9.out, HB9.out⟩
          case measure => simp [intOf]; omega
    · as_aux_lemma =>
      obtain rfl : n3 = k := by omega
      clear hb
      go_wp2_with fail
      refine (hlegs_any HHK.out E (by have := HEL.out; omega) (fun c hc => (HEN.out.mem c).1 hc)).mono ?_
      rintro e w5 ⟨A5, n5, c5, out5, rfl, hO5, hr5, hm5, h5⟩
      have HO5 := Lib.hid hO5
      have HS5 := Lib.hid (HHK.out.keep h5)
      have HB5 := Lib.hid (HB.out.trans (h5.mono zw))
      have hl5 : out5.length = n5 := hO5.sl.len
      clear hO5 h5 HHK HB BW
      have hn5 : n5 ≤ 100 := by
        have h1 : out5.length ≤ (E.map (·.leg)).length := nodup_le hr5.nodup_g fun g hg => by
          obtain ⟨c, hc, rfl⟩ := (hm5 g).1 hg
          exact List.mem_map_of_mem ((HEN.out.mem c).1 hc)
        rw [List.length_map] at h1
        have h2 := HEL.out
        omega
      have HRE0 : Hid (m = remH E out5 0) := by show _ = _; rw [remH_zero, HEL.out]
      go_wp2
      go_loopw [11, 7] (fun i2 v wr => ∃ (i m5 : Nat), i ≤ n5 ∧ i2 = .int .i64 i ∧ v = .int .i64 m5 ∧ Hid (m5 = remH E out5 i) ∧ Below w5.heap.size w5 wr) (fun i2 _ _ => n5 - (intOf i2).toNat)
      case atStart => exact ⟨0, m, Nat.zero_le _, rfl, rfl, HRE0, Below.refl _ _⟩
      case round =>
        obtain ⟨i, m5, hi5, rfl, rfl, HREM, hb⟩ := hrel
        by_cases hlt : i < n5
        · have HBR := Lib.hid hb
          have zr5 := hb.size
          obtain ⟨b5, o5, g, hA5, _, hb5, hg5, hgok, d0, d1, d2⟩ := (Sl.below HO5.out.sl hb (Nat.le_refl _)).leg_ hlt
          subst hA5
          have i0 : (0 : Int) ≤ i := by omega
          have i1 : (i : Int) < n5 := by omega
          have hb5w : b5 < wr.heap.size := by omega
          have HGO := Lib.hid hgok
          have HG5 := Lib.hid hg5.out
          have HSR := Lib.hid (HS5.out.keep hb)
          clear hb hg5 hgok
          go_wp2_with fail
          refine (hon_any HSR.out g E (by have := HEL.out; omega) (fun c hc => (HEN.out.mem c).1 hc)).mono ?_
          rintro e w6 ⟨A6, n6, c6, out6, rfl, hO6, hr6, hm6, h6⟩
          have HO6 := Lib.hid hO6
          have HB6 := Lib.hid h6
          have HS6 := Lib.hid (HSR.out.keep h6)
          have hl6 : out6.length = n6 := hO6.sl.len
          have hcnt := on_len HEN.out hr6 hm6
          have hstep := remH_step hr5.nodup_g HG5.out E
          have hpos : 0 < n6 := by
            obtain ⟨c, hc, hcg⟩ := (hm5 g).1 (List.mem_of_getElem? HG5.out)
            cases e : q c with
            | none => exact absurd e hc
            | some y =>
              have h1 : (⟨c.seat, y⟩ : Hld) ∈ out6 := (hm6 _).2 (by subst hcg; exact e)
              have h2 := List.length_pos_of_mem h1
              omega
          have hn6 : ((n6 : Int) == 0) = false := beq_eq_false_iff_ne.2 (by omega)
          have hrem : m5 = remH E out5 (i + 1) + n6 := by rw [HREM.out, hstep, ← hcnt, hl6]
          obtain ⟨m7, hm7⟩ : ∃ m7, m7 = remH E out5 (i + 1) := ⟨_, rfl⟩
          rw [← hm7] at hrem
          have hle : m5 ≤ 100 := by
            have h1 := HREM.out
            have h2 : remH E out5 i ≤ E.length := List.length_filter_le _ _
            have h3 := HEL.out
            omega
          have hm7b : m7 ≤ 100 := by omega
          have hn6b : n6 ≤ 100 := by omega
          have hi6 : i + 1 ≤ n5 := by omega
          subst hrem
          have HREM2 : Hid (m7 = remH E out5 (i + 1)) := hm7
          have hwr : IntKind.i64.wrap (((m7 + n6 : Nat) : Int) - (n6 : Int)) = (m7 : Int) := by rw [IntKind.wrap_i64]; omega
          have e0 := (h6.cell (p := ⟨b5, o5 + i * 3, none⟩) hb5w).trans d0
          have e1 := (h6.cell (p := ⟨b5, o5 + i * 3 + 1, none⟩) hb5w).trans d1
          have e2 := (h6.cell (p := ⟨b5, o5 + i * 3 + 2, none⟩) hb5w).trans d2
          have hb56 : b5 < w6.heap.size := by have := h6.size; omega
          clear d0 d1 d2 hO6 h6 hcnt hstep hm7 hle
          have d0 := e0
          have d1 := e1
          have d2 := e2
          have hb5w := hb56
          clear e0 e1 e2
          go_wp2
          go_loopw [13] (fun i3 wr => ∃ j : Nat, j ≤ n6 ∧ i3 = .int .i64 j ∧ Below w6.heap.size w6 wr) (fun i3 _ => n6 - (intOf i3).toNat)
          case atStart => exact ⟨0, Nat.zero_le _, rfl, Below.refl _ _⟩
          case round =>
            obtain ⟨j, hj, rfl, hb⟩ := hrel
            by_cases hlt : j < n6
            · have hz6 := hb.size
              obtain ⟨b6, o6, x, hA6, _, hb6, hx6, hxok, e0, e1, e2, e3⟩ := (Sl.below HO6.out.sl hb (Nat.le_refl _)).hld_ hlt
              subst hA6
              have j0 : (0 : Int) ≤ j := by omega
              have j1 : (j : Int) < n6 := by omega
              have hb6w : b6 < wr.heap.size := by omega
              have hb5t : b5 < wr.heap.size := by omega
              have f0 := (hb.cell (p := ⟨b5, o5 + i * 3, none⟩) hb5w).trans d0
              have f1 := (hb.cell (p := ⟨b5, o5 + i * 3 + 1, none⟩) hb5w).trans d1
              have f2 := (hb.cell (p := ⟨b5, o5 + i * 3 + 2, none⟩) hb5w).trans d2
              have HQX : Hid (q ⟨g, x.seat⟩ = some x.hol) := (hm6 x).1 (List.mem_of_getElem? hx6.out)
              have HXO := Lib.hid hxok
              have hHK := HS6.out.keep hb
              have HST := Lib.hid hHK
              have HHB : Hid (hasB rs ps ⟨g, x.seat⟩ = true) := hasB_of (HQW.out _ (by rw [HQX.out]; simp))
              have hwho := fun (V : World) (hV : Below wr.heap.size wr V) => who_any (HST.out.keep hV) g x.seat HGO.out HXO.out.1
              rw [HQX.out] at hwho
              have HWHO := Lib.hid hwho
              have HBT := Lib.hid hb
              have HX6 := Lib.hid hx6.out
              have HSK := Lib.hid (fun (V : World) (hV : Below wr.heap.size wr V) => (⟨(hV.cell (p := ⟨b5, o5 + i * 3, none⟩) hb5t).trans f0, (hV.cell (p := ⟨b5, o5 + i * 3 + 1, none⟩) hb5t).trans f1, (hV.cell (p := ⟨b5, o5 + i * 3 + 2, none⟩) hb5t).trans f2, (hV.cell (p := ⟨b6, o6 + j * 4, none⟩) hb6w).trans e0, (hV.cell (p := ⟨b6, o6 + j * 4 + 1, none⟩) hb6w).trans e1, (hV.cell (p := ⟨b6, o6 + j * 4 + 2, none⟩) hb6w).trans e2, (hV.cell (p := ⟨b6, o6 + j * 4 + 3, none⟩) hb6w).trans e3⟩ : V.cell? ⟨b5, o5 + i * 3, none⟩ = some (.string g.key.car) ∧ V.cell? ⟨b5, o5 + i * 3 + 1, none⟩ = some (.int .i64 g.key.num) ∧ V.cell? ⟨b5, o5 + i * 3 + 2, none⟩ = some (.int .i64 g.day) ∧ V.cell? ⟨b6, o6 + j * 4, none⟩ = some (.int .i64 x.seat.row) ∧ V.cell? ⟨b6, o6 + j * 4 + 1, none⟩ = some (.int .u8 x.seat.let_) ∧ V.cell? ⟨b6, o6 + j * 4 + 2, none⟩ = some (.string x.hol.loc) ∧ V.cell? ⟨b6, o6 + j * 4 + 3, none⟩ = some (.int .i64 x.hol.pax)))
              have hD : Below wr.heap.size wr wr.drew := (Below.refl _ _).drew
              clear hwho f0 f1 f2 e0 e1 e2 e3 hHK hb hx6 hxok
              go_upto_region 26 with fail
              go_cut [14, 15] (fun u v w' => ∃ gw, u = .pointer (some ⟨gw, 0, none⟩) ∧ v = .bool true ∧ Bx w' gw #[.string x.hol.loc, .int .i64 x.hol.pax] 69 ∧ Below wr.heap.size wr w')
              case first =>
               as_aux_lemma =>
                refine wp_region_held_drew (S := fun w' => w'.cell? ⟨b5, o5 + i * 3, none⟩ = some (.string g.key.car) ∧ w'.cell? ⟨b5, o5 + i * 3 + 1, none⟩ = some (.int .i64 g.key.num) ∧ w'.cell? ⟨b5, o5 + i * 3 + 2, none⟩ = some (.int .i64 g.day) ∧ w'.cell? ⟨b6, o6 + j * 4, none⟩ = some (.int .i64 x.seat.row) ∧ w'.cell? ⟨b6, o6 + j * 4 + 1, none⟩ = some (.int .u8 x.seat.let_) ∧ w'.cell? ⟨b6, o6 + j * 4 + 2, none⟩ = some (.string x.hol.loc) ∧ w'.cell? ⟨b6, o6 + j * 4 + 3, none⟩ = some (.int .i64 x.hol.pax)) (by kernel_rfl) (HSK.out _ hD) (fun hS => ?_)
                refine wpAnyH_take (i := 0) (oi := { dst := some 102, op := Op.move (Operand.tmp 5), type := 62, pos := "law.go:205", after := #[], guard := none }) (v := ?_) rfl (by kernel_rfl) (by kernel_rfl) (by kernel_rfl) (fun _ _ _ h => h) (Or.inl ⟨by rfl, ?_⟩) hS ?_
                rotate_left
                · intro w9 hS9; obtain ⟨q1, q2, q3, q4, q5, q6, q7⟩ := hS9; go_simp; try with_reducible rfl
                try simp only [Act.put]
                try simp only [List.setIfInBounds_toArray]
                try simp only [List.set_cons_zero]
                try simp only [List.set_cons_succ, List.set_cons_zero]
                refine wpAnyH_take (i := 1) (oi := { dst := some 103, op := Op.move (Operand.tmp 10), type := 48, pos := "law.go:205", after := #[], guard := none }) (v := ?_) rfl (by kernel_rfl) (by kernel_rfl) (by kernel_rfl) (fun _ _ _ h => h) (Or.inl ⟨by rfl, ?_⟩) hS ?_
                rotate_left
                · intro w9 hS9; obtain ⟨q1, q2, q3, q4, q5, q6, q7⟩ := hS9; go_simp; try with_reducible rfl
                try simp only [Act.put]
                try simp only [List.setIfInBounds_toArray]
                try simp only [List.set_cons_zero]
                try simp only [List.set_cons_succ, List.set_cons_zero]
                refine wpAnyH_take (i := 2) (oi := { dst := some 104, op := Op.move (Operand.tmp 11), type := 3, pos := "law.go:205", after := #[], guard := none }) (v := ?_) rfl (by kernel_rfl) (by kernel_rfl) (by kernel_rfl) (fun _ _ _ h => h) (Or.inl ⟨by rfl, ?_⟩) hS ?_
                rotate_left
                · intro w9 hS9; obtain ⟨q1, q2, q3, q4, q5, q6, q7⟩ := hS9; go_simp; try with_reducible rfl
                try simp only [Act.put]
                try simp only [List.setIfInBounds_toArray]
                try simp only [List.set_cons_zero]
                try simp only [List.set_cons_succ, List.set_cons_zero]
                refine wpAnyH_take (i := 3) (oi := { dst := some 105, op := Op.indexAddr 48 (Operand.tmp 103) (Operand.tmp 104), type := 0, pos := "law.go:205", after := #[{ on := 1, ground := Ground.data }, { on := 2, ground := Ground.data }], guard := none }) (v := ?_) rfl (by kernel_rfl) (by kernel_rfl) (by kernel_rfl) (fun _ _ _ h => h) (Or.inl ⟨by rfl, ?_⟩) hS ?_
                rotate_left
                · intro w9 hS9; obtain ⟨q1, q2, q3, q4, q5, q6, q7⟩ := hS9; go_simp; try with_reducible rfl
                try simp only [Act.put]
                try simp only [List.setIfInBounds_toArray]
                try simp only [List.set_cons_zero]
                try simp only [List.set_cons_succ, List.set_cons_zero]
                refine wpAnyH_take (i := 4) (oi := { dst := some 106, op := Op.load 27 (Operand.tmp 105), type := 27, pos := "law.go:205", after := #[{ on := 3, ground := Ground.data }], guard := none }) (v := ?_) rfl (by kernel_rfl) (by kernel_rfl) (by kernel_rfl) (fun _ _ _ h => h) (Or.inl ⟨by rfl, ?_⟩) hS ?_
                rotate_left
                · intro w9 hS9; obtain ⟨q1, q2, q3, q4, q5, q6, q7⟩ := hS9; go_simp; try with_reducible rfl
                try simp only [Act.put]
                try simp only [List.setIfInBounds_toArray]
                try simp only [List.set_cons_zero]
                try simp only [List.set_cons_succ, List.set_cons_zero]
                refine wpAnyH_take (i := 5) (oi := { dst := some 107, op := Op.move (Operand.tmp 12), type := 82, pos := "law.go:205", after := #[], guard := none }) (v := ?_) rfl (by kernel_rfl) (by kernel_rfl) (by kernel_rfl) (fun _ _ _ h => h) (Or.inl ⟨by rfl, ?_⟩) hS ?_
                rotate_left
                · intro w9 hS9; obtain ⟨q1, q2, q3, q4, q5, q6, q7⟩ := hS9; go_simp; try with_reducible rfl
                try simp only [Act.put]
                try simp only [List.setIfInBounds_toArray]
                try simp only [List.set_cons_zero]
                try simp only [List.set_cons_succ, List.set_cons_zero]
                refine wpAnyH_take (i := 6) (oi := { dst := some 108, op := Op.move (Operand.tmp 13), type := 3, pos := "law.go:205", after := #[], guard := none }) (v := ?_) rfl (by kernel_rfl) (by kernel_rfl) (by kernel_rfl) (fun _ _ _ h => h) (Or.inl ⟨by rfl, ?_⟩) hS ?_
                rotate_left
                · intro w9 hS9; obtain ⟨q1, q2, q3, q4, q5, q6, q7⟩ := hS9; go_simp; try with_reducible rfl
                try simp only [Act.put]
                try simp only [List.setIfInBounds_toArray]
                try simp only [List.set_cons_zero]
                try simp only [List.set_cons_succ, List.set_cons_zero]
                refine wpAnyH_take (i := 7) (oi := { dst := some 109, op := Op.indexAddr 82 (Operand.tmp 107) (Operand.tmp 108), type := 0, pos := "law.go:205", after := #[{ on := 5, ground := Ground.data }, { on := 6, ground := Ground.data }], guard := none }) (v := ?_) rfl (by kernel_rfl) (by kernel_rfl) (by kernel_rfl) (fun _ _ _ h => h) (Or.inl ⟨by rfl, ?_⟩) hS ?_
                rotate_left
                · intro w9 hS9; obtain ⟨q1, q2, q3, q4, q5, q6, q7⟩ := hS9; go_simp; try with_reducible rfl
                try simp only [Act.put]
                try simp only [List.setIfInBounds_toArray]
                try simp only [List.set_cons_zero]
                try simp only [List.set_cons_succ, List.set_cons_zero]
                refine wpAnyH_take (i := 8) (oi := { dst := some 110, op := Op.fieldAddr 89 (Operand.tmp 109) 0, type := 0, pos := "law.go:205", after := #[{ on := 7, ground := Ground.data }], guard := none }) (v := ?_) rfl (by kernel_rfl) (by kernel_rfl) (by kernel_rfl) (fun _ _ _ h => h) (Or.inl ⟨by rfl, ?_⟩) hS ?_
                rotate_left
                · intro w9 hS9; obtain ⟨q1, q2, q3, q4, q5, q6, q7⟩ := hS9; go_simp; try with_reducible rfl
                try simp only [Act.put]
                try simp only [List.setIfInBounds_toArray]
                try simp only [List.set_cons_zero]
                try simp only [List.set_cons_succ, List.set_cons_zero]
                refine wpAnyH_take (i := 9) (oi := { dst := some 111, op := Op.load 67 (Operand.tmp 110), type := 67, pos := "law.go:205", after := #[{ on := 8, ground := Ground.data }], guard := none }) (v := ?_) rfl (by kernel_rfl) (by kernel_rfl) (by kernel_rfl) (fun _ _ _ h => h) (Or.inl ⟨by rfl, ?_⟩) hS ?_
                rotate_left
                · intro w9 hS9; obtain ⟨q1, q2, q3, q4, q5, q6, q7⟩ := hS9; go_simp; try with_reducible rfl
                try simp only [Act.put]
                try simp only [List.setIfInBounds_toArray]
                try simp only [List.set_cons_zero]
                try simp only [List.set_cons_succ, List.set_cons_zero]
                refine wpAnyH_ready (rs := [10, 14]) (by kernel_rfl) (by simp) ?_
                refine AllReadyH.cons (o := { dst := some 112, op := Op.call { callee := Callee.value (Operand.func 36), args := #[Operand.tmp 102, Operand.tmp 106, Operand.tmp 111], argTypes := #[62, 27, 67] }, type := 73, pos := "law.go:205", after := #[{ on := 0, ground := Ground.data }, { on := 4, ground := Ground.data }, { on := 9, ground := Ground.data }], guard := none }) rfl (fun K9 hK9 => ?_) ?_
                · go_simp
                  refine (HWHO.out _ hD).mono ?_
                  rintro e v6 ⟨rfl, h6⟩
                  have hB6 := hD.trans (h6.mono hD.size)
                  have hS6 := HSK.out _ hB6
                  refine hK9.out _ _ hS6 (fun hS => ?_)
                  clear hK9 K9
                  try simp only [Act.put]
                  try simp only [List.setIfInBounds_toArray]
                  try simp only [List.set_cons_zero]
                  try simp only [List.set_cons_succ, List.set_cons_zero]
                  refine wpAnyH_take (i := 11) (oi := { dst := some 101, op := Op.move (Operand.tmp 112), type := 73, pos := "law.go:205", after := #[{ on := 10, ground := Ground.data }], guard := none }) (v := ?_) rfl (by kernel_rfl) (by kernel_rfl) (by kernel_rfl) (fun _ _ _ h => h) (Or.inl ⟨by rfl, ?_⟩) hS ?_
                  rotate_left
                  · intro w9 hS9; obtain ⟨q1, q2, q3, q4, q5, q6, q7⟩ := hS9; go_simp; try with_reducible rfl
                  try simp only [Act.put]
                  try simp only [List.setIfInBounds_toArray]
                  try simp only [List.set_cons_zero]
                  try simp only [List.set_cons_succ, List.set_cons_zero]
                  refine wpAnyH_take (i := 12) (oi := { dst := some 113, op := Op.extract (Operand.tmp 101) 0, type := 69, pos := "law.go:205", after := #[{ on := 11, ground := Ground.data }], guard := none }) (v := ?_) rfl (by kernel_rfl) (by kernel_rfl) (by kernel_rfl) (fun _ _ _ h => h) (Or.inl ⟨by rfl, ?_⟩) hS ?_
                  rotate_left
                  · intro w9 hS9; obtain ⟨q1, q2, q3, q4, q5, q6, q7⟩ := hS9; go_simp; try with_reducible rfl
                  try simp only [Act.put]
                  try simp only [List.setIfInBounds_toArray]
                  try simp only [List.set_cons_zero]
                  try simp only [List.set_cons_succ, List.set_cons_zero]
                  refine wpAnyH_take (i := 13) (oi := { dst := some 114, op := Op.extract (Operand.tmp 101) 1, type := 4, pos := "law.go:205", after := #[{ on := 11, ground := Ground.data }, { on := 15, ground := Ground.gcOnly Departure.lateStores }], guard := none }) (v := ?_) rfl (by kernel_rfl) (by kernel_rfl) (by kernel_rfl) (fun _ _ _ h => h) (Or.inl ⟨by rfl, ?_⟩) hS ?_
                  rotate_left
                  · intro w9 hS9; obtain ⟨q1, q2, q3, q4, q5, q6, q7⟩ := hS9; go_simp; try with_reducible rfl
                  try simp only [Act.put]
                  try simp only [List.setIfInBounds_toArray]
                  try simp only [List.set_cons_zero]
                  try simp only [List.set_cons_succ, List.set_cons_zero]
                  refine wpAnyH_ready (rs := [14]) (by kernel_rfl) (by simp) ?_
                  refine AllReadyH.cons (o := { dst := some 14, op := Op.alloc 69, type := 0, pos := "law.go:205", after := #[], guard := none }) rfl (fun K9 hK9 => ?_) AllReadyH.nil
                  have hBa := hB6.alloc hB6.size (.cells #[.string ⟨#[]⟩, .int .i64 0] 69)
                  have hSa := HSK.out _ hBa
                  have hXa := Bx.new v6 #[.string ⟨#[]⟩, .int .i64 0] 69
                  go_simp
                  refine hK9.out _ _ hSa (fun hS => ?_)
                  clear hK9 K9
                  try simp only [Act.put]
                  try simp only [List.setIfInBounds_toArray]
                  try simp only [List.set_cons_zero]
                  try simp only [List.set_cons_succ, List.set_cons_zero]
                  refine wpAnyH_ready (rs := [15]) (by kernel_rfl) (by simp) ?_
                  refine AllReadyH.cons (o := { dst := none, op := Op.store 69 (Operand.tmp 14) (Operand.tmp 113), type := 0, pos := "law.go:205", after := #[{ on := 14, ground := Ground.data }, { on := 12, ground := Ground.data }, { on := 10, ground := Ground.chain }, { on := 0, ground := Ground.phase }, { on := 1, ground := Ground.phase }, { on := 2, ground := Ground.phase }, { on := 3, ground := Ground.phase }, { on := 4, ground := Ground.phase }, { on := 5, ground := Ground.phase }, { on := 6, ground := Ground.phase }, { on := 7, ground := Ground.phase }, { on := 8, ground := Ground.phase }, { on := 9, ground := Ground.phase }, { on := 10, ground := Ground.phase }, { on := 11, ground := Ground.phase }, { on := 12, ground := Ground.phase }, { on := 13, ground := Ground.textOnly Departure.lateStores }, { on := 14, ground := Ground.phase }], guard := none }) rfl (fun K9 hK9 => ?_) AllReadyH.nil
                  have hB7 := below_setRow hBa hB6.size #[.string x.hol.loc, .int .i64 x.hol.pax]
                  have hX7 := hXa.row #[.string x.hol.loc, .int .i64 x.hol.pax]
                  have hS7 := HSK.out _ hB7
                  refine step_store_any 69 rfl (.tmp 14) (.tmp 113) (by rfl) #[.string x.hol.loc, .int .i64 x.hol.pax] (by rfl) (by rfl) hXa info_hol rfl (by simp [Value.oneCell']) ?_
                  refine hK9.out _ _ hS7 (fun hS => ?_)
                  clear hK9 K9
                  try simp only [Act.put]
                  try simp only [List.setIfInBounds_toArray]
                  try simp only [List.set_cons_zero]
                  try simp only [List.set_cons_succ, List.set_cons_zero]
                  refine wpAnyH_take (i := 16) (oi := { dst := some 15, op := Op.assign (Operand.tmp 114), type := 4, pos := "law.go:205", after := #[{ on := 13, ground := Ground.data }, { on := 15, ground := Ground.chain }, { on := 0, ground := Ground.phase }, { on := 1, ground := Ground.phase }, { on := 2, ground := Ground.phase }, { on := 3, ground := Ground.phase }, { on := 4, ground := Ground.phase }, { on := 5, ground := Ground.phase }, { on := 6, ground := Ground.phase }, { on := 7, ground := Ground.phase }, { on := 8, ground := Ground.phase }, { on := 9, ground := Ground.phase }, { on := 10, ground := Ground.phase }, { on := 11, ground := Ground.phase }, { on := 12, ground := Ground.phase }, { on := 13, ground := Ground.phase }, { on := 14, ground := Ground.phase }, { on := 15, ground := Ground.phase }], guard := none }) (v := ?_) rfl (by kernel_rfl) (by kernel_rfl) (by kernel_rfl) (fun _ _ _ h => h) (Or.inl ⟨by rfl, ?_⟩) hS ?_
                  rotate_left
                  · intro w9 hS9; obtain ⟨q1, q2, q3, q4, q5, q6, q7⟩ := hS9; go_simp; try with_reducible rfl
                  try simp only [Act.put]
                  try simp only [List.setIfInBounds_toArray]
                  try simp only [List.set_cons_zero]
                  try simp only [List.set_cons_succ, List.set_cons_zero]
                  refine wpAnyH_done (by kernel_rfl) ?_ _
                  go_wp2
                  go_meet
                  exact ⟨_, rfl, rfl, hX7, hB7⟩
                refine AllReadyH.cons (o := { dst := some 14, op := Op.alloc 69, type := 0, pos := "law.go:205", after := #[], guard := none }) rfl (fun K9 hK9 => ?_) AllReadyH.nil
                have hDa : Below wr.heap.size wr (wr.alloc (.cells #[.string ⟨#[]⟩, .int .i64 0] 69)).drew := ((Below.refl _ _).alloc (Nat.le_refl _) _).drew
                have hSa := HSK.out _ hDa
                have hX0 : Bx (wr.alloc (.cells #[.string ⟨#[]⟩, .int .i64 0] 69)).drew wr.heap.size #[.string ⟨#[]⟩, .int .i64 0] 69 := Bx.new wr #[.string ⟨#[]⟩, .int .i64 0] 69
                go_simp
                refine hK9.out _ _ hSa (fun hS => ?_)
                clear hK9 K9
                try simp only [Act.put]
                try simp only [List.setIfInBounds_toArray]
                try simp only [List.set_cons_zero]
                try simp only [List.set_cons_succ, List.set_cons_zero]
                refine wpAnyH_ready (rs := [10]) (by kernel_rfl) (by simp) ?_
                refine AllReadyH.cons (o := { dst := some 112, op := Op.call { callee := Callee.value (Operand.func 36), args := #[Operand.tmp 102, Operand.tmp 106, Operand.tmp 111], argTypes := #[62, 27, 67] }, type := 73, pos := "law.go:205", after := #[{ on := 0, ground := Ground.data }, { on := 4, ground := Ground.data }, { on := 9, ground := Ground.data }], guard := none }) rfl (fun K9 hK9 => ?_) AllReadyH.nil
                go_simp
                refine (HWHO.out _ hDa).mono ?_
                rintro e v6 ⟨rfl, h6⟩
                have hB6 := hDa.trans (h6.mono hDa.size)
                have hS6 := HSK.out _ hB6
                refine hK9.out _ _ hS6 (fun hS => ?_)
                clear hK9 K9
                try simp only [Act.put]
                try simp only [List.setIfInBounds_toArray]
                try simp only [List.set_cons_zero]
                try simp only [List.set_cons_succ, List.set_cons_zero]
                refine wpAnyH_take (i := 11) (oi := { dst := some 101, op := Op.move (Operand.tmp 112), type := 73, pos := "law.go:205", after := #[{ on := 10, ground := Ground.data }], guard := none }) (v := ?_) rfl (by kernel_rfl) (by kernel_rfl) (by kernel_rfl) (fun _ _ _ h => h) (Or.inl ⟨by rfl, ?_⟩) hS ?_
                rotate_left
                · intro w9 hS9; obtain ⟨q1, q2, q3, q4, q5, q6, q7⟩ := hS9; go_simp; try with_reducible rfl
                try simp only [Act.put]
                try simp only [List.setIfInBounds_toArray]
                try simp only [List.set_cons_zero]
                try simp only [List.set_cons_succ, List.set_cons_zero]
                refine wpAnyH_take (i := 12) (oi := { dst := some 113, op := Op.extract (Operand.tmp 101) 0, type := 69, pos := "law.go:205", after := #[{ on := 11, ground := Ground.data }], guard := none }) (v := ?_) rfl (by kernel_rfl) (by kernel_rfl) (by kernel_rfl) (fun _ _ _ h => h) (Or.inl ⟨by rfl, ?_⟩) hS ?_
                rotate_left
                · intro w9 hS9; obtain ⟨q1, q2, q3, q4, q5, q6, q7⟩ := hS9; go_simp; try with_reducible rfl
                try simp only [Act.put]
                try simp only [List.setIfInBounds_toArray]
                try simp only [List.set_cons_zero]
                try simp only [List.set_cons_succ, List.set_cons_zero]
                refine wpAnyH_take (i := 13) (oi := { dst := some 114, op := Op.extract (Operand.tmp 101) 1, type := 4, pos := "law.go:205", after := #[{ on := 11, ground := Ground.data }, { on := 15, ground := Ground.gcOnly Departure.lateStores }], guard := none }) (v := ?_) rfl (by kernel_rfl) (by kernel_rfl) (by kernel_rfl) (fun _ _ _ h => h) (Or.inl ⟨by rfl, ?_⟩) hS ?_
                rotate_left
                · intro w9 hS9; obtain ⟨q1, q2, q3, q4, q5, q6, q7⟩ := hS9; go_simp; try with_reducible rfl
                try simp only [Act.put]
                try simp only [List.setIfInBounds_toArray]
                try simp only [List.set_cons_zero]
                try simp only [List.set_cons_succ, List.set_cons_zero]
                refine wpAnyH_ready (rs := [15]) (by kernel_rfl) (by simp) ?_
                refine AllReadyH.cons (o := { dst := none, op := Op.store 69 (Operand.tmp 14) (Operand.tmp 113), type := 0, pos := "law.go:205", after := #[{ on := 14, ground := Ground.data }, { on := 12, ground := Ground.data }, { on := 10, ground := Ground.chain }, { on := 0, ground := Ground.phase }, { on := 1, ground := Ground.phase }, { on := 2, ground := Ground.phase }, { on := 3, ground := Ground.phase }, { on := 4, ground := Ground.phase }, { on := 5, ground := Ground.phase }, { on := 6, ground := Ground.phase }, { on := 7, ground := Ground.phase }, { on := 8, ground := Ground.phase }, { on := 9, ground := Ground.phase }, { on := 10, ground := Ground.phase }, { on := 11, ground := Ground.phase }, { on := 12, ground := Ground.phase }, { on := 13, ground := Ground.textOnly Departure.lateStores }, { on := 14, ground := Ground.phase }], guard := none }) rfl (fun K9 hK9 => ?_) AllReadyH.nil
                have hXa := hX0.below h6 (by simp)
                have hB7 := below_setRow hB6 (Nat.le_refl wr.heap.size) #[.string x.hol.loc, .int .i64 x.hol.pax]
                have hX7 := hXa.row #[.string x.hol.loc, .int .i64 x.hol.pax]
                have hS7 := HSK.out _ hB7
                refine step_store_any 69 rfl (.tmp 14) (.tmp 113) (by rfl) #[.string x.hol.loc, .int .i64 x.hol.pax] (by rfl) (by rfl) hXa info_hol rfl (by simp [Value.oneCell']) ?_
                refine hK9.out _ _ hS7 (fun hS => ?_)
                clear hK9 K9
                try simp only [Act.put]
                try simp only [List.setIfInBounds_toArray]
                try simp only [List.set_cons_zero]
                try simp only [List.set_cons_succ, List.set_cons_zero]
                refine wpAnyH_take (i := 16) (oi := { dst := some 15, op := Op.assign (Operand.tmp 114), type := 4, pos := "law.go:205", after := #[{ on := 13, ground := Ground.data }, { on := 15, ground := Ground.chain }, { on := 0, ground := Ground.phase }, { on := 1, ground := Ground.phase }, { on := 2, ground := Ground.phase }, { on := 3, ground := Ground.phase }, { on := 4, ground := Ground.phase }, { on := 5, ground := Ground.phase }, { on := 6, ground := Ground.phase }, { on := 7, ground := Ground.phase }, { on := 8, ground := Ground.phase }, { on := 9, ground := Ground.phase }, { on := 10, ground := Ground.phase }, { on := 11, ground := Ground.phase }, { on := 12, ground := Ground.phase }, { on := 13, ground := Ground.phase }, { on := 14, ground := Ground.phase }, { on := 15, ground := Ground.phase }], guard := none }) (v := ?_) rfl (by kernel_rfl) (by kernel_rfl) (by kernel_rfl) (fun _ _ _ h => h) (Or.inl ⟨by rfl, ?_⟩) hS ?_
                rotate_left
                · intro w9 hS9; obtain ⟨q1, q2, q3, q4, q5, q6, q7⟩ := hS9; go_simp; try with_reducible rfl
                try simp only [Act.put]
                try simp only [List.setIfInBounds_toArray]
                try simp only [List.set_cons_zero]
                try simp only [List.set_cons_succ, List.set_cons_zero]
                refine wpAnyH_done (by kernel_rfl) ?_ _
                go_wp2
                go_meet
                exact ⟨_, rfl, rfl, hX7, hB7⟩
              case rest =>
               as_aux_lemma =>
                obtain ⟨gw, rfl, rfl, bH, hbc⟩ := hcut
                have hSK := HSK.out wc hbc
                obtain ⟨f0, f1, f2, f3, f4, f5, f6⟩ := hSK
                have cH := bH.cells
                have zc := hbc.size
                have zH := bH.lt
                have zb5 : b5 < wc.heap.size := by omega
                have zb6 : b6 < wc.heap.size := by omega
                have HHAS := Lib.hid (fun u : Blw wc => hhas_any (HST.out.keep (hbc.trans (u.b.mono zc))) HR.out g x.seat HGO.out HXO.out.1 HHB.out)
                have hne := fun u => neq_hol x.hol.loc x.hol.loc x.hol.pax x.hol.pax u
                rw [decide_eq_true (rfl : (⟨x.hol.loc, x.hol.pax⟩ : Hol) = ⟨x.hol.loc, x.hol.pax⟩)] at hne
                have HBC := Lib.hid hbc
                clear HSK HWHO hD bH hbc
                go_upto_region 27 with fail
                refine wp_region_below (by kernel_rfl) (by kernel_rfl) ?_
                intro q9
                repeat
                  (refine QH.step (fun K9 hK9 => ?_)
                   go_simp
                   first
                   | (refine hK9 _ ?_; clear hK9 K9)
                   | (apply Exists.intro
                      refine ⟨fun _ => ?_, hK9 _ ?_⟩
                      · first | (with_reducible exact Calls.blw _ (HHAS.out _))
                      clear hK9 K9))
                refine QH.nil_ ?_
                clear q9
                rintro ⟨V9, hV9⟩
                dsimp only
                have HB9 := Lib.hid (HBC.out.trans (hV9.mono zc))
                have g3 := (hV9.cell (p := ⟨b6, o6 + j * 4, none⟩) zb6).trans f3
                have g4 := (hV9.cell (p := ⟨b6, o6 + j * 4 + 1, none⟩) zb6).trans f4
                have zb69 : b6 < V9.heap.size := by have := hV9.size; omega
                have z9 := hV9.size
                clear cH f0 f1 f2 f3 f4 f5 f6 hne HHAS hV9 HBC
                go_upto_region 29 with fail
                as_aux_lemma =>
                rcases Nat.eq_zero_or_pos j with hj0 | hj0
                · subst hj0
                  refine wp_region_below (by kernel_rfl) (by kernel_rfl) ?_
                  intro q9
                  repeat
                    (refine QH.step (fun K9 hK9 => ?_)
                     go_simp
                     first
                     | (refine hK9 _ ?_; clear hK9 K9)
                     | (apply Exists.intro
                        refine ⟨fun _ => ?_, hK9 _ ?_⟩
                        · first | fail
                        clear hK9 K9))
                  refine QH.nil_ ?_
                  clear q9
                  rintro ⟨V9, hV9⟩
                  dsimp only
                  have HB10 := Lib.hid (HB9.out.trans (hV9.mono HB9.out.size))
                  go_wp2
                  go_roundw
                  case rel => exact ⟨1, by omega, by go_num, HBT.out.trans (HB10.out.mono (by omega))⟩
                  case measure => simp [intOf]; omega
                · obtain ⟨j2, rfl⟩ : ∃ j2, j = j2 + 1 := ⟨j - 1, by omega⟩
                  have hbt2 := HBT.out.trans (HB9.out.mono (by omega))
                  obtain ⟨b7, o7, y, hA7, _, hb7, hy6, hyok, e0, e1, e2, e3⟩ := (Sl.below HO6.out.sl hbt2 (Nat.le_refl _)).hld_ (show j2 < n6 by omega)
                  obtain ⟨rfl, rfl⟩ : b6 = b7 ∧ o6 = o7 := by injection hA7 with h; injection h with h1 h2 _; exact ⟨h1, h2⟩
                  have hlt2 : ltHd y x = true := by
                    have h1 := hy6.out
                    have h2 := HX6.out
                    have h3 := List.pairwise_iff_getElem.1 hr6 j2 (j2 + 1) (List.getElem?_eq_some_iff.1 h1).1 (List.getElem?_eq_some_iff.1 h2).1 (by omega)
                    rwa [(List.getElem?_eq_some_iff.1 h1).2, (List.getElem?_eq_some_iff.1 h2).2] at h3
                  have hwr : IntKind.i64.wrap (((j2 + 1 : Nat) : Int) - 1) = (j2 : Int) := by rw [IntKind.wrap_i64]; omega
                  have hwr2 : IntKind.i64.wrap ((j2 : Int) + 1 - 1) = (j2 : Int) := by rw [IntKind.wrap_i64]; omega
                  have hwr3 : IntKind.i64.wrap (j2 : Int) = (j2 : Int) := by rw [IntKind.wrap_i64]; omega
                  have t01 : decide (0 < (j2 : Int) + 1) = true := decide_eq_true (by omega)
                  have t02 : decide ((j2 : Int) + 1 > 0) = true := decide_eq_true (by omega)
                  have j3 : (0 : Int) ≤ (j2 : Int) + 1 := by omega
                  have j4 : (j2 : Int) + 1 < n6 := by omega
                  have k0 : (0 : Int) ≤ j2 := by omega
                  have k1 : (j2 : Int) < n6 := by omega
                  have t0 : decide (((j2 + 1 : Nat) : Int) > 0) = true := decide_eq_true (by omega)
                  clear hy6 hyok hbt2 e2 e3 hA7
                  rcases ltHd_cases hlt2 with hc | ⟨hc1, hc2⟩
                  · have t1 : decide (y.seat.row > x.seat.row) = false := decide_eq_false (by omega)
                    have t2 : (y.seat.row == x.seat.row) = false := beq_eq_false_iff_ne.2 (by omega)
                    clear hc hlt2
                    refine wp_region_below (by kernel_rfl) (by kernel_rfl) ?_
                    intro q9
                    repeat
                      (refine QH.step (fun K9 hK9 => ?_)
                       go_simp
                       first
                       | (refine hK9 _ ?_; clear hK9 K9)
                       | (apply Exists.intro
                          refine ⟨fun _ => ?_, hK9 _ ?_⟩
                          · first | fail
                          clear hK9 K9))
                    refine QH.nil_ ?_
                    clear q9
                    rintro ⟨V9, hV9⟩
                    dsimp only
                    have HB10 := Lib.hid (HB9.out.trans (hV9.mono HB9.out.size))
                    go_wp2
                    go_roundw
                    case rel => exact ⟨j2 + 1 + 1, by omega, by go_num, HBT.out.trans (HB10.out.mono (by omega))⟩
                    case measure => simp [intOf]; omega
                  · have t1 : decide (y.seat.row > x.seat.row) = false := decide_eq_false (by omega)
                    have t2 : (y.seat.row == x.seat.row) = true := by simp [hc1]
                    have t3 : decide (y.seat.let_ ≥ x.seat.let_) = false := decide_eq_false (by omega)
                    clear hc1 hc2 hlt2
                    refine wp_region_below (by kernel_rfl) (by kernel_rfl) ?_
                    intro q9
                    repeat
                      (refine QH.step (fun K9 hK9 => ?_)
                       go_simp
                       first
                       | (refine hK9 _ ?_; clear hK9 K9)
                       | (apply Exists.intro
                          refine ⟨fun _ => ?_, hK9 _ ?_⟩
                          · first | fail
                          clear hK9 K9))
                    refine QH.nil_ ?_
                    clear q9
                    rintro ⟨V9, hV9⟩
                    dsimp only
                    have HB10 := Lib.hid (HB9.out.trans (hV9.mono HB9.out.size))
                    go_wp2
                    go_roundw
                    case rel => exact ⟨j2 + 1 + 1, by omega, by go_num, HBT.out.trans (HB10.out.mono (by omega))⟩
                    case measure => simp [intOf]; omega
            · obtain rfl : n6 = j := by omega
              have HBT := Lib.hid hb
              clear hb
              go_wp2
              go_roundw
              case rel => exact ⟨i + 1, m7, hi6, by go_num, by go_num, HREM2, HBR.out.trans ((HB6.out.trans (HBT.out.mono HB6.out.size)).mono zr5)⟩
              case measure => simp [intOf]; omega
        · obtain rfl : n5 = i := by omega
          have hl5 : out5.length = n5 := HO5.out.sl.len
          have hz0 : m5 = 0 := by
            rw [HREM.out, ← hl5]
            exact remH_all fun c hc => (hm5 c.leg).2 ⟨c, (HEN.out.mem c).2 hc, rfl⟩
          subst hz0
          have HBR := Lib.hid hb
          clear hb
          go_wp2
          go_ret
          exact ⟨rfl, HB5.out.trans (HBR.out.mono HB5.out.size)⟩
end Go.Proofs.YtlkdefmceghmnaaGreat
