/- The document's Has: cut out of XHp3. By program. -/
import Derived.Test.YtlkdefmceghmnaaGreatDoorMHb
import Derived.Test.YtlkdefmceghmnaaGreatDoorFlRef2
import Derived.Test.YtlkdefmceghmnaaGreatDoorLegEq
namespace Go.Proofs.YtlkdefmceghmnaaGreatDoor
set_option linter.unusedVariables false
open Go Go.RowKit Go.Sort
/-- Has a leg that seat, by the document? -/
def hasD (rl : List FlR) (pl : List PlR) (c : Hpl) : Bool := fliesF (rl.map (·.f)) c.leg && (match pl[(plnF rl c.leg.key).toNat]? with | some r => hasR r.p c.seat | none => false)
theorem plnF_is (rs : List FlR) (k : Key) : plnF rs k = match findF (rs.map (·.f)) k with | some f => f.pln | none => 0 := by
  unfold plnF
  rw [findR_f]
  cases findR rs k <;> rfl
theorem plnF_eq {rl rs : List FlR} (ht : Tab (rl.map (·.f)) (rs.map (·.f))) (k : Key) : plnF rs k = plnF rl k := by
  rw [plnF_is, plnF_is, ht.find]
theorem hasB_D {rl rs : List FlR} {pl : List PlR} {ps : List PlM} (ht : Tab (rl.map (·.f)) (rs.map (·.f))) (hk : PlKs pl ps pl.length) (c : Hpl) : hasB rs ps c = hasD rl pl c := by
  unfold hasB hasD
  rw [ht.flies, plnF_eq ht]
  generalize (plnF rl c.leg.key).toNat = k
  congr 1
  cases h : pl[k]? with
  | some r =>
    obtain ⟨x, h1, h2⟩ := hk.2 k r (List.getElem?_eq_some_iff.1 h).1 h
    rw [h1]
    exact h2.2 c.seat
  | none =>
    have h1 : ps[k]? = none := List.getElem?_eq_none (by rw [hk.1]; exact List.getElem?_eq_none_iff.1 h)
    rw [h1]
theorem rfind_is {rl : List FlR} {A : Option Addr} {n c : Nat} {k : Key} {pn : Int} {w : World} {lo hi : Nat} (hpl : plnF rl k = pn) (hs : FlS w lo hi A n rl) (hn : n ≤ 100000) (hhi : hi ≤ w.heap.size) :
    Calls Tryz.prog 58 #[.slice A n c, .agg #[.string k.car, .int .i64 k.num]] w fun e w' => ∃ s0 z1 s2 s3 z4 z5 z6 A6 n6 c6 bb, e = .returned (.tuple #[.agg #[.string s0, .int .i64 z1, .string s2, .string s3, .int .u8 z4, .int .i64 z5, .int .i64 z6, .slice A6 n6 c6, .int .i64 pn], .bool bb]) ∧ Below w.heap.size w w' := by
  refine (rfind_any rl A n c k w lo hi hs hn hhi).mono fun e w' h => ?_
  unfold plnF at hpl
  cases hf : findR rl k with
  | none =>
    rw [hf] at hpl h
    obtain ⟨h1, h2⟩ := h
    subst hpl
    exact ⟨_, _, _, _, _, _, _, _, _, _, _, h1, h2⟩
  | some r =>
    rw [hf] at hpl h
    obtain ⟨h1, h2⟩ := h
    subst hpl
    exact ⟨_, _, _, _, _, _, _, _, _, _, _, h1, h2⟩
set_option maxRecDepth 100000 in
set_option maxHeartbeats 8000000 in
theorem rhasD_any (rl : List FlR) (A : Option Addr) (n c : Nat) (pl : List PlR) (A2 : Option Addr) (n2 c2 : Nat) (g : Leg) (s : Sit) (w : World) (lo hi : Nat) (hs : FlS w lo hi A n rl) (hp : PlS w lo hi A2 n2 pl) (hn : n ≤ 100000) (hhi : hi ≤ w.heap.size) (hd : ∀ r ∈ pl, hdR r.p = true) (hr : ∀ f ∈ rl.map (·.f), rightB f = true) {q0 : Bool} (hq : hasD rl pl ⟨g, s⟩ = q0) :
    Calls Tryz.prog 26 #[.slice A n c, .slice A2 n2 c2, .agg #[.string g.key.car, .int .i64 g.key.num, .int .i64 g.day], .agg #[.int .i64 s.row, .int .u8 s.let_]] w fun e w' => e = .returned (.bool q0) ∧ Below w.heap.size w w' := by
  have HFS := Lib.hid hs
  have HPS := Lib.hid hp
  have HD := Lib.hid hd
  have HL2 := Lib.hid hp.sl.len
  have HQ := Lib.hid hq
  generalize hfl : fliesF (rl.map (·.f)) g = fl
  have HFL := Lib.hid hfl
  obtain ⟨pn, hpn⟩ : ∃ pn, plnF rl g.key = pn := ⟨_, rfl⟩
  have hbd := plnF_bd (fun r hr2 => hr r.f (List.mem_map_of_mem hr2)) g.key (rs := rl)
  rw [hpn] at hbd
  obtain ⟨k, rfl⟩ := Int.eq_ofNat_of_zero_le hbd.1
  have HPN := Lib.hid hpn
  have HB : (Bx ((w.alloc (.cells #[.string g.key.car, .int .i64 g.key.num, .int .i64 g.day] 74)).alloc (.cells #[.int .i64 s.row, .int .u8 s.let_] 82)) w.heap.size #[.string g.key.car, .int .i64 g.key.num, .int .i64 g.day] 74 ∧ Bx ((w.alloc (.cells #[.string g.key.car, .int .i64 g.key.num, .int .i64 g.day] 74)).alloc (.cells #[.int .i64 s.row, .int .u8 s.let_] 82)) (w.heap.size + 1) #[.int .i64 s.row, .int .u8 s.let_] 82) ∧ Below w.heap.size w ((w.alloc (.cells #[.string g.key.car, .int .i64 g.key.num, .int .i64 g.day] 74)).alloc (.cells #[.int .i64 s.row, .int .u8 s.let_] 82)) := by
    have h2 := two_boxes w #[.string g.key.car, .int .i64 g.key.num, .int .i64 g.day] #[.int .i64 s.row, .int .u8 s.let_] 74 82
    exact ⟨⟨h2.1, h2.2.1⟩, h2.2.2.below⟩
  clear hs hp hd hr hq hfl hpn hbd
  go_enter Tryz.func26, Tryz.ntmps26
  go_upto_region 1 with fail
  refine wp_world (fun V => (Bx V w.heap.size #[.string g.key.car, .int .i64 g.key.num, .int .i64 g.day] 74 ∧ Bx V (w.heap.size + 1) #[.int .i64 s.row, .int .u8 s.let_] 82) ∧ Below w.heap.size w V) HB ?_
  clear HB
  rintro V ⟨⟨b1, b2⟩, hb⟩
  have HB1 := Lib.hid b1
  have HB2 := Lib.hid b2
  have HBV := Lib.hid hb
  have zV := hb.size
  have cc1 := b1.cells
  have cc2 := b2.cells
  clear b1 b2 hb
  go_wp2_with fail
  refine (rflies_any rl A n c g V lo hi (HFS.out.below HBV.out hhi) hn (Nat.le_trans hhi zV)).mono ?_
  rintro e w1 ⟨rfl, h1⟩
  rw [HFL.out]
  have HB1 := Lib.hid (HB1.out.below h1 HB1.out.lt)
  have HB2 := Lib.hid (HB2.out.below h1 HB2.out.lt)
  have HBV := Lib.hid (HBV.out.trans (h1.mono HBV.out.size))
  have z1 := HBV.out.size
  have zz1 := h1.size
  clear cc1 cc2
  clear h1
  have cc1 := HB1.out.cells
  have cc2 := HB2.out.cells
  rcases fl with _ | _
  · have HN : Hid (false = q0) := by show _ = _; rw [← HQ.out]; unfold hasD; rw [HFL.out]; rfl
    go_wp2
    go_ret
    exact ⟨ret_bool HN.out, HBV.out⟩
  go_wp2_with fail
  refine (rfind_is HPN.out (HFS.out.below HBV.out hhi) hn (Nat.le_trans hhi z1)).mono ?_
  rintro e w2 ⟨s0, z1', s2, s3, z4, z5, z6, A6, n6, c6, bb, rfl, h2⟩
  have HB1 := Lib.hid (HB1.out.below h2 HB1.out.lt)
  have HB2 := Lib.hid (HB2.out.below h2 HB2.out.lt)
  have HBV := Lib.hid (HBV.out.trans (h2.mono HBV.out.size))
  have z2 := HBV.out.size
  have zz2 := h2.size
  clear cc1 cc2
  clear h2
  have cc1 := HB1.out.cells
  have cc2 := HB2.out.cells
  go_upto_region 4 with fail
  refine wp_world (fun V3 => Bx V3 w2.heap.size #[.string s0, .int .i64 z1', .string s2, .string s3, .int .u8 z4, .int .i64 z5, .int .i64 z6, .slice A6 n6 c6, .int .i64 k] 55 ∧ Below w2.heap.size w2 V3) ⟨Bx.new _ _ _, (Below.refl _ _).alloc (Nat.le_refl _) _⟩ ?_
  rintro V3 ⟨bF, h3⟩
  have HB1 := Lib.hid (HB1.out.below h3 HB1.out.lt)
  have HB2 := Lib.hid (HB2.out.below h3 HB2.out.lt)
  have HBV := Lib.hid (HBV.out.trans (h3.mono HBV.out.size))
  have z3 := HBV.out.size
  have zz3 := h3.size
  clear cc1 cc2
  clear h3
  have cc1 := HB1.out.cells
  have cc2 := HB2.out.cells
  have cF := bF.cells
  have zF := bF.lt
  have zb1 := HB1.out.lt
  have zb2 := HB2.out.lt
  clear bF
  by_cases hk : k < n2
  rotate_left
  · have t1 : decide ((k : Int) < n2) = false := decide_eq_false (by omega)
    have t1b : decide (k < n2) = false := decide_eq_false (by omega)
    have HN : Hid (false = q0) := by
      show _ = _
      rw [← HQ.out]
      unfold hasD
      rw [HFL.out, HPN.out, List.getElem?_eq_none (by rw [HL2.out]; show n2 ≤ ((k : Int)).toNat; omega)]
      rfl
    clear hk
    refine wp_region_below (by kernel_rfl) (by kernel_rfl) ?_
    intro q9
    repeat
      (refine QH.step (fun K9 hK9 => ?_)
       go_simp
       first
       | (refine hK9 _ ?_; clear hK9 K9)
       | (apply Exists.intro
          refine ⟨fun _ => ?_, hK9 _ ?_⟩
          · first | fail
          clear hK9 K9))
    refine QH.nil_ ?_
    clear q9
    rintro ⟨V9, hV9⟩
    dsimp only
    go_wp2
    go_ret
    exact ⟨ret_bool HN.out, HBV.out.trans (hV9.mono z3)⟩
  · have t1 : decide ((k : Int) < n2) = true := decide_eq_true (by omega)
    have t1b : decide (k < n2) = true := decide_eq_true (by omega)
    have HP3 := Lib.hid (HPS.out.below HBV.out hhi)
    obtain ⟨b0, o0, r, hA, _, hb0, hx, hwf, d0, d1, d2, d3, d4⟩ := HP3.out.pl_ hk
    subst hA
    have i0 : (0 : Int) ≤ k := by omega
    have i1 : (k : Int) < n2 := by omega
    have hb0w : b0 < V3.heap.size := by omega
    have hmem := List.mem_of_getElem? hx.out
    obtain ⟨l2, hl2, h10, f1, f2, f3, _⟩ := hdR_facts (HD.out r hmem)
    have HQ2 : Hid (hasR r.p s = q0) := by
      show _ = _
      rw [← HQ.out]
      unfold hasD
      rw [HFL.out, HPN.out]
      show _ = (true && (match pl[((k : Int)).toNat]? with | some r => hasR r.p s | none => false))
      rw [show ((k : Int)).toNat = k from rfl, hx.out]
      rfl
    have HAT := Lib.hid (HP3.out.at_ r hmem)
    have HH := Lib.hid (fun u : Blw V3 => phasR_any r s u.W lo hi hwf.1 (HAT.out.below u.b (Nat.le_trans hhi z3)) (Nat.le_trans (Nat.le_trans hhi z3) u.b.size) hwf.2.2 f1 f2 f3 hl2 h10 HQ2.out)
    clear hk hmem hx hwf
    refine wp_region_below (by kernel_rfl) (by kernel_rfl) ?_
    intro q9
    repeat
      (refine QH.step (fun K9 hK9 => ?_)
       go_simp
       first
       | (refine hK9 _ ?_; clear hK9 K9)
       | (apply Exists.intro
          refine ⟨fun _ => ?_, hK9 _ ?_⟩
          · first | (with_reducible exact Calls.blw _ (HH.out _))
          clear hK9 K9))
    refine QH.nil_ ?_
    clear q9
    rintro ⟨V9, hV9⟩
    dsimp only
    go_wp2
    go_ret
    exact ⟨ret_bool rfl, HBV.out.trans (hV9.mono z3)⟩
end Go.Proofs.YtlkdefmceghmnaaGreatDoor
