/- FlightLinks is true of every input. -/
import Derived.Test.YtodholjbefifeaaDoorFlHas
import Derived.Test.YtodholjbefifeaaDoorFlKq
import Derived.BigRegion
import Derived.Deep.RegionHeld3
import Derived.Test.YtodholjbefifeaaDoorFlSmall
namespace Go.Proofs.YtodholjbefifeaaDoor
set_option linter.unusedVariables false
open Go Go.RowKit Go.Sort
set_option maxRecDepth 100000 in
set_option maxHeartbeats 8000000 in
theorem flightLinks_any (rl : List FlR) (A : Option Addr) (n c : Nat) (d : Int) (fr to_ : ByteArray) (w : World) (hs : FlS w 0 w.heap.size A n rl) (hn : n ≤ 9223372036854775807) :
    Calls Tryd.prog 5 #[.slice A n c, .int .i64 d, .string fr, .string to_] w (RetB w true) := by
  have HS := Lib.hid hs
  have HL := Lib.hid hs.sl.len
  have hnl := eql_tab
  have hnl0 := eql_tab0
  clear hs
  go_enter Tryd.func5, Tryd.ntmps5
  go_wp2_with fail
  refine (awake_any w).mono ?_
  rintro e w1 ⟨rfl, hb1⟩
  go_wp2_with fail
  refine (few_any rl A n c w1 0 w.heap.size (HS.out.below hb1 (Nat.le_refl _)) hn).mono ?_
  rintro e w2 ⟨q, rfl, rfl, hfew⟩
  rcases q with _ | _
  · go_wp2
    go_ret
    exact ⟨rfl, hb1⟩
  obtain ⟨hn3, hsm3⟩ := hfew rfl
  have HSM : Hid (∀ r ∈ rl, r.n ≤ 100000) := fun r hr => Nat.le_trans (hsm3 r hr) (by omega)
  clear hfew hsm3
  go_wp2_with fail
  refine (copied_law rl A n c w1 0 w.heap.size (HS.out.below hb1 (Nat.le_refl _)) (by omega) hb1.size HSM.out).mono ?_
  rintro e w2 ⟨A2, n2, c2, mine, rfl, ho2, hm2, h2⟩
  have hb2 := hb1.trans (h2.mono hb1.size)
  have hn2 : n2 ≤ 3000 := by have h5 := congrArg List.length hm2; have h6 := ho2.own.sl.len; have h7 := HL.out; simp only [List.length_map] at h5; omega
  have hsm2 : ∀ r ∈ mine, r.n ≤ 100000 := fun r hr => by
    have h5 : r.f ∈ rl.map (·.f) := by rw [← hm2]; exact List.mem_map_of_mem hr
    obtain ⟨r', hr', e'⟩ := List.mem_map.1 h5
    have h6 := (ho2.own.wf r hr).len
    have h7 := (HS.out.sl.wf r' hr').len
    rw [e', h6] at h7
    rw [h7]
    exact HSM.out r' hr'
  go_wp2_with fail
  refine (new_any mine A2 n2 c2 w2 w1.heap.size w2.heap.size ho2.sl (by omega) (Nat.le_refl _) hsm2).mono ?_
  rintro e w3 hq
  unfold NewQ at hq
  rw [hm2] at hq
  obtain ⟨h3, hq⟩ := hq
  have hb3 := hb2.trans (h3.mono hb2.size)
  have hz3 := hb3.size
  clear hsm2 hm2 ho2
  rcases hq with ⟨hbad, rfl⟩ | ⟨hnew, p, rs, rfl, ht, htab⟩
  · generalize hcode : newF (rl.map (·.f)) = code at hbad
    have hbad' : (code != 0) = true := by simpa using hbad
    clear hcode hbad
    go_wp2
    go_ret
    exact ⟨rfl, hb3⟩
  · clear hnew
    have HTAB := Lib.hid htab
    clear htab
    go_wp2_with fail
    refine (tlinks_any rs p _ d fr to_ w3 ht HTAB.out.nokL (TB.right HTAB.out)).mono ?_
    rintro e w4 ⟨A4, n4, c4, got, rfl, ho4, hm4, h4⟩
    have ht4 := ht.keep h4
    have hb4 := hb3.trans (h4.mono hz3)
    have hz4 := hb4.size
    have HM := Lib.hid hm4
    have HG := Lib.hid ho4
    have HT := Lib.hid ht4
    have HB := Lib.hid hb4
    have hn4 : n4 ≤ 100000 := by
      have h5 := congrArg List.length hm4
      have h6 := ho4.own.sl.len
      have h7 : (linksF (rs.map (·.f)) d fr to_).length ≤ 64 * 64 := by
        refine Nat.le_trans (links_len _ _ _ _) ?_
        rw [List.length_map]
        exact Nat.mul_le_mul ht4.most ht4.most
      simp only [List.length_map] at h5
      omega
    clear ht hb3 hz3 hm4 ho4 ht4 hb4 h2 h3 hb1 hb2 h4
    go_wp2
    go_loopw [12] (fun i wr => ∃ k : Nat, k ≤ n4 ∧ i = .int .i64 k ∧ Below w4.heap.size w4 wr) (fun i _ => n4 - (intOf i).toNat)
    case atStart => exact ⟨0, by omega, rfl, Below.refl _ _⟩
    case round =>
      obtain ⟨k, hk, rfl, hb⟩ := hrel
      by_cases hlt : k < n4
      · obtain ⟨b0, o0, x, y, hA, _, hb0, hx, hxok, hyok, d0, d1, d2, d3, d4, d5, d6, d7, d8, e0, e1, e2, e3, e4, e5, e6, e7, e8⟩ := (Sl.below HG.out.own.sl hb (Nat.le_refl _)).par_ hlt
        subst hA
        have i0 : (0 : Int) ≤ k := by omega
        have i1 : (k : Int) < n4 := by omega
        have t1 : decide ((k : Int) < n4) = true := by simp; omega
        have HOX := Lib.hid hxok
        have HOY := Lib.hid hyok
        have HX := Lib.hid hx
        have hzr := hb.size
        clear hxok hyok
        go_upto_region 12 with fail
        go_cut [13, 14] (fun t u w' => ∃ g1 g2, t = .pointer (some ⟨g1, 0, none⟩) ∧ u = .pointer (some ⟨g2, 0, none⟩) ∧ Bx w' g1 #[.string x.f.car, .int .i64 x.f.num, .string x.f.frm, .string x.f.to_, .int .u8 x.f.days, .int .i64 x.f.dep, .int .i64 x.f.arr, .slice x.A x.n x.c, .int .i64 x.f.pln] 26 ∧ Bx w' g2 #[.string y.f.car, .int .i64 y.f.num, .string y.f.frm, .string y.f.to_, .int .u8 y.f.days, .int .i64 y.f.dep, .int .i64 y.f.arr, .slice y.A y.n y.c, .int .i64 y.f.pln] 26 ∧ Below w4.heap.size w4 w')
        case first =>
          go_region_held3 (fun w' => (w'.cell? ⟨b0, o0 + k * 18, none⟩ = some (.string x.f.car) ∧ w'.cell? ⟨b0, o0 + k * 18 + 1, none⟩ = some (.int .i64 x.f.num) ∧ w'.cell? ⟨b0, o0 + k * 18 + 2, none⟩ = some (.string x.f.frm) ∧ w'.cell? ⟨b0, o0 + k * 18 + 3, none⟩ = some (.string x.f.to_) ∧ w'.cell? ⟨b0, o0 + k * 18 + 4, none⟩ = some (.int .u8 x.f.days) ∧ w'.cell? ⟨b0, o0 + k * 18 + 5, none⟩ = some (.int .i64 x.f.dep) ∧ w'.cell? ⟨b0, o0 + k * 18 + 6, none⟩ = some (.int .i64 x.f.arr) ∧ w'.cell? ⟨b0, o0 + k * 18 + 7, none⟩ = some (.slice x.A x.n x.c) ∧ w'.cell? ⟨b0, o0 + k * 18 + 8, none⟩ = some (.int .i64 x.f.pln)) ∧ (w'.cell? ⟨b0, o0 + k * 18 + 9, none⟩ = some (.string y.f.car) ∧ w'.cell? ⟨b0, o0 + k * 18 + 9 + 1, none⟩ = some (.int .i64 y.f.num) ∧ w'.cell? ⟨b0, o0 + k * 18 + 9 + 2, none⟩ = some (.string y.f.frm) ∧ w'.cell? ⟨b0, o0 + k * 18 + 9 + 3, none⟩ = some (.string y.f.to_) ∧ w'.cell? ⟨b0, o0 + k * 18 + 9 + 4, none⟩ = some (.int .u8 y.f.days) ∧ w'.cell? ⟨b0, o0 + k * 18 + 9 + 5, none⟩ = some (.int .i64 y.f.dep) ∧ w'.cell? ⟨b0, o0 + k * 18 + 9 + 6, none⟩ = some (.int .i64 y.f.arr) ∧ w'.cell? ⟨b0, o0 + k * 18 + 9 + 7, none⟩ = some (.slice y.A y.n y.c) ∧ w'.cell? ⟨b0, o0 + k * 18 + 9 + 8, none⟩ = some (.int .i64 y.f.pln))) (go_keep) (fail)
          all_goals go_wp2
          all_goals go_meet
          all_goals refine ⟨_, _, rfl, rfl, ?_, ?_, hb.trans (Below.mono (Bx.two3 _ _ _ _ _) hzr)⟩
          all_goals first | exact Bx.two1 _ _ _ _ _ | exact Bx.two2 _ _ _ _ _
        case rest =>
          obtain ⟨g1, g2, rfl, rfl, bx, bz, hb5⟩ := hcut
          clear d0 d1 d2 d3 d4 d5 d6 d7 d8 e0 e1 e2 e3 e4 e5 e6 e7 e8 hb hzr hx
          have hz5 := hb5.size
          have z1 := bx.lt
          have z2 := bz.lt
          have hmem : (x.f, y.f) ∈ linksF (rs.map (·.f)) d fr to_ := by
            rw [← HM.out]
            exact List.mem_map_of_mem (f := parF) (List.mem_of_getElem? HX.out)
          obtain ⟨p1, p2, p3, p4⟩ := links_two HTAB.out.nokL hmem
          dsimp only at p1 p2 p3 p4
          obtain ⟨⟨r1, _⟩, ⟨r2, _⟩, _⟩ := (mem_links HTAB.out.nokL).1 hmem
          dsimp only at r1 r2
          have hxn : x.n ≤ 100000 := small_of HT.out HOX.out r1
          have hyn : y.n ≤ 100000 := small_of HT.out HOY.out r2
          obtain ⟨m1, m2, m3, m4⟩ := right_min (HTAB.out.right x.f ((HTAB.out.mem _).1 r1))
          have hwr : IntKind.i64.wrap (x.f.arr + 45) = x.f.arr + 45 := IntWalk.i64_in _ (by omega)
          have t2 : decide (y.f.dep < x.f.arr + 45) = false := decide_eq_false (by omega)
          have t3 : decide (x.f.arr < x.f.dep) = false := decide_eq_false (by omega)
          have hxy := par_mem HX.out
          have HH1 := Lib.hid (fun (V W : World) A6 n6 c6 out6 (ho : OwnF W 26 54 V.heap.size (.slice A6 n6 c6) out6) hm (hW : Below wc.heap.size wc W) => has_tab (c := c6) HTAB.out.nokL HT.out ho hm p1 HOX.out ((HG.out.cl x hxy.1).at_.below (hb5.trans (hW.mono hz5)) (Nat.le_refl _)) hxn (Nat.le_trans hz5 hW.size))
          have HH2 := Lib.hid (fun (V W : World) A6 n6 c6 out6 (ho : OwnF W 26 54 V.heap.size (.slice A6 n6 c6) out6) hm (hW : Below wc.heap.size wc W) => has_tab (c := c6) HTAB.out.nokL HT.out ho hm p2 HOY.out ((HG.out.cl y hxy.2).at_.below (hb5.trans (hW.mono hz5)) (Nat.le_refl _)) hyn (Nat.le_trans hz5 hW.size))
          have HBT := Lib.hid (fun (W : World) a b (hW : Below wc.heap.size wc W) => tbetween_any rs p _ d a b W (HT.out.keep (hb5.trans (hW.mono hz5))) HTAB.out.nokL)
          have HSK := Lib.hid (fun (W : World) (hW : Below wc.heap.size wc W) => (⟨(bx.below hW z1).cells, (bz.below hW z2).cells⟩ : (∀ i : Nat, W.cell? ⟨g1, i, none⟩ = (#[.string x.f.car, .int .i64 x.f.num, .string x.f.frm, .string x.f.to_, .int .u8 x.f.days, .int .i64 x.f.dep, .int .i64 x.f.arr, .slice x.A x.n x.c, .int .i64 x.f.pln] : Array Value)[i]?) ∧ (∀ i : Nat, W.cell? ⟨g2, i, none⟩ = (#[.string y.f.car, .int .i64 y.f.num, .string y.f.frm, .string y.f.to_, .int .u8 y.f.days, .int .i64 y.f.dep, .int .i64 y.f.arr, .slice y.A y.n y.c, .int .i64 y.f.pln] : Array Value)[i]?)))
          have HBX := Lib.hid bx
          have HBZ := Lib.hid bz
          have hD := (Below.refl wc.heap.size wc).drew
          clear hmem p1 p2 p3 p4 r1 r2 hxn hyn hxy bx bz
          go_upto_region 13 with fail
          go_region_held3 (fun w' => (∀ i : Nat, w'.cell? ⟨g1, i, none⟩ = (#[.string x.f.car, .int .i64 x.f.num, .string x.f.frm, .string x.f.to_, .int .u8 x.f.days, .int .i64 x.f.dep, .int .i64 x.f.arr, .slice x.A x.n x.c, .int .i64 x.f.pln] : Array Value)[i]?) ∧ (∀ i : Nat, w'.cell? ⟨g2, i, none⟩ = (#[.string y.f.car, .int .i64 y.f.num, .string y.f.frm, .string y.f.to_, .int .u8 y.f.days, .int .i64 y.f.dep, .int .i64 y.f.arr, .slice y.A y.n y.c, .int .i64 y.f.pln] : Array Value)[i]?)) (first | (with_reducible exact HSK.out _ hB9) | (with_reducible exact HSK.out _ hB8) | (with_reducible exact HSK.out _ hB7) | (with_reducible exact HSK.out _ hB6) | (with_reducible exact HSK.out _ hD)) (first
            | (go_at_call 19; (with_reducible refine (HBT.out _ _ _ hD).mono ?_); rintro e w6 ⟨A6, n6, c6, out6, rfl, ho6, hm6, h6⟩; have hB6 := hD.trans (h6.mono hD.size))
            | (go_at_call 23; (with_reducible refine (HH1.out _ _ _ _ _ _ ho6 hm6 hB6).mono ?_); rintro e w7 ⟨rfl, h7⟩; have hB7 := hB6.trans (h7.mono hB6.size))
            | (go_at_call 19; (with_reducible refine (HBT.out _ _ _ hB7).mono ?_); rintro e w8 ⟨A8, n8, c8, out8, rfl, ho8, hm8, h8⟩; have hB8 := hB7.trans (h8.mono hB7.size))
            | (go_at_call 23; (with_reducible refine (HH2.out _ _ _ _ _ _ ho8 hm8 hB8).mono ?_); rintro e w9 ⟨rfl, h9⟩; have hB9 := hB8.trans (h9.mono hB8.size)))
          go_wp2
          go_loopw [15] (fun i wr => ∃ m : Nat, m ≤ k ∧ i = .int .i64 m ∧ Below wc.heap.size wc wr) (fun i _ => k - (intOf i).toNat)
          case atStart => exact ⟨0, by omega, rfl, hB9⟩
          case round =>
            clear hB6 hB7 hB8 hB9 ho6 ho8 hm6 hm8 h6 h7 h8 h9
            obtain ⟨m, hm, rfl, hbm⟩ := hrel
            by_cases hml : m < k
            · obtain ⟨b1, o1, x2, y2, hA, _, _, hx2, _, _, d0, d1, d2, d3, d4, d5, d6, d7, d8, e0, e1, e2, e3, e4, e5, e6, e7, e8⟩ := (Sl.below HG.out.own.sl (hb5.trans (hbm.mono hz5)) (Nat.le_refl _)).par_ (show m < n4 by omega)
              injection hA with hA
              injection hA with q1 q2
              subst q1 q2
              have c1 := (HBX.out.below hbm z1).cells
              have c2 := (HBZ.out.below hbm z2).cells
              have j0 : (0 : Int) ≤ m := by omega
              have j1 : (m : Int) < n4 := by omega
              have t4 : decide ((m : Int) < k) = true := by simp; omega
              have HN := Lib.hid (fun (q1 : x2.f.key = x.f.key) (q2 : y2.f.key = y.f.key) => links_apart HTAB.out.nokL (d := d) (a := fr) (b := to_) (i := k) (k := m) (x := (x.f, y.f)) (y := (x2.f, y2.f)) (by rw [← HM.out, List.getElem?_map, HX.out]; rfl) (by rw [← HM.out, List.getElem?_map, hx2.out]; rfl) hml q1 q2)
              have hk1 := fun u => eql_key x2.f.car x.f.car x2.f.num x.f.num u
              have hk2 := fun u => eql_key y2.f.car y.f.car y2.f.num y.f.num u
              have hdec1 : (decide (x2.f.car = x.f.car) && (decide (x2.f.num = x.f.num))) = decide (x2.f.key = x.f.key) := by unfold Flt.key; rw [Bool.eq_iff_iff]; simp
              have hdec2 : (decide (y2.f.car = y.f.car) && (decide (y2.f.num = y.f.num))) = decide (y2.f.key = y.f.key) := by unfold Flt.key; rw [Bool.eq_iff_iff]; simp
              rw [hdec1] at hk1
              rw [hdec2] at hk2
              clear hdec1 hdec2
              generalize hq1 : decide (x2.f.key = x.f.key) = s1 at hk1
              generalize hq2 : decide (y2.f.key = y.f.key) = s2 at hk2
              have HS1 := Lib.hid hq1
              have HS2 := Lib.hid hq2
              clear hq1 hq2
              rcases s1 with _ | _
              case' true =>
                rcases s2 with _ | _
                case true => exact (HN.out (of_decide_eq_true HS1.out) (of_decide_eq_true HS2.out)).elim
              all_goals
                go_wp2
                go_quiet (fail)
                go_wp2
                go_roundw
                (case measure => simp [intOf]; omega)
                exact ⟨m + 1, by omega, by go_num, below_drewN hbm _⟩
            · obtain rfl : k = m := by omega
              have t4 : decide ((k : Int) < k) = false := by simp
              go_wp2
              go_roundw
              case rel => exact ⟨k + 1, by omega, by go_num, hb5.trans (hbm.mono hz5)⟩
              case measure => simp [intOf]; omega
      · obtain rfl : n4 = k := by omega
        have t1 : decide ((n4 : Int) < n4) = false := by simp
        go_wp2
        go_ret
        exact ⟨rfl, HB.out.trans (hb.mono hz4)⟩
end Go.Proofs.YtodholjbefifeaaDoor
