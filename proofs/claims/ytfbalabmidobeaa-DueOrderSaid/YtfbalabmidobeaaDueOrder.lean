/- DueOrder: the walk. -/
import Derived.Test.YtfbalabmidobeaaDueC
import Derived.StillTailTactics
import Derived.IntWalk
import Derived.Deep.DeepCutAuto
import Derived.Deep.QuietTactic
import Derived.BigQuiet
namespace Go.Proofs.Ytfbalabmidobeaa
set_option linter.unusedVariables false
open Go Go.RowKit Go.Sort Go.Shelf
theorem at_n {W : World} {S : Nat → Prop} {D : Nat} {L : List It} (h : DW W S D L) (s : ByteArray) (hs : okStr s) {x : It} (ho : atF L s = some x) :
    Calls Try.prog 19 #[.pointer (some ⟨D, 0, none⟩), .string s] W fun e w' => e = .returned (.tuple #[.int .i64 x.mom, .bool true]) ∧ W = w' := by
  have h1 := at_any h s hs
  rw [ho] at h1
  exact h1
set_option maxRecDepth 100000 in
set_option maxHeartbeats 8000000 in
theorem dueOrder_any (l : List DAct) (A : Option Addr) (n c : Nat) (step : Int) (w : World) (hs : Sl w 0 w.heap.size tDAct A n l) (hst : okInt step) :
    Calls Try.prog 5 #[.slice A n c, .int .i64 step] w (RetB w true) := by
  have HS := Lib.hid hs
  have HST := Lib.hid hst
  clear hs hst
  by_cases hbig : 200 < n
  · have h1 : (200 : Int) < n := by omega
    clear hbig
    go_enter Try.func5, Try.ntmps5
    go_wp2_with fail
    refine (awake16_any _).mono ?_
    rintro e w1 ⟨rfl, hb1⟩
    go_wp2
    go_ret
    exact ⟨rfl, hb1⟩
  · have h1 : ¬ (200 : Int) < n := by omega
    go_enter Try.func5, Try.ntmps5
    go_wp2_with fail
    refine (awake16_any _).mono ?_
    rintro e w1 ⟨rfl, hb1⟩
    go_wp2_with fail
    refine (new_db hb1).mono ?_
    rintro e w2 ⟨D, rfl, h2⟩
    have H2 := Lib.hid h2
    clear h2 hb1
    go_wp2
    go_loopw [6] (fun i wr => ∃ (k : Nat) (L : List It), k ≤ n ∧ i = .int .i64 k ∧ Hid (L.length ≤ k ∧ ∀ x ∈ L, okStr x.name ∧ isMom x.mom = true) ∧ DB w D L wr) (fun i _ => n - (intOf i).toNat)
    case atStart => exact ⟨0, [], Nat.zero_le _, rfl, ⟨Nat.le_refl _, fun x h => absurd h List.not_mem_nil⟩, H2.out⟩
    case round =>
      clear H2
      obtain ⟨k, L, hk, rfl, HI, hd⟩ := hrel
      have HD := Lib.hid hd
      clear hd
      by_cases hlt : k < n
      · obtain ⟨b', o, x, rfl, _, hb, hx, hok, c0, c1, c2⟩ := HS.out.dact hlt
        have HB := Lib.hid HD.out.b
        replace c1 := (HB.out.cell (p := ⟨b', o + k * 3 + 1, none⟩) hb).trans c1
        replace c2 := (HB.out.cell (p := ⟨b', o + k * 3 + 2, none⟩) hb).trans c2
        have hk0 : (0 : Int) ≤ k := by omega
        have hk1 : (k : Int) < n := by omega
        have hlen : L.length ≤ 200 := by have := HI.out.1; omega
        replace hok := Lib.hid hok
        clear c0
        go_wp2
        go_still_tail 11, (by kernel_rfl)
        go_wp2_with fail
        refine (set_db (W := wr.drew) (HD.out.step ((Below.refl _ _).drew)) (by omega) x.name hok.out.2.2 x.mom rfl rfl).mono ?_
        rintro e w3 ⟨rfl, h3⟩
        have H3 := Lib.hid h3
        clear h3 c1 c2
        go_wp2
        exact ⟨⟨k + 1, stF L x.name x.mom, by omega, by go_num, ⟨Nat.le_trans (stF_len _ _ _) (by have := HI.out.1; omega), fun y hy => mem_stF hy hok.out.2.2 HI.out.2⟩, H3.out⟩, by simp [intOf]; omega⟩
      · obtain rfl : n = k := by omega
        have hL0 : L.length ≤ 200 := by have := HI.out.1; omega
        have HI0 : Hid (∀ x ∈ L, okStr x.name ∧ isMom x.mom = true) := HI.out.2
        clear HI h1 hbig HS hk hlt
        go_wp2_with fail
        refine (len_n HD.out.d (by omega) rfl).mono ?_
        rintro e w3 ⟨rfl, rfl⟩
        go_upto_if 49 with fail
        go_cut [1] (fun s w' => ∃ st : Int, s = .int .i64 st ∧ (1 ≤ st ∧ st ≤ 9223372036854775807) ∧ DB w D L w')
        case first =>
          by_cases hq : step < 1
          · go_wp2
            go_meet
            exact ⟨1, rfl, by omega, HD.out⟩
          · go_wp2
            go_meet
            exact ⟨step, rfl, ⟨by omega, HST.out.2⟩, HD.out⟩
        case rest =>
          obtain ⟨st, rfl, hst, hd⟩ := hcut
          have HD := Lib.hid hd
          clear hd
          go_wp2
          go_loopw [7, 8, 9, 10] (fun nv lm ls nw wr => ∃ (L : List It) (m0 : Int) (s0 : ByteArray) (t : Int), nv = .int .i64 (L.length : Int) ∧ lm = .int .i64 m0 ∧ ls = .string s0 ∧ nw = .int .i64 t ∧ (0 ≤ t ∧ t ≤ 527039) ∧ (-1 ≤ m0 ∧ m0 ≤ 527039) ∧ L.length ≤ 200 ∧ Hid (∀ x ∈ L, okStr x.name ∧ isMom x.mom = true) ∧ Hid (∀ x ∈ L, Aft m0 s0 x) ∧ DB w D L wr) (fun _ _ _ nw _ => 527040 - (intOf nw).toNat)
          case atStart => exact ⟨L, -1, ⟨#[]⟩, 0, rfl, rfl, rfl, rfl, by omega, by omega, hL0, HI0, fun x hx => aft_first (HI0.out x hx).2, HD.out⟩
          case round =>
            clear HD HI0 hL0 HST
            obtain ⟨L, m0, s0, t, rfl, rfl, rfl, rfl, ht, hm0, hL0, HI, HA, hd⟩ := hrel
            have HD := Lib.hid hd
            clear hd
            have hLi : (L.length : Int) ≤ 200 := by omega
            cases L with
            | nil =>
              go_wp2_with fail
              refine (len_n (n := 0) HD.out.d (by simp) rfl).mono ?_
              rintro e w3 ⟨rfl, rfl⟩
              go_wp2_with fail
              refine (len_n (n := 0) HD.out.d (by simp) rfl).mono ?_
              rintro e w3 ⟨rfl, rfl⟩
              go_wp2
              go_ret
              exact ⟨rfl, HD.out.b⟩
            | cons x0 L0 =>
              have hx0 := (HI.out x0 List.mem_cons_self).2
              have hx1 : 0 ≤ x0.mom ∧ x0.mom ≤ 527039 := by simpa [isMom] using hx0
              have hLp : (0 : Int) < (x0 :: L0).length := by simp
              have HNX : Hid (((x0 :: L0).headD ⟨⟨#[]⟩, 0⟩).mom = x0.mom) := rfl
              have HNB : Hid (decide (0 < (x0 :: L0).length) = true) := decide_eq_true (by simp)
              generalize x0.mom = nx at *
              clear hx0
              generalize x0 :: L0 = L at *
              generalize hLn : L.length = nL at *
              replace hLn := Lib.hid hLn
              go_wp2_with fail
              refine (len_n HD.out.d (by have := hLn.out; omega) hLn.out).mono ?_
              rintro e w3 ⟨rfl, rfl⟩
              go_wp2_with fail
              refine (next_n (b := true) HD.out.d (by have := hLn.out; omega) HNX.out (by rw [hLn.out]; exact HNB.out)).mono ?_
              rintro e w3 ⟨rfl, rfl⟩
              clear HNX HNB
              go_upto_region 20 with fail
              go_cut [73] (fun s w' => s = .bool (decide (t < nx) && decide (st < nx - t)) ∧ DB w D L w')
              case first =>
                by_cases hq : t < nx
                · have h0 : nx - t ≤ 527039 := by omega
                  by_cases hq2 : st < nx - t
                  · go_wp2
                    go_meet
                    exact ⟨by simp [hq, hq2], HD.out⟩
                  · go_wp2
                    go_meet
                    exact ⟨by simp [hq, hq2], HD.out⟩
                · go_wp2
                  go_meet
                  exact ⟨by simp; omega, HD.out⟩
              clear HD
              obtain ⟨rfl, hd⟩ := hcut
              have HD := Lib.hid hd
              clear hd
              have HCD : Hid ((decide (t < nx) && decide (st < nx - t)) = true → t < nx ∧ st < nx - t) := by show _ → _; simp
              generalize (decide (t < nx) && decide (st < nx - t)) = bq at *
              go_upto_if 73 with fail
              go_cut [10] (fun s w' => ∃ t2 : Int, s = .int .i64 t2 ∧ (t ≤ t2 ∧ 0 ≤ t2 ∧ t2 ≤ 527039) ∧ DB w D L w')
              case first =>
                rcases bq with _ | _
                · go_wp2
                  go_meet
                  exact ⟨t, rfl, by omega, HD.out⟩
                · have hq := HCD.out rfl
                  go_wp2
                  go_meet
                  exact ⟨nx - st, by go_num, by omega, HD.out⟩
              case rest =>
                clear HD
                obtain ⟨t2, rfl, ht2, hd⟩ := hcut
                have HRI : Hid (Ris L) := hd.d.ris
                have HON : Hid (Once L) := hd.d.once
                have HOK : Hid (∀ x ∈ L, okStr x.name) := fun x hx => (HI.out x hx).1
                have HALL : Hid (ripeF L 527039 = L) := ripe_all fun x hx => (HI.out x hx).2
                have HD0 := Lib.hid hd.d
                have B0 := Lib.hid hd.b
                have HSW : Hid (∀ b, SB w.heap.size wc b → w.heap.size ≤ b ∧ b < wc.heap.size) := fun b h => h
                have B0z := hd.b.size
                clear hd
                generalize SB w.heap.size wc = S at *
                have hrl : (ripeF L t2).length ≤ nL := by rw [← hLn.out]; exact (List.takeWhile_sublist _).length_le
                go_wp2_with fail
                refine (new_any wc).mono ?_
                rintro e w3 ⟨M, rfl, hm3, b3⟩
                have HM3 := Lib.hid hm3
                have D3 := Lib.hid (HD0.out.step b3)
                have z3 := b3.size
                have B3 := Lib.hid (RetB.step B0.out b3)
                clear hm3 b3
                go_wp2_with fail
                refine (ripe_n D3.out (fun b h => Nat.lt_of_lt_of_le (HSW.out b h).2 z3) (by have := hLn.out; omega) HOK.out 527039 HALL.out hLn.out).mono ?_
                rintro e w4 ⟨Aa, ca, rfl, oa, b4⟩
                have SA := Lib.hid (oa.sl)
                have D4 := Lib.hid (D3.out.step b4)
                have T4 : Hid (Two w4 w4 wc.heap.size w3.heap.size M []) := ⟨⟨_, HM3.out.step b4, fun b hb => ⟨hb.1, Nat.lt_of_lt_of_le hb.2 b4.size, .inl hb.2⟩⟩, Kp.refl _ _⟩
                have z4 := b4.size
                have B4 := Lib.hid (RetB.step B3.out b4)
                clear oa b4 HM3 D3 B3 HALL B0 HD0
                go_wp2
                go_loopw [15] (fun i wq => ∃ k : Nat, k ≤ nL ∧ i = .int .i64 k ∧ Two w4 wq wc.heap.size w3.heap.size M (L.take k)) (fun i _ => nL - (intOf i).toNat)
                case atStart => exact ⟨0, Nat.zero_le _, rfl, T4.out⟩
                case round =>
                  clear T4
                  obtain ⟨k, hk, rfl, htw⟩ := hrel
                  have TW := Lib.hid htw
                  clear htw
                  by_cases hlt : k < nL
                  · obtain ⟨x, hx⟩ : ∃ x, L[k]? = some x := ⟨_, List.getElem?_eq_getElem (by have := hLn.out; omega)⟩
                    have HX := Lib.hid hx
                    obtain ⟨b', o, x', rfl, _, _, hx', _, c0⟩ := (SA.out.kp TW.out.k (Nat.le_refl _) fun b h1 h2 h => by omega).str_ hlt
                    obtain rfl : x' = x.name := by
                      have h := hx'.out
                      rw [List.getElem?_map, HX.out] at h
                      exact (Option.some.inj h).symm
                    have hk0 : (0 : Int) ≤ k := by omega
                    have hk1 : (k : Int) < nL := by omega
                    have HM := Lib.hid (List.mem_of_getElem? hx)
                    have HKX := Lib.hid (HI.out x HM.out)
                    have HTK := Lib.hid (stF_take HRI.out HON.out hx HKX.out.2)
                    clear hx hx'
                    go_wp2_with fail
                    refine (at_n (D4.out.kp TW.out.k fun b h1 h2 => by have := HSW.out b h1; omega) x.name HKX.out.1 (at_mem HON.out HM.out)).mono ?_
                    rintro e w5 ⟨rfl, rfl⟩
                    go_wp2_with fail
                    refine (two_set TW.out (by rw [List.length_take]; have := hLn.out; omega) x.name HKX.out.1 x.mom HKX.out.2 HTK.out).mono ?_
                    rintro e w5 ⟨rfl, h5⟩
                    have H5 := Lib.hid h5
                    clear h5 c0
                    go_wp2
                    exact ⟨⟨k + 1, by omega, by go_num, H5.out⟩, by simp [intOf]; omega⟩
                  · obtain rfl : nL = k := by omega
                    have D5 := Lib.hid (D4.out.kp TW.out.k fun b h1 h2 => by have := HSW.out b h1; omega)
                    have hTd := TW.out.d
                    have B5 := Lib.hid (TW.out.k.below B4.out (Nat.le_refl _) fun b h1 h2 => by have := B0z; omega)
                    rw [List.take_of_length_le (by rw [hLn.out]; exact Nat.le_refl _)] at hTd
                    obtain ⟨S2, hd2, hS2⟩ := hTd
                    have z5 := TW.out.k.size
                    have HD2 := Lib.hid hd2
                    have HS2 := Lib.hid hS2
                    clear hd2 hS2 SA D4 TW hk hlt B4
                    have HRR : Hid (restF L t2 = L.drop (ripeF L t2).length) := rest_drop L t2
                    have HRA : Hid (∀ (k : Nat) (x : It), (ripeF L t2)[k]? = some x → L[k]? = some x ∧ x.mom ≤ t2) := fun k x h => ripe_at h
                    generalize hrq : ripeF L t2 = rp at *
                    generalize hrt : restF L t2 = rs at *
                    generalize hrn : rp.length = nr at *
                    replace hrq := Lib.hid hrq
                    replace hrt := Lib.hid hrt
                    replace hrn := Lib.hid hrn
                    go_wp2_with fail
                    refine (take_n D5.out (fun b h => by have := HSW.out b h; omega) (by have := hLn.out; omega) HOK.out t2 hrq.out hrt.out hrn.out).mono ?_
                    rintro e w6 ⟨Ag, cg, rfl, og, d6, k6⟩
                    have SG := Lib.hid og.sl
                    have D6 := Lib.hid d6
                    have D2 := Lib.hid (HD2.out.kp k6 fun b h1 h2 => by have := HS2.out b h1; have := HSW.out b h2; omega)
                    have B6 := Lib.hid (k6.below B5.out (Nat.le_refl _) fun b h1 h2 => (HSW.out b h2).1)
                    have z6 := k6.size
                    clear og d6 k6 HD2 D5 B5
                    go_wp2
                    go_loopw [7, 8, 9, 19] (fun nv lm ls i wq => ∃ (k : Nat) (v m1 : Int) (s1 : ByteArray), k ≤ nr ∧ nv = .int .i64 v ∧ v + k = nL ∧ lm = .int .i64 m1 ∧ ls = .string s1 ∧ i = .int .i64 k ∧ (-1 ≤ m1 ∧ m1 ≤ 527039) ∧ Hid (∀ x ∈ L.drop k, Aft m1 s1 x) ∧ Below w6.heap.size w6 wq) (fun _ _ _ i _ => nr - (intOf i).toNat)
                    case atStart => exact ⟨0, nL, m0, s0, Nat.zero_le _, rfl, by omega, rfl, rfl, rfl, hm0, HA.out, Below.refl _ _⟩
                    case round =>
                      obtain ⟨k, v, m1, s1, hk, rfl, hv, rfl, rfl, rfl, hm1, HA1, hb⟩ := hrel
                      have HB := Lib.hid hb
                      have z7 := hb.size
                      clear hb
                      by_cases hlt : k < nr
                      · obtain ⟨x, hx⟩ : ∃ x, rp[k]? = some x := ⟨_, List.getElem?_eq_getElem (by have := hrn.out; omega)⟩
                        have HX := Lib.hid hx
                        obtain ⟨b', o, x', rfl, _, hb', hx', _, c0⟩ := SG.out.str_ hlt
                        obtain rfl : x' = x.name := by
                          have h := hx'.out
                          rw [List.getElem?_map, HX.out] at h
                          exact (Option.some.inj h).symm
                        obtain ⟨hx1, hx2⟩ := HRA.out k x hx
                        have HXL := Lib.hid hx1
                        replace c0 := (HB.out.cell (p := ⟨b', o + k, none⟩) hb').trans c0
                        have hk0 : (0 : Int) ≤ k := by omega
                        have hk1 : (k : Int) < nr := by omega
                        have hv1 : 1 ≤ v ∧ v ≤ 200 := by omega
                        have HM := Lib.hid (List.mem_of_getElem? hx1)
                        have HKX := Lib.hid (HI.out x HM.out)
                        have HNA := Lib.hid (aft_next HRI.out hx1)
                        have HAX : Hid (Aft m1 s1 x) := HA1.out x (by
                          obtain ⟨h1, h2⟩ := List.getElem?_eq_some_iff.1 hx1
                          rw [List.drop_eq_getElem_cons h1, h2]
                          exact List.mem_cons_self)
                        have hxm : 0 ≤ x.mom ∧ x.mom ≤ 527039 := by have h := HKX.out.2; simpa [isMom] using h
                        clear hx hx' hx1
                        go_wp2_with fail
                        refine (at_n (D2.out.step HB.out) x.name HKX.out.1 (at_mem HON.out HM.out)).mono ?_
                        rintro e w5 ⟨rfl, rfl⟩
                        have hn1 : ¬ t2 < x.mom := by omega
                        rcases HAX.out with h8 | ⟨h8, h9⟩
                        · have h10 : ¬ x.mom < m1 := by omega
                          have h11 : (x.mom == m1) = false := by rw [beq_eq_false_iff_ne]; omega
                          go_wp2
                          go_quiet (fail)
                          go_wp2
                          exact ⟨⟨k + 1, v - 1, x.mom, x.name, by omega, by go_num, by omega, rfl, rfl, by go_num, by omega, HNA.out, below_drewN HB.out _⟩, by simp [intOf]; omega⟩
                        · subst h8
                          have h10 : ¬ x.mom < x.mom := by omega
                          have h11 : (x.mom == x.mom) = true := by rw [beq_iff_eq]
                          have h12 : Op.bytesLess x.name.toList s1.toList = false := ltS_asym h9
                          have h13 : (x.name.toList == s1.toList) = false := by
                            rw [eqL]
                            refine decide_eq_false fun e => ?_
                            rw [e, ltS_irr] at h9
                            cases h9
                          clear h9
                          go_wp2
                          · exfalso; omega
                          go_quiet (fail)
                          go_wp2
                          exact ⟨⟨k + 1, v - 1, x.mom, x.name, by omega, by go_num, by omega, rfl, rfl, by go_num, by omega, HNA.out, below_drewN HB.out _⟩, by simp [intOf]; omega⟩
                      · obtain rfl : nr = k := by omega
                        have hrs : ((rs.length : Nat) : Int) = v := by
                          have h := congrArg List.length HRR.out
                          rw [List.length_drop, hLn.out] at h
                          omega
                        have hrsl : rs.length ≤ 200 := by omega
                        have hvi : 0 ≤ v ∧ v ≤ 200 := by omega
                        have HI2 : Hid (∀ x ∈ rs, okStr x.name ∧ isMom x.mom = true) := fun x hx => HI.out x (by rw [HRR.out] at hx; exact (List.drop_sublist _ _).subset hx)
                        have HA2 : Hid (∀ x ∈ rs, Aft m1 s1 x) := fun x hx => HA1.out x (by rw [HRR.out] at hx; exact hx)
                        have D7 : Hid (DB w D rs wr) := ⟨(D6.out.step HB.out).mono fun b h => ⟨(HSW.out b h).1, by have := (HSW.out b h).2; omega⟩, RetB.step B6.out HB.out⟩
                        clear HRA HA1 D6 D2 SG HB B6 HA HRI HON HOK
                        by_cases ht3 : t2 = 527039
                        · subst ht3
                          obtain rfl : v = 0 := by
                            have h1 := ripe_all fun x hx => (HI.out x hx).2
                            have h2 := hrn.out
                            rw [← hrq.out, h1, hLn.out] at h2
                            omega
                          go_wp2_with fail
                          refine (len_n (n := 0) D7.out.d (by omega) (by omega)).mono ?_
                          rintro e w8 ⟨rfl, rfl⟩
                          go_wp2
                          go_ret
                          exact ⟨rfl, D7.out.b⟩
                        · have ht4 : (t2 == 527039) = false := by rw [beq_eq_false_iff_ne]; exact ht3
                          have hm2 : 1 ≤ min st 527039 ∧ min st 527039 ≤ 527039 := by omega
                          go_wp2
                          exact ⟨⟨rs, m1, s1, min (t2 + min st 527039) 527039, by rw [hrs], rfl, rfl, by go_num, by omega, hm1, hrsl, HI2, HA2, D7.out⟩, by simp [intOf]; omega⟩
end Go.Proofs.Ytfbalabmidobeaa
