/- The document's Links: the flights of a day, by time; the pairs of them that make a link. -/
import Derived.Test.YtodholjbefifeaaDoorFlRef3
import Derived.Test.YtodholjbefifeaaDoorFlWayL
import Derived.BigRegion
import Derived.Deep.RegionHeld3
namespace Go.Proofs.YtodholjbefifeaaDoor
set_option linter.unusedVariables false
open Go Go.RowKit
set_option maxRecDepth 100000 in
set_option maxHeartbeats 4000000 in
theorem rlinks_any (rl : List FlR) (A : Option Addr) (n c : Nat) (d : Int) (fr to_ : ByteArray) (w : World) (lo hi : Nat) (hs : FlS w lo hi A n rl) (hn : n ≤ 3000) (hhi : hi ≤ w.heap.size) (hright : ∀ r ∈ rl, rightB r.f = true) :
    Calls Tryd.prog 22 #[.slice A n c, .int .i64 d, .string fr, .string to_] w (RetOwn w 45 tPar (rlG (dayR rl d) (dayR rl d) fr to_)) := by
  unfold dayR
  have HS := Lib.hid hs
  have HL := Lib.hid hs.sl.len
  have HRT := Lib.hid hright
  clear hs hright
  go_enter Tryd.func22, Tryd.ntmps22
  go_wp2
  go_loopw [10, 11] (fun v i wr => ∃ k : Nat, k ≤ n ∧ i = .int .i64 k ∧ (∃ A' c' l', v = .slice A' l' c' ∧ Own wr w.heap.size 26 tFl (.slice A' l' c') (allL (byF ltT) ((rl.take k).filter fun r => onB r.f d))) ∧ Below w.heap.size w wr) (fun _ i _ => n - (intOf i).toNat)
  case atStart => exact ⟨0, by omega, rfl, ⟨none, 0, 0, rfl, Own.nil_ _ _ _ _⟩, Below.refl _ _⟩
  case round =>
    obtain ⟨k, hk, rfl, ⟨A', c', l', rfl, ho⟩, hb⟩ := hrel
    by_cases hlt : k < n
    · obtain ⟨b0, o0, s, hA, _, _, hx, hok, hcl, d0, d1, d2, d3, d4, d5, d6, d7, d8⟩ := (HS.out.below hb hhi).at_ hlt
      subst hA
      have i0 : (0 : Int) ≤ k := by omega
      have i1 : (k : Int) < n := by omega
      have HX := Lib.hid (take_snoc' hx.out)
      have hll : l' ≤ 100000 := by
        have h1 := ho.sl.len
        rw [len_allL] at h1
        have h2 := List.length_filter_le (fun r : FlR => onB r.f d) (rl.take k)
        rw [List.length_take] at h2
        omega
      have HO := Lib.hid ho
      clear ho
      go_wp2_with fail
      refine (on_any s d wr hok.f.days).mono ?_
      generalize hq : onB s.f d = q0
      have HQ := Lib.hid hq
      clear hq
      rintro e w1 ⟨rfl, h1⟩
      have hb1 := hb.trans (h1.mono hb.size)
      have q9 := (bcell h1).1
      have zb : b0 < wr.heap.size := by have := hb.size; omega
      rcases q0 with _ | _
      case true =>
        have HN := Lib.hid (show (rl.take (k + 1)).filter (fun r => onB r.f d) = (rl.take k).filter (fun r => onB r.f d) ++ [s] by rw [HX.out, List.filter_append]; simp [HQ.out])
        go_wp2_with fail
        refine (put_t (allL (byF ltT) ((rl.take k).filter fun r => onB r.f d)) A' l' c' s w1 0 w1.heap.size (fls_own HS.out hb1 hhi (HO.out.keep h1) fun r hr => List.mem_of_mem_take (List.mem_filter.1 ((mem_allL _ _ _).1 hr)).1) hok hll (Nat.le_refl _)).mono ?_
        rintro e w2 ⟨A1, c1, rfl, ho1, h2⟩
        have HO1 : Hid (Own w2 w.heap.size 26 tFl (.slice A1 (insL (byF ltT) s (allL (byF ltT) ((rl.take k).filter fun r => onB r.f d))).length c1) (allL (byF ltT) ((rl.take (k + 1)).filter fun r => onB r.f d))) := by
          show Own _ _ _ _ _ _
          rw [HN.out, allL_snoc]
          exact ho1.more hb1.size
        clear ho1
        generalize (insL (byF ltT) s (allL (byF ltT) ((rl.take k).filter fun r => onB r.f d))).length = l1 at HO1 ⊢
        go_wp2
        go_roundw
        case rel => exact ⟨k + 1, by omega, by go_num, ⟨_, _, _, rfl, HO1.out⟩, hb1.trans (h2.mono hb1.size)⟩
        case measure => simp [intOf]; omega
      case false =>
        have HN := Lib.hid (show (rl.take (k + 1)).filter (fun r => onB r.f d) = (rl.take k).filter (fun r => onB r.f d) by
          rw [HX.out, List.filter_append, List.filter_cons_of_neg (by rw [HQ.out]; simp)]; simp)
        have HO1 := Lib.hid (HO.out.keep h1)
        go_wp2
        go_roundw
        case rel => exact ⟨k + 1, by omega, by go_num, ⟨_, _, _, rfl, by rw [HN.out]; exact HO1.out⟩, hb1⟩
        case measure => simp [intOf]; omega
    · obtain rfl : n = k := by omega
      have HF : Hid (rl.take n = rl) := List.take_of_length_le (Nat.le_of_eq HL.out)
      rw [HF.out] at ho
      have HO := Lib.hid ho
      have HFS := Lib.hid (fls_own HS.out hb hhi ho fun r hr => (List.mem_filter.1 ((mem_allL _ _ _).1 hr)).1)
      have HRA := Lib.hid (fun r (hr : r ∈ allL (byF ltT) (rl.filter fun r => onB r.f d)) => HRT.out r (List.mem_filter.1 ((mem_allL _ _ _).1 hr)).1)
      have hl' : l' ≤ 3000 := by
        have h1 := ho.sl.len
        rw [len_allL] at h1
        have h2 := List.length_filter_le (fun r : FlR => onB r.f d) rl
        have h3 := HL.out
        omega
      generalize hal : allL (byF ltT) (rl.filter fun r => onB r.f d) = al at HO HFS HRA ⊢
      have HAL := Lib.hid hal
      clear hal
      have hzz := hb.size
      have HBW := Lib.hid hb
      have HLA := Lib.hid HFS.out.sl.len
      clear ho hb
      have t0 : decide ((n : Int) < n) = false := by simp
      obtain ⟨wx, hwx⟩ : ∃ x, x = wr := ⟨_, rfl⟩
      subst hwx
      go_wp2
      go_loopw [9, 12] (fun v i wv => ∃ k : Nat, k ≤ l' ∧ i = .int .i64 k ∧ (∃ A2 m2 c2, v = .slice A2 m2 c2 ∧ Own wv wx.heap.size 45 tPar (.slice A2 m2 c2) (rlG al (al.take k) fr to_)) ∧ Below wx.heap.size wx wv) (fun _ i _ => l' - (intOf i).toNat)
      case atStart => exact ⟨0, by omega, rfl, ⟨none, 0, 0, rfl, Own.nil_ _ _ _ _⟩, Below.refl _ _⟩
      case round =>
        obtain ⟨k2, hk2, rfl, ⟨A2, m2, c2, rfl, ho⟩, hb⟩ := hrel
        by_cases hlt : k2 < l'
        · have t1 : decide ((k2 : Int) < l') = true := by simp; omega
          obtain ⟨b0, o0, a, hA, _, hb0, hx, hok, hcl, d0, d1, d2, d3, d4, d5, d6, d7, d8⟩ := (HFS.out.below hb (Nat.le_refl _)).at_ hlt
          subst hA
          have HX := Lib.hid (take_snoc' hx.out)
          have HMA := Lib.hid (List.mem_of_getElem? hx.out)
          have HOK := Lib.hid hok
          have HRW := Lib.hid (rlG_snoc al (al.take k2) fr to_ a)
          have HO2 := Lib.hid ho
          have i0 : (0 : Int) ≤ k2 := by omega
          have i1 : (k2 : Int) < l' := by omega
          clear d0 d1 d2 d3 d4 d5 d6 d7 d8 hcl hok ho
          go_wp2
          go_loopw [9, 13] (fun v j wu => ∃ m : Nat, m ≤ l' ∧ j = .int .i64 m ∧ (∃ A3 m3 c3, v = .slice A3 m3 c3 ∧ Own wu wx.heap.size 45 tPar (.slice A3 m3 c3) (rlG al (al.take k2) fr to_ ++ rowR (al.take m) fr to_ a)) ∧ Below wx.heap.size wx wu) (fun _ j _ => l' - (intOf j).toNat)
          case atStart => exact ⟨0, by omega, rfl, ⟨_, _, _, rfl, by simpa [rowR] using HO2.out⟩, hb⟩
          case round =>
            clear hb HO2
            obtain ⟨m, hm, rfl, ⟨A3, m3, c3, rfl, ho⟩, hb⟩ := hrel
            by_cases hml : m < l'
            · have t2 : decide ((m : Int) < l') = true := by simp; omega
              obtain ⟨b1, o1, a', hA, _, hb1, hx', hok, hcl, d0, d1, d2, d3, d4, d5, d6, d7, d8⟩ := (HFS.out.below hb (Nat.le_refl _)).at_ hlt
              obtain rfl : a' = a := by have h := hx'.out.symm.trans hx.out; injection h
              injection hA with hA
              injection hA with g1 g2
              subst g1 g2
              obtain ⟨b1, o1, b, hA, _, _, hy, hokb, hclb, f0, f1, f2, f3, f4, f5, f6, f7, f8⟩ := (HFS.out.below hb (Nat.le_refl _)).at_ hml
              injection hA with hA
              injection hA with g1 g2
              subst g1 g2
              have j0 : (0 : Int) ≤ m := by omega
              have j1 : (m : Int) < l' := by omega
              have y1 : b0 < wr.heap.size := by have := hb.size; omega
              have HB2 := Lib.hid hb
              have HO3 := Lib.hid ho
              clear hb ho
              go_upto_region 14 with fail
              go_cut [14, 15] (fun t u w' => ∃ g1 g2, t = .pointer (some ⟨g1, 0, none⟩) ∧ u = .pointer (some ⟨g2, 0, none⟩) ∧ Bx w' g1 #[.string a'.f.car, .int .i64 a'.f.num, .string a'.f.frm, .string a'.f.to_, .int .u8 a'.f.days, .int .i64 a'.f.dep, .int .i64 a'.f.arr, .slice a'.A a'.n a'.c, .int .i64 a'.f.pln] 26 ∧ Bx w' g2 #[.string b.f.car, .int .i64 b.f.num, .string b.f.frm, .string b.f.to_, .int .u8 b.f.days, .int .i64 b.f.dep, .int .i64 b.f.arr, .slice b.A b.n b.c, .int .i64 b.f.pln] 26 ∧ Below wr.heap.size wr w')
              case first =>
                go_region_held3 (fun w' => (w'.cell? ⟨b0, o0 + k2 * 9, none⟩ = some (.string a'.f.car) ∧ w'.cell? ⟨b0, o0 + k2 * 9 + 1, none⟩ = some (.int .i64 a'.f.num) ∧ w'.cell? ⟨b0, o0 + k2 * 9 + 2, none⟩ = some (.string a'.f.frm) ∧ w'.cell? ⟨b0, o0 + k2 * 9 + 3, none⟩ = some (.string a'.f.to_) ∧ w'.cell? ⟨b0, o0 + k2 * 9 + 4, none⟩ = some (.int .u8 a'.f.days) ∧ w'.cell? ⟨b0, o0 + k2 * 9 + 5, none⟩ = some (.int .i64 a'.f.dep) ∧ w'.cell? ⟨b0, o0 + k2 * 9 + 6, none⟩ = some (.int .i64 a'.f.arr) ∧ w'.cell? ⟨b0, o0 + k2 * 9 + 7, none⟩ = some (.slice a'.A a'.n a'.c) ∧ w'.cell? ⟨b0, o0 + k2 * 9 + 8, none⟩ = some (.int .i64 a'.f.pln)) ∧ (w'.cell? ⟨b0, o0 + m * 9, none⟩ = some (.string b.f.car) ∧ w'.cell? ⟨b0, o0 + m * 9 + 1, none⟩ = some (.int .i64 b.f.num) ∧ w'.cell? ⟨b0, o0 + m * 9 + 2, none⟩ = some (.string b.f.frm) ∧ w'.cell? ⟨b0, o0 + m * 9 + 3, none⟩ = some (.string b.f.to_) ∧ w'.cell? ⟨b0, o0 + m * 9 + 4, none⟩ = some (.int .u8 b.f.days) ∧ w'.cell? ⟨b0, o0 + m * 9 + 5, none⟩ = some (.int .i64 b.f.dep) ∧ w'.cell? ⟨b0, o0 + m * 9 + 6, none⟩ = some (.int .i64 b.f.arr) ∧ w'.cell? ⟨b0, o0 + m * 9 + 7, none⟩ = some (.slice b.A b.n b.c) ∧ w'.cell? ⟨b0, o0 + m * 9 + 8, none⟩ = some (.int .i64 b.f.pln))) (go_keep) (fail)
                all_goals go_wp2
                all_goals go_meet
                all_goals refine ⟨_, _, rfl, rfl, ?_, ?_, ?_⟩
                all_goals first | exact Bx.two1 _ _ _ _ _ | exact Bx.two2 _ _ _ _ _ | exact Bx.two3 _ _ _ _ _
              case rest =>
                obtain ⟨g1, g2, rfl, rfl, bxa, bxb, hbc⟩ := hcut
                have hzb := HB2.out.size
                have hb5 := HB2.out.trans (hbc.mono hzb)
                have hz5 := hb5.size
                have HO5 := Lib.hid (HO3.out.keep hbc)
                have za := bxa.lt
                have zb := bxb.lt
                have c1 := bxa.cells
                have c2 := bxb.cells
                have HY := Lib.hid (take_snoc' hy.out)
                have HOKB := Lib.hid hokb
                obtain ⟨m1, m2, m3', m4⟩ := right_min (HRA.out a' HMA.out)
                obtain ⟨m5, m6, m7, m8⟩ := right_min (HRA.out b (List.mem_of_getElem? hy.out))
                have hlen : (rlG al (al.take k2) fr to_ ++ rowR (al.take m) fr to_ a').length < 2147483648 := by
                  have q1 := rlG_len al fr to_ (al.take k2)
                  have q2 := rowR_len (al.take m) fr to_ a'
                  have q3 : (al.take k2).length * al.length ≤ 3000 * 3000 := Nat.mul_le_mul (by rw [List.length_take, HLA.out]; omega) (by rw [HLA.out]; omega)
                  rw [List.length_take, HLA.out] at q2
                  rw [List.length_append]
                  omega
                have HW := Lib.hid (show linkB fr to_ a'.f b.f = (eqTx a'.f.frm fr && (eqTx a'.f.to_ b.f.frm && (eqTx b.f.to_ to_ && (decide (a'.f.dep ≤ a'.f.arr) && decide (45 ≤ b.f.dep - a'.f.arr))))) from rfl)
                have e1 := eqTx_l a'.f.frm fr
                have e2 := eqTx_l a'.f.to_ b.f.frm
                have e3 := eqTx_l b.f.to_ to_
                generalize eqTx a'.f.frm fr = q1 at e1 HW
                generalize eqTx a'.f.to_ b.f.frm = q2 at e2 HW
                generalize eqTx b.f.to_ to_ = q3 at e3 HW
                have hwr : IntKind.i64.wrap (b.f.dep - a'.f.arr) = b.f.dep - a'.f.arr := IntWalk.i64_in _ (by omega)
                clear hokb bxa bxb hbc HB2 HO3 d0 d1 d2 d3 d4 d5 d6 d7 d8 f0 f1 f2 f3 f4 f5 f6 f7 f8 y1 hclb
                have hge1 : (decide (a'.f.arr ≥ a'.f.dep)) = decide (a'.f.dep ≤ a'.f.arr) := rfl
                by_cases hall : q1 = true ∧ q2 = true ∧ q3 = true ∧ a'.f.dep ≤ a'.f.arr ∧ 45 ≤ b.f.dep - a'.f.arr
                · obtain ⟨rfl, rfl, rfl, hle, hle2⟩ := hall
                  have HN := Lib.hid (show rowR (al.take (m + 1)) fr to_ a' = rowR (al.take m) fr to_ a' ++ [(a', b)] by
                    unfold rowR
                    rw [HY.out, List.filter_append, List.map_append]
                    simp [HW.out, hle, hle2])
                  go_wp2_with (at_builtin; refine push_law (T := tPar) (W := wc) rfl (.tmp 86) (.tmp 90) rfl sl_par rfl HO5.out (a', b) (by exact ⟨HOK.out, HOKB.out⟩) _ rfl rfl (by exact hz5) (by exact hlen) ?_; intro v1 w1 ho1 hb1)
                  obtain ⟨A9, c9, rfl⟩ := ho1.form
                  have HO1 := Lib.hid (show Own w1 wx.heap.size 45 tPar _ (rlG al (al.take k2) fr to_ ++ rowR (al.take (m + 1)) fr to_ a') by rw [HN.out, ← List.append_assoc]; exact ho1)
                  clear ho1
                  go_wp2
                  go_roundw
                  case rel => exact ⟨m + 1, by omega, by go_num, ⟨_, _, _, rfl, HO1.out⟩, hb5.trans hb1⟩
                  case measure => simp [intOf]; omega
                · have HALL := Lib.hid hall
                  have HN := Lib.hid (show rowR (al.take (m + 1)) fr to_ a' = rowR (al.take m) fr to_ a' by
                    unfold rowR
                    rw [HY.out, List.filter_append, List.filter_cons_of_neg (by rw [HW.out]; simpa using hall)]; simp)
                  have HO6 := Lib.hid (show Own wc wx.heap.size 45 tPar (.slice A3 m3 c3) (rlG al (al.take k2) fr to_ ++ rowR (al.take (m + 1)) fr to_ a') by rw [HN.out]; exact HO5.out)
                  clear hall HN HO5
                  rcases q1 with _ | _
                  case' true =>
                    rcases q2 with _ | _
                    case' true =>
                      rcases q3 with _ | _
                      case' true =>
                        by_cases h4 : a'.f.dep ≤ a'.f.arr
                        case' pos =>
                          have g4 : decide (a'.f.arr ≥ a'.f.dep) = true := decide_eq_true h4
                          have g5 : decide (b.f.dep - a'.f.arr ≥ 45) = false := decide_eq_false fun h => HALL.out ⟨rfl, rfl, rfl, h4, h⟩
                        case' neg =>
                          have g4 : decide (a'.f.arr ≥ a'.f.dep) = false := decide_eq_false h4
                  all_goals
                    clear HALL HW
                    go_wp2
                    go_roundw
                    (case measure => simp [intOf]; omega)
                    exact ⟨m + 1, by omega, by go_num, ⟨_, _, _, rfl, HO6.out⟩, hb5⟩
            · obtain rfl : l' = m := by omega
              have t2 : decide ((l' : Int) < l') = false := by simp
              have HF2 : Hid (al.take l' = al) := List.take_of_length_le (Nat.le_of_eq HLA.out)
              rw [HF2.out, ← HRW.out, ← HX.out] at ho
              go_wp2
              go_roundw
              case rel => exact ⟨k2 + 1, by omega, by go_num, ⟨_, _, _, rfl, ho⟩, hb⟩
              case measure => simp [intOf]; omega
        · obtain rfl : l' = k2 := by omega
          have t1 : decide ((l' : Int) < l') = false := by simp
          have HF2 : Hid (al.take l' = al) := List.take_of_length_le (Nat.le_of_eq HLA.out)
          rw [HF2.out] at ho
          go_wp2
          go_ret
          have ho9 := ho.more hzz
          have hb9 := HBW.out.trans (hb.mono hzz)
          rw [HAL.out]
          exact RetOwn.mk' (v := .slice A2 m2 c2) ho9 hb9
end Go.Proofs.YtodholjbefifeaaDoor
