/- StockLines is true of every input: the document's Links; Avail on both sides; the law. By program. -/
import Derived.Test.YtlkdefmceghmnaaGreatFlRef3
import Derived.Test.YtlkdefmceghmnaaGreatFlPar0
import Derived.BigRegion
import Derived.Deep.RegionHeld3
import Derived.Test.YtlkdefmceghmnaaGreatStAwake
import Derived.Deep.MidRow
import Derived.Test.YtlkdefmceghmnaaGreatStPlay
namespace Go.Proofs.YtlkdefmceghmnaaGreat
set_option linter.unusedVariables false
open Go Go.RowKit Go.Sort
/-- The links whose first flight is a, in l's order. -/
def rowR (l : List FlR) (fr to_ : ByteArray) (a : FlR) : List Par := (l.filter fun b => linkB fr to_ a.f b.f).map fun b => (a, b)
def rlG (al l : List FlR) (fr to_ : ByteArray) : List Par := l.flatMap (rowR al fr to_)
theorem rlG_snoc (al l : List FlR) (fr to_ : ByteArray) (a : FlR) : rlG al (l ++ [a]) fr to_ = rlG al l fr to_ ++ rowR al fr to_ a := by simp [rlG]
theorem rowR_f (l : List FlR) (fr to_ : ByteArray) (a : FlR) : (rowR l fr to_ a).map parF = ((l.map (·.f)).filter (linkB fr to_ a.f)).map fun y => (a.f, y) := by
  rw [← filter_f (linkB fr to_ a.f) l]
  unfold rowR
  rw [List.map_map, List.map_map]
  rfl
theorem rlG_f (al : List FlR) (fr to_ : ByteArray) : ∀ l : List FlR, (rlG al l fr to_).map parF = pairsF (l.map (·.f)) (al.map (·.f)) (linkB fr to_)
  | [] => rfl
  | a :: l => by
    have h := rlG_f al fr to_ l
    unfold rlG pairsF at h ⊢
    rw [List.map_cons, List.flatMap_cons, List.flatMap_cons, List.map_append, rowR_f, h]
/-- The flights of the day, by time. -/
def dayR (rl : List FlR) (d : Int) : List FlR := allL (byF ltT) (rl.filter fun r => onB r.f d)
theorem rlinks_f (rl : List FlR) (d : Int) (fr to_ : ByteArray) : (rlG (dayR rl d) (dayR rl d) fr to_).map parF = linksF (rl.map (·.f)) d fr to_ := by
  rw [rlG_f]
  unfold dayR
  rw [allL_f, filter_f fun f => onB f d]
  rfl
theorem mem_rlG {rl : List FlR} {d : Int} {fr to_ : ByteArray} {r : FlR} (h : r ∈ flatP (rlG (dayR rl d) (dayR rl d) fr to_)) : r ∈ rl := by
  obtain ⟨x, hx, hr⟩ := mem_flatP.1 h
  obtain ⟨a, ha, hx⟩ := List.mem_flatMap.1 hx
  obtain ⟨b, hb, rfl⟩ := List.mem_map.1 hx
  have hb := (List.mem_filter.1 hb).1
  have g : ∀ y, y ∈ dayR rl d → y ∈ rl := fun y hy => (List.mem_filter.1 ((mem_allL _ _ _).1 hy)).1
  rcases hr with rfl | rfl
  · exact g _ ha
  · exact g _ hb
theorem rowR_len (l : List FlR) (fr to_ : ByteArray) (a : FlR) : (rowR l fr to_ a).length ≤ l.length := by
  unfold rowR
  rw [List.length_map]
  exact List.length_filter_le _ _
theorem rlG_len (al : List FlR) (fr to_ : ByteArray) : ∀ l : List FlR, (rlG al l fr to_).length ≤ l.length * al.length
  | [] => by simp [rlG]
  | a :: l => by
    have h := rlG_len al fr to_ l
    unfold rlG at h ⊢
    rw [List.flatMap_cons, List.length_append, List.length_cons, Nat.succ_mul]
    have := rowR_len al fr to_ a
    omega
set_option maxRecDepth 100000 in
set_option maxHeartbeats 4000000 in
theorem rlinks_any (rl : List FlR) (A : Option Addr) (n c : Nat) (d : Int) (fr to_ : ByteArray) (w : World) (lo hi : Nat) (hs : FlS w lo hi A n rl) (hn : n ≤ 3000) (hhi : hi ≤ w.heap.size) (hright : ∀ r ∈ rl, rightB r.f = true) :
    Calls Tryz.prog 67 #[.slice A n c, .int .i64 d, .string fr, .string to_] w (RetOwn w 133 tPar (rlG (dayR rl d) (dayR rl d) fr to_)) := by
  unfold dayR
  have HS := Lib.hid hs
  have HL := Lib.hid hs.sl.len
  have HRT := Lib.hid hright
  clear hs hright
  go_enter Tryz.func67, Tryz.ntmps67
  go_wp2
  go_loopw [10, 11] (fun v i wr => ∃ k : Nat, k ≤ n ∧ i = .int .i64 k ∧ (∃ A' c' l', v = .slice A' l' c' ∧ Own wr w.heap.size 96 tFl (.slice A' l' c') (allL (byF ltT) ((rl.take k).filter fun r => onB r.f d))) ∧ Below w.heap.size w wr) (fun _ i _ => n - (intOf i).toNat)
  case atStart => exact ⟨0, by omega, rfl, ⟨none, 0, 0, rfl, Own.nil_ _ _ _ _⟩, Below.refl _ _⟩
  case round =>
    obtain ⟨k, hk, rfl, ⟨A', c', l', rfl, ho⟩, hb⟩ := hrel
    by_cases hlt : k < n
    · obtain ⟨b0, o0, s, hA, _, _, hx, hok, hcl, d0, d1, d2, d3, d4, d5, d6, d7, d8⟩ := (HS.out.below hb hhi).at_ hlt
      subst hA
      have i0 : (0 : Int) ≤ k := by omega
      have i1 : (k : Int) < n := by omega
      have HX := Lib.hid (take_snoc' hx.out)
      have hll : l' ≤ 100000 := by
        have h1 := ho.sl.len
        rw [len_allL] at h1
        have h2 := List.length_filter_le (fun r : FlR => onB r.f d) (rl.take k)
        rw [List.length_take] at h2
        omega
      have HO := Lib.hid ho
      clear ho
      go_wp2_with fail
      refine (on_any s d wr hok.f.days).mono ?_
      generalize hq : onB s.f d = q0
      have HQ := Lib.hid hq
      clear hq
      rintro e w1 ⟨rfl, h1⟩
      have hb1 := hb.trans (h1.mono hb.size)
      have q9 := (bcell h1).1
      have zb : b0 < wr.heap.size := by have := hb.size; omega
      rcases q0 with _ | _
      case true =>
        have HN := Lib.hid (show (rl.take (k + 1)).filter (fun r => onB r.f d) = (rl.take k).filter (fun r => onB r.f d) ++ [s] by rw [HX.out, List.filter_append]; simp [HQ.out])
        go_wp2_with fail
        refine (put_t (allL (byF ltT) ((rl.take k).filter fun r => onB r.f d)) A' l' c' s w1 0 w1.heap.size (fls_own HS.out hb1 hhi (HO.out.keep h1) fun r hr => List.mem_of_mem_take (List.mem_filter.1 ((mem_allL _ _ _).1 hr)).1) hok hll (Nat.le_refl _)).mono ?_
        rintro e w2 ⟨A1, c1, rfl, ho1, h2⟩
        have HO1 : Hid (Own w2 w.heap.size 96 tFl (.slice A1 (insL (byF ltT) s (allL (byF ltT) ((rl.take k).filter fun r => onB r.f d))).length c1) (allL (byF ltT) ((rl.take (k + 1)).filter fun r => onB r.f d))) := by
          show Own _ _ _ _ _ _
          rw [HN.out, allL_snoc]
          exact ho1.more hb1.size
        clear ho1
        generalize (insL (byF ltT) s (allL (byF ltT) ((rl.take k).filter fun r => onB r.f d))).length = l1 at HO1 ⊢
        go_wp2
        go_roundw
        case rel => exact ⟨k + 1, by omega, by go_num, ⟨_, _, _, rfl, HO1.out⟩, hb1.trans (h2.mono hb1.size)⟩
        case measure => simp [intOf]; omega
      case false =>
        have HN := Lib.hid (show (rl.take (k + 1)).filter (fun r => onB r.f d) = (rl.take k).filter (fun r => onB r.f d) by
          rw [HX.out, List.filter_append, List.filter_cons_of_neg (by rw [HQ.out]; simp)]; simp)
        have HO1 := Lib.hid (HO.out.keep h1)
        go_wp2
        go_roundw
        case rel => exact ⟨k + 1, by omega, by go_num, ⟨_, _, _, rfl, by rw [HN.out]; exact HO1.out⟩, hb1⟩
        case measure => simp [intOf]; omega
    · obtain rfl : n = k := by omega
      have HF : Hid (rl.take n = rl) := List.take_of_length_le (Nat.le_of_eq HL.out)
      rw [HF.out] at ho
      have HO := Lib.hid ho
      have HFS := Lib.hid (fls_own HS.out hb hhi ho fun r hr => (List.mem_filter.1 ((mem_allL _ _ _).1 hr)).1)
      have HRA := Lib.hid (fun r (hr : r ∈ allL (byF ltT) (rl.filter fun r => onB r.f d)) => HRT.out r (List.mem_filter.1 ((mem_allL _ _ _).1 hr)).1)
      have hl' : l' ≤ 3000 := by
        have h1 := ho.sl.len
        rw [len_allL] at h1
        have h2 := List.length_filter_le (fun r : FlR => onB r.f d) rl
        have h3 := HL.out
        omega
      generalize hal : allL (byF ltT) (rl.filter fun r => onB r.f d) = al at HO HFS HRA ⊢
      have HAL := Lib.hid hal
      clear hal
      have hzz := hb.size
      have HBW := Lib.hid hb
      have HLA := Lib.hid HFS.out.sl.len
      clear ho hb
      have t0 : decide ((n : Int) < n) = false := by simp
      obtain ⟨wx, hwx⟩ : ∃ x, x = wr := ⟨_, rfl⟩
      subst hwx
      go_wp2
      go_loopw [9, 12] (fun v i wv => ∃ k : Nat, k ≤ l' ∧ i = .int .i64 k ∧ (∃ A2 m2 c2, v = .slice A2 m2 c2 ∧ Own wv wx.heap.size 133 tPar (.slice A2 m2 c2) (rlG al (al.take k) fr to_)) ∧ Below wx.heap.size wx wv) (fun _ i _ => l' - (intOf i).toNat)
      case atStart => exact ⟨0, by omega, rfl, ⟨none, 0, 0, rfl, Own.nil_ _ _ _ _⟩, Below.refl _ _⟩
      case round =>
        obtain ⟨k2, hk2, rfl, ⟨A2, m2, c2, rfl, ho⟩, hb⟩ := hrel
        by_cases hlt : k2 < l'
        · have t1 : decide ((k2 : Int) < l') = true := by simp; omega
          obtain ⟨b0, o0, a, hA, _, hb0, hx, hok, hcl, d0, d1, d2, d3, d4, d5, d6, d7, d8⟩ := (HFS.out.below hb (Nat.le_refl _)).at_ hlt
          subst hA
          have HX := Lib.hid (take_snoc' hx.out)
          have HMA := Lib.hid (List.mem_of_getElem? hx.out)
          have HOK := Lib.hid hok
          have HRW := Lib.hid (rlG_snoc al (al.take k2) fr to_ a)
          have HO2 := Lib.hid ho
          have i0 : (0 : Int) ≤ k2 := by omega
          have i1 : (k2 : Int) < l' := by omega
          clear d0 d1 d2 d3 d4 d5 d6 d7 d8 hcl hok ho
          go_wp2
          go_loopw [9, 13] (fun v j wu => ∃ m : Nat, m ≤ l' ∧ j = .int .i64 m ∧ (∃ A3 m3 c3, v = .slice A3 m3 c3 ∧ Own wu wx.heap.size 133 tPar (.slice A3 m3 c3) (rlG al (al.take k2) fr to_ ++ rowR (al.take m) fr to_ a)) ∧ Below wx.heap.size wx wu) (fun _ j _ => l' - (intOf j).toNat)
          case atStart => exact ⟨0, by omega, rfl, ⟨_, _, _, rfl, by simpa [rowR] using HO2.out⟩, hb⟩
          case round =>
            clear hb HO2
            obtain ⟨m, hm, rfl, ⟨A3, m3, c3, rfl, ho⟩, hb⟩ := hrel
            by_cases hml : m < l'
            · have t2 : decide ((m : Int) < l') = true := by simp; omega
              obtain ⟨b1, o1, a', hA, _, hb1, hx', hok, hcl, d0, d1, d2, d3, d4, d5, d6, d7, d8⟩ := (HFS.out.below hb (Nat.le_refl _)).at_ hlt
              obtain rfl : a' = a := by have h := hx'.out.symm.trans hx.out; injection h
              injection hA with hA
              injection hA with g1 g2
              subst g1 g2
              obtain ⟨b1, o1, b, hA, _, _, hy, hokb, hclb, f0, f1, f2, f3, f4, f5, f6, f7, f8⟩ := (HFS.out.below hb (Nat.le_refl _)).at_ hml
              injection hA with hA
              injection hA with g1 g2
              subst g1 g2
              have j0 : (0 : Int) ≤ m := by omega
              have j1 : (m : Int) < l' := by omega
              have y1 : b0 < wr.heap.size := by have := hb.size; omega
              have HB2 := Lib.hid hb
              have HO3 := Lib.hid ho
              clear hb ho
              go_upto_region 14 with fail
              go_cut [14, 15] (fun t u w' => ∃ g1 g2, t = .pointer (some ⟨g1, 0, none⟩) ∧ u = .pointer (some ⟨g2, 0, none⟩) ∧ Bx w' g1 #[.string a'.f.car, .int .i64 a'.f.num, .string a'.f.frm, .string a'.f.to_, .int .u8 a'.f.days, .int .i64 a'.f.dep, .int .i64 a'.f.arr, .slice a'.A a'.n a'.c, .int .i64 a'.f.pln] 96 ∧ Bx w' g2 #[.string b.f.car, .int .i64 b.f.num, .string b.f.frm, .string b.f.to_, .int .u8 b.f.days, .int .i64 b.f.dep, .int .i64 b.f.arr, .slice b.A b.n b.c, .int .i64 b.f.pln] 96 ∧ Below wr.heap.size wr w')
              case first =>
                go_region_held3 (fun w' => (w'.cell? ⟨b0, o0 + k2 * 9, none⟩ = some (.string a'.f.car) ∧ w'.cell? ⟨b0, o0 + k2 * 9 + 1, none⟩ = some (.int .i64 a'.f.num) ∧ w'.cell? ⟨b0, o0 + k2 * 9 + 2, none⟩ = some (.string a'.f.frm) ∧ w'.cell? ⟨b0, o0 + k2 * 9 + 3, none⟩ = some (.string a'.f.to_) ∧ w'.cell? ⟨b0, o0 + k2 * 9 + 4, none⟩ = some (.int .u8 a'.f.days) ∧ w'.cell? ⟨b0, o0 + k2 * 9 + 5, none⟩ = some (.int .i64 a'.f.dep) ∧ w'.cell? ⟨b0, o0 + k2 * 9 + 6, none⟩ = some (.int .i64 a'.f.arr) ∧ w'.cell? ⟨b0, o0 + k2 * 9 + 7, none⟩ = some (.slice a'.A a'.n a'.c) ∧ w'.cell? ⟨b0, o0 + k2 * 9 + 8, none⟩ = some (.int .i64 a'.f.pln)) ∧ (w'.cell? ⟨b0, o0 + m * 9, none⟩ = some (.string b.f.car) ∧ w'.cell? ⟨b0, o0 + m * 9 + 1, none⟩ = some (.int .i64 b.f.num) ∧ w'.cell? ⟨b0, o0 + m * 9 + 2, none⟩ = some (.string b.f.frm) ∧ w'.cell? ⟨b0, o0 + m * 9 + 3, none⟩ = some (.string b.f.to_) ∧ w'.cell? ⟨b0, o0 + m * 9 + 4, none⟩ = some (.int .u8 b.f.days) ∧ w'.cell? ⟨b0, o0 + m * 9 + 5, none⟩ = some (.int .i64 b.f.dep) ∧ w'.cell? ⟨b0, o0 + m * 9 + 6, none⟩ = some (.int .i64 b.f.arr) ∧ w'.cell? ⟨b0, o0 + m * 9 + 7, none⟩ = some (.slice b.A b.n b.c) ∧ w'.cell? ⟨b0, o0 + m * 9 + 8, none⟩ = some (.int .i64 b.f.pln))) (go_keep) (fail)
                all_goals go_wp2
                all_goals go_meet
                all_goals refine ⟨_, _, rfl, rfl, ?_, ?_, ?_⟩
                all_goals first | exact Bx.two1 _ _ _ _ _ | exact Bx.two2 _ _ _ _ _ | exact Bx.two3 _ _ _ _ _
              case rest =>
                obtain ⟨g1, g2, rfl, rfl, bxa, bxb, hbc⟩ := hcut
                have hzb := HB2.out.size
                have hb5 := HB2.out.trans (hbc.mono hzb)
                have hz5 := hb5.size
                have HO5 := Lib.hid (HO3.out.keep hbc)
                have za := bxa.lt
                have zb := bxb.lt
                have c1 := bxa.cells
                have c2 := bxb.cells
                have HY := Lib.hid (take_snoc' hy.out)
                have HOKB := Lib.hid hokb
                obtain ⟨m1, m2, m3', m4⟩ := right_min (HRA.out a' HMA.out)
                obtain ⟨m5, m6, m7, m8⟩ := right_min (HRA.out b (List.mem_of_getElem? hy.out))
                have hlen : (rlG al (al.take k2) fr to_ ++ rowR (al.take m) fr to_ a').length < 2147483648 := by
                  have q1 := rlG_len al fr to_ (al.take k2)
                  have q2 := rowR_len (al.take m) fr to_ a'
                  have q3 : (al.take k2).length * al.length ≤ 3000 * 3000 := Nat.mul_le_mul (by rw [List.length_take, HLA.out]; omega) (by rw [HLA.out]; omega)
                  rw [List.length_take, HLA.out] at q2
                  rw [List.length_append]
                  omega
                have HW := Lib.hid (show linkB fr to_ a'.f b.f = (eqTx a'.f.frm fr && (eqTx a'.f.to_ b.f.frm && (eqTx b.f.to_ to_ && (decide (a'.f.dep ≤ a'.f.arr) && decide (45 ≤ b.f.dep - a'.f.arr))))) from rfl)
                have e1 := eqTx_l a'.f.frm fr
                have e2 := eqTx_l a'.f.to_ b.f.frm
                have e3 := eqTx_l b.f.to_ to_
                generalize eqTx a'.f.frm fr = q1 at e1 HW
                generalize eqTx a'.f.to_ b.f.frm = q2 at e2 HW
                generalize eqTx b.f.to_ to_ = q3 at e3 HW
                have hwr : IntKind.i64.wrap (b.f.dep - a'.f.arr) = b.f.dep - a'.f.arr := IntWalk.i64_in _ (by omega)
                clear hokb bxa bxb hbc HB2 HO3 d0 d1 d2 d3 d4 d5 d6 d7 d8 f0 f1 f2 f3 f4 f5 f6 f7 f8 y1 hclb
                have hge1 : (decide (a'.f.arr ≥ a'.f.dep)) = decide (a'.f.dep ≤ a'.f.arr) := rfl
                by_cases hall : q1 = true ∧ q2 = true ∧ q3 = true ∧ a'.f.dep ≤ a'.f.arr ∧ 45 ≤ b.f.dep - a'.f.arr
                · obtain ⟨rfl, rfl, rfl, hle, hle2⟩ := hall
                  have HN := Lib.hid (show rowR (al.take (m + 1)) fr to_ a' = rowR (al.take m) fr to_ a' ++ [(a', b)] by
                    unfold rowR
                    rw [HY.out, List.filter_append, List.map_append]
                    simp [HW.out, hle, hle2])
                  go_wp2_with (at_builtin; refine push_law (T := tPar) (W := wc) rfl (.tmp 86) (.tmp 90) rfl sl_par rfl HO5.out (a', b) (by exact ⟨HOK.out, HOKB.out⟩) _ rfl rfl (by exact hz5) (by exact hlen) ?_; intro v1 w1 ho1 hb1)
                  obtain ⟨A9, c9, rfl⟩ := ho1.form
                  have HO1 := Lib.hid (show Own w1 wx.heap.size 133 tPar _ (rlG al (al.take k2) fr to_ ++ rowR (al.take (m + 1)) fr to_ a') by rw [HN.out, ← List.append_assoc]; exact ho1)
                  clear ho1
                  go_wp2
                  go_roundw
                  case rel => exact ⟨m + 1, by omega, by go_num, ⟨_, _, _, rfl, HO1.out⟩, hb5.trans hb1⟩
                  case measure => simp [intOf]; omega
                · have HALL := Lib.hid hall
                  have HN := Lib.hid (show rowR (al.take (m + 1)) fr to_ a' = rowR (al.take m) fr to_ a' by
                    unfold rowR
                    rw [HY.out, List.filter_append, List.filter_cons_of_neg (by rw [HW.out]; simpa using hall)]; simp)
                  have HO6 := Lib.hid (show Own wc wx.heap.size 133 tPar (.slice A3 m3 c3) (rlG al (al.take k2) fr to_ ++ rowR (al.take (m + 1)) fr to_ a') by rw [HN.out]; exact HO5.out)
                  clear hall HN HO5
                  rcases q1 with _ | _
                  case' true =>
                    rcases q2 with _ | _
                    case' true =>
                      rcases q3 with _ | _
                      case' true =>
                        by_cases h4 : a'.f.dep ≤ a'.f.arr
                        case' pos =>
                          have g4 : decide (a'.f.arr ≥ a'.f.dep) = true := decide_eq_true h4
                          have g5 : decide (b.f.dep - a'.f.arr ≥ 45) = false := decide_eq_false fun h => HALL.out ⟨rfl, rfl, rfl, h4, h⟩
                        case' neg =>
                          have g4 : decide (a'.f.arr ≥ a'.f.dep) = false := decide_eq_false h4
                  all_goals
                    clear HALL HW
                    go_wp2
                    go_roundw
                    (case measure => simp [intOf]; omega)
                    exact ⟨m + 1, by omega, by go_num, ⟨_, _, _, rfl, HO6.out⟩, hb5⟩
            · obtain rfl : l' = m := by omega
              have t2 : decide ((l' : Int) < l') = false := by simp
              have HF2 : Hid (al.take l' = al) := List.take_of_length_le (Nat.le_of_eq HLA.out)
              rw [HF2.out, ← HRW.out, ← HX.out] at ho
              go_wp2
              go_roundw
              case rel => exact ⟨k2 + 1, by omega, by go_num, ⟨_, _, _, rfl, ho⟩, hb⟩
              case measure => simp [intOf]; omega
        · obtain rfl : l' = k2 := by omega
          have t1 : decide ((l' : Int) < l') = false := by simp
          have HF2 : Hid (al.take l' = al) := List.take_of_length_le (Nat.le_of_eq HLA.out)
          rw [HF2.out] at ho
          go_wp2
          go_ret
          have ho9 := ho.more hzz
          have hb9 := HBW.out.trans (hb.mono hzz)
          rw [HAL.out]
          exact RetOwn.mk' (v := .slice A2 m2 c2) ho9 hb9
/-- The two lines of a link. -/
def ln2F (fs : List Flt) (q : Cel → Int) (d : Int) (p : Flt × Flt) : List LnF := [lineF fs q d false p.1, lineF fs q d true p.2]
def availF (fs : List Flt) (q : Cel → Int) (d : Int) (fr to_ : ByteArray) : List LnF := (betwF fs d fr to_).map (lineF fs q d false) ++ (linksF fs d fr to_).flatMap (ln2F fs q d)
theorem OwnL.push2 {w W V V' : World} {B : Nat} {v v' : Value} {l : List Ln} {x y : Ln} (h : OwnL W B v l) (hk : Below W.heap.size W V) (h1 : Own V W.heap.size 185 tSld (.slice x.A x.n x.c) x.left) (h2 : Own V W.heap.size 185 tSld (.slice y.A y.n y.c) y.left) (hB : B ≤ W.heap.size)
    (ho : Own V' B 127 tLn v' (l ++ [x, y])) (hg : V.grownBy V' v.ownBlock) (hv : v'.ownBlock = v.ownBlock ∨ ∀ k, v'.ownBlock = some k → V.heap.size ≤ k) : OwnL V' B v' (l ++ [x, y]) := by
  have hV := h.keep hk
  have hz := hk.size
  have new : ∀ z : Ln, Own V W.heap.size 185 tSld (.slice z.A z.n z.c) z.left → Own V' B 185 tSld (.slice z.A z.n z.c) z.left ∧ ∀ k, v'.ownBlock = some k → (Value.slice z.A z.n z.c).ownBlock ≠ some k := fun z hz1 => by
    refine ⟨Own.kept (Own.more hz1 hB) hg fun k hk2 hv2 => ?_, fun k hk' e => ?_⟩
    · have := (h.own.lt k hv2).2
      have := (hz1.lt k hk2).1
      omega
    · have h5 := hz1.lt k e
      rcases hv with h4 | h4
      · have h6 := (h.own.lt k (h4 ▸ hk')).2
        omega
      · have h6 := h4 k hk'
        omega
  refine ⟨ho, fun z hz => ?_, fun z hz k hk' => ?_⟩
  · rcases List.mem_append.1 hz with h3 | h3
    · exact Own.kept (hV.cl z h3) hg fun k hk2 hv2 => h.off z h3 k hv2 hk2
    · rcases List.mem_cons.1 h3 with rfl | h3
      · exact (new _ h1).1
      · rw [List.mem_singleton.1 h3]; exact (new _ h2).1
  · rcases List.mem_append.1 hz with h3 | h3
    · rcases hv with h4 | h4
      · exact h.off z h3 k (h4 ▸ hk')
      · intro e
        have h5 := ((h.cl z h3).lt k e).2
        have h6 := h4 k hk'
        omega
    · rcases List.mem_cons.1 h3 with rfl | h3
      · exact (new _ h1).2 k hk'
      · rw [List.mem_singleton.1 h3]; exact (new _ h2).2 k hk'
/-- A pair's cells, in a row of pairs. -/
theorem Sl.pair {w : World} {lo hi n k : Nat} {A : Option Addr} {l : List Par} (h : Sl w lo hi tPar A n l) (hk : k < n) :
    ∃ b o x y, A = some ⟨b, o, none⟩ ∧ lo ≤ b ∧ b < hi ∧ Hid (l[k]? = some (x, y)) ∧ x.ok ∧ y.ok ∧ Hid (w.rangeAt b (o + k * 18) (tPar.enc (x, y))) := by
  obtain ⟨b, o, ⟨x, y⟩, h1, h2, h3, h4, h5, hc⟩ := h.at_ hk
  exact ⟨b, o, x, y, h1, h2, h3, h4, h5.1, h5.2, fun j v hv => hc j v hv⟩
theorem load_par {ops : Array Oper} {rest : List Oper} {o : Oper} {a : Act} {W : World} {Q : Exit → Act → World → Prop} (hgd : o.guard = none) (x : Operand) (ho : o.op = .load 133 x) {b off : Nat} {p : Par}
    (hx : a.eval x = .pointer (some ⟨b, off, none⟩)) (hr : W.rangeAt b off (tPar.enc p))
    (h : wpList Tryz.prog ops Q rest (a.put o.dst (.agg #[.string p.1.f.car, .int .i64 p.1.f.num, .string p.1.f.frm, .string p.1.f.to_, .int .u8 p.1.f.days, .int .i64 p.1.f.dep, .int .i64 p.1.f.arr, .slice p.1.A p.1.n p.1.c, .int .i64 p.1.f.pln, .string p.2.f.car, .int .i64 p.2.f.num, .string p.2.f.frm, .string p.2.f.to_, .int .u8 p.2.f.days, .int .i64 p.2.f.dep, .int .i64 p.2.f.arr, .slice p.2.A p.2.n p.2.c, .int .i64 p.2.f.pln])) W) : wpList Tryz.prog ops Q (o :: rest) a W :=
  wpList_load_mid hgd _ x ho b off hx _ _ hr Tryz.underlying133 rfl info_par h
theorem store_par {ops : Array Oper} {rest : List Oper} {o : Oper} {a : Act} {W : World} {Q : Exit → Act → World → Prop} (hgd : o.guard = none) (x y : Operand) (ho : o.op = .store 133 x y) {g : Nat} (cells : Array Value) {old : Array Value}
    (hx : a.eval x = .pointer (some ⟨g, 0, none⟩)) (hy : a.eval y = .agg cells) (hr : Bx W g old 133) (h12 : cells.size = 18) (ho12 : old.size = 18) (h1 : (cells.all fun v => v.oneCell') = true)
    (h : wpList Tryz.prog ops Q rest (a.put o.dst undef) (W.setRow g cells)) : wpList Tryz.prog ops Q (o :: rest) a W :=
  wpList_store_row hgd _ x y ho g cells hx hy _ old hr (by rw [h12]; exact info_par) (by rw [ho12, h12]) h1 h
/-- While the links are told: their list lies as it lay, off the row of what is told. -/
structure K2 (z : Nat) (w2 : World) (v : Value) (wr : World) : Prop where
  size : w2.heap.size ≤ wr.heap.size
  same : ∀ k, z ≤ k → k < w2.heap.size → wr.heap[k]? = w2.heap[k]?
  off : ∀ k, v.ownBlock = some k → ¬ (z ≤ k ∧ k < w2.heap.size)
theorem K2.sl {α : Type} {z n : Nat} {w2 wr : World} {v : Value} {T : Ty α} {A : Option Addr} {l : List α} (h : K2 z w2 v wr) (hs : Sl w2 z w2.heap.size T A n l) : Sl wr z w2.heap.size T A n l :=
  hs.keep fun p h1 h2 => World.cell?_of_block (h.same p.block h1 h2)
theorem K2.grown {z : Nat} {w2 wr V V' : World} {v v' : Value} (h : K2 z w2 v wr) (hb : Below wr.heap.size wr V) (hg : V.grownBy V' v.ownBlock) (hv : v'.ownBlock = v.ownBlock ∨ v'.ownBlock = some V.heap.size) : K2 z w2 v' V' := by
  have h1 := h.size
  have h2 := hb.size
  have h3 := hg.size
  refine ⟨by omega, fun k hk1 hk2 => ?_, fun k hk => ?_⟩
  · exact ((hg.block k (by omega) (fun e => h.off k e.symm ⟨hk1, hk2⟩)).trans (hb.block k (by omega))).trans (h.same k hk1 hk2)
  · rcases hv with h5 | h5
    · exact h.off k (h5 ▸ hk)
    · rw [h5] at hk
      injection hk with hk
      omega
theorem ColA.push2 {w W V V' : World} {L L2 : List LnF} {v v' : Value} {x y : Ln} {out : List Ln} (h : OwnL W w.heap.size v out) (hm : out.map lnF = L) (hB : Below w.heap.size w W) (hk : Below W.heap.size W V) (h1 : Own V W.heap.size 185 tSld (.slice x.A x.n x.c) x.left) (h2 : Own V W.heap.size 185 tSld (.slice y.A y.n y.c) y.left)
    (ho : Own V' w.heap.size 127 tLn v' (out ++ [x, y])) (hg : V.grownBy V' v.ownBlock) (hv : v'.ownBlock = v.ownBlock ∨ ∀ k, v'.ownBlock = some k → V.heap.size ≤ k) (hL : [lnF x, lnF y] = L2) : ColA w (L ++ L2) v' V' :=
  ⟨⟨_, h.push2 (w := w) hk h1 h2 hB.size ho hg hv, by rw [List.map_append, hm, ← hL]; rfl⟩, (hB.trans (hk.mono hB.size)).grown hg (Nat.le_trans hB.size hk.size) (fun k hk' => (h.own.lt k hk').1)⟩
set_option maxRecDepth 100000 in
set_option maxHeartbeats 16000000 in
theorem avail_any {W : World} {lo hi t p b : Nat} {rs : List FlR} {q : Cel → Int} (h : SK W lo hi t p b rs q) (hq : QB q) (hright : ∀ f ∈ rs.map (·.f), rightB f = true) (hnok : Nok (rs.map (·.f))) (h64 : rs.length ≤ 64) (d : Int) (fr to_ : ByteArray) (hd : okInt d) :
    Calls Tryz.prog 26 #[.pointer (some ⟨p, 0, none⟩), .int .i64 d, .string fr, .string to_] W (RetA W (availF (rs.map (·.f)) q d fr to_)) := by
  have HQ := Lib.hid hq
  have HR := Lib.hid hright
  have HRR := Lib.hid (fun (r : FlR) (hr : r ∈ rs) => hright r.f (List.mem_map_of_mem hr))
  have HNK := Lib.hid hnok
  have HS := Lib.hid h
  have HD := Lib.hid hd
  have zp := h.plt
  have cx := h.box.cells
  have HT := Lib.hid h.tb
  have HM := Lib.hid (fun (x : Flt) => @betw_mem (rs.map (·.f)) hnok d fr to_ x)
  have HLB := Lib.hid (show (betwF (rs.map (·.f)) d fr to_).length ≤ 64 by have h1 := betw_len (rs.map (·.f)) d fr to_; rw [List.length_map] at h1; omega)
  clear h hq hright hnok hd
  go_enter Tryz.func26, Tryz.ntmps26
  go_wp2_with fail
  refine (tbetween_any rs t lo d fr to_ W HT.out HNK.out).mono ?_
  generalize hL1 : betwF (rs.map (·.f)) d fr to_ = L1 at HM HLB
  have HEQ := Lib.hid hL1
  clear hL1
  rintro e w1 ⟨A1, n1, c1, o1, rfl, hO1, hm1, h1⟩
  have HL1 := Lib.hid hO1.own.sl.len
  have HO1 := Lib.hid hO1.sl
  have HM1 := Lib.hid hm1
  have hn1 : n1 ≤ 64 := by have h5 := congrArg List.length hm1; rw [List.length_map] at h5; have h6 := HLB.out; have h7 := HL1.out; omega
  have z1 := h1.size
  have H1 := Lib.hid h1
  clear hO1 hm1 h1 cx
  go_wp2
  go_loopw [9, 23] (fun v i wr => ∃ k : Nat, k ≤ n1 ∧ i = .int .i64 k ∧ ColA w1 (((o1.take k).map (·.f)).map (lineF (rs.map (·.f)) q d false)) v wr) (fun _ i _ => n1 - (intOf i).toNat)
  case atStart => exact ⟨0, Nat.zero_le _, rfl, ⟨⟨[], OwnL.nil_ _ _, rfl⟩, Below.refl _ _⟩⟩
  case round =>
    obtain ⟨k, hk, rfl, hC⟩ := hrel
    have HC := Lib.hid hC
    have hb1 := hC.B
    have HB1 := Lib.hid hb1
    by_cases hlt : k < n1
    · obtain ⟨b0, o0, s, hA, _, _, hx', hok, hcl, d0, d1, d2, d3, d4, d5, d6, d7, d8⟩ := (HO1.out.below hb1 (Nat.le_refl _)).at_ hlt
      subst hA
      have i0 : (0 : Int) ≤ k := by omega
      have i1 : (k : Int) < n1 := by omega
      have HX := Lib.hid (show ((o1.take (k + 1)).map (·.f)).map (lineF (rs.map (·.f)) q d false) = ((o1.take k).map (·.f)).map (lineF (rs.map (·.f)) q d false) ++ [lineF (rs.map (·.f)) q d false s.f] by rw [List.take_add_one, hx'.out]; simp)
      have hmem : s.f ∈ rs.map (·.f) := HM.out _ (by rw [← HM1.out]; exact List.mem_map_of_mem (List.mem_of_getElem? hx'.out))
      have hsn : s.n ≤ 1000 := by have h5 := right_few (HR.out _ hmem); have h6 := hok.len; omega
      have z2 := hb1.size
      have hA1 : Below W.heap.size W (wr.alloc (.cells #[.string s.f.car, .int .i64 s.f.num, .string s.f.frm, .string s.f.to_, .int .u8 s.f.days, .int .i64 s.f.dep, .int .i64 s.f.arr, .slice s.A s.n s.c, .int .i64 s.f.pln] 96)) := (H1.out.trans (hb1.mono z1)).alloc (by omega) _
      have HSK := Lib.hid (HS.out.keep hA1)
      have HCL := Lib.hid (ClAt.below hcl ((Below.refl wr.heap.size wr).alloc (Nat.le_refl _) (.cells #[.string s.f.car, .int .i64 s.f.num, .string s.f.frm, .string s.f.to_, .int .u8 s.f.days, .int .i64 s.f.dep, .int .i64 s.f.arr, .slice s.A s.n s.c, .int .i64 s.f.pln] 96)) (show w1.heap.size ≤ wr.heap.size from z2))
      have HC2 := Lib.hid (hC.step ((Below.refl wr.heap.size wr).alloc (Nat.le_refl _) (.cells #[.string s.f.car, .int .i64 s.f.num, .string s.f.frm, .string s.f.to_, .int .u8 s.f.days, .int .i64 s.f.dep, .int .i64 s.f.arr, .slice s.A s.n s.c, .int .i64 s.f.pln] 96)))
      clear hcl hC hb1 hmem
      go_wp2_with fail
      refine (line_any HSK.out HQ.out HR.out s d false W.heap.size w1.heap.size hok HCL.out (by simp; omega) hsn HD.out).mono ?_
      rintro e w2 ⟨A2, n2, c2, rfl, ho2, h2⟩
      obtain ⟨out, ho, hm⟩ := HC2.out.out
      have hlo : out.length ≤ 1000 := by
        have h5 := congrArg List.length hm
        simp only [List.length_map] at h5
        have h6 := List.length_take_le k o1
        omega
      have HO := Lib.hid ho
      have HMM := Lib.hid hm
      have HO2 := Lib.hid ho2
      have H2 := Lib.hid h2
      have z3 := h2.size
      have z4 : w1.heap.size ≤ w2.heap.size := by have h5 := z3; simp at h5; omega
      have HB2 := Lib.hid (HC2.out.step h2).B
      clear ho hm ho2 h2 d0 d1 d2 d3 d4 d5 d6 d7 d8
      go_wp2_with (at_builtin; refine push_told rfl (.tmp 27) (.tmp 32) rfl sl_ln rfl (HO.out.keep H2.out).own (⟨s.f, false, A2, n2, c2, solF (rs.map (·.f)) q s.f d⟩ : Ln) trivial _ rfl rfl z4 (by omega) ?_; intro v' w3 hown' hgr hb')
      go_roundw
      case rel =>
        exact ⟨k + 1, by omega, by go_num, ⟨⟨_, HO.out.push H2.out (HO2.out.more (by omega)) (by simp; omega) hown' hgr hb', by rw [HX.out, List.map_append, HMM.out]; rfl⟩, HB2.out.grown hgr (by omega) (fun k hk => (HO.out.own.lt k hk).1)⟩⟩
      case measure => simp [intOf]; omega
    · obtain rfl : n1 = k := by omega
      have HF : Hid (o1.take n1 = o1) := List.take_of_length_le (Nat.le_of_eq HL1.out)
      rw [HF.out, HM1.out] at hC
      have HCC := Lib.hid hC
      have hbW : Below W.heap.size W wr := H1.out.trans (hb1.mono z1)
      have HBW := Lib.hid hbW
      have cx := (HS.out.keep hbW).box.cells
      clear hC hb1 hbW
      go_wp2_with fail
      refine (tlinks_any rs t lo d fr to_ wr (HT.out.keep HBW.out) HNK.out HRR.out).mono ?_
      rintro e w2 ⟨A2, n2, c2, o2, rfl, hO2, hm2, h2⟩
      obtain ⟨z0, hz0⟩ : ∃ z0, z0 = wr.heap.size := ⟨_, rfl⟩
      rw [← hz0] at hO2
      have HK0 : Hid (∀ v, ColA w1 (L1.map (lineF (rs.map (·.f)) q d false)) v wr → ∀ k, v.ownBlock = some k → k < z0) := fun v hv k hk => by
        obtain ⟨out, ho, _⟩ := hv.out
        rw [hz0]
        exact (ho.own.lt k hk).2
      have HC2 := Lib.hid (HCC.out.step h2)
      have HB2 := Lib.hid (HBW.out.trans (h2.mono HBW.out.size))
      have HO2 := Lib.hid hO2
      have HM2 := Lib.hid hm2
      have HL2 := Lib.hid hO2.own.sl.len
      have z2 := HB2.out.size
      have z12 : w1.heap.size ≤ w2.heap.size := (HC2.out.B).size
      have zw2 := h2.size
      have HMEM : Hid (∀ x ∈ o2, x.1.f ∈ rs.map (·.f) ∧ x.2.f ∈ rs.map (·.f)) := fun x hx => by
        have h5 : parF x ∈ linksF (rs.map (·.f)) d fr to_ := by rw [← hm2]; exact List.mem_map_of_mem hx
        obtain ⟨⟨q1, _⟩, ⟨q2, _⟩, _⟩ := (mem_links HNK.out).1 h5
        exact ⟨q1, q2⟩
      have hn2 : n2 ≤ 4096 := by
        have h5 := congrArg List.length hm2
        have h6 := hO2.own.sl.len
        have h7 : (linksF (rs.map (·.f)) d fr to_).length ≤ 64 * 64 := by
          refine Nat.le_trans (links_len _ _ _ _) ?_
          rw [List.length_map]
          exact Nat.mul_le_mul h64 h64
        simp only [List.length_map] at h5
        omega
      clear hO2 hm2 h2 cx
      go_wp2
      go_loopw [9, 44] (fun v i wr => ∃ k : Nat, k ≤ n2 ∧ i = .int .i64 k ∧ ColA w1 (L1.map (lineF (rs.map (·.f)) q d false) ++ ((o2.take k).map parF).flatMap (ln2F (rs.map (·.f)) q d)) v wr ∧ K2 z0 w2 v wr) (fun _ i _ => n2 - (intOf i).toNat)
      case atStart => exact ⟨0, Nat.zero_le _, rfl, by simpa using HC2.out, ⟨Nat.le_refl _, fun _ _ _ => rfl, fun k hk h => by have := HK0.out _ HCC.out k hk; omega⟩⟩
      case round =>
        obtain ⟨k, hk, rfl, hC, hbw⟩ := hrel
        have HC := Lib.hid hC
        have HBR := Lib.hid hbw
        have zr := hbw.size
        have HCB := Lib.hid hC.B
        clear hC hbw
        by_cases hlt : k < n2
        · obtain ⟨b0, o0, x, y, hA, _, hb0, hx', okx, oky, hrg⟩ := Sl.pair (HBR.out.sl HO2.out.own.sl) hlt
          subst hA
          have i0 : (0 : Int) ≤ k := by omega
          have i1 : (k : Int) < n2 := by omega
          have hmx : x.f ∈ rs.map (·.f) := (HMEM.out (x, y) (List.mem_of_getElem? hx'.out)).1
          have hmy : y.f ∈ rs.map (·.f) := (HMEM.out (x, y) (List.mem_of_getElem? hx'.out)).2
          have hnx : x.n ≤ 1000 := by have h5 := right_few (HR.out _ hmx); have h6 := okx.len; omega
          have hny : y.n ≤ 1000 := by have h5 := right_few (HR.out _ hmy); have h6 := oky.len; omega
          have hfx : x ∈ flatP o2 := mem_flatP.2 ⟨_, List.mem_of_getElem? hx'.out, .inl rfl⟩
          have hfy : y ∈ flatP o2 := mem_flatP.2 ⟨_, List.mem_of_getElem? hx'.out, .inr rfl⟩
          have HX := Lib.hid (show ((o2.take (k + 1)).map parF).flatMap (ln2F (rs.map (·.f)) q d) = ((o2.take k).map parF).flatMap (ln2F (rs.map (·.f)) q d) ++ ln2F (rs.map (·.f)) q d (x.f, y.f) by rw [List.take_add_one, hx'.out]; simp [parF])
          have HSR := Lib.hid (HS.out.keep (H1.out.trans (HCB.out.mono z1)))
          have HCX : Hid (ClAt wr z0 w2.heap.size x) := HBR.out.sl (ClOwn.at_ (HO2.out.cl x hfx))
          have HCY : Hid (ClAt wr z0 w2.heap.size y) := HBR.out.sl (ClOwn.at_ (HO2.out.cl y hfy))
          have zb0 : b0 < wr.heap.size := by omega
          clear hmx hmy hfx hfy
          go_wp2_with (first
            | (refine load_par (p := (x, y)) rfl (.tmp 46) rfl rfl hrg.out ?_)
            | (refine store_par rfl (.tmp 13) (.tmp 47) rfl #[.string x.f.car, .int .i64 x.f.num, .string x.f.frm, .string x.f.to_, .int .u8 x.f.days, .int .i64 x.f.dep, .int .i64 x.f.arr, .slice x.A x.n x.c, .int .i64 x.f.pln, .string y.f.car, .int .i64 y.f.num, .string y.f.frm, .string y.f.to_, .int .u8 y.f.days, .int .i64 y.f.dep, .int .i64 y.f.arr, .slice y.A y.n y.c, .int .i64 y.f.pln] rfl rfl (Bx.new _ #[.string ⟨#[]⟩, .int .i64 0, .string ⟨#[]⟩, .string ⟨#[]⟩, .int .u8 0, .int .i64 0, .int .i64 0, .slice none 0 0, .int .i64 0, .string ⟨#[]⟩, .int .i64 0, .string ⟨#[]⟩, .string ⟨#[]⟩, .int .u8 0, .int .i64 0, .int .i64 0, .slice none 0 0, .int .i64 0] _) rfl rfl (by simp [Value.oneCell']) ?_))
          go_upto_region 10 with fail
          refine wp_world (fun V => Bx V wr.heap.size #[.string x.f.car, .int .i64 x.f.num, .string x.f.frm, .string x.f.to_, .int .u8 x.f.days, .int .i64 x.f.dep, .int .i64 x.f.arr, .slice x.A x.n x.c, .int .i64 x.f.pln, .string y.f.car, .int .i64 y.f.num, .string y.f.frm, .string y.f.to_, .int .u8 y.f.days, .int .i64 y.f.dep, .int .i64 y.f.arr, .slice y.A y.n y.c, .int .i64 y.f.pln] 133 ∧ Below wr.heap.size wr V) ⟨(Bx.new _ _ _).row _, below_setRow ((Below.refl _ _).alloc (Nat.le_refl _) _) (Nat.le_refl _) _⟩ ?_
          rintro V ⟨bP, hbV⟩
          have HBV := Lib.hid hbV
          have BP := Lib.hid bP
          have c1 := bP.cells
          have zP := bP.lt
          have zV := hbV.size
          have HLX := Lib.hid (fun (U : World) (hU : Below V.heap.size V U) => line_any (HSR.out.keep (HBV.out.trans (hU.mono HBV.out.size))) HQ.out HR.out x d false _ _ okx (ClAt.below HCX.out (HBV.out.trans (hU.mono HBV.out.size)) zr) (Nat.le_trans zr (Nat.le_trans HBV.out.size hU.size)) hnx HD.out)
          have HLY := Lib.hid (fun (U : World) (hU : Below V.heap.size V U) => line_any (HSR.out.keep (HBV.out.trans (hU.mono HBV.out.size))) HQ.out HR.out y d true _ _ oky (ClAt.below HCY.out (HBV.out.trans (hU.mono HBV.out.size)) zr) (Nat.le_trans zr (Nat.le_trans HBV.out.size hU.size)) hny HD.out)
          have D0 := Lib.hid ((Below.refl V.heap.size V).drew)
          obtain ⟨out, ho, hm⟩ := HC.out.out
          have zc := HC.out.B.size
          have hlo : out.length ≤ 100000 := by
            have h5 := congrArg List.length hm
            have h6 := List.length_take_le k o2
            have h7 : (((o2.take k).map parF).flatMap (ln2F (rs.map (·.f)) q d)).length ≤ 2 * ((o2.take k).map parF).length := by
              rw [List.length_flatMap]
              generalize (o2.take k).map parF = l0
              induction l0 with
              | nil => simp
              | cons a l0 ih => simp only [List.map_cons, List.sum_cons, List.length_cons]; have : (ln2F (rs.map (·.f)) q d a).length = 2 := rfl; omega
            have h8 := HLB.out
            simp only [List.length_map, List.length_append] at h5 h7
            omega
          have HO := Lib.hid ho
          have HM := Lib.hid hm
          clear ho hm HC hbV bP okx oky
          go_region_law (first
            | (go_simp; go_at_call 63; (with_reducible refine (HLX.out _ D0.out).mono ?_); rintro e wa ⟨A1, k1, e1, rfl, hoa, ha⟩; have DA : Hid (Below V.heap.size V wa) := D0.out.trans (ha.mono (show V.heap.size ≤ V.drew.heap.size from Nat.le_refl _)); have HOA := Lib.hid (hoa.more (show V.heap.size ≤ V.drew.heap.size + 1 + 1 + 1 from Nat.le_add_right V.heap.size 3)); have c1a := (BP.out.below DA.out zP).cells; clear ha hoa)
            | (go_simp; go_at_call 63; (with_reducible refine (HLY.out _ DA.out).mono ?_); rintro e wb ⟨A2, k2, e2, rfl, hob, hb⟩; have DB : Hid (Below V.heap.size V wb) := DA.out.trans (hb.mono DA.out.size); have HOA2 := Lib.hid (HOA.out.keep hb); have zz2 := DA.out.size; have HOB := Lib.hid (hob.more (show V.heap.size ≤ wa.heap.size + 1 + 1 + 1 by omega)); have c1b := (BP.out.below DB.out zP).cells; clear hb hob)
            | (refine step_append_told (T := tLn) rfl (.tmp 48) (.tmp 59) (by rfl) sl_ln (by rfl) ((HO.out.keep (HBV.out.trans (DB.out.mono zV))).own.alloc _) (by rfl) (Sl.ofRow (l := [(⟨x.f, false, A1, k1, e1, solF (rs.map (·.f)) q x.f d⟩ : Ln), ⟨y.f, true, A2, k2, e2, solF (rs.map (·.f)) q y.f d⟩]) (by exact heap_alloc_new _ _) (by rfl) (by simp [tLn])) (fun h => by cases h) (by have := DB.out.size; simp; omega) (by simp; omega) ?_; intro v' w3 hown' hgr hb'))
          all_goals
            go_wp2
            have hbb : Below wr.heap.size wr (wb.alloc (.cells #[.string x.f.car, .int .i64 x.f.num, .string x.f.frm, .string x.f.to_, .int .i64 x.f.dep, .int .i64 x.f.arr, .bool false, .slice A1 k1 e1, .string y.f.car, .int .i64 y.f.num, .string y.f.frm, .string y.f.to_, .int .i64 y.f.dep, .int .i64 y.f.arr, .bool true, .slice A2 k2 e2] 127)) := (HBV.out.trans (DB.out.mono zV)).alloc (by have := DB.out.size; omega) _
            refine ⟨⟨k + 1, by omega, by go_num, ?_, HBR.out.grown hbb hgr hb'⟩, by simp [intOf]; omega⟩
            rw [HX.out, ← List.append_assoc]
            exact ColA.push2 HO.out HM.out HCB.out hbb ((HOA2.out.more zV).alloc _) ((HOB.out.more zV).alloc _) hown' hgr (by
              rcases hb' with h5 | h5
              · exact .inl h5
              · exact .inr fun q hq => by rw [h5] at hq; injection hq with hq; omega) rfl
        · obtain rfl : n2 = k := by omega
          have HF : Hid (o2.take n2 = o2) := List.take_of_length_le (Nat.le_of_eq HL2.out)
          obtain ⟨out, ho, hm⟩ := HC.out.out
          rw [HF.out, HM2.out] at hm
          obtain ⟨A9, c9, rfl⟩ := ho.own.form
          have HBE := Lib.hid (H1.out.trans (HCB.out.mono z1))
          have HO := Lib.hid ho
          have HM := Lib.hid hm
          clear ho hm HC
          go_wp2
          go_ret
          exact ⟨_, _, _, out, rfl, HO.out.more z1, by rw [HM.out, ← HEQ.out]; rfl, HBE.out⟩
/-- A line of the document's: its flight, and its own row of what is left. -/
structure Ln10 where
  r : FlR
  lk : Bool
  A : Option Addr
  n : Nat
  c : Nat
  left : List Cls
def tLn10 : Ty Ln10 := ⟨fun x => [.string x.r.f.car, .int .i64 x.r.f.num, .string x.r.f.frm, .string x.r.f.to_, .int .u8 x.r.f.days, .int .i64 x.r.f.dep, .int .i64 x.r.f.arr, .slice x.r.A x.r.n x.r.c, .int .i64 x.r.f.pln, .bool x.lk, .slice x.A x.n x.c], 11, fun _ => True, fun _ => rfl, fun x u h => by simp at h; rcases h with h | h | h | h | h | h | h | h | h | h | h <;> subst h <;> rfl, by omega⟩
theorem sl_ln10 : SlT Tryz.prog 55 125 11 := SlT.mk' (z := .agg #[.string ⟨#[]⟩, .int .i64 0, .string ⟨#[]⟩, .string ⟨#[]⟩, .int .u8 0, .int .i64 0, .int .i64 0, .slice none 0 0, .int .i64 0, .bool false, .slice none 0 0]) (b := 144) (by kernel_rfl) (by kernel_rfl) (by omega) rfl
theorem info_ln10 : (Tryz.prog.info? 125).map (·.size) = some 11 := by kernel_rfl
theorem ret_ln10 {fn : Func} {p : Tmp} (h : fn.results = #[.cell p 125]) {R : Ending → World → Prop} {a : Act} {w : World} {g : Nat} {cs : Array Value}
    (hr : Bx w g cs 125) (hs : cs.size = 11) (hp : a.tmps.getD p undef = .pointer (some ⟨g, 0, none⟩)) (hd : a.defers = []) (hR : R (.returned (.agg cs)) w) : bodyPost Tryz.prog fn R .ret a w := by
  refine bodyPost_ret (v := .agg cs) ?_ hd hR
  rw [res_cell1 h, hp]
  have hl := run_loadVar_row (P := Tryz.prog) w g 125 125 cs (0, 0) _ hr Tryz.underlying125 rfl (by rw [hs]; exact info_ln10)
  simp [asAddr, hl, Result.andThen]
theorem store_ln10 {ops : Array Oper} {rest : List Oper} {o : Oper} {a : Act} {W : World} {Q : Exit → Act → World → Prop} (hgd : o.guard = none) (x y : Operand) (ho : o.op = .store 125 x y) {g : Nat} (cells : Array Value) {old : Array Value}
    (hx : a.eval x = .pointer (some ⟨g, 0, none⟩)) (hy : a.eval y = .agg cells) (hr : Bx W g old 125) (h12 : cells.size = 11) (ho12 : old.size = 11) (h1 : (cells.all fun v => v.oneCell') = true)
    (h : wpList Tryz.prog ops Q rest (a.put o.dst undef) (W.setRow g cells)) : wpList Tryz.prog ops Q (o :: rest) a W :=
  wpList_store_row hgd _ x y ho g cells hx hy _ old hr (by rw [h12]; exact info_ln10) (by rw [ho12, h12]) h1 h
theorem load_ln10 {ops : Array Oper} {rest : List Oper} {o : Oper} {a : Act} {W : World} {Q : Exit → Act → World → Prop} (hgd : o.guard = none) (x : Operand) (ho : o.op = .load 125 x) {g : Nat} {cs : Array Value}
    (hx : a.eval x = .pointer (some ⟨g, 0, none⟩)) (hr : Bx W g cs 125) (h20 : cs.size = 11)
    (h : wpList Tryz.prog ops Q rest (a.put o.dst (.agg cs)) W) : wpList Tryz.prog ops Q (o :: rest) a W :=
  wpList_load_row hgd _ x ho g hx _ cs _ _ hr Tryz.underlying125 rfl (by rw [h20]; exact info_ln10) h
theorem min9 {y : Int} : (9 < y → min 9 y = 9) ∧ (¬ 9 < y → min 9 y = y) := by omega
set_option maxRecDepth 100000 in
set_option maxHeartbeats 16000000 in
theorem rline_any {w : World} {lo2 hi0 n n2 : Nat} {rl : List FlR} {q : Cel → Int} {A A2 : Option Addr} {m : List Row10} (hf : FA w hi0 A n rl) (hm : RA w lo2 A2 n2 m) (hq : RQ m q) (hqb : QB q)
    (hr : ∀ f ∈ rl.map (·.f), rightB f = true) (c c2 : Nat) (r : FlR) (d : Int) (lk : Bool) (lo' hi' : Nat) (hok : r.ok) (hcl : ClAt w lo' hi' r) (hhi : hi' ≤ w.heap.size) (hn : r.n ≤ 1000) :
    Calls Tryz.prog 66 #[.slice A n c, .slice A2 n2 c2, .agg #[.string r.f.car, .int .i64 r.f.num, .string r.f.frm, .string r.f.to_, .int .u8 r.f.days, .int .i64 r.f.dep, .int .i64 r.f.arr, .slice r.A r.n r.c, .int .i64 r.f.pln], .int .i64 d, .bool lk] w fun e w' => ∃ A' n' c', e = .returned (.agg #[.string r.f.car, .int .i64 r.f.num, .string r.f.frm, .string r.f.to_, .int .u8 r.f.days, .int .i64 r.f.dep, .int .i64 r.f.arr, .slice r.A r.n r.c, .int .i64 r.f.pln, .bool lk, .slice A' n' c']) ∧ Own w' w.heap.size 185 tSld (.slice A' n' c') (solF (rl.map (·.f)) q r.f d) ∧ Below w.heap.size w w' := by
  have HF := Lib.hid hf
  have HM := Lib.hid hm
  have HQ := Lib.hid hq
  have HQB := Lib.hid hqb
  have HR := Lib.hid hr
  have HOK := Lib.hid hok
  have HCL := Lib.hid hcl
  clear hf hm hq hqb hr hok hcl
  go_enter Tryz.func66, Tryz.ntmps66
  go_upto_region 2 with fail
  refine wp_world (fun V => (Bx V w.heap.size #[.string r.f.car, .int .i64 r.f.num, .string r.f.frm, .string r.f.to_, .int .u8 r.f.days, .int .i64 r.f.dep, .int .i64 r.f.arr, .slice r.A r.n r.c, .int .i64 r.f.pln] 96 ∧ Bx V (w.heap.size + 1) #[.string ⟨#[]⟩, .int .i64 0, .string ⟨#[]⟩, .string ⟨#[]⟩, .int .u8 0, .int .i64 0, .int .i64 0, .slice none 0 0, .int .i64 0, .bool false, .slice none 0 0] 125 ∧ Bx V (w.heap.size + 1 + 1) #[.string r.f.car, .int .i64 r.f.num, .string r.f.frm, .string r.f.to_, .int .u8 r.f.days, .int .i64 r.f.dep, .int .i64 r.f.arr, .slice r.A r.n r.c, .int .i64 r.f.pln, .bool lk, .slice none 0 0] 125) ∧ Below w.heap.size w V)
    ⟨⟨((Bx.new w #[.string r.f.car, .int .i64 r.f.num, .string r.f.frm, .string r.f.to_, .int .u8 r.f.days, .int .i64 r.f.dep, .int .i64 r.f.arr, .slice r.A r.n r.c, .int .i64 r.f.pln] 96).alloc _).alloc _, by have h := (Bx.new (w.alloc (.cells #[.string r.f.car, .int .i64 r.f.num, .string r.f.frm, .string r.f.to_, .int .u8 r.f.days, .int .i64 r.f.dep, .int .i64 r.f.arr, .slice r.A r.n r.c, .int .i64 r.f.pln] 96)) #[.string ⟨#[]⟩, .int .i64 0, .string ⟨#[]⟩, .string ⟨#[]⟩, .int .u8 0, .int .i64 0, .int .i64 0, .slice none 0 0, .int .i64 0, .bool false, .slice none 0 0] 125).alloc (.cells #[.string r.f.car, .int .i64 r.f.num, .string r.f.frm, .string r.f.to_, .int .u8 r.f.days, .int .i64 r.f.dep, .int .i64 r.f.arr, .slice r.A r.n r.c, .int .i64 r.f.pln, .bool lk, .slice none 0 0] 125); rw [World.size_alloc] at h; exact h,
      by have h := Bx.new ((w.alloc (.cells #[.string r.f.car, .int .i64 r.f.num, .string r.f.frm, .string r.f.to_, .int .u8 r.f.days, .int .i64 r.f.dep, .int .i64 r.f.arr, .slice r.A r.n r.c, .int .i64 r.f.pln] 96)).alloc (.cells #[.string ⟨#[]⟩, .int .i64 0, .string ⟨#[]⟩, .string ⟨#[]⟩, .int .u8 0, .int .i64 0, .int .i64 0, .slice none 0 0, .int .i64 0, .bool false, .slice none 0 0] 125)) #[.string r.f.car, .int .i64 r.f.num, .string r.f.frm, .string r.f.to_, .int .u8 r.f.days, .int .i64 r.f.dep, .int .i64 r.f.arr, .slice r.A r.n r.c, .int .i64 r.f.pln, .bool lk, .slice none 0 0] 125; rw [World.size_alloc, World.size_alloc] at h; exact h⟩, (((Below.refl _ _).alloc (Nat.le_refl _) _).alloc (by simp) _).alloc (by simp; omega) _⟩ ?_
  rintro V ⟨⟨bF, bZ, bL⟩, hb⟩
  go_wp2
  go_loopw [12, 13] (fun i _ wr => ∃ k : Nat, k ≤ r.n ∧ i = .int .i64 k ∧ (∃ Ax nx cx l, Bx wr (w.heap.size + 1 + 1) #[.string r.f.car, .int .i64 r.f.num, .string r.f.frm, .string r.f.to_, .int .u8 r.f.days, .int .i64 r.f.dep, .int .i64 r.f.arr, .slice r.A r.n r.c, .int .i64 r.f.pln, .bool lk, .slice Ax nx cx] 125 ∧ Own wr (w.heap.size + 1 + 1 + 1) 185 tSld (.slice Ax nx cx) l ∧ Hid (SoldTo (rl.map (·.f)) q r.f d k l)) ∧ Bx wr w.heap.size #[.string r.f.car, .int .i64 r.f.num, .string r.f.frm, .string r.f.to_, .int .u8 r.f.days, .int .i64 r.f.dep, .int .i64 r.f.arr, .slice r.A r.n r.c, .int .i64 r.f.pln] 96 ∧ Bx wr (w.heap.size + 1) #[.string ⟨#[]⟩, .int .i64 0, .string ⟨#[]⟩, .string ⟨#[]⟩, .int .u8 0, .int .i64 0, .int .i64 0, .slice none 0 0, .int .i64 0, .bool false, .slice none 0 0] 125 ∧ Below w.heap.size w wr) (fun i _ _ => r.n - (intOf i).toNat)
  case atStart => exact ⟨0, Nat.zero_le _, rfl, ⟨none, 0, 0, [], bL, Own.nil_ _ _ _ _, SoldTo.zero (rl.map (·.f)) q r.f d⟩, bF, bZ, hb⟩
  case round =>
    clear bF bZ bL hb
    obtain ⟨k, hk, rfl, ⟨Ax, nx, cx, l, bL, ho, HST⟩, bF, bZ, hb⟩ := hrel
    have hll := HST.out.len
    by_cases hlt : k < r.n
    · obtain ⟨b0, o0, x, hA, _, hb0, hx, hxok, d0, d1⟩ := Sl.cls_ (HCL.out.below hb hhi) hlt
      have i0 : (0 : Int) ≤ k := by omega
      have i1 : (k : Int) < r.n := by omega
      have hz := hb.size
      have zL := bL.lt
      have zF := bF.lt
      have zZ := bZ.lt
      have zb : b0 < wr.heap.size := by omega
      have hlev := level_le HR.out ⟨⟨r.f.car, r.f.num⟩, d⟩ x.let_
      have hqb := HQB.out ⟨⟨⟨r.f.car, r.f.num⟩, d⟩, x.let_⟩
      generalize hlv : levelF (rl.map (·.f)) ⟨⟨r.f.car, r.f.num⟩, d⟩ x.let_ = lv at hlev
      have HLV := Lib.hid hlv
      generalize hsv : q ⟨⟨⟨r.f.car, r.f.num⟩, d⟩, x.let_⟩ = sv at hqb
      have HSV := Lib.hid hsv
      obtain ⟨y, hy⟩ : ∃ y, lv.1 - sv = y := ⟨_, rfl⟩
      have HY := Lib.hid hy
      have HST9 : Hid (SoldTo (rl.map (·.f)) q r.f d (k + 1) (l ++ [(⟨x.let_, min 9 y⟩ : Cls)])) := HST.out.step hx.out (by unfold soldAt; rw [HLV.out, HSV.out, HY.out])
      obtain ⟨l0, l1⟩ := hlev
      obtain ⟨q0, q1⟩ := hqb
      have HBR := Lib.hid hb
      have HLf : Hid (∀ u : Blw wr, Calls Tryz.prog 58 #[.slice A n c, .slice A2 n2 c2, .agg #[.string r.f.car, .int .i64 r.f.num, .int .i64 d], .int .u8 x.let_] u.W fun e w' => e = .returned (.int .i64 y) ∧ Below u.W.heap.size u.W w') := fun u =>
        rleft_is (HF.out.keep (HBR.out.trans (u.b.mono HBR.out.size))) (HM.out.keep (HBR.out.trans (u.b.mono HBR.out.size))) HQ.out c c2 ⟨⟨r.f.car, r.f.num⟩, d⟩ x.let_ (l1 := lv.1) (l2 := lv.2) HLV.out HSV.out l0 l1 q0 q1 HY.out
      generalize hra : r.A = ra at hA bF bL
      have HRA := Lib.hid hra
      subst hA
      have c1 := bF.cells
      clear hlv hsv hy hx hxok hra
      go_upto_region 5 with fail
      refine wp_region_below (by kernel_rfl) (by kernel_rfl) ?_
      intro q9
      repeat
        (refine QH.step (fun K9 hK9 => ?_)
         go_simp
         first
         | (refine hK9 _ ?_; clear hK9 K9)
         | (apply Exists.intro
            refine ⟨fun _ => ?_, hK9 _ ?_⟩
            · first | (exact Calls.blw _ (HLf.out _))
            clear hK9 K9))
      refine QH.nil_ ?_
      clear q9
      rintro ⟨V9, hV9⟩
      dsimp only
      have bF9 := bF.below hV9 zF
      have bZ9 := bZ.below hV9 zZ
      have bL9 := bL.below hV9 zL
      have ho9 := ho.keep hV9
      have hb9 := hb.trans (hV9.mono hz)
      replace d0 := (hV9.cell (p := ⟨b0, o0 + k * 2, none⟩) zb).trans d0
      have zL9 := bL9.lt
      have zF9 := bF9.lt
      have zZ9 := bZ9.lt
      have zV9 := hb9.size
      have hgA : Hid (∀ p, (Value.slice Ax nx cx).ownBlock = some p → w.heap.size + 1 + 1 + 1 ≤ p ∧ p < V9.heap.size) := fun p hp => ho9.lt p hp
      have hlen : l.length ≤ 100000 := by omega
      clear c1 hV9 bF bZ bL ho hb d1 HLf HBR
      have c1 := bF9.cells
      have cL := bL9.cells
      by_cases h9 : 9 < y
      · rw [min9.1 h9] at HST9
        have t5 : decide (y > 9) = true := decide_eq_true h9
        go_upto_region 8 with fail
        replace bL9 : Bx V9.drew _ _ _ := bL9
        replace bF9 : Bx V9.drew _ _ _ := bF9
        replace bZ9 : Bx V9.drew _ _ _ := bZ9
        replace ho9 : Own V9.drew _ _ _ _ _ := ho9.drew
        replace hb9 : Below w.heap.size w V9.drew := hb9.drew
        go_region_law (refine step_push (T := tSld) rfl (.tmp 40) (.tmp 49) (by rfl) sl_sld (by rfl) (ho9.alloc _) (⟨x.let_, 9⟩ : Cls) trivial (by exact heap_alloc_new _ _) (by rfl) (by rfl) (by simp; omega) (by omega) ?_; intro v' w3 hown' hgr hb'; obtain ⟨A3, k3, rfl⟩ := hown'.form; have bL3 := (bL9.alloc _).grown hgr (fun e => by have q5 := hgA.out _ e; omega); have bF3 := (bF9.alloc _).grown hgr (fun e => by have q5 := hgA.out _ e; omega); have bZ3 := (bZ9.alloc _).grown hgr (fun e => by have q5 := hgA.out _ e; omega); have hb3 := (hb9.alloc (show w.heap.size ≤ V9.drew.heap.size from zV9) _).grown hgr (by simp; omega) (fun p hp => by have q5 := hgA.out _ hp; omega); have cL3 := bL3.cells; have fL3 := bL3.free)
        all_goals
          go_wp2
          have q5 := hown'.setCell (p := ⟨w.heap.size + 1 + 1, 10, none⟩) (by simp) (.slice A3 (l.length + 1) k3)
          exact ⟨⟨k + 1, by omega, by go_num, ⟨A3, l.length + 1, k3, _, bL3.put 10 _, by simpa using q5, HST9.out⟩, by first | exact bF3.other (by dsimp only; omega) _ | (rw [HRA.out]; exact bF3.other (by dsimp only; omega) _), bZ3.other (by dsimp only; omega) _, hb3.setCell (by simp; omega) _⟩, by simp [intOf]; omega⟩
      · rw [min9.2 h9] at HST9
        have t5 : decide (y > 9) = false := decide_eq_false h9
        go_upto_region 8 with fail
        replace bL9 : Bx V9.drew _ _ _ := bL9
        replace bF9 : Bx V9.drew _ _ _ := bF9
        replace bZ9 : Bx V9.drew _ _ _ := bZ9
        replace ho9 : Own V9.drew _ _ _ _ _ := ho9.drew
        replace hb9 : Below w.heap.size w V9.drew := hb9.drew
        go_region_law (refine step_push (T := tSld) rfl (.tmp 40) (.tmp 49) (by rfl) sl_sld (by rfl) (ho9.alloc _) (⟨x.let_, y⟩ : Cls) trivial (by exact heap_alloc_new _ _) (by rfl) (by rfl) (by simp; omega) (by omega) ?_; intro v' w3 hown' hgr hb'; obtain ⟨A3, k3, rfl⟩ := hown'.form; have bL3 := (bL9.alloc _).grown hgr (fun e => by have q5 := hgA.out _ e; omega); have bF3 := (bF9.alloc _).grown hgr (fun e => by have q5 := hgA.out _ e; omega); have bZ3 := (bZ9.alloc _).grown hgr (fun e => by have q5 := hgA.out _ e; omega); have hb3 := (hb9.alloc (show w.heap.size ≤ V9.drew.heap.size from zV9) _).grown hgr (by simp; omega) (fun p hp => by have q5 := hgA.out _ hp; omega); have cL3 := bL3.cells; have fL3 := bL3.free)
        all_goals
          go_wp2
          have q5 := hown'.setCell (p := ⟨w.heap.size + 1 + 1, 10, none⟩) (by simp) (.slice A3 (l.length + 1) k3)
          exact ⟨⟨k + 1, by omega, by go_num, ⟨A3, l.length + 1, k3, _, bL3.put 10 _, by simpa using q5, HST9.out⟩, by first | exact bF3.other (by dsimp only; omega) _ | (rw [HRA.out]; exact bF3.other (by dsimp only; omega) _), bZ3.other (by dsimp only; omega) _, hb3.setCell (by simp; omega) _⟩, by simp [intOf]; omega⟩
    · obtain rfl : r.n = k := by omega
      have c0 := bF.cells
      have c1 := bL.cells
      have c2' := bZ.cells
      have f2 := bZ.free
      have z2 := bZ.lt
      go_wp2_with (first
        | (refine load_ln10 rfl (.tmp 11) rfl rfl bL rfl ?_)
        | (refine store_ln10 rfl (.tmp 10) (.tmp 52) rfl #[.string r.f.car, .int .i64 r.f.num, .string r.f.frm, .string r.f.to_, .int .u8 r.f.days, .int .i64 r.f.dep, .int .i64 r.f.arr, .slice r.A r.n r.c, .int .i64 r.f.pln, .bool lk, .slice Ax nx cx] rfl rfl bZ rfl rfl (by simp [Value.oneCell']) ?_))
      refine ret_ln10 Tryz.results66 (bZ.row _) rfl rfl rfl ?_
      have hl : l = solF (rl.map (·.f)) q r.f d := HST.out.all (by have := HCL.out.len; omega)
      exact ⟨Ax, nx, cx, rfl, (hl ▸ ho.setRow (by omega) _ : Own _ (w.heap.size + 1 + 1 + 1) _ _ _ _).more (by omega), below_setRow hb (by omega) _⟩
/-- A list of the document's lines, each with a row of its own. -/
structure OwnR (w : World) (B : Nat) (v : Value) (l : List Ln10) : Prop where
  own : Own w B 125 tLn10 v l
  cl : ∀ x ∈ l, Own w B 185 tSld (.slice x.A x.n x.c) x.left
  off : ∀ x ∈ l, ∀ k, v.ownBlock = some k → (Value.slice x.A x.n x.c).ownBlock ≠ some k
section
variable {w W V V' : World} {B : Nat} {v v' : Value} {l : List Ln10}
theorem OwnR.nil_ (w : World) (B : Nat) : OwnR w B (.slice none 0 0) [] := ⟨Own.nil_ _ _ _ _, by simp, by simp⟩
theorem OwnR.keep (h : OwnR w B v l) (hb : Below w.heap.size w W) : OwnR W B v l := ⟨h.own.keep hb, fun r hr => Own.keep (h.cl r hr) hb, h.off⟩
theorem OwnR.more {B' : Nat} (h : OwnR w B v l) (hB : B' ≤ B) : OwnR w B' v l := ⟨h.own.more hB, fun r hr => Own.more (h.cl r hr) hB, h.off⟩
theorem OwnR.push {x : Ln10} (h : OwnR W B v l) (hk : Below W.heap.size W V) (h1 : Own V W.heap.size 185 tSld (.slice x.A x.n x.c) x.left) (hB : B ≤ W.heap.size)
    (ho : Own V' B 125 tLn10 v' (l ++ [x])) (hg : V.grownBy V' v.ownBlock) (hv : v'.ownBlock = v.ownBlock ∨ ∀ k, v'.ownBlock = some k → V.heap.size ≤ k) : OwnR V' B v' (l ++ [x]) := by
  have hV := h.keep hk
  refine ⟨ho, fun y hy => ?_, fun y hy k hk' => ?_⟩
  · rcases List.mem_append.1 hy with h3 | h3
    · exact Own.kept (hV.cl y h3) hg fun k hk2 hv2 => h.off y h3 k hv2 hk2
    · rw [List.mem_singleton.1 h3]
      refine Own.kept (Own.more h1 hB) hg fun k hk2 hv2 => ?_
      have := (h.own.lt k hv2).2
      have := (h1.lt k hk2).1
      omega
  · rcases List.mem_append.1 hy with h3 | h3
    · rcases hv with h4 | h4
      · exact h.off y h3 k (h4 ▸ hk')
      · intro e
        have h5 := ((h.cl y h3).lt k e).2
        have h6 := h4 k hk'
        have h7 := hk.size
        omega
    · rw [List.mem_singleton.1 h3]
      intro e
      have h5 := h1.lt k e
      rcases hv with h4 | h4
      · have h6 := (h.own.lt k (h4 ▸ hk')).2
        omega
      · have h6 := h4 k hk'
        omega
end
def lnR (x : Ln10) : LnF := ⟨x.r.f, x.lk, x.left⟩
def RetAr (w : World) (L : List LnF) (e : Ending) (w' : World) : Prop := ∃ A n c out, e = .returned (.slice A n c) ∧ OwnR w' w.heap.size (.slice A n c) out ∧ out.map lnR = L ∧ Below w.heap.size w w'
/-- The document's lines that are collected. -/
structure ColR (w : World) (L : List LnF) (v : Value) (W : World) : Prop where
  out : ∃ out, OwnR W w.heap.size v out ∧ out.map lnR = L
  B : Below w.heap.size w W
theorem ColR.step {w W V : World} {L : List LnF} {v : Value} (h : ColR w L v W) (hb : Below W.heap.size W V) : ColR w L v V := by
  obtain ⟨out, ho, hm⟩ := h.out
  exact ⟨⟨out, ho.keep hb, hm⟩, h.B.trans (hb.mono h.B.size)⟩
theorem ColR.push {w W V V' : World} {L L2 : List LnF} {v v' : Value} {x : Ln10} {out : List Ln10} (h : OwnR W w.heap.size v out) (hm : out.map lnR = L) (hB : Below w.heap.size w W) (hk : Below W.heap.size W V) (h1 : Own V W.heap.size 185 tSld (.slice x.A x.n x.c) x.left)
    (ho : Own V' w.heap.size 125 tLn10 v' (out ++ [x])) (hg : V.grownBy V' v.ownBlock) (hv : v'.ownBlock = v.ownBlock ∨ ∀ k, v'.ownBlock = some k → V.heap.size ≤ k) (hL : [lnR x] = L2) : ColR w (L ++ L2) v' V' :=
  ⟨⟨_, h.push hk h1 hB.size ho hg hv, by rw [List.map_append, hm, ← hL]; rfl⟩, (hB.trans (hk.mono hB.size)).grown hg (Nat.le_trans hB.size hk.size) (fun k hk' => (h.own.lt k hk').1)⟩
theorem ColR.len {w W : World} {L : List LnF} {v : Value} (h : ColR w L v W) : ∃ out, OwnR W w.heap.size v out ∧ out.map lnR = L ∧ out.length = L.length := by
  obtain ⟨out, ho, hm⟩ := h.out
  exact ⟨out, ho, hm, by rw [← hm, List.length_map]⟩
/-- How K2 goes on, where the row's block is told loosely. -/
theorem K2.grown' {z : Nat} {w2 wr V V' : World} {v v' : Value} (h : K2 z w2 v wr) (hb : Below wr.heap.size wr V) (hg : V.grownBy V' v.ownBlock) (hv : v'.ownBlock = v.ownBlock ∨ ∀ k, v'.ownBlock = some k → V.heap.size ≤ k) : K2 z w2 v' V' := by
  have h1 := h.size
  have h2 := hb.size
  have h3 := hg.size
  refine ⟨by omega, fun k hk1 hk2 => ?_, fun k hk => ?_⟩
  · exact ((hg.block k (by omega) (fun e => h.off k e.symm ⟨hk1, hk2⟩)).trans (hb.block k (by omega))).trans (h.same k hk1 hk2)
  · rcases hv with h5 | h5
    · exact h.off k (h5 ▸ hk)
    · have := h5 k hk
      omega
theorem Sl.parc {w : World} {lo hi n k : Nat} {A : Option Addr} {l : List Par} (h : Sl w lo hi tPar A n l) (hk : k < n) :
    ∃ b o x y, A = some ⟨b, o, none⟩ ∧ lo ≤ b ∧ b < hi ∧ Hid (l[k]? = some (x, y)) ∧ x.ok ∧ y.ok ∧
      w.cell? ⟨b, o + k * 18, none⟩ = some (.string x.f.car) ∧ w.cell? ⟨b, o + k * 18 + 1, none⟩ = some (.int .i64 x.f.num) ∧ w.cell? ⟨b, o + k * 18 + 2, none⟩ = some (.string x.f.frm) ∧ w.cell? ⟨b, o + k * 18 + 3, none⟩ = some (.string x.f.to_) ∧ w.cell? ⟨b, o + k * 18 + 4, none⟩ = some (.int .u8 x.f.days) ∧ w.cell? ⟨b, o + k * 18 + 5, none⟩ = some (.int .i64 x.f.dep) ∧ w.cell? ⟨b, o + k * 18 + 6, none⟩ = some (.int .i64 x.f.arr) ∧ w.cell? ⟨b, o + k * 18 + 7, none⟩ = some (.slice x.A x.n x.c) ∧ w.cell? ⟨b, o + k * 18 + 8, none⟩ = some (.int .i64 x.f.pln) ∧
      w.cell? ⟨b, o + k * 18 + 9, none⟩ = some (.string y.f.car) ∧ w.cell? ⟨b, o + k * 18 + 9 + 1, none⟩ = some (.int .i64 y.f.num) ∧ w.cell? ⟨b, o + k * 18 + 9 + 2, none⟩ = some (.string y.f.frm) ∧ w.cell? ⟨b, o + k * 18 + 9 + 3, none⟩ = some (.string y.f.to_) ∧ w.cell? ⟨b, o + k * 18 + 9 + 4, none⟩ = some (.int .u8 y.f.days) ∧ w.cell? ⟨b, o + k * 18 + 9 + 5, none⟩ = some (.int .i64 y.f.dep) ∧ w.cell? ⟨b, o + k * 18 + 9 + 6, none⟩ = some (.int .i64 y.f.arr) ∧ w.cell? ⟨b, o + k * 18 + 9 + 7, none⟩ = some (.slice y.A y.n y.c) ∧ w.cell? ⟨b, o + k * 18 + 9 + 8, none⟩ = some (.int .i64 y.f.pln) := by
  obtain ⟨b, o, ⟨x, y⟩, h1, h2, h3, h4, h5, hc⟩ := h.at_ hk
  exact ⟨b, o, x, y, h1, h2, h3, h4, h5.1, h5.2, by simpa [tPar] using hc 0 _ rfl, hc 1 _ rfl, hc 2 _ rfl, hc 3 _ rfl, hc 4 _ rfl, hc 5 _ rfl, hc 6 _ rfl, hc 7 _ rfl, hc 8 _ rfl,
    hc 9 _ rfl, hc 10 _ rfl, hc 11 _ rfl, hc 12 _ rfl, hc 13 _ rfl, hc 14 _ rfl, hc 15 _ rfl, hc 16 _ rfl, hc 17 _ rfl⟩
theorem Sl.parAt {w : World} {lo hi n k : Nat} {b o : Nat} {x y : FlR} {l : List Par} (h : Sl w lo hi tPar (some ⟨b, o, none⟩) n l) (hk : k < n) (hx : l[k]? = some (x, y)) :
      w.cell? ⟨b, o + k * 18, none⟩ = some (.string x.f.car) ∧ w.cell? ⟨b, o + k * 18 + 1, none⟩ = some (.int .i64 x.f.num) ∧ w.cell? ⟨b, o + k * 18 + 2, none⟩ = some (.string x.f.frm) ∧ w.cell? ⟨b, o + k * 18 + 3, none⟩ = some (.string x.f.to_) ∧ w.cell? ⟨b, o + k * 18 + 4, none⟩ = some (.int .u8 x.f.days) ∧ w.cell? ⟨b, o + k * 18 + 5, none⟩ = some (.int .i64 x.f.dep) ∧ w.cell? ⟨b, o + k * 18 + 6, none⟩ = some (.int .i64 x.f.arr) ∧ w.cell? ⟨b, o + k * 18 + 7, none⟩ = some (.slice x.A x.n x.c) ∧ w.cell? ⟨b, o + k * 18 + 8, none⟩ = some (.int .i64 x.f.pln) ∧
      w.cell? ⟨b, o + k * 18 + 9, none⟩ = some (.string y.f.car) ∧ w.cell? ⟨b, o + k * 18 + 9 + 1, none⟩ = some (.int .i64 y.f.num) ∧ w.cell? ⟨b, o + k * 18 + 9 + 2, none⟩ = some (.string y.f.frm) ∧ w.cell? ⟨b, o + k * 18 + 9 + 3, none⟩ = some (.string y.f.to_) ∧ w.cell? ⟨b, o + k * 18 + 9 + 4, none⟩ = some (.int .u8 y.f.days) ∧ w.cell? ⟨b, o + k * 18 + 9 + 5, none⟩ = some (.int .i64 y.f.dep) ∧ w.cell? ⟨b, o + k * 18 + 9 + 6, none⟩ = some (.int .i64 y.f.arr) ∧ w.cell? ⟨b, o + k * 18 + 9 + 7, none⟩ = some (.slice y.A y.n y.c) ∧ w.cell? ⟨b, o + k * 18 + 9 + 8, none⟩ = some (.int .i64 y.f.pln) := by
  obtain ⟨b', o', x', y', hA, _, _, hx', _, _, h1⟩ := Sl.parc h hk
  injection hA with hA
  injection hA with g1 g2
  subst g1 g2
  have h2 := hx'.out.symm.trans hx
  injection h2 with h2
  injection h2 with h3 h4
  subst h3 h4
  exact h1
set_option maxRecDepth 100000 in
set_option maxHeartbeats 16000000 in
theorem rAvail_any {w : World} {lo2 hi0 n n2 : Nat} {rl : List FlR} {q : Cel → Int} {A A2 : Option Addr} {m : List Row10} (hf : FA w hi0 A n rl) (hm : RA w lo2 A2 n2 m) (hq : RQ m q) (hqb : QB q)
    (hr : ∀ f ∈ rl.map (·.f), rightB f = true) (h64 : n ≤ 64) (c c2 : Nat) (d : Int) (fr to_ : ByteArray) :
    Calls Tryz.prog 27 #[.slice A n c, .slice A2 n2 c2, .int .i64 d, .string fr, .string to_] w (RetAr w (availF (rl.map (·.f)) q d fr to_)) := by
  have HF := Lib.hid hf
  have HM := Lib.hid hm
  have HQ := Lib.hid hq
  have HQB := Lib.hid hqb
  have HR := Lib.hid hr
  have zh := hf.le
  have hrl := hf.fl.sl.len
  clear hf hm hq hqb hr
  go_enter Tryz.func27, Tryz.ntmps27
  go_wp2_with fail
  refine (rbetween_any rl A n c d fr to_ w 0 hi0 HF.out.fl (by omega) zh).mono ?_
  rintro e w1 ⟨A1, c1, rfl, ho1, h1⟩
  have HMB : Hid (∀ x, x ∈ allL (byF ltT) (rl.filter fun r => wayB d fr to_ r.f) → x ∈ rl) := fun x hx => (List.mem_filter.1 ((mem_allL _ _ _).1 hx)).1
  have HS1 := Lib.hid (fls_own HF.out.fl h1 zh ho1 (fun x hx => HMB.out x hx))
  have HB1 : Hid ((allL (byF ltT) (rl.filter fun r => wayB d fr to_ r.f)).map (·.f) = betwF (rl.map (·.f)) d fr to_) := by
    show _ = _
    rw [allL_f, filter_f (wayB d fr to_)]
    rfl
  have HLN : (allL (byF ltT) (rl.filter fun r => wayB d fr to_ r.f)).length ≤ 64 := by
    rw [len_allL]
    have := List.length_filter_le (fun r : FlR => wayB d fr to_ r.f) rl
    omega
  generalize allL (byF ltT) (rl.filter fun r => wayB d fr to_ r.f) = LB at HMB HS1 HB1 HLN
  generalize hn1 : LB.length = n1 at HS1 HLN
  have HLL := Lib.hid hn1
  have H1 := Lib.hid h1
  have z1 := h1.size
  clear ho1 h1 hn1
  go_wp2
  go_loopw [11, 13] (fun v i wr => ∃ k : Nat, k ≤ n1 ∧ i = .int .i64 k ∧ ColR w1 (((LB.take k).map (·.f)).map (lineF (rl.map (·.f)) q d false)) v wr) (fun _ i _ => n1 - (intOf i).toNat)
  case atStart => exact ⟨0, Nat.zero_le _, rfl, ⟨⟨[], OwnR.nil_ _ _, rfl⟩, Below.refl _ _⟩⟩
  case round =>
    obtain ⟨k, hk, rfl, hC⟩ := hrel
    have hb1 := hC.B
    have HB := Lib.hid hb1
    obtain ⟨out, ho, hmo, hlo⟩ := hC.len
    have HO := Lib.hid ho
    have HMO := Lib.hid hmo
    have HC := Lib.hid hC
    have zr := hb1.size
    have hlo2 : out.length ≤ 64 := by
      rw [List.length_map, List.length_map] at hlo
      have := List.length_take_le k LB
      omega
    clear hC ho hmo hlo hb1
    by_cases hlt : k < n1
    · obtain ⟨b0, o0, s, hA, _, _, hx', hok, hcl, d0, d1, d2, d3, d4, d5, d6, d7, d8⟩ := (HS1.out.below HB.out (Nat.le_refl _)).at_ hlt
      subst hA
      have i0 : (0 : Int) ≤ k := by omega
      have i1 : (k : Int) < n1 := by omega
      have HX := Lib.hid (show ((LB.take (k + 1)).map (·.f)).map (lineF (rl.map (·.f)) q d false) = ((LB.take k).map (·.f)).map (lineF (rl.map (·.f)) q d false) ++ [lineF (rl.map (·.f)) q d false s.f] by rw [List.take_add_one, hx'.out]; simp)
      have hmem : s.f ∈ rl.map (·.f) := List.mem_map_of_mem (HMB.out _ (List.mem_of_getElem? hx'.out))
      have hsn : s.n ≤ 1000 := by have h5 := right_few (HR.out _ hmem); have h6 := hok.len; omega
      have HBW := Lib.hid (H1.out.trans (HB.out.mono z1))
      have HLI := Lib.hid (rline_any (HF.out.keep HBW.out) (HM.out.keep HBW.out) HQ.out HQB.out HR.out c c2 s d false _ _ hok hcl zr hsn)
      clear hcl hok hmem
      go_wp2_with fail
      refine HLI.out.mono ?_
      rintro e w2 ⟨A3, n3, c3, rfl, ho3, h3⟩
      have HO3 := Lib.hid ho3
      have H3 := Lib.hid h3
      have z3 := h3.size
      clear ho3 h3 d0 d1 d2 d3 d4 d5 d6 d7 d8 HLI
      go_wp2_with (at_builtin; refine push_told rfl (.tmp 27) (.tmp 36) rfl sl_ln10 rfl (HO.out.keep H3.out).own (⟨s, false, A3, n3, c3, solF (rl.map (·.f)) q s.f d⟩ : Ln10) trivial _ rfl rfl (by omega) (by omega) ?_; intro v' w3 hown' hgr hb')
      go_roundw
      case rel => exact ⟨k + 1, by omega, by go_num, by rw [HX.out]; exact ColR.push HO.out HMO.out HB.out H3.out HO3.out hown' hgr hb' rfl⟩
      case measure => simp [intOf]; omega
    · obtain rfl : n1 = k := by omega
      have HFF : Hid (LB.take n1 = LB) := List.take_of_length_le (Nat.le_of_eq HLL.out)
      have hCC := HC.out
      rw [HFF.out, HB1.out] at hCC
      have HCC := Lib.hid hCC
      clear hCC
      have HBW := Lib.hid (H1.out.trans (HB.out.mono z1))
      have zw := HBW.out.size
      clear HC HO HMO hlo2
      go_wp2_with fail
      refine (rlinks_any rl A n c d fr to_ wr 0 hi0 (HF.out.keep HBW.out).fl (by omega) (HF.out.keep HBW.out).le (fun r hr => HR.out _ (List.mem_map_of_mem hr))).mono ?_
      rintro e w2 ⟨A4, c4, rfl, ho4, h4⟩
      have HMG : Hid (∀ x ∈ rlG (dayR rl d) (dayR rl d) fr to_, x.1 ∈ rl ∧ x.2 ∈ rl) := fun x hx => ⟨mem_rlG (mem_flatP.2 ⟨x, hx, .inl rfl⟩), mem_rlG (mem_flatP.2 ⟨x, hx, .inr rfl⟩)⟩
      have HEQ := Lib.hid (rlinks_f rl d fr to_)
      have hnl : (rlG (dayR rl d) (dayR rl d) fr to_).length ≤ 4096 := by
        have h5 := congrArg List.length HEQ.out
        rw [List.length_map] at h5
        have h6 := links_len (rl.map (·.f)) d fr to_
        rw [List.length_map] at h6
        have h7 : rl.length * rl.length ≤ 64 * 64 := Nat.mul_le_mul (by omega) (by omega)
        omega
      have HP := Lib.hid ho4.sl
      generalize rlG (dayR rl d) (dayR rl d) fr to_ = LP at HMG HEQ hnl HP
      generalize hn4 : LP.length = n4 at hnl HP
      have HLP := Lib.hid hn4
      obtain ⟨z0, hz0⟩ : ∃ z0, z0 = wr.heap.size := ⟨_, rfl⟩
      rw [← hz0] at HP
      have HK0 : Hid (∀ v, ColR w1 ((betwF (rl.map (·.f)) d fr to_).map (lineF (rl.map (·.f)) q d false)) v wr → ∀ k, v.ownBlock = some k → k < z0) := fun v hv k hk => by
        obtain ⟨out, ho, _⟩ := hv.out
        rw [hz0]
        exact (ho.own.lt k hk).2
      have HC2 := Lib.hid (HCC.out.step h4)
      clear ho4 h4 hn4
      go_wp2
      go_loopw [11, 15] (fun v i wr => ∃ k : Nat, k ≤ n4 ∧ i = .int .i64 k ∧ ColR w1 ((betwF (rl.map (·.f)) d fr to_).map (lineF (rl.map (·.f)) q d false) ++ ((LP.take k).map parF).flatMap (ln2F (rl.map (·.f)) q d)) v wr ∧ K2 z0 w2 v wr) (fun _ i _ => n4 - (intOf i).toNat)
      case atStart => exact ⟨0, Nat.zero_le _, rfl, by simpa using HC2.out, ⟨Nat.le_refl _, fun _ _ _ => rfl, fun k hk h => by have := HK0.out _ HCC.out k hk; omega⟩⟩
      case round =>
        obtain ⟨k, hk, rfl, hC, hK⟩ := hrel
        have HK := Lib.hid hK
        have zr2 := hK.size
        obtain ⟨out, ho, hmo, hlo⟩ := hC.len
        have HO := Lib.hid ho
        have HMO := Lib.hid hmo
        have HCB := Lib.hid hC.B
        have hlo2 : out.length ≤ 10000 := by
          have h7 : (((LP.take k).map parF).flatMap (ln2F (rl.map (·.f)) q d)).length ≤ 2 * ((LP.take k).map parF).length := by
            rw [List.length_flatMap]
            generalize (LP.take k).map parF = l0
            induction l0 with
            | nil => simp
            | cons a l0 ih => simp only [List.map_cons, List.sum_cons, List.length_cons]; have : (ln2F (rl.map (·.f)) q d a).length = 2 := rfl; omega
          have h8 := betw_len (rl.map (·.f)) d fr to_
          have h9 := List.length_take_le k LP
          simp only [List.length_map, List.length_append] at hlo h7 h8
          omega
        clear hC hK ho hmo hlo
        by_cases hlt : k < n4
        · obtain ⟨b0, o0, x, y, hA, _, hb0, hx', okx, oky, d0, d1, d2, d3, d4, d5, d6, d7, d8, _, _, _, _, _, _, _, _, _⟩ := Sl.parc (HK.out.sl HP.out) hlt
          subst hA
          have i0 : (0 : Int) ≤ k := by omega
          have i1 : (k : Int) < n4 := by omega
          have hmx : x ∈ rl := (HMG.out (x, y) (List.mem_of_getElem? hx'.out)).1
          have hmy : y ∈ rl := (HMG.out (x, y) (List.mem_of_getElem? hx'.out)).2
          have hnx : x.n ≤ 1000 := by have h5 := right_few (HR.out _ (List.mem_map_of_mem hmx)); have h6 := okx.len; omega
          have hny : y.n ≤ 1000 := by have h5 := right_few (HR.out _ (List.mem_map_of_mem hmy)); have h6 := oky.len; omega
          have HX := Lib.hid (show ((LP.take (k + 1)).map parF).flatMap (ln2F (rl.map (·.f)) q d) = ((LP.take k).map parF).flatMap (ln2F (rl.map (·.f)) q d) ++ ([lineF (rl.map (·.f)) q d false x.f] ++ [lineF (rl.map (·.f)) q d true y.f]) by rw [List.take_add_one, hx'.out]; simp [parF, ln2F])
          have HBX := Lib.hid (H1.out.trans (HCB.out.mono z1))
          have HFX := Lib.hid (HF.out.keep HBX.out)
          have HLI := Lib.hid (rline_any HFX.out (HM.out.keep HBX.out) HQ.out HQB.out HR.out c c2 x d false _ _ okx (HFX.out.fl.cl x hmx) HFX.out.le hnx)
          have HMY := Lib.hid hmy
          have HOY := Lib.hid oky
          have zc := HCB.out.size
          clear okx oky hmx hmy
          go_wp2_with fail
          refine HLI.out.mono ?_
          rintro e w3 ⟨A3, n3, c3, rfl, ho3, h3⟩
          have HO3 := Lib.hid ho3
          have H3 := Lib.hid h3
          have z3 := h3.size
          clear ho3 h3 d0 d1 d2 d3 d4 d5 d6 d7 d8 HLI HFX
          go_wp2_with (at_builtin; refine push_told rfl (.tmp 49) (.tmp 59) rfl sl_ln10 rfl (HO.out.keep H3.out).own (⟨x, false, A3, n3, c3, solF (rl.map (·.f)) q x.f d⟩ : Ln10) trivial _ rfl rfl (by omega) (by omega) ?_; intro v' w4 hown' hgr hb'; have HC4 := Lib.hid (ColR.push HO.out HMO.out HCB.out H3.out HO3.out hown' hgr hb' rfl); have HK4 := Lib.hid (HK.out.grown' H3.out hgr hb'); obtain ⟨_, _, _, _, _, _, _, _, _, e0, e1, e2, e3, e4, e5, e6, e7, e8⟩ := Sl.parAt (HK4.out.sl HP.out) hlt hx'.out; clear hown' hgr hb')
          obtain ⟨out4, ho4, hmo4, hlo4⟩ := HC4.out.len
          have HO4 := Lib.hid ho4
          have HMO4 := Lib.hid hmo4
          have HCB4 := Lib.hid HC4.out.B
          have zc4 := HC4.out.B.size
          have hlo5 : out4.length ≤ 20000 := by
            have h7 : (((LP.take k).map parF).flatMap (ln2F (rl.map (·.f)) q d)).length ≤ 2 * ((LP.take k).map parF).length := by
              rw [List.length_flatMap]
              generalize (LP.take k).map parF = l0
              induction l0 with
              | nil => simp
              | cons a l0 ih => simp only [List.map_cons, List.sum_cons, List.length_cons]; have : (ln2F (rl.map (·.f)) q d a).length = 2 := rfl; omega
            have h8 := betw_len (rl.map (·.f)) d fr to_
            have h9 := List.length_take_le k LP
            simp only [List.length_map, List.length_append, List.length_singleton] at hlo4 h7 h8
            omega
          have HBX4 := Lib.hid (H1.out.trans (HCB4.out.mono z1))
          have HFX4 := Lib.hid (HF.out.keep HBX4.out)
          have HLI4 := Lib.hid (rline_any HFX4.out (HM.out.keep HBX4.out) HQ.out HQB.out HR.out c c2 y d true _ _ HOY.out (HFX4.out.fl.cl y HMY.out) HFX4.out.le hny)
          clear ho4 hmo4 hlo4
          go_wp2_with fail
          refine HLI4.out.mono ?_
          rintro e w5 ⟨A5, n5, c5, rfl, ho5, h5⟩
          have HO5 := Lib.hid ho5
          have H5 := Lib.hid h5
          have z5 := h5.size
          clear ho5 h5 e0 e1 e2 e3 e4 e5 e6 e7 e8 HLI4 HFX4
          go_wp2_with (at_builtin; refine push_told rfl (.tmp 61) (.tmp 71) rfl sl_ln10 rfl (HO4.out.keep H5.out).own (⟨y, true, A5, n5, c5, solF (rl.map (·.f)) q y.f d⟩ : Ln10) trivial _ rfl rfl (by omega) (by omega) ?_; intro v'' w6 hown' hgr hb')
          go_roundw
          case rel => exact ⟨k + 1, by omega, by go_num, by rw [HX.out, ← List.append_assoc, ← List.append_assoc]; exact ColR.push HO4.out HMO4.out HCB4.out H5.out HO5.out hown' hgr hb' rfl, HK4.out.grown' H5.out hgr hb'⟩
          case measure => simp [intOf]; omega
        · obtain rfl : n4 = k := by omega
          have HFF2 : Hid (LP.take n4 = LP) := List.take_of_length_le (Nat.le_of_eq HLP.out)
          have hm := HMO.out
          rw [HFF2.out, HEQ.out] at hm
          have HMM := Lib.hid hm
          obtain ⟨A9, c9, rfl⟩ := HO.out.own.form
          have HBE := Lib.hid (H1.out.trans (HCB.out.mono z1))
          clear hm
          go_wp2
          go_ret
          exact ⟨_, _, _, out, rfl, HO.out.more z1, HMM.out, HBE.out⟩
set_option maxHeartbeats 1000000 in
theorem eqi_sold (d : Nat) (a0 b0 : Int) (a1 b1 : Int) (u : World) : (Op.equalIn (d + 2) 185 (.agg #[.int .u8 a0, .int .i64 a1]) (.agg #[.int .u8 b0, .int .i64 b1])).run Tryz.prog u = .ok (decide (a0 = b0) && (decide (a1 = b1))) u := by
  have ubyte := Tryz.underlying5
  have uint := Tryz.underlying3
  have hS : Tryz.prog.underlying 185 = some (.struct (Tryz.prog.fieldsOf 185)) := by kernel_rfl
  have hp : Tryz.prog.stoodInHeld 185 = false := by kernel_rfl
  rw [run_equalIn_agg u (d + 1) _ _ _ hS hp]
  simp only [Program.fieldsOf, Tryz.underlying185]
  go_simp
  try simp only [toL]
  by_cases h0 : a0 = b0 <;> by_cases h1 : a1 = b1 <;> simp [h0, h1]
theorem eql_sold (a0 b0 : Int) (a1 b1 : Int) (u : World) : (binOp .eql 185 (.agg #[.int .u8 a0, .int .i64 a1]) (.agg #[.int .u8 b0, .int .i64 b1])).run Tryz.prog u = .ok (.bool ((decide (a0 = b0) && (decide (a1 = b1))))) u := by
  rw [run_eql_struct, show (10000 : Nat) = 9998 + 2 from rfl, eqi_sold]
  rfl
theorem neq_sold (a0 b0 : Int) (a1 b1 : Int) (u : World) : (binOp .neq 185 (.agg #[.int .u8 a0, .int .i64 a1]) (.agg #[.int .u8 b0, .int .i64 b1])).run Tryz.prog u = .ok (.bool (!(decide (a0 = b0) && (decide (a1 = b1))))) u := by
  rw [run_neq_struct, show (10000 : Nat) = 9998 + 2 from rfl, eqi_sold]
  rfl
theorem solF_same {l L : List Flt} (T : Tab l L) (q : Cel → Int) (f : Flt) (d : Int) : solF L q f d = solF l q f d := by
  unfold solF
  refine List.map_congr_left fun x _ => ?_
  unfold soldAt
  rw [T.level]
theorem lineF_same {l L : List Flt} (T : Tab l L) (q : Cel → Int) (d : Int) (lk : Bool) : lineF L q d lk = lineF l q d lk := by
  funext f
  unfold lineF
  rw [solF_same T]
theorem availF_same {l L : List Flt} (T : Tab l L) (q : Cel → Int) (d : Int) (a b : ByteArray) : availF L q d a b = availF l q d a b := by
  unfold availF
  rw [lineF_same T, betw_same T.nok T.nokL (fun x => T.mem x), links_same T.nok T.nokL (fun x => T.mem x)]
  congr 1
  refine congrArg (fun f => List.flatMap f _) ?_
  funext p
  unfold ln2F
  rw [lineF_same T, lineF_same T]
theorem Sl.sld_ {w : World} {lo hi n k : Nat} {A : Option Addr} {l : List Cls} (h : Sl w lo hi tSld A n l) (hk : k < n) :
    ∃ b o x, A = some ⟨b, o, none⟩ ∧ lo ≤ b ∧ b < hi ∧ Hid (l[k]? = some x) ∧ w.cell? ⟨b, o + k * 2, none⟩ = some (.int .u8 x.let_) ∧ w.cell? ⟨b, o + k * 2 + 1, none⟩ = some (.int .i64 x.lev) := by
  obtain ⟨b, o, x, h1, h2, h3, h4, h5, hc⟩ := h.at_ hk
  exact ⟨b, o, x, h1, h2, h3, h4, by simpa [tSld, tCls] using hc 0 _ rfl, hc 1 _ rfl⟩
theorem Sl.ln_ {w : World} {lo hi n k : Nat} {A : Option Addr} {l : List Ln} (h : Sl w lo hi tLn A n l) (hk : k < n) :
    ∃ b o x, A = some ⟨b, o, none⟩ ∧ lo ≤ b ∧ b < hi ∧ Hid (l[k]? = some x) ∧ w.cell? ⟨b, o + k * 8, none⟩ = some (.string x.f.car) ∧ w.cell? ⟨b, o + k * 8 + 1, none⟩ = some (.int .i64 x.f.num) ∧ w.cell? ⟨b, o + k * 8 + 2, none⟩ = some (.string x.f.frm) ∧ w.cell? ⟨b, o + k * 8 + 3, none⟩ = some (.string x.f.to_) ∧ w.cell? ⟨b, o + k * 8 + 4, none⟩ = some (.int .i64 x.f.dep) ∧ w.cell? ⟨b, o + k * 8 + 5, none⟩ = some (.int .i64 x.f.arr) ∧ w.cell? ⟨b, o + k * 8 + 6, none⟩ = some (.bool x.lk) ∧ w.cell? ⟨b, o + k * 8 + 7, none⟩ = some (.slice x.A x.n x.c) := by
  obtain ⟨b, o, x, h1, h2, h3, h4, h5, hc⟩ := h.at_ hk
  exact ⟨b, o, x, h1, h2, h3, h4, by simpa [tLn] using hc 0 _ rfl, hc 1 _ rfl, hc 2 _ rfl, hc 3 _ rfl, hc 4 _ rfl, hc 5 _ rfl, hc 6 _ rfl, hc 7 _ rfl⟩
theorem Sl.lr_ {w : World} {lo hi n k : Nat} {A : Option Addr} {l : List Ln10} (h : Sl w lo hi tLn10 A n l) (hk : k < n) :
    ∃ b o x, A = some ⟨b, o, none⟩ ∧ lo ≤ b ∧ b < hi ∧ Hid (l[k]? = some x) ∧ w.cell? ⟨b, o + k * 11, none⟩ = some (.string x.r.f.car) ∧ w.cell? ⟨b, o + k * 11 + 1, none⟩ = some (.int .i64 x.r.f.num) ∧ w.cell? ⟨b, o + k * 11 + 2, none⟩ = some (.string x.r.f.frm) ∧ w.cell? ⟨b, o + k * 11 + 3, none⟩ = some (.string x.r.f.to_) ∧ w.cell? ⟨b, o + k * 11 + 4, none⟩ = some (.int .u8 x.r.f.days) ∧ w.cell? ⟨b, o + k * 11 + 5, none⟩ = some (.int .i64 x.r.f.dep) ∧ w.cell? ⟨b, o + k * 11 + 6, none⟩ = some (.int .i64 x.r.f.arr) ∧ w.cell? ⟨b, o + k * 11 + 7, none⟩ = some (.slice x.r.A x.r.n x.r.c) ∧ w.cell? ⟨b, o + k * 11 + 8, none⟩ = some (.int .i64 x.r.f.pln) ∧ w.cell? ⟨b, o + k * 11 + 9, none⟩ = some (.bool x.lk) ∧ w.cell? ⟨b, o + k * 11 + 10, none⟩ = some (.slice x.A x.n x.c) := by
  obtain ⟨b, o, x, h1, h2, h3, h4, h5, hc⟩ := h.at_ hk
  exact ⟨b, o, x, h1, h2, h3, h4, by simpa [tLn10] using hc 0 _ rfl, hc 1 _ rfl, hc 2 _ rfl, hc 3 _ rfl, hc 4 _ rfl, hc 5 _ rfl, hc 6 _ rfl, hc 7 _ rfl, hc 8 _ rfl, hc 9 _ rfl, hc 10 _ rfl⟩
set_option maxRecDepth 100000 in
set_option maxHeartbeats 4000000 in
/-- The law's Solds, of one list twice. -/
theorem solds_any (l : List Cls) (A A2 : Option Addr) (n c n2 c2 : Nat) (w : World) (lo hi lo2 hi2 : Nat) (hs : Sl w lo hi tSld A n l) (hs2 : Sl w lo2 hi2 tSld A2 n2 l) (hn : n ≤ 100000) :
    Calls Tryz.prog 61 #[.slice A n c, .slice A2 n2 c2] w fun e w' => e = .returned (.bool true) ∧ Below w.heap.size w w' := by
  have HS := Lib.hid hs
  have HS2 := Lib.hid hs2
  obtain rfl : n = n2 := hs.len.symm.trans hs2.len
  have t0 : ((n : Int) != n) = false := by simp
  clear hs hs2
  go_enter Tryz.func61, Tryz.ntmps61
  go_wp2
  go_loopw [5] (fun i wr => ∃ k : Nat, k ≤ n ∧ i = .int .i64 k ∧ Below w.heap.size w wr ∧ Hid (Sl wr lo hi tSld A n l ∧ Sl wr lo2 hi2 tSld A2 n l)) (fun i _ => n - (intOf i).toNat)
  case atStart => exact ⟨0, Nat.zero_le _, rfl, Below.refl _ _, HS.out, HS2.out⟩
  case round =>
    obtain ⟨k, hk, rfl, hb, HT⟩ := hrel
    by_cases hlt : k < n
    · obtain ⟨b0, o0, ⟨yl, yn⟩, hA, _, _, hx, d0, d1⟩ := HT.out.1.sld_ hlt
      subst hA
      obtain ⟨b1, o1, ⟨zl, zn⟩, hA2, _, _, hx2, e0, e1⟩ := HT.out.2.sld_ hlt
      subst hA2
      have h := hx.out.symm.trans hx2.out
      injection h with h
      injection h with h1 h2
      subst h1 h2
      dsimp only at d0 d1 e0 e1
      have i0 : (0 : Int) ≤ k := by omega
      have i1 : (k : Int) < n := by omega
      have hk := fun u => neq_sold yl yl yn yn u
      rw [decide_eq_true (rfl : yl = yl), decide_eq_true (rfl : yn = yn)] at hk
      simp only [Bool.and_self, Bool.not_true] at hk
      go_wp2
      go_quiet (fail)
      go_wp2
      go_roundw
      case rel => exact ⟨k + 1, by omega, by go_num, below_drewN hb _, HT.out.1.drewN _, HT.out.2.drewN _⟩
      case measure => simp [intOf]; omega
    · obtain rfl : n = k := by omega
      go_wp2
      go_ret
      exact ⟨rfl, hb⟩
set_option maxRecDepth 100000 in
set_option maxHeartbeats 8000000 in
/-- The law's lines, of lines that tell the same. -/
theorem lines_any {w : World} {B B2 : Nat} {A A2 : Option Addr} {n n2 : Nat} {c c2 : Nat} {o1 : List Ln} {o2 : List Ln10} (h1 : OwnL w B (.slice A n c) o1) (h2 : OwnR w B2 (.slice A2 n2 c2) o2) (hm : o1.map lnF = o2.map lnR) (hn : n ≤ 100000) (hl : ∀ x ∈ o1, x.left.length ≤ 1000) :
    Calls Tryz.prog 25 #[.slice A n c, .slice A2 n2 c2] w fun e w' => e = .returned (.bool true) ∧ Below w.heap.size w w' := by
  have H1 := Lib.hid h1
  have H2 := Lib.hid h2
  have HM := Lib.hid hm
  have HLE := Lib.hid hl
  have S1 := Lib.hid h1.own.sl
  have S2 := Lib.hid h2.own.sl
  obtain rfl : n = n2 := by
    have h3 := congrArg List.length hm
    rw [List.length_map, List.length_map] at h3
    rw [← h1.own.sl.len, ← h2.own.sl.len, h3]
  have t0 : ((n : Int) != n) = false := by simp
  clear h1 h2 hm hl
  go_enter Tryz.func25, Tryz.ntmps25
  go_wp2
  go_loopw [5] (fun i wr => ∃ k : Nat, k ≤ n ∧ i = .int .i64 k ∧ Below w.heap.size w wr) (fun i _ => n - (intOf i).toNat)
  case atStart => exact ⟨0, Nat.zero_le _, rfl, Below.refl _ _⟩
  case round =>
    obtain ⟨k, hk, rfl, hb⟩ := hrel
    have HB := Lib.hid hb
    have zw := hb.size
    clear hb
    by_cases hlt : k < n
    · obtain ⟨b0, o0, x, hA, _, hb0, hx, d0, d1, d2, d3, d4, d5, d6, d7⟩ := (S1.out.below HB.out (Nat.le_refl _)).ln_ hlt
      subst hA
      obtain ⟨b1, p1, y, hA2, _, hb1, hy, e0, e1, e2, e3, e4, e5, e6, e7, e8, e9, e10⟩ := (S2.out.below HB.out (Nat.le_refl _)).lr_ hlt
      subst hA2
      have hxy : lnF x = lnR y := by
        have h3 : (o1.map lnF)[k]? = some (lnF x) := by rw [List.getElem?_map, hx.out]; rfl
        rw [HM.out, List.getElem?_map, hy.out] at h3
        injection h3 with h3
        exact h3.symm
      injection hxy with hf hk2 hle
      have hmx := List.mem_of_getElem? hx.out
      have hmy := List.mem_of_getElem? hy.out
      have hc1 := ((H1.out.cl x hmx).sl.below HB.out (Nat.le_refl _))
      have hc2 := ((H2.out.cl y hmy).sl.below HB.out (Nat.le_refl _))
      have hnx : x.n ≤ 100000 := by have h3 := hc1.len; have h4 := HLE.out x hmx; omega
      rw [hle] at hc1
      obtain ⟨xf, xk, xA, xn, xc, xl⟩ := x
      obtain ⟨⟨yf, yA, yn, yc⟩, yk, yA2, yn2, yc2, yl⟩ := y
      dsimp only at hf hk2 hle hc1 hc2 hnx d0 d1 d2 d3 d4 d5 d6 d7 e0 e1 e2 e3 e4 e5 e6 e7 e8 e9 e10
      subst hf
      subst hk2
      subst hle
      have HSO := Lib.hid (fun (V : World) (hV : Below wr.heap.size wr V) => solds_any xl xA yA2 xn xc yn2 yc2 V _ _ _ _ (hc1.below hV zw) (hc2.below hV zw) hnx)
      have i0 : (0 : Int) ≤ k := by omega
      have i1 : (k : Int) < n := by omega
      have zb0 : b0 < wr.heap.size := by omega
      have zb1 : b1 < wr.heap.size := by omega
      have hkk := fun u => neq_key xf.car xf.car xf.num xf.num u
      rw [decide_eq_true (rfl : xf.car = xf.car), decide_eq_true (rfl : xf.num = xf.num)] at hkk
      simp only [Bool.and_self, Bool.not_true] at hkk
      have t1 : (xf.dep != xf.dep) = false := by simp
      have t2 : (xf.arr != xf.arr) = false := by simp
      have t3 : (xk != xk) = false := by simp
      clear hx hy hmx hmy hc1 hc2
      go_upto_region 7 with fail
      refine wp_world (fun V => Bx V wr.heap.size #[.string xf.car, .int .i64 xf.num, .string xf.frm, .string xf.to_, .int .u8 xf.days, .int .i64 xf.dep, .int .i64 xf.arr, .slice yA yn yc, .int .i64 xf.pln] 96 ∧ Below wr.heap.size wr V) ⟨Bx.new _ _ _, (Below.refl _ _).alloc (Nat.le_refl _) _⟩ ?_
      rintro V ⟨bF, hbV⟩
      have HC := Lib.hid (fun u : Blw V => HSO.out u.W (hbV.trans (u.b.mono hbV.size)))
      have HBV := Lib.hid (HB.out.trans (hbV.mono zw))
      have zV := HBV.out.size
      have zF := bF.lt
      have c1 := bF.cells
      replace d0 := (hbV.cell (p := ⟨b0, o0 + k * 8, none⟩) zb0).trans d0
      replace d1 := (hbV.cell (p := ⟨b0, o0 + k * 8 + 1, none⟩) zb0).trans d1
      replace d2 := (hbV.cell (p := ⟨b0, o0 + k * 8 + 2, none⟩) zb0).trans d2
      replace d3 := (hbV.cell (p := ⟨b0, o0 + k * 8 + 3, none⟩) zb0).trans d3
      replace d4 := (hbV.cell (p := ⟨b0, o0 + k * 8 + 4, none⟩) zb0).trans d4
      replace d5 := (hbV.cell (p := ⟨b0, o0 + k * 8 + 5, none⟩) zb0).trans d5
      replace d6 := (hbV.cell (p := ⟨b0, o0 + k * 8 + 6, none⟩) zb0).trans d6
      replace d7 := (hbV.cell (p := ⟨b0, o0 + k * 8 + 7, none⟩) zb0).trans d7
      replace e9 := (hbV.cell (p := ⟨b1, p1 + k * 11 + 9, none⟩) zb1).trans e9
      replace e10 := (hbV.cell (p := ⟨b1, p1 + k * 11 + 10, none⟩) zb1).trans e10
      have zc0 : b0 < V.heap.size := Nat.lt_of_lt_of_le zb0 hbV.size
      have zc1 : b1 < V.heap.size := Nat.lt_of_lt_of_le zb1 hbV.size
      clear hbV bF
      refine wp_region_below (by kernel_rfl) (by kernel_rfl) ?_
      intro q9
      repeat
        (refine QH.step (fun K9 hK9 => ?_)
         go_simp
         first
         | (refine hK9 _ ?_; clear hK9 K9)
         | (apply Exists.intro
            refine ⟨fun _ => ?_, hK9 _ ?_⟩
            · first | (exact Calls.blw _ (HC.out _))
            clear hK9 K9))
      refine QH.nil_ ?_
      clear q9
      rintro ⟨V9, hV9⟩
      dsimp only
      have HB3 := Lib.hid (HBV.out.trans (hV9.mono zV))
      clear hV9
      go_wp2
      go_roundw
      case rel => exact ⟨k + 1, by omega, by go_num, HB3.out⟩
      case measure => simp [intOf]; omega
    · obtain rfl : n = k := by omega
      go_wp2
      go_ret
      exact ⟨rfl, HB.out⟩
set_option maxRecDepth 100000 in
set_option maxHeartbeats 16000000 in
theorem stockLines_any (rl : List FlR) (A : Option Addr) (n c : Nat) (w : World) (hs : FlS w 0 w.heap.size A n rl) (sc : List SAct) (A2 : Option Addr) (n2 c2 : Nat) (ha : Sl w 0 w.heap.size tSA A2 n2 sc) (d : Int) (hd : okInt d) (e0 e1 : ByteArray) :
    Calls Tryz.prog 7 #[.slice A n c, .slice A2 n2 c2, .int .i64 d, .agg #[.string e0, .string e1]] w (RetB w true) := by
  have HS := Lib.hid hs
  have HA := Lib.hid ha
  have HL := Lib.hid hs.sl.len
  have HOK := Lib.hid hs.sl.wf
  have HD := Lib.hid hd
  have HBX := BB.start w #[.string e0, .string e1] 51
  clear hs ha hd
  go_enter Tryz.func7, Tryz.ntmps7
  go_upto_region 1 with fail
  refine wp_world (BB w #[.string e0, .string e1] 51) HBX ?_
  clear HBX
  intro V0 hG0
  have HG0 := Lib.hid hG0
  have zG0 := hG0.lt
  clear hG0
  go_wp2_with fail
  refine (awake10_any V0).mono ?_
  rintro e w1 ⟨rfl, h1⟩
  have HG1 := Lib.hid (HG0.out.step h1)
  have zG1 := HG1.out.lt
  have z1 := HG1.out.2.size
  clear h1
  go_wp2_with fail
  refine (begun_any rl A n c w1 0 w.heap.size (HS.out.below HG1.out.2 (Nat.le_refl _)) z1).mono ?_
  rintro e w2 ⟨h2, hq⟩
  have HG2 := Lib.hid (HG1.out.step h2)
  have z2 := HG2.out.2.size
  have z12 := h2.size
  clear h2
  rcases hq with ⟨_, rfl⟩ | ⟨hnew, lo, hi, t, p, b, rs, rfl, hSK, hz, htab⟩
  · go_wp2
    go_ret
    exact ⟨rfl, HG2.out.2⟩
  have HR := Lib.hid htab.right
  have HT := Lib.hid htab
  have HFO := Lib.hid (show ∀ f ∈ rl.map (·.f), f.ok from fun f hf => by obtain ⟨r, hr, rfl⟩ := List.mem_map.1 hf; exact (HOK.out r hr).f)
  have HSM := Lib.hid (show ∀ r ∈ rl, r.n ≤ 100000 from fun r hr => by
    have h5 := right_few (HR.out _ (List.mem_map_of_mem hr))
    have h6 := (HOK.out r hr).len
    omega)
  have HRS := Lib.hid (show ∀ f ∈ rs.map (·.f), rightB f = true from fun f hf => HR.out f ((htab.mem f).1 hf))
  have HNK := Lib.hid htab.nokL
  have hn64 : n ≤ 64 := by
    have h5 := htab.most
    rw [List.length_map, HL.out] at h5
    exact h5
  have HSK := Lib.hid hSK
  have zb := hSK.hb
  have zbb := hSK.blt
  clear htab hSK hnew
  by_cases hm : 200 < n2
  · have hm' : (200 : Int) < n2 := by omega
    go_wp2
    go_ret
    exact ⟨rfl, HG2.out.2⟩
  have hm' : (n2 : Int) ≤ 200 := by omega
  have hwb : w.heap.size < b := by omega
  go_wp2
  go_loopw [10, 11, 12] (fun okv v i wr => ∃ (k : Nat) (A' : Option Addr) (n' c' : Nat) (m' : List Row10) (q' : Cel → Int), k ≤ n2 ∧ okv = .bool true ∧ i = .int .i64 k ∧ v = .slice A' n' c' ∧ n' ≤ k ∧ Hid (SK wr lo hi t p b rs q' ∧ RA wr w2.heap.size A' n' m' ∧ RQ m' q' ∧ NV (rl.map (·.f)) q') ∧ w2.heap.size ≤ wr.heap.size ∧ BB w #[.string e0, .string e1] 51 wr) (fun _ _ i _ => n2 - (intOf i).toNat)
  case atStart => exact ⟨0, none, 0, 0, [], _, Nat.zero_le _, rfl, rfl, rfl, Nat.le_refl _, ⟨HSK.out, ⟨Sl.nil_ _, by omega⟩, RQ.nil_, NV.zero HR.out⟩, Nat.le_refl _, HG2.out⟩
  case round =>
    clear HSK HG0 HG1 HG2
    obtain ⟨k, A', n', c', m', q', hk, rfl, rfl, rfl, hn', H, hzz, hG⟩ := hrel
    have HG := Lib.hid hG
    have HB := Lib.hid hG.2
    have zw := hG.2.size
    have zG := hG.lt
    clear hG
    have HFA := Lib.hid (show FA wr w.heap.size A n rl from ⟨HS.out.below HB.out (Nat.le_refl _), by omega, HSM.out, zw⟩)
    by_cases hlt : k < n2
    · obtain ⟨b0, o0, x, hA, _, hb0, hx, hok, d0, d1, d2, d3, d4, d5, d6⟩ := (Sl.below HA.out HB.out (Nat.le_refl _)).act_ hlt
      subst hA
      have i0 : (0 : Int) ≤ k := by omega
      have i1 : (k : Int) < n2 := by omega
      have hb0w : b0 < wr.heap.size := by omega
      have HP := play_any HFA.out H.out.1 H.out.2.1 H.out.2.2.1 H.out.2.2.2 HR.out HT.out HFO.out c c' x hok (by omega) hzz zbb (by omega)
      unfold sactV at HP
      have HP := Lib.hid HP
      clear hx hok
      go_wp2_with fail
      refine HP.out.mono ?_
      rintro e w3 ⟨A3, n3, c3, m3, q3, rfl, H3, hn3, hk3⟩
      have HG3 : Hid (BB w #[.string e0, .string e1] 51 w3) := ⟨HG.out.1.kb hk3 (by omega), hk3.below HB.out (by omega) zw⟩
      have hz3 := hk3.size
      clear hk3 HP HFA d0 d1 d2 d3 d4 d5 d6
      go_wp2
      go_roundw
      case rel => exact ⟨k + 1, A3, n3, c3, m3, q3, by omega, rfl, by go_num, rfl, by omega, H3, Nat.le_trans hzz hz3, HG3.out⟩
      case measure => simp [intOf]; omega
    · obtain rfl : n2 = k := by omega
      have HQB := Lib.hid (H.out.2.2.2.qb HR.out)
      have hrs : rs.length ≤ 64 := H.out.1.tb.most
      have HC1 := Lib.hid (fun (V : World) (hV : Below wr.heap.size wr V) => avail_any (H.out.1.keep hV) HQB.out HRS.out HNK.out hrs d e0 e1 HD.out)
      have HC2 := Lib.hid (fun (V : World) (hV : Below wr.heap.size wr V) => rAvail_any (HFA.out.keep hV) (H.out.2.1.keep hV) H.out.2.2.1 HQB.out HR.out hn64 c c' d e0 e1)
      have HEQ := Lib.hid (availF_same HT.out q' d e0 e1)
      have HLF : Hid (∀ x ∈ availF (rl.map (·.f)) q' d e0 e1, x.left.length ≤ 1000) := fun x hx => by
        have g : ∀ (lk : Bool) (f : Flt), f ∈ rl.map (·.f) → (lineF (rl.map (·.f)) q' d lk f).left.length ≤ 1000 := fun lk f hf => by
          have h5 := right_few (HR.out f hf)
          show (solF _ _ _ _).length ≤ 1000
          unfold solF
          rw [List.length_map]
          omega
        unfold availF at hx
        rcases List.mem_append.1 hx with h5 | h5
        · obtain ⟨f, hf, rfl⟩ := List.mem_map.1 h5
          exact g _ _ (betw_mem HT.out.nok hf)
        · obtain ⟨pp, hp, hx2⟩ := List.mem_flatMap.1 h5
          obtain ⟨⟨q1, _⟩, ⟨q2, _⟩, _⟩ := (mem_links HT.out.nok).1 hp
          unfold ln2F at hx2
          rcases List.mem_cons.1 hx2 with rfl | hx2
          · exact g _ _ q1
          · rw [List.mem_singleton.1 hx2]; exact g _ _ q2
      have HAL : Hid ((availF (rl.map (·.f)) q' d e0 e1).length ≤ 100000) := by
        show _ ≤ _
        unfold availF
        have h8 := betw_len (rl.map (·.f)) d e0 e1
        have h6 := links_len (rl.map (·.f)) d e0 e1
        rw [List.length_map, HL.out] at h8 h6
        have h7 : n * n ≤ 64 * 64 := Nat.mul_le_mul hn64 hn64
        have h9 : ((linksF (rl.map (·.f)) d e0 e1).flatMap (ln2F (rl.map (·.f)) q' d)).length ≤ 2 * (linksF (rl.map (·.f)) d e0 e1).length := by
          rw [List.length_flatMap]
          generalize linksF (rl.map (·.f)) d e0 e1 = l0
          induction l0 with
          | nil => simp
          | cons a l0 ih => simp only [List.map_cons, List.sum_cons, List.length_cons]; have : (ln2F (rl.map (·.f)) q' d a).length = 2 := rfl; omega
        rw [List.length_append, List.length_map]
        omega
      generalize availF (rl.map (·.f)) q' d e0 e1 = LA at HC2 HEQ HLF HAL
      rw [HEQ.out] at HC1
      clear HEQ
      have c1 := HG.out.1.cells
      go_upto_region 13 with fail
      have X6 : Hid (∀ i : Nat, wr.drew.cell? ⟨w.heap.size, i, none⟩ = (#[.string e0, .string e1] : Array Value)[i]?) := c1
      clear c1
      go_region_held3 (fun w' => ∀ i : Nat, w'.cell? ⟨w.heap.size, i, none⟩ = (#[.string e0, .string e1] : Array Value)[i]?) (first | (with_reducible exact X6.out) | (with_reducible exact X7.out) | (with_reducible exact X8.out) | (with_reducible exact X9.out)) (first
        | (go_at_call 26; (with_reducible refine (HC1.out _ (Below.refl _ _).drew).mono ?_); rintro e w7 ⟨A7, n7, c7, o7, rfl, ho7, hm7, h7⟩; have h7' : Below wr.heap.size wr w7 := ((Below.refl wr.heap.size wr).drew).trans h7; have H7 := Lib.hid h7'; have HO7 := Lib.hid ho7; have HM7 := Lib.hid hm7; have X7 : Hid (∀ i : Nat, w7.cell? ⟨w.heap.size, i, none⟩ = (#[.string e0, .string e1] : Array Value)[i]?) := (HG.out.step h7').1.cells; clear h7 h7' ho7 hm7)
        | (go_at_call 27; (with_reducible refine (HC2.out _ H7.out).mono ?_); rintro e w8 ⟨A8, n8, c8, o8, rfl, ho8, hm8, h8⟩; have h8' : Below wr.heap.size wr w8 := H7.out.trans (h8.mono H7.out.size); have H8 := Lib.hid h8'; have X8 : Hid (∀ i : Nat, w8.cell? ⟨w.heap.size, i, none⟩ = (#[.string e0, .string e1] : Array Value)[i]?) := (HG.out.step h8').1.cells; have HLI := Lib.hid (lines_any (c := c7) (c2 := c8) (HO7.out.keep h8) ho8 (HM7.out.trans hm8.symm) (by have q1 := congrArg List.length HM7.out; rw [List.length_map, HO7.out.own.sl.len] at q1; rw [q1]; exact HAL.out) (fun x hx => HLF.out (lnF x) (by rw [← HM7.out]; exact List.mem_map_of_mem hx))); clear h8 h8' ho8 hm8)
        | (go_at_call 25; (with_reducible refine HLI.out.mono ?_); rintro e w9 ⟨rfl, h9⟩; have h9' : Below wr.heap.size wr w9 := H8.out.trans (h9.mono H8.out.size); have H9 := Lib.hid h9'; have X9 : Hid (∀ i : Nat, w9.cell? ⟨w.heap.size, i, none⟩ = (#[.string e0, .string e1] : Array Value)[i]?) := (HG.out.step h9').1.cells; clear h9 h9'))
      have HBE := Lib.hid (HB.out.trans (H9.out.mono zw))
      clear X6 X7 X8 X9
      go_wp2
      go_ret
      exact ⟨rfl, HBE.out⟩
end Go.Proofs.YtlkdefmceghmnaaGreat
