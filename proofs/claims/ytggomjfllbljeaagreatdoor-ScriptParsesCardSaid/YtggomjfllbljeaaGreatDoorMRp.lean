/- Put together by program of: Rp, Rl, Rpr. -/
import Derived.Test.YtggomjfllbljeaaGreatDoorMRs
import Derived.Test.YtggomjfllbljeaaGreatDoorScG
import Derived.Test.YtggomjfllbljeaaGreatDoorMScH
import Derived.Lib.ItoaNum
import Derived.Laws.IdiomStrings
namespace Go.Proofs.YtggomjfllbljeaaGreatDoor
set_option linter.unusedVariables false
open Go Go.RowKit
attribute [local go_sem] bat_get
/-- What the document's Parse hands back: the event, or the empty one, and whether there is one. -/
def RetRp (W : World) (o : Option Ev) (e : Ending) (W' : World) : Prop :=
  ∃ A c, e = .returned (.tuple #[.agg (evC (evOf o).kind (evOf o).agent (evOf o).entry (evOf o).n (.slice A (evOf o).keep.length c)), .bool o.isSome]) ∧ Own W' W.heap.size 4 tBool (.slice A (evOf o).keep.length c) (evOf o).keep ∧ Below W.heap.size W W'
theorem RetRp.no {W W' : World} {o : Option Ev} (h : o = none) (hb : Below W.heap.size W W') : RetRp W o (.returned (.tuple #[.agg (evC 0 0 ⟨#[]⟩ 0 (.slice none 0 0)), .bool false])) W' := by
  subst h
  exact ⟨none, 0, rfl, ow_nil _ _, hb⟩
theorem RetRp.yes {W W' : World} {o : Option Ev} {k ag : Int} {en : ByteArray} {n : Int} {l : List Bool} {A : Option Addr} {c : Nat} (h : o = some ⟨k, ag, en, n, l⟩) (ho : Own W' W.heap.size 4 tBool (.slice A l.length c) l) (hb : Below W.heap.size W W') : RetRp W o (.returned (.tuple #[.agg (evC k ag en n (.slice A l.length c)), .bool true])) W' := by
  subst h
  exact ⟨A, c, rfl, ho, hb⟩
set_option maxRecDepth 100000 in
set_option maxHeartbeats 8000000 in
theorem rparse_any (s : ByteArray) (h2 : s.size ≤ 100000) (W : World) : Calls Tryz.prog 6 #[.string s] W (RetRp W (parseF s)) := by
  have HF0 := CG.start W (evC 0 0 ⟨#[]⟩ 0 (.slice none 0 0)) (evC 0 0 ⟨#[]⟩ 0 (.slice none 0 0))
  have hO : parseF s = if begB s wTick then (wholeF s 5).map (fun n => ⟨2, 0, ⟨#[]⟩, n, []⟩) else if begB s wFuse then (wholeF s 5).map (fun n => ⟨4, 0, ⟨#[]⟩, n, []⟩) else if begB s wCrash then crashF s else if (numF s 0 99).2.2 && (decide ((numF s 0 99).2.1 < s.size) && (decide (bat s (numF s 0 99).2.1 = 32) && noLf s)) then some ⟨1, (numF s 0 99).1, tailB s ((numF s 0 99).2.1 + 1), 0, []⟩ else none := rfl
  have HO := Lib.hid hO
  clear hO
  generalize parseF s = o at HO ⊢
  have HW := Lib.hid (fun (i : Nat) (hi : i ≤ s.size) (V : World) => show Calls Tryz.prog 13 #[.string (tailB s i)] V fun e W' => e = .returned (.tuple #[.int .i64 ((wholeF s i).getD 0), .bool (wholeF s i).isSome]) ∧ V = W' from by
    have := rwhole_any (tailB s i) (by have := tail_le s i; omega) V
    rwa [tail_whole hi] at this)
  have HC := Lib.hid (fun (hi : 6 ≤ s.size) (V : World) => show Calls Tryz.prog 14 #[.string (tailB s 6)] V (RetRd V (crashF s)) from by
    have := rcrash_any (tailB s 6) (by have := tail_le s 6; omega) V
    rwa [crashT_eq hi] at this)
  have HW1 := Lib.hid (fun (V : World) => rbegins_any s ⟨#[116, 105, 99, 107, 32]⟩ h2 V)
  have HW2 := Lib.hid (fun (V : World) => rbegins_any s ⟨#[102, 117, 115, 101, 32]⟩ h2 V)
  have HW3 := Lib.hid (fun (V : World) => rbegins_any s ⟨#[99, 114, 97, 115, 104, 32]⟩ h2 V)
  rw [show (⟨#[116, 105, 99, 107, 32]⟩ : ByteArray).data.toList = wTick from rfl, show (⟨#[116, 105, 99, 107, 32]⟩ : ByteArray).size = 5 from rfl] at HW1
  rw [show (⟨#[102, 117, 115, 101, 32]⟩ : ByteArray).data.toList = wFuse from rfl, show (⟨#[102, 117, 115, 101, 32]⟩ : ByteArray).size = 5 from rfl] at HW2
  rw [show (⟨#[99, 114, 97, 115, 104, 32]⟩ : ByteArray).data.toList = wCrash from rfl, show (⟨#[99, 114, 97, 115, 104, 32]⟩ : ByteArray).size = 6 from rfl] at HW3
  have L1 := Lib.hid (fun h : begB s wTick = true => (beg_size h : 5 ≤ s.size))
  have L2 := Lib.hid (fun h : begB s wFuse = true => (beg_size h : 5 ≤ s.size))
  have L3 := Lib.hid (fun h : begB s wCrash = true => (beg_size h : 6 ≤ s.size))
  generalize begB s wTick = q1 at HO HW1 L1
  generalize begB s wFuse = q2 at HO HW2 L2
  generalize begB s wCrash = q3 at HO HW3 L3
  go_enter Tryz.func6, Tryz.ntmps6
  go_upto_region 2 with fail
  refine wp_world (fun V => CG W (evC 0 0 ⟨#[]⟩ 0 (.slice none 0 0)) (evC 0 0 ⟨#[]⟩ 0 (.slice none 0 0)) V) HF0 ?_
  clear HF0
  rintro V H
  have z1 := H.z
  go_wp2_with fail
  refine (HW1.out _).mono ?_
  rintro e w' ⟨rfl, rfl⟩
  clear HW1
  rcases q1 with _ | _
  rotate_left
  · have h5 := L1.out rfl
    have hO : o = (wholeF s 5).map (fun n => ⟨2, 0, ⟨#[]⟩, n, []⟩) := by rw [HO.out]; rfl
    have HO1 := Lib.hid hO
    have HW5 := Lib.hid (HW.out 5 h5)
    clear hO HO HW HC HW2 HW3 L1 L2 L3
    generalize wholeF s 5 = w9 at HO1 HW5
    rw [if_pos rfl]
    go_wp2_with fail
    refine (HW5.out _).mono ?_
    rintro e w' ⟨rfl, rfl⟩
    clear HW5
    have c1 := H.e.cells
    have c2 := H.r.cells
    have f2 := H.r.free
    rcases w9 with _ | n
    · go_wp2
      refine ret_ev Tryz.results6 (H.put5 0 0 ⟨#[]⟩ 0 (.slice none 0 0)).r rfl rfl rfl rfl ?_
      exact RetRp.no HO1.out (H.put5 0 0 ⟨#[]⟩ 0 (.slice none 0 0)).B
    · go_wp2
      refine ret_ev Tryz.results6 (H.put5 2 0 ⟨#[]⟩ n (.slice none 0 0)).r rfl rfl rfl rfl ?_
      exact RetRp.yes HO1.out (ow_nil _ _) (H.put5 2 0 ⟨#[]⟩ n (.slice none 0 0)).B
  rw [if_neg (by simp)]
  go_wp2_with fail
  refine (HW2.out _).mono ?_
  rintro e w' ⟨rfl, rfl⟩
  clear HW2
  rcases q2 with _ | _
  rotate_left
  · have h5 := L2.out rfl
    have hO : o = (wholeF s 5).map (fun n => ⟨4, 0, ⟨#[]⟩, n, []⟩) := by rw [HO.out]; rfl
    have HO1 := Lib.hid hO
    have HW5 := Lib.hid (HW.out 5 h5)
    clear hO HO HW HC HW3 L1 L2 L3
    generalize wholeF s 5 = w9 at HO1 HW5
    rw [if_pos rfl]
    go_wp2_with fail
    refine (HW5.out _).mono ?_
    rintro e w' ⟨rfl, rfl⟩
    clear HW5
    have c1 := H.e.cells
    have c2 := H.r.cells
    have f2 := H.r.free
    rcases w9 with _ | n
    · go_wp2
      refine ret_ev Tryz.results6 (H.put5 0 0 ⟨#[]⟩ 0 (.slice none 0 0)).r rfl rfl rfl rfl ?_
      exact RetRp.no HO1.out (H.put5 0 0 ⟨#[]⟩ 0 (.slice none 0 0)).B
    · go_wp2
      refine ret_ev Tryz.results6 (H.put5 4 0 ⟨#[]⟩ n (.slice none 0 0)).r rfl rfl rfl rfl ?_
      exact RetRp.yes HO1.out (ow_nil _ _) (H.put5 4 0 ⟨#[]⟩ n (.slice none 0 0)).B
  rw [if_neg (by simp)]
  go_wp2_with fail
  refine (HW3.out _).mono ?_
  rintro e w' ⟨rfl, rfl⟩
  clear HW3
  rcases q3 with _ | _
  rotate_left
  · have h6 := L3.out rfl
    have hO : o = crashF s := by rw [HO.out]; rfl
    have HO1 := Lib.hid hO
    have HC6 := Lib.hid (HC.out h6)
    clear hO HO HW HC L1 L2 L3
    generalize crashF s = w9 at HO1 HC6
    rw [if_pos rfl]
    go_wp2_with fail
    refine (HC6.out _).mono ?_
    rintro e V4 ⟨k, ag, en, n, A, m, c, l, ok, rfl, o1, o2, hl, hw, hB4⟩
    have O1 := Lib.hid o1
    have O2 := Lib.hid o2
    clear o1 o2 HC6
    subst hl
    have H4 := H.grown (hB4.mono (by omega))
    have z4 := H4.z
    have hw4 := hw.more (B' := W.heap.size) (by omega)
    rcases ok with _ | _
    · have hn := O2.out rfl
      rw [← HO1.out] at hn
      have HN := Lib.hid hn
      clear hn O1 O2 hw hw4
      go_upto_region 18 with fail
      refine wp_world (fun V => CG W (evC 0 0 ⟨#[]⟩ 0 (.slice none 0 0)) (evC 0 0 ⟨#[]⟩ 0 (.slice none 0 0)) V) (H4.alloc _) ?_
      rintro V5 H5
      have c1 := H5.e.cells
      have c2 := H5.r.cells
      have f2 := H5.r.free
      go_wp2
      refine ret_ev Tryz.results6 (H5.put5 0 0 ⟨#[]⟩ 0 (.slice none 0 0)).r rfl rfl rfl rfl ?_
      exact RetRp.no HN.out (H5.put5 0 0 ⟨#[]⟩ 0 (.slice none 0 0)).B
    · have hn := O1.out rfl
      rw [← HO1.out] at hn
      have HN := Lib.hid hn
      have hw5 := (hw.more (B' := W.heap.size + 2) (by omega)).alloc (.cells (evC k ag en n (.slice A l.length c)) 24)
      clear hn O1 O2 hw hw4
      go_upto_region 19 with fail
      refine wp_world (fun V => CG W (evC 0 0 ⟨#[]⟩ 0 (.slice none 0 0)) (evC 0 0 ⟨#[]⟩ 0 (.slice none 0 0)) V ∧ Bx V V4.heap.size (evC k ag en n (.slice A l.length c)) 24 ∧ Own V (W.heap.size + 2) 4 tBool (.slice A l.length c) l) ⟨H4.alloc _, Bx.new _ _ _, hw5⟩ ?_
      clear hw5
      rintro V5 ⟨H5, b5, hw5⟩
      have c1 := b5.cells
      have c2 := H5.r.cells
      have f2 := H5.r.free
      have z5 := H5.z
      go_wp2
      refine ret_ev Tryz.results6 (H5.put5 k ag en n (.slice A l.length c)).r rfl rfl rfl rfl ?_
      exact RetRp.yes HN.out ((hw5.put5 (by omega) _ _ _ _ _).more (by omega)) (H5.put5 k ag en n (.slice A l.length c)).B
  rw [if_neg (by simp)]
  have hO : o = if (numF s 0 99).2.2 && (decide ((numF s 0 99).2.1 < s.size) && (decide (bat s (numF s 0 99).2.1 = 32) && noLf s)) then some ⟨1, (numF s 0 99).1, tailB s ((numF s 0 99).2.1 + 1), 0, []⟩ else none := by rw [HO.out]; rfl
  have HO1 := Lib.hid hO
  have HN := Lib.hid (fun (V : World) => rnumber_any s 0 99 (Nat.zero_le _) h2 (by omega) (by omega) V)
  have hp9 := num_le (s := s) (a := 0) (most := 99) (Nat.zero_le _)
  clear hO HO HW HC L1 L2 L3
  generalize numF s 0 99 = F at HN HO1 hp9
  obtain ⟨n, p, is⟩ := F
  dsimp only at HN HO1 hp9
  go_wp2_with fail
  refine (HN.out _).mono ?_
  rintro e w' ⟨rfl, rfl⟩
  clear HN
  have c1 := H.e.cells
  have c2 := H.r.cells
  have f2 := H.r.free
  by_cases hok : is = true ∧ p < s.size ∧ bat s p = 32
  rotate_left
  · have HNO : Hid (o = none) := by
      show _ = _
      rw [HO1.out, if_neg]
      simp only [Bool.and_eq_true, decide_eq_true_eq]
      exact fun h => hok ⟨h.1, h.2.1, h.2.2.1⟩
    go_upto_region 21 with fail
    go_cut [88] (fun v V' => v = .bool true ∧ V = V')
    case first =>
      rcases is with _ | _
      · go_wp2
        go_meet
        exact ⟨rfl, rfl⟩
      · by_cases hlt : p < s.size
        · have h32 : ¬ bat s p = 32 := fun h => hok ⟨rfl, hlt, h⟩
          clear hok
          go_wp2
          all_goals first | (exfalso; omega) | (go_meet; exact ⟨by first | rfl | simp [h32], rfl⟩)
        · have hge : s.size ≤ p := by omega
          clear hok
          go_wp2
          all_goals first | (exfalso; omega) | (go_meet; exact ⟨rfl, rfl⟩)
    case rest =>
    obtain ⟨rfl, rfl⟩ := hcut
    go_wp2
    refine ret_ev Tryz.results6 (H.put5 0 0 ⟨#[]⟩ 0 (.slice none 0 0)).r rfl rfl rfl rfl ?_
    exact RetRp.no HNO.out (H.put5 0 0 ⟨#[]⟩ 0 (.slice none 0 0)).B
  obtain ⟨rfl, hlt, h32⟩ := hok
  have HO2 : Hid (o = if noLf s then some ⟨1, n, tailB s (p + 1), 0, []⟩ else none) := by
    show _ = _
    rw [HO1.out, decide_eq_true hlt, decide_eq_true h32]
    rfl
  have hp1 : (p : Int) + 1 ≤ s.size := by omega
  clear HO1
  go_wp2
  go_loop [20] (fun i => ∃ k : Nat, k ≤ s.size ∧ i = .int .i64 k ∧ Hid (∀ j, j < k → bat s j ≠ 10)) (fun i => s.size - (intOf i).toNat)
  case atStart => exact ⟨0, Nat.zero_le _, rfl, fun j hj => by omega⟩
  case round =>
    obtain ⟨k, hk, rfl, hall⟩ := hrel
    by_cases hlk : k < s.size
    · by_cases h10 : bat s k = 10
      · have HNO : Hid (o = none) := by
          show _ = _
          rw [HO2.out, if_neg]
          unfold noLf
          rw [decide_eq_true_eq]
          exact fun h => h k hlk h10
        clear HO2
        go_wp2
        refine ret_ev Tryz.results6 (H.put5 0 0 ⟨#[]⟩ 0 (.slice none 0 0)).r rfl rfl rfl rfl ?_
        exact RetRp.no HNO.out (H.put5 0 0 ⟨#[]⟩ 0 (.slice none 0 0)).B
      · have hall2 : Hid (∀ j, j < k + 1 → bat s j ≠ 10) := fun j hj => by
          by_cases e : j = k
          · subst e; exact h10
          · exact hall.out j (by omega)
        go_wp2
        go_round
        case rel => exact ⟨k + 1, by omega, by go_num, hall2⟩
        case measure => simp [intOf]; omega
    · have HNO : Hid (o = some ⟨1, n, tailB s (p + 1), 0, []⟩) := by
        show _ = _
        rw [HO2.out, if_pos]
        unfold noLf
        rw [decide_eq_true_eq]
        exact fun j hj => hall.out j (by omega)
      clear HO2
      go_wp2
      refine ret_ev Tryz.results6 (H.put5 1 n (tailB s (p + 1)) 0 (.slice none 0 0)).r rfl rfl rfl rfl ?_
      exact RetRp.yes HNO.out (ow_nil _ _) (H.put5 1 n (tailB s (p + 1)) 0 (.slice none 0 0)).B
end Go.Proofs.YtggomjfllbljeaaGreatDoor
namespace Go.Proofs.YtggomjfllbljeaaGreatDoor
set_option linter.unusedVariables false
open Go Go.RowKit
def dgt (x : Int) : UInt8 := UInt8.ofNat (48 + x.toNat)
theorem conv_one (W : World) (x : Int) (h0 : 0 ≤ x) (h1 : x < 10) :
    (convert 57 9 (.slice (some ⟨W.heap.size, 0, none⟩) 1 1)).run Tryz.prog (W.alloc (.cells #[.int .u8 (48 + x)] 5)) = .ok (.string ⟨[dgt x].toArray⟩) (W.alloc (.cells #[.int .u8 (48 + x)] 5)) := by
  refine run_convert_bytes_back (W.alloc (.cells #[.int .u8 (48 + x)] 5)) 57 9 5 ⟨W.heap.size, 0, none⟩ 1 [dgt x] Tryz.underlying57 Tryz.underlying5 Tryz.underlying9 fun j hj => ?_
  obtain rfl : j = 0 := by simp at hj; omega
  have hadd : (⟨W.heap.size, 0, none⟩ : Addr).add 0 = ⟨W.heap.size, 0, none⟩ := rfl
  rw [hadd, cell_of_row _ _ 0 _ _ (0, 0) (heap_alloc_new W _)]
  have e : ((dgt x).toNat : Int) = 48 + x := by
    unfold dgt
    rw [UInt8.toNat_ofNat']
    omega
  simp [e]
theorem cat_one (a : UInt8) (t : List UInt8) : (⟨[a].toArray⟩ : ByteArray) ++ ⟨t.toArray⟩ = ⟨(a :: t).toArray⟩ := by
  apply ByteArray.ext
  simp
theorem dec_more {m : Nat} (h : 9 < m) : Lib.decDigits m = Lib.decDigits (m / 10) ++ [dgt ((m : Int) % 10)] := by
  rw [Lib.decDigits, dif_neg (by omega)]
  unfold dgt
  rw [show ((m : Int) % 10).toNat = m % 10 from by omega]
theorem dec_last {m : Nat} (h : ¬ 9 < m) : Lib.decDigits m = [dgt (m : Int)] := by
  rw [Lib.decDigits, dif_pos (by omega)]
  unfold dgt
  rw [Int.toNat_natCast]
set_option maxRecDepth 100000 in
set_option maxHeartbeats 4000000 in
theorem digits_any (u : Nat) (hu : u ≤ 9223372036854775807) (w : World) :
    Calls Tryz.prog 34 #[.int .i64 u] w fun e w' => e = .returned (.string ⟨(Lib.decDigits u).toArray⟩) ∧ Below w.heap.size w w' := by
  go_enter Tryz.func34, Tryz.ntmps34
  go_wp2
  go_loopw [0, 3] (fun v s wr => ∃ (m : Nat) (t : List UInt8), v = .int .i64 m ∧ s = .string ⟨t.toArray⟩ ∧ 9 * t.length + m ≤ u ∧ Hid (Lib.decDigits u = Lib.decDigits m ++ t) ∧ Below w.heap.size w wr) (fun v _ _ => (intOf v).toNat)
  case atStart => exact ⟨u, [], rfl, rfl, by simp, by show _ = _; simp, Below.refl _ _⟩
  case round =>
    obtain ⟨m, t, rfl, rfl, hm, HE, hb⟩ := hrel
    by_cases h9 : 9 < m
    · have t1 : decide ((m : Int) > 9) = true := by simp; omega
      have hc := conv_one wr ((m : Int) % 10) (by omega) (by omega)
      have hl : ¬ 9223372036854775807 < 1 + t.length := by omega
      have HE2 := Lib.hid (show Lib.decDigits u = Lib.decDigits (m / 10) ++ (dgt ((m : Int) % 10) :: t) by rw [HE.out, dec_more h9]; simp)
      have HS := Lib.hid (cat_one (dgt ((m : Int) % 10)) t)
      have hb2 := hb.alloc hb.size (.cells #[.int .u8 (48 + (m : Int) % 10)] 5)
      have H9 := Lib.hid h9
      clear h9 HE
      go_wp2
      go_roundw
      case rel => exact ⟨m / 10, dgt ((m : Int) % 10) :: t, by go_num, by exact congrArg Value.string HS.out, by have := H9.out; simp only [List.length_cons]; omega, HE2, hb2⟩
      case measure => have := H9.out; simp [intOf]; omega
    · have t1 : decide ((m : Int) > 9) = false := by simp; omega
      have hc := conv_one wr (m : Int) (by omega) (by omega)
      have hl : ¬ 9223372036854775807 < 1 + t.length := by omega
      have HE2 := Lib.hid (show Lib.decDigits u = dgt (m : Int) :: t by rw [HE.out, dec_last h9]; rfl)
      have HS := Lib.hid (cat_one (dgt (m : Int)) t)
      have hb2 := hb.alloc hb.size (.cells #[.int .u8 (48 + (m : Int))] 5)
      have h10 : m < 10 := by omega
      clear h9 HE
      go_wp2
      go_ret
      exact ⟨by rw [HE2.out]; exact congrArg (fun s => Ending.returned (Value.string s)) HS.out, hb2⟩
theorem digF_bl {n most : Int} (h0 : 0 ≤ n) (h1 : n ≤ most) : digF n most = Lib.decDigits n.toNat := by
  unfold digF
  rw [if_neg (by omega)]
theorem digF_len (n : Int) {most : Int} (hm : most ≤ 999999999) : (digF n most).length ≤ 21 := by
  unfold digF
  split
  · simp
  · have h : okInt n := by unfold okInt; omega
    have := itoa_len h
    unfold Lib.itoa at this
    rw [if_neg (by omega)] at this
    exact this
theorem bitL_step {l : List Bool} {k : Nat} {b : Bool} (h : l[k]? = some b) : bitL (l.take (k + 1)) = bitL (l.take k) ++ [if b then 49 else 48] := by
  unfold bitL
  rw [List.take_add_one, h, List.map_append]
  rfl
set_option maxRecDepth 100000 in
set_option maxHeartbeats 8000000 in
theorem rline_any (x : Ev) {W : World} {lo hi : Nat} {A : Option Addr} {m c : Nat} (hx : Sl W lo hi tBool A m x.keep) (h1 : hi ≤ W.heap.size) (hm : m ≤ 5000) (he : x.entry.size ≤ 100000) :
    Calls Tryz.prog 18 #[.agg (evC x.kind x.agent x.entry x.n (.slice A m c))] W fun e W' => e = .returned (.string (lineL x)) ∧ Below W.heap.size W W' := by
  obtain ⟨k, ag, en, n, l⟩ := x
  dsimp only at hx he ⊢
  have HX := Lib.hid hx
  have HTF : Hid (lineL ⟨k, ag, en, n, l⟩ = ⟨(if k = 2 then wTick ++ digF n 999999999 else if k = 4 then wFuse ++ digF n 999999999 else if k = 3 then crashL ⟨k, ag, en, n, l⟩ (digF n 999999999) else if ag < 0 ∨ 99 < ag then [] else digF ag 99 ++ 32 :: en.data.toList).toArray⟩) := rfl
  generalize lineL ⟨k, ag, en, n, l⟩ = tx at HTF ⊢
  have HB := box_ev W (evC k ag en n (.slice A m c)) 24
  have hln := digF_len n (most := 999999999) (by omega)
  clear hx
  go_enter Tryz.func18, Tryz.ntmps18
  go_upto_region 1 with fail
  refine wp_world (fun V => Bx V W.heap.size (evC k ag en n (.slice A m c)) 24 ∧ Below W.heap.size W V) HB ?_
  clear HB
  rintro V ⟨b1, hb⟩
  have c1 := b1.cells
  have z1 := b1.lt
  go_upto_region 2 with fail
  go_cut [13] (fun v V' => v = .bool (decide (0 ≤ n ∧ n ≤ 999999999)) ∧ V = V')
  case first =>
    by_cases hn0 : 0 ≤ n
    · have HQ := Lib.hid (show decide (0 ≤ n ∧ n ≤ 999999999) = decide (n ≤ 999999999) by rw [decide_eq_decide]; omega)
      go_wp2
      all_goals first | (exfalso; omega) | (go_meet; exact ⟨by rw [HQ.out], rfl⟩)
    · have HQ := Lib.hid (show decide (0 ≤ n ∧ n ≤ 999999999) = false by rw [decide_eq_false_iff_not]; omega)
      go_wp2
      all_goals first | (exfalso; omega) | (go_meet; exact ⟨by rw [HQ.out], rfl⟩)
  case rest =>
  obtain ⟨rfl, rfl⟩ := hcut
  go_upto_if 13 with fail
  go_cut [3] (fun v V => ∃ dn : ByteArray, v = .string dn ∧ Hid (bl dn = digF n 999999999) ∧ dn.size ≤ 21 ∧ Bx V W.heap.size (evC k ag en n (.slice A m c)) 24 ∧ Below W.heap.size W V)
  case first =>
    by_cases hn : 0 ≤ n ∧ n ≤ 999999999
    · rw [decide_eq_true hn]
      obtain ⟨u, rfl⟩ : ∃ u : Nat, n = u := ⟨n.toNat, by omega⟩
      have HD : Hid (bl (⟨(Lib.decDigits u).toArray⟩ : ByteArray) = digF u 999999999) := by show _ = _; rw [digF_bl hn.1 hn.2]; rfl
      have hu : u ≤ 9223372036854775807 := by omega
      have hls : (⟨(Lib.decDigits u).toArray⟩ : ByteArray).size ≤ 21 := by rw [← bl_size, HD.out]; exact hln
      clear hn
      go_wp2_with fail
      refine (digits_any u hu _).mono ?_
      rintro e V2 ⟨rfl, hb2⟩
      have b2 := b1.below hb2 z1
      go_wp2
      go_meet
      exact ⟨_, rfl, HD, hls, b2, hb.trans (hb2.mono (by omega))⟩
    · rw [decide_eq_false hn]
      have HD : Hid (bl (⟨#[]⟩ : ByteArray) = digF n 999999999) := by
        show _ = _
        unfold digF
        rw [if_pos (by omega)]
        rfl
      clear hn
      go_wp2
      go_meet
      exact ⟨⟨#[]⟩, rfl, HD, Nat.zero_le _, b1, hb⟩
  case rest =>
  clear b1 hb c1 z1
  obtain ⟨dn, rfl, HLT, hls, b2, hb3⟩ := hcut
  have c1 := b2.cells
  have z1 := b2.lt
  have HLL := Lib.hid hln
  clear hln
  by_cases e2 : k = 2
  · have t2 : (k == 2) = true := by simp [e2]
    have HE : Hid (tx = (⟨#[116, 105, 99, 107, 32]⟩ : ByteArray) ++ dn) := by
      show _ = _
      rw [HTF.out, if_pos e2, cat_eq (l := wTick ++ digF n 999999999) (by rw [HLT.out]; rfl)]
    clear e2
    go_wp2
    go_ret
    exact ⟨by rw [HE.out]; rfl, hb3⟩
  have t2 : (k == 2) = false := by simp [e2]
  by_cases e4 : k = 4
  · have t4 : (k == 4) = true := by simp [e4]
    have HE : Hid (tx = (⟨#[102, 117, 115, 101, 32]⟩ : ByteArray) ++ dn) := by
      show _ = _
      rw [HTF.out, if_neg e2, if_pos e4, cat_eq (l := wFuse ++ digF n 999999999) (by rw [HLT.out]; rfl)]
    clear e4 e2
    go_wp2
    go_ret
    exact ⟨by rw [HE.out]; rfl, hb3⟩
  have t4 : (k == 4) = false := by simp [e4]
  by_cases e3 : k = 3
  rotate_left
  · have t3 : (k == 3) = false := by simp [e3]
    have HE : Hid (tx = ⟨(if ag < 0 ∨ 99 < ag then [] else digF ag 99 ++ 32 :: en.data.toList).toArray⟩) := by
      show _ = _
      rw [HTF.out, if_neg e2, if_neg e4, if_neg e3]
    clear e2 e4 e3 HTF
    by_cases ha : ag < 0 ∨ 99 < ag
    · have HE2 : Hid (tx = ⟨#[]⟩) := by show _ = _; rw [HE.out, if_pos ha]
      by_cases ha0 : ag < 0
      · go_wp2
        all_goals first | (exfalso; omega) | (go_ret; exact ⟨by rw [HE2.out]; rfl, hb3⟩)
      · have ha9 : 99 < ag := by omega
        clear ha
        go_wp2
        all_goals first | (exfalso; omega) | (go_ret; exact ⟨by rw [HE2.out]; rfl, hb3⟩)
    · obtain ⟨u, rfl⟩ : ∃ u : Nat, ag = u := ⟨ag.toNat, by omega⟩
      have hu0 : ¬ (u : Int) < 0 := by omega
      have hu9 : ¬ (99 : Int) < u := by omega
      have hu : u ≤ 9223372036854775807 := by omega
      have HD : Hid (bl (⟨(Lib.decDigits u).toArray⟩ : ByteArray) = digF u 99) := by show _ = _; rw [digF_bl (by omega) (by omega)]; rfl
      have hld := digF_len u (most := 99) (by omega)
      have hls2 : (⟨(Lib.decDigits u).toArray⟩ : ByteArray).size ≤ 21 := by rw [← bl_size, HD.out]; exact hld
      have HE2 : Hid (tx = ⟨(digF u 99 ++ 32 :: en.data.toList).toArray⟩) := by show _ = _; rw [HE.out, if_neg ha]
      have HI3 := Lib.hid (fun t : Blw wc => digits_any u hu t.W)
      generalize (⟨(Lib.decDigits u).toArray⟩ : ByteArray) = da at HD hls2 HI3
      have HE3 : Hid (tx = da ++ (⟨#[32]⟩ : ByteArray) ++ en) := by
        show _ = _
        rw [HE2.out, cat_eq (a := da) (l := digF u 99 ++ [32]) (by rw [HD.out]; rfl), cat_eq (l := (digF u 99 ++ [32]) ++ en.data.toList) (by simp only [bl]), List.append_assoc]
        rfl
      have hq1 : ¬ 9223372036854775807 < da.size + 1 := by omega
      have hq2 : ¬ 9223372036854775807 < da.size + 1 + en.size := by omega
      clear HE HE2 ha hu hld
      go_upto_region 24 with fail
      refine wp_region_below (by kernel_rfl) (by kernel_rfl) ?_
      intro q9
      repeat
        (refine QH.step (fun K9 hK9 => ?_)
         go_simp
         first
         | (refine hK9 _ ?_; clear hK9 K9)
         | (apply Exists.intro
            refine ⟨fun _ => ?_, hK9 _ ?_⟩
            · first | (exact Calls.blw _ (HI3.out _))
            clear hK9 K9))
      refine QH.nil_ ?_
      clear q9
      rintro ⟨V9, hV9⟩
      dsimp only
      go_wp2
      go_ret
      exact ⟨by rw [HE3.out]; rfl, hb3.trans (hV9.mono hb3.size)⟩
  · have t3 : (k == 3) = true := by simp [e3]
    have HE : Hid (tx = ⟨(wCrash ++ (if l = [] then [45] else bitL l) ++ (if n = 0 then [] else 32 :: digF n 999999999)).toArray⟩) := by
      show _ = _
      rw [HTF.out, if_neg e2, if_neg e4, if_pos e3]
      rfl
    have HX3 := Lib.hid (HX.out.below hb3 h1)
    clear e2 e4 e3 HTF
    go_wp2
    go_loop [4, 5] (fun v i => ∃ j : Nat, j ≤ m ∧ i = .int .i64 j ∧ v = .string ⟨(bitL (l.take j)).toArray⟩) (fun _ i => m - (intOf i).toNat)
    case atStart => exact ⟨0, Nat.zero_le _, rfl, rfl⟩
    case round =>
      obtain ⟨j, hj, rfl, rfl⟩ := hrel
      have hlen := HX3.out.len
      have hbl : (bitL (l.take j)).length = j := by unfold bitL; rw [List.length_map, List.length_take]; omega
      have hbs : (⟨(bitL (l.take j)).toArray⟩ : ByteArray).size = j := hbl
      by_cases hlt : j < m
      · obtain ⟨b, o, x, rfl, _, hbh, hxx, d1⟩ := HX3.out.bool_ hlt
        have HS := Lib.hid (bitL_step hxx.out)
        have i0 : (0 : Int) ≤ j := by omega
        have i1 : (j : Int) < m := by omega
        rcases x with _ | _
        · have HC := Lib.hid (cat_eq (a := ⟨(bitL (l.take j)).toArray⟩) (b := ⟨#[48]⟩) (l := bitL (l.take (j + 1))) (by rw [HS.out]; rfl))
          generalize (⟨(bitL (l.take j)).toArray⟩ : ByteArray) = sj at hbs HC
          have hq1 : ¬ 9223372036854775807 < j + 1 := by omega
          go_wp2
          go_round
          case rel => exact ⟨j + 1, by omega, by go_num, by rw [← HC.out]⟩
          case measure => simp [intOf]; omega
        · have HC := Lib.hid (cat_eq (a := ⟨(bitL (l.take j)).toArray⟩) (b := ⟨#[49]⟩) (l := bitL (l.take (j + 1))) (by rw [HS.out]; rfl))
          generalize (⟨(bitL (l.take j)).toArray⟩ : ByteArray) = sj at hbs HC
          have hq1 : ¬ 9223372036854775807 < j + 1 := by omega
          go_wp2
          go_round
          case rel => exact ⟨j + 1, by omega, by go_num, by rw [← HC.out]⟩
          case measure => simp [intOf]; omega
      · obtain rfl : j = m := by omega
        have htk : l.take j = l := List.take_of_length_le (by omega)
        rw [htk] at hbs ⊢
        have hie := isEmpty_size (⟨(bitL l).toArray⟩ : ByteArray)
        rw [hbs] at hie
        have HBL : Hid (bl (⟨(bitL l).toArray⟩ : ByteArray) = bitL l) := rfl
        have HLE := Lib.hid hlen
        generalize (⟨(bitL l).toArray⟩ : ByteArray) = sj at hbs hie HBL
        clear htk hbl hlen
        by_cases h0 : j = 0
        · rw [decide_eq_true h0] at hie
          have hl0 : l = [] := List.eq_nil_of_length_eq_zero (by have := HLE.out; omega)
          have HK : Hid ((if l = [] then [45] else bitL l) = bl (⟨#[45]⟩ : ByteArray)) := by show _ = _; rw [if_pos hl0]; rfl
          by_cases hn0 : n = 0
          · have t0 : (n == 0) = true := by simp [hn0]
            have HE2 : Hid (tx = (⟨#[99, 114, 97, 115, 104, 32]⟩ : ByteArray) ++ (⟨#[45]⟩ : ByteArray)) := by
              show _ = _
              rw [HE.out, if_pos hn0, List.append_nil, HK.out, cat_eq (l := wCrash ++ bl (⟨#[45]⟩ : ByteArray)) rfl]
            clear hn0
            go_wp2
            go_ret
            exact ⟨by rw [HE2.out]; rfl, hb3⟩
          · have t0 : (n == 0) = false := by simp [hn0]
            have HE2 : Hid (tx = (⟨#[99, 114, 97, 115, 104, 32]⟩ : ByteArray) ++ (⟨#[45]⟩ : ByteArray) ++ (⟨#[32]⟩ : ByteArray) ++ dn) := by
              show _ = _
              rw [HE.out, if_neg hn0, HK.out, cat_eq (a := (⟨#[99, 114, 97, 115, 104, 32]⟩ : ByteArray)) (l := wCrash ++ bl (⟨#[45]⟩ : ByteArray)) rfl, cat_eq (b := (⟨#[32]⟩ : ByteArray)) (l := wCrash ++ bl (⟨#[45]⟩ : ByteArray) ++ [32]) rfl, cat_eq (b := dn) (l := wCrash ++ bl (⟨#[45]⟩ : ByteArray) ++ [32] ++ digF n 999999999) (by rw [HLT.out]; rfl), List.append_assoc (wCrash ++ bl (⟨#[45]⟩ : ByteArray))]
              rfl
            have hq1 : ¬ 9223372036854775807 < 6 + 1 + 1 + dn.size := by omega
            have hq2 : ¬ 9223372036854775807 < 6 + 1 + 1 := by omega
            have hq3 : ¬ 9223372036854775807 < 6 + 1 := by omega
            clear hn0
            go_wp2
            go_ret
            exact ⟨by rw [HE2.out]; rfl, hb3⟩
        · rw [decide_eq_false h0] at hie
          have hl0 : ¬ l = [] := fun h => h0 (by have := HLE.out; rw [h] at this; exact this.symm)
          have HK : Hid ((if l = [] then [45] else bitL l) = bl sj) := by show _ = _; rw [if_neg hl0, HBL.out]
          by_cases hn0 : n = 0
          · have t0 : (n == 0) = true := by simp [hn0]
            have HE2 : Hid (tx = (⟨#[99, 114, 97, 115, 104, 32]⟩ : ByteArray) ++ sj) := by
              show _ = _
              rw [HE.out, if_pos hn0, List.append_nil, HK.out, cat_eq (l := wCrash ++ bl sj) rfl]
            clear hn0
            go_wp2
            go_ret
            exact ⟨by rw [HE2.out]; rfl, hb3⟩
          · have t0 : (n == 0) = false := by simp [hn0]
            have HE2 : Hid (tx = (⟨#[99, 114, 97, 115, 104, 32]⟩ : ByteArray) ++ sj ++ (⟨#[32]⟩ : ByteArray) ++ dn) := by
              show _ = _
              rw [HE.out, if_neg hn0, HK.out, cat_eq (a := (⟨#[99, 114, 97, 115, 104, 32]⟩ : ByteArray)) (l := wCrash ++ bl sj) rfl, cat_eq (b := (⟨#[32]⟩ : ByteArray)) (l := wCrash ++ bl sj ++ [32]) rfl, cat_eq (b := dn) (l := wCrash ++ bl sj ++ [32] ++ digF n 999999999) (by rw [HLT.out]; rfl), List.append_assoc (wCrash ++ bl sj)]
              rfl
            have hq1 : ¬ 9223372036854775807 < 6 + j + 1 + dn.size := by omega
            have hq2 : ¬ 9223372036854775807 < 6 + j + 1 := by omega
            have hq3 : ¬ 9223372036854775807 < 6 + j := by omega
            clear hn0
            go_wp2
            go_ret
            exact ⟨by rw [HE2.out]; rfl, hb3⟩
end Go.Proofs.YtggomjfllbljeaaGreatDoor
namespace Go.Proofs.YtggomjfllbljeaaGreatDoor
set_option linter.unusedVariables false
open Go Go.RowKit
theorem line_size (x : Ev) : (lineL x).size ≤ x.entry.size + x.keep.length + 60 := by
  obtain ⟨k, ag, en, n, l⟩ := x
  have h1 := digF_len n (most := 999999999) (by omega)
  have h2 := digF_len ag (most := 99) (by omega)
  dsimp only at h1 h2 ⊢
  have h3 : en.data.toList.length = en.size := Array.length_toList
  have e : (lineL ⟨k, ag, en, n, l⟩).size = (if k = 2 then wTick ++ digF n 999999999 else if k = 4 then wFuse ++ digF n 999999999 else if k = 3 then crashL ⟨k, ag, en, n, l⟩ (digF n 999999999) else if ag < 0 ∨ 99 < ag then [] else digF ag 99 ++ 32 :: en.data.toList).length := rfl
  rw [e]
  have w1 : wTick.length = 5 := rfl
  have w2 : wFuse.length = 5 := rfl
  have w3 : wCrash.length = 6 := rfl
  split
  · rw [List.length_append]; omega
  split
  · rw [List.length_append]; omega
  split
  · unfold crashL
    have : (bitL l).length = l.length := by unfold bitL; rw [List.length_map]
    rw [List.length_append, List.length_append]
    split <;> split <;> simp only [List.length_cons, List.length_nil] <;> omega
  split
  · simp
  · rw [List.length_append, List.length_cons]; omega
/-- What the document's Print hands back: the line, or none. -/
def RetPt (W : World) (o : Option ByteArray) (e : Ending) (W' : World) : Prop :=
  e = .returned (.tuple #[.string (o.getD ⟨#[]⟩), .bool o.isSome]) ∧ Below W.heap.size W W'
set_option maxRecDepth 100000 in
set_option maxHeartbeats 8000000 in
theorem rprint_any (x : Ev) {W : World} {lo hi : Nat} {A : Option Addr} {m c : Nat} (hx : Sl W lo hi tBool A m x.keep) (h1 : hi ≤ W.heap.size) (hm : m ≤ 5000) (he : x.entry.size ≤ 90000) :
    Calls Tryz.prog 9 #[.agg (evC x.kind x.agent x.entry x.n (.slice A m c))] W (RetPt W (printF lineL x)) := by
  have hl := hx.len
  have hs := line_size x
  have hP : printF lineL x = if parseF (lineL x) = some x then some (lineL x) else none := rfl
  have HP := Lib.hid hP
  have HX := Lib.hid hx
  have HT := Lib.hid (fun (V : World) (hV : Below W.heap.size W V) => rline_any x (c := c) (hx.below hV h1) (Nat.le_trans h1 hV.size) hm (by omega))
  have HS := Lib.hid (fun (y : Ev) (V : World) (A2 : Option Addr) (c2 : Nat) (hV : Below W.heap.size W V) (hy : Sl V 0 V.heap.size tBool A2 y.keep.length y.keep) (hl2 : y.keep.length ≤ 1000000) => rsame_any y x (c := c2) (c2 := c) hy (hx.below hV h1) (Nat.le_refl _) (Nat.le_trans h1 hV.size) hl2)
  have hs2 : (lineL x).size ≤ 100000 := by omega
  have HQ := Lib.hid (fun (V : World) => rparse_any (lineL x) hs2 V)
  have hkl : ∀ y, parseF (lineL x) = some y → y.keep.length ≤ 1000000 := fun y hy => by
    have := (parse_len hy).2
    omega
  have HKL := Lib.hid hkl
  clear hkl hP hx hl hs
  generalize printF lineL x = o at HP ⊢
  generalize lineL x = tx at HP HT hs2 HQ HKL
  generalize parseF tx = px at HP HQ HKL
  obtain ⟨k, ag, en, n, l⟩ := x
  dsimp only at HX he HT ⊢
  have HB := box_ev W (evC k ag en n (.slice A m c)) 24
  go_enter Tryz.func9, Tryz.ntmps9
  go_upto_region 1 with fail
  refine wp_world (fun V => Bx V W.heap.size (evC k ag en n (.slice A m c)) 24 ∧ Below W.heap.size W V) HB ?_
  clear HB
  rintro V1 ⟨b1, hb1⟩
  have c1 := b1.cells
  have z1 := b1.lt
  go_wp2_with fail
  refine (HT.out _ hb1).mono ?_
  rintro e V2 ⟨rfl, hb2⟩
  have b2 := b1.below hb2 z1
  have hb3 : Below W.heap.size W V2 := hb1.trans (hb2.mono (by omega))
  have z2 := b2.lt
  clear HT b1 hb1 hb2 c1
  go_wp2_with fail
  refine (HQ.out _).mono ?_
  rintro e V3 ⟨A3, c3, rfl, ho, hb4⟩
  have b3 := b2.below hb4 z2
  have hb5 : Below W.heap.size W V3 := hb3.trans (hb4.mono (by omega))
  have z3 := b3.lt
  clear HQ b2 hb3 hb4
  rcases px with _ | y
  · have HN : Hid (o = none) := by show _ = _; rw [HP.out]; rfl
    obtain rfl := HN.out
    clear HP
    go_wp2
    go_ret2
    exact ⟨rfl, hb5.alloc (by omega) _⟩
  · have hl3 := HKL.out y rfl
    have hsl := (ho.sl).more (lo' := 0) (hi' := V3.heap.size) (Nat.zero_le _) (Nat.le_refl _)
    clear HKL ho
    change Sl V3 0 V3.heap.size tBool A3 y.keep.length y.keep at hsl
    have HSL := Lib.hid hsl
    clear hsl
    have HPP : Hid (o = if y = ⟨k, ag, en, n, l⟩ then some tx else none) := by
      show _ = _
      rw [HP.out]
      by_cases h : y = ⟨k, ag, en, n, l⟩
      · rw [if_pos h, if_pos (by rw [h])]
      · rw [if_neg h, if_neg (fun h2 => h (Option.some.inj h2))]
    clear HP
    obtain ⟨k2, ag2, en2, n2, l2⟩ := y
    dsimp only [evOf, Option.getD_some, Option.isSome_some] at hl3 HSL ⊢
    have b4 := Bx.new V3 (evC k2 ag2 en2 n2 (.slice A3 l2.length c3)) 24
    go_upto_region 3 with fail
    refine wp_world (fun V => Bx V W.heap.size (evC k ag en n (.slice A m c)) 24 ∧ Bx V V3.heap.size (evC k2 ag2 en2 n2 (.slice A3 l2.length c3)) 24 ∧ Below W.heap.size W V ∧ Hid (Sl V 0 V.heap.size tBool A3 l2.length l2)) ⟨b3.alloc _, b4, hb5.alloc (by omega) _, (HSL.out.alloc (Nat.le_refl _) _).more (Nat.le_refl _) (by simp)⟩ ?_
    clear b3 b4 hb5 HSL
    rintro V4 ⟨b3, b4, hb5, HSL⟩
    have c1 := b3.cells
    have c2 := b4.cells
    have HSS := Lib.hid (HS.out ⟨k2, ag2, en2, n2, l2⟩ V4 A3 c3 hb5 HSL.out hl3)
    clear HS
    go_wp2_with fail
    refine HSS.out.mono ?_
    rintro e V5 ⟨rfl, hb6⟩
    have hb7 : Below W.heap.size W V5 := hb5.trans (hb6.mono hb5.size)
    by_cases hy : Ev.mk k2 ag2 en2 n2 l2 = Ev.mk k ag en n l
    · have HN : Hid (o = some tx) := by show _ = _; rw [HPP.out, if_pos hy]
      obtain rfl := HN.out
      have tq : decide (Ev.mk k2 ag2 en2 n2 l2 = Ev.mk k ag en n l) = true := decide_eq_true hy
      generalize decide (Ev.mk k2 ag2 en2 n2 l2 = Ev.mk k ag en n l) = dq at tq ⊢
      subst tq
      clear hy HPP
      go_wp2
      go_ret2
      exact ⟨rfl, hb7⟩
    · have HN : Hid (o = none) := by show _ = _; rw [HPP.out, if_neg hy]
      obtain rfl := HN.out
      have tq : decide (Ev.mk k2 ag2 en2 n2 l2 = Ev.mk k ag en n l) = false := decide_eq_false hy
      generalize decide (Ev.mk k2 ag2 en2 n2 l2 = Ev.mk k ag en n l) = dq at tq ⊢
      subst tq
      clear hy HPP
      go_wp2
      go_ret2
      exact ⟨rfl, hb7⟩
end Go.Proofs.YtggomjfllbljeaaGreatDoor
