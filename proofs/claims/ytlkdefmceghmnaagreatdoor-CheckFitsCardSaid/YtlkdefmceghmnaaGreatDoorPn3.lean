/- Package plan: the marks of a place: some text. By program. -/
import Derived.Test.YtlkdefmceghmnaaGreatDoorPn2
namespace Go.Proofs.YtlkdefmceghmnaaGreatDoor
set_option linter.unusedVariables false
open Go Go.RowKit
attribute [local go_sem] bat_get
set_option maxRecDepth 100000 in
set_option maxHeartbeats 16000000 in
theorem marks_any (r : PlR) (s : Sit) (w : World) (lo hi : Nat) (hok : r.ok) (hat : PlAt w lo hi r) (hhi : hi ≤ w.heap.size) (hne : r.ne ≤ 1000) (h1 : 1 ≤ r.p.letters.size) :
    Calls Tryz.prog 44 #[.agg #[.int .i64 r.p.first, .int .i64 r.p.last, .string r.p.letters, .slice r.Ae r.ne r.ce, .slice r.Ab r.nb r.cb], .agg #[.int .i64 s.row, .int .u8 s.let_]] w fun e w' => ∃ t : ByteArray, e = .returned (.string t) ∧ Below w.heap.size w w' := by
  have HAT := Lib.hid hat
  have hls := hok.letters
  unfold okStr at hls
  obtain ⟨sr, sl⟩ := s
  dsimp only
  have HB0 : (Bx ((w.alloc (.cells #[.int .i64 r.p.first, .int .i64 r.p.last, .string r.p.letters, .slice r.Ae r.ne r.ce, .slice r.Ab r.nb r.cb] 59)).alloc (.cells #[.int .i64 sr, .int .u8 sl] 82)) w.heap.size #[.int .i64 r.p.first, .int .i64 r.p.last, .string r.p.letters, .slice r.Ae r.ne r.ce, .slice r.Ab r.nb r.cb] 59 ∧ Bx ((w.alloc (.cells #[.int .i64 r.p.first, .int .i64 r.p.last, .string r.p.letters, .slice r.Ae r.ne r.ce, .slice r.Ab r.nb r.cb] 59)).alloc (.cells #[.int .i64 sr, .int .u8 sl] 82)) (w.heap.size + 1) #[.int .i64 sr, .int .u8 sl] 82) ∧ Below w.heap.size w ((w.alloc (.cells #[.int .i64 r.p.first, .int .i64 r.p.last, .string r.p.letters, .slice r.Ae r.ne r.ce, .slice r.Ab r.nb r.cb] 59)).alloc (.cells #[.int .i64 sr, .int .u8 sl] 82)) := by
    have h := two_boxes w #[.int .i64 r.p.first, .int .i64 r.p.last, .string r.p.letters, .slice r.Ae r.ne r.ce, .slice r.Ab r.nb r.cb] #[.int .i64 sr, .int .u8 sl] 59 82
    exact ⟨⟨h.1, h.2.1⟩, h.2.2.below⟩
  clear hat hok
  go_enter Tryz.func44, Tryz.ntmps44
  go_upto_region 1 with fail
  refine wp_world (fun V => (Bx V w.heap.size #[.int .i64 r.p.first, .int .i64 r.p.last, .string r.p.letters, .slice r.Ae r.ne r.ce, .slice r.Ab r.nb r.cb] 59 ∧ Bx V (w.heap.size + 1) #[.int .i64 sr, .int .u8 sl] 82) ∧ Below w.heap.size w V) HB0 ?_
  clear HB0
  rintro V ⟨⟨bP, bS⟩, hb⟩
  have BP := Lib.hid bP
  have BS := Lib.hid bS
  have HB := Lib.hid hb
  have c1 := bP.cells
  have c2 := bS.cells
  clear bP bS hb
  go_wp2_with fail
  refine (index_any r.p.letters sl V).mono ?_
  have hbd := atI_bd r.p.letters sl
  generalize atI r.p.letters sl = a at hbd
  rintro e V' ⟨rfl, rfl⟩
  obtain ⟨a0, a1⟩ := hbd
  generalize hlt : r.p.letters = lt at h1 hls a1 c1 BP
  clear hlt
  by_cases ha : a = -1
  · subst ha
    have t1 : ((-1 : Int) == (lt.size : Int) - 1) = false := by first | (simp; done) | (simp; omega)
    have t2 : decide ((-1 : Int) < (lt.size : Int) - 1) = true := by first | (simp; done) | (simp; omega)
    by_cases hd : bat lt 0 = 46
    · have t3 : (bat lt 0 == 46) = true := by simp [hd]
      clear hd
      go_wp2
      all_goals try (exfalso; omega; done)
      go_loopw [6, 8, 55] (fun tv _ i wr => ∃ (k : Nat) (t : ByteArray), k ≤ r.ne ∧ i = .int .i64 k ∧ tv = .string t ∧ t.size ≤ 2 + k ∧ wr = V) (fun _ _ i _ => r.ne - (intOf i).toNat)
      case atStart => exact ⟨0, _, Nat.zero_le _, rfl, rfl, by decide, rfl⟩
      case round =>
        obtain ⟨k, t, hk, rfl, rfl, hts, rfl⟩ := hrel
        have c1 := BP.out.cells
        have c2 := BS.out.cells
        by_cases hlt : k < r.ne
        · obtain ⟨b0, o0, x, hA, _, hb0, hx, hokx, d0⟩ := (HAT.out.ex.below HB.out hhi).int_ hlt
          have i0 : (0 : Int) ≤ k := by omega
          have i1 : (k : Int) < r.ne := by omega
          have hs1 : (⟨#[69]⟩ : ByteArray).size = 1 := rfl
          have hta : (t ++ ⟨#[69]⟩ : ByteArray).size = t.size + 1 := by rw [bytes_append_size]; rfl
          by_cases hq : x = sr
          · have t9 : (x == sr) = true := by simp [hq]
            clear hq
            go_wp2
            all_goals first | exact ⟨⟨k + 1, _, by omega, by go_num, rfl, by omega, (by trivial)⟩, by simp [intOf]; omega⟩ | (exfalso; omega)
          · have t9 : (x == sr) = false := by simp [hq]
            clear hq
            go_wp2
            all_goals first | exact ⟨⟨k + 1, _, by omega, by go_num, rfl, by omega, (by trivial)⟩, by simp [intOf]; omega⟩ | (exfalso; omega)
        · obtain rfl : r.ne = k := by omega
          go_wp2
          go_ret
          exact ⟨_, rfl, HB.out⟩
    · have t3 : (bat lt 0 == 46) = false := by simp [hd]
      clear hd
      go_wp2
      all_goals try (exfalso; omega; done)
      go_loopw [6, 8, 55] (fun tv _ i wr => ∃ (k : Nat) (t : ByteArray), k ≤ r.ne ∧ i = .int .i64 k ∧ tv = .string t ∧ t.size ≤ 2 + k ∧ wr = V) (fun _ _ i _ => r.ne - (intOf i).toNat)
      case atStart => exact ⟨0, _, Nat.zero_le _, rfl, rfl, by decide, rfl⟩
      case round =>
        obtain ⟨k, t, hk, rfl, rfl, hts, rfl⟩ := hrel
        have c1 := BP.out.cells
        have c2 := BS.out.cells
        by_cases hlt : k < r.ne
        · obtain ⟨b0, o0, x, hA, _, hb0, hx, hokx, d0⟩ := (HAT.out.ex.below HB.out hhi).int_ hlt
          have i0 : (0 : Int) ≤ k := by omega
          have i1 : (k : Int) < r.ne := by omega
          have hs1 : (⟨#[69]⟩ : ByteArray).size = 1 := rfl
          have hta : (t ++ ⟨#[69]⟩ : ByteArray).size = t.size + 1 := by rw [bytes_append_size]; rfl
          by_cases hq : x = sr
          · have t9 : (x == sr) = true := by simp [hq]
            clear hq
            go_wp2
            all_goals first | exact ⟨⟨k + 1, _, by omega, by go_num, rfl, by omega, (by trivial)⟩, by simp [intOf]; omega⟩ | (exfalso; omega)
          · have t9 : (x == sr) = false := by simp [hq]
            clear hq
            go_wp2
            all_goals first | exact ⟨⟨k + 1, _, by omega, by go_num, rfl, by omega, (by trivial)⟩, by simp [intOf]; omega⟩ | (exfalso; omega)
        · obtain rfl : r.ne = k := by omega
          go_wp2
          go_ret
          exact ⟨_, rfl, HB.out⟩
  obtain ⟨n, rfl⟩ := Int.eq_ofNat_of_zero_le (show 0 ≤ a by omega)
  have hn1 : n < lt.size := by omega
  rcases n with _ | m
  · have e1 : ((0 : Nat) : Int) + 1 = ((1 : Nat) : Int) := rfl
    by_cases hz : lt.size = 1
    · have t1 : (((0 : Nat) : Int) == (lt.size : Int) - 1) = true := by first | (simp; done) | (simp; omega)
      have t2 : decide (((0 : Nat) : Int) < (lt.size : Int) - 1) = false := by first | (simp; done) | (simp; omega)
      have t2' : decide ((0 : Int) < (lt.size : Int) - 1) = false := by first | (simp; done) | (simp; omega)
      go_wp2
      all_goals try (exfalso; omega; done)
      go_loopw [6, 8, 55] (fun tv _ i wr => ∃ (k : Nat) (t : ByteArray), k ≤ r.ne ∧ i = .int .i64 k ∧ tv = .string t ∧ t.size ≤ 2 + k ∧ wr = V) (fun _ _ i _ => r.ne - (intOf i).toNat)
      case atStart => exact ⟨0, _, Nat.zero_le _, rfl, rfl, by decide, rfl⟩
      case round =>
        obtain ⟨k, t, hk, rfl, rfl, hts, rfl⟩ := hrel
        have c1 := BP.out.cells
        have c2 := BS.out.cells
        by_cases hlt : k < r.ne
        · obtain ⟨b0, o0, x, hA, _, hb0, hx, hokx, d0⟩ := (HAT.out.ex.below HB.out hhi).int_ hlt
          have i0 : (0 : Int) ≤ k := by omega
          have i1 : (k : Int) < r.ne := by omega
          have hs1 : (⟨#[69]⟩ : ByteArray).size = 1 := rfl
          have hta : (t ++ ⟨#[69]⟩ : ByteArray).size = t.size + 1 := by rw [bytes_append_size]; rfl
          by_cases hq : x = sr
          · have t9 : (x == sr) = true := by simp [hq]
            clear hq
            go_wp2
            all_goals first | exact ⟨⟨k + 1, _, by omega, by go_num, rfl, by omega, (by trivial)⟩, by simp [intOf]; omega⟩ | (exfalso; omega)
          · have t9 : (x == sr) = false := by simp [hq]
            clear hq
            go_wp2
            all_goals first | exact ⟨⟨k + 1, _, by omega, by go_num, rfl, by omega, (by trivial)⟩, by simp [intOf]; omega⟩ | (exfalso; omega)
        · obtain rfl : r.ne = k := by omega
          go_wp2
          go_ret
          exact ⟨_, rfl, HB.out⟩
    · have t1 : (((0 : Nat) : Int) == (lt.size : Int) - 1) = false := by first | (simp; done) | (simp; omega)
      have t2 : decide (((0 : Nat) : Int) < (lt.size : Int) - 1) = true := by first | (simp; done) | (simp; omega)
      have t2' : decide ((0 : Int) < (lt.size : Int) - 1) = true := by first | (simp; done) | (simp; omega)
      have l1 : 1 < lt.size := by omega
      by_cases hd : bat lt 1 = 46
      · have t3 : (bat lt 1 == 46) = true := by simp [hd]
        clear hd
        go_wp2
        all_goals try (exfalso; omega; done)
        go_loopw [6, 8, 55] (fun tv _ i wr => ∃ (k : Nat) (t : ByteArray), k ≤ r.ne ∧ i = .int .i64 k ∧ tv = .string t ∧ t.size ≤ 2 + k ∧ wr = V) (fun _ _ i _ => r.ne - (intOf i).toNat)
        case atStart => exact ⟨0, _, Nat.zero_le _, rfl, rfl, by decide, rfl⟩
        case round =>
          obtain ⟨k, t, hk, rfl, rfl, hts, rfl⟩ := hrel
          have c1 := BP.out.cells
          have c2 := BS.out.cells
          by_cases hlt : k < r.ne
          · obtain ⟨b0, o0, x, hA, _, hb0, hx, hokx, d0⟩ := (HAT.out.ex.below HB.out hhi).int_ hlt
            have i0 : (0 : Int) ≤ k := by omega
            have i1 : (k : Int) < r.ne := by omega
            have hs1 : (⟨#[69]⟩ : ByteArray).size = 1 := rfl
            have hta : (t ++ ⟨#[69]⟩ : ByteArray).size = t.size + 1 := by rw [bytes_append_size]; rfl
            by_cases hq : x = sr
            · have t9 : (x == sr) = true := by simp [hq]
              clear hq
              go_wp2
              all_goals first | exact ⟨⟨k + 1, _, by omega, by go_num, rfl, by omega, (by trivial)⟩, by simp [intOf]; omega⟩ | (exfalso; omega)
            · have t9 : (x == sr) = false := by simp [hq]
              clear hq
              go_wp2
              all_goals first | exact ⟨⟨k + 1, _, by omega, by go_num, rfl, by omega, (by trivial)⟩, by simp [intOf]; omega⟩ | (exfalso; omega)
          · obtain rfl : r.ne = k := by omega
            go_wp2
            go_ret
            exact ⟨_, rfl, HB.out⟩
      · have t3 : (bat lt 1 == 46) = false := by simp [hd]
        clear hd
        go_wp2
        all_goals try (exfalso; omega; done)
        go_loopw [6, 8, 55] (fun tv _ i wr => ∃ (k : Nat) (t : ByteArray), k ≤ r.ne ∧ i = .int .i64 k ∧ tv = .string t ∧ t.size ≤ 2 + k ∧ wr = V) (fun _ _ i _ => r.ne - (intOf i).toNat)
        case atStart => exact ⟨0, _, Nat.zero_le _, rfl, rfl, by decide, rfl⟩
        case round =>
          obtain ⟨k, t, hk, rfl, rfl, hts, rfl⟩ := hrel
          have c1 := BP.out.cells
          have c2 := BS.out.cells
          by_cases hlt : k < r.ne
          · obtain ⟨b0, o0, x, hA, _, hb0, hx, hokx, d0⟩ := (HAT.out.ex.below HB.out hhi).int_ hlt
            have i0 : (0 : Int) ≤ k := by omega
            have i1 : (k : Int) < r.ne := by omega
            have hs1 : (⟨#[69]⟩ : ByteArray).size = 1 := rfl
            have hta : (t ++ ⟨#[69]⟩ : ByteArray).size = t.size + 1 := by rw [bytes_append_size]; rfl
            by_cases hq : x = sr
            · have t9 : (x == sr) = true := by simp [hq]
              clear hq
              go_wp2
              all_goals first | exact ⟨⟨k + 1, _, by omega, by go_num, rfl, by omega, (by trivial)⟩, by simp [intOf]; omega⟩ | (exfalso; omega)
            · have t9 : (x == sr) = false := by simp [hq]
              clear hq
              go_wp2
              all_goals first | exact ⟨⟨k + 1, _, by omega, by go_num, rfl, by omega, (by trivial)⟩, by simp [intOf]; omega⟩ | (exfalso; omega)
          · obtain rfl : r.ne = k := by omega
            go_wp2
            go_ret
            exact ⟨_, rfl, HB.out⟩
  · have e1 : ((m + 1 : Nat) : Int) - 1 = (m : Int) := by omega
    have e2 : ((m + 1 : Nat) : Int) + 1 = ((m + 2 : Nat) : Int) := by omega
    have t0 : (((m + 1 : Nat) : Int) == 0) = false := by first | (simp; done) | (simp; omega)
    have tp : decide (((m + 1 : Nat) : Int) > 0) = true := by first | (simp; done) | (simp; omega)
    have lm : m < lt.size := by omega
    by_cases hz : lt.size = m + 2
    · have t1 : (((m + 1 : Nat) : Int) == (lt.size : Int) - 1) = true := by first | (simp; done) | (simp; omega)
      have t2 : decide (((m + 1 : Nat) : Int) < (lt.size : Int) - 1) = false := by first | (simp; done) | (simp; omega)
      by_cases hd : bat lt m = 46
      · have t3 : (bat lt m == 46) = true := by simp [hd]
        clear hd
        go_wp2
        all_goals try (exfalso; omega; done)
        go_loopw [6, 8, 55] (fun tv _ i wr => ∃ (k : Nat) (t : ByteArray), k ≤ r.ne ∧ i = .int .i64 k ∧ tv = .string t ∧ t.size ≤ 2 + k ∧ wr = V) (fun _ _ i _ => r.ne - (intOf i).toNat)
        case atStart => exact ⟨0, _, Nat.zero_le _, rfl, rfl, by decide, rfl⟩
        case round =>
          obtain ⟨k, t, hk, rfl, rfl, hts, rfl⟩ := hrel
          have c1 := BP.out.cells
          have c2 := BS.out.cells
          by_cases hlt : k < r.ne
          · obtain ⟨b0, o0, x, hA, _, hb0, hx, hokx, d0⟩ := (HAT.out.ex.below HB.out hhi).int_ hlt
            have i0 : (0 : Int) ≤ k := by omega
            have i1 : (k : Int) < r.ne := by omega
            have hs1 : (⟨#[69]⟩ : ByteArray).size = 1 := rfl
            have hta : (t ++ ⟨#[69]⟩ : ByteArray).size = t.size + 1 := by rw [bytes_append_size]; rfl
            by_cases hq : x = sr
            · have t9 : (x == sr) = true := by simp [hq]
              clear hq
              go_wp2
              all_goals first | exact ⟨⟨k + 1, _, by omega, by go_num, rfl, by omega, (by trivial)⟩, by simp [intOf]; omega⟩ | (exfalso; omega)
            · have t9 : (x == sr) = false := by simp [hq]
              clear hq
              go_wp2
              all_goals first | exact ⟨⟨k + 1, _, by omega, by go_num, rfl, by omega, (by trivial)⟩, by simp [intOf]; omega⟩ | (exfalso; omega)
          · obtain rfl : r.ne = k := by omega
            go_wp2
            go_ret
            exact ⟨_, rfl, HB.out⟩
      · have t3 : (bat lt m == 46) = false := by simp [hd]
        clear hd
        go_wp2
        all_goals try (exfalso; omega; done)
        go_loopw [6, 8, 55] (fun tv _ i wr => ∃ (k : Nat) (t : ByteArray), k ≤ r.ne ∧ i = .int .i64 k ∧ tv = .string t ∧ t.size ≤ 2 + k ∧ wr = V) (fun _ _ i _ => r.ne - (intOf i).toNat)
        case atStart => exact ⟨0, _, Nat.zero_le _, rfl, rfl, by decide, rfl⟩
        case round =>
          obtain ⟨k, t, hk, rfl, rfl, hts, rfl⟩ := hrel
          have c1 := BP.out.cells
          have c2 := BS.out.cells
          by_cases hlt : k < r.ne
          · obtain ⟨b0, o0, x, hA, _, hb0, hx, hokx, d0⟩ := (HAT.out.ex.below HB.out hhi).int_ hlt
            have i0 : (0 : Int) ≤ k := by omega
            have i1 : (k : Int) < r.ne := by omega
            have hs1 : (⟨#[69]⟩ : ByteArray).size = 1 := rfl
            have hta : (t ++ ⟨#[69]⟩ : ByteArray).size = t.size + 1 := by rw [bytes_append_size]; rfl
            by_cases hq : x = sr
            · have t9 : (x == sr) = true := by simp [hq]
              clear hq
              go_wp2
              all_goals first | exact ⟨⟨k + 1, _, by omega, by go_num, rfl, by omega, (by trivial)⟩, by simp [intOf]; omega⟩ | (exfalso; omega)
            · have t9 : (x == sr) = false := by simp [hq]
              clear hq
              go_wp2
              all_goals first | exact ⟨⟨k + 1, _, by omega, by go_num, rfl, by omega, (by trivial)⟩, by simp [intOf]; omega⟩ | (exfalso; omega)
          · obtain rfl : r.ne = k := by omega
            go_wp2
            go_ret
            exact ⟨_, rfl, HB.out⟩
    · have t1 : (((m + 1 : Nat) : Int) == (lt.size : Int) - 1) = false := by first | (simp; done) | (simp; omega)
      have t2 : decide (((m + 1 : Nat) : Int) < (lt.size : Int) - 1) = true := by first | (simp; done) | (simp; omega)
      have l2 : m + 2 < lt.size := by omega
      by_cases hd : bat lt m = 46
      · have t3 : (bat lt m == 46) = true := by simp [hd]
        clear hd
        go_wp2
        all_goals try (exfalso; omega; done)
        go_loopw [6, 8, 55] (fun tv _ i wr => ∃ (k : Nat) (t : ByteArray), k ≤ r.ne ∧ i = .int .i64 k ∧ tv = .string t ∧ t.size ≤ 2 + k ∧ wr = V) (fun _ _ i _ => r.ne - (intOf i).toNat)
        case atStart => exact ⟨0, _, Nat.zero_le _, rfl, rfl, by decide, rfl⟩
        case round =>
          obtain ⟨k, t, hk, rfl, rfl, hts, rfl⟩ := hrel
          have c1 := BP.out.cells
          have c2 := BS.out.cells
          by_cases hlt : k < r.ne
          · obtain ⟨b0, o0, x, hA, _, hb0, hx, hokx, d0⟩ := (HAT.out.ex.below HB.out hhi).int_ hlt
            have i0 : (0 : Int) ≤ k := by omega
            have i1 : (k : Int) < r.ne := by omega
            have hs1 : (⟨#[69]⟩ : ByteArray).size = 1 := rfl
            have hta : (t ++ ⟨#[69]⟩ : ByteArray).size = t.size + 1 := by rw [bytes_append_size]; rfl
            by_cases hq : x = sr
            · have t9 : (x == sr) = true := by simp [hq]
              clear hq
              go_wp2
              all_goals first | exact ⟨⟨k + 1, _, by omega, by go_num, rfl, by omega, (by trivial)⟩, by simp [intOf]; omega⟩ | (exfalso; omega)
            · have t9 : (x == sr) = false := by simp [hq]
              clear hq
              go_wp2
              all_goals first | exact ⟨⟨k + 1, _, by omega, by go_num, rfl, by omega, (by trivial)⟩, by simp [intOf]; omega⟩ | (exfalso; omega)
          · obtain rfl : r.ne = k := by omega
            go_wp2
            go_ret
            exact ⟨_, rfl, HB.out⟩
      · have t3 : (bat lt m == 46) = false := by simp [hd]
        clear hd
        by_cases hd : bat lt (m + 2) = 46
        · have t4 : (bat lt (m + 2) == 46) = true := by simp [hd]
          clear hd
          go_wp2
          all_goals try (exfalso; omega; done)
          go_loopw [6, 8, 55] (fun tv _ i wr => ∃ (k : Nat) (t : ByteArray), k ≤ r.ne ∧ i = .int .i64 k ∧ tv = .string t ∧ t.size ≤ 2 + k ∧ wr = V) (fun _ _ i _ => r.ne - (intOf i).toNat)
          case atStart => exact ⟨0, _, Nat.zero_le _, rfl, rfl, by decide, rfl⟩
          case round =>
            obtain ⟨k, t, hk, rfl, rfl, hts, rfl⟩ := hrel
            have c1 := BP.out.cells
            have c2 := BS.out.cells
            by_cases hlt : k < r.ne
            · obtain ⟨b0, o0, x, hA, _, hb0, hx, hokx, d0⟩ := (HAT.out.ex.below HB.out hhi).int_ hlt
              have i0 : (0 : Int) ≤ k := by omega
              have i1 : (k : Int) < r.ne := by omega
              have hs1 : (⟨#[69]⟩ : ByteArray).size = 1 := rfl
              have hta : (t ++ ⟨#[69]⟩ : ByteArray).size = t.size + 1 := by rw [bytes_append_size]; rfl
              by_cases hq : x = sr
              · have t9 : (x == sr) = true := by simp [hq]
                clear hq
                go_wp2
                all_goals first | exact ⟨⟨k + 1, _, by omega, by go_num, rfl, by omega, (by trivial)⟩, by simp [intOf]; omega⟩ | (exfalso; omega)
              · have t9 : (x == sr) = false := by simp [hq]
                clear hq
                go_wp2
                all_goals first | exact ⟨⟨k + 1, _, by omega, by go_num, rfl, by omega, (by trivial)⟩, by simp [intOf]; omega⟩ | (exfalso; omega)
            · obtain rfl : r.ne = k := by omega
              go_wp2
              go_ret
              exact ⟨_, rfl, HB.out⟩
        · have t4 : (bat lt (m + 2) == 46) = false := by simp [hd]
          clear hd
          go_wp2
          all_goals try (exfalso; omega; done)
          go_loopw [6, 8, 55] (fun tv _ i wr => ∃ (k : Nat) (t : ByteArray), k ≤ r.ne ∧ i = .int .i64 k ∧ tv = .string t ∧ t.size ≤ 2 + k ∧ wr = V) (fun _ _ i _ => r.ne - (intOf i).toNat)
          case atStart => exact ⟨0, _, Nat.zero_le _, rfl, rfl, by decide, rfl⟩
          case round =>
            obtain ⟨k, t, hk, rfl, rfl, hts, rfl⟩ := hrel
            have c1 := BP.out.cells
            have c2 := BS.out.cells
            by_cases hlt : k < r.ne
            · obtain ⟨b0, o0, x, hA, _, hb0, hx, hokx, d0⟩ := (HAT.out.ex.below HB.out hhi).int_ hlt
              have i0 : (0 : Int) ≤ k := by omega
              have i1 : (k : Int) < r.ne := by omega
              have hs1 : (⟨#[69]⟩ : ByteArray).size = 1 := rfl
              have hta : (t ++ ⟨#[69]⟩ : ByteArray).size = t.size + 1 := by rw [bytes_append_size]; rfl
              by_cases hq : x = sr
              · have t9 : (x == sr) = true := by simp [hq]
                clear hq
                go_wp2
                all_goals first | exact ⟨⟨k + 1, _, by omega, by go_num, rfl, by omega, (by trivial)⟩, by simp [intOf]; omega⟩ | (exfalso; omega)
              · have t9 : (x == sr) = false := by simp [hq]
                clear hq
                go_wp2
                all_goals first | exact ⟨⟨k + 1, _, by omega, by go_num, rfl, by omega, (by trivial)⟩, by simp [intOf]; omega⟩ | (exfalso; omega)
            · obtain rfl : r.ne = k := by omega
              go_wp2
              go_ret
              exact ⟨_, rfl, HB.out⟩
end Go.Proofs.YtlkdefmceghmnaaGreatDoor
