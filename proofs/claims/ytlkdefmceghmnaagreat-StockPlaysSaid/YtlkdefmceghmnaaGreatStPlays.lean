/- StockPlays is true of every input. By program. -/
import Derived.Test.YtlkdefmceghmnaaGreatStPlay
import Derived.Test.YtlkdefmceghmnaaGreatStRw3
namespace Go.Proofs.YtlkdefmceghmnaaGreat
set_option linter.unusedVariables false
open Go Go.RowKit Go.Sort
set_option maxRecDepth 100000 in
set_option maxHeartbeats 16000000 in
theorem stockPlays_any (rl : List FlR) (A : Option Addr) (n c : Nat) (w : World) (hs : FlS w 0 w.heap.size A n rl) (sc : List SAct) (A2 : Option Addr) (n2 c2 : Nat) (ha : Sl w 0 w.heap.size tSA A2 n2 sc) :
    Calls Tryz.prog 6 #[.slice A n c, .slice A2 n2 c2] w (RetB w true) := by
  have HS := Lib.hid hs
  have HA := Lib.hid ha
  have HL := Lib.hid hs.sl.len
  have HOK := Lib.hid hs.sl.wf
  have hnl := eql_stk
  clear hs ha
  go_enter Tryz.func6, Tryz.ntmps6
  go_wp2_with fail
  refine (awake10_any w).mono ?_
  rintro e w1 ⟨rfl, h1⟩
  have H1 := Lib.hid h1
  have z1 := h1.size
  clear h1
  go_wp2_with fail
  refine (begun_any rl A n c w1 0 w.heap.size (HS.out.below H1.out (Nat.le_refl _)) z1).mono ?_
  rintro e w2 ⟨h2, hq⟩
  have H2 := Lib.hid (H1.out.trans (h2.mono z1))
  have z2 := H2.out.size
  clear h2
  rcases hq with ⟨_, rfl⟩ | ⟨hnew, lo, hi, t, p, b, rs, rfl, hSK, hz, htab⟩
  · go_wp2
    go_ret
    exact ⟨rfl, H2.out⟩
  have HR := Lib.hid htab.right
  have HT := Lib.hid htab
  have HFO := Lib.hid (show ∀ f ∈ rl.map (·.f), f.ok from fun f hf => by obtain ⟨r, hr, rfl⟩ := List.mem_map.1 hf; exact (HOK.out r hr).f)
  have HSM := Lib.hid (show ∀ r ∈ rl, r.n ≤ 100000 from fun r hr => by
    have h5 := right_few (HR.out _ (List.mem_map_of_mem hr))
    have h6 := (HOK.out r hr).len
    omega)
  have hn64 : n ≤ 64 := by
    have h5 := htab.most
    rw [List.length_map, HL.out] at h5
    exact h5
  have HSK := Lib.hid hSK
  have zb := hSK.hb
  have zbb := hSK.blt
  clear htab hSK hnew
  by_cases hm : 200 < n2
  · have hm' : (200 : Int) < n2 := by omega
    go_wp2
    go_ret
    exact ⟨rfl, H2.out⟩
  have hm' : (n2 : Int) ≤ 200 := by omega
  have hwb : w.heap.size ≤ b := by omega
  go_wp2
  go_loopw [6, 7, 8] (fun okv v i wr => ∃ (k : Nat) (A' : Option Addr) (n' c' : Nat) (m' : List Row10) (q' : Cel → Int), k ≤ n2 ∧ okv = .bool true ∧ i = .int .i64 k ∧ v = .slice A' n' c' ∧ n' ≤ k ∧ Hid (SK wr lo hi t p b rs q' ∧ RA wr w2.heap.size A' n' m' ∧ RQ m' q' ∧ NV (rl.map (·.f)) q') ∧ w2.heap.size ≤ wr.heap.size ∧ Below w.heap.size w wr) (fun _ _ i _ => n2 - (intOf i).toNat)
  case atStart => exact ⟨0, none, 0, 0, [], _, Nat.zero_le _, rfl, rfl, rfl, Nat.le_refl _, ⟨HSK.out, ⟨Sl.nil_ _, by omega⟩, RQ.nil_, NV.zero HR.out⟩, Nat.le_refl _, H2.out⟩
  case round =>
    clear HSK H1 H2
    obtain ⟨k, A', n', c', m', q', hk, rfl, rfl, rfl, hn', H, hzz, hb⟩ := hrel
    have HB := Lib.hid hb
    have zw := hb.size
    clear hb
    by_cases hlt : k < n2
    · obtain ⟨b0, o0, x, hA, _, hb0, hx, hok, d0, d1, d2, d3, d4, d5, d6⟩ := (Sl.below HA.out HB.out (Nat.le_refl _)).act_ hlt
      subst hA
      have i0 : (0 : Int) ≤ k := by omega
      have i1 : (k : Int) < n2 := by omega
      have hb0w : b0 < wr.heap.size := by omega
      have HFA := Lib.hid (show FA wr w.heap.size A n rl from ⟨HS.out.below HB.out (Nat.le_refl _), by omega, HSM.out, zw⟩)
      have HP := play_any HFA.out H.out.1 H.out.2.1 H.out.2.2.1 H.out.2.2.2 HR.out HT.out HFO.out c c' x hok (by omega) hzz zbb hwb
      unfold sactV at HP
      have HP := Lib.hid HP
      clear hx hok
      go_wp2_with fail
      refine HP.out.mono ?_
      rintro e w3 ⟨A3, n3, c3, m3, q3, rfl, H3, hn3, hk3⟩
      have HB3 := Lib.hid (hk3.below HB.out hwb zw)
      have hz3 := hk3.size
      have z3 := HB3.out.size
      clear hk3 HP HFA d0 d1 d2 d3 d4 d5 d6
      have hml : (m3.map (·.c)).length ≤ 1000 := by have h5 := H3.out.2.1.sl.len; rw [List.length_map]; omega
      go_wp2_with fail
      refine (legs_any H3.out.1 (m3.map (·.c)) hml (fun c _ hne => H3.out.2.2.1.cells c hne)).mono ?_
      rintro e w4 ⟨A4, n4, c4, out, rfl, ho4, hr4, hm4, h4⟩
      have HO4 := Lib.hid ho4
      have HEQ := Lib.hid (H3.out.2.2.1.legs (fun r hr => H3.out.2.1.sl.wf r hr) hr4 hm4)
      have H4 := Lib.hid h4
      have z4 := h4.size
      clear ho4 hr4 hm4 h4
      go_wp2_with fail
      refine (rLegs_any m3 A3 n3 c3 w4 w2.heap.size w3.heap.size (H3.out.2.1.sl.below H4.out (Nat.le_refl _)) (by omega) z4).mono ?_
      rintro e w5 ⟨A5, c5, rfl, ho5, h5⟩
      have HO5 := Lib.hid ho5
      have H5 := Lib.hid h5
      have z5 := h5.size
      clear ho5 h5
      rw [HEQ.out] at HO4
      have hl4 := HO4.out.sl.len
      have hl5 : n4 ≤ 100000 := by
        have h6 := legsR_len m3 []
        have h7 : (legsR m3).length ≤ 0 + m3.length := h6
        have h8 := H3.out.2.1.sl.len
        omega
      have HLL := Lib.hid (lawLegs_any (legsR m3) A4 A5 n4 c4 (legsR m3).length c5 w5 w3.heap.size w4.heap.size w4.heap.size w5.heap.size (HO4.out.sl.below H5.out (Nat.le_refl _)) HO5.out.sl hl5)
      generalize (legsR m3).length = n5 at HLL
      go_wp2_with fail
      refine HLL.out.mono ?_
      rintro e w6 ⟨rfl, h6⟩
      have H6 := Lib.hid (H4.out.trans ((H5.out.mono z4).trans (h6.mono (Nat.le_trans z4 z5))))
      clear h6
      go_wp2
      go_roundw
      case rel => exact ⟨k + 1, A3, n3, c3, m3, q3, by omega, rfl, by go_num, rfl, by omega, ⟨H3.out.1.keep H6.out, H3.out.2.1.keep H6.out, H3.out.2.2.1, H3.out.2.2.2⟩, Nat.le_trans hzz (Nat.le_trans hz3 H6.out.size), HB3.out.trans (H6.out.mono z3)⟩
      case measure => simp [intOf]; omega
    · obtain rfl : n2 = k := by omega
      go_wp2
      go_ret
      exact ⟨rfl, HB.out⟩
end Go.Proofs.YtlkdefmceghmnaaGreat
