/- FlightWays is true of every input. -/
import Derived.Test.YtodholjbefifeaaDoorFlRLinks
import Derived.Test.YtodholjbefifeaaDoorFlKq
import Derived.Test.YtodholjbefifeaaDoorFlSmall
import Derived.Test.YtodholjbefifeaaDoorFlAwake2
namespace Go.Proofs.YtodholjbefifeaaDoor
set_option linter.unusedVariables false
open Go Go.RowKit Go.Sort
set_option maxRecDepth 100000 in
set_option maxHeartbeats 8000000 in
theorem flightWays_any (rl : List FlR) (A : Option Addr) (n c : Nat) (d : Int) (fr to_ : ByteArray) (w : World) (hs : FlS w 0 w.heap.size A n rl) (hn : n ≤ 9223372036854775807) :
    Calls Tryd.prog 4 #[.slice A n c, .int .i64 d, .string fr, .string to_] w (RetB w true) := by
  have HS := Lib.hid hs
  have HL := Lib.hid hs.sl.len
  have hnl := eql_tab
  have hnl0 := eql_tab0
  clear hs
  go_enter Tryd.func4, Tryd.ntmps4
  go_wp2_with fail
  refine (awake_any w).mono ?_
  rintro e w1 ⟨rfl, hb1⟩
  go_wp2_with fail
  refine (few_any rl A n c w1 0 w.heap.size (HS.out.below hb1 (Nat.le_refl _)) hn).mono ?_
  rintro e w2 ⟨q, rfl, rfl, hfew⟩
  rcases q with _ | _
  · go_wp2
    go_ret
    exact ⟨rfl, hb1⟩
  obtain ⟨hn3, hsm3⟩ := hfew rfl
  have HSM : Hid (∀ r ∈ rl, r.n ≤ 100000) := fun r hr => Nat.le_trans (hsm3 r hr) (by omega)
  clear hfew hsm3
  go_wp2_with fail
  refine (copied_law rl A n c w1 0 w.heap.size (HS.out.below hb1 (Nat.le_refl _)) (by omega) hb1.size HSM.out).mono ?_
  rintro e w2 ⟨A2, n2, c2, mine, rfl, ho2, hm2, h2⟩
  have hb2 := hb1.trans (h2.mono hb1.size)
  have hn2 : n2 ≤ 3000 := by have h5 := congrArg List.length hm2; have h6 := ho2.own.sl.len; have h7 := HL.out; simp only [List.length_map] at h5; omega
  have hsm2 : ∀ r ∈ mine, r.n ≤ 100000 := fun r hr => by
    have h5 : r.f ∈ rl.map (·.f) := by rw [← hm2]; exact List.mem_map_of_mem hr
    obtain ⟨r', hr', e'⟩ := List.mem_map.1 h5
    have h6 := (ho2.own.wf r hr).len
    have h7 := (HS.out.sl.wf r' hr').len
    rw [e', h6] at h7
    rw [h7]
    exact HSM.out r' hr'
  go_wp2_with fail
  refine (new_any mine A2 n2 c2 w2 w1.heap.size w2.heap.size ho2.sl (by omega) (Nat.le_refl _) hsm2).mono ?_
  rintro e w3 hq
  unfold NewQ at hq
  rw [hm2] at hq
  obtain ⟨h3, hq⟩ := hq
  have hb3 := hb2.trans (h3.mono hb2.size)
  have hz3 := hb3.size
  clear hsm2 hm2 ho2
  rcases hq with ⟨hbad, rfl⟩ | ⟨hnew, p, rs, rfl, ht, htab⟩
  · generalize hcode : newF (rl.map (·.f)) = code at hbad
    have HC := Lib.hid hcode
    have hbad' : (code != 0) = true := by simpa using hbad
    clear hcode hbad
    go_wp2_with fail
    refine (rnew_any rl A n c w3 0 w.heap.size (HS.out.below hb3 (Nat.le_refl _)) (by omega) hz3 HSM.out).mono ?_
    rintro e w4 ⟨rfl, h4⟩
    rw [HC.out]
    go_wp2
    go_ret
    exact ⟨ret_bool rfl, hb3.trans (h4.mono hz3)⟩
  · clear hnew
    have HTAB := Lib.hid htab
    clear htab
    clear hb1 hb2 h2 h3
    have hlo : w.heap.size ≤ w3.heap.size := hz3
    go_wp2_with fail
    refine (tbetween_any rs p _ d fr to_ w3 ht HTAB.out.nokL).mono ?_
    rintro e w5 ⟨A5, n5, c5, out5, rfl, ho5, hm5, h5⟩
    have ht5 := ht.keep h5
    have hb5 := hb3.trans (h5.mono hz3)
    have sm5 : ∀ r ∈ out5, r.n ≤ 100000 := fun r hr => small_of ht (ho5.own.wf r hr) (by
      have : r.f ∈ betwF (rs.map (·.f)) d fr to_ := by rw [← hm5]; exact List.mem_map_of_mem hr
      exact ((mem_betw HTAB.out.nokL).1 this).1)
    have ln5 : n5 ≤ 100000 := len_le_of (rs := rs) hm5 (Nat.le_trans (betw_len _ _ _ _) (by rw [List.length_map]; exact Nat.le_refl _)) ho5.own.sl.len ht.most
    go_wp2_with fail
    refine (rbetween_any rl A n c d fr to_ w5 0 w.heap.size (HS.out.below hb5 (Nat.le_refl _)) (by omega) hb5.size).mono ?_
    rintro e w6 ⟨A6, c6, rfl, ho6, h6⟩
    have hb6 := hb5.trans (h6.mono hb5.size)
    have hmB : ∀ x, x ∈ allL (byF ltT) (rl.filter fun r => wayB d fr to_ r.f) → x ∈ rl := fun x hx => (List.mem_filter.1 ((mem_allL _ _ _).1 hx)).1
    go_wp2_with fail
    refine (same_own (c := c5) (c' := c6) ho5 h6 ho6 (fun x hx => ((HS.out.cl x (hmB x hx)).below hb6 (Nat.le_refl _)).more (Nat.le_refl _) hlo) h5.size ln5 (by rw [len_allL]; have := List.length_filter_le (fun r : FlR => wayB d fr to_ r.f) rl; have := HL.out; omega) sm5 (fun x hx => HSM.out x (hmB x hx)) (by
      rw [hm5, allL_f, filter_f (wayB d fr to_)]
      exact betw_same HTAB.out.nok HTAB.out.nokL (fun x => HTAB.out.mem x) d fr to_)).mono ?_
    rintro e w7 ⟨rfl, h7⟩
    have hb7 := (h5.trans (h6.mono h5.size)).trans h7
    replace ht := ht.keep hb7
    replace hb3 := hb3.trans (hb7.mono hz3)
    have hz7 := hb3.size
    clear ho5 hm5 sm5 ln5 ho6 h5 h6 h7 hb7 ht5 hb5 hb6 hmB
    go_wp2_with fail
    refine (tlinks_any rs p _ d fr to_ w7 ht HTAB.out.nokL (TB.right HTAB.out)).mono ?_
    rintro e w4 ⟨A4, n4, c4, got, rfl, ho4, hm4, h4⟩
    have hb4 := hb3.trans (h4.mono hb3.size)
    have hz4 := hb4.size
    have HM := Lib.hid hm4
    have HG := Lib.hid ho4
    have smG : Hid (∀ r ∈ flatP got, r.n ≤ 100000) := fun r hr => by
      obtain ⟨x, hx, hxr⟩ := mem_flatP.1 hr
      have hw := ho4.own.wf x hx
      have hl : parF x ∈ linksF (rs.map (·.f)) d fr to_ := by rw [← hm4]; exact List.mem_map_of_mem hx
      obtain ⟨⟨q1, _⟩, ⟨q2, _⟩, _⟩ := (mem_links HTAB.out.nokL).1 hl
      rcases hxr with rfl | rfl
      · exact small_of ht hw.1 q1
      · exact small_of ht hw.2 q2
    go_wp2_with fail
    refine (rlinks_any rl A n c d fr to_ w4 0 w.heap.size (HS.out.below hb4 (Nat.le_refl _)) hn3 hz4 (fun r hr => HTAB.out.right _ (List.mem_map_of_mem hr))).mono ?_
    rintro e w8 ⟨A8, c8, rfl, ho8, h8⟩
    have hz8 := h8.size
    have hb8 := hb4.trans (h8.mono hz4)
    have HW := Lib.hid ho8
    have HEQ : Hid (got.map parF = (rlG (dayR rl d) (dayR rl d) fr to_).map parF) := by
      show got.map parF = _
      rw [hm4, rlinks_f]
      exact links_same HTAB.out.nok HTAB.out.nokL (fun x => HTAB.out.mem x) d fr to_
    have HCW : Hid (∀ r ∈ flatP (rlG (dayR rl d) (dayR rl d) fr to_), ClAt w8 0 w7.heap.size r) := fun r hr => ((HS.out.cl r (mem_rlG hr)).below hb8 (Nat.le_refl _)).more (Nat.le_refl _) hz7
    have HLN : Hid ((rlG (dayR rl d) (dayR rl d) fr to_).length = n4) := by
      have q1 := congrArg List.length HEQ.out
      rw [List.length_map, List.length_map] at q1
      exact q1.symm.trans ho4.own.sl.len
    have HB8 := Lib.hid hb8
    have H48 := Lib.hid h8
    have H74 := Lib.hid h4.size
    generalize rlG (dayR rl d) (dayR rl d) fr to_ = want at HW HEQ HCW HLN ⊢
    have hl8 : want.length = n4 := HLN.out
    rw [hl8] at HW ⊢
    have hn4 : n4 ≤ 100000 := by
      have h5 := congrArg List.length hm4
      have h6 := ho4.own.sl.len
      have h7 : (linksF (rs.map (·.f)) d fr to_).length ≤ 64 * 64 := by
        refine Nat.le_trans (links_len _ _ _ _) ?_
        rw [List.length_map]
        exact Nat.mul_le_mul ht.most ht.most
      simp only [List.length_map] at h5
      omega
    clear ht hb3 hm4 ho4 hb4 h4 ho8 h8 hb8 hl8
    have t0 : ((n4 : Int) != n4) = false := by simp
    go_wp2
    go_loopw [13] (fun i wr => ∃ k : Nat, k ≤ n4 ∧ i = .int .i64 k ∧ Kq (Tch (flatP got) (2 * k)) w8 wr) (fun i _ => n4 - (intOf i).toNat)
    case atStart => exact ⟨0, by omega, rfl, Kq.refl _ _⟩
    case round =>
      obtain ⟨k, hk, rfl, hK⟩ := hrel
      by_cases hlt : k < n4
      · obtain ⟨b0, o0, x, y, hA, _, hb0, hx, _⟩ := Sl.par_ HG.out.own.sl hlt
        obtain ⟨b1, o1, x', y', hA1, _, hb1, hx', _⟩ := Sl.par_ HW.out.sl hlt
        have i0 : (0 : Int) ≤ k := by omega
        have i1 : (k : Int) < n4 := by omega
        have t1 : decide ((k : Int) < n4) = true := by simp; omega
        have hpq : parF (x, y) = parF (x', y') := by
          have q1 : (got.map parF)[k]? = some (parF (x, y)) := by rw [List.getElem?_map, hx.out]; rfl
          have q2 : (want.map parF)[k]? = some (parF (x', y')) := by rw [List.getElem?_map, hx'.out]; rfl
          rw [HEQ.out, q2] at q1
          injection q1 with q1
          exact q1.symm
        have HC := Lib.hid (fun V (hV : Kq (Tch (flatP got) (2 * k)) w8 V) => same_par (c := c4) (c' := c8) HG.out H48.out HW.out HCW.out hV H74.out hA hA1 hlt hlt hx.out hx'.out hpq smG.out)
        subst hA hA1
        clear hpq
        go_upto_region 17 with fail
        go_region_with (first | (go_at_call 18; refine (HC.out _ (by first | exact hK | exact hK.blw (Below.refl _ _).drew)).mono ?_; rintro e wz ⟨rfl, hz⟩))
        all_goals go_wp2
        all_goals (go_roundw; (case measure => simp [intOf]; omega); exact ⟨k + 1, by omega, by go_num, hz⟩)
      · obtain rfl : n4 = k := by omega
        have t1 : decide ((n4 : Int) < n4) = false := by simp
        go_wp2
        go_ret
        exact ⟨rfl, HB8.out.trans (Below.mono (hK.below (B := w7.heap.size) (Nat.le_trans H74.out hz8) (fun g h => (Tch.in_ (fun r hr => (ClOwn.roww (HG.out.cl r hr) (Nat.le_refl _)).below H48.out (Nat.le_refl _)) h).1)) hz7)⟩
end Go.Proofs.YtodholjbefifeaaDoor
