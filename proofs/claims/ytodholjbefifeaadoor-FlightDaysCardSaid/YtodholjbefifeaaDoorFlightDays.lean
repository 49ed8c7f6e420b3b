/- FlightDays is true of every input. -/
import Derived.Test.YtodholjbefifeaaDoorFlAwake2
namespace Go.Proofs.YtodholjbefifeaaDoor
set_option linter.unusedVariables false
open Go Go.RowKit Go.Sort
theorem TB.setCell {W : World} {lo p : Nat} {rl : List FlR} (h : TB W lo p rl) {a : Addr} (ha : a.block < lo) (u : Value) : TB (W.setCell a u) lo p rl :=
  h.keepB fun k hk _ => Below.heap_setCell W a u k (by omega)
theorem tflies_is {l : List Flt} {rs : List FlR} {p lo : Nat} {g : Leg} {fl : Bool} {W : World} (htab : Tab l (rs.map (·.f))) (hfl : fliesF l g = fl) (ht : TB W lo p rs) (hg : g.ok) :
    Calls Tryd.prog 25 #[.pointer (some ⟨p, 0, none⟩), .agg #[.string g.key.car, .int .i64 g.key.num, .int .i64 g.day]] W (RetB W fl) := by
  have := tflies_any rs p lo g W ht hg
  rw [htab.flies, hfl] at this
  exact this
theorem rflies_is {rl : List FlR} {A : Option Addr} {n c : Nat} {g : Leg} {fl : Bool} {W : World} {lo hi : Nat} (hfl : fliesF (rl.map (·.f)) g = fl) (hs : FlS W lo hi A n rl) (hn : n ≤ 100000) (hhi : hi ≤ W.heap.size) :
    Calls Tryd.prog 31 #[.slice A n c, .agg #[.string g.key.car, .int .i64 g.key.num, .int .i64 g.day]] W (RetB W fl) := by
  have := rflies_any rl A n c g W lo hi hs hn hhi
  rw [hfl] at this
  exact this
set_option maxRecDepth 100000 in
set_option maxHeartbeats 8000000 in
theorem flightDays_any (rl : List FlR) (A : Option Addr) (n c : Nat) (g : Leg) (cl : Int) (w : World) (hs : FlS w 0 w.heap.size A n rl) (hg : g.ok) (hn : n ≤ 9223372036854775807) :
    Calls Tryd.prog 8 #[.slice A n c, .agg #[.string g.key.car, .int .i64 g.key.num, .int .i64 g.day], .int .u8 cl] w (RetB w true) := by
  have HS := Lib.hid hs
  have HG := Lib.hid hg
  have HL := Lib.hid hs.sl.len
  obtain ⟨⟨kc, kn⟩, d⟩ := g
  dsimp only
  have HB := box1 w #[.string kc, .int .i64 kn, .int .i64 d] 51
  have hnl := eql_tab
  have hnl0 := eql_tab0
  clear hs hg
  go_enter Tryd.func8, Tryd.ntmps8
  go_upto_region 1 with fail
  refine wp_world (fun W => Bx W w.heap.size #[.string kc, .int .i64 kn, .int .i64 d] 51 ∧ Below w.heap.size w W) HB ?_
  clear HB
  rintro W ⟨b1, hb⟩
  go_wp2_with fail
  refine (awake_any W).mono ?_
  rintro e w1 ⟨rfl, h1⟩
  have b1' := b1.below h1 b1.lt
  have hb1 := hb.trans (h1.mono hb.size)
  clear b1 hb h1
  go_wp2_with fail
  refine (few_any rl A n c w1 0 w.heap.size (HS.out.below hb1 (Nat.le_refl _)) hn).mono ?_
  rintro e w2 ⟨q, rfl, rfl, hfew⟩
  rcases q with _ | _
  · go_wp2
    go_ret
    exact ⟨rfl, hb1⟩
  obtain ⟨hn3, hsm3⟩ := hfew rfl
  have HSM : Hid (∀ r ∈ rl, r.n ≤ 100000) := fun r hr => Nat.le_trans (hsm3 r hr) (by omega)
  clear hfew hsm3
  go_wp2_with fail
  refine (copied_law rl A n c w1 0 w.heap.size (HS.out.below hb1 (Nat.le_refl _)) (by omega) hb1.size HSM.out).mono ?_
  rintro e w2 ⟨A2, n2, c2, mine, rfl, ho2, hm2, h2⟩
  have b2 := b1'.below h2 b1'.lt
  have hb2 := hb1.trans (h2.mono hb1.size)
  have hn2 : n2 ≤ 3000 := by have h5 := congrArg List.length hm2; have h6 := ho2.own.sl.len; have h7 := HL.out; simp only [List.length_map] at h5; omega
  have hsm2 : ∀ r ∈ mine, r.n ≤ 100000 := fun r hr => by
    have h5 : r.f ∈ rl.map (·.f) := by rw [← hm2]; exact List.mem_map_of_mem hr
    obtain ⟨r', hr', e'⟩ := List.mem_map.1 h5
    have h6 := (ho2.own.wf r hr).len
    have h7 := (HS.out.sl.wf r' hr').len
    rw [e', h6] at h7
    rw [h7]
    exact HSM.out r' hr'
  clear b1'
  go_wp2_with fail
  refine (new_any mine A2 n2 c2 w2 w1.heap.size w2.heap.size ho2.sl (by omega) (Nat.le_refl _) hsm2).mono ?_
  rintro e w3 hq
  unfold NewQ at hq
  rw [hm2] at hq
  obtain ⟨h3, hq⟩ := hq
  have b3 := b2.below h3 b2.lt
  have hb3 := hb2.trans (h3.mono hb2.size)
  have hz3 := hb3.size
  have hlo : w.heap.size < w2.heap.size := b2.lt
  clear b2 hsm2 hm2 ho2
  rcases hq with ⟨hbad, rfl⟩ | ⟨hnew, p, rs, rfl, ht, htab⟩
  · generalize hcode : newF (rl.map (·.f)) = code at hbad
    have HC := Lib.hid hcode
    have hbad' : (code != 0) = true := by simpa using hbad
    clear hcode hbad
    go_wp2_with fail
    refine (rnew_any rl A n c w3 0 w.heap.size (HS.out.below hb3 (Nat.le_refl _)) (by omega) hz3 HSM.out).mono ?_
    rintro e w4 ⟨rfl, h4⟩
    rw [HC.out]
    go_wp2
    go_ret
    exact ⟨ret_bool rfl, hb3.trans (h4.mono hz3)⟩
  · clear hnew
    have HTAB := Lib.hid htab
    clear htab
    go_wp2
    go_loopw [9] (fun i wr => ∃ k : Nat, k ≤ n + 1 ∧ i = .int .i64 k ∧ (∃ key : Key, key.ok ∧ Bx wr w.heap.size #[.string key.car, .int .i64 key.num, .int .i64 d] 51) ∧ TB wr w2.heap.size p rs ∧ Below w.heap.size w wr) (fun i _ => n + 1 - (intOf i).toNat)
    case atStart => exact ⟨0, by omega, rfl, ⟨⟨kc, kn⟩, HG.out.1, b3⟩, ht, hb3⟩
    case round =>
      clear b3 ht hb3 hz3 h3
      obtain ⟨k, hk, rfl, ⟨⟨xc, xn⟩, hxk, bx⟩, ht, hb⟩ := hrel
      dsimp only at bx
      by_cases hle : k ≤ n
      · have hle' : decide ((k : Int) ≤ n) = true := by simp; omega
        have c1 := bx.cells
        have f1 := bx.free
        rcases Nat.lt_or_ge k n with hlt | hge
        case' inl =>
          obtain ⟨b0, o0, s, hA, _, _, hx, hok, hcl, d0, d1, d2, d3, d4, d5, d6, d7, d8⟩ := (HS.out.below hb (Nat.le_refl _)).at_ hlt
          subst hA
          have i0 : (0 : Int) ≤ k := by omega
          have i1 : (k : Int) < n := by omega
          have hlt' : decide ((k : Int) < n) = true := by simp; omega
          go_upto_region 13 with fail
          refine wp_world (fun V => ∃ key : Key, key.ok ∧ Bx V w.heap.size #[.string key.car, .int .i64 key.num, .int .i64 d] 51 ∧ TB V w2.heap.size p rs ∧ Below w.heap.size w V) ⟨s.key, ⟨hok.f.car, hok.f.num⟩, (bx.put 0 (.string s.f.car)).put 1 (.int .i64 s.f.num), (ht.setCell (by simp; omega) _).setCell (by simp; omega) _, (hb.setCell (by simp) _).setCell (by simp) _⟩ ?_
          clear bx ht hb c1 f1 d0 d1 d2 d3 d4 d5 d6 d7 d8 hx hok hcl
        case' inr =>
          have hlt' : decide ((k : Int) < n) = false := by simp; omega
          go_upto_region 13 with fail
          refine wp_world (fun V => ∃ key : Key, key.ok ∧ Bx V w.heap.size #[.string key.car, .int .i64 key.num, .int .i64 d] 51 ∧ TB V w2.heap.size p rs ∧ Below w.heap.size w V) ⟨⟨xc, xn⟩, hxk, bx, ht, hb⟩ ?_
          clear bx ht hb c1 f1
        all_goals
          rintro V ⟨⟨yc, yn⟩, hyk, bx, ht, hb⟩
          dsimp only at bx
          have c1 := bx.cells
          have zb := bx.lt
          go_wp2_with fail
          refine (tlevel_any rs p _ ⟨⟨yc, yn⟩, d⟩ cl V ht ⟨hyk, HG.out.2⟩).mono ?_
          rw [HTAB.out.level]
          generalize hlv : levelF (rl.map (·.f)) ⟨⟨yc, yn⟩, d⟩ cl = lv
          have HLV := Lib.hid hlv
          clear hlv
          obtain ⟨l1, l2⟩ := lv
          rintro e w4 ⟨rfl, h4⟩
          have bx4 := bx.below h4 zb
          have ht4 := ht.keep h4
          have hb4 := hb.trans (h4.mono hb.size)
          clear c1 bx ht
          have c1 := bx4.cells
          go_wp2_with fail
          refine (rlevel_any rl _ n c ⟨⟨yc, yn⟩, d⟩ cl w4 0 w.heap.size (HS.out.below hb4 (Nat.le_refl _)) (by omega) hb4.size HSM.out).mono ?_
          rw [HLV.out]
          rintro e w5 ⟨rfl, h5⟩
          have bx5 := bx4.below h5 bx4.lt
          have ht5 := ht4.keep h5
          have hb5 := hb4.trans (h5.mono hb4.size)
          clear c1 bx4 ht4
          go_upto_region 15 with fail
          have c1 := bx5.cells
          have zb5 := bx5.lt
          generalize hfl : fliesF (rl.map (·.f)) ⟨⟨yc, yn⟩, d⟩ = fl
          have HC1 := Lib.hid (fun t : Blw w5 => (tflies_is HTAB.out hfl (ht5.keep t.b) ⟨hyk, HG.out.2⟩))
          have HC2 := Lib.hid (fun t : Blw w5 => (rflies_is (c := c) hfl (HS.out.below (hb5.trans (t.b.mono hb5.size)) (Nat.le_refl _)) (show n ≤ 100000 by omega) (Nat.le_trans hb5.size t.b.size)))
          clear hfl
          refine wp_region_below (by kernel_rfl) (by kernel_rfl) ?_
          intro q9
          repeat
            (refine QH.step (fun K9 hK9 => ?_)
             go_simp
             first
             | (refine hK9 _ ?_; clear hK9 K9)
             | (apply Exists.intro
                refine ⟨fun _ => ?_, hK9 _ ?_⟩
                · first | (exact Calls.blw _ (HC1.out _)) | (exact Calls.blw _ (HC2.out _))
                clear hK9 K9))
          refine QH.nil_ ?_
          clear q9
          rintro ⟨V9, hV9⟩
          dsimp only
          go_wp2
          go_roundw
          case rel => exact ⟨k + 1, by omega, by go_num, ⟨⟨yc, yn⟩, hyk, bx5.below hV9 zb5⟩, ht5.keep hV9, hb5.trans (hV9.mono hb5.size)⟩
          case measure => simp [intOf]; omega
      · have hle' : decide ((k : Int) ≤ n) = false := by simp; omega
        go_wp2
        go_ret
        exact ⟨rfl, hb⟩
end Go.Proofs.YtodholjbefifeaaDoor
