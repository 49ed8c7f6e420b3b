/- FlightOrder is true of every input. -/
import Derived.Test.YtodholjbefifeaaDoorFlKq
import Derived.Test.YtodholjbefifeaaDoorFlSmall
import Derived.Test.YtodholjbefifeaaDoorFlOrdL
import Derived.BigRegion
import Derived.Deep.RegionLaw
namespace Go.Proofs.YtodholjbefifeaaDoor
set_option linter.unusedVariables false
open Go Go.RowKit Go.Sort
theorem same_two {al bl : List FlR} {A A' : Option Addr} {n c n' c' : Nat} {V w : World} {EF EC EF' EC' : TypeId} {B : Nat} (ho : OwnF V EF EC B (.slice A n c) al) (hb : Below V.heap.size V w) (ho2 : OwnF w EF' EC' V.heap.size (.slice A' n' c') bl) (hV : B ≤ V.heap.size)
    (hn : n ≤ 100000) (hn' : n' ≤ 100000) (hsm : ∀ r ∈ al, r.n ≤ 100000) (hsm' : ∀ r ∈ bl, r.n ≤ 100000) (heq : al.map (·.f) = bl.map (·.f)) :
    Calls Tryd.prog 18 #[.slice A n c, .slice A' n' c'] w (RetS w B true) := by
  have h := same_law al bl A A' n c n' c' w B V.heap.size B V.heap.size V.heap.size w.heap.size V.heap.size w.heap.size (ho.own.sl.below hb (Nat.le_refl _)) ho2.own.sl (fun s hs => (ho2.cl s hs).at_) (.inr (Nat.le_refl _)) (.inr (Nat.le_refl _))
    (fun r hr => (ClOwn.roww (ho.cl r hr) (Nat.le_refl _)).below hb (Nat.le_refl _)) (fun r hr a hA => by subst hA; exact ho.off r hr a.block rfl) ho.apt hn hn' hsm hsm' hb.size (Nat.le_refl _) (Nat.le_refl _) hb.size (Nat.le_trans hV hb.size)
  rw [decide_eq_true heq] at h
  exact h
theorem FlS.take_ {w : World} {lo hi n k : Nat} {A : Option Addr} {l : List FlR} (h : Sl w lo hi tFl A n l) (hk : k ≤ n) : Sl w lo hi tFl A k (l.take k) := by
  refine ⟨by rw [List.length_take, h.len]; omega, fun x hx => h.wf x ((List.take_sublist _ _).subset hx), fun h0 => ?_⟩
  obtain ⟨b, o, e, h1, h2, h3⟩ := h.cells (by omega)
  refine ⟨b, o, e, h1, h2, fun j x hx => h3 j x ?_⟩
  rw [List.getElem?_take] at hx
  split at hx
  · exact hx
  · cases hx
theorem FlS.drop_ {w : World} {lo hi n k b o : Nat} {l : List FlR} (h : Sl w lo hi tFl (some ⟨b, o, none⟩) n l) (hk : k ≤ n) : Sl w lo hi tFl (some ⟨b, o + k * 9, none⟩) (n - k) (l.drop k) := by
  refine ⟨by rw [List.length_drop, h.len], fun x hx => h.wf x ((List.drop_sublist _ _).subset hx), fun h0 => ?_⟩
  obtain ⟨b', o', e, h1, h2, h3⟩ := h.cells (by omega)
  obtain ⟨rfl, rfl⟩ : b = b' ∧ o = o' := by injection e with e; injection e with e1 e2; exact ⟨e1, e2⟩
  refine ⟨b, _, rfl, h1, h2, fun j x hx i u hu => ?_⟩
  rw [List.getElem?_drop] at hx
  have := h3 (k + j) x hx i u hu
  have e9 : (tFl).sz = 9 := rfl
  rw [e9] at this ⊢
  rw [show o + k * 9 + j * 9 + i = o + (k + j) * 9 + i by omega]
  exact this
theorem neq_tab (w : World) (a : Addr) : (binOp .neq 34 (.pointer (some a)) (.pointer none)).run Tryd.prog w = .ok (.bool true) w := by kernel_rfl
theorem tflies_is {l : List Flt} {rs : List FlR} {p lo : Nat} {g : Leg} {fl : Bool} {W : World} (htab : Tab l (rs.map (·.f))) (hfl : fliesF l g = fl) (ht : TB W lo p rs) (hg : g.ok) :
    Calls Tryd.prog 25 #[.pointer (some ⟨p, 0, none⟩), .agg #[.string g.key.car, .int .i64 g.key.num, .int .i64 g.day]] W (RetB W fl) := by
  have := tflies_any rs p lo g W ht hg
  rw [htab.flies, hfl] at this
  exact this
theorem out_small {rs out : List FlR} {W w' : World} {lo p B n c : Nat} {A : Option Addr} {L : List Flt} (ht : TB W lo p rs) (ho : OwnF w' 26 54 B (.slice A n c) out) (hm : out.map (·.f) = L) (hin : ∀ x ∈ L, x ∈ rs.map (·.f)) (hl : L.length ≤ rs.length) :
    (∀ r ∈ out, r.n ≤ 100000) ∧ n ≤ 100000 :=
  ⟨fun r hr => small_of ht (ho.own.wf r hr) (hin _ (by rw [← hm]; exact List.mem_map_of_mem hr)), len_le_of (rs := rs) hm hl ho.own.sl.len ht.most⟩
theorem betw_in {rs : List FlR} (h : Nok (rs.map (·.f))) (d : Int) (a b : ByteArray) : (∀ x ∈ betwF (rs.map (·.f)) d a b, x ∈ rs.map (·.f)) ∧ (betwF (rs.map (·.f)) d a b).length ≤ rs.length :=
  ⟨fun x hx => ((mem_betw h).1 hx).1, Nat.le_trans (betw_len _ _ _ _) (by rw [List.length_map]; exact Nat.le_refl _)⟩
/-- New of copies. -/
theorem new_law {rl mine : List FlR} {A2 : Option Addr} {n2 c2 B : Nat} {w2 : World} (ho2 : OwnF w2 26 54 B (.slice A2 n2 c2) mine) (hm2 : mine.map (·.f) = rl.map (·.f)) (hwf : ∀ r ∈ rl, r.ok) (hsm : ∀ r ∈ rl, r.n ≤ 100000) (hl : rl.length ≤ 3000) :
    Calls Tryd.prog 15 #[.slice A2 n2 c2] w2 (NewQ w2 rl) := by
  have hn2 : n2 ≤ 3000 := by have h5 := congrArg List.length hm2; have h6 := ho2.own.sl.len; simp only [List.length_map] at h5; omega
  have hsm2 : ∀ r ∈ mine, r.n ≤ 100000 := fun r hr => by
    have h5 : r.f ∈ rl.map (·.f) := by rw [← hm2]; exact List.mem_map_of_mem hr
    obtain ⟨r', hr', e'⟩ := List.mem_map.1 h5
    have h6 := (ho2.own.wf r hr).len
    have h7 := (hwf r' hr').len
    rw [e', h6] at h7
    rw [h7]
    exact hsm r' hr'
  refine (new_any mine A2 n2 c2 w2 B w2.heap.size ho2.sl (by omega) (Nat.le_refl _) hsm2).mono fun e w' hq => ?_
  unfold NewQ at hq ⊢
  rw [hm2] at hq
  exact hq
set_option maxRecDepth 100000 in
set_option maxHeartbeats 8000000 in
theorem flightOrder_any (rl : List FlR) (A : Option Addr) (n c : Nat) (tn d : Int) (fr to_ : ByteArray) (w : World) (hs : FlS w 0 w.heap.size A n rl) (hn : n ≤ 9223372036854775807) (hA0 : A = none → c = 0) (hc0 : n ≤ c) (htn : okInt tn) (hd : okInt d) :
    Calls Tryd.prog 6 #[.slice A n c, .int .i64 tn, .int .i64 d, .string fr, .string to_] w (RetB w true) := by
  have HS := Lib.hid hs
  have HL := Lib.hid hs.sl.len
  have hnl := eql_tab
  have hnl0 := eql_tab0
  clear hs
  go_enter Tryd.func6, Tryd.ntmps6
  go_wp2_with fail
  refine (awake_any w).mono ?_
  rintro e w1 ⟨rfl, hb1⟩
  go_wp2_with fail
  refine (few_any rl A n c w1 0 w.heap.size (HS.out.below hb1 (Nat.le_refl _)) hn).mono ?_
  rintro e w2 ⟨q, rfl, rfl, hfew⟩
  rcases q with _ | _
  · go_wp2
    go_ret
    exact ⟨rfl, hb1⟩
  obtain ⟨hn3, hsm3⟩ := hfew rfl
  have HSM : Hid (∀ r ∈ rl, r.n ≤ 100000) := fun r hr => Nat.le_trans (hsm3 r hr) (by omega)
  clear hfew hsm3
  by_cases hn0 : n = 0
  · subst hn0
    go_wp2
    go_ret
    exact ⟨rfl, hb1⟩
  have t0 : decide ((n : Int) = 0) = false := by simp; omega
  obtain ⟨b0, o0, hA⟩ : ∃ b o, A = some ⟨b, o, none⟩ := by
    obtain ⟨b, o, e, _⟩ := HS.out.sl.cells (by omega)
    exact ⟨b, o, e⟩
  subst hA
  have n0 : (0 : Int) < n := by omega
  have m0 := Int.tmod_lt_of_pos tn n0
  have m1 := Int.lt_tmod_of_pos tn n0
  go_upto_region 6 with fail
  go_upto_if 36 with fail
  go_cut [11] (fun v w' => (∃ m : Nat, m < n ∧ v = .int .i64 m) ∧ w' = w1)
  case first =>
    by_cases hq : tn.tmod (n : Int) < 0
    · have d1 : decide (tn.tmod (n : Int) < 0) = true := decide_eq_true hq
      have hw : IntKind.i64.wrap (tn.tmod (n : Int) + n) = tn.tmod (n : Int) + n := IntWalk.i64_in _ (by omega)
      go_wp2
      go_meet
      exact ⟨⟨(tn.tmod (n : Int) + n).toNat, by omega, by rw [Int.toNat_of_nonneg (by omega)]⟩, rfl⟩
    · have d1 : decide (tn.tmod (n : Int) < 0) = false := decide_eq_false hq
      go_wp2
      go_meet
      exact ⟨⟨(tn.tmod (n : Int)).toNat, by omega, by rw [Int.toNat_of_nonneg (by omega)]⟩, rfl⟩
  case rest =>
    obtain ⟨⟨m, hm, rfl⟩, hww⟩ := hcut
    subst wc
    clear m0 m1 hn0 t0 htn
    have i0 : (0 : Int) ≤ m := by omega
    have i1 : (m : Int) ≤ n := by omega
    have i2 : (n : Int) ≤ c := by omega
    have i3 : (m : Int) ≤ c := by omega
    have i4 : ¬ c = m := by omega
    have hown0 : Own (w1.alloc (.cells #[] 26)).drew w1.heap.size 26 tFl (.slice (some ⟨w1.heap.size, 0, none⟩) 0 0) [] := ⟨(fun _ h => absurd h List.not_mem_nil), World.ownsRow_made _ #[] 0 (by simp) (by unfold maxLen; omega) rfl⟩
    go_upto_region 8 with fail
    go_cut [12] (fun v w' => ∃ A' c', v = .slice A' n c' ∧ Own w' w1.heap.size 26 tFl (.slice A' n c') (rl.drop m ++ rl.take m) ∧ Below w1.heap.size w1 w')
    case first =>
      go_region_law (first
        | (refine step_append_told (T := tFl) rfl (.tmp 41) (.tmp 44) (by rfl) sl_flt (by rfl) hown0 (by rfl) (FlS.drop_ ((HS.out.below hb1 (Nat.le_refl _)).sl.below (((Below.refl w1.heap.size w1).alloc (Nat.le_refl _) (.cells #[] 26)).drew) hb1.size) (k := m) (by omega)) (fun h => by cases h) (by simp) (by simp; omega) ?_; intro v1 wa hown1 hgr1 hbb1)
        | (refine step_append_told (T := tFl) rfl (.tmp 45) (.tmp 48) (by rfl) sl_flt (by rfl) hown1 (by rfl) (FlS.take_ ((HS.out.below hb1 (Nat.le_refl _)).sl.below ((((Below.refl w1.heap.size w1).alloc (Nat.le_refl _) (.cells #[] 26)).drew).grown hgr1 (by simp) (by intro q hq; have e3 : (some w1.heap.size : Option Nat) = some q := hq; injection e3 with e3; omega)) hb1.size) (k := m) (by omega)) (fun h => by cases h) (by have := hgr1.size; simp at this; omega) (by have := HL.out; simp; omega) ?_; intro v2 wb hown2 hgr2 hbb2))
      have hl2 : (([] ++ rl.drop m) ++ rl.take m).length = n := by have := HL.out; simp; omega
      obtain ⟨A3, c3, hv2⟩ := hown2.form
      rw [hl2] at hv2
      subst hv2
      have hB2 : Below w1.heap.size w1 wb := ((((Below.refl w1.heap.size w1).alloc (Nat.le_refl _) (.cells #[] 26)).drew).grown hgr1 (by simp) (by intro q hq; have e3 : (some w1.heap.size : Option Nat) = some q := hq; injection e3 with e3; omega)).grown hgr2 (by have := hgr1.size; simp at this; omega) (fun q hq => (hown1.lt q hq).1)
      go_wp2
      go_meet
      exact ⟨A3, c3, rfl, hown2, hB2⟩
    case rest =>
      obtain ⟨A3, c3, rfl, ho3, hb3⟩ := hcut
      have hbw := hb1.trans (hb3.mono hb1.size)
      have hzw := hbw.size
      have HFO := Lib.hid (fls_own HS.out hbw (Nat.le_refl _) ho3 fun r hr => (List.mem_append.1 hr).elim List.mem_of_mem_drop List.mem_of_mem_take)
      have HOM : Hid (∀ r ∈ rl.drop m ++ rl.take m, r ∈ rl) := fun r hr => (List.mem_append.1 hr).elim List.mem_of_mem_drop List.mem_of_mem_take
      have HPM : Hid (((rl.drop m ++ rl.take m).map (·.f)).Perm (rl.map (·.f))) := (List.perm_append_comm.trans (by rw [List.take_append_drop])).map _
      have HOL : Hid ((rl.drop m ++ rl.take m).length = n) := ho3.sl.len
      generalize rl.drop m ++ rl.take m = ol at HFO HOM HPM HOL
      clear ho3 hb3 hb1 i0 i1 i2 i3 i4 hown0 hm
      have HWF := Lib.hid HS.out.sl.wf
      have HBW := Lib.hid hbw
      go_wp2_with fail
      refine (copied_law rl _ n c wc 0 w.heap.size (HS.out.below hbw (Nat.le_refl _)) (by omega) hzw HSM.out).mono ?_
      rintro e w2 ⟨A2, n2, c2, mine, rfl, ho2, hm2, h2⟩
      go_wp2_with fail
      refine (new_law ho2 hm2 HWF.out HSM.out (by rw [HL.out]; exact hn3)).mono ?_
      rintro e w3 hq
      unfold NewQ at hq
      obtain ⟨h3, hq⟩ := hq
      have hb3 : Below wc.heap.size wc w3 := h2.trans (h3.mono h2.size)
      clear ho2 hm2 h2 h3
      rcases hq with ⟨hbad, rfl⟩ | ⟨hnew, p, rs, rfl, ht, htab⟩
      · go_wp2_with fail
        refine (copied_law ol _ n c3 w3 0 wc.heap.size (HFO.out.below hb3 (Nat.le_refl _)) (by omega) hb3.size (fun r hr => HSM.out r (HOM.out r hr))).mono ?_
        rintro e w4 ⟨A4, n4, c4, mine4, rfl, ho4, hm4, h4⟩
        go_wp2_with fail
        refine (new_law ho4 hm4 (fun r hr => HWF.out r (HOM.out r hr)) (fun r hr => HSM.out r (HOM.out r hr)) (by rw [HOL.out]; exact hn3)).mono ?_
        rintro e w5 hq
        unfold NewQ at hq
        rw [newF_perm HPM.out] at hq
        obtain ⟨h5, hq⟩ := hq
        rcases hq with ⟨_, rfl⟩ | ⟨hnew, _⟩
        · generalize hcode : newF (rl.map (·.f)) = code at hbad
          have hbad' : (code != 0) = true := by simpa using hbad
          have hbad3 : decide (code = code) = true := by simp
          have hz := HBW.out.trans ((hb3.trans ((h4.trans (h5.mono h4.size)).mono hb3.size)).mono hzw)
          clear hcode hbad
          go_wp2
          go_ret
          exact ⟨ret_bool rfl, hz⟩
        · exact absurd hnew hbad
      · go_wp2_with fail
        refine (copied_law ol _ n c3 w3 0 wc.heap.size (HFO.out.below hb3 (Nat.le_refl _)) (by omega) hb3.size (fun r hr => HSM.out r (HOM.out r hr))).mono ?_
        rintro e w4 ⟨A4, n4, c4, mine4, rfl, ho4, hm4, h4⟩
        go_wp2_with fail
        refine (new_law ho4 hm4 (fun r hr => HWF.out r (HOM.out r hr)) (fun r hr => HSM.out r (HOM.out r hr)) (by rw [HOL.out]; exact hn3)).mono ?_
        rintro e w5 hq
        unfold NewQ at hq
        rw [newF_perm HPM.out] at hq
        obtain ⟨h5, hq⟩ := hq
        have h35 := h4.trans (h5.mono h4.size)
        have hb5 := hb3.trans (h35.mono hb3.size)
        replace ht := ht.keep h35
        clear ho4 hm4 h4 h5 h35 hb3
        rcases hq with ⟨hbad, _⟩ | ⟨_, p', rs', rfl, ht', htab'⟩
        · exact absurd hnew hbad
        have HTAB := Lib.hid htab
        have HTAB' := Lib.hid htab'
        have HRS : Hid (rs.map (·.f) = rs'.map (·.f)) := htab.same htab' fun x => HPM.out.mem_iff.symm
        clear htab htab' hnew
        go_wp2_with fail
        refine (tall_any rs p _ w5 ht).mono ?_
        rintro e w6 ⟨A6, n6, c6, out6, rfl, ho6, hm6, h6⟩
        go_wp2_with fail
        refine (tall_any rs' p' _ w6 (ht'.keep h6)).mono ?_
        rintro e w7 ⟨A7, n7, c7, out7, rfl, ho7, hm7, h7⟩
        have sm6 := out_small ht ho6 hm6 (fun _ h => h) (by rw [List.length_map]; exact Nat.le_refl _)
        have sm7 := out_small ht' ho7 hm7 (fun _ h => h) (by rw [List.length_map]; exact Nat.le_refl _)
        go_wp2_with fail
        refine (same_two (c := c6) (c' := c7) ho6 h7 ho7 h6.size sm6.2 sm7.2 sm6.1 sm7.1 (by rw [hm6, hm7]; exact HRS.out)).mono ?_
        rintro e w8 ⟨rfl, h8⟩
        have h58 := (h6.trans (h7.mono h6.size)).trans h8
        replace ht := ht.keep h58
        replace ht' := ht'.keep h58
        have hb8 := hb5.trans (h58.mono hb5.size)
        clear sm6 sm7 ho6 ho7 hm6 hm7 h6 h7 h8 h58 hb5
        go_wp2_with fail
        refine (tbetween_any rs p _ d fr to_ w8 ht HTAB.out.nokL).mono ?_
        rintro e w9 ⟨A9, n9, c9, out9, rfl, ho9, hm9, h9⟩
        go_wp2_with fail
        refine (tbetween_any rs' p' _ d fr to_ w9 (ht'.keep h9) HTAB'.out.nokL).mono ?_
        rintro e w10 ⟨A10, n10, c10, out10, rfl, ho10, hm10, h10⟩
        have sm9 := out_small ht ho9 hm9 (betw_in HTAB.out.nokL d fr to_).1 (betw_in HTAB.out.nokL d fr to_).2
        have sm10 := out_small ht' ho10 hm10 (betw_in HTAB'.out.nokL d fr to_).1 (betw_in HTAB'.out.nokL d fr to_).2
        go_wp2_with fail
        refine (same_two (c := c9) (c' := c10) ho9 h10 ho10 h9.size sm9.2 sm10.2 sm9.1 sm10.1 (by rw [hm9, hm10, HRS.out])).mono ?_
        rintro e w11 ⟨rfl, h11⟩
        have h811 := (h9.trans (h10.mono h9.size)).trans h11
        replace ht := ht.keep h811
        have hb11 := hb8.trans (h811.mono hb8.size)
        have HBB := Lib.hid (HBW.out.trans (hb11.mono hzw))
        have HT := Lib.hid ht
        clear sm9 sm10 ho9 ho10 hm9 hm10 h9 h10 h11 h811 hb8 ht ht' hb11 HTAB' HRS
        have hz11 := HBB.out.size
        go_wp2
        go_loopw [17, 18] (fun v i wr => ∃ k : Nat, k ≤ n ∧ i = .int .i64 k ∧ (∃ A' l' c', v = .slice A' l' c' ∧ Own wr w11.heap.size 26 tFl (.slice A' l' c') ((rl.take k).filter fun r => onB r.f d)) ∧ Below w11.heap.size w11 wr) (fun _ i _ => n - (intOf i).toNat)
        case atStart => exact ⟨0, by omega, rfl, ⟨none, 0, 0, rfl, Own.nil_ _ _ _ _⟩, Below.refl _ _⟩
        case round =>
          obtain ⟨k, hk, rfl, ⟨A', l', c', rfl, ho⟩, hb⟩ := hrel
          by_cases hlt : k < n
          · obtain ⟨b1, o1, s, hA, _, hb1, hx, hok, hcl, d0, d1, d2, d3, d4, d5, d6, d7, d8⟩ := (HS.out.below (HBB.out.trans (hb.mono hz11)) (Nat.le_refl _)).at_ hlt
            injection hA with hA
            injection hA with q1 q2
            subst q1 q2
            have HX := Lib.hid (take_snoc' hx.out)
            have i0 : (0 : Int) ≤ k := by omega
            have i1 : (k : Int) < n := by omega
            have t1 : decide ((k : Int) < n) = true := by simp; omega
            have hll : l' ≤ 100000 := by
              have h1 : ((rl.take k).filter fun r => onB r.f d).length = l' := ho.sl.len
              have h2 : ((rl.take k).filter fun r => onB r.f d).length ≤ (rl.take k).length := List.length_filter_le _ _
              have h3 : (rl.take k).length ≤ k := by rw [List.length_take]; exact Nat.min_le_left _ _
              omega
            have HO := Lib.hid ho
            have HOK := Lib.hid hok
            have hzb := hb.size
            clear ho hcl hok
            have hfl := HTAB.out.onf (List.mem_map_of_mem (f := (·.f)) (List.mem_of_getElem? hx.out)) d
            go_wp2_with fail
            refine (tflies_is (g := ⟨⟨s.f.car, s.f.num⟩, d⟩) HTAB.out hfl (HT.out.keep hb) ⟨⟨HOK.out.f.car, HOK.out.f.num⟩, hd⟩).mono ?_
            clear hfl
            generalize hq : onB s.f d = q0
            have HQ := Lib.hid hq
            clear hq
            rintro e w12 ⟨rfl, h12⟩
            have hb12 := hb.trans (h12.mono hzb)
            have zb : b0 < wr.heap.size := by omega
            have HO2 := Lib.hid (HO.out.keep h12)
            have q9 := (bcell h12).1
            rcases q0 with _ | _
            case true =>
              have HN := Lib.hid (show (rl.take (k + 1)).filter (fun r => onB r.f d) = (rl.take k).filter (fun r => onB r.f d) ++ [s] by rw [HX.out, List.filter_append]; simp [HQ.out])
              have hlen : ((rl.take k).filter fun r => onB r.f d).length < 2147483648 := by have h1 : ((rl.take k).filter fun r => onB r.f d).length = l' := HO2.out.sl.len; omega
              have hz12 := hb12.size
              go_wp2_with (at_builtin; refine push_law (T := tFl) (W := w12) rfl (.tmp 115) (.tmp 120) rfl sl_flt rfl HO2.out s HOK.out _ rfl rfl (by exact hz12) (by exact hlen) ?_; intro v1 w13 ho1 hb13)
              obtain ⟨A13, c13, rfl⟩ := ho1.form
              have HO3 := Lib.hid (show Own w13 w11.heap.size 26 tFl _ ((rl.take (k + 1)).filter fun r => onB r.f d) by rw [HN.out]; exact ho1)
              clear ho1
              go_wp2
              go_roundw
              case rel => exact ⟨k + 1, by omega, by go_num, ⟨_, _, _, rfl, HO3.out⟩, hb12.trans hb13⟩
              case measure => simp [intOf]; omega
            case false =>
              have HN := Lib.hid (show (rl.take (k + 1)).filter (fun r => onB r.f d) = (rl.take k).filter (fun r => onB r.f d) by
                rw [HX.out, List.filter_append, List.filter_cons_of_neg (by rw [HQ.out]; simp)]; simp)
              go_wp2
              go_roundw
              case rel => exact ⟨k + 1, by omega, by go_num, ⟨_, _, _, rfl, by rw [HN.out]; exact HO2.out⟩, hb12⟩
              case measure => simp [intOf]; omega
          · obtain rfl : n = k := by omega
            have t1 : decide ((n : Int) < n) = false := by simp
            have HF : Hid (rl.take n = rl) := List.take_of_length_le (Nat.le_of_eq HL.out)
            rw [HF.out] at ho
            have hbb := HBB.out.trans (hb.mono hz11)
            have hzb := hbb.size
            have hll : l' ≤ 3000 := by
              have h1 : (rl.filter fun r => onB r.f d).length = l' := ho.sl.len
              have h2 : (rl.filter fun r => onB r.f d).length ≤ rl.length := List.length_filter_le _ _
              have h3 := HL.out
              omega
            have hmem : ∀ r ∈ rl.filter (fun r => onB r.f d), r ∈ rl := fun r hr => (List.mem_filter.1 hr).1
            have HFF := Lib.hid (fls_own HS.out hbb (Nat.le_refl _) ho hmem)
            have HSUB : Hid (((rl.filter fun r => onB r.f d).map (·.f)).Sublist (rl.map (·.f))) := (List.filter_sublist).map _
            have HWF2 : Hid (∀ r ∈ rl.filter (fun r => onB r.f d), r.ok ∧ r.n ≤ 100000) := fun r hr => ⟨HWF.out r (hmem r hr), HSM.out r (hmem r hr)⟩
            have HEF : Hid ((rl.filter fun r => onB r.f d).map (·.f) = (rl.map (·.f)).filter fun f => onB f d) := filter_f (fun f => onB f d) rl
            have hfl : (rl.filter fun r => onB r.f d).length = l' := ho.sl.len
            generalize rl.filter (fun r => onB r.f d) = fl at HFF HSUB HWF2 HEF hfl
            clear ho hmem
            go_wp2_with fail
            refine (copied_law fl _ l' c' wr 0 wr.heap.size HFF.out (by omega) (Nat.le_refl _) (fun r hr => (HWF2.out r hr).2)).mono ?_
            rintro e w12 ⟨A12, n12, c12, mine12, rfl, ho12, hm12, h12⟩
            go_wp2_with fail
            refine (new_law ho12 hm12 (fun r hr => (HWF2.out r hr).1) (fun r hr => (HWF2.out r hr).2) (by rw [hfl]; exact hll)).mono ?_
            rintro e w13 hq
            unfold NewQ at hq
            obtain ⟨h13, hq⟩ := hq
            have h1113 := hb.trans ((h12.trans (h13.mono h12.size)).mono hb.size)
            clear ho12 hm12 h12 h13 hb hbb
            rcases hq with ⟨hbad, _⟩ | ⟨_, p3, rs3, rfl, ht3, htab3⟩
            · exact absurd (HTAB.out.newsub HSUB.out) hbad
            have hne := neq_tab
            have HT3 := Lib.hid htab3
            have HBE : Hid (betwF (rs3.map (·.f)) d fr to_ = betwF (rs.map (·.f)) d fr to_) :=
              (betw_same HT3.out.nok HT3.out.nokL (fun x => HT3.out.mem x) d fr to_).trans ((by rw [HEF.out]; exact betw_on _ d fr to_ : _ = betwF (rl.map (·.f)) d fr to_).trans (betw_same HTAB.out.nok HTAB.out.nokL (fun x => HTAB.out.mem x) d fr to_).symm)
            have HLE : Hid (linksF (rs3.map (·.f)) d fr to_ = linksF (rs.map (·.f)) d fr to_) :=
              (links_same HT3.out.nok HT3.out.nokL (fun x => HT3.out.mem x) d fr to_).trans ((by rw [HEF.out]; exact links_on _ d fr to_ : _ = linksF (rl.map (·.f)) d fr to_).trans (links_same HTAB.out.nok HTAB.out.nokL (fun x => HTAB.out.mem x) d fr to_).symm)
            have ht := HT.out.keep h1113
            clear htab3 hnl hnl0
            go_wp2_with fail
            refine (tbetween_any rs3 p3 _ d fr to_ w13 ht3 HT3.out.nokL).mono ?_
            rintro e w14 ⟨A14, n14, c14, out14, rfl, ho14, hm14, h14⟩
            go_wp2_with fail
            refine (tbetween_any rs p _ d fr to_ w14 (ht.keep h14) HTAB.out.nokL).mono ?_
            rintro e w15 ⟨A15, n15, c15, out15, rfl, ho15, hm15, h15⟩
            have sm14 := out_small ht3 ho14 hm14 (betw_in HT3.out.nokL d fr to_).1 (betw_in HT3.out.nokL d fr to_).2
            have sm15 := out_small ht ho15 hm15 (betw_in HTAB.out.nokL d fr to_).1 (betw_in HTAB.out.nokL d fr to_).2
            go_wp2_with fail
            refine (same_two (c := c14) (c' := c15) ho14 h15 ho15 h14.size sm14.2 sm15.2 sm14.1 sm15.1 (by rw [hm14, hm15, HBE.out])).mono ?_
            rintro e w16 ⟨rfl, h16⟩
            have h1316 := (h14.trans (h15.mono h14.size)).trans h16
            replace ht := ht.keep h1316
            replace ht3 := ht3.keep h1316
            have hb16 := h1113.trans (h1316.mono h1113.size)
            clear sm14 sm15 ho14 ho15 hm14 hm15 h14 h15 h16 h1316 h1113
            go_wp2_with fail
            refine (tlinks_any rs3 p3 _ d fr to_ w16 ht3 HT3.out.nokL (TB.right HT3.out)).mono ?_
            rintro e w17 ⟨A17, n17, c17, got17, rfl, ho17, hm17, h17⟩
            go_wp2_with fail
            refine (tlinks_any rs p _ d fr to_ w17 (ht.keep h17) HTAB.out.nokL (TB.right HTAB.out)).mono ?_
            rintro e w18 ⟨A18, n18, c18, got18, rfl, ho18, hm18, h18⟩
            obtain rfl : n17 = n18 := by
              have e1 := congrArg List.length hm17
              have e2 := congrArg List.length hm18
              rw [List.length_map] at e1 e2
              have e3 := ho17.own.sl.len
              have e4 := ho18.own.sl.len
              rw [HLE.out] at e1
              omega
            have hb18 := hb16.trans ((h17.trans (h18.mono h17.size)).mono hb16.size)
            have hbe := HBB.out.trans (hb18.mono hz11)
            have t2 : decide ((n17 : Int) = n17) = true := by simp
            clear ho17 ho18 hm17 hm18 h17 h18 hb16 ht ht3
            go_wp2
            go_ret
            exact ⟨rfl, hbe⟩
end Go.Proofs.YtodholjbefifeaaDoor
