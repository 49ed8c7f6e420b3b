/- FlightTables is true of every input. -/
import Derived.Test.YtodholjbefifeaaDoorFlLawS
namespace Go.Proofs.YtodholjbefifeaaDoor
set_option linter.unusedVariables false
open Go Go.RowKit Go.Sort
theorem TB.setCell {W : World} {lo p : Nat} {rl : List FlR} (h : TB W lo p rl) {a : Addr} (ha : a.block < lo) (u : Value) : TB (W.setCell a u) lo p rl :=
  h.keepB fun k hk _ => Below.heap_setCell W a u k (by omega)
/-- While the classes of a list's flights are written over. -/
structure Sp (mine : List FlR) (B X m : Nat) (w W : World) : Prop where
  k : Kq (Tch mine m) w W
  wr : ∀ r ∈ mine, 0 < r.n → ∃ g, r.A = some ⟨g, 0, none⟩ ∧ B ≤ g ∧ g < X ∧ WrC W g (r.n * 2)
theorem Sp.start {mine : List FlR} {B X m : Nat} {w : World} (h : ∀ r ∈ mine, RowW w B X r) : Sp mine B X m w w := ⟨Kq.refl _ _, fun r hr => (h r hr).wr⟩
theorem Sp.set {mine : List FlR} {B X m : Nat} {w W : World} (h : Sp mine B X m w W) {k g o : Nat} {r : FlR} (hk : k < m) (hr : mine[k]? = some r) (hn : 0 < r.n) (hg : r.A = some ⟨g, 0, none⟩) (u : Value) : Sp mine B X m w (W.setCell ⟨g, o, none⟩ u) :=
  ⟨h.k.set (p := ⟨g, o, none⟩) ⟨k, r, hk, hr, hn, FlR.blk_eq hg⟩ u, fun s hs hsn => by
    obtain ⟨g', h1, h2, h3, h4⟩ := h.wr s hs hsn
    exact ⟨g', h1, h2, h3, h4.set _ _⟩⟩
theorem ret_small {W : World} {lo p : Nat} {rs out : List FlR} (ht : TB W lo p rs) (hw : ∀ r ∈ out, r.ok) (hm : ∀ x ∈ out.map (·.f), x ∈ rs.map (·.f)) : ∀ r ∈ out, r.n ≤ 100000 := fun r hr => by
  obtain ⟨mp, A, n, c, g, hx, ho, _⟩ := ht.ex
  obtain ⟨r', hr', e'⟩ := List.mem_map.1 (hm r.f (List.mem_map_of_mem hr))
  have h1 := (hw r hr).len
  have h2 := (ho.own.wf r' hr').len
  have h3 := ht.small r' hr'
  rw [e', h1] at h2
  omega
/-- The flight that is told where none is. -/
def zfl : FlR := FlR.mk ⟨⟨#[]⟩, 0, ⟨#[]⟩, ⟨#[]⟩, 0, 0, 0, [], 0⟩ none 0 0
theorem zfl_ok : zfl.ok := ⟨⟨by unfold okStr; decide, by unfold okInt; decide, by unfold okStr; decide, by unfold okStr; decide, by unfold okByte; decide, by unfold okInt; decide, by unfold okInt; decide, by unfold okInt; decide⟩, rfl, fun _ => rfl, Nat.le_refl _⟩
def fOf (x : Option Flt) : Flt := x.getD zfl.f
theorem RetFC.row {w w' : World} {o : Option FlR} {e : Ending} {x : Option Flt} (hx : o.map (·.f) = x) (h : RetFC w o e w') :
    ∃ r : FlR, e = .returned (.tuple #[.agg #[.string r.f.car, .int .i64 r.f.num, .string r.f.frm, .string r.f.to_, .int .u8 r.f.days, .int .i64 r.f.dep, .int .i64 r.f.arr, .slice r.A r.n r.c, .int .i64 r.f.pln], .bool x.isSome]) ∧ r.ok ∧ RowW w' w.heap.size w'.heap.size r ∧ r.f = fOf x ∧ (∀ k, r.blk = some k → k < w'.heap.size) ∧ Below w.heap.size w w' := by
  subst hx
  cases o with
  | none => exact ⟨zfl, h.1, zfl_ok, ⟨Sl.nil_ _, fun h0 => absurd h0 (by decide)⟩, rfl, fun k hk => (by cases hk), h.2⟩
  | some r =>
    obtain ⟨A, c, h1, h2, h3, h4⟩ := h
    exact ⟨FlR.mk r.f A r.n c, h1, h2, ClOwn.roww h3 (Nat.le_refl _), rfl, fun k hk => (Own.lt h3 k hk).2, h4⟩
theorem RetF.row {w w' W : World} {rl : List FlR} {k : Key} {e : Ending} {x : Option Flt} {B : Nat} (hx : (findR rl k).map (·.f) = x) (h : RetF w (findR rl k) e w') (hok : ∀ r ∈ rl, r.ok ∧ ClAt W 0 B r ∧ r.n ≤ 100000) :
    ∃ s : FlR, e = .returned (.tuple #[.agg #[.string s.f.car, .int .i64 s.f.num, .string s.f.frm, .string s.f.to_, .int .u8 s.f.days, .int .i64 s.f.dep, .int .i64 s.f.arr, .slice s.A s.n s.c, .int .i64 s.f.pln], .bool x.isSome]) ∧ s.ok ∧ ClAt W 0 B s ∧ s.f = fOf x ∧ s.n ≤ 100000 ∧ Below w.heap.size w w' := by
  subst hx
  cases ho : findR rl k with
  | none =>
    rw [ho] at h
    exact ⟨zfl, h.1, zfl_ok, Sl.nil_ _, rfl, by decide, h.2⟩
  | some r =>
    rw [ho] at h
    have hm : r ∈ rl := List.mem_of_find?_eq_some ho
    obtain ⟨h1, h2, h3⟩ := hok r hm
    exact ⟨r, h.1, h1, h2, rfl, h3, h.2⟩
theorem same_one {r s : FlR} {w : World} {B X : Nat} (hr : RowW w B X r) (hs : ClAt w 0 B s) (hrk : r.ok) (hsk : s.ok) (hb : ∀ k, r.blk = some k → k < X) (hBX : B ≤ X) (hX : X ≤ w.heap.size) (hn : s.n ≤ 100000) (heq : r.f = s.f) :
    Calls Tryd.prog 18 #[.slice (some ⟨w.heap.size, 0, none⟩) 1 1, .slice (some ⟨w.heap.size + 1, 0, none⟩) 1 1] ((w.alloc (.cells #[.string r.f.car, .int .i64 r.f.num, .string r.f.frm, .string r.f.to_, .int .u8 r.f.days, .int .i64 r.f.dep, .int .i64 r.f.arr, .slice r.A r.n r.c, .int .i64 r.f.pln] 26)).alloc (.cells #[.string s.f.car, .int .i64 s.f.num, .string s.f.frm, .string s.f.to_, .int .u8 s.f.days, .int .i64 s.f.dep, .int .i64 s.f.arr, .slice s.A s.n s.c, .int .i64 s.f.pln] 26)) (RetS ((w.alloc (.cells #[.string r.f.car, .int .i64 r.f.num, .string r.f.frm, .string r.f.to_, .int .u8 r.f.days, .int .i64 r.f.dep, .int .i64 r.f.arr, .slice r.A r.n r.c, .int .i64 r.f.pln] 26)).alloc (.cells #[.string s.f.car, .int .i64 s.f.num, .string s.f.frm, .string s.f.to_, .int .u8 s.f.days, .int .i64 s.f.dep, .int .i64 s.f.arr, .slice s.A s.n s.c, .int .i64 s.f.pln] 26)) B true) := by
  have hbl := ((Below.refl w.heap.size w).alloc (Nat.le_refl _) (.cells #[.string r.f.car, .int .i64 r.f.num, .string r.f.frm, .string r.f.to_, .int .u8 r.f.days, .int .i64 r.f.dep, .int .i64 r.f.arr, .slice r.A r.n r.c, .int .i64 r.f.pln] 26)).alloc (by simp) (.cells #[.string s.f.car, .int .i64 s.f.num, .string s.f.frm, .string s.f.to_, .int .u8 s.f.days, .int .i64 s.f.dep, .int .i64 s.f.arr, .slice s.A s.n s.c, .int .i64 s.f.pln] 26)
  have h1 := (Sl.one (T := tFl) w r hrk #[.string r.f.car, .int .i64 r.f.num, .string r.f.frm, .string r.f.to_, .int .u8 r.f.days, .int .i64 r.f.dep, .int .i64 r.f.arr, .slice r.A r.n r.c, .int .i64 r.f.pln] rfl 26).alloc (by simp) (.cells #[.string s.f.car, .int .i64 s.f.num, .string s.f.frm, .string s.f.to_, .int .u8 s.f.days, .int .i64 s.f.dep, .int .i64 s.f.arr, .slice s.A s.n s.c, .int .i64 s.f.pln] 26)
  have h2 := Sl.one (T := tFl) (w.alloc (.cells #[.string r.f.car, .int .i64 r.f.num, .string r.f.frm, .string r.f.to_, .int .u8 r.f.days, .int .i64 r.f.dep, .int .i64 r.f.arr, .slice r.A r.n r.c, .int .i64 r.f.pln] 26)) s hsk #[.string s.f.car, .int .i64 s.f.num, .string s.f.frm, .string s.f.to_, .int .u8 s.f.days, .int .i64 s.f.dep, .int .i64 s.f.arr, .slice s.A s.n s.c, .int .i64 s.f.pln] rfl 26
  rw [World.size_alloc] at h2
  have hrn : r.n ≤ 100000 := by have a1 := hrk.len; have a2 := hsk.len; rw [heq, a2] at a1; omega
  have h := same_law [r] [s] _ _ 1 1 1 1 _ B X _ _ _ _ 0 B h1 h2 (fun x hx => by rw [List.mem_singleton.1 hx]; exact ClAt.below hs hbl (Nat.le_trans hBX hX)) (.inr (by omega)) (.inl (Nat.le_refl _))
    (fun x hx => by rw [List.mem_singleton.1 hx]; exact hr.below hbl hX) (fun x hx a ha => by
      rw [List.mem_singleton.1 hx]
      injection ha with ha
      subst ha
      intro h3
      have h4 : w.heap.size < X := hb _ h3
      omega) (List.pairwise_singleton _ _) (by omega) (by omega) (fun x hx => by rw [List.mem_singleton.1 hx]; exact hrn) (fun x hx => by rw [List.mem_singleton.1 hx]; exact hn) (by simp) (by simp) (by simp; omega) (by simp; omega) (by simp; omega)
  rw [decide_eq_true (show [r].map (·.f) = [s].map (·.f) by simp [heq])] at h
  exact h
set_option maxRecDepth 100000 in
set_option maxHeartbeats 8000000 in
theorem flightTables_any (rl : List FlR) (A : Option Addr) (n c : Nat) (ky : Key) (w : World) (hs : FlS w 0 w.heap.size A n rl) (hg : ky.ok) (hn : n ≤ 9223372036854775807) :
    Calls Tryd.prog 7 #[.slice A n c, .agg #[.string ky.car, .int .i64 ky.num]] w (RetB w true) := by
  have HS := Lib.hid hs
  have HG := Lib.hid hg
  have HL := Lib.hid hs.sl.len
  obtain ⟨kc, kn⟩ := ky
  dsimp only
  have HB := box1 w #[.string kc, .int .i64 kn] 23
  have hnl := eql_tab
  have hnl0 := eql_tab0
  clear hs hg
  go_enter Tryd.func7, Tryd.ntmps7
  go_upto_region 1 with fail
  refine wp_world (fun W => Bx W w.heap.size #[.string kc, .int .i64 kn] 23 ∧ Below w.heap.size w W) HB ?_
  clear HB
  rintro W ⟨b1, hb⟩
  go_wp2_with fail
  refine (awake_any W).mono ?_
  rintro e w1 ⟨rfl, h1⟩
  have b1' := b1.below h1 b1.lt
  have hb1 := hb.trans (h1.mono hb.size)
  clear b1 hb h1
  go_wp2_with fail
  refine (few_any rl A n c w1 0 w.heap.size (HS.out.below hb1 (Nat.le_refl _)) hn).mono ?_
  rintro e w2 ⟨q, rfl, rfl, hfew⟩
  rcases q with _ | _
  · go_wp2
    go_ret
    exact ⟨rfl, hb1⟩
  obtain ⟨hn3, hsm3⟩ := hfew rfl
  have HSM : Hid (∀ r ∈ rl, r.n ≤ 100000) := fun r hr => Nat.le_trans (hsm3 r hr) (by omega)
  clear hfew hsm3
  go_wp2_with fail
  refine (copied_law rl A n c w1 0 w.heap.size (HS.out.below hb1 (Nat.le_refl _)) (by omega) hb1.size HSM.out).mono ?_
  rintro e w2 ⟨A2, n2, c2, mine, rfl, ho2, hm2, h2⟩
  have z1 : w.heap.size < w1.heap.size := b1'.lt
  have b2 := b1'.below h2 b1'.lt
  have hb2 := hb1.trans (h2.mono hb1.size)
  have hn2 : n2 ≤ 3000 := by have h5 := congrArg List.length hm2; have h6 := ho2.own.sl.len; have h7 := HL.out; simp only [List.length_map] at h5; omega
  have hsm2 : ∀ r ∈ mine, r.n ≤ 100000 := fun r hr => by
    have h5 : r.f ∈ rl.map (·.f) := by rw [← hm2]; exact List.mem_map_of_mem hr
    obtain ⟨r', hr', e'⟩ := List.mem_map.1 h5
    have h6 := (ho2.own.wf r hr).len
    have h7 := (HS.out.sl.wf r' hr').len
    rw [e', h6] at h7
    rw [h7]
    exact HSM.out r' hr'
  clear b1'
  go_wp2_with fail
  refine (new_any mine A2 n2 c2 w2 w1.heap.size w2.heap.size ho2.sl (by omega) (Nat.le_refl _) hsm2).mono ?_
  rintro e w3 hq
  unfold NewQ at hq
  rw [hm2] at hq
  obtain ⟨h3, hq⟩ := hq
  have b3 := b2.below h3 b2.lt
  have hb3 := hb2.trans (h3.mono hb2.size)
  have hz3 := hb3.size
  have hlo : w.heap.size < w2.heap.size := b2.lt
  have HRW := Lib.hid (fun r (hr : r ∈ mine) => (ClOwn.roww (ho2.cl r hr) (Nat.le_refl _)).below h3 (Nat.le_refl _))
  have HOFF := Lib.hid ho2.off
  have HL2 := Lib.hid (Sl.below ho2.own.sl h3 (Nat.le_refl _))
  have HSM2 := Lib.hid hsm2
  have z12 := h2.size
  have z23 := h3.size
  clear b2 hsm2 hm2 ho2 h2 h3
  rcases hq with ⟨hbad, rfl⟩ | ⟨hnew, p, rs, rfl, ht, htab⟩
  · generalize hcode : newF (rl.map (·.f)) = code at hbad
    have HC := Lib.hid hcode
    have hbad' : (code != 0) = true := by simpa using hbad
    have hbad2 : decide (code = 0) = false := by simpa using hbad
    have hbad3 : decide (code = code) = true := by simp
    clear hcode hbad
    go_wp2_with fail
    refine (rnew_any rl A n c w3 0 w.heap.size (HS.out.below hb3 (Nat.le_refl _)) (by omega) hz3 HSM.out).mono ?_
    rintro e w4 ⟨rfl, h4⟩
    rw [HC.out]
    go_wp2
    go_ret
    exact ⟨ret_bool rfl, hb3.trans (h4.mono hz3)⟩
  · have HC := Lib.hid hnew
    have HTAB := Lib.hid htab
    clear htab hnew
    go_wp2_with fail
    refine (rnew_any rl A n c w3 0 w.heap.size (HS.out.below hb3 (Nat.le_refl _)) (by omega) hz3 HSM.out).mono ?_
    rintro e w4 ⟨rfl, h4⟩
    rw [HC.out]
    have b4 := b3.below h4 b3.lt
    have ht4 := ht.keep h4
    have hb4 := hb3.trans (h4.mono hz3)
    have HRW4 := Lib.hid (fun r (hr : r ∈ mine) => (HRW.out r hr).below h4 z23)
    have HL4 := Lib.hid (Sl.below HL2.out h4 z23)
    have z34 := h4.size
    clear b3 ht hb3 h4 HRW HL2
    go_wp2
    go_loopw [9] (fun i wr => ∃ k : Nat, k ≤ n2 ∧ i = .int .i64 k ∧ Sp mine w1.heap.size w2.heap.size n2 w4 wr) (fun i _ => n2 - (intOf i).toNat)
    case atStart => exact ⟨0, by omega, rfl, Sp.start HRW4.out⟩
    case round =>
      obtain ⟨k, hk, rfl, hP⟩ := hrel
      by_cases hlt : k < n2
      · obtain ⟨b0, o0, r, hA, _, hb0, hx, hok, d0, d1, d2, d3, d4, d5, d6, d7, d8⟩ := HL4.out.flt_ hlt
        subst hA
        have N0 : ¬ Tch mine n2 b0 := fun ⟨i, x, _, hxx, _, hbb⟩ => HOFF.out x (List.mem_of_getElem? hxx) b0 rfl hbb
        have z0 : b0 < w4.heap.size := by omega
        have HD7 := Lib.hid d7
        replace d7 := (hP.k.cell z0 N0).trans d7
        clear d0 d1 d2 d3 d4 d5 d6 d8 hok
        have i0 : (0 : Int) ≤ k := by omega
        have i1 : (k : Int) < n2 := by omega
        have t1 : decide ((k : Int) < n2) = true := by simp; omega
        have hrn : r.n ≤ 100000 := HSM2.out r (List.mem_of_getElem? hx.out)
        go_wp2
        go_loopw [10] (fun i wr => ∃ m : Nat, m ≤ r.n ∧ i = .int .i64 m ∧ Sp mine w1.heap.size w2.heap.size n2 w4 wr) (fun i _ => r.n - (intOf i).toNat)
        case atStart => exact ⟨0, Nat.zero_le _, rfl, hP⟩
        case round =>
          clear hP d7
          obtain ⟨m, hm, rfl, hP⟩ := hrel
          have d7 := (hP.k.cell z0 N0).trans HD7.out
          have hsz := hP.k.size
          by_cases hml : m < r.n
          · obtain ⟨g, hg, hg1, hg2, hWC⟩ := hP.wr r (List.mem_of_getElem? hx.out) (by omega)
            rw [hg] at d7
            obtain ⟨⟨u, c0⟩, f0⟩ := hWC (m * 2 + 1) (by omega)
            have HGG := Lib.hid hg
            clear hWC hg
            have m0 : (0 : Int) ≤ m := by omega
            have m1 : (m : Int) < r.n := by omega
            have t2 : decide ((m : Int) < r.n) = true := by simp; omega
            have hgw : g < wr.heap.size := by omega
            go_wp2
            go_roundw
            case rel => exact ⟨m + 1, by omega, by go_num, hP.set hlt hx.out (by omega) HGG.out _⟩
            case measure => simp [intOf]; omega
          · obtain rfl : m = r.n := by omega
            have t2 : decide ((r.n : Int) < r.n) = false := by simp
            go_wp2
            go_roundw
            case rel => exact ⟨k + 1, by omega, by go_num, hP⟩
            case measure => simp [intOf]; omega
      · obtain rfl : n2 = k := by omega
        have t1 : decide ((n2 : Int) < n2) = false := by simp
        have hbw : Below w1.heap.size w4 wr := hP.k.below (by omega) fun b hb => (Tch.in_ HRW4.out hb).1
        have bx := b4.below hbw z1
        have ht := ht4.keepB fun j hj hj2 => hP.k.block j hj2 fun h => by have := Tch.in_ HRW4.out h; omega
        have hb := hb4.trans (hbw.mono (Nat.le_of_lt z1))
        clear hP hbw b4 ht4 hb4
        go_wp2_with fail
        refine (tall_any rs p _ wr ht).mono ?_
        rintro e w5 ⟨A5, n5, c5, out5, rfl, ho5, hm5, h5⟩
        have sm5 := ret_small ht ho5.own.wf (by rw [hm5]; exact fun _ h => h)
        have ln5 : n5 ≤ 100000 := by have a1 := congrArg List.length hm5; have a2 := ho5.own.sl.len; have a3 := ht.most; simp only [List.length_map] at a1; omega
        have hba := hb.trans (h5.mono hb.size)
        go_wp2_with fail
        refine (rall_any rl A n c w5 0 w.heap.size (HS.out.below hba (Nat.le_refl _)) (by omega) hba.size).mono ?_
        rintro e w6 ⟨A6, c6, rfl, ho6, h6⟩
        have hbb := hba.trans (h6.mono hba.size)
        go_wp2_with fail
        refine (same_own (c := c5) (c' := c6) ho5 h6 ho6 (fun x hx => ((HS.out.cl x ((mem_allL _ _ _).1 hx)).below hbb (Nat.le_refl _)).more (Nat.le_refl _) hb.size) h5.size ln5 (by rw [len_allL, HL.out]; omega) sm5 (fun x hx => HSM.out x ((mem_allL _ _ _).1 hx)) (by rw [hm5, allL_f]; exact HTAB.out.all.symm)).mono ?_
        rintro e w7 ⟨rfl, h7⟩
        have hb7 := (h5.trans (h6.mono h5.size)).trans h7
        replace bx := bx.below hb7 bx.lt
        replace ht := ht.keep hb7
        replace hb := hb.trans (hb7.mono hb.size)
        clear ho5 hm5 sm5 ln5 hba hbb ho6 h5 h6 h7 hb7
        go_wp2_with fail
        refine (tall_any rs p _ w7 ht).mono ?_
        rintro e w8 ⟨A5, n5, c5, out5, rfl, ho5, hm5, h5⟩
        have sm5 := ret_small ht ho5.own.wf (by rw [hm5]; exact fun _ h => h)
        have ln5 : n5 ≤ 100000 := by have a1 := congrArg List.length hm5; have a2 := ho5.own.sl.len; have a3 := ht.most; simp only [List.length_map] at a1; omega
        have hba := hb.trans (h5.mono hb.size)
        go_wp2_with fail
        refine (rall_any rl A n c w8 0 w.heap.size (HS.out.below hba (Nat.le_refl _)) (by omega) hba.size).mono ?_
        rintro e w9 ⟨A6, c6, rfl, ho6, h6⟩
        have hbb := hba.trans (h6.mono hba.size)
        go_wp2_with fail
        refine (same_own (c := c5) (c' := c6) ho5 h6 ho6 (fun x hx => ((HS.out.cl x ((mem_allL _ _ _).1 hx)).below hbb (Nat.le_refl _)).more (Nat.le_refl _) hb.size) h5.size ln5 (by rw [len_allL, HL.out]; omega) sm5 (fun x hx => HSM.out x ((mem_allL _ _ _).1 hx)) (by rw [hm5, allL_f]; exact HTAB.out.all.symm)).mono ?_
        rintro e w10 ⟨rfl, h7⟩
        have hb7 := (h5.trans (h6.mono h5.size)).trans h7
        replace bx := bx.below hb7 bx.lt
        replace ht := ht.keep hb7
        replace hb := hb.trans (hb7.mono hb.size)
        clear ho5 hm5 sm5 ln5 hba hbb ho6 h5 h6 h7 hb7
        go_wp2
        go_loopw [11] (fun i wr => ∃ k : Nat, k ≤ n + 1 ∧ i = .int .i64 k ∧ (∃ key : Key, key.ok ∧ Bx wr w.heap.size #[.string key.car, .int .i64 key.num] 23) ∧ TB wr w2.heap.size p rs ∧ Below w.heap.size w wr) (fun i _ => n + 1 - (intOf i).toNat)
        case atStart => exact ⟨0, by omega, rfl, ⟨⟨kc, kn⟩, HG.out, bx⟩, ht, hb⟩
        case round =>
          clear bx ht hb
          obtain ⟨k, hk, rfl, ⟨⟨xc, xn⟩, hxk, bx⟩, ht, hb⟩ := hrel
          dsimp only at bx
          by_cases hle : k ≤ n
          · have hle' : decide ((k : Int) ≤ n) = true := by simp; omega
            have c1 := bx.cells
            have f1 := bx.free
            rcases Nat.lt_or_ge k n with hlt | hge
            case' inl =>
              obtain ⟨b0, o0, s, hA, _, _, hx, hok, hcl, d0, d1, d2, d3, d4, d5, d6, d7, d8⟩ := (HS.out.below hb (Nat.le_refl _)).at_ hlt
              subst hA
              have i0 : (0 : Int) ≤ k := by omega
              have i1 : (k : Int) < n := by omega
              have hlt' : decide ((k : Int) < n) = true := by simp; omega
              go_upto_region 26 with fail
              refine wp_world (fun V => ∃ key : Key, key.ok ∧ Bx V w.heap.size #[.string key.car, .int .i64 key.num] 23 ∧ TB V w2.heap.size p rs ∧ Below w.heap.size w V) ⟨s.key, ⟨hok.f.car, hok.f.num⟩, (bx.put 0 (.string s.f.car)).put 1 (.int .i64 s.f.num), (ht.setCell (by simp; omega) _).setCell (by simp; omega) _, (hb.setCell (by simp) _).setCell (by simp) _⟩ ?_
              clear bx ht hb c1 f1 d0 d1 d2 d3 d4 d5 d6 d7 d8 hx hok hcl
            case' inr =>
              have hlt' : decide ((k : Int) < n) = false := by simp; omega
              go_upto_region 26 with fail
              refine wp_world (fun V => ∃ key : Key, key.ok ∧ Bx V w.heap.size #[.string key.car, .int .i64 key.num] 23 ∧ TB V w2.heap.size p rs ∧ Below w.heap.size w V) ⟨⟨xc, xn⟩, hxk, bx, ht, hb⟩ ?_
              clear bx ht hb c1 f1
            all_goals
              rintro V ⟨⟨yc, yn⟩, hyk, bx, ht, hb⟩
              dsimp only at bx
              have c1 := bx.cells
              have zb := bx.lt
              go_wp2_with fail
              refine (find_any rs p _ ⟨yc, yn⟩ V ht hyk).mono ?_
              rintro e v4 hq
              generalize hxx : findF (rl.map (·.f)) (⟨yc, yn⟩ : Key) = x
              have HX := Lib.hid hxx
              obtain ⟨r1, rfl, hr1, hw1, hf1, hk1, h4⟩ := hq.row (x := x) (by rw [← findR_f, HTAB.out.find, HX.out])
              have HW1 := Lib.hid hw1
              have HK1 := Lib.hid hk1
              have HF1 := Lib.hid hf1
              have bx4 := bx.below h4 zb
              have zb4 := bx4.lt
              have c4 := bx4.cells
              have z4 := h4.size
              clear c1 hq hw1 hk1 hf1 hxx
              go_upto_region 27 with fail
              refine wp_world (fun U => Bx U w.heap.size #[.string yc, .int .i64 yn] 23 ∧ Bx U v4.heap.size #[.string r1.f.car, .int .i64 r1.f.num, .string r1.f.frm, .string r1.f.to_, .int .u8 r1.f.days, .int .i64 r1.f.dep, .int .i64 r1.f.arr, .slice r1.A r1.n r1.c, .int .i64 r1.f.pln] 26 ∧ Below v4.heap.size v4 U) ⟨bx4.alloc _, Bx.new _ _ _, (Below.refl _ _).alloc (Nat.le_refl _) _⟩ ?_
              clear c4 bx4
              rintro U ⟨bu, bf, hU⟩
              have c4 := bu.cells
              have z5 := bf.lt
              have zU := hU.size
              have hVU := h4.trans (hU.mono z4)
              have hbU := hb.trans (hVU.mono hb.size)
              have HRF := Lib.hid (rfind_any rl _ n c ⟨yc, yn⟩ U 0 w.heap.size (HS.out.below hbU (Nat.le_refl _)) (Nat.le_trans hn3 (by decide)) hbU.size)
              go_wp2_with fail
              refine HRF.out.mono ?_
              rintro e v6 hq
              obtain ⟨s1, rfl, hs1, hcs1, hg1, hsn, h6⟩ := hq.row (W := w) (B := w.heap.size) (x := x) (by rw [← findR_f, HX.out]) (fun r hr => ⟨HS.out.sl.wf r hr, HS.out.cl r hr, HSM.out r hr⟩)
              have HCS := Lib.hid hcs1
              have HF := Lib.hid (HF1.out.trans hg1.symm)
              have b6 := bu.below h6 bu.lt
              have bf6 := bf.below h6 bf.lt
              have z6 := h6.size
              have hV6 := hVU.trans (h6.mono (Nat.le_trans z4 zU))
              clear c4 hq hcs1 hg1 bu bf HF1
              go_upto_region 28 with fail
              refine wp_world (fun U2 => Bx U2 v4.heap.size #[.string r1.f.car, .int .i64 r1.f.num, .string r1.f.frm, .string r1.f.to_, .int .u8 r1.f.days, .int .i64 r1.f.dep, .int .i64 r1.f.arr, .slice r1.A r1.n r1.c, .int .i64 r1.f.pln] 26 ∧ Bx U2 v6.heap.size #[.string s1.f.car, .int .i64 s1.f.num, .string s1.f.frm, .string s1.f.to_, .int .u8 s1.f.days, .int .i64 s1.f.dep, .int .i64 s1.f.arr, .slice s1.A s1.n s1.c, .int .i64 s1.f.pln] 26 ∧ Below v6.heap.size v6 U2) ⟨bf6.alloc _, Bx.new _ _ _, (Below.refl _ _).alloc (Nat.le_refl _) _⟩ ?_
              clear b6 bf6
              rintro U2 ⟨bf7, bs7, hU2⟩
              have c7 := bf7.cells
              have cs := bs7.cells
              have z7 := bf7.lt
              have zs := bs7.lt
              have hzU2 := hU2.size
              have hV7 := hV6.trans (hU2.mono (Nat.le_trans z4 (Nat.le_trans zU z6)))
              have h47 : Below v4.heap.size v4 U2 := (hU.trans (h6.mono zU)).trans (hU2.mono (Nat.le_trans zU z6))
              have HSO := Lib.hid (same_one (w := U2) (B := V.heap.size) (X := v4.heap.size) (HW1.out.below h47 (Nat.le_refl _)) ((HCS.out.below (hb.trans (hV7.mono hb.size)) (Nat.le_refl _)).more (Nat.le_refl _) hb.size) hr1 hs1 HK1.out z4 (by omega) hsn HF.out)
              go_wp2_with fail
              refine HSO.out.mono ?_
              rintro e v8 ⟨rfl, h8⟩
              have hall : Below V.heap.size V v8 := ((hV7.alloc (by omega) _).alloc (by simp; omega) _).trans h8
              go_wp2
              go_roundw
              case rel => exact ⟨k + 1, by omega, by go_num, ⟨⟨yc, yn⟩, hyk, bx.below hall zb⟩, ht.keep hall, hb.trans (hall.mono hb.size)⟩
              case measure => simp [intOf]; omega
          · have hle' : decide ((k : Int) ≤ n) = false := by simp; omega
            go_wp2
            go_ret
            exact ⟨rfl, hb⟩
end Go.Proofs.YtodholjbefifeaaDoor
