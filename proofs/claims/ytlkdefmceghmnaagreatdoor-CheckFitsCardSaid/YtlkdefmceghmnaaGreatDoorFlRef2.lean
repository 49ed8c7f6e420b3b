/- The document's Level and New. -/
import Derived.Test.YtlkdefmceghmnaaGreatDoorFlRef1
namespace Go.Proofs.YtlkdefmceghmnaaGreatDoor
set_option linter.unusedVariables false
open Go Go.RowKit Go.Sort
def noCl (l : List Cls) (c : Int) (n : Nat) : Prop := ∀ j x, j < n → l[j]? = some x → x.let_ ≠ c
theorem lvF_at {l : List Cls} {c : Int} {n : Nat} {x : Cls} (h : noCl l c n) (hx : l[n]? = some x) (hk : x.let_ = c) : lvF l c = (x.lev, 0) := by
  have : l.find? (fun x => decide (x.let_ = c)) = some x := by
    induction n generalizing l with
    | zero =>
      cases l with
      | nil => cases hx
      | cons a t =>
        simp only [List.getElem?_cons_zero, Option.some.injEq] at hx
        subst hx
        rw [List.find?_cons, decide_eq_true hk]
    | succ n ih =>
      cases l with
      | nil => cases hx
      | cons a t =>
        rw [List.find?_cons, decide_eq_false (h 0 a (by omega) rfl)]
        exact ih (fun j s hj hs => h (j + 1) s (by omega) (by simpa using hs)) (by simpa using hx)
  unfold lvF
  rw [this]
theorem lvF_no {l : List Cls} {c : Int} (h : noCl l c l.length) : lvF l c = (0, 12) := by
  have : l.find? (fun x => decide (x.let_ = c)) = none := by
    rw [List.find?_eq_none]
    intro r hr
    obtain ⟨j, hj⟩ := List.mem_iff_getElem?.1 hr
    simpa using h j r (List.getElem?_eq_some_iff.1 hj).1 hj
  unfold lvF
  rw [this]
def RetN2 (w : World) (p : Int × Int) (e : Ending) (w' : World) : Prop := e = .returned (.tuple #[.int .i64 p.1, .int .i64 p.2]) ∧ Below w.heap.size w w'
theorem RetN2.mk' {w w' : World} {p : Int × Int} {a b : Int} (h : p = (a, b)) (hb : Below w.heap.size w w') : RetN2 w p (.returned (.tuple #[.int .i64 a, .int .i64 b])) w' := by subst h; exact ⟨rfl, hb⟩
theorem levelF_no {rl : List FlR} {g : Leg} {c : Int} (h : fliesF (rl.map (·.f)) g = false) : levelF (rl.map (·.f)) g c = (0, 9) := by unfold levelF; rw [h]; rfl
theorem levelF_yes {rl : List FlR} {g : Leg} {c : Int} {r : FlR} (h : fliesF (rl.map (·.f)) g = true) (hr : findR rl g.key = some r) : levelF (rl.map (·.f)) g c = lvF r.f.cls c := by unfold levelF; rw [h, findR_f, hr]; rfl
set_option maxRecDepth 100000 in
set_option maxHeartbeats 4000000 in
theorem rlevel_any (rl : List FlR) (A : Option Addr) (n c : Nat) (g : Leg) (cl : Int) (w : World) (lo hi : Nat) (hs : FlS w lo hi A n rl) (hn : n ≤ 100000) (hhi : hi ≤ w.heap.size) (hsm : ∀ r ∈ rl, r.n ≤ 100000) :
    Calls Tryz.prog 25 #[.slice A n c, .agg #[.string g.key.car, .int .i64 g.key.num, .int .i64 g.day], .int .u8 cl] w (RetN2 w (levelF (rl.map (·.f)) g cl)) := by
  have HS := Lib.hid hs
  have HM := Lib.hid hsm
  clear hsm
  obtain ⟨⟨kc, kn⟩, d⟩ := g
  dsimp only
  have HB := box1 w #[.string kc, .int .i64 kn, .int .i64 d] 74
  go_enter Tryz.func25, Tryz.ntmps25
  go_upto_region 1 with fail
  refine wp_world (fun W => Bx W w.heap.size #[.string kc, .int .i64 kn, .int .i64 d] 74 ∧ Below w.heap.size w W) HB ?_
  clear HB
  rintro W ⟨b1, hb⟩
  have c1 := b1.cells
  have z1 := b1.lt
  go_wp2_with fail
  refine (rflies_any rl A n c ⟨⟨kc, kn⟩, d⟩ W lo hi (hs.below hb hhi) hn (Nat.le_trans hhi hb.size)).mono ?_
  generalize hfr : fliesF (rl.map (·.f)) ⟨⟨kc, kn⟩, d⟩ = q
  have HF := Lib.hid hfr
  clear hfr
  rintro e w1 ⟨rfl, h1⟩
  have b1' := b1.below h1 z1
  have hb1 := hb.trans (h1.mono hb.size)
  clear c1
  have c1 := b1'.cells
  have z1' := b1'.lt
  rcases q with _ | _
  · have hno := Lib.hid (levelF_no (c := cl) HF.out)
    go_wp2
    go_ret2
    exact RetN2.mk' hno.out hb1
  · go_wp2_with fail
    refine (rfind_any rl A n c ⟨kc, kn⟩ w1 lo hi (HS.out.below hb1 hhi) hn (Nat.le_trans hhi hb1.size)).mono ?_
    generalize hfr : findR rl ⟨kc, kn⟩ = fr
    have HR := Lib.hid hfr
    clear hfr
    intro e w2 hfind
    rcases fr with _ | ⟨f, A', n', c'⟩
    · have := fliesF_none (g := ⟨⟨kc, kn⟩, d⟩) HR.out
      rw [HF.out] at this
      cases this
    obtain ⟨rfl, h2⟩ := hfind
    have hyes := Lib.hid (levelF_yes (c := cl) HF.out HR.out)
    have hmem := (findR_mem HR.out).1
    have hm := Lib.hid (HS.out.sl.wf _ hmem)
    have hcl := Lib.hid (HS.out.cl _ hmem)
    have hn' : n' ≤ 100000 := HM.out _ hmem
    clear hmem
    have hb2 := hb1.trans (h2.mono hb1.size)
    have hlen : Hid (f.cls.length = n') := hm.out.len
    dsimp only
    clear c1 hs
    go_upto_region 4 with fail
    refine wp_world (fun V => Bx V w2.heap.size #[.string f.car, .int .i64 f.num, .string f.frm, .string f.to_, .int .u8 f.days, .int .i64 f.dep, .int .i64 f.arr, .slice A' n' c', .int .i64 f.pln] 55 ∧ Below w.heap.size w V) ⟨Bx.new _ _ _, hb2.alloc hb2.size _⟩ ?_
    clear b1 b1'
    rintro V ⟨e1, hV⟩
    have c1 := e1.cells
    go_wp2
    go_loop [10] (fun i => ∃ j : Nat, j ≤ n' ∧ i = .int .i64 j ∧ Hid (noCl f.cls cl j)) (fun i => n' - (intOf i).toNat)
    case atStart => exact ⟨0, by omega, rfl, fun j r hj => absurd hj (by omega)⟩
    case round =>
      obtain ⟨j, hj, rfl, HN⟩ := hrel
      by_cases hlt : j < n'
      · obtain ⟨b0, o0, ⟨x, y⟩, hA, _, _, hx, hok, d0, d1⟩ := (Sl.below hcl.out hV hhi).cls_ hlt
        have hA' : A' = some ⟨b0, o0, none⟩ := hA
        subst hA'
        dsimp only at d0 d1
        have i0 : (0 : Int) ≤ j := by omega
        have i1 : (j : Int) < n' := by omega
        by_cases hq : x = cl
        · have hq' : (x == cl) = true := by simp [hq]
          have hfin := Lib.hid (hyes.out.trans (lvF_at HN.out hx.out hq))
          clear hq
          go_wp2
          go_ret2
          exact RetN2.mk' hfin.out hV
        · have hq' : (x == cl) = false := by simp [hq]
          have hno := Lib.hid (show noCl f.cls cl (j + 1) from fun i r hi hr => by
            rcases Nat.lt_succ_iff_lt_or_eq.1 hi with h | h
            · exact HN.out i r h hr
            · rw [h, hx.out] at hr
              injection hr with hr
              subst hr
              exact hq)
          clear hq
          go_wp2
          go_round
          case rel => exact ⟨j + 1, by omega, by go_num, hno⟩
          case measure => simp [intOf]; omega
      · obtain rfl : n' = j := by omega
        have hfin := Lib.hid (hyes.out.trans (lvF_no (by rw [show f.cls.length = n' from hlen.out]; exact HN.out)))
        go_wp2
        go_ret2
        exact RetN2.mk' hfin.out hV
theorem newF_many {l : List Flt} (h : 64 < l.length) : newF l = 2 := by unfold newF; rw [if_pos h]
theorem newF_form {l : List Flt} (h : ¬ 64 < l.length) {f : Flt} (hf : f ∈ l) (hr : rightB f = false) : newF l = 4 := by
  unfold newF
  rw [if_neg h, if_neg (by rw [List.all_eq_true]; intro hh; rw [hh f hf] at hr; cases hr)]
theorem newF_twice {l : List Flt} (h : ¬ 64 < l.length) (hr : ∀ f ∈ l, rightB f = true) (hd : ¬ (l.map Flt.key).Nodup) : newF l = 8 := by
  unfold newF
  rw [if_neg h, if_pos (List.all_eq_true.2 hr), if_neg hd]
theorem newF_ok {l : List Flt} (h : ¬ 64 < l.length) (hr : ∀ f ∈ l, rightB f = true) (hd : (l.map Flt.key).Nodup) : newF l = 0 := by
  unfold newF
  rw [if_neg h, if_pos (List.all_eq_true.2 hr), if_pos hd]
/-- Right so far; no key twice so far. -/
def rgt (rl : List FlR) (n : Nat) : Prop := ∀ j r, j < n → rl[j]? = some r → rightB r.f = true
def apk (rl : List FlR) (n : Nat) : Prop := ∀ i j r s, i < j → j < n → rl[i]? = some r → rl[j]? = some s → r.key ≠ s.key
theorem rgt_all {rl : List FlR} (h : rgt rl rl.length) : ∀ f ∈ rl.map (·.f), rightB f = true := by
  intro f hf
  obtain ⟨r, hr, rfl⟩ := List.mem_map.1 hf
  obtain ⟨j, hj⟩ := List.mem_iff_getElem?.1 hr
  exact h j r (List.getElem?_eq_some_iff.1 hj).1 hj
theorem apk_nodup {rl : List FlR} (h : apk rl rl.length) : ((rl.map (·.f)).map Flt.key).Nodup := by
  rw [List.map_map, List.nodup_iff_pairwise_ne, List.pairwise_map, List.pairwise_iff_getElem]
  intro i j hi hj hij
  exact h i j _ _ hij hj (List.getElem?_eq_getElem hi) (List.getElem?_eq_getElem hj)
theorem apk_not {rl : List FlR} {i j : Nat} {r s : FlR} (hij : i < j) (hi : rl[i]? = some r) (hj : rl[j]? = some s) (h : r.key = s.key) : ¬ ((rl.map (·.f)).map Flt.key).Nodup := by
  intro hn
  rw [List.map_map] at hn
  have g1 : (rl.map (Flt.key ∘ (·.f)))[i]? = some r.key := by rw [List.getElem?_map, hi]; rfl
  have g2 : (rl.map (Flt.key ∘ (·.f)))[j]? = some r.key := by rw [List.getElem?_map, hj, h]; rfl
  have := (List.getElem?_inj (List.getElem?_eq_some_iff.1 g1).1 hn).1 (g1.trans g2.symm)
  omega
def RetI (w : World) (v : Int) (e : Ending) (w' : World) : Prop := e = .returned (.int .i64 v) ∧ Below w.heap.size w w'
set_option maxRecDepth 100000 in
set_option maxHeartbeats 4000000 in
theorem rnew_all (rl : List FlR) (A : Option Addr) (n c : Nat) (w : World) (lo hi : Nat) (hs : FlS w lo hi A n rl) (hhi : hi ≤ w.heap.size) :
    Calls Tryz.prog 6 #[.slice A n c] w (RetI w (newF (rl.map (·.f)))) := by
  have HS := Lib.hid hs
  have HL := Lib.hid hs.sl.len
  clear hs
  by_cases hm : 64 < n
  · have h64 := Lib.hid (newF_many (l := rl.map (·.f)) (by rw [List.length_map, HL.out]; exact hm))
    have hm' : (64 : Int) < n := by omega
    go_enter Tryz.func6, Tryz.ntmps6
    go_wp2
    go_ret
    exact ⟨ret_int h64.out.symm, Below.refl _ _⟩
  have H64 : Hid (¬ 64 < (rl.map (·.f)).length) := by show ¬ _; rw [List.length_map, HL.out]; exact hm
  have hm' : (n : Int) ≤ 64 := by omega
  go_enter Tryz.func6, Tryz.ntmps6
  go_wp2
  go_loopw [3] (fun i wr => ∃ j : Nat, j ≤ n ∧ i = .int .i64 j ∧ Hid (rgt rl j) ∧ Below w.heap.size w wr) (fun i _ => n - (intOf i).toNat)
  case atStart => exact ⟨0, by omega, rfl, fun j r hj => absurd hj (by omega), Below.refl _ _⟩
  case round =>
    obtain ⟨j, hj, rfl, HN, hb⟩ := hrel
    by_cases hlt : j < n
    · obtain ⟨b0, o0, s, hA, _, _, hx, hok, hcl, d0, d1, d2, d3, d4, d5, d6, d7, d8⟩ := (HS.out.below hb hhi).at_ hlt
      subst hA
      have i0 : (0 : Int) ≤ j := by omega
      have i1 : (j : Int) < n := by omega
      go_wp2_with fail
      refine (rright_all s wr lo hi hok hcl (Nat.le_trans hhi hb.size)).mono ?_
      generalize hq : rightB s.f = q
      have HQ := Lib.hid hq
      clear hq
      rintro e w1 ⟨rfl, h1⟩
      have hb1 := hb.trans (h1.mono hb.size)
      rcases q with _ | _
      · have hfin := Lib.hid (newF_form H64.out (List.mem_map_of_mem (List.mem_of_getElem? hx.out)) HQ.out)
        go_wp2
        go_ret
        exact ⟨ret_int hfin.out.symm, hb1⟩
      · have hno := Lib.hid (show rgt rl (j + 1) from fun i r hi hr => by
          rcases Nat.lt_succ_iff_lt_or_eq.1 hi with h | h
          · exact HN.out i r h hr
          · rw [h, hx.out] at hr
            injection hr with hr
            subst hr
            exact HQ.out)
        go_wp2
        go_roundw
        case rel => exact ⟨j + 1, by omega, by go_num, hno, hb1⟩
        case measure => simp [intOf]; omega
    · obtain rfl : n = j := by omega
      have HR := Lib.hid (rgt_all (by rw [HL.out]; exact HN.out))
      clear HN
      go_wp2
      go_loopw [4] (fun i wr => ∃ j : Nat, j ≤ n ∧ i = .int .i64 j ∧ Hid (apk rl j) ∧ Below w.heap.size w wr) (fun i _ => n - (intOf i).toNat)
      case atStart => exact ⟨0, by omega, rfl, fun i j r s hij hj => absurd hj (by omega), hb⟩
      case round =>
        clear hb
        obtain ⟨wo, rfl⟩ : ∃ wo : World, wo = wr := ⟨_, rfl⟩
        obtain ⟨j, hj, rfl, HN, hb⟩ := hrel
        by_cases hlt : j < n
        · obtain ⟨b0, o0, s, hA, _, _, hx, hok, hcl, d0, d1, _⟩ := (HS.out.below hb hhi).at_ hlt
          subst hA
          have i0 : (0 : Int) ≤ j := by omega
          have i1 : (j : Int) < n := by omega
          clear d0 d1
          go_wp2
          go_loopw [5] (fun i wr => ∃ m : Nat, m ≤ j ∧ i = .int .i64 m ∧ Hid (noKey rl s.key m) ∧ Below w.heap.size w wr) (fun i _ => j - (intOf i).toNat)
          case atStart => exact ⟨0, by omega, rfl, fun i r hi => absurd hi (by omega), hb⟩
          case round =>
            clear hb
            obtain ⟨m, hmj, rfl, HK, hb⟩ := hrel
            by_cases hlt2 : m < j
            · obtain ⟨b1, o1, s1, hA, _, _, hx1, hok1, _, e0, e1, _⟩ := (HS.out.below hb hhi).at_ (show m < n by omega)
              injection hA with hA
              injection hA with g1 g2
              subst g1 g2
              obtain ⟨b2, o2, s2, hA, _, _, hx2, hok2, _, d0, d1, _⟩ := (HS.out.below hb hhi).at_ hlt
              injection hA with hA
              injection hA with g1 g2
              subst g1 g2
              have hss := hx2.out.symm.trans hx.out
              injection hss with hss
              have HSS := Lib.hid hss
              clear hss
              have k0 : (0 : Int) ≤ m := by omega
              have k1 : (m : Int) < n := by omega
              have k2 : (m : Int) < j := by omega
              have hk := fun u => eql_key s1.f.car s2.f.car s1.f.num s2.f.num u
              have hdec : (decide (s1.f.car = s2.f.car) && (decide (s1.f.num = s2.f.num))) = decide (s1.key = s2.key) := by unfold FlR.key Flt.key; rw [Bool.eq_iff_iff]; simp
              rw [hdec] at hk
              clear hdec
              generalize hq : decide (s1.key = s2.key) = q at hk
              have HQ := Lib.hid hq
              clear hq
              rcases q with _ | _
              · have hno := Lib.hid (show noKey rl s.key (m + 1) from fun i r hi hr => by
                  rcases Nat.lt_succ_iff_lt_or_eq.1 hi with h | h
                  · exact HK.out i r h hr
                  · rw [h, hx1.out] at hr
                    injection hr with hr
                    subst hr
                    rw [← HSS.out]
                    simpa using HQ.out)
                go_wp2
                go_quiet (fail)
                go_wp2
                go_roundw
                case rel => exact ⟨m + 1, by omega, by go_num, hno, below_drewN hb _⟩
                case measure => simp [intOf]; omega
              · have hfin := Lib.hid (newF_twice H64.out HR.out (apk_not hlt2 hx1.out hx2.out (by simpa using HQ.out)))
                go_wp2
                go_quiet (fail)
                go_wp2
                go_ret
                exact ⟨ret_int hfin.out.symm, below_drewN hb _⟩
            · obtain rfl : m = j := by omega
              have hno := Lib.hid (show apk rl (m + 1) from fun i j r s' hij hj hr hs' => by
                rcases Nat.lt_succ_iff_lt_or_eq.1 hj with h | h
                · exact HN.out i j r s' hij h hr hs'
                · subst h
                  rw [hx.out] at hs'
                  injection hs' with hs'
                  subst hs'
                  exact HK.out i r hij hr)
              go_wp2
              go_roundw
              case rel => exact ⟨m + 1, by omega, by go_num, hno, hb⟩
              case measure => simp [intOf]; omega
        · obtain rfl : n = j := by omega
          have hfin := Lib.hid (newF_ok H64.out HR.out (apk_nodup (by rw [HL.out]; exact HN.out)))
          go_wp2
          go_ret
          exact ⟨ret_int hfin.out.symm, hb⟩
theorem rnew_any (rl : List FlR) (A : Option Addr) (n c : Nat) (w : World) (lo hi : Nat) (hs : FlS w lo hi A n rl) (_ : n ≤ 100000) (hhi : hi ≤ w.heap.size) (_ : ∀ r ∈ rl, r.n ≤ 100000) :
    Calls Tryz.prog 6 #[.slice A n c] w (RetI w (newF (rl.map (·.f)))) := rnew_all rl A n c w lo hi hs hhi
end Go.Proofs.YtlkdefmceghmnaaGreatDoor
