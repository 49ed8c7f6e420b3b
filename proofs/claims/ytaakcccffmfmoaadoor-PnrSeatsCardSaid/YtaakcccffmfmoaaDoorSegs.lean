/- Segments: sound as the document says: the program's map of legs. -/
import Derived.Test.YtaakcccffmfmoaaDoorMaps
import Derived.Test.YtaakcccffmfmoaaDoorTexts
import Derived.RegionTactic
import Derived.ChangeAlike
namespace Go.Proofs.YtaakcccffmfmoaaDoor
set_option linter.unusedVariables false
open Go Go.RowKit
open Go.WideMaps (KeyLaw)
theorem laidOutA : laidOutB Tryd.prog = true := by kernel_rfl
theorem lawLeg : KeyLaw Tryd.prog 43 := deep_law_laid laidOutA (m := 3) (by omega) (of_decide_eq_true (by kernel_rfl)) (by kernel_rfl) (by kernel_rfl)
theorem lawTaken : KeyLaw Tryd.prog 94 := deep_law_laid laidOutA (m := 3) (by omega) (of_decide_eq_true (by kernel_rfl)) (by kernel_rfl) (by kernel_rfl)
theorem zeroInt (u : World) : (zeroValue 3).run Tryd.prog u = .ok (.int .i64 0) u := by kernel_rfl
def legV (s : Seg) : Value := .agg #[.string s.car, .int .i64 s.num, .int .i64 s.day]
theorem szT : ∃ n, Tryd.prog.types.size + 1 = n + 4 := by
  have : (3 : Nat) ≤ Tryd.prog.types.size := of_decide_eq_true (by kernel_rfl)
  exact ⟨Tryd.prog.types.size - 3, by omega⟩
theorem c43 : Tryd.prog.cellsOf 43 = 3 := by kernel_rfl
theorem c41 : Tryd.prog.cellsOf 41 = 2 := by kernel_rfl
theorem c94 : Tryd.prog.cellsOf 94 = 3 := by kernel_rfl
theorem c47 : Tryd.prog.cellsOf 47 = 2 := by kernel_rfl
theorem c9 : Tryd.prog.cellsOf 9 = 1 := by kernel_rfl
theorem c3 : Tryd.prog.cellsOf 3 = 1 := by kernel_rfl
theorem c5 : Tryd.prog.cellsOf 5 = 1 := by kernel_rfl
set_option maxRecDepth 100000 in
theorem legKey (s : Seg) (h : Seg.ok s) : ∃ l, keyOf Tryd.prog 43 (legV s) = some l := by
  obtain ⟨h1, h2, h3, h4⟩ := h
  unfold okStr at h1
  unfold okInt at h2 h3
  have w1 : s.car.size ≤ maxLen := by unfold maxLen; omega
  have w2 := WalkArith.wf_i64 h2
  have w3 := WalkArith.wf_i64 h3
  have kt : Tryd.prog.keyType 43 = true := by kernel_rfl
  obtain ⟨n, hn⟩ := szT
  have hf : (legV s).formed Tryd.prog 43 = true := by
    simp only [Value.formed, legV, Tryd.underlying43, c43]
    rfl
  have hL : ∃ l, Tryd.prog.keyLits (n + 4) 43 [.string s.car, .int .i64 s.num, .int .i64 s.day] = some l := by
    simp [Program.keyLits, Tryd.underlying43, Tryd.underlying41, Tryd.underlying9, Tryd.underlying3, c43, c41, c9, c3, w1, w2, w3]
    rw [if_pos (by intro i hi; rcases i with _ | _ | i <;> first | (simp; done) | omega)]
    exact ⟨_, rfl⟩
  obtain ⟨l, hl⟩ := hL
  refine ⟨.string (keyBytes l), ?_⟩
  unfold keyOf
  rw [Tryd.underlying43]
  dsimp only
  rw [kt, hf, Bool.true_and, if_pos rfl, hn]
  show (Tryd.prog.keyLits (n + 4) 43 [.string s.car, .int .i64 s.num, .int .i64 s.day]).map _ = _
  rw [hl]
  rfl
def takenV (x : Plc) : Value := .agg #[.int .i64 x.seg, .int .i64 x.row, .int .u8 x.let_]
set_option maxRecDepth 100000 in
theorem takenKey (x : Plc) (h : Plc.ok x) : ∃ l, keyOf Tryd.prog 94 (takenV x) = some l := by
  obtain ⟨h1, h2, h3, h4⟩ := h
  unfold okInt at h1 h2 h3
  unfold okByte at h4
  have w1 := WalkArith.wf_i64 h1
  have w3 := WalkArith.wf_i64 h3
  have w4 := WalkArith.wf_u8 h4
  have kt : Tryd.prog.keyType 94 = true := by kernel_rfl
  obtain ⟨n, hn⟩ := szT
  have hf : (takenV x).formed Tryd.prog 94 = true := by
    simp only [Value.formed, takenV, Tryd.underlying94, c94]
    rfl
  have hL : ∃ l, Tryd.prog.keyLits (n + 4) 94 [.int .i64 x.seg, .int .i64 x.row, .int .u8 x.let_] = some l := by
    simp [Program.keyLits, Tryd.underlying94, Tryd.underlying47, Tryd.underlying5, Tryd.underlying3, c94, c47, c5, c3, w1, w3, w4]
    rw [if_pos (by intro i hi; rcases i with _ | _ | i <;> first | (simp; done) | omega)]
    exact ⟨_, rfl⟩
  obtain ⟨l, hl⟩ := hL
  refine ⟨.string (keyBytes l), ?_⟩
  unfold keyOf
  rw [Tryd.underlying94]
  dsimp only
  rw [kt, hf, Bool.true_and, if_pos rfl, hn]
  show (Tryd.prog.keyLits (n + 4) 94 [.int .i64 x.seg, .int .i64 x.row, .int .u8 x.let_]).map _ = _
  rw [hl]
  rfl
theorem segB_of {s : Seg} (h1 : carrierB s.car = true) (h2 : 1 ≤ s.num) (h3 : s.num ≤ 9999) (h4 : ¬ wkd s.day = 0) (h5 : (!isL s.cls) = false) : segB s = true := by
  have : dayB s.day = true := by
    rcases Bool.eq_false_or_eq_true (dayB s.day) with h | h
    · exact h
    · exact absurd (wkd_no h) h4
  have h6 : isL s.cls = true := by simpa using h5
  simp [segB, *]
theorem segB_b1 {s : Seg} (h1 : carrierB s.car = false) : segB s = false := by simp [segB, h1]
theorem segB_b2 {s : Seg} (h1 : ¬ (1 ≤ s.num ∧ s.num ≤ 9999)) : segB s = false := by
  rcases Bool.eq_false_or_eq_true (segB s) with h | h
  · simp only [segB, Bool.and_eq_true, decide_eq_true_eq] at h
    omega
  · exact h
theorem segB_b3 {s : Seg} (h1 : wkd s.day = 0) : segB s = false := by
  have : dayB s.day = false := by
    rcases Bool.eq_false_or_eq_true (dayB s.day) with h | h
    · have := wkd_yes h; omega
    · exact h
  simp [segB, this]
theorem segB_b4 {s : Seg} (h1 : (!isL s.cls) = true) : segB s = false := by
  have : isL s.cls = false := by simpa using h1
  simp [segB, this]
theorem legEq_iff {a b : Seg} : legEq a b = true ↔ legV a = legV b := by
  simp only [legEq, legV, Bool.and_eq_true, decide_eq_true_eq]
  constructor
  · rintro ⟨h1, h2, h3⟩; rw [h1, h2, h3]
  · intro h
    simpa using h
def cntL (l : List Seg) (s : Seg) : Nat := (l.filter fun t => t.live && legEq t s).length
def sgI (l : List Seg) (i : Nat) : Bool := match l[i]? with | some s => segB s && !(s.live && dupL (l.take i) s) | none => false
def segsB (l : List Seg) : Bool := decide (l.length ≤ 8) && allP (sgI l) l.length
theorem sgI_at {l : List Seg} {i : Nat} {x : Seg} (h : l[i]? = some x) : sgI l i = (segB x && !(x.live && dupL (l.take i) x)) := by simp [sgI, h]
theorem sgI_bad {l : List Seg} {i : Nat} {x : Seg} (h : l[i]? = some x) (hb : segB x = false) : sgI l i = false := by rw [sgI_at h, hb, Bool.false_and]
/-- What the map tells of the first k segments. -/
def CntOf (l : List Seg) (k : Nat) (f : Value → Int) : Prop := ∀ s, f (legV s) = cntL (l.take k) s ∧ 0 ≤ f (legV s) ∧ f (legV s) ≤ 1
theorem CntOf.zero (l : List Seg) : CntOf l 0 (fun _ => 0) := fun s => by simp [cntL]
theorem cntL_dup (l : List Seg) (s : Seg) : dupL l s = decide (0 < cntL l s) := by
  rw [Bool.eq_iff_iff]
  simp only [dupL, cntL, List.any_eq_true, decide_eq_true_eq, List.length_pos_iff_exists_mem, List.mem_filter]
theorem cntL_yes {l : List Seg} {k : Nat} {x : Seg} (h : l[k]? = some x) (hl : x.live = true) (s : Seg) : cntL (l.take (k + 1)) s = cntL (l.take k) s + if legEq x s then 1 else 0 := by
  rw [take_succ_of h]
  simp only [cntL, List.filter_append, List.length_append, List.filter_cons, hl, Bool.true_and, List.filter_nil]
  split <;> simp
theorem cntL_no {l : List Seg} {k : Nat} {x : Seg} (h : l[k]? = some x) (hl : x.live = false) (s : Seg) : cntL (l.take (k + 1)) s = cntL (l.take k) s := by
  rw [take_succ_of h]
  simp [cntL, List.filter_append, hl]
theorem CntOf.dead {l : List Seg} {k : Nat} {x : Seg} {f : Value → Int} (H : CntOf l k f) (h : l[k]? = some x) (hl : x.live = false) : CntOf l (k + 1) f := fun s => by
  rw [cntL_no h hl]; exact H s
theorem CntOf.live {l : List Seg} {k : Nat} {x : Seg} {f : Value → Int} (H : CntOf l k f) (h : l[k]? = some x) (hl : x.live = true) (h0 : f (legV x) = 0) : CntOf l (k + 1) (putK f (legV x) (f (legV x) + 1)) := fun s => by
  rw [cntL_yes h hl]
  by_cases e : legV s = legV x
  · have e' : legEq x s = true := legEq_iff.2 e.symm
    have := (H s).1
    rw [e, putK_same, e', if_pos rfl]
    rw [e] at this
    omega
  · have e' : legEq x s = false := by
      rcases Bool.eq_false_or_eq_true (legEq x s) with h1 | h1
      · exact absurd (legEq_iff.1 h1).symm e
      · exact h1
    rw [putK_other _ _ _ e, e', if_neg (by simp)]
    exact H s
theorem CntOf.good {l : List Seg} {k : Nat} {x : Seg} {f : Value → Int} (H : CntOf l k f) (h : l[k]? = some x) (hb : segB x = true) (hor : x.live = false ∨ f (legV x) = 0) : sgI l k = true := by
  rw [sgI_at h, hb, Bool.true_and]
  rcases hor with hl | h0
  · rw [hl]; rfl
  · have := (H x).1
    rw [cntL_dup, decide_eq_false (by omega)]; simp
theorem CntOf.twice {l : List Seg} {k : Nat} {x : Seg} {f : Value → Int} (H : CntOf l k f) (h : l[k]? = some x) (hl : x.live = true) (h0 : f (legV x) = 1) : sgI l k = false := by
  have := (H x).1
  rw [sgI_at h, hl, cntL_dup, decide_eq_true (by omega)]; simp
set_option maxRecDepth 100000 in
set_option maxHeartbeats 4000000 in
theorem segments_any (l : List Seg) (A : Option Addr) (n c : Nat) (w : World) (lo hi : Nat) (hs : Sl w lo hi tSeg A n l) (hn : n ≤ 100000) (hhi : hi ≤ w.heap.size) :
    Calls Tryd.prog 38 #[.slice A n c] w (RetB w (segsB l)) := by
  have hlen := hs.len
  by_cases h8 : n ≤ 8
  case neg =>
    rw [show segsB l = false by simp only [segsB]; rw [hlen]; simp [h8]]
    go_enter Tryd.func38, Tryd.ntmps38
    go_wp2
    go_ret
    exact ⟨rfl, by (repeat (first | with_reducible exact Below.refl _ _ | (with_reducible refine Below.drew ?_) | (with_reducible refine below_drewN ?_ _) | (with_reducible refine Below.alloc ?_ (by first | (simp; done) | omega | (simp; omega)) _) | (with_reducible refine Below.setCell ?_ (by first | (simp; done) | omega | (simp; omega)) _) | with_reducible assumption))⟩
  rw [show segsB l = allP (sgI l) n by simp only [segsB]; rw [hlen]; simp [h8]]
  have hmm := @run_makeMap Tryd.prog
  go_enter Tryd.func38, Tryd.ntmps38
  go_wp2
  go_loopw [13] (fun i wr => ∃ k : Nat, k ≤ n ∧ i = .int .i64 k ∧ Hid (allP (sgI l) k = true) ∧ (∃ f, MapCnt Tryd.prog 43 wr w.heap.size f ∧ Hid (CntOf l k f)) ∧ Below w.heap.size w wr) (fun i _ => n - (intOf i).toNat)
  case atStart => exact ⟨0, Nat.zero_le _, rfl, rfl, ⟨_, MapCnt.made w, CntOf.zero l⟩, by (repeat (first | with_reducible exact Below.refl _ _ | (with_reducible refine Below.drew ?_) | (with_reducible refine below_drewN ?_ _) | (with_reducible refine Below.alloc ?_ (by first | (simp; done) | omega | (simp; omega)) _) | (with_reducible refine Below.setCell ?_ (by first | (simp; done) | omega | (simp; omega)) _) | with_reducible assumption))⟩
  case round =>
    obtain ⟨k, hk, rfl, hall, ⟨f, hmap, hcnt⟩, hbel⟩ := hrel
    have hsz := hbel.size
    have hms := hmap.size
    by_cases hlt : k < n
    · obtain ⟨b, o, x, rfl, h1, h2, hx, hok, c0, c1, c2, c3, c4⟩ := (hs.below hbel hhi).seg_ hlt
      have hbad := fun (h : segB x = false) => Lib.hid (allP_no n hlt (sgI_bad hx.out h))
      rcases Bool.eq_false_or_eq_true x.live with hl | hl
      · go_wp2_with (first | (go_at_call 62; refine (carrier_any _ _ hok.1).mono ?_; rintro e w1 ⟨rfl, nd, rfl⟩) | (go_at_call 63; refine (weekday_any _ _).mono ?_; rintro e w1 ⟨rfl, rfl⟩) | (go_at_call 64; refine (class_any _ _ hok.2.2.2.1 hok.2.2.2.2).mono ?_; rintro e w1 ⟨rfl, nd2, rfl⟩))
        iterate 5
          rotate_left
        · refine wp_world (fun W => MapCnt Tryd.prog 43 W w.heap.size f ∧ Below w.heap.size w W ∧ wr.heap.size < W.heap.size ∧ (∀ i, W.cell? ⟨wr.heap.size, i, none⟩ = (#[.string x.car, .int .i64 x.num, .int .i64 x.day, .int .u8 x.cls, .bool true] : Array Value)[i]?)) ⟨(((hmap.alloc _).alloc _).drewN _), by (repeat (first | with_reducible exact Below.refl _ _ | (with_reducible refine Below.drew ?_) | (with_reducible refine below_drewN ?_ _) | (with_reducible refine Below.alloc ?_ (by first | (simp; done) | omega | (simp; omega)) _) | (with_reducible refine Below.setCell ?_ (by first | (simp; done) | omega | (simp; omega)) _) | with_reducible assumption)), by (simp; omega), by (repeat (first | (with_reducible assumption) | (with_reducible exact boxed_new _ _ _) | (with_reducible refine boxed_drew ?_) | (with_reducible refine boxed_drewN ?_ _) | (with_reducible refine boxed_alloc ?_ (by first | (simp; done) | omega | (simp; omega)) _) | (with_reducible refine boxed_set ?_ _ (by first | (simp; done) | omega | (simp; omega)) _)))⟩ ?_
          rintro W ⟨hm, hbW, hszW, hbox⟩
          have hne : wr.heap.size ≠ w.heap.size := by omega
          have hsb : segB x = true := segB_of (by assumption) (by assumption) (by assumption) (by assumption) (by assumption)
          obtain ⟨kl, hkl⟩ := legKey x hok
          obtain ⟨st, W1, W2, e1, e2, e3, e4, hm2, hb2, hc2, hs2⟩ := hm.drew.inc (t := 88) (e := 3) lawLeg Tryd.underlying88 zeroInt hkl
          have hbox1 : ∀ i, W1.cell? ⟨wr.heap.size, i, none⟩ = (#[.string x.car, .int .i64 x.num, .int .i64 x.day, .int .u8 x.cls, .bool true] : Array Value)[i]? := fun i => ((hc2 ⟨wr.heap.size, i, none⟩ hne).1).trans (hbox i)
          have hbox2 : ∀ i, W2.cell? ⟨wr.heap.size, i, none⟩ = (#[.string x.car, .int .i64 x.num, .int .i64 x.day, .int .u8 x.cls, .bool true] : Array Value)[i]? := fun i => ((hc2 ⟨wr.heap.size, i, none⟩ hne).2).trans (hbox i)
          have e5 := hm2.look (t := 88) (e := 3) lawLeg Tryd.underlying88 zeroInt hkl
          rw [putK_same] at e5
          simp only [goInt] at e1 e2 e3 e4 e5
          rcases (show f (legV x) = 0 ∨ f (legV x) = 1 by have := hcnt.out x; omega) with h0 | h0
          · rw [h0] at e1 e2 e3 e4 e5
            simp only [legV, Int.zero_add] at e1 e2 e3 e4 e5
            go_region
            have hnx := hcnt.out.live hx.out hl h0
            rw [h0] at hm2 hnx
            go_wp2
            have hW : w.heap.size ≤ W2.heap.size := by have : W.drew.heap.size = W.heap.size := rfl; omega
            exact ⟨⟨k + 1, by omega, by go_num, allP_step hall.out (hcnt.out.good hx.out hsb (.inr h0)), ⟨_, hm2, hnx⟩, hb2 _ _ (Nat.le_refl _) hbW.drew⟩, by simp [intOf]; omega⟩
          · rw [h0] at e1 e2 e3 e4 e5
            simp only [legV, show (1 : Int) + 1 = 2 from rfl] at e1 e2 e3 e4 e5
            go_region
            have hno := Lib.hid (allP_no n hlt (hcnt.out.twice hx.out hl h0))
            go_wp2
            go_ret
            exact ⟨ret_bool hno.out.symm, hb2 _ _ (Nat.le_refl _) hbW.drew⟩
        all_goals go_ret
        all_goals exact ⟨ret_bool (hbad (by first | exact segB_b1 (by assumption) | exact segB_b2 (by omega) | exact segB_b3 (by assumption) | exact segB_b4 (by assumption))).out.symm, by (repeat (first | with_reducible exact Below.refl _ _ | (with_reducible refine Below.drew ?_) | (with_reducible refine below_drewN ?_ _) | (with_reducible refine Below.alloc ?_ (by first | (simp; done) | omega | (simp; omega)) _) | (with_reducible refine Below.setCell ?_ (by first | (simp; done) | omega | (simp; omega)) _) | with_reducible assumption))⟩
      · obtain ⟨kl, hkl⟩ := legKey x hok
        have hbx : f (legV x) = 0 ∨ f (legV x) = 1 := by have := hcnt.out x; omega
        have hlk := fun nd : Nat => (((hmap.alloc (.cells #[.string x.car, .int .i64 x.num, .int .i64 x.day, .int .u8 x.cls, .bool false] 45)).alloc (.cells #[.string x.car, .int .i64 x.num] 41)).drewN nd).look (t := 88) (e := 3) lawLeg Tryd.underlying88 zeroInt hkl
        have hdead := hcnt.out.dead hx.out hl
        have HD := Lib.hid hdead
        clear hdead
        simp only [legV] at hlk hbx
        generalize hc : f (.agg #[.string x.car, .int .i64 x.num, .int .i64 x.day]) = cc at hlk hbx
        have HC := Lib.hid hc
        clear hc
        rcases hbx with rfl | rfl
        all_goals
          go_wp2_with (first | (go_at_call 62; refine (carrier_any _ _ hok.1).mono ?_; rintro e w1 ⟨rfl, nd, rfl⟩) | (go_at_call 63; refine (weekday_any _ _).mono ?_; rintro e w1 ⟨rfl, rfl⟩) | (go_at_call 64; refine (class_any _ _ hok.2.2.2.1 hok.2.2.2.2).mono ?_; rintro e w1 ⟨rfl, nd2, rfl⟩))
          iterate 5
            rotate_left
          · have hsb : segB x = true := segB_of (by assumption) (by assumption) (by assumption) (by assumption) (by assumption)
            exact ⟨⟨k + 1, by omega, by go_num, allP_step hall.out (hcnt.out.good hx.out hsb (.inl hl)), ⟨_, ((hmap.alloc _).alloc _).drewN _, HD.out⟩, by (repeat (first | with_reducible exact Below.refl _ _ | (with_reducible refine Below.drew ?_) | (with_reducible refine below_drewN ?_ _) | (with_reducible refine Below.alloc ?_ (by first | (simp; done) | omega | (simp; omega)) _) | (with_reducible refine Below.setCell ?_ (by first | (simp; done) | omega | (simp; omega)) _) | with_reducible assumption))⟩, by simp [intOf]; omega⟩
          all_goals go_ret
          all_goals exact ⟨ret_bool (hbad (by first | exact segB_b1 (by assumption) | exact segB_b2 (by omega) | exact segB_b3 (by assumption) | exact segB_b4 (by assumption))).out.symm, by (repeat (first | with_reducible exact Below.refl _ _ | (with_reducible refine Below.drew ?_) | (with_reducible refine below_drewN ?_ _) | (with_reducible refine Below.alloc ?_ (by first | (simp; done) | omega | (simp; omega)) _) | (with_reducible refine Below.setCell ?_ (by first | (simp; done) | omega | (simp; omega)) _) | with_reducible assumption))⟩
    · have e : k = n := by omega
      subst e
      go_wp2
      go_ret
      exact ⟨ret_bool hall.out.symm, hbel⟩
end Go.Proofs.YtaakcccffmfmoaaDoor
