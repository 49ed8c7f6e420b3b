/- Two slices hold the same: slices.Equal, SameTexts; lists that are copied. -/
import Derived.Test.YtpgeoahlhdifoaaGreatDoorClone
import Derived.Test.YtpgeoahlhdifoaaGreatDoorEq
import Derived.Test.YtpgeoahlhdifoaaGreatDoorMCode
namespace Go.Proofs.YtpgeoahlhdifoaaGreatDoor
set_option linter.unusedVariables false
open Go Go.RowKit
def sameI {α : Type} [DecidableEq α] (l m : List α) (i : Nat) : Bool := decide (l[i]? = m[i]?)
theorem allP_get {P : Nat → Bool} : ∀ {n i : Nat}, allP P n = true → i < n → P i = true
  | n + 1, i, h, hi => by
    simp only [allP, Bool.and_eq_true] at h
    by_cases e : i = n
    · rw [e]; exact h.2
    · exact allP_get h.1 (by omega)
theorem same_all {α : Type} [DecidableEq α] {l m : List α} (h : l.length = m.length) (ha : allP (sameI l m) l.length = true) : l = m := by
  apply List.ext_getElem? 
  intro i
  by_cases hi : i < l.length
  · have := allP_get ha hi
    simpa [sameI] using this
  · rw [List.getElem?_eq_none (by omega), List.getElem?_eq_none (by omega)]
theorem same_not {α : Type} [DecidableEq α] {l m : List α} {i : Nat} (h : sameI l m i = false) : decide (l = m) = false := by
  refine decide_eq_false fun e => ?_
  subst e
  simp [sameI] at h
theorem ne_of_len {α : Type} [DecidableEq α] {l m : List α} (h : l.length ≠ m.length) : decide (l = m) = false := decide_eq_false fun e => h (by rw [e])
set_option maxRecDepth 100000 in
set_option maxHeartbeats 1000000 in
theorem equal_rtx (l m : List ByteArray) (A B : Option Addr) (n c n' c' : Nat) (w : World) (lo hi lo' hi' : Nat) (hs : Sl w lo hi tStr A n l) (hs' : Sl w lo' hi' tStr B n' m) (hn : n ≤ 100000) (hn' : n' ≤ 100000) (hhi : hi ≤ w.heap.size) (hhi' : hi' ≤ w.heap.size) :
    Calls Tryz.prog 35 #[.slice A n c, .slice B n' c'] w (RetB w (decide (l = m))) := by
  have HL := Lib.hid hs.len
  have HM := Lib.hid hs'.len
  by_cases hnn : n = n'
  case neg =>
    have hd := Lib.hid (ne_of_len (show l.length ≠ m.length by rw [HL.out, HM.out]; exact hnn))
    have q1 : ((n : Int) != (n' : Int)) = true := by rw [bne_iff_ne]; omega
    go_enter Tryz.func35, Tryz.ntmps35
    go_wp2
    go_ret
    exact ⟨ret_bool hd.out.symm, by (repeat (first | with_reducible exact Below.refl _ _ | (with_reducible refine Below.drew ?_) | (with_reducible refine below_drewN ?_ _) | (with_reducible refine Below.alloc ?_ (by first | (simp; done) | omega | (simp; omega)) _) | (with_reducible refine Below.setCell ?_ (by first | (simp; done) | omega | (simp; omega)) _) | with_reducible assumption))⟩
  subst hnn
  have q1 : ((n : Int) != (n : Int)) = false := by simp
  go_enter Tryz.func35, Tryz.ntmps35
  go_wp2
  go_loopw [5] (fun i wr => ∃ k : Nat, k ≤ n ∧ i = .int .i64 k ∧ Hid (allP (sameI l m) k = true) ∧ Below w.heap.size w wr) (fun i _ => n - (intOf i).toNat)
  case atStart => exact ⟨0, Nat.zero_le _, rfl, rfl, by (repeat (first | with_reducible exact Below.refl _ _ | (with_reducible refine Below.drew ?_) | (with_reducible refine below_drewN ?_ _) | (with_reducible refine Below.alloc ?_ (by first | (simp; done) | omega | (simp; omega)) _) | (with_reducible refine Below.setCell ?_ (by first | (simp; done) | omega | (simp; omega)) _) | with_reducible assumption))⟩
  case round =>
    obtain ⟨k, hk, rfl, hall, hbel⟩ := hrel
    clear q1
    by_cases hlt : k < n
    · obtain ⟨b, o, x, rfl, h1, h2, hx, hok, c0⟩ := (hs.below hbel hhi).str_ hlt
      obtain ⟨b', o', y, rfl, h1', h2', hy, hok', d0⟩ := (hs'.below hbel hhi').str_ hlt
      have hsm : sameI l m k = decide (x = y) := by unfold sameI; rw [hx.out, hy.out]; rw [Bool.eq_iff_iff]; simp
      have HSM := Lib.hid hsm
      clear hsm
      have hne := eqL x y
      have hne2 : (x.toList != y.toList) = !(x.toList == y.toList) := rfl
      rw [eqL x y] at hne2
      have hk0 : (0 : Int) ≤ k := by omega
      have hkl : (k : Int) < n := by omega
      generalize hq : decide ((x : ByteArray) = y) = bq at hne hne2 HSM
      have HQ := Lib.hid hq
      clear hq
      rcases bq with _ | _
      · have hno := Lib.hid (same_not HSM.out)
        go_wp2
        go_quiet (fail)
        go_wp2
        go_ret
        exact ⟨ret_bool hno.out.symm, below_drewN hbel _⟩
      · go_wp2
        go_quiet (fail)
        go_wp2
        go_roundw
        case rel => exact ⟨k + 1, by omega, by go_num, allP_step hall.out HSM.out, below_drewN hbel _⟩
        case measure => simp [intOf]; omega
    · obtain rfl : n = k := by omega
      have hyes := Lib.hid (decide_eq_true (same_all (HL.out.trans HM.out.symm) (by rw [HL.out]; exact hall.out)))
      go_wp2
      go_ret
      exact ⟨ret_bool hyes.out.symm, hbel⟩
set_option maxRecDepth 100000 in
set_option maxHeartbeats 1000000 in
theorem rcopy_nam (l : List _) (A : Option Addr) (n c : Nat) (w : World) (lo hi : Nat) (hs : Sl w lo hi tNam A n l) (hn : n ≤ 100000) (hhi : hi ≤ w.heap.size) (hc : A = none → c = 0) :
    Calls Tryz.prog 92 #[.slice A n c] w (RetOwn w 40 tNam l) := by
  have hcap := Lib.hid hc
  clear hc
  have hown := Own.nil_ w w.heap.size 40 tNam
  go_enter Tryz.func92, Tryz.ntmps92
  go_wp2_with (at_builtin; refine append_law (l := []) rfl (.tmp 4) (.tmp 5) rfl sl_nam rfl hown rfl hs hcap.out (Nat.le_refl _) (by simp; omega) ?_; intro v' w' hown' hgr hb')
  go_ret
  rw [List.nil_append] at hown'
  exact RetOwn.mk' hown' ((Below.refl _ _).grown hgr (by simp) (fun k hk => (hown.lt k hk).1))
set_option maxRecDepth 100000 in
set_option maxHeartbeats 1000000 in
theorem rcopy_seg (l : List _) (A : Option Addr) (n c : Nat) (w : World) (lo hi : Nat) (hs : Sl w lo hi tSeg A n l) (hn : n ≤ 100000) (hhi : hi ≤ w.heap.size) (hc : A = none → c = 0) :
    Calls Tryz.prog 77 #[.slice A n c] w (RetOwn w 46 tSeg l) := by
  have hcap := Lib.hid hc
  clear hc
  have hown := Own.nil_ w w.heap.size 46 tSeg
  go_enter Tryz.func77, Tryz.ntmps77
  go_wp2_with (at_builtin; refine append_law (l := []) rfl (.tmp 4) (.tmp 5) rfl sl_seg rfl hown rfl hs hcap.out (Nat.le_refl _) (by simp; omega) ?_; intro v' w' hown' hgr hb')
  go_ret
  rw [List.nil_append] at hown'
  exact RetOwn.mk' hown' ((Below.refl _ _).grown hgr (by simp) (fun k hk => (hown.lt k hk).1))
set_option maxRecDepth 100000 in
set_option maxHeartbeats 1000000 in
theorem rcopy_str (l : List _) (A : Option Addr) (n c : Nat) (w : World) (lo hi : Nat) (hs : Sl w lo hi tStr A n l) (hn : n ≤ 100000) (hhi : hi ≤ w.heap.size) (hc : A = none → c = 0) :
    Calls Tryz.prog 95 #[.slice A n c] w (RetOwn w 9 tStr l) := by
  have hcap := Lib.hid hc
  clear hc
  have hown := Own.nil_ w w.heap.size 9 tStr
  go_enter Tryz.func95, Tryz.ntmps95
  go_wp2_with (at_builtin; refine append_law (l := []) rfl (.tmp 4) (.tmp 5) rfl sl_str rfl hown rfl hs hcap.out (Nat.le_refl _) (by simp; omega) ?_; intro v' w' hown' hgr hb')
  go_ret
  rw [List.nil_append] at hown'
  exact RetOwn.mk' hown' ((Below.refl _ _).grown hgr (by simp) (fun k hk => (hown.lt k hk).1))
end Go.Proofs.YtpgeoahlhdifoaaGreatDoor
