/- Package scan: a cursor's calls. -/
import Derived.Test.YtggomjfllbljeaaGreatDoorProg
import Derived.Test.YtggomjfllbljeaaGreatDoorScB
import Derived.Test.YtggomjfllbljeaaGreatDoorMScP
namespace Go.Proofs.YtggomjfllbljeaaGreatDoor
set_option linter.unusedVariables false
open Go Go.RowKit
set_option maxRecDepth 100000 in
set_option maxHeartbeats 2000000 in
theorem ahead_any {W : World} {b : Nat} {s : ByteArray} {a : Nat} (h : Cu W b s a) (h1 : a ≤ s.size) (h2 : s.size ≤ 100000) :
    Calls Tryz.prog 49 #[.pointer (some ⟨b, 0, none⟩)] W fun e W' => e = .returned (.string (tailB s a)) ∧ Cu W' b s a ∧ Kp (fun k => k = b) W W' := by
  have ct := h.t
  have ca := h.a
  have cf := h.f
  have cl := h.lt
  have hS := h.set a
  have hK := (Kp.refl (fun k => k = b) W).drew.set (p := ⟨b, 1, none⟩) rfl (.int .i64 a)
  have c1 : ¬ (a : Int) < 0 := by omega
  have c2 : (a : Int) ≤ s.size := by omega
  have c3 : (0 : Int) ≤ a := by omega
  go_enter Tryz.func49, Tryz.ntmps49
  go_wp2
  go_region
  have st := hS.t
  have sa := hS.a
  clear ct ca cf
  go_wp2
  go_quiet (fail)
  go_wp2
  go_ret
  refine ⟨?_, hS.keep rfl (Nat.le_refl _), ?_⟩
  · first | rfl | (simp [tailB]; done)
  · exact ((Kp.refl (fun k => k = b) W).set (p := ⟨b, 1, none⟩) rfl (.int .i64 a)).drew.drewN _
set_option maxRecDepth 100000 in
set_option maxHeartbeats 2000000 in
theorem end_any {W : World} {b : Nat} {s : ByteArray} {a : Nat} (h : Cu W b s a) (h1 : a ≤ s.size) (h2 : s.size ≤ 100000) :
    Calls Tryz.prog 27 #[.pointer (some ⟨b, 0, none⟩)] W fun e W' => e = .returned (.bool (decide (a = s.size))) ∧ Cu W' b s a ∧ Kp (fun k => k = b) W W' := by
  have he : (tailB s a).toList.isEmpty = decide (a = s.size) := by
    rw [isEmpty_size, tail_size h1, decide_eq_decide]
    omega
  go_enter Tryz.func27, Tryz.ntmps27
  go_wp2_with fail
  refine (ahead_any h h1 h2).mono ?_
  rintro e W1 ⟨rfl, hC, hK⟩
  go_wp2
  go_ret
  exact ⟨ret_bool (by first | exact he | (simp; done)), hC, hK⟩
set_option maxRecDepth 100000 in
set_option maxHeartbeats 2000000 in
theorem rest_any {W : World} {b : Nat} {s : ByteArray} {a : Nat} (h : Cu W b s a) (h1 : a ≤ s.size) (h2 : s.size ≤ 100000) :
    Calls Tryz.prog 29 #[.pointer (some ⟨b, 0, none⟩)] W fun e W' => e = .returned (.string (tailB s a)) ∧ Cu W' b s s.size ∧ Kp (fun k => k = b) W W' := by
  go_enter Tryz.func29, Tryz.ntmps29
  go_wp2_with fail
  refine (ahead_any h h1 h2).mono ?_
  rintro e W1 ⟨rfl, hC, hK⟩
  have ct := hC.t
  have ca := hC.a
  have cf := hC.f
  have cl := hC.lt
  go_wp2
  go_ret
  exact ⟨rfl, hC.set _, hK.set (p := ⟨b, 1, none⟩) rfl _⟩
set_option maxRecDepth 100000 in
set_option maxHeartbeats 2000000 in
theorem hasPrefix_any (s p : ByteArray) (W : World) :
    Calls Tryz.prog 48 #[.string s, .string p] W fun e w' => e = .returned (.bool (begB s p.data.toList)) ∧ Below W.heap.size W w' := by
  have hs : p.data.toList.length = p.size := Array.length_toList
  by_cases hl : p.size ≤ s.size
  · have t1 : (p.size : Int) ≤ s.size := by omega
    have he : ((s.extract 0 p.size).toList == p.toList) = begB s p.data.toList := by
      unfold begB
      rw [hs, Bool.eq_iff_iff, beq_iff_eq, decide_eq_true_eq, ByteArray.toList_eq, ByteArray.toList_eq]
      simp only [ByteArray.data_extract, Array.toList_extract, List.extract_eq_take_drop, List.drop_zero, Nat.sub_zero]
    go_enter Tryz.func48, Tryz.ntmps48
    go_wp2
    all_goals first | (exfalso; omega) | (go_ret; exact ⟨ret_bool (by first | exact he | (simp; done)), by (repeat (first | with_reducible exact Below.refl _ _ | (with_reducible refine Below.drew ?_) | (with_reducible refine below_drewN ?_ _) | (with_reducible refine Below.alloc ?_ (by first | (simp; done) | omega | (simp; omega)) _) | (with_reducible refine Below.setCell ?_ (by first | (simp; done) | omega | (simp; omega)) _) | with_reducible assumption))⟩)
  · have t1 : ¬ (p.size : Int) ≤ s.size := by omega
    have he : begB s p.data.toList = false := by
      unfold begB
      rw [decide_eq_false_iff_not]
      intro h
      have := congrArg List.length h
      rw [List.length_take, hs] at this
      have h9 : s.data.toList.length = s.size := Array.length_toList
      omega
    rw [he]
    go_enter Tryz.func48, Tryz.ntmps48
    go_wp2
    all_goals first | (exfalso; omega) | (go_ret; exact ⟨rfl, by (repeat (first | with_reducible exact Below.refl _ _ | (with_reducible refine Below.drew ?_) | (with_reducible refine below_drewN ?_ _) | (with_reducible refine Below.alloc ?_ (by first | (simp; done) | omega | (simp; omega)) _) | (with_reducible refine Below.setCell ?_ (by first | (simp; done) | omega | (simp; omega)) _) | with_reducible assumption))⟩)
set_option maxRecDepth 100000 in
set_option maxHeartbeats 2000000 in
theorem word_any {W : World} {b : Nat} {s p : ByteArray} {a : Nat} (h : Cu W b s a) (h1 : a ≤ s.size) (h2 : s.size ≤ 100000) :
    Calls Tryz.prog 25 #[.pointer (some ⟨b, 0, none⟩), .string p] W fun e W' => e = .returned (.bool (begB (tailB s a) p.data.toList)) ∧ Cu W' b s (if begB (tailB s a) p.data.toList then ((a + p.size : Nat) : Int) else (a : Int)) ∧ Kp (fun k => k = b) W W' := by
  have hsz : begB (tailB s a) p.data.toList = true → a + p.size ≤ s.size := fun hb => by
    unfold begB at hb
    rw [decide_eq_true_eq] at hb
    have := congrArg List.length hb
    have h8 : p.data.toList.length = p.size := Array.length_toList
    have h9 : (tailB s a).data.toList.length = (tailB s a).size := Array.length_toList
    rw [List.length_take, h8, h9, tail_size h1] at this
    omega
  have HP := Lib.hid (fun W => hasPrefix_any (tailB s a) p W)
  generalize begB (tailB s a) p.data.toList = r at HP hsz
  go_enter Tryz.func25, Tryz.ntmps25
  go_wp2_with fail
  refine (ahead_any h h1 h2).mono ?_
  rintro e W1 ⟨rfl, hC, hK⟩
  go_wp2_with fail
  refine (HP.out _).mono ?_
  rintro e W2 ⟨rfl, hb⟩
  have hC2 := hC.keep (hb.block b hC.lt) hb.size
  have hK2 := hK.trans (S' := fun k => k = b) (Kp.of hb) (fun _ _ e => e)
  have ct := hC2.t
  have ca := hC2.a
  have cf := hC2.f
  have cl := hC2.lt
  rcases r with _ | _
  · go_wp2
    go_ret
    exact ⟨rfl, hC2, hK2⟩
  · have h3 := hsz rfl
    have hw : IntKind.i64.wrap ((a : Int) + p.size) = ((a + p.size : Nat) : Int) := by rw [IntKind.wrap_i64]; omega
    go_wp2
    go_ret
    exact ⟨rfl, hC2.set _, hK2.set (p := ⟨b, 1, none⟩) rfl _⟩
end Go.Proofs.YtggomjfllbljeaaGreatDoor
