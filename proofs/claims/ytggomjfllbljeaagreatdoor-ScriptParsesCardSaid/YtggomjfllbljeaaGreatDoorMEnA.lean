/- Put together by program of: En1, En2. -/
import Derived.Test.YtggomjfllbljeaaGreatDoorMScn
import Derived.Test.YtggomjfllbljeaaGreatDoorAgnt
namespace Go.Proofs.YtggomjfllbljeaaGreatDoor
set_option linter.unusedVariables false
open Go Go.RowKit
/-- The cells of a command of which kind, text and office are told. -/
abbrev cmC (k : Int) (tx of : ByteArray) : Array Value := #[.int .i64 k, .string tx, .string of, .int .i64 0, .string ⟨#[]⟩, .string ⟨#[]⟩, .int .i64 0, .string ⟨#[]⟩, .string ⟨#[]⟩, .int .i64 0, .int .i64 0, .int .u8 0, .int .i64 0, .int .i64 0, .int .u8 0]
/-- The cells of a parser. -/
abbrev prC (s : ByteArray) (a k : Int) (tx of : ByteArray) : Array Value := #[.string s, .int .i64 a, .int .i64 k, .string tx, .string of, .int .i64 0, .string ⟨#[]⟩, .string ⟨#[]⟩, .int .i64 0, .string ⟨#[]⟩, .string ⟨#[]⟩, .int .i64 0, .int .i64 0, .int .u8 0, .int .i64 0, .int .i64 0, .int .u8 0]
abbrev PR (W : World) (b : Nat) (s : ByteArray) (a k : Int) (tx of : ByteArray) : Prop := Bx W b (prC s a k tx of) 240
abbrev Ob (b : Nat) : Nat → Prop := fun k => k = b
set_option maxRecDepth 100000 in
set_option maxHeartbeats 2000000 in
theorem ahead_b {W : World} {b : Nat} {s tx of : ByteArray} {a : Nat} {k : Int} (h : PR W b s a k tx of) (h1 : a ≤ s.size) (h2 : s.size ≤ 100000) :
    Calls Tryz.prog 49 #[.pointer (some ⟨b, 0, none⟩)] W fun e W' => e = .returned (.string (tailB s a)) ∧ PR W' b s a k tx of ∧ Kp (Ob b) W W' := by
  have c0 := h.cells
  have cf := h.free
  have cl := h.lt
  have hS := h.put 1 (.int .i64 a)
  have hK := (Kp.refl (Ob b) W).drew.set (p := ⟨b, 1, none⟩) rfl (.int .i64 a)
  have c1 : ¬ (a : Int) < 0 := by omega
  have c2 : (a : Int) ≤ s.size := by omega
  have c3 : (0 : Int) ≤ a := by omega
  go_enter Tryz.func49, Tryz.ntmps49
  go_wp2
  go_region
  have st := hS.cells
  clear c0 cf
  go_wp2
  go_quiet (fail)
  go_wp2
  go_ret
  refine ⟨?_, hS, ?_⟩
  · first | rfl | (simp [tailB]; done)
  · exact ((Kp.refl (Ob b) W).set (p := ⟨b, 1, none⟩) rfl (.int .i64 a)).drew.drewN _
set_option maxRecDepth 100000 in
set_option maxHeartbeats 2000000 in
theorem end_b {W : World} {b : Nat} {s tx of : ByteArray} {a : Nat} {k : Int} (h : PR W b s a k tx of) (h1 : a = s.size) (h2 : s.size ≤ 100000) :
    Calls Tryz.prog 27 #[.pointer (some ⟨b, 0, none⟩)] W fun e W' => e = .returned (.bool true) ∧ PR W' b s a k tx of ∧ Kp (Ob b) W W' := by
  have he : (tailB s a).toList.isEmpty = true := by
    rw [isEmpty_size, tail_size (by omega), decide_eq_true_eq]
    omega
  go_enter Tryz.func27, Tryz.ntmps27
  go_wp2_with fail
  refine (ahead_b h (by omega) h2).mono ?_
  rintro e W1 ⟨rfl, hC, hK⟩
  go_wp2
  go_ret
  have he' := he
  rw [h1] at he'
  exact ⟨ret_bool (by first | exact he | exact he' | simpa using he'), hC, hK⟩
set_option maxRecDepth 100000 in
set_option maxHeartbeats 2000000 in
theorem word_b {W : World} {b : Nat} {s tx of p : ByteArray} {a : Nat} {k : Int} (h : PR W b s a k tx of) (h1 : a + p.size ≤ s.size) (h2 : s.size ≤ 100000) (hy : begB (tailB s a) p.data.toList = true) :
    Calls Tryz.prog 25 #[.pointer (some ⟨b, 0, none⟩), .string p] W fun e W' => e = .returned (.bool true) ∧ PR W' b s ((a + p.size : Nat) : Int) k tx of ∧ Kp (Ob b) W W' := by
  have HP := Lib.hid (fun W => hasPrefix_any (tailB s a) p W)
  generalize begB (tailB s a) p.data.toList = r at HP hy
  subst hy
  have hw : IntKind.i64.wrap ((a : Int) + p.size) = ((a + p.size : Nat) : Int) := by rw [IntKind.wrap_i64]; omega
  go_enter Tryz.func25, Tryz.ntmps25
  go_wp2_with fail
  refine (ahead_b h (by omega) h2).mono ?_
  rintro e W1 ⟨rfl, hC, hK⟩
  go_wp2_with fail
  refine (HP.out _).mono ?_
  rintro e W2 ⟨rfl, hb⟩
  have hC2 := hC.below hb hC.lt
  have hK2 := hK.trans (S' := Ob b) (Kp.of hb) (fun _ _ e => e)
  have c0 := hC2.cells
  have cf := hC2.free
  have cl := hC2.lt
  go_wp2
  go_ret
  exact ⟨rfl, hC2.put 1 _, hK2.set (p := ⟨b, 1, none⟩) rfl _⟩
set_option maxRecDepth 100000 in
set_option maxHeartbeats 2000000 in
theorem bytes_b {W : World} {b : Nat} {s tx of : ByteArray} {a : Nat} {k : Int} (n : Nat) (h : PR W b s a k tx of) (h1 : a + n ≤ s.size) (h2 : s.size ≤ 100000) :
    Calls Tryz.prog 297 #[.pointer (some ⟨b, 0, none⟩), .int .i64 n] W fun e W' => e = .returned (.tuple #[.string ((tailB s a).extract 0 n), .bool true]) ∧ PR W' b s ((a + n : Nat) : Int) k tx of ∧ Kp (Ob b) W W' := by
  have ht := tail_size (s := s) (a := a) (by omega)
  have h4 : ¬ ((tailB s a).size : Int) < n := by omega
  have h5 : (n : Int) ≤ (tailB s a).size := by omega
  have h6 : ¬ (n : Int) < 0 := by omega
  have h7 : (0 : Int) ≤ n := by omega
  have hw : IntKind.i64.wrap ((a : Int) + n) = ((a + n : Nat) : Int) := by rw [IntKind.wrap_i64]; omega
  go_enter Tryz.func297, Tryz.ntmps297
  go_wp2_with fail
  refine (ahead_b h (by omega) h2).mono ?_
  rintro e W1 ⟨rfl, hC, hK⟩
  generalize hq : tailB s a = t at ht h4 h5
  have HQ := Lib.hid hq
  clear hq
  have c0 := hC.cells
  have cf := hC.free
  have cl := hC.lt
  go_wp2
  go_ret2
  exact ⟨by rw [HQ.out]; rfl, hC.put 1 _, hK.set (p := ⟨b, 1, none⟩) rfl _⟩
end Go.Proofs.YtggomjfllbljeaaGreatDoor
namespace Go.Proofs.YtggomjfllbljeaaGreatDoor
set_option linter.unusedVariables false
open Go Go.RowKit
attribute [local go_sem] bat_get
abbrev eT : ByteArray := ⟨#[83, 73, 42, 65, 71, 49, 47, 76, 79, 78]⟩
set_option maxRecDepth 100000 in
set_option maxHeartbeats 2000000 in
theorem of_both (c : Int) (W : World) (h0 : 0 ≤ c) (h1 : c ≤ 255) :
    Calls Tryz.prog 86 #[.int .i64 3, .int .u8 c] W fun e W' => e = .returned (.bool (isL c || isD c)) ∧ W = W' := by
  have e : decide ((c - 48) % 256 < 10) = isD c := by
    unfold isD
    rw [Bool.eq_iff_iff]; simp; omega
  go_enter Tryz.func86, Tryz.ntmps86
  go_wp2_with fail
  refine (class_any c _ h0 h1).mono ?_
  rintro e9 W1 ⟨rfl, rfl⟩
  generalize hx : isL c = x
  have HX := Lib.hid hx
  have HE := Lib.hid e
  clear hx e
  rcases x with _ | _
  · go_wp2
    all_goals first | (exfalso; omega) | skip
    go_ret
    have e := HE.out
    exact ⟨ret_bool (by rw [HX.out]; first | exact e | (rw [← e]; rfl) | (rw [← e]; simp)), rfl⟩
  · go_wp2
    all_goals first | (exfalso; omega) | skip
    go_ret
    exact ⟨ret_bool (by rw [HX.out]; rfl), rfl⟩
set_option maxRecDepth 100000 in
set_option maxHeartbeats 4000000 in
theorem run_both {W : World} {b : Nat} {tx of : ByteArray} {k : Int} (h : PR W b eT 3 k tx of) :
    Calls Tryz.prog 50 #[.pointer (some ⟨b, 0, none⟩), .int .i64 3] W fun e W' => e = .returned (.string ⟨#[65, 71, 49]⟩) ∧ PR W' b eT 6 k tx of ∧ Kp (Ob b) W W' := by
  have HA : Hid (∀ j, j < 3 → (isL (bat (tailB eT 3) j) || isD (bat (tailB eT 3) j)) = true) := by
    intro j hj
    rcases j with _ | _ | _ | j
    · decide
    · decide
    · decide
    · omega
  have HE : Hid ((isL (bat (tailB eT 3) 3) || isD (bat (tailB eT 3) 3)) = false) := by show _ = _; decide
  have HX : Hid ((tailB eT 3).extract 0 3 = ⟨#[65, 71, 49]⟩) := by show _ = _; rfl
  have HT : Hid ((tailB eT 3).size = 7) := by show _ = _; rfl
  go_enter Tryz.func50, Tryz.ntmps50
  go_wp2_with fail
  refine (ahead_b (a := 3) h (by decide) (by decide)).mono ?_
  rintro e W1 ⟨rfl, hC, hK⟩
  generalize tailB eT 3 = t at HA HE HX HT
  have ht : t.size = 7 := HT.out
  go_wp2
  go_loop [6] (fun n => ∃ k : Nat, k ≤ 3 ∧ n = .int .i64 k) (fun n => 3 - (intOf n).toNat)
  case atStart => exact ⟨0, Nat.zero_le _, rfl⟩
  case round =>
    obtain ⟨j, hj, rfl⟩ := hrel
    by_cases hlt : j < 3
    · have hl : j < t.size := by omega
      have hb1 := bat_bd t j
      have hv := HA.out j hlt
      go_wp2_with ((with_reducible refine (of_both (bat t j) _ hb1.1 hb1.2).mono ?_); rintro e w' ⟨rfl, rfl⟩; rw [hv])
      all_goals first | (exfalso; omega) | skip
      go_round
      case rel => exact ⟨j + 1, by omega, by go_num⟩
      case measure => simp [intOf]; omega
    · obtain rfl : j = 3 := by omega
      have hb1 := bat_bd t 3
      have hl : 3 < t.size := by omega
      have hv := HE.out
      have c0 := hC.cells
      have cf := hC.free
      have cl := hC.lt
      go_wp2_with ((with_reducible refine (of_both (bat t 3) _ hb1.1 hb1.2).mono ?_); rintro e w' ⟨rfl, rfl⟩; rw [hv])
      all_goals first | (exfalso; omega) | skip
      go_ret
      exact ⟨by rw [← HX.out]; rfl, hC.put 1 _, hK.set (p := ⟨b, 1, none⟩) rfl _⟩
end Go.Proofs.YtggomjfllbljeaaGreatDoor
