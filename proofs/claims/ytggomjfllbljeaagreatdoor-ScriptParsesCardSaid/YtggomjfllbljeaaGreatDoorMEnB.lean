/- Put together by program of: En3, En4, En5, En6. -/
import Derived.Test.YtggomjfllbljeaaGreatDoorMEnA
import Derived.OrdersHeld
import Derived.Test.YtggomjfllbljeaaGreatDoorScE
namespace Go.Proofs.YtggomjfllbljeaaGreatDoor
set_option linter.unusedVariables false
open Go Go.RowKit
set_option maxRecDepth 100000 in
set_option maxHeartbeats 2000000 in
theorem want_any (p : Value) (e a : Int) (W : World) : Calls Tryz.prog 196 #[p, .bool true, .int .i64 e, .int .i64 a] W fun e W' => e = .returned (.tuple #[]) ∧ W = W' := by
  go_enter Tryz.func196, Tryz.ntmps196
  go_wp2
  refine bodyPost_end (results_none rfl _ _ _) rfl ?_
  exact ⟨rfl, rfl⟩
set_option maxRecDepth 100000 in
set_option maxHeartbeats 4000000 in
theorem sign_b {W : World} {b : Nat} {tx of : ByteArray} {k : Int} (h : PR W b eT 6 k tx of) :
    Calls Tryz.prog 198 #[.pointer (some ⟨b, 0, none⟩), .string ⟨#[47]⟩] W fun e W' => e = .returned (.tuple #[]) ∧ PR W' b eT 7 k tx of ∧ Kp (Ob b) W W' := by
  go_enter Tryz.func198, Tryz.ntmps198
  have hd : PR W.drew b eT 6 k tx of := h
  refine wp_region_held_drew (S := fun _ => True) (by kernel_rfl) trivial (fun hS => ?_)
  refine tk (i := 0) (oi := { dst := some 4, op := .move (.tmp 0), type := 238, pos := "entry.go:36", after := #[], guard := none }) (v := ?_) ?_ hS ?_
  rotate_left
  · intro w9 hS9; skip; go_simp; try with_reducible rfl
  try simp only [Act.put]
  try simp only [List.setIfInBounds_toArray]
  try simp only [List.set_cons_zero]
  try simp only [List.set_cons_succ]
  try simp only [List.set_cons_zero]
  refine tk (i := 1) (oi := { dst := some 5, op := .move (.tmp 0), type := 238, pos := "entry.go:36", after := #[], guard := none }) (v := ?_) ?_ hS ?_
  rotate_left
  · intro w9 hS9; skip; go_simp; try with_reducible rfl
  try simp only [Act.put]
  try simp only [List.setIfInBounds_toArray]
  try simp only [List.set_cons_zero]
  try simp only [List.set_cons_succ]
  try simp only [List.set_cons_zero]
  refine tk (i := 2) (oi := { dst := some 6, op := .nilCheck (.tmp 5), type := 0, pos := "entry.go:36", after := #[⟨1, .data⟩], guard := none }) (v := ?_) ?_ hS ?_
  rotate_left
  · intro w9 hS9; skip; go_simp; try with_reducible rfl
  try simp only [Act.put]
  try simp only [List.setIfInBounds_toArray]
  try simp only [List.set_cons_zero]
  try simp only [List.set_cons_succ]
  try simp only [List.set_cons_zero]
  refine tk (i := 3) (oi := { dst := some 7, op := .fieldAddr 240 (.tmp 6) 0, type := 0, pos := "entry.go:36", after := #[⟨2, .data⟩], guard := none }) (v := ?_) ?_ hS ?_
  rotate_left
  · intro w9 hS9; skip; go_simp; try with_reducible rfl
  try simp only [Act.put]
  try simp only [List.setIfInBounds_toArray]
  try simp only [List.set_cons_zero]
  try simp only [List.set_cons_succ]
  try simp only [List.set_cons_zero]
  refine tk (i := 4) (oi := { dst := some 8, op := .move (.tmp 1), type := 9, pos := "entry.go:36", after := #[], guard := none }) (v := ?_) ?_ hS ?_
  rotate_left
  · intro w9 hS9; skip; go_simp; try with_reducible rfl
  try simp only [Act.put]
  try simp only [List.setIfInBounds_toArray]
  try simp only [List.set_cons_zero]
  try simp only [List.set_cons_succ]
  try simp only [List.set_cons_zero]
  refine tk (i := 6) (oi := { dst := some 10, op := .move (.tmp 0), type := 238, pos := "entry.go:36", after := #[], guard := none }) (v := ?_) ?_ hS ?_
  rotate_left
  · intro w9 hS9; skip; go_simp; try with_reducible rfl
  try simp only [Act.put]
  try simp only [List.setIfInBounds_toArray]
  try simp only [List.set_cons_zero]
  try simp only [List.set_cons_succ]
  try simp only [List.set_cons_zero]
  refine tk (i := 7) (oi := { dst := some 11, op := .nilCheck (.tmp 10), type := 0, pos := "entry.go:36", after := #[⟨6, .data⟩], guard := none }) (v := ?_) ?_ hS ?_
  rotate_left
  · intro w9 hS9; skip; go_simp; try with_reducible rfl
  try simp only [Act.put]
  try simp only [List.setIfInBounds_toArray]
  try simp only [List.set_cons_zero]
  try simp only [List.set_cons_succ]
  try simp only [List.set_cons_zero]
  refine tk (i := 8) (oi := { dst := some 12, op := .fieldAddr 240 (.tmp 11) 0, type := 0, pos := "entry.go:36", after := #[⟨7, .data⟩], guard := none }) (v := ?_) ?_ hS ?_
  rotate_left
  · intro w9 hS9; skip; go_simp; try with_reducible rfl
  try simp only [Act.put]
  try simp only [List.setIfInBounds_toArray]
  try simp only [List.set_cons_zero]
  try simp only [List.set_cons_succ]
  try simp only [List.set_cons_zero]
  refine tk (i := 9) (oi := { dst := some 13, op := .fieldAddr 72 (.tmp 12) 1, type := 0, pos := "entry.go:36", after := #[⟨8, .data⟩], guard := none }) (v := ?_) ?_ hS ?_
  rotate_left
  · intro w9 hS9; skip; go_simp; try with_reducible rfl
  try simp only [Act.put]
  try simp only [List.setIfInBounds_toArray]
  try simp only [List.set_cons_zero]
  try simp only [List.set_cons_succ]
  try simp only [List.set_cons_zero]
  refine wpAnyH_ready (rs := [5, 10]) (by kernel_rfl) (by simp) ?_
  refine AllReadyH.cons (o := { dst := some 9, op := .call { callee := .value (.func 25), args := #[.tmp 7, .tmp 8], argTypes := #[72, 9] }, type := 4, pos := "entry.go:36", after := #[⟨3, .data⟩, ⟨4, .data⟩], guard := none }) rfl (fun K9 hK9 => ?_) ?_
  · go_simp
    refine (word_b (a := 6) (p := ⟨#[47]⟩) hd (by decide) (by decide) (by decide)).mono ?_
    rintro e W1 ⟨rfl, hC, hK⟩
    refine hK9.out _ _ trivial (fun hS => ?_)
    clear hK9 K9
    try simp only [Act.put]
    try simp only [List.setIfInBounds_toArray]
    try simp only [List.set_cons_zero]
    try simp only [List.set_cons_succ]
    try simp only [List.set_cons_zero]
    refine wpAnyH_ready (rs := [10]) (by kernel_rfl) (by simp) ?_
    refine AllReadyH.cons (o := { dst := some 14, op := .load 3 (.tmp 13), type := 3, pos := "entry.go:36", after := #[⟨9, .data⟩], guard := none }) rfl (fun K9 hK9 => ?_) AllReadyH.nil
    have q1 := hC.cells
    go_simp
    refine hK9.out _ _ trivial (fun hS => ?_)
    clear hK9 K9
    try simp only [Act.put]
    try simp only [List.setIfInBounds_toArray]
    try simp only [List.set_cons_zero]
    try simp only [List.set_cons_succ]
    try simp only [List.set_cons_zero]
    refine wpAnyH_ready (rs := [11]) (by kernel_rfl) (by simp) ?_
    refine AllReadyH.cons (o := { dst := some 15, op := .call { callee := .value (.func 196), args := #[.tmp 4, .tmp 9, .const (.int .i64 42), .tmp 14], argTypes := #[238, 4, 26, 3] }, type := 0, pos := "entry.go:36", after := #[⟨0, .data⟩, ⟨5, .data⟩, ⟨10, .data⟩, ⟨5, .chain⟩], guard := none }) rfl (fun K9 hK9 => ?_) AllReadyH.nil
    go_simp
    refine (want_any _ _ _ _).mono ?_
    rintro e W2 ⟨rfl, rfl⟩
    refine hK9.out _ _ trivial (fun hS => ?_)
    clear hK9 K9
    try simp only [Act.put]
    try simp only [List.setIfInBounds_toArray]
    try simp only [List.set_cons_zero]
    try simp only [List.set_cons_succ]
    try simp only [List.set_cons_zero]
    refine wpAnyH_done (by kernel_rfl) ?_ _
    go_wp2
    refine bodyPost_end (results_none rfl _ _ _) rfl ?_
    exact ⟨rfl, hC, ((Kp.refl (Ob b) W).drew).trans (S' := Ob b) hK (fun _ _ e => e)⟩
  refine AllReadyH.cons (o := { dst := some 14, op := .load 3 (.tmp 13), type := 3, pos := "entry.go:36", after := #[⟨9, .data⟩], guard := none }) rfl (fun K9 hK9 => ?_) AllReadyH.nil
  have q0 := hd.cells
  go_simp
  refine hK9.out _ _ trivial (fun hS => ?_)
  clear hK9 K9
  try simp only [Act.put]
  try simp only [List.setIfInBounds_toArray]
  try simp only [List.set_cons_zero]
  try simp only [List.set_cons_succ]
  try simp only [List.set_cons_zero]
  refine wpAnyH_ready (rs := [5]) (by kernel_rfl) (by simp) ?_
  refine AllReadyH.cons (o := { dst := some 9, op := .call { callee := .value (.func 25), args := #[.tmp 7, .tmp 8], argTypes := #[72, 9] }, type := 4, pos := "entry.go:36", after := #[⟨3, .data⟩, ⟨4, .data⟩], guard := none }) rfl (fun K9 hK9 => ?_) AllReadyH.nil
  go_simp
  refine (word_b (a := 6) (p := ⟨#[47]⟩) hd (by decide) (by decide) (by decide)).mono ?_
  rintro e W1 ⟨rfl, hC, hK⟩
  refine hK9.out _ _ trivial (fun hS => ?_)
  clear hK9 K9
  try simp only [Act.put]
  try simp only [List.setIfInBounds_toArray]
  try simp only [List.set_cons_zero]
  try simp only [List.set_cons_succ]
  try simp only [List.set_cons_zero]
  refine wpAnyH_ready (rs := [11]) (by kernel_rfl) (by simp) ?_
  refine AllReadyH.cons (o := { dst := some 15, op := .call { callee := .value (.func 196), args := #[.tmp 4, .tmp 9, .const (.int .i64 42), .tmp 14], argTypes := #[238, 4, 26, 3] }, type := 0, pos := "entry.go:36", after := #[⟨0, .data⟩, ⟨5, .data⟩, ⟨10, .data⟩, ⟨5, .chain⟩], guard := none }) rfl (fun K9 hK9 => ?_) AllReadyH.nil
  go_simp
  refine (want_any _ _ _ _).mono ?_
  rintro e W2 ⟨rfl, rfl⟩
  refine hK9.out _ _ trivial (fun hS => ?_)
  clear hK9 K9
  try simp only [Act.put]
  try simp only [List.setIfInBounds_toArray]
  try simp only [List.set_cons_zero]
  try simp only [List.set_cons_succ]
  try simp only [List.set_cons_zero]
  refine wpAnyH_done (by kernel_rfl) ?_ _
  go_wp2
  refine bodyPost_end (results_none rfl _ _ _) rfl ?_
  exact ⟨rfl, hC, ((Kp.refl (Ob b) W).drew).trans (S' := Ob b) hK (fun _ _ e => e)⟩
set_option maxRecDepth 100000 in
set_option maxHeartbeats 4000000 in
theorem some_b {W : World} {b : Nat} {tx of : ByteArray} {k : Int} (h : PR W b eT 7 k tx of) :
    Calls Tryz.prog 202 #[.pointer (some ⟨b, 0, none⟩), .int .i64 3] W fun e W' => e = .returned (.string ⟨#[76, 79, 78]⟩) ∧ PR W' b eT 10 k tx of ∧ Kp (Ob b) W W' := by
  have hm : min (3 : Int) 3 = 3 := by decide
  go_enter Tryz.func202, Tryz.ntmps202
  go_upto_region 1 with fail
  have hd : PR W.drew b eT 7 k tx of := h
  refine wp_region_held_drew (S := fun _ => True) (by kernel_rfl) trivial (fun hS => ?_)
  refine tk (i := 0) (oi := { dst := some 8, op := .move (.tmp 0), type := 238, pos := "entry.go:25", after := #[], guard := none }) (v := ?_) ?_ hS ?_
  rotate_left
  · intro w9 hS9; skip; go_simp; try with_reducible rfl
  try simp only [Act.put]
  try simp only [List.setIfInBounds_toArray]
  try simp only [List.set_cons_zero]
  try simp only [List.set_cons_succ]
  try simp only [List.set_cons_zero]
  refine tk (i := 1) (oi := { dst := some 9, op := .nilCheck (.tmp 8), type := 0, pos := "entry.go:25", after := #[⟨0, .data⟩], guard := none }) (v := ?_) ?_ hS ?_
  rotate_left
  · intro w9 hS9; skip; go_simp; try with_reducible rfl
  try simp only [Act.put]
  try simp only [List.setIfInBounds_toArray]
  try simp only [List.set_cons_zero]
  try simp only [List.set_cons_succ]
  try simp only [List.set_cons_zero]
  refine tk (i := 2) (oi := { dst := some 10, op := .fieldAddr 240 (.tmp 9) 0, type := 0, pos := "entry.go:25", after := #[⟨1, .data⟩], guard := none }) (v := ?_) ?_ hS ?_
  rotate_left
  · intro w9 hS9; skip; go_simp; try with_reducible rfl
  try simp only [Act.put]
  try simp only [List.setIfInBounds_toArray]
  try simp only [List.set_cons_zero]
  try simp only [List.set_cons_succ]
  try simp only [List.set_cons_zero]
  refine tk (i := 3) (oi := { dst := some 11, op := .move (.tmp 1), type := 3, pos := "entry.go:25", after := #[], guard := none }) (v := ?_) ?_ hS ?_
  rotate_left
  · intro w9 hS9; skip; go_simp; try with_reducible rfl
  try simp only [Act.put]
  try simp only [List.setIfInBounds_toArray]
  try simp only [List.set_cons_zero]
  try simp only [List.set_cons_succ]
  try simp only [List.set_cons_zero]
  refine tk (i := 4) (oi := { dst := some 12, op := .move (.tmp 0), type := 238, pos := "entry.go:25", after := #[], guard := none }) (v := ?_) ?_ hS ?_
  rotate_left
  · intro w9 hS9; skip; go_simp; try with_reducible rfl
  try simp only [Act.put]
  try simp only [List.setIfInBounds_toArray]
  try simp only [List.set_cons_zero]
  try simp only [List.set_cons_succ]
  try simp only [List.set_cons_zero]
  refine tk (i := 5) (oi := { dst := some 13, op := .nilCheck (.tmp 12), type := 0, pos := "entry.go:25", after := #[⟨4, .data⟩], guard := none }) (v := ?_) ?_ hS ?_
  rotate_left
  · intro w9 hS9; skip; go_simp; try with_reducible rfl
  try simp only [Act.put]
  try simp only [List.setIfInBounds_toArray]
  try simp only [List.set_cons_zero]
  try simp only [List.set_cons_succ]
  try simp only [List.set_cons_zero]
  refine tk (i := 6) (oi := { dst := some 14, op := .fieldAddr 240 (.tmp 13) 0, type := 0, pos := "entry.go:25", after := #[⟨5, .data⟩], guard := none }) (v := ?_) ?_ hS ?_
  rotate_left
  · intro w9 hS9; skip; go_simp; try with_reducible rfl
  try simp only [Act.put]
  try simp only [List.setIfInBounds_toArray]
  try simp only [List.set_cons_zero]
  try simp only [List.set_cons_succ]
  try simp only [List.set_cons_zero]
  refine tk (i := 7) (oi := { dst := some 15, op := .fieldAddr 72 (.tmp 14) 0, type := 0, pos := "entry.go:25", after := #[⟨6, .data⟩], guard := none }) (v := ?_) ?_ hS ?_
  rotate_left
  · intro w9 hS9; skip; go_simp; try with_reducible rfl
  try simp only [Act.put]
  try simp only [List.setIfInBounds_toArray]
  try simp only [List.set_cons_zero]
  try simp only [List.set_cons_succ]
  try simp only [List.set_cons_zero]
  refine tk (i := 10) (oi := { dst := some 18, op := .move (.tmp 0), type := 238, pos := "entry.go:25", after := #[], guard := none }) (v := ?_) ?_ hS ?_
  rotate_left
  · intro w9 hS9; skip; go_simp; try with_reducible rfl
  try simp only [Act.put]
  try simp only [List.setIfInBounds_toArray]
  try simp only [List.set_cons_zero]
  try simp only [List.set_cons_succ]
  try simp only [List.set_cons_zero]
  refine tk (i := 11) (oi := { dst := some 19, op := .nilCheck (.tmp 18), type := 0, pos := "entry.go:25", after := #[⟨10, .data⟩], guard := none }) (v := ?_) ?_ hS ?_
  rotate_left
  · intro w9 hS9; skip; go_simp; try with_reducible rfl
  try simp only [Act.put]
  try simp only [List.setIfInBounds_toArray]
  try simp only [List.set_cons_zero]
  try simp only [List.set_cons_succ]
  try simp only [List.set_cons_zero]
  refine tk (i := 12) (oi := { dst := some 20, op := .fieldAddr 240 (.tmp 19) 0, type := 0, pos := "entry.go:25", after := #[⟨11, .data⟩], guard := none }) (v := ?_) ?_ hS ?_
  rotate_left
  · intro w9 hS9; skip; go_simp; try with_reducible rfl
  try simp only [Act.put]
  try simp only [List.setIfInBounds_toArray]
  try simp only [List.set_cons_zero]
  try simp only [List.set_cons_succ]
  try simp only [List.set_cons_zero]
  refine tk (i := 13) (oi := { dst := some 21, op := .fieldAddr 72 (.tmp 20) 1, type := 0, pos := "entry.go:25", after := #[⟨12, .data⟩], guard := none }) (v := ?_) ?_ hS ?_
  rotate_left
  · intro w9 hS9; skip; go_simp; try with_reducible rfl
  try simp only [Act.put]
  try simp only [List.setIfInBounds_toArray]
  try simp only [List.set_cons_zero]
  try simp only [List.set_cons_succ]
  try simp only [List.set_cons_zero]
  refine wpAnyH_ready (rs := [8, 14]) (by kernel_rfl) (by simp) ?_
  refine AllReadyH.cons (o := { dst := some 16, op := .load 9 (.tmp 15), type := 9, pos := "entry.go:25", after := #[⟨7, .data⟩], guard := none }) rfl (fun K9 hK9 => ?_) ?_
  · have q0 := hd.cells
    go_simp
    refine hK9.out _ _ trivial (fun hS => ?_)
    clear hK9 K9
    try simp only [Act.put]
    try simp only [List.setIfInBounds_toArray]
    try simp only [List.set_cons_zero]
    try simp only [List.set_cons_succ]
    try simp only [List.set_cons_zero]
    refine tk (i := 9) (oi := { dst := some 17, op := .call { callee := .builtin .len, args := #[.tmp 16], argTypes := #[9] }, type := 3, pos := "entry.go:25", after := #[⟨8, .data⟩], guard := none }) (v := ?_) ?_ hS ?_
    rotate_left
    · intro w9 hS9; skip; go_simp; try with_reducible rfl
    try simp only [Act.put]
    try simp only [List.setIfInBounds_toArray]
    try simp only [List.set_cons_zero]
    try simp only [List.set_cons_succ]
    try simp only [List.set_cons_zero]
    refine wpAnyH_ready (rs := [14]) (by kernel_rfl) (by simp) ?_
    refine AllReadyH.cons (o := { dst := some 22, op := .load 3 (.tmp 21), type := 3, pos := "entry.go:25", after := #[⟨13, .data⟩], guard := none }) rfl (fun K9 hK9 => ?_) AllReadyH.nil
    have q1 := hd.cells
    go_simp
    refine hK9.out _ _ trivial (fun hS => ?_)
    clear hK9 K9
    try simp only [Act.put]
    try simp only [List.setIfInBounds_toArray]
    try simp only [List.set_cons_zero]
    try simp only [List.set_cons_succ]
    try simp only [List.set_cons_zero]
    refine tk (i := 15) (oi := { dst := some 23, op := .binOp .sub 3 (.tmp 17) (.tmp 22) 3, type := 3, pos := "entry.go:25", after := #[⟨9, .data⟩, ⟨14, .data⟩], guard := none }) (v := ?_) ?_ hS ?_
    rotate_left
    · intro w9 hS9; skip; go_simp; try with_reducible rfl
    try simp only [Act.put]
    try simp only [List.setIfInBounds_toArray]
    try simp only [List.set_cons_zero]
    try simp only [List.set_cons_succ]
    try simp only [List.set_cons_zero]
    refine tk (i := 16) (oi := { dst := some 24, op := .call { callee := .builtin .min, args := #[.tmp 11, .tmp 23], argTypes := #[3, 3] }, type := 3, pos := "entry.go:25", after := #[⟨3, .data⟩, ⟨15, .data⟩], guard := none }) (v := ?_) ?_ hS ?_
    rotate_left
    · intro w9 hS9; skip; go_simp; try with_reducible rfl
    try simp only [Act.put]
    try simp only [List.setIfInBounds_toArray]
    try simp only [List.set_cons_zero]
    try simp only [List.set_cons_succ]
    try simp only [List.set_cons_zero]
    refine wpAnyH_ready (rs := [17]) (by kernel_rfl) (by simp) ?_
    refine AllReadyH.cons (o := { dst := some 25, op := .call { callee := .value (.func 297), args := #[.tmp 10, .tmp 24], argTypes := #[72, 3] }, type := 34, pos := "entry.go:25", after := #[⟨2, .data⟩, ⟨16, .data⟩], guard := none }) rfl (fun K9 hK9 => ?_) AllReadyH.nil
    go_simp
    refine (bytes_b (a := 7) 3 hd (by decide) (by decide)).mono ?_
    rintro e W1 ⟨rfl, hC, hK⟩
    refine hK9.out _ _ trivial (fun hS => ?_)
    clear hK9 K9
    try simp only [Act.put]
    try simp only [List.setIfInBounds_toArray]
    try simp only [List.set_cons_zero]
    try simp only [List.set_cons_succ]
    try simp only [List.set_cons_zero]
    refine tk (i := 18) (oi := { dst := some 7, op := .move (.tmp 25), type := 34, pos := "entry.go:25", after := #[⟨17, .data⟩], guard := none }) (v := ?_) ?_ hS ?_
    rotate_left
    · intro w9 hS9; skip; go_simp; try with_reducible rfl
    try simp only [Act.put]
    try simp only [List.setIfInBounds_toArray]
    try simp only [List.set_cons_zero]
    try simp only [List.set_cons_succ]
    try simp only [List.set_cons_zero]
    refine tk (i := 19) (oi := { dst := some 26, op := .extract (.tmp 7) 0, type := 9, pos := "entry.go:25", after := #[⟨18, .data⟩], guard := none }) (v := ?_) ?_ hS ?_
    rotate_left
    · intro w9 hS9; skip; go_simp; try with_reducible rfl
    try simp only [Act.put]
    try simp only [List.setIfInBounds_toArray]
    try simp only [List.set_cons_zero]
    try simp only [List.set_cons_succ]
    try simp only [List.set_cons_zero]
    refine tk (i := 20) (oi := { dst := some 27, op := .extract (.tmp 7) 1, type := 4, pos := "entry.go:25", after := #[⟨18, .data⟩, ⟨21, .gcOnly .lateStores⟩], guard := none }) (v := ?_) ?_ hS ?_
    rotate_left
    · intro w9 hS9; skip; go_simp; try with_reducible rfl
    try simp only [Act.put]
    try simp only [List.setIfInBounds_toArray]
    try simp only [List.set_cons_zero]
    try simp only [List.set_cons_succ]
    try simp only [List.set_cons_zero]
    refine tk (i := 21) (oi := { dst := some 5, op := .assign (.tmp 26), type := 9, pos := "entry.go:25", after := #[⟨19, .data⟩, ⟨17, .chain⟩, ⟨0, .phase⟩, ⟨1, .phase⟩, ⟨2, .phase⟩, ⟨3, .phase⟩, ⟨4, .phase⟩, ⟨5, .phase⟩, ⟨6, .phase⟩, ⟨7, .phase⟩, ⟨8, .phase⟩, ⟨9, .phase⟩, ⟨10, .phase⟩, ⟨11, .phase⟩, ⟨12, .phase⟩, ⟨13, .phase⟩, ⟨14, .phase⟩, ⟨15, .phase⟩, ⟨16, .phase⟩, ⟨17, .phase⟩, ⟨18, .phase⟩, ⟨19, .phase⟩, ⟨20, .textOnly .lateStores⟩], guard := none }) (v := ?_) ?_ hS ?_
    rotate_left
    · intro w9 hS9; skip; go_simp; try with_reducible rfl
    try simp only [Act.put]
    try simp only [List.setIfInBounds_toArray]
    try simp only [List.set_cons_zero]
    try simp only [List.set_cons_succ]
    try simp only [List.set_cons_zero]
    refine tk (i := 22) (oi := { dst := some 6, op := .assign (.tmp 27), type := 4, pos := "entry.go:25", after := #[⟨20, .data⟩, ⟨21, .chain⟩, ⟨0, .phase⟩, ⟨1, .phase⟩, ⟨2, .phase⟩, ⟨3, .phase⟩, ⟨4, .phase⟩, ⟨5, .phase⟩, ⟨6, .phase⟩, ⟨7, .phase⟩, ⟨8, .phase⟩, ⟨9, .phase⟩, ⟨10, .phase⟩, ⟨11, .phase⟩, ⟨12, .phase⟩, ⟨13, .phase⟩, ⟨14, .phase⟩, ⟨15, .phase⟩, ⟨16, .phase⟩, ⟨17, .phase⟩, ⟨18, .phase⟩, ⟨19, .phase⟩, ⟨20, .phase⟩, ⟨21, .phase⟩], guard := none }) (v := ?_) ?_ hS ?_
    rotate_left
    · intro w9 hS9; skip; go_simp; try with_reducible rfl
    try simp only [Act.put]
    try simp only [List.setIfInBounds_toArray]
    try simp only [List.set_cons_zero]
    try simp only [List.set_cons_succ]
    try simp only [List.set_cons_zero]
    refine wpAnyH_done (by kernel_rfl) ?_ _
    go_wp2
    go_ret
    exact ⟨rfl, hC, ((Kp.refl (Ob b) W).drew).trans (S' := Ob b) hK (fun _ _ e => e)⟩
  refine AllReadyH.cons (o := { dst := some 22, op := .load 3 (.tmp 21), type := 3, pos := "entry.go:25", after := #[⟨13, .data⟩], guard := none }) rfl (fun K9 hK9 => ?_) AllReadyH.nil
  have q0 := hd.cells
  go_simp
  refine hK9.out _ _ trivial (fun hS => ?_)
  clear hK9 K9
  try simp only [Act.put]
  try simp only [List.setIfInBounds_toArray]
  try simp only [List.set_cons_zero]
  try simp only [List.set_cons_succ]
  try simp only [List.set_cons_zero]
  refine wpAnyH_ready (rs := [8]) (by kernel_rfl) (by simp) ?_
  refine AllReadyH.cons (o := { dst := some 16, op := .load 9 (.tmp 15), type := 9, pos := "entry.go:25", after := #[⟨7, .data⟩], guard := none }) rfl (fun K9 hK9 => ?_) AllReadyH.nil
  have q1 := hd.cells
  go_simp
  refine hK9.out _ _ trivial (fun hS => ?_)
  clear hK9 K9
  try simp only [Act.put]
  try simp only [List.setIfInBounds_toArray]
  try simp only [List.set_cons_zero]
  try simp only [List.set_cons_succ]
  try simp only [List.set_cons_zero]
  refine tk (i := 9) (oi := { dst := some 17, op := .call { callee := .builtin .len, args := #[.tmp 16], argTypes := #[9] }, type := 3, pos := "entry.go:25", after := #[⟨8, .data⟩], guard := none }) (v := ?_) ?_ hS ?_
  rotate_left
  · intro w9 hS9; skip; go_simp; try with_reducible rfl
  try simp only [Act.put]
  try simp only [List.setIfInBounds_toArray]
  try simp only [List.set_cons_zero]
  try simp only [List.set_cons_succ]
  try simp only [List.set_cons_zero]
  refine tk (i := 15) (oi := { dst := some 23, op := .binOp .sub 3 (.tmp 17) (.tmp 22) 3, type := 3, pos := "entry.go:25", after := #[⟨9, .data⟩, ⟨14, .data⟩], guard := none }) (v := ?_) ?_ hS ?_
  rotate_left
  · intro w9 hS9; skip; go_simp; try with_reducible rfl
  try simp only [Act.put]
  try simp only [List.setIfInBounds_toArray]
  try simp only [List.set_cons_zero]
  try simp only [List.set_cons_succ]
  try simp only [List.set_cons_zero]
  refine tk (i := 16) (oi := { dst := some 24, op := .call { callee := .builtin .min, args := #[.tmp 11, .tmp 23], argTypes := #[3, 3] }, type := 3, pos := "entry.go:25", after := #[⟨3, .data⟩, ⟨15, .data⟩], guard := none }) (v := ?_) ?_ hS ?_
  rotate_left
  · intro w9 hS9; skip; go_simp; try with_reducible rfl
  try simp only [Act.put]
  try simp only [List.setIfInBounds_toArray]
  try simp only [List.set_cons_zero]
  try simp only [List.set_cons_succ]
  try simp only [List.set_cons_zero]
  refine wpAnyH_ready (rs := [17]) (by kernel_rfl) (by simp) ?_
  refine AllReadyH.cons (o := { dst := some 25, op := .call { callee := .value (.func 297), args := #[.tmp 10, .tmp 24], argTypes := #[72, 3] }, type := 34, pos := "entry.go:25", after := #[⟨2, .data⟩, ⟨16, .data⟩], guard := none }) rfl (fun K9 hK9 => ?_) AllReadyH.nil
  go_simp
  refine (bytes_b (a := 7) 3 hd (by decide) (by decide)).mono ?_
  rintro e W1 ⟨rfl, hC, hK⟩
  refine hK9.out _ _ trivial (fun hS => ?_)
  clear hK9 K9
  try simp only [Act.put]
  try simp only [List.setIfInBounds_toArray]
  try simp only [List.set_cons_zero]
  try simp only [List.set_cons_succ]
  try simp only [List.set_cons_zero]
  refine tk (i := 18) (oi := { dst := some 7, op := .move (.tmp 25), type := 34, pos := "entry.go:25", after := #[⟨17, .data⟩], guard := none }) (v := ?_) ?_ hS ?_
  rotate_left
  · intro w9 hS9; skip; go_simp; try with_reducible rfl
  try simp only [Act.put]
  try simp only [List.setIfInBounds_toArray]
  try simp only [List.set_cons_zero]
  try simp only [List.set_cons_succ]
  try simp only [List.set_cons_zero]
  refine tk (i := 19) (oi := { dst := some 26, op := .extract (.tmp 7) 0, type := 9, pos := "entry.go:25", after := #[⟨18, .data⟩], guard := none }) (v := ?_) ?_ hS ?_
  rotate_left
  · intro w9 hS9; skip; go_simp; try with_reducible rfl
  try simp only [Act.put]
  try simp only [List.setIfInBounds_toArray]
  try simp only [List.set_cons_zero]
  try simp only [List.set_cons_succ]
  try simp only [List.set_cons_zero]
  refine tk (i := 20) (oi := { dst := some 27, op := .extract (.tmp 7) 1, type := 4, pos := "entry.go:25", after := #[⟨18, .data⟩, ⟨21, .gcOnly .lateStores⟩], guard := none }) (v := ?_) ?_ hS ?_
  rotate_left
  · intro w9 hS9; skip; go_simp; try with_reducible rfl
  try simp only [Act.put]
  try simp only [List.setIfInBounds_toArray]
  try simp only [List.set_cons_zero]
  try simp only [List.set_cons_succ]
  try simp only [List.set_cons_zero]
  refine tk (i := 21) (oi := { dst := some 5, op := .assign (.tmp 26), type := 9, pos := "entry.go:25", after := #[⟨19, .data⟩, ⟨17, .chain⟩, ⟨0, .phase⟩, ⟨1, .phase⟩, ⟨2, .phase⟩, ⟨3, .phase⟩, ⟨4, .phase⟩, ⟨5, .phase⟩, ⟨6, .phase⟩, ⟨7, .phase⟩, ⟨8, .phase⟩, ⟨9, .phase⟩, ⟨10, .phase⟩, ⟨11, .phase⟩, ⟨12, .phase⟩, ⟨13, .phase⟩, ⟨14, .phase⟩, ⟨15, .phase⟩, ⟨16, .phase⟩, ⟨17, .phase⟩, ⟨18, .phase⟩, ⟨19, .phase⟩, ⟨20, .textOnly .lateStores⟩], guard := none }) (v := ?_) ?_ hS ?_
  rotate_left
  · intro w9 hS9; skip; go_simp; try with_reducible rfl
  try simp only [Act.put]
  try simp only [List.setIfInBounds_toArray]
  try simp only [List.set_cons_zero]
  try simp only [List.set_cons_succ]
  try simp only [List.set_cons_zero]
  refine tk (i := 22) (oi := { dst := some 6, op := .assign (.tmp 27), type := 4, pos := "entry.go:25", after := #[⟨20, .data⟩, ⟨21, .chain⟩, ⟨0, .phase⟩, ⟨1, .phase⟩, ⟨2, .phase⟩, ⟨3, .phase⟩, ⟨4, .phase⟩, ⟨5, .phase⟩, ⟨6, .phase⟩, ⟨7, .phase⟩, ⟨8, .phase⟩, ⟨9, .phase⟩, ⟨10, .phase⟩, ⟨11, .phase⟩, ⟨12, .phase⟩, ⟨13, .phase⟩, ⟨14, .phase⟩, ⟨15, .phase⟩, ⟨16, .phase⟩, ⟨17, .phase⟩, ⟨18, .phase⟩, ⟨19, .phase⟩, ⟨20, .phase⟩, ⟨21, .phase⟩], guard := none }) (v := ?_) ?_ hS ?_
  rotate_left
  · intro w9 hS9; skip; go_simp; try with_reducible rfl
  try simp only [Act.put]
  try simp only [List.setIfInBounds_toArray]
  try simp only [List.set_cons_zero]
  try simp only [List.set_cons_succ]
  try simp only [List.set_cons_zero]
  refine wpAnyH_done (by kernel_rfl) ?_ _
  go_wp2
  go_ret
  exact ⟨rfl, hC, ((Kp.refl (Ob b) W).drew).trans (S' := Ob b) hK (fun _ _ e => e)⟩
set_option maxRecDepth 100000 in
set_option maxHeartbeats 4000000 in
theorem city_b {W : World} {b : Nat} {tx of : ByteArray} {k : Int} (h : PR W b eT 7 k tx of) :
    Calls Tryz.prog 199 #[.pointer (some ⟨b, 0, none⟩)] W fun e W' => e = .returned (.string ⟨#[76, 79, 78]⟩) ∧ PR W' b eT 10 k tx of ∧ Kp (Ob b) W W' := by
  have c0 := h.cells
  have cl := h.lt
  go_enter Tryz.func199, Tryz.ntmps199
  go_wp2_with fail
  refine (some_b h).mono ?_
  rintro e W1 ⟨rfl, hC, hK⟩
  clear c0
  go_wp2_with fail
  refine (city_any _ _ (by decide)).mono ?_
  rintro e W2 ⟨rfl, hb⟩
  have hC2 := hC.below hb hC.lt
  have hK2 := hK.trans (S' := Ob b) (Kp.of hb) (fun _ _ e => e)
  rw [show wordB ⟨#[76, 79, 78]⟩ 3 3 = true by decide]
  go_wp2_with fail
  refine (want_any _ _ _ _).mono ?_
  rintro e W3 ⟨rfl, rfl⟩
  go_wp2
  go_ret
  exact ⟨rfl, hC2, hK2⟩
end Go.Proofs.YtggomjfllbljeaaGreatDoor
namespace Go.Proofs.YtggomjfllbljeaaGreatDoor
set_option linter.unusedVariables false
open Go Go.RowKit
set_option maxRecDepth 100000 in
set_option maxHeartbeats 8000000 in
theorem words_any (W : World) : Calls Tryz.prog 195 #[] W fun e W' => e = .returned (.slice (some ⟨W.heap.size, 0, none⟩) 27 27) ∧ W'.cell? ⟨W.heap.size, 0, none⟩ = some (.string ⟨#[83, 73, 42]⟩) ∧ W'.cell? ⟨W.heap.size, 1, none⟩ = some (.int .i64 1) ∧ W.heap.size < W'.heap.size ∧ Below W.heap.size W W' := by
  go_enter Tryz.func195, Tryz.ntmps195
  go_wp2
  go_ret
  refine ⟨rfl, ?_, ?_, ?_, ?_⟩
  · exact (Bx.new _ _ _).cells 0
  · exact (Bx.new _ _ _).cells 1
  · simp
  · exact (Below.refl _ _).alloc (Nat.le_refl _) _
end Go.Proofs.YtggomjfllbljeaaGreatDoor
namespace Go.Proofs.YtggomjfllbljeaaGreatDoor
set_option linter.unusedVariables false
open Go Go.RowKit
set_option maxRecDepth 100000 in
set_option maxHeartbeats 8000000 in
theorem begin_b {W : World} {b : Nat} (h : PR W b eT 0 0 ⟨#[]⟩ ⟨#[]⟩) :
    Calls Tryz.prog 119 #[.pointer (some ⟨b, 0, none⟩)] W fun e W' => e = .returned (.tuple #[]) ∧ PR W' b eT 3 1 ⟨#[]⟩ ⟨#[]⟩ ∧ Kp (Ob b) W W' := by
  have c0 := h.cells
  have cl := h.lt
  go_enter Tryz.func119, Tryz.ntmps119
  go_wp2_with fail
  refine (words_any _).mono ?_
  rintro e V ⟨rfl, d0, d1, hz, hb⟩
  have h2 := h.below hb cl
  clear c0
  have HB := Lib.hid hb
  clear hb
  go_wp2
  go_loop [3, 20] (fun _ i => i = .int .i64 0) (fun _ _ => 0)
  case atStart => rfl
  case round =>
    obtain rfl := hrel
    go_upto_region 6 with fail
    refine wp_world (fun V2 => Bx V2 V.heap.size #[.string ⟨#[83, 73, 42]⟩, .int .i64 1] 348 ∧ PR V2 b eT 0 0 ⟨#[]⟩ ⟨#[]⟩ ∧ Below W.heap.size W V2) ⟨Bx.new _ _ _, h2.alloc _, HB.out.alloc (Nat.le_of_lt hz) _⟩ ?_
    clear h2 d0 d1
    rintro V2 ⟨bg, h3, hb⟩
    have HB2 := Lib.hid hb
    clear hb HB
    have h3d : PR V2.drew b eT 0 0 ⟨#[]⟩ ⟨#[]⟩ := h3
    refine wp_region_held_drew (S := fun _ => True) (by kernel_rfl) trivial (fun hS => ?_)
    refine tk (i := 0) (oi := { dst := some 24, op := .move (.tmp 0), type := 238, pos := "entry.go:112", after := #[], guard := none }) (v := ?_) ?_ hS ?_
    rotate_left
    · intro w9 hS9; skip; go_simp; try with_reducible rfl
    try simp only [Act.put]
    try simp only [List.setIfInBounds_toArray]
    try simp only [List.set_cons_zero]
    try simp only [List.set_cons_succ]
    try simp only [List.set_cons_zero]
    refine tk (i := 1) (oi := { dst := some 25, op := .nilCheck (.tmp 24), type := 0, pos := "entry.go:112", after := #[⟨0, .data⟩], guard := none }) (v := ?_) ?_ hS ?_
    rotate_left
    · intro w9 hS9; skip; go_simp; try with_reducible rfl
    try simp only [Act.put]
    try simp only [List.setIfInBounds_toArray]
    try simp only [List.set_cons_zero]
    try simp only [List.set_cons_succ]
    try simp only [List.set_cons_zero]
    refine tk (i := 2) (oi := { dst := some 26, op := .fieldAddr 240 (.tmp 25) 0, type := 0, pos := "entry.go:112", after := #[⟨1, .data⟩], guard := none }) (v := ?_) ?_ hS ?_
    rotate_left
    · intro w9 hS9; skip; go_simp; try with_reducible rfl
    try simp only [Act.put]
    try simp only [List.setIfInBounds_toArray]
    try simp only [List.set_cons_zero]
    try simp only [List.set_cons_succ]
    try simp only [List.set_cons_zero]
    refine tk (i := 3) (oi := { dst := some 27, op := .fieldAddr 348 (.tmp 3) 0, type := 0, pos := "entry.go:112", after := #[], guard := none }) (v := ?_) ?_ hS ?_
    rotate_left
    · intro w9 hS9; skip; go_simp; try with_reducible rfl
    try simp only [Act.put]
    try simp only [List.setIfInBounds_toArray]
    try simp only [List.set_cons_zero]
    try simp only [List.set_cons_succ]
    try simp only [List.set_cons_zero]
    refine wpAnyH_ready (rs := [4]) (by kernel_rfl) (by simp) ?_
    refine AllReadyH.cons (o := { dst := some 28, op := .load 9 (.tmp 27), type := 9, pos := "entry.go:112", after := #[⟨3, .data⟩], guard := none }) rfl (fun K9 hK9 => ?_) AllReadyH.nil
    have q0 := bg.cells
    go_simp
    refine hK9.out _ _ trivial (fun hS => ?_)
    clear hK9 K9
    try simp only [Act.put]
    try simp only [List.setIfInBounds_toArray]
    try simp only [List.set_cons_zero]
    try simp only [List.set_cons_succ]
    try simp only [List.set_cons_zero]
    refine wpAnyH_ready (rs := [5]) (by kernel_rfl) (by simp) ?_
    refine AllReadyH.cons (o := { dst := some 29, op := .call { callee := .value (.func 25), args := #[.tmp 26, .tmp 28], argTypes := #[72, 9] }, type := 4, pos := "entry.go:112", after := #[⟨2, .data⟩, ⟨4, .data⟩], guard := none }) rfl (fun K9 hK9 => ?_) AllReadyH.nil
    go_simp
    refine (word_b (a := 0) (p := ⟨#[83, 73, 42]⟩) h3d (by decide) (by decide) (by decide)).mono ?_
    rintro e W1 ⟨rfl, hC, hK⟩
    refine hK9.out _ _ trivial (fun hS => ?_)
    clear hK9 K9
    try simp only [Act.put]
    try simp only [List.setIfInBounds_toArray]
    try simp only [List.set_cons_zero]
    try simp only [List.set_cons_succ]
    try simp only [List.set_cons_zero]
    refine wpAnyH_done (by kernel_rfl) ?_ _
    have bg1 := hK.bx (W := V2.drew) bg (by show ¬ _ = b; omega)
    have cg := bg1.cells
    have cf := hC.free
    have cC := hC.cells
    have czl := hC.lt
    have czg := bg1.lt
    go_wp2
    (try simp only [Exit.inBlock, Exit.then])
    refine bodyPost_ret (results_none rfl _ _ _) rfl ?_
    refine ⟨rfl, hC.put 2 _, ?_⟩
    have hK9 := (((Kp.of HB2.out : Kp (Ob b) W V2).drew).trans (S' := Ob b) hK (fun _ _ e => e)).set (p := ⟨b, 2, none⟩) rfl (.int .i64 1)
    exact hK9
end Go.Proofs.YtggomjfllbljeaaGreatDoor
namespace Go.Proofs.YtggomjfllbljeaaGreatDoor
set_option linter.unusedVariables false
open Go Go.RowKit
set_option maxRecDepth 100000 in
set_option maxHeartbeats 8000000 in
theorem parts_b {W : World} {b : Nat} (h : PR W b eT 3 1 ⟨#[]⟩ ⟨#[]⟩) :
    Calls Tryz.prog 120 #[.pointer (some ⟨b, 0, none⟩)] W fun e W' => e = .returned (.tuple #[]) ∧ PR W' b eT 10 1 ⟨#[65, 71, 49]⟩ ⟨#[76, 79, 78]⟩ ∧ Kp (Ob b) W W' := by
  have c0 := h.cells
  have cl := h.lt
  have hag : agentB ⟨#[65, 71, 49]⟩ = true := by decide
  go_enter Tryz.func120, Tryz.ntmps120
  go_wp2_with fail
  refine (run_both h).mono ?_
  rintro e W1 ⟨rfl, h1, hK1⟩
  clear c0
  have c1 := h1.cells
  have f1 := h1.free
  have l1 := h1.lt
  have H2 := h1.put 3 (.string ⟨#[65, 71, 49]⟩)
  have hK2 := hK1.set (p := ⟨b, 3, none⟩) rfl (.string ⟨#[65, 71, 49]⟩)
  go_upto_region 4 with fail
  refine wp_world (fun V => PR V b eT 6 1 ⟨#[65, 71, 49]⟩ ⟨#[]⟩ ∧ Kp (Ob b) W V) ⟨H2, hK2⟩ ?_
  clear c1 f1 l1 H2 hK2 h1 hK1
  rintro V ⟨h2, hK2⟩
  have c2 := h2.cells
  have l2 := h2.lt
  go_wp2_with fail
  refine (agent_any _ _ (by decide)).mono ?_
  rintro e W3 ⟨rfl, hb3⟩
  rw [hag]
  have h3 := h2.below hb3 l2
  have hK3 := hK2.trans (S' := Ob b) (Kp.of hb3) (fun _ _ e => e)
  clear c2
  go_wp2_with fail
  refine (want_any _ _ _ _).mono ?_
  rintro e W4 ⟨rfl, rfl⟩
  go_wp2_with fail
  refine (sign_b h3).mono ?_
  rintro e W5 ⟨rfl, h5, hK5⟩
  have hK6 := hK3.trans (S' := Ob b) hK5 (fun _ _ e => e)
  go_wp2_with fail
  refine (city_b h5).mono ?_
  rintro e W7 ⟨rfl, h7, hK7⟩
  have hK8 := hK6.trans (S' := Ob b) hK7 (fun _ _ e => e)
  have c7 := h7.cells
  have f7 := h7.free
  have l7 := h7.lt
  have H9 := h7.put 4 (.string ⟨#[76, 79, 78]⟩)
  have hK9 := hK8.set (p := ⟨b, 4, none⟩) rfl (.string ⟨#[76, 79, 78]⟩)
  go_wp2
  (try simp only [Exit.inBlock, Exit.then])
  refine bodyPost_end (results_none rfl _ _ _) rfl ?_
  exact ⟨rfl, H9, hK9⟩
end Go.Proofs.YtggomjfllbljeaaGreatDoor
