/- Put together by program of: Tk8, Tk9. -/
import Derived.Test.YtggomjfllbljeaaGreatDoorMTkA
import Derived.Test.YtggomjfllbljeaaGreatDoorTk7
import Derived.Test.YtggomjfllbljeaaGreatDoorMNwE
import Derived.Test.YtggomjfllbljeaaGreatDoorMHoB
namespace Go.Proofs.YtggomjfllbljeaaGreatDoor
set_option linter.unusedVariables false
open Go Go.RowKit
open Go.Maps
/-- A slice as an element. -/
def tSlc : Ty (Option Addr × Nat × Nat) := ⟨fun x => [.slice x.1 x.2.1 x.2.2], 1, fun _ => True, fun _ => rfl, fun x u h => by simp at h; subst h; rfl, by omega⟩
theorem sl_slc : SlT Tryz.prog 216 57 tSlc.sz := SlT.mk' (z := .slice none 0 0) (b := 24) Tryz.underlying216 (by kernel_rfl) (by omega) rfl
set_option maxRecDepth 100000 in
set_option maxHeartbeats 8000000 in
theorem append_9 {W : World} {d m l lo hi c : Nat} {a : Int} {A : Option Addr} {ls : List UInt8} (h : DkS W d m 20 a) (hl : Bx W l (lgC d 1 0 (.slice none 0 0)) 297) (hld : l ≠ d) (hlm : l ≠ m) (h0 : -90000 ≤ a) (h1 : a ≤ 90000) (hs : Sl W lo hi tBy A 9 ls) (hc : 9 ≤ c) (hh : hi ≤ W.heap.size) (hd : d < lo ∨ hi ≤ d) (hm : m < lo ∨ hi ≤ m) :
    Calls Tryz.prog 242 #[.pointer (some ⟨l, 0, none⟩), .slice A 9 c] W fun e W' => e = .returned (.int .i64 0) ∧ Kp (Odl d m l) W W' := by
  have hq9 : ((20 : Int) - 2) / 2 - 0 = 9 := by decide
  have c1 := hl.cells
  have hls := hs.len
  have zl := hl.lt
  have zd := h.bd.lt
  have zm : m < W.heap.size := by obtain ⟨g, hg⟩ := h.bm; exact hg.size
  have hne := h.ne
  go_enter Tryz.func242, Tryz.ntmps242
  go_wp2_with fail
  refine (need_1 _ 9 (by omega) (by omega)).mono ?_
  rintro e V1 ⟨rfl, rfl⟩
  go_wp2_with fail
  refine (room_1 h hl (by omega) (by omega)).mono ?_
  rintro e V1 ⟨rfl, hb1⟩
  rw [hq9]
  have D_0 : DkS V1.drew d m 20 a := h.keep ((Kp.of (S := fun _ => False) hb1).drew) (fun h => h) (fun h => h)
  have L_0 : Bx V1.drew l (lgC d 1 0 (.slice none 0 0)) 297 := hl.below hb1.drew zl
  have S_0 : Sl V1.drew lo hi tBy A 9 ls := (hs.below hb1 hh).drew
  have K_0 : Kp (Odl d m l) W V1.drew := (Kp.of hb1).drew
  have z10 : W.heap.size ≤ V1.drew.heap.size := hb1.size
  clear h hl hs hb1 c1 hq9
  have c1 : ∀ i, V1.cell? ⟨l, i, none⟩ = _ := L_0.cells
  go_upto_region 7 with fail
  clear c1
  refine wp_region_held_drew (S := fun w => Bx w l (lgC d 1 0 (.slice none 0 0)) 297) (by kernel_rfl) L_0 (fun hS => ?_)
  refine tk (i := 0) (oi := { dst := some 22, op := .move (.tmp 0), type := 205, pos := "wal.go:162", after := #[], guard := none }) (v := ?_) ?_ hS ?_
  rotate_left
  · intro w9 hS9; have q1 := hS9.cells; go_simp; try with_reducible rfl
  try simp only [Act.put]
  try simp only [List.setIfInBounds_toArray]
  try simp only [List.set_cons_zero]
  try simp only [List.set_cons_succ]
  try simp only [List.set_cons_zero]
  refine tk (i := 1) (oi := { dst := some 23, op := .move (.tmp 0), type := 205, pos := "wal.go:162", after := #[], guard := none }) (v := ?_) ?_ hS ?_
  rotate_left
  · intro w9 hS9; have q1 := hS9.cells; go_simp; try with_reducible rfl
  try simp only [Act.put]
  try simp only [List.setIfInBounds_toArray]
  try simp only [List.set_cons_zero]
  try simp only [List.set_cons_succ]
  try simp only [List.set_cons_zero]
  refine tk (i := 2) (oi := { dst := some 24, op := .nilCheck (.tmp 23), type := 0, pos := "wal.go:162", after := #[⟨1, .data⟩], guard := none }) (v := ?_) ?_ hS ?_
  rotate_left
  · intro w9 hS9; have q1 := hS9.cells; go_simp; try with_reducible rfl
  try simp only [Act.put]
  try simp only [List.setIfInBounds_toArray]
  try simp only [List.set_cons_zero]
  try simp only [List.set_cons_succ]
  try simp only [List.set_cons_zero]
  refine tk (i := 3) (oi := { dst := some 25, op := .fieldAddr 297 (.tmp 24) 1, type := 0, pos := "wal.go:162", after := #[⟨2, .data⟩], guard := none }) (v := ?_) ?_ hS ?_
  rotate_left
  · intro w9 hS9; have q1 := hS9.cells; go_simp; try with_reducible rfl
  try simp only [Act.put]
  try simp only [List.setIfInBounds_toArray]
  try simp only [List.set_cons_zero]
  try simp only [List.set_cons_succ]
  try simp only [List.set_cons_zero]
  refine tk (i := 4) (oi := { dst := some 26, op := .load 291 (.tmp 25), type := 291, pos := "wal.go:162", after := #[⟨3, .data⟩], guard := none }) (v := ?_) ?_ hS ?_
  rotate_left
  · intro w9 hS9; have q1 := hS9.cells; go_simp; try with_reducible rfl
  try simp only [Act.put]
  try simp only [List.setIfInBounds_toArray]
  try simp only [List.set_cons_zero]
  try simp only [List.set_cons_succ]
  try simp only [List.set_cons_zero]
  refine tk (i := 5) (oi := { dst := some 27, op := .move (.tmp 0), type := 205, pos := "wal.go:162", after := #[], guard := none }) (v := ?_) ?_ hS ?_
  rotate_left
  · intro w9 hS9; have q1 := hS9.cells; go_simp; try with_reducible rfl
  try simp only [Act.put]
  try simp only [List.setIfInBounds_toArray]
  try simp only [List.set_cons_zero]
  try simp only [List.set_cons_succ]
  try simp only [List.set_cons_zero]
  refine tk (i := 6) (oi := { dst := some 28, op := .nilCheck (.tmp 27), type := 0, pos := "wal.go:162", after := #[⟨5, .data⟩], guard := none }) (v := ?_) ?_ hS ?_
  rotate_left
  · intro w9 hS9; have q1 := hS9.cells; go_simp; try with_reducible rfl
  try simp only [Act.put]
  try simp only [List.setIfInBounds_toArray]
  try simp only [List.set_cons_zero]
  try simp only [List.set_cons_succ]
  try simp only [List.set_cons_zero]
  refine tk (i := 7) (oi := { dst := some 29, op := .fieldAddr 297 (.tmp 28) 3, type := 0, pos := "wal.go:162", after := #[⟨6, .data⟩], guard := none }) (v := ?_) ?_ hS ?_
  rotate_left
  · intro w9 hS9; have q1 := hS9.cells; go_simp; try with_reducible rfl
  try simp only [Act.put]
  try simp only [List.setIfInBounds_toArray]
  try simp only [List.set_cons_zero]
  try simp only [List.set_cons_succ]
  try simp only [List.set_cons_zero]
  refine tk (i := 8) (oi := { dst := some 30, op := .load 216 (.tmp 29), type := 216, pos := "wal.go:162", after := #[⟨7, .data⟩], guard := none }) (v := ?_) ?_ hS ?_
  rotate_left
  · intro w9 hS9; have q1 := hS9.cells; go_simp; try with_reducible rfl
  try simp only [Act.put]
  try simp only [List.setIfInBounds_toArray]
  try simp only [List.set_cons_zero]
  try simp only [List.set_cons_succ]
  try simp only [List.set_cons_zero]
  refine tk (i := 9) (oi := { dst := some 31, op := .call { callee := .builtin .len, args := #[.tmp 30], argTypes := #[216] }, type := 3, pos := "wal.go:162", after := #[⟨8, .data⟩], guard := none }) (v := ?_) ?_ hS ?_
  rotate_left
  · intro w9 hS9; have q1 := hS9.cells; go_simp; try with_reducible rfl
  try simp only [Act.put]
  try simp only [List.setIfInBounds_toArray]
  try simp only [List.set_cons_zero]
  try simp only [List.set_cons_succ]
  try simp only [List.set_cons_zero]
  refine tk (i := 10) (oi := { dst := some 32, op := .move (.tmp 0), type := 205, pos := "wal.go:162", after := #[], guard := none }) (v := ?_) ?_ hS ?_
  rotate_left
  · intro w9 hS9; have q1 := hS9.cells; go_simp; try with_reducible rfl
  try simp only [Act.put]
  try simp only [List.setIfInBounds_toArray]
  try simp only [List.set_cons_zero]
  try simp only [List.set_cons_succ]
  try simp only [List.set_cons_zero]
  refine tk (i := 11) (oi := { dst := some 33, op := .nilCheck (.tmp 32), type := 0, pos := "wal.go:162", after := #[⟨10, .data⟩], guard := none }) (v := ?_) ?_ hS ?_
  rotate_left
  · intro w9 hS9; have q1 := hS9.cells; go_simp; try with_reducible rfl
  try simp only [Act.put]
  try simp only [List.setIfInBounds_toArray]
  try simp only [List.set_cons_zero]
  try simp only [List.set_cons_succ]
  try simp only [List.set_cons_zero]
  refine tk (i := 12) (oi := { dst := some 34, op := .fieldAddr 297 (.tmp 33) 2, type := 0, pos := "wal.go:162", after := #[⟨11, .data⟩], guard := none }) (v := ?_) ?_ hS ?_
  rotate_left
  · intro w9 hS9; have q1 := hS9.cells; go_simp; try with_reducible rfl
  try simp only [Act.put]
  try simp only [List.setIfInBounds_toArray]
  try simp only [List.set_cons_zero]
  try simp only [List.set_cons_succ]
  try simp only [List.set_cons_zero]
  refine tk (i := 13) (oi := { dst := some 35, op := .load 3 (.tmp 34), type := 3, pos := "wal.go:162", after := #[⟨12, .data⟩], guard := none }) (v := ?_) ?_ hS ?_
  rotate_left
  · intro w9 hS9; have q1 := hS9.cells; go_simp; try with_reducible rfl
  try simp only [Act.put]
  try simp only [List.setIfInBounds_toArray]
  try simp only [List.set_cons_zero]
  try simp only [List.set_cons_succ]
  try simp only [List.set_cons_zero]
  refine tk (i := 14) (oi := { dst := some 36, op := .move (.tmp 1), type := 57, pos := "wal.go:162", after := #[], guard := none }) (v := ?_) ?_ hS ?_
  rotate_left
  · intro w9 hS9; have q1 := hS9.cells; go_simp; try with_reducible rfl
  try simp only [Act.put]
  try simp only [List.setIfInBounds_toArray]
  try simp only [List.set_cons_zero]
  try simp only [List.set_cons_succ]
  try simp only [List.set_cons_zero]
  refine wpAnyH_ready (rs := [15]) (by kernel_rfl) (by simp) ?_
  refine AllReadyH.cons (o := { dst := some 37, op := .call { callee := .value (.func 336), args := #[.tmp 22, .tmp 26, .tmp 31, .tmp 35, .tmp 36], argTypes := #[205, 291, 3, 3, 57] }, type := 26, pos := "wal.go:162", after := #[⟨0, .data⟩, ⟨4, .data⟩, ⟨9, .data⟩, ⟨13, .data⟩, ⟨14, .data⟩], guard := none }) rfl (fun K9 hK9 => ?_) AllReadyH.nil
  go_simp
  refine (lay_9 D_0 L_0 hld h0 h1 S_0 hc (Nat.le_trans hh z10)).mono ?_
  rintro e U1 ⟨x, q, c3, hxi, rfl, hd3, ho3, hK3⟩
  have L_1 := hK3.bx L_0 (by unfold Od; exact hld)
  refine hK9.out _ _ L_1 (fun hS => ?_)
  clear hK9 K9
  try simp only [Act.put]
  try simp only [List.setIfInBounds_toArray]
  try simp only [List.set_cons_zero]
  try simp only [List.set_cons_succ]
  try simp only [List.set_cons_zero]
  refine tk (i := 16) (oi := { dst := some 5, op := .assign (.tmp 37), type := 26, pos := "wal.go:162", after := #[⟨15, .data⟩, ⟨15, .chain⟩, ⟨0, .phase⟩, ⟨1, .phase⟩, ⟨2, .phase⟩, ⟨3, .phase⟩, ⟨4, .phase⟩, ⟨5, .phase⟩, ⟨6, .phase⟩, ⟨7, .phase⟩, ⟨8, .phase⟩, ⟨9, .phase⟩, ⟨10, .phase⟩, ⟨11, .phase⟩, ⟨12, .phase⟩, ⟨13, .phase⟩, ⟨14, .phase⟩, ⟨15, .phase⟩], guard := none }) (v := ?_) ?_ hS ?_
  rotate_left
  · intro w9 hS9; have q1 := hS9.cells; go_simp; try with_reducible rfl
  try simp only [Act.put]
  try simp only [List.setIfInBounds_toArray]
  try simp only [List.set_cons_zero]
  try simp only [List.set_cons_succ]
  try simp only [List.set_cons_zero]
  refine wpAnyH_done (by kernel_rfl) ?_ _
  have S_1 : Sl U1 lo hi tBy A 9 ls := S_0.keep fun p hp1 hp2 => World.cell?_of_block (hK3.block p.block (Nat.lt_of_lt_of_le hp2 (Nat.le_trans hh z10)) (by unfold Od; omega))
  obtain ⟨g1, hm1⟩ : ∃ g, MpD U1 m g := by obtain ⟨g, hg⟩ := D_0.bm; exact ⟨g, hg.keep (hK3.block m hg.size (by unfold Od; exact fun e => hne e.symm))⟩
  have K_1 : Kp (Odl d m l) W U1 := K_0.trans (S' := Od d) hK3 (fun b _ e => .inl e)
  have zd1 : d < V1.drew.heap.size := Nat.lt_of_lt_of_le zd z10
  have zm1 : m < V1.drew.heap.size := Nat.lt_of_lt_of_le zm z10
  have z11 : V1.drew.heap.size ≤ U1.heap.size := hK3.size
  have l1 := L_1.cells
  clear D_0 L_0 S_0 K_0 hK3
  go_wp2_with fail
  refine (flush_1 x hd3 hm1 ho3 hne zd1 zm1 (by omega) (by omega) (by rw [hxi]; exact ⟨by omega, by omega⟩)).mono ?_
  rintro e U2 ⟨g4, rfl, hd4, hm4, hK4⟩
  have L_2 : Bx U2.drew l (lgC d 1 0 (.slice none 0 0)) 297 := hK4.bx L_1 (by rintro (e | e) <;> omega)
  have S_2 : Sl U2.drew lo hi tBy A 9 ls := S_1.keep fun p hp1 hp2 => World.cell?_of_block (hK4.block p.block (Nat.lt_of_lt_of_le hp2 (Nat.le_trans hh (Nat.le_trans z10 z11))) (by rintro (e | e) <;> omega))
  have K_2 : Kp (Odl d m l) W U2.drew := (K_1.trans (S' := Odm d m) hK4 (fun b _ e => by rcases e with e | e; exact .inl e; exact .inr (.inl e))).drew
  have z12 : W.heap.size ≤ U2.drew.heap.size := K_2.size
  clear l1 L_1 S_1 K_1 hK4 hd4 hm4 hd3 hm1 ho3
  have l2 : ∀ i, U2.cell? ⟨l, i, none⟩ = _ := L_2.cells
  go_upto_region 13 with fail
  clear l2
  have zl2 : l < U2.drew.heap.size := L_2.lt
  have M_0 : Below U2.drew.heap.size U2.drew U2.drew := Below.refl _ _
  refine wp_region_held_drew (S := fun _ => True) (by kernel_rfl) trivial (fun hS => ?_)
  refine tk (i := 0) (oi := { dst := some 51, op := .move (.tmp 0), type := 205, pos := "wal.go:170", after := #[], guard := none }) (v := ?_) ?_ hS ?_
  rotate_left
  · intro w9 hS9; skip; go_simp; try with_reducible rfl
  try simp only [Act.put]
  try simp only [List.setIfInBounds_toArray]
  try simp only [List.set_cons_zero]
  try simp only [List.set_cons_succ]
  try simp only [List.set_cons_zero]
  refine tk (i := 1) (oi := { dst := some 52, op := .move (.tmp 0), type := 205, pos := "wal.go:170", after := #[], guard := none }) (v := ?_) ?_ hS ?_
  rotate_left
  · intro w9 hS9; skip; go_simp; try with_reducible rfl
  try simp only [Act.put]
  try simp only [List.setIfInBounds_toArray]
  try simp only [List.set_cons_zero]
  try simp only [List.set_cons_succ]
  try simp only [List.set_cons_zero]
  refine tk (i := 2) (oi := { dst := some 53, op := .nilCheck (.tmp 52), type := 0, pos := "wal.go:170", after := #[⟨1, .data⟩], guard := none }) (v := ?_) ?_ hS ?_
  rotate_left
  · intro w9 hS9; skip; go_simp; try with_reducible rfl
  try simp only [Act.put]
  try simp only [List.setIfInBounds_toArray]
  try simp only [List.set_cons_zero]
  try simp only [List.set_cons_succ]
  try simp only [List.set_cons_zero]
  refine tk (i := 3) (oi := { dst := some 54, op := .fieldAddr 297 (.tmp 53) 3, type := 0, pos := "wal.go:170", after := #[⟨2, .data⟩], guard := none }) (v := ?_) ?_ hS ?_
  rotate_left
  · intro w9 hS9; skip; go_simp; try with_reducible rfl
  try simp only [Act.put]
  try simp only [List.setIfInBounds_toArray]
  try simp only [List.set_cons_zero]
  try simp only [List.set_cons_succ]
  try simp only [List.set_cons_zero]
  refine tk (i := 5) (oi := { dst := some 56, op := .move (.tmp 1), type := 57, pos := "wal.go:170", after := #[], guard := none }) (v := ?_) ?_ hS ?_
  rotate_left
  · intro w9 hS9; skip; go_simp; try with_reducible rfl
  try simp only [Act.put]
  try simp only [List.setIfInBounds_toArray]
  try simp only [List.set_cons_zero]
  try simp only [List.set_cons_succ]
  try simp only [List.set_cons_zero]
  refine wpAnyH_ready (rs := [4, 6]) (by kernel_rfl) (by simp) ?_
  refine AllReadyH.cons (o := { dst := some 55, op := .load 216 (.tmp 54), type := 216, pos := "wal.go:170", after := #[⟨3, .data⟩], guard := none }) rfl (fun K9 hK9 => ?_) ?_
  · have l3 : ∀ i, U2.cell? ⟨l, i, none⟩ = _ := (L_2.below M_0 zl2).cells
    go_simp
    clear l3
    refine hK9.out _ _ trivial (fun hS => ?_)
    clear hK9 K9
    try simp only [Act.put]
    try simp only [List.setIfInBounds_toArray]
    try simp only [List.set_cons_zero]
    try simp only [List.set_cons_succ]
    try simp only [List.set_cons_zero]
    refine wpAnyH_ready (rs := [6]) (by kernel_rfl) (by simp) ?_
    refine AllReadyH.cons (o := { dst := some 57, op := .call { callee := .value (.func 174), args := #[.tmp 56], argTypes := #[57] }, type := 57, pos := "wal.go:170", after := #[⟨5, .data⟩], guard := none }) rfl (fun K9 hK9 => ?_) AllReadyH.nil
    go_simp
    refine (clone_by (c := c) S_2 (by omega) (by omega) (Nat.le_trans hh z12)).mono ?_
    rintro e U3 ⟨A3, c3, rfl, ho3, hb3⟩
    rw [hls] at ho3 ⊢
    refine hK9.out _ _ trivial (fun hS => ?_)
    clear hK9 K9
    try simp only [Act.put]
    try simp only [List.setIfInBounds_toArray]
    try simp only [List.set_cons_zero]
    try simp only [List.set_cons_succ]
    try simp only [List.set_cons_zero]
    refine wpAnyH_ready (rs := [7]) (by kernel_rfl) (by simp) ?_
    refine AllReadyH.cons (o := { dst := some 58, op := .buildSlice 216 1 #[(0, .tmp 57)], type := 216, pos := "wal.go:170", after := #[⟨6, .data⟩], guard := none }) rfl (fun K9 hK9 => ?_) AllReadyH.nil
    have N3 := heap_alloc_new U3 (.cells #[.slice A3 9 c3] 57)
    go_simp
    refine hK9.out _ _ trivial (fun hS => ?_)
    clear hK9 K9
    try simp only [Act.put]
    try simp only [List.setIfInBounds_toArray]
    try simp only [List.set_cons_zero]
    try simp only [List.set_cons_succ]
    try simp only [List.set_cons_zero]
    refine wpAnyH_ready (rs := [8]) (by kernel_rfl) (by simp) ?_
    refine AllReadyH.cons (o := { dst := some 59, op := .call { callee := .builtin .append, args := #[.tmp 55, .tmp 58], argTypes := #[216, 216] }, type := 216, pos := "wal.go:170", after := #[⟨4, .data⟩, ⟨7, .data⟩, ⟨6, .chain⟩], guard := none }) rfl (fun K9 hK9 => ?_) AllReadyH.nil
    refine step_push (T := tSlc) (B := U2.drew.heap.size) (g := U3.heap.size) rfl (.tmp 55) (.tmp 58) (by rfl) sl_slc (by rfl) (Own.nil_ _ _ _ _) (A3, 9, c3) trivial N3 rfl (by rfl) (Nat.le_trans hb3.size (by simp)) (by simp) ?_
    intro v4 U4 ho4 hg4 _
    have hb4 : Below U2.drew.heap.size U2.drew U4 := (hb3.alloc hb3.size (.cells #[.slice A3 9 c3] 57)).grown hg4 (Nat.le_trans hb3.size (by simp)) (fun k hk => by cases hk)
    obtain ⟨A4, c4, rfl⟩ := ho4.form
    refine hK9.out _ _ trivial (fun hS => ?_)
    clear hK9 K9
    try simp only [Act.put]
    try simp only [List.setIfInBounds_toArray]
    try simp only [List.set_cons_zero]
    try simp only [List.set_cons_succ]
    try simp only [List.set_cons_zero]
    refine tk (i := 9) (oi := { dst := some 60, op := .nilCheck (.tmp 51), type := 0, pos := "wal.go:170", after := #[⟨0, .data⟩, ⟨0, .phase⟩, ⟨1, .phase⟩, ⟨2, .phase⟩, ⟨3, .phase⟩, ⟨4, .phase⟩, ⟨5, .phase⟩, ⟨6, .phase⟩, ⟨7, .phase⟩, ⟨8, .phase⟩], guard := none }) (v := ?_) ?_ hS ?_
    rotate_left
    · intro w9 hS9; skip; go_simp; try with_reducible rfl
    try simp only [Act.put]
    try simp only [List.setIfInBounds_toArray]
    try simp only [List.set_cons_zero]
    try simp only [List.set_cons_succ]
    try simp only [List.set_cons_zero]
    refine tk (i := 10) (oi := { dst := some 61, op := .fieldAddr 297 (.tmp 60) 3, type := 0, pos := "wal.go:170", after := #[⟨9, .data⟩, ⟨0, .phase⟩, ⟨1, .phase⟩, ⟨2, .phase⟩, ⟨3, .phase⟩, ⟨4, .phase⟩, ⟨5, .phase⟩, ⟨6, .phase⟩, ⟨7, .phase⟩, ⟨8, .phase⟩], guard := none }) (v := ?_) ?_ hS ?_
    rotate_left
    · intro w9 hS9; skip; go_simp; try with_reducible rfl
    try simp only [Act.put]
    try simp only [List.setIfInBounds_toArray]
    try simp only [List.set_cons_zero]
    try simp only [List.set_cons_succ]
    try simp only [List.set_cons_zero]
    refine wpAnyH_ready (rs := [11]) (by kernel_rfl) (by simp) ?_
    refine AllReadyH.cons (o := { dst := none, op := .store 216 (.tmp 61) (.tmp 59), type := 0, pos := "wal.go:170", after := #[⟨10, .data⟩, ⟨8, .data⟩, ⟨8, .chain⟩, ⟨0, .phase⟩, ⟨1, .phase⟩, ⟨2, .phase⟩, ⟨3, .phase⟩, ⟨4, .phase⟩, ⟨5, .phase⟩, ⟨6, .phase⟩, ⟨7, .phase⟩, ⟨8, .phase⟩], guard := none }) rfl (fun K9 hK9 => ?_) AllReadyH.nil
    have L_4 := L_2.below hb4 zl2
    have l4 := L_4.cells
    have f4 := L_4.free
    have L_5 := L_4.put 3 (.slice A4 1 c4)
    have K_5 := (K_2.trans (S' := Odl d m l) (Kp.of hb4) (fun _ _ e => e)).set (p := ⟨l, 3, none⟩) (.inr (.inr rfl)) (.slice A4 1 c4)
    go_simp
    refine hK9.out _ _ trivial (fun hS => ?_)
    clear hK9 K9
    try simp only [Act.put]
    try simp only [List.setIfInBounds_toArray]
    try simp only [List.set_cons_zero]
    try simp only [List.set_cons_succ]
    try simp only [List.set_cons_zero]
    refine wpAnyH_done (by kernel_rfl) ?_ _
    clear l4 f4 L_4 hb4 ho4 hg4
    go_upto_region 14 with fail
    refine wp_world (fun V => Bx V l (lgC d 1 0 (.slice A4 1 c4)) 297 ∧ Kp (Odl d m l) W V) ⟨L_5, K_5⟩ ?_
    rintro V5 ⟨L5, K5⟩
    have L_6 : Bx V5.drew l (lgC d 1 0 (.slice A4 1 c4)) 297 := L5
    refine wp_region_held_drew (S := fun _ => True) (by kernel_rfl) trivial (fun hS => ?_)
    refine tk (i := 0) (oi := { dst := some 62, op := .move (.tmp 0), type := 205, pos := "wal.go:171", after := #[], guard := none }) (v := ?_) ?_ hS ?_
    rotate_left
    · intro w9 hS9; skip; go_simp; try with_reducible rfl
    try simp only [Act.put]
    try simp only [List.setIfInBounds_toArray]
    try simp only [List.set_cons_zero]
    try simp only [List.set_cons_succ]
    try simp only [List.set_cons_zero]
    refine tk (i := 1) (oi := { dst := some 63, op := .nilCheck (.tmp 62), type := 0, pos := "wal.go:171", after := #[⟨0, .data⟩], guard := none }) (v := ?_) ?_ hS ?_
    rotate_left
    · intro w9 hS9; skip; go_simp; try with_reducible rfl
    try simp only [Act.put]
    try simp only [List.setIfInBounds_toArray]
    try simp only [List.set_cons_zero]
    try simp only [List.set_cons_succ]
    try simp only [List.set_cons_zero]
    refine tk (i := 2) (oi := { dst := some 64, op := .fieldAddr 297 (.tmp 63) 2, type := 0, pos := "wal.go:171", after := #[⟨1, .data⟩], guard := none }) (v := ?_) ?_ hS ?_
    rotate_left
    · intro w9 hS9; skip; go_simp; try with_reducible rfl
    try simp only [Act.put]
    try simp only [List.setIfInBounds_toArray]
    try simp only [List.set_cons_zero]
    try simp only [List.set_cons_succ]
    try simp only [List.set_cons_zero]
    refine tk (i := 4) (oi := { dst := some 66, op := .move (.tmp 1), type := 57, pos := "wal.go:171", after := #[], guard := none }) (v := ?_) ?_ hS ?_
    rotate_left
    · intro w9 hS9; skip; go_simp; try with_reducible rfl
    try simp only [Act.put]
    try simp only [List.setIfInBounds_toArray]
    try simp only [List.set_cons_zero]
    try simp only [List.set_cons_succ]
    try simp only [List.set_cons_zero]
    refine tk (i := 5) (oi := { dst := some 67, op := .call { callee := .builtin .len, args := #[.tmp 66], argTypes := #[57] }, type := 3, pos := "wal.go:171", after := #[⟨4, .data⟩], guard := none }) (v := ?_) ?_ hS ?_
    rotate_left
    · intro w9 hS9; skip; go_simp; try with_reducible rfl
    try simp only [Act.put]
    try simp only [List.setIfInBounds_toArray]
    try simp only [List.set_cons_zero]
    try simp only [List.set_cons_succ]
    try simp only [List.set_cons_zero]
    refine wpAnyH_ready (rs := [3, 6]) (by kernel_rfl) (by simp) ?_
    refine AllReadyH.cons (o := { dst := some 65, op := .load 3 (.tmp 64), type := 3, pos := "wal.go:171", after := #[⟨2, .data⟩], guard := none }) rfl (fun K9 hK9 => ?_) ?_
    · have l6 : ∀ i, V5.cell? ⟨l, i, none⟩ = _ := L_6.cells
      go_simp
      clear l6
      refine hK9.out _ _ trivial (fun hS => ?_)
      clear hK9 K9
      try simp only [Act.put]
      try simp only [List.setIfInBounds_toArray]
      try simp only [List.set_cons_zero]
      try simp only [List.set_cons_succ]
      try simp only [List.set_cons_zero]
      refine wpAnyH_ready (rs := [6]) (by kernel_rfl) (by simp) ?_
      refine AllReadyH.cons (o := { dst := some 68, op := .call { callee := .value (.func 172), args := #[.tmp 67], argTypes := #[3] }, type := 3, pos := "wal.go:171", after := #[⟨5, .data⟩], guard := none }) rfl (fun K9 hK9 => ?_) AllReadyH.nil
      go_simp
      refine (need_1 _ 9 (by omega) (by omega)).mono ?_
      rintro e V6 ⟨rfl, hVV⟩
      subst hVV
      refine hK9.out _ _ trivial (fun hS => ?_)
      clear hK9 K9
      try simp only [Act.put]
      try simp only [List.setIfInBounds_toArray]
      try simp only [List.set_cons_zero]
      try simp only [List.set_cons_succ]
      try simp only [List.set_cons_zero]
      refine tk (i := 7) (oi := { dst := some 69, op := .binOp .add 3 (.tmp 65) (.tmp 68) 3, type := 3, pos := "wal.go:171", after := #[⟨3, .data⟩, ⟨6, .data⟩], guard := none }) (v := ?_) ?_ hS ?_
      rotate_left
      · intro w9 hS9; skip; go_simp; try with_reducible rfl
      try simp only [Act.put]
      try simp only [List.setIfInBounds_toArray]
      try simp only [List.set_cons_zero]
      try simp only [List.set_cons_succ]
      try simp only [List.set_cons_zero]
      refine tk (i := 8) (oi := { dst := some 70, op := .nilCheck (.tmp 62), type := 0, pos := "wal.go:171", after := #[⟨0, .data⟩, ⟨0, .phase⟩, ⟨1, .phase⟩, ⟨2, .phase⟩, ⟨3, .phase⟩, ⟨4, .phase⟩, ⟨5, .phase⟩, ⟨6, .phase⟩, ⟨7, .phase⟩], guard := none }) (v := ?_) ?_ hS ?_
      rotate_left
      · intro w9 hS9; skip; go_simp; try with_reducible rfl
      try simp only [Act.put]
      try simp only [List.setIfInBounds_toArray]
      try simp only [List.set_cons_zero]
      try simp only [List.set_cons_succ]
      try simp only [List.set_cons_zero]
      refine tk (i := 9) (oi := { dst := some 71, op := .fieldAddr 297 (.tmp 70) 2, type := 0, pos := "wal.go:171", after := #[⟨8, .data⟩, ⟨0, .phase⟩, ⟨1, .phase⟩, ⟨2, .phase⟩, ⟨3, .phase⟩, ⟨4, .phase⟩, ⟨5, .phase⟩, ⟨6, .phase⟩, ⟨7, .phase⟩], guard := none }) (v := ?_) ?_ hS ?_
      rotate_left
      · intro w9 hS9; skip; go_simp; try with_reducible rfl
      try simp only [Act.put]
      try simp only [List.setIfInBounds_toArray]
      try simp only [List.set_cons_zero]
      try simp only [List.set_cons_succ]
      try simp only [List.set_cons_zero]
      refine wpAnyH_ready (rs := [10]) (by kernel_rfl) (by simp) ?_
      refine AllReadyH.cons (o := { dst := none, op := .store 3 (.tmp 71) (.tmp 69), type := 0, pos := "wal.go:171", after := #[⟨9, .data⟩, ⟨7, .data⟩, ⟨6, .chain⟩, ⟨0, .phase⟩, ⟨1, .phase⟩, ⟨2, .phase⟩, ⟨3, .phase⟩, ⟨4, .phase⟩, ⟨5, .phase⟩, ⟨6, .phase⟩, ⟨7, .phase⟩], guard := none }) rfl (fun K9 hK9 => ?_) AllReadyH.nil
      have l6 : ∀ i, V5.cell? ⟨l, i, none⟩ = _ := L_6.cells
      have f6 : ∀ i, V5.frozen? ⟨l, i, none⟩ = false := L_6.free
      have K_7 := (K5.drew).set (p := ⟨l, 2, none⟩) (.inr (.inr rfl)) (.int .i64 1)
      go_simp
      refine hK9.out _ _ trivial (fun hS => ?_)
      clear hK9 K9
      try simp only [Act.put]
      try simp only [List.setIfInBounds_toArray]
      try simp only [List.set_cons_zero]
      try simp only [List.set_cons_succ]
      try simp only [List.set_cons_zero]
      refine wpAnyH_done (by kernel_rfl) ?_ _
      clear l6 f6
      go_wp2
      go_ret
      exact ⟨rfl, K_7⟩
    refine AllReadyH.cons (o := { dst := some 68, op := .call { callee := .value (.func 172), args := #[.tmp 67], argTypes := #[3] }, type := 3, pos := "wal.go:171", after := #[⟨5, .data⟩], guard := none }) rfl (fun K9 hK9 => ?_) AllReadyH.nil
    go_simp
    refine (need_1 _ 9 (by omega) (by omega)).mono ?_
    rintro e V6 ⟨rfl, hVV⟩
    subst hVV
    refine hK9.out _ _ trivial (fun hS => ?_)
    clear hK9 K9
    try simp only [Act.put]
    try simp only [List.setIfInBounds_toArray]
    try simp only [List.set_cons_zero]
    try simp only [List.set_cons_succ]
    try simp only [List.set_cons_zero]
    refine wpAnyH_ready (rs := [3]) (by kernel_rfl) (by simp) ?_
    refine AllReadyH.cons (o := { dst := some 65, op := .load 3 (.tmp 64), type := 3, pos := "wal.go:171", after := #[⟨2, .data⟩], guard := none }) rfl (fun K9 hK9 => ?_) AllReadyH.nil
    have l6 : ∀ i, V5.cell? ⟨l, i, none⟩ = _ := L_6.cells
    go_simp
    clear l6
    refine hK9.out _ _ trivial (fun hS => ?_)
    clear hK9 K9
    try simp only [Act.put]
    try simp only [List.setIfInBounds_toArray]
    try simp only [List.set_cons_zero]
    try simp only [List.set_cons_succ]
    try simp only [List.set_cons_zero]
    refine tk (i := 7) (oi := { dst := some 69, op := .binOp .add 3 (.tmp 65) (.tmp 68) 3, type := 3, pos := "wal.go:171", after := #[⟨3, .data⟩, ⟨6, .data⟩], guard := none }) (v := ?_) ?_ hS ?_
    rotate_left
    · intro w9 hS9; skip; go_simp; try with_reducible rfl
    try simp only [Act.put]
    try simp only [List.setIfInBounds_toArray]
    try simp only [List.set_cons_zero]
    try simp only [List.set_cons_succ]
    try simp only [List.set_cons_zero]
    refine tk (i := 8) (oi := { dst := some 70, op := .nilCheck (.tmp 62), type := 0, pos := "wal.go:171", after := #[⟨0, .data⟩, ⟨0, .phase⟩, ⟨1, .phase⟩, ⟨2, .phase⟩, ⟨3, .phase⟩, ⟨4, .phase⟩, ⟨5, .phase⟩, ⟨6, .phase⟩, ⟨7, .phase⟩], guard := none }) (v := ?_) ?_ hS ?_
    rotate_left
    · intro w9 hS9; skip; go_simp; try with_reducible rfl
    try simp only [Act.put]
    try simp only [List.setIfInBounds_toArray]
    try simp only [List.set_cons_zero]
    try simp only [List.set_cons_succ]
    try simp only [List.set_cons_zero]
    refine tk (i := 9) (oi := { dst := some 71, op := .fieldAddr 297 (.tmp 70) 2, type := 0, pos := "wal.go:171", after := #[⟨8, .data⟩, ⟨0, .phase⟩, ⟨1, .phase⟩, ⟨2, .phase⟩, ⟨3, .phase⟩, ⟨4, .phase⟩, ⟨5, .phase⟩, ⟨6, .phase⟩, ⟨7, .phase⟩], guard := none }) (v := ?_) ?_ hS ?_
    rotate_left
    · intro w9 hS9; skip; go_simp; try with_reducible rfl
    try simp only [Act.put]
    try simp only [List.setIfInBounds_toArray]
    try simp only [List.set_cons_zero]
    try simp only [List.set_cons_succ]
    try simp only [List.set_cons_zero]
    refine wpAnyH_ready (rs := [10]) (by kernel_rfl) (by simp) ?_
    refine AllReadyH.cons (o := { dst := none, op := .store 3 (.tmp 71) (.tmp 69), type := 0, pos := "wal.go:171", after := #[⟨9, .data⟩, ⟨7, .data⟩, ⟨6, .chain⟩, ⟨0, .phase⟩, ⟨1, .phase⟩, ⟨2, .phase⟩, ⟨3, .phase⟩, ⟨4, .phase⟩, ⟨5, .phase⟩, ⟨6, .phase⟩, ⟨7, .phase⟩], guard := none }) rfl (fun K9 hK9 => ?_) AllReadyH.nil
    have l6 : ∀ i, V5.cell? ⟨l, i, none⟩ = _ := L_6.cells
    have f6 : ∀ i, V5.frozen? ⟨l, i, none⟩ = false := L_6.free
    have K_7 := (K5.drew).set (p := ⟨l, 2, none⟩) (.inr (.inr rfl)) (.int .i64 1)
    go_simp
    refine hK9.out _ _ trivial (fun hS => ?_)
    clear hK9 K9
    try simp only [Act.put]
    try simp only [List.setIfInBounds_toArray]
    try simp only [List.set_cons_zero]
    try simp only [List.set_cons_succ]
    try simp only [List.set_cons_zero]
    refine wpAnyH_done (by kernel_rfl) ?_ _
    clear l6 f6
    go_wp2
    go_ret
    exact ⟨rfl, K_7⟩
  refine AllReadyH.cons (o := { dst := some 57, op := .call { callee := .value (.func 174), args := #[.tmp 56], argTypes := #[57] }, type := 57, pos := "wal.go:170", after := #[⟨5, .data⟩], guard := none }) rfl (fun K9 hK9 => ?_) AllReadyH.nil
  go_simp
  refine (clone_by (c := c) S_2 (by omega) (by omega) (Nat.le_trans hh z12)).mono ?_
  rintro e U3 ⟨A3, c3, rfl, ho3, hb3⟩
  rw [hls] at ho3 ⊢
  refine hK9.out _ _ trivial (fun hS => ?_)
  clear hK9 K9
  try simp only [Act.put]
  try simp only [List.setIfInBounds_toArray]
  try simp only [List.set_cons_zero]
  try simp only [List.set_cons_succ]
  try simp only [List.set_cons_zero]
  refine wpAnyH_ready (rs := [4, 7]) (by kernel_rfl) (by simp) ?_
  refine AllReadyH.cons (o := { dst := some 55, op := .load 216 (.tmp 54), type := 216, pos := "wal.go:170", after := #[⟨3, .data⟩], guard := none }) rfl (fun K9 hK9 => ?_) ?_
  · have l3 : ∀ i, U3.cell? ⟨l, i, none⟩ = _ := (L_2.below hb3 zl2).cells
    go_simp
    clear l3
    refine hK9.out _ _ trivial (fun hS => ?_)
    clear hK9 K9
    try simp only [Act.put]
    try simp only [List.setIfInBounds_toArray]
    try simp only [List.set_cons_zero]
    try simp only [List.set_cons_succ]
    try simp only [List.set_cons_zero]
    refine wpAnyH_ready (rs := [7]) (by kernel_rfl) (by simp) ?_
    refine AllReadyH.cons (o := { dst := some 58, op := .buildSlice 216 1 #[(0, .tmp 57)], type := 216, pos := "wal.go:170", after := #[⟨6, .data⟩], guard := none }) rfl (fun K9 hK9 => ?_) AllReadyH.nil
    have N3 := heap_alloc_new U3 (.cells #[.slice A3 9 c3] 57)
    go_simp
    refine hK9.out _ _ trivial (fun hS => ?_)
    clear hK9 K9
    try simp only [Act.put]
    try simp only [List.setIfInBounds_toArray]
    try simp only [List.set_cons_zero]
    try simp only [List.set_cons_succ]
    try simp only [List.set_cons_zero]
    refine wpAnyH_ready (rs := [8]) (by kernel_rfl) (by simp) ?_
    refine AllReadyH.cons (o := { dst := some 59, op := .call { callee := .builtin .append, args := #[.tmp 55, .tmp 58], argTypes := #[216, 216] }, type := 216, pos := "wal.go:170", after := #[⟨4, .data⟩, ⟨7, .data⟩, ⟨6, .chain⟩], guard := none }) rfl (fun K9 hK9 => ?_) AllReadyH.nil
    refine step_push (T := tSlc) (B := U2.drew.heap.size) (g := U3.heap.size) rfl (.tmp 55) (.tmp 58) (by rfl) sl_slc (by rfl) (Own.nil_ _ _ _ _) (A3, 9, c3) trivial N3 rfl (by rfl) (Nat.le_trans hb3.size (by simp)) (by simp) ?_
    intro v4 U4 ho4 hg4 _
    have hb4 : Below U2.drew.heap.size U2.drew U4 := (hb3.alloc hb3.size (.cells #[.slice A3 9 c3] 57)).grown hg4 (Nat.le_trans hb3.size (by simp)) (fun k hk => by cases hk)
    obtain ⟨A4, c4, rfl⟩ := ho4.form
    refine hK9.out _ _ trivial (fun hS => ?_)
    clear hK9 K9
    try simp only [Act.put]
    try simp only [List.setIfInBounds_toArray]
    try simp only [List.set_cons_zero]
    try simp only [List.set_cons_succ]
    try simp only [List.set_cons_zero]
    refine tk (i := 9) (oi := { dst := some 60, op := .nilCheck (.tmp 51), type := 0, pos := "wal.go:170", after := #[⟨0, .data⟩, ⟨0, .phase⟩, ⟨1, .phase⟩, ⟨2, .phase⟩, ⟨3, .phase⟩, ⟨4, .phase⟩, ⟨5, .phase⟩, ⟨6, .phase⟩, ⟨7, .phase⟩, ⟨8, .phase⟩], guard := none }) (v := ?_) ?_ hS ?_
    rotate_left
    · intro w9 hS9; skip; go_simp; try with_reducible rfl
    try simp only [Act.put]
    try simp only [List.setIfInBounds_toArray]
    try simp only [List.set_cons_zero]
    try simp only [List.set_cons_succ]
    try simp only [List.set_cons_zero]
    refine tk (i := 10) (oi := { dst := some 61, op := .fieldAddr 297 (.tmp 60) 3, type := 0, pos := "wal.go:170", after := #[⟨9, .data⟩, ⟨0, .phase⟩, ⟨1, .phase⟩, ⟨2, .phase⟩, ⟨3, .phase⟩, ⟨4, .phase⟩, ⟨5, .phase⟩, ⟨6, .phase⟩, ⟨7, .phase⟩, ⟨8, .phase⟩], guard := none }) (v := ?_) ?_ hS ?_
    rotate_left
    · intro w9 hS9; skip; go_simp; try with_reducible rfl
    try simp only [Act.put]
    try simp only [List.setIfInBounds_toArray]
    try simp only [List.set_cons_zero]
    try simp only [List.set_cons_succ]
    try simp only [List.set_cons_zero]
    refine wpAnyH_ready (rs := [11]) (by kernel_rfl) (by simp) ?_
    refine AllReadyH.cons (o := { dst := none, op := .store 216 (.tmp 61) (.tmp 59), type := 0, pos := "wal.go:170", after := #[⟨10, .data⟩, ⟨8, .data⟩, ⟨8, .chain⟩, ⟨0, .phase⟩, ⟨1, .phase⟩, ⟨2, .phase⟩, ⟨3, .phase⟩, ⟨4, .phase⟩, ⟨5, .phase⟩, ⟨6, .phase⟩, ⟨7, .phase⟩, ⟨8, .phase⟩], guard := none }) rfl (fun K9 hK9 => ?_) AllReadyH.nil
    have L_4 := L_2.below hb4 zl2
    have l4 := L_4.cells
    have f4 := L_4.free
    have L_5 := L_4.put 3 (.slice A4 1 c4)
    have K_5 := (K_2.trans (S' := Odl d m l) (Kp.of hb4) (fun _ _ e => e)).set (p := ⟨l, 3, none⟩) (.inr (.inr rfl)) (.slice A4 1 c4)
    go_simp
    refine hK9.out _ _ trivial (fun hS => ?_)
    clear hK9 K9
    try simp only [Act.put]
    try simp only [List.setIfInBounds_toArray]
    try simp only [List.set_cons_zero]
    try simp only [List.set_cons_succ]
    try simp only [List.set_cons_zero]
    refine wpAnyH_done (by kernel_rfl) ?_ _
    clear l4 f4 L_4 hb4 ho4 hg4
    go_upto_region 14 with fail
    refine wp_world (fun V => Bx V l (lgC d 1 0 (.slice A4 1 c4)) 297 ∧ Kp (Odl d m l) W V) ⟨L_5, K_5⟩ ?_
    rintro V5 ⟨L5, K5⟩
    have L_6 : Bx V5.drew l (lgC d 1 0 (.slice A4 1 c4)) 297 := L5
    refine wp_region_held_drew (S := fun _ => True) (by kernel_rfl) trivial (fun hS => ?_)
    refine tk (i := 0) (oi := { dst := some 62, op := .move (.tmp 0), type := 205, pos := "wal.go:171", after := #[], guard := none }) (v := ?_) ?_ hS ?_
    rotate_left
    · intro w9 hS9; skip; go_simp; try with_reducible rfl
    try simp only [Act.put]
    try simp only [List.setIfInBounds_toArray]
    try simp only [List.set_cons_zero]
    try simp only [List.set_cons_succ]
    try simp only [List.set_cons_zero]
    refine tk (i := 1) (oi := { dst := some 63, op := .nilCheck (.tmp 62), type := 0, pos := "wal.go:171", after := #[⟨0, .data⟩], guard := none }) (v := ?_) ?_ hS ?_
    rotate_left
    · intro w9 hS9; skip; go_simp; try with_reducible rfl
    try simp only [Act.put]
    try simp only [List.setIfInBounds_toArray]
    try simp only [List.set_cons_zero]
    try simp only [List.set_cons_succ]
    try simp only [List.set_cons_zero]
    refine tk (i := 2) (oi := { dst := some 64, op := .fieldAddr 297 (.tmp 63) 2, type := 0, pos := "wal.go:171", after := #[⟨1, .data⟩], guard := none }) (v := ?_) ?_ hS ?_
    rotate_left
    · intro w9 hS9; skip; go_simp; try with_reducible rfl
    try simp only [Act.put]
    try simp only [List.setIfInBounds_toArray]
    try simp only [List.set_cons_zero]
    try simp only [List.set_cons_succ]
    try simp only [List.set_cons_zero]
    refine tk (i := 4) (oi := { dst := some 66, op := .move (.tmp 1), type := 57, pos := "wal.go:171", after := #[], guard := none }) (v := ?_) ?_ hS ?_
    rotate_left
    · intro w9 hS9; skip; go_simp; try with_reducible rfl
    try simp only [Act.put]
    try simp only [List.setIfInBounds_toArray]
    try simp only [List.set_cons_zero]
    try simp only [List.set_cons_succ]
    try simp only [List.set_cons_zero]
    refine tk (i := 5) (oi := { dst := some 67, op := .call { callee := .builtin .len, args := #[.tmp 66], argTypes := #[57] }, type := 3, pos := "wal.go:171", after := #[⟨4, .data⟩], guard := none }) (v := ?_) ?_ hS ?_
    rotate_left
    · intro w9 hS9; skip; go_simp; try with_reducible rfl
    try simp only [Act.put]
    try simp only [List.setIfInBounds_toArray]
    try simp only [List.set_cons_zero]
    try simp only [List.set_cons_succ]
    try simp only [List.set_cons_zero]
    refine wpAnyH_ready (rs := [3, 6]) (by kernel_rfl) (by simp) ?_
    refine AllReadyH.cons (o := { dst := some 65, op := .load 3 (.tmp 64), type := 3, pos := "wal.go:171", after := #[⟨2, .data⟩], guard := none }) rfl (fun K9 hK9 => ?_) ?_
    · have l6 : ∀ i, V5.cell? ⟨l, i, none⟩ = _ := L_6.cells
      go_simp
      clear l6
      refine hK9.out _ _ trivial (fun hS => ?_)
      clear hK9 K9
      try simp only [Act.put]
      try simp only [List.setIfInBounds_toArray]
      try simp only [List.set_cons_zero]
      try simp only [List.set_cons_succ]
      try simp only [List.set_cons_zero]
      refine wpAnyH_ready (rs := [6]) (by kernel_rfl) (by simp) ?_
      refine AllReadyH.cons (o := { dst := some 68, op := .call { callee := .value (.func 172), args := #[.tmp 67], argTypes := #[3] }, type := 3, pos := "wal.go:171", after := #[⟨5, .data⟩], guard := none }) rfl (fun K9 hK9 => ?_) AllReadyH.nil
      go_simp
      refine (need_1 _ 9 (by omega) (by omega)).mono ?_
      rintro e V6 ⟨rfl, hVV⟩
      subst hVV
      refine hK9.out _ _ trivial (fun hS => ?_)
      clear hK9 K9
      try simp only [Act.put]
      try simp only [List.setIfInBounds_toArray]
      try simp only [List.set_cons_zero]
      try simp only [List.set_cons_succ]
      try simp only [List.set_cons_zero]
      refine tk (i := 7) (oi := { dst := some 69, op := .binOp .add 3 (.tmp 65) (.tmp 68) 3, type := 3, pos := "wal.go:171", after := #[⟨3, .data⟩, ⟨6, .data⟩], guard := none }) (v := ?_) ?_ hS ?_
      rotate_left
      · intro w9 hS9; skip; go_simp; try with_reducible rfl
      try simp only [Act.put]
      try simp only [List.setIfInBounds_toArray]
      try simp only [List.set_cons_zero]
      try simp only [List.set_cons_succ]
      try simp only [List.set_cons_zero]
      refine tk (i := 8) (oi := { dst := some 70, op := .nilCheck (.tmp 62), type := 0, pos := "wal.go:171", after := #[⟨0, .data⟩, ⟨0, .phase⟩, ⟨1, .phase⟩, ⟨2, .phase⟩, ⟨3, .phase⟩, ⟨4, .phase⟩, ⟨5, .phase⟩, ⟨6, .phase⟩, ⟨7, .phase⟩], guard := none }) (v := ?_) ?_ hS ?_
      rotate_left
      · intro w9 hS9; skip; go_simp; try with_reducible rfl
      try simp only [Act.put]
      try simp only [List.setIfInBounds_toArray]
      try simp only [List.set_cons_zero]
      try simp only [List.set_cons_succ]
      try simp only [List.set_cons_zero]
      refine tk (i := 9) (oi := { dst := some 71, op := .fieldAddr 297 (.tmp 70) 2, type := 0, pos := "wal.go:171", after := #[⟨8, .data⟩, ⟨0, .phase⟩, ⟨1, .phase⟩, ⟨2, .phase⟩, ⟨3, .phase⟩, ⟨4, .phase⟩, ⟨5, .phase⟩, ⟨6, .phase⟩, ⟨7, .phase⟩], guard := none }) (v := ?_) ?_ hS ?_
      rotate_left
      · intro w9 hS9; skip; go_simp; try with_reducible rfl
      try simp only [Act.put]
      try simp only [List.setIfInBounds_toArray]
      try simp only [List.set_cons_zero]
      try simp only [List.set_cons_succ]
      try simp only [List.set_cons_zero]
      refine wpAnyH_ready (rs := [10]) (by kernel_rfl) (by simp) ?_
      refine AllReadyH.cons (o := { dst := none, op := .store 3 (.tmp 71) (.tmp 69), type := 0, pos := "wal.go:171", after := #[⟨9, .data⟩, ⟨7, .data⟩, ⟨6, .chain⟩, ⟨0, .phase⟩, ⟨1, .phase⟩, ⟨2, .phase⟩, ⟨3, .phase⟩, ⟨4, .phase⟩, ⟨5, .phase⟩, ⟨6, .phase⟩, ⟨7, .phase⟩], guard := none }) rfl (fun K9 hK9 => ?_) AllReadyH.nil
      have l6 : ∀ i, V5.cell? ⟨l, i, none⟩ = _ := L_6.cells
      have f6 : ∀ i, V5.frozen? ⟨l, i, none⟩ = false := L_6.free
      have K_7 := (K5.drew).set (p := ⟨l, 2, none⟩) (.inr (.inr rfl)) (.int .i64 1)
      go_simp
      refine hK9.out _ _ trivial (fun hS => ?_)
      clear hK9 K9
      try simp only [Act.put]
      try simp only [List.setIfInBounds_toArray]
      try simp only [List.set_cons_zero]
      try simp only [List.set_cons_succ]
      try simp only [List.set_cons_zero]
      refine wpAnyH_done (by kernel_rfl) ?_ _
      clear l6 f6
      go_wp2
      go_ret
      exact ⟨rfl, K_7⟩
    refine AllReadyH.cons (o := { dst := some 68, op := .call { callee := .value (.func 172), args := #[.tmp 67], argTypes := #[3] }, type := 3, pos := "wal.go:171", after := #[⟨5, .data⟩], guard := none }) rfl (fun K9 hK9 => ?_) AllReadyH.nil
    go_simp
    refine (need_1 _ 9 (by omega) (by omega)).mono ?_
    rintro e V6 ⟨rfl, hVV⟩
    subst hVV
    refine hK9.out _ _ trivial (fun hS => ?_)
    clear hK9 K9
    try simp only [Act.put]
    try simp only [List.setIfInBounds_toArray]
    try simp only [List.set_cons_zero]
    try simp only [List.set_cons_succ]
    try simp only [List.set_cons_zero]
    refine wpAnyH_ready (rs := [3]) (by kernel_rfl) (by simp) ?_
    refine AllReadyH.cons (o := { dst := some 65, op := .load 3 (.tmp 64), type := 3, pos := "wal.go:171", after := #[⟨2, .data⟩], guard := none }) rfl (fun K9 hK9 => ?_) AllReadyH.nil
    have l6 : ∀ i, V5.cell? ⟨l, i, none⟩ = _ := L_6.cells
    go_simp
    clear l6
    refine hK9.out _ _ trivial (fun hS => ?_)
    clear hK9 K9
    try simp only [Act.put]
    try simp only [List.setIfInBounds_toArray]
    try simp only [List.set_cons_zero]
    try simp only [List.set_cons_succ]
    try simp only [List.set_cons_zero]
    refine tk (i := 7) (oi := { dst := some 69, op := .binOp .add 3 (.tmp 65) (.tmp 68) 3, type := 3, pos := "wal.go:171", after := #[⟨3, .data⟩, ⟨6, .data⟩], guard := none }) (v := ?_) ?_ hS ?_
    rotate_left
    · intro w9 hS9; skip; go_simp; try with_reducible rfl
    try simp only [Act.put]
    try simp only [List.setIfInBounds_toArray]
    try simp only [List.set_cons_zero]
    try simp only [List.set_cons_succ]
    try simp only [List.set_cons_zero]
    refine tk (i := 8) (oi := { dst := some 70, op := .nilCheck (.tmp 62), type := 0, pos := "wal.go:171", after := #[⟨0, .data⟩, ⟨0, .phase⟩, ⟨1, .phase⟩, ⟨2, .phase⟩, ⟨3, .phase⟩, ⟨4, .phase⟩, ⟨5, .phase⟩, ⟨6, .phase⟩, ⟨7, .phase⟩], guard := none }) (v := ?_) ?_ hS ?_
    rotate_left
    · intro w9 hS9; skip; go_simp; try with_reducible rfl
    try simp only [Act.put]
    try simp only [List.setIfInBounds_toArray]
    try simp only [List.set_cons_zero]
    try simp only [List.set_cons_succ]
    try simp only [List.set_cons_zero]
    refine tk (i := 9) (oi := { dst := some 71, op := .fieldAddr 297 (.tmp 70) 2, type := 0, pos := "wal.go:171", after := #[⟨8, .data⟩, ⟨0, .phase⟩, ⟨1, .phase⟩, ⟨2, .phase⟩, ⟨3, .phase⟩, ⟨4, .phase⟩, ⟨5, .phase⟩, ⟨6, .phase⟩, ⟨7, .phase⟩], guard := none }) (v := ?_) ?_ hS ?_
    rotate_left
    · intro w9 hS9; skip; go_simp; try with_reducible rfl
    try simp only [Act.put]
    try simp only [List.setIfInBounds_toArray]
    try simp only [List.set_cons_zero]
    try simp only [List.set_cons_succ]
    try simp only [List.set_cons_zero]
    refine wpAnyH_ready (rs := [10]) (by kernel_rfl) (by simp) ?_
    refine AllReadyH.cons (o := { dst := none, op := .store 3 (.tmp 71) (.tmp 69), type := 0, pos := "wal.go:171", after := #[⟨9, .data⟩, ⟨7, .data⟩, ⟨6, .chain⟩, ⟨0, .phase⟩, ⟨1, .phase⟩, ⟨2, .phase⟩, ⟨3, .phase⟩, ⟨4, .phase⟩, ⟨5, .phase⟩, ⟨6, .phase⟩, ⟨7, .phase⟩], guard := none }) rfl (fun K9 hK9 => ?_) AllReadyH.nil
    have l6 : ∀ i, V5.cell? ⟨l, i, none⟩ = _ := L_6.cells
    have f6 : ∀ i, V5.frozen? ⟨l, i, none⟩ = false := L_6.free
    have K_7 := (K5.drew).set (p := ⟨l, 2, none⟩) (.inr (.inr rfl)) (.int .i64 1)
    go_simp
    refine hK9.out _ _ trivial (fun hS => ?_)
    clear hK9 K9
    try simp only [Act.put]
    try simp only [List.setIfInBounds_toArray]
    try simp only [List.set_cons_zero]
    try simp only [List.set_cons_succ]
    try simp only [List.set_cons_zero]
    refine wpAnyH_done (by kernel_rfl) ?_ _
    clear l6 f6
    go_wp2
    go_ret
    exact ⟨rfl, K_7⟩
  refine AllReadyH.cons (o := { dst := some 58, op := .buildSlice 216 1 #[(0, .tmp 57)], type := 216, pos := "wal.go:170", after := #[⟨6, .data⟩], guard := none }) rfl (fun K9 hK9 => ?_) AllReadyH.nil
  have N3 := heap_alloc_new U3 (.cells #[.slice A3 9 c3] 57)
  go_simp
  refine hK9.out _ _ trivial (fun hS => ?_)
  clear hK9 K9
  try simp only [Act.put]
  try simp only [List.setIfInBounds_toArray]
  try simp only [List.set_cons_zero]
  try simp only [List.set_cons_succ]
  try simp only [List.set_cons_zero]
  refine wpAnyH_ready (rs := [4]) (by kernel_rfl) (by simp) ?_
  refine AllReadyH.cons (o := { dst := some 55, op := .load 216 (.tmp 54), type := 216, pos := "wal.go:170", after := #[⟨3, .data⟩], guard := none }) rfl (fun K9 hK9 => ?_) AllReadyH.nil
  have l3 : ∀ i, (U3.alloc (.cells #[.slice A3 9 c3] 57)).cell? ⟨l, i, none⟩ = _ := (L_2.below (hb3.alloc hb3.size (.cells #[.slice A3 9 c3] 57)) zl2).cells
  go_simp
  clear l3
  refine hK9.out _ _ trivial (fun hS => ?_)
  clear hK9 K9
  try simp only [Act.put]
  try simp only [List.setIfInBounds_toArray]
  try simp only [List.set_cons_zero]
  try simp only [List.set_cons_succ]
  try simp only [List.set_cons_zero]
  refine wpAnyH_ready (rs := [8]) (by kernel_rfl) (by simp) ?_
  refine AllReadyH.cons (o := { dst := some 59, op := .call { callee := .builtin .append, args := #[.tmp 55, .tmp 58], argTypes := #[216, 216] }, type := 216, pos := "wal.go:170", after := #[⟨4, .data⟩, ⟨7, .data⟩, ⟨6, .chain⟩], guard := none }) rfl (fun K9 hK9 => ?_) AllReadyH.nil
  refine step_push (T := tSlc) (B := U2.drew.heap.size) (g := U3.heap.size) rfl (.tmp 55) (.tmp 58) (by rfl) sl_slc (by rfl) (Own.nil_ _ _ _ _) (A3, 9, c3) trivial N3 rfl (by rfl) (Nat.le_trans hb3.size (by simp)) (by simp) ?_
  intro v4 U4 ho4 hg4 _
  have hb4 : Below U2.drew.heap.size U2.drew U4 := (hb3.alloc hb3.size (.cells #[.slice A3 9 c3] 57)).grown hg4 (Nat.le_trans hb3.size (by simp)) (fun k hk => by cases hk)
  obtain ⟨A4, c4, rfl⟩ := ho4.form
  refine hK9.out _ _ trivial (fun hS => ?_)
  clear hK9 K9
  try simp only [Act.put]
  try simp only [List.setIfInBounds_toArray]
  try simp only [List.set_cons_zero]
  try simp only [List.set_cons_succ]
  try simp only [List.set_cons_zero]
  refine tk (i := 9) (oi := { dst := some 60, op := .nilCheck (.tmp 51), type := 0, pos := "wal.go:170", after := #[⟨0, .data⟩, ⟨0, .phase⟩, ⟨1, .phase⟩, ⟨2, .phase⟩, ⟨3, .phase⟩, ⟨4, .phase⟩, ⟨5, .phase⟩, ⟨6, .phase⟩, ⟨7, .phase⟩, ⟨8, .phase⟩], guard := none }) (v := ?_) ?_ hS ?_
  rotate_left
  · intro w9 hS9; skip; go_simp; try with_reducible rfl
  try simp only [Act.put]
  try simp only [List.setIfInBounds_toArray]
  try simp only [List.set_cons_zero]
  try simp only [List.set_cons_succ]
  try simp only [List.set_cons_zero]
  refine tk (i := 10) (oi := { dst := some 61, op := .fieldAddr 297 (.tmp 60) 3, type := 0, pos := "wal.go:170", after := #[⟨9, .data⟩, ⟨0, .phase⟩, ⟨1, .phase⟩, ⟨2, .phase⟩, ⟨3, .phase⟩, ⟨4, .phase⟩, ⟨5, .phase⟩, ⟨6, .phase⟩, ⟨7, .phase⟩, ⟨8, .phase⟩], guard := none }) (v := ?_) ?_ hS ?_
  rotate_left
  · intro w9 hS9; skip; go_simp; try with_reducible rfl
  try simp only [Act.put]
  try simp only [List.setIfInBounds_toArray]
  try simp only [List.set_cons_zero]
  try simp only [List.set_cons_succ]
  try simp only [List.set_cons_zero]
  refine wpAnyH_ready (rs := [11]) (by kernel_rfl) (by simp) ?_
  refine AllReadyH.cons (o := { dst := none, op := .store 216 (.tmp 61) (.tmp 59), type := 0, pos := "wal.go:170", after := #[⟨10, .data⟩, ⟨8, .data⟩, ⟨8, .chain⟩, ⟨0, .phase⟩, ⟨1, .phase⟩, ⟨2, .phase⟩, ⟨3, .phase⟩, ⟨4, .phase⟩, ⟨5, .phase⟩, ⟨6, .phase⟩, ⟨7, .phase⟩, ⟨8, .phase⟩], guard := none }) rfl (fun K9 hK9 => ?_) AllReadyH.nil
  have L_4 := L_2.below hb4 zl2
  have l4 := L_4.cells
  have f4 := L_4.free
  have L_5 := L_4.put 3 (.slice A4 1 c4)
  have K_5 := (K_2.trans (S' := Odl d m l) (Kp.of hb4) (fun _ _ e => e)).set (p := ⟨l, 3, none⟩) (.inr (.inr rfl)) (.slice A4 1 c4)
  go_simp
  refine hK9.out _ _ trivial (fun hS => ?_)
  clear hK9 K9
  try simp only [Act.put]
  try simp only [List.setIfInBounds_toArray]
  try simp only [List.set_cons_zero]
  try simp only [List.set_cons_succ]
  try simp only [List.set_cons_zero]
  refine wpAnyH_done (by kernel_rfl) ?_ _
  clear l4 f4 L_4 hb4 ho4 hg4
  go_upto_region 14 with fail
  refine wp_world (fun V => Bx V l (lgC d 1 0 (.slice A4 1 c4)) 297 ∧ Kp (Odl d m l) W V) ⟨L_5, K_5⟩ ?_
  rintro V5 ⟨L5, K5⟩
  have L_6 : Bx V5.drew l (lgC d 1 0 (.slice A4 1 c4)) 297 := L5
  refine wp_region_held_drew (S := fun _ => True) (by kernel_rfl) trivial (fun hS => ?_)
  refine tk (i := 0) (oi := { dst := some 62, op := .move (.tmp 0), type := 205, pos := "wal.go:171", after := #[], guard := none }) (v := ?_) ?_ hS ?_
  rotate_left
  · intro w9 hS9; skip; go_simp; try with_reducible rfl
  try simp only [Act.put]
  try simp only [List.setIfInBounds_toArray]
  try simp only [List.set_cons_zero]
  try simp only [List.set_cons_succ]
  try simp only [List.set_cons_zero]
  refine tk (i := 1) (oi := { dst := some 63, op := .nilCheck (.tmp 62), type := 0, pos := "wal.go:171", after := #[⟨0, .data⟩], guard := none }) (v := ?_) ?_ hS ?_
  rotate_left
  · intro w9 hS9; skip; go_simp; try with_reducible rfl
  try simp only [Act.put]
  try simp only [List.setIfInBounds_toArray]
  try simp only [List.set_cons_zero]
  try simp only [List.set_cons_succ]
  try simp only [List.set_cons_zero]
  refine tk (i := 2) (oi := { dst := some 64, op := .fieldAddr 297 (.tmp 63) 2, type := 0, pos := "wal.go:171", after := #[⟨1, .data⟩], guard := none }) (v := ?_) ?_ hS ?_
  rotate_left
  · intro w9 hS9; skip; go_simp; try with_reducible rfl
  try simp only [Act.put]
  try simp only [List.setIfInBounds_toArray]
  try simp only [List.set_cons_zero]
  try simp only [List.set_cons_succ]
  try simp only [List.set_cons_zero]
  refine tk (i := 4) (oi := { dst := some 66, op := .move (.tmp 1), type := 57, pos := "wal.go:171", after := #[], guard := none }) (v := ?_) ?_ hS ?_
  rotate_left
  · intro w9 hS9; skip; go_simp; try with_reducible rfl
  try simp only [Act.put]
  try simp only [List.setIfInBounds_toArray]
  try simp only [List.set_cons_zero]
  try simp only [List.set_cons_succ]
  try simp only [List.set_cons_zero]
  refine tk (i := 5) (oi := { dst := some 67, op := .call { callee := .builtin .len, args := #[.tmp 66], argTypes := #[57] }, type := 3, pos := "wal.go:171", after := #[⟨4, .data⟩], guard := none }) (v := ?_) ?_ hS ?_
  rotate_left
  · intro w9 hS9; skip; go_simp; try with_reducible rfl
  try simp only [Act.put]
  try simp only [List.setIfInBounds_toArray]
  try simp only [List.set_cons_zero]
  try simp only [List.set_cons_succ]
  try simp only [List.set_cons_zero]
  refine wpAnyH_ready (rs := [3, 6]) (by kernel_rfl) (by simp) ?_
  refine AllReadyH.cons (o := { dst := some 65, op := .load 3 (.tmp 64), type := 3, pos := "wal.go:171", after := #[⟨2, .data⟩], guard := none }) rfl (fun K9 hK9 => ?_) ?_
  · have l6 : ∀ i, V5.cell? ⟨l, i, none⟩ = _ := L_6.cells
    go_simp
    clear l6
    refine hK9.out _ _ trivial (fun hS => ?_)
    clear hK9 K9
    try simp only [Act.put]
    try simp only [List.setIfInBounds_toArray]
    try simp only [List.set_cons_zero]
    try simp only [List.set_cons_succ]
    try simp only [List.set_cons_zero]
    refine wpAnyH_ready (rs := [6]) (by kernel_rfl) (by simp) ?_
    refine AllReadyH.cons (o := { dst := some 68, op := .call { callee := .value (.func 172), args := #[.tmp 67], argTypes := #[3] }, type := 3, pos := "wal.go:171", after := #[⟨5, .data⟩], guard := none }) rfl (fun K9 hK9 => ?_) AllReadyH.nil
    go_simp
    refine (need_1 _ 9 (by omega) (by omega)).mono ?_
    rintro e V6 ⟨rfl, hVV⟩
    subst hVV
    refine hK9.out _ _ trivial (fun hS => ?_)
    clear hK9 K9
    try simp only [Act.put]
    try simp only [List.setIfInBounds_toArray]
    try simp only [List.set_cons_zero]
    try simp only [List.set_cons_succ]
    try simp only [List.set_cons_zero]
    refine tk (i := 7) (oi := { dst := some 69, op := .binOp .add 3 (.tmp 65) (.tmp 68) 3, type := 3, pos := "wal.go:171", after := #[⟨3, .data⟩, ⟨6, .data⟩], guard := none }) (v := ?_) ?_ hS ?_
    rotate_left
    · intro w9 hS9; skip; go_simp; try with_reducible rfl
    try simp only [Act.put]
    try simp only [List.setIfInBounds_toArray]
    try simp only [List.set_cons_zero]
    try simp only [List.set_cons_succ]
    try simp only [List.set_cons_zero]
    refine tk (i := 8) (oi := { dst := some 70, op := .nilCheck (.tmp 62), type := 0, pos := "wal.go:171", after := #[⟨0, .data⟩, ⟨0, .phase⟩, ⟨1, .phase⟩, ⟨2, .phase⟩, ⟨3, .phase⟩, ⟨4, .phase⟩, ⟨5, .phase⟩, ⟨6, .phase⟩, ⟨7, .phase⟩], guard := none }) (v := ?_) ?_ hS ?_
    rotate_left
    · intro w9 hS9; skip; go_simp; try with_reducible rfl
    try simp only [Act.put]
    try simp only [List.setIfInBounds_toArray]
    try simp only [List.set_cons_zero]
    try simp only [List.set_cons_succ]
    try simp only [List.set_cons_zero]
    refine tk (i := 9) (oi := { dst := some 71, op := .fieldAddr 297 (.tmp 70) 2, type := 0, pos := "wal.go:171", after := #[⟨8, .data⟩, ⟨0, .phase⟩, ⟨1, .phase⟩, ⟨2, .phase⟩, ⟨3, .phase⟩, ⟨4, .phase⟩, ⟨5, .phase⟩, ⟨6, .phase⟩, ⟨7, .phase⟩], guard := none }) (v := ?_) ?_ hS ?_
    rotate_left
    · intro w9 hS9; skip; go_simp; try with_reducible rfl
    try simp only [Act.put]
    try simp only [List.setIfInBounds_toArray]
    try simp only [List.set_cons_zero]
    try simp only [List.set_cons_succ]
    try simp only [List.set_cons_zero]
    refine wpAnyH_ready (rs := [10]) (by kernel_rfl) (by simp) ?_
    refine AllReadyH.cons (o := { dst := none, op := .store 3 (.tmp 71) (.tmp 69), type := 0, pos := "wal.go:171", after := #[⟨9, .data⟩, ⟨7, .data⟩, ⟨6, .chain⟩, ⟨0, .phase⟩, ⟨1, .phase⟩, ⟨2, .phase⟩, ⟨3, .phase⟩, ⟨4, .phase⟩, ⟨5, .phase⟩, ⟨6, .phase⟩, ⟨7, .phase⟩], guard := none }) rfl (fun K9 hK9 => ?_) AllReadyH.nil
    have l6 : ∀ i, V5.cell? ⟨l, i, none⟩ = _ := L_6.cells
    have f6 : ∀ i, V5.frozen? ⟨l, i, none⟩ = false := L_6.free
    have K_7 := (K5.drew).set (p := ⟨l, 2, none⟩) (.inr (.inr rfl)) (.int .i64 1)
    go_simp
    refine hK9.out _ _ trivial (fun hS => ?_)
    clear hK9 K9
    try simp only [Act.put]
    try simp only [List.setIfInBounds_toArray]
    try simp only [List.set_cons_zero]
    try simp only [List.set_cons_succ]
    try simp only [List.set_cons_zero]
    refine wpAnyH_done (by kernel_rfl) ?_ _
    clear l6 f6
    go_wp2
    go_ret
    exact ⟨rfl, K_7⟩
  refine AllReadyH.cons (o := { dst := some 68, op := .call { callee := .value (.func 172), args := #[.tmp 67], argTypes := #[3] }, type := 3, pos := "wal.go:171", after := #[⟨5, .data⟩], guard := none }) rfl (fun K9 hK9 => ?_) AllReadyH.nil
  go_simp
  refine (need_1 _ 9 (by omega) (by omega)).mono ?_
  rintro e V6 ⟨rfl, hVV⟩
  subst hVV
  refine hK9.out _ _ trivial (fun hS => ?_)
  clear hK9 K9
  try simp only [Act.put]
  try simp only [List.setIfInBounds_toArray]
  try simp only [List.set_cons_zero]
  try simp only [List.set_cons_succ]
  try simp only [List.set_cons_zero]
  refine wpAnyH_ready (rs := [3]) (by kernel_rfl) (by simp) ?_
  refine AllReadyH.cons (o := { dst := some 65, op := .load 3 (.tmp 64), type := 3, pos := "wal.go:171", after := #[⟨2, .data⟩], guard := none }) rfl (fun K9 hK9 => ?_) AllReadyH.nil
  have l6 : ∀ i, V5.cell? ⟨l, i, none⟩ = _ := L_6.cells
  go_simp
  clear l6
  refine hK9.out _ _ trivial (fun hS => ?_)
  clear hK9 K9
  try simp only [Act.put]
  try simp only [List.setIfInBounds_toArray]
  try simp only [List.set_cons_zero]
  try simp only [List.set_cons_succ]
  try simp only [List.set_cons_zero]
  refine tk (i := 7) (oi := { dst := some 69, op := .binOp .add 3 (.tmp 65) (.tmp 68) 3, type := 3, pos := "wal.go:171", after := #[⟨3, .data⟩, ⟨6, .data⟩], guard := none }) (v := ?_) ?_ hS ?_
  rotate_left
  · intro w9 hS9; skip; go_simp; try with_reducible rfl
  try simp only [Act.put]
  try simp only [List.setIfInBounds_toArray]
  try simp only [List.set_cons_zero]
  try simp only [List.set_cons_succ]
  try simp only [List.set_cons_zero]
  refine tk (i := 8) (oi := { dst := some 70, op := .nilCheck (.tmp 62), type := 0, pos := "wal.go:171", after := #[⟨0, .data⟩, ⟨0, .phase⟩, ⟨1, .phase⟩, ⟨2, .phase⟩, ⟨3, .phase⟩, ⟨4, .phase⟩, ⟨5, .phase⟩, ⟨6, .phase⟩, ⟨7, .phase⟩], guard := none }) (v := ?_) ?_ hS ?_
  rotate_left
  · intro w9 hS9; skip; go_simp; try with_reducible rfl
  try simp only [Act.put]
  try simp only [List.setIfInBounds_toArray]
  try simp only [List.set_cons_zero]
  try simp only [List.set_cons_succ]
  try simp only [List.set_cons_zero]
  refine tk (i := 9) (oi := { dst := some 71, op := .fieldAddr 297 (.tmp 70) 2, type := 0, pos := "wal.go:171", after := #[⟨8, .data⟩, ⟨0, .phase⟩, ⟨1, .phase⟩, ⟨2, .phase⟩, ⟨3, .phase⟩, ⟨4, .phase⟩, ⟨5, .phase⟩, ⟨6, .phase⟩, ⟨7, .phase⟩], guard := none }) (v := ?_) ?_ hS ?_
  rotate_left
  · intro w9 hS9; skip; go_simp; try with_reducible rfl
  try simp only [Act.put]
  try simp only [List.setIfInBounds_toArray]
  try simp only [List.set_cons_zero]
  try simp only [List.set_cons_succ]
  try simp only [List.set_cons_zero]
  refine wpAnyH_ready (rs := [10]) (by kernel_rfl) (by simp) ?_
  refine AllReadyH.cons (o := { dst := none, op := .store 3 (.tmp 71) (.tmp 69), type := 0, pos := "wal.go:171", after := #[⟨9, .data⟩, ⟨7, .data⟩, ⟨6, .chain⟩, ⟨0, .phase⟩, ⟨1, .phase⟩, ⟨2, .phase⟩, ⟨3, .phase⟩, ⟨4, .phase⟩, ⟨5, .phase⟩, ⟨6, .phase⟩, ⟨7, .phase⟩], guard := none }) rfl (fun K9 hK9 => ?_) AllReadyH.nil
  have l6 : ∀ i, V5.cell? ⟨l, i, none⟩ = _ := L_6.cells
  have f6 : ∀ i, V5.frozen? ⟨l, i, none⟩ = false := L_6.free
  have K_7 := (K5.drew).set (p := ⟨l, 2, none⟩) (.inr (.inr rfl)) (.int .i64 1)
  go_simp
  refine hK9.out _ _ trivial (fun hS => ?_)
  clear hK9 K9
  try simp only [Act.put]
  try simp only [List.setIfInBounds_toArray]
  try simp only [List.set_cons_zero]
  try simp only [List.set_cons_succ]
  try simp only [List.set_cons_zero]
  refine wpAnyH_done (by kernel_rfl) ?_ _
  clear l6 f6
  go_wp2
  go_ret
  exact ⟨rfl, K_7⟩
end Go.Proofs.YtggomjfllbljeaaGreatDoor
namespace Go.Proofs.YtggomjfllbljeaaGreatDoor
set_option linter.unusedVariables false
open Go Go.RowKit
open Go.Maps
abbrev kC : ByteArray := ⟨#[67]⟩
set_option maxRecDepth 100000 in
set_option maxHeartbeats 8000000 in
theorem commit_1 {W : World} {s l d m g lo hi c : Nat} {a : Int} {A : Option Addr} {ls : List UInt8} {t : TypeId} (hst : Bx W s (stC 9 l) 215) (h : DkS W d m 20 a) (hl : Bx W l (lgC d 1 0 (.slice none 0 0)) 297) (hld : l ≠ d) (hlm : l ≠ m) (hsl : s ≠ l) (hsd : s ≠ d) (hsm : s ≠ m) (h0 : -90000 ≤ a) (h1 : a ≤ 90000)
    (hg : Bx W g (wrC kC A 3 c) t) (hs : Sl W lo hi tBy A 3 ls) (hh : hi ≤ W.heap.size) :
    Calls Tryz.prog 137 #[.pointer (some ⟨s, 0, none⟩), .slice (some ⟨g, 0, none⟩) 1 1] W fun e W' => e = .returned (.tuple #[.int .u64 1, .int .i64 0]) ∧ Kp (fun b => b = s ∨ Odl d m l b) W W' := by
  have c1 := hst.cells
  have HLS := Lib.hid (ld_mid (b := s) (cs := saC (.slice none 0 0) 0 0 1) (old := stC 9 l) (t := 215) (ty := 213) Tryz.underlying213 rfl info_sa (fun j hj => by
    rcases j with _ | _ | _ | _ | j
    · rfl
    · rfl
    · rfl
    · rfl
    · exfalso; have : j + 1 + 1 + 1 + 1 < 4 := hj; omega))
  go_enter Tryz.func137, Tryz.ntmps137
  go_wp2_with fail
  refine (wrong_1 kC (by decide) (by decide) hst hg (by omega)).mono ?_
  rintro e V1 ⟨rfl, hb1⟩
  have hst1 := hst.below hb1 hst.lt
  have hl1 := hl.below hb1 hl.lt
  have hD1 := h.keep (Kp.of (S := fun _ => False) hb1) (fun h => h) (fun h => h)
  have hg1 := hg.below hb1 hg.lt
  have hs1 := hs.below hb1 hh
  have hh1 := Nat.le_trans hh hb1.size
  clear hst hl h hg hs c1
  have c1 := hst1.cells
  go_wp2_with fail
  refine (batch_1 (n := 3) (c := c) (l := ls) 1 (by omega) (by omega) kC (by decide) hg1 hs1 (by omega) (by omega) hh1).mono ?_
  rintro e V2 ⟨lb, Ab, cb, hlb, rfl, hob, hb2⟩
  rw [show 5 + kC.size + 3 = 9 from rfl] at hlb hob ⊢
  obtain ⟨bb, ob, rfl, _, _, _⟩ := hob.sl.cells (by omega)
  have hcb : 9 ≤ cb := by obtain ⟨_, _, _, _, _, hq, _⟩ := hob.open_; exact hq
  have zs := hst1.lt
  have zl := hl1.lt
  have zg := hg1.lt
  have zd := hD1.bd.lt
  have zm : m < V1.heap.size := by obtain ⟨q, hq⟩ := hD1.bm; exact hq.size
  have hb3 : Below W.heap.size W V2 := hb1.trans (hb2.mono hb1.size)
  have X_0 : Bx V2.drew s (stC 9 l) 215 := hst1.below hb2.drew zs
  have L_0 : Bx V2.drew l (lgC d 1 0 (.slice none 0 0)) 297 := hl1.below hb2.drew zl
  have D_0 : DkS V2.drew d m 20 a := hD1.keep ((Kp.of (S := fun _ => False) hb2).drew) (fun h => h) (fun h => h)
  have G_0 : Bx V2.drew g (wrC kC A 3 c) t := hg1.below hb2.drew zg
  have S_0 : Sl V2.drew lo hi tBy A 3 ls := (hs1.below hb2 hh1).drew
  have T_0 : Sl V2.drew V1.heap.size V2.drew.heap.size tBy (some ⟨bb, ob, none⟩) 9 lb := hob.sl.drew
  have K_0 : Below W.heap.size W V2.drew := hb3.drew
  have hh0 : hi ≤ V2.drew.heap.size := Nat.le_trans hh1 hb2.size
  have z12 : V1.heap.size ≤ V2.drew.heap.size := hb2.size
  clear hst1 hl1 hD1 hg1 hs1 hob hb1 hb2 hb3 c1
  have c1 : ∀ i, V2.cell? ⟨s, i, none⟩ = _ := X_0.cells
  go_upto_region 13 with fail
  clear c1
  have M_0 : Below V2.drew.heap.size V2.drew V2.drew := Below.refl _ _
  refine wp_region_held_drew (S := fun w => Bx w s (stC 9 l) 215) (by kernel_rfl) X_0 (fun hS => ?_)
  refine tk (i := 0) (oi := { dst := some 45, op := .move (.tmp 0), type := 85, pos := "store.go:191", after := #[], guard := none }) (v := ?_) ?_ hS ?_
  rotate_left
  · intro w9 hS9; have q1 := hS9.cells; go_simp; try with_reducible rfl
  try simp only [Act.put]
  try simp only [List.setIfInBounds_toArray]
  try simp only [List.set_cons_zero]
  try simp only [List.set_cons_succ]
  try simp only [List.set_cons_zero]
  refine tk (i := 1) (oi := { dst := some 46, op := .nilCheck (.tmp 45), type := 0, pos := "store.go:191", after := #[⟨0, .data⟩], guard := none }) (v := ?_) ?_ hS ?_
  rotate_left
  · intro w9 hS9; have q1 := hS9.cells; go_simp; try with_reducible rfl
  try simp only [Act.put]
  try simp only [List.setIfInBounds_toArray]
  try simp only [List.set_cons_zero]
  try simp only [List.set_cons_succ]
  try simp only [List.set_cons_zero]
  refine tk (i := 2) (oi := { dst := some 47, op := .fieldAddr 215 (.tmp 46) 0, type := 0, pos := "store.go:191", after := #[⟨1, .data⟩], guard := none }) (v := ?_) ?_ hS ?_
  rotate_left
  · intro w9 hS9; have q1 := hS9.cells; go_simp; try with_reducible rfl
  try simp only [Act.put]
  try simp only [List.setIfInBounds_toArray]
  try simp only [List.set_cons_zero]
  try simp only [List.set_cons_succ]
  try simp only [List.set_cons_zero]
  refine tk (i := 3) (oi := { dst := some 48, op := .load 213 (.tmp 47), type := 213, pos := "store.go:191", after := #[⟨2, .data⟩], guard := none }) (v := .agg (saC (.slice none 0 0) 0 0 1)) ?_ hS ?_
  · intro w9 hS9; exact ex_load 213 (.tmp 47) rfl rfl (HLS.out w9 hS9)
  try simp only [Act.put]
  try simp only [List.setIfInBounds_toArray]
  try simp only [List.set_cons_zero]
  try simp only [List.set_cons_succ]
  try simp only [List.set_cons_zero]
  refine tk (i := 4) (oi := { dst := some 49, op := .move (.tmp 0), type := 85, pos := "store.go:191", after := #[], guard := none }) (v := ?_) ?_ hS ?_
  rotate_left
  · intro w9 hS9; have q1 := hS9.cells; go_simp; try with_reducible rfl
  try simp only [Act.put]
  try simp only [List.setIfInBounds_toArray]
  try simp only [List.set_cons_zero]
  try simp only [List.set_cons_succ]
  try simp only [List.set_cons_zero]
  refine tk (i := 5) (oi := { dst := some 50, op := .nilCheck (.tmp 49), type := 0, pos := "store.go:191", after := #[⟨4, .data⟩], guard := none }) (v := ?_) ?_ hS ?_
  rotate_left
  · intro w9 hS9; have q1 := hS9.cells; go_simp; try with_reducible rfl
  try simp only [Act.put]
  try simp only [List.setIfInBounds_toArray]
  try simp only [List.set_cons_zero]
  try simp only [List.set_cons_succ]
  try simp only [List.set_cons_zero]
  refine tk (i := 6) (oi := { dst := some 51, op := .fieldAddr 215 (.tmp 50) 0, type := 0, pos := "store.go:191", after := #[⟨5, .data⟩], guard := none }) (v := ?_) ?_ hS ?_
  rotate_left
  · intro w9 hS9; have q1 := hS9.cells; go_simp; try with_reducible rfl
  try simp only [Act.put]
  try simp only [List.setIfInBounds_toArray]
  try simp only [List.set_cons_zero]
  try simp only [List.set_cons_succ]
  try simp only [List.set_cons_zero]
  refine tk (i := 7) (oi := { dst := some 52, op := .fieldAddr 213 (.tmp 51) 2, type := 0, pos := "store.go:191", after := #[⟨6, .data⟩], guard := none }) (v := ?_) ?_ hS ?_
  rotate_left
  · intro w9 hS9; have q1 := hS9.cells; go_simp; try with_reducible rfl
  try simp only [Act.put]
  try simp only [List.setIfInBounds_toArray]
  try simp only [List.set_cons_zero]
  try simp only [List.set_cons_succ]
  try simp only [List.set_cons_zero]
  refine tk (i := 8) (oi := { dst := some 53, op := .load 173 (.tmp 52), type := 173, pos := "store.go:191", after := #[⟨7, .data⟩], guard := none }) (v := ?_) ?_ hS ?_
  rotate_left
  · intro w9 hS9; have q1 := hS9.cells; go_simp; try with_reducible rfl
  try simp only [Act.put]
  try simp only [List.setIfInBounds_toArray]
  try simp only [List.set_cons_zero]
  try simp only [List.set_cons_succ]
  try simp only [List.set_cons_zero]
  refine tk (i := 9) (oi := { dst := some 54, op := .binOp .add 173 (.tmp 53) (.const (.int .u64 1)) 173, type := 173, pos := "store.go:191", after := #[⟨8, .data⟩], guard := none }) (v := ?_) ?_ hS ?_
  rotate_left
  · intro w9 hS9; have q1 := hS9.cells; go_simp; try with_reducible rfl
  try simp only [Act.put]
  try simp only [List.setIfInBounds_toArray]
  try simp only [List.set_cons_zero]
  try simp only [List.set_cons_succ]
  try simp only [List.set_cons_zero]
  refine tk (i := 10) (oi := { dst := some 55, op := .move (.tmp 1), type := 218, pos := "store.go:191", after := #[], guard := none }) (v := ?_) ?_ hS ?_
  rotate_left
  · intro w9 hS9; have q1 := hS9.cells; go_simp; try with_reducible rfl
  try simp only [Act.put]
  try simp only [List.setIfInBounds_toArray]
  try simp only [List.set_cons_zero]
  try simp only [List.set_cons_succ]
  try simp only [List.set_cons_zero]
  refine wpAnyH_ready (rs := [11, 12]) (by kernel_rfl) (by simp) ?_
  refine AllReadyH.cons (o := { dst := some 56, op := .call { callee := .value (.func 106), args := #[.tmp 48, .tmp 54, .tmp 55], argTypes := #[213, 173, 218] }, type := 213, pos := "store.go:191", after := #[⟨3, .data⟩, ⟨9, .data⟩, ⟨10, .data⟩], guard := none }) rfl (fun K9 hK9 => ?_) ?_
  · go_simp
    refine (apply_e (c := c) (l := ls) kC (by decide) (G_0.below M_0 G_0.lt) (S_0.below M_0 hh0) (by omega) (by omega) (Nat.le_trans hh0 M_0.size)).mono ?_
    rintro e U_1 ⟨q, rfl, hb⟩
    have M_1 := M_0.trans (hb.mono M_0.size)
    refine hK9.out _ _ (X_0.below M_1 X_0.lt) (fun hS => ?_)
    clear hK9 K9
    try simp only [Act.put]
    try simp only [List.setIfInBounds_toArray]
    try simp only [List.set_cons_zero]
    try simp only [List.set_cons_succ]
    try simp only [List.set_cons_zero]
    refine wpAnyH_ready (rs := [12]) (by kernel_rfl) (by simp) ?_
    refine AllReadyH.cons (o := { dst := some 8, op := .alloc 213, type := 0, pos := "store.go:191", after := #[], guard := none }) rfl (fun K9 hK9 => ?_) AllReadyH.nil
    have P_2 := Bx.new U_1 #[.slice none 0 0, .int .i64 0, .int .u64 0, .int .i64 0] 213
    have M_2 := M_1.alloc M_1.size (.cells #[.slice none 0 0, .int .i64 0, .int .u64 0, .int .i64 0] 213)
    have hgl : V2.drew.heap.size ≤ U_1.heap.size := M_1.size
    go_simp
    refine hK9.out _ _ (X_0.below M_2 X_0.lt) (fun hS => ?_)
    clear hK9 K9
    try simp only [Act.put]
    try simp only [List.setIfInBounds_toArray]
    try simp only [List.set_cons_zero]
    try simp only [List.set_cons_succ]
    try simp only [List.set_cons_zero]
    refine wpAnyH_ready (rs := [13]) (by kernel_rfl) (by simp) ?_
    refine AllReadyH.cons (o := { dst := none, op := .store 213 (.tmp 8) (.tmp 56), type := 0, pos := "store.go:191", after := #[⟨12, .data⟩, ⟨11, .data⟩, ⟨11, .chain⟩, ⟨0, .phase⟩, ⟨1, .phase⟩, ⟨2, .phase⟩, ⟨3, .phase⟩, ⟨4, .phase⟩, ⟨5, .phase⟩, ⟨6, .phase⟩, ⟨7, .phase⟩, ⟨8, .phase⟩, ⟨9, .phase⟩, ⟨10, .phase⟩, ⟨11, .phase⟩, ⟨12, .phase⟩], guard := none }) rfl (fun K9 hK9 => ?_) AllReadyH.nil
    have P_3 := P_2.row (saC (.slice (some ⟨q, 0, none⟩) 1 1) 1 1 2)
    have M_3 := below_setRow M_2 hgl (saC (.slice (some ⟨q, 0, none⟩) 1 1) 1 1 2)
    refine step_store_any 213 rfl (.tmp 8) (.tmp 56) (by rfl) (g := U_1.heap.size) (saC (.slice (some ⟨q, 0, none⟩) 1 1) 1 1 2) (by rfl) (by rfl) P_2 info_sa rfl (by simp [Value.oneCell']) ?_
    refine hK9.out _ _ (X_0.below M_3 X_0.lt) (fun hS => ?_)
    clear hK9 K9
    try simp only [Act.put]
    try simp only [List.setIfInBounds_toArray]
    try simp only [List.set_cons_zero]
    try simp only [List.set_cons_succ]
    try simp only [List.set_cons_zero]
    refine wpAnyH_done (by kernel_rfl) ?_ _
    go_upto_region 14 with fail
    refine wp_world (fun V => ∃ gp, gp = U_1.heap.size ∧ V1.heap.size ≤ gp ∧ Bx V gp (saC (.slice (some ⟨q, 0, none⟩) 1 1) 1 1 2) 213 ∧ Bx V s (stC 9 l) 215 ∧ Bx V l (lgC d 1 0 (.slice none 0 0)) 297 ∧ DkS V d m 20 a ∧ Sl V V1.heap.size V2.drew.heap.size tBy (some ⟨bb, ob, none⟩) 9 lb ∧ V2.drew.heap.size ≤ V.heap.size ∧ Below W.heap.size W V) ⟨_, rfl, Nat.le_trans z12 hgl, P_3, X_0.below M_3 X_0.lt, L_0.below M_3 L_0.lt, D_0.keep (Kp.of (S := fun _ => False) M_3) (fun h => h) (fun h => h), T_0.below M_3 (Nat.le_refl _), M_3.size, K_0.trans (M_3.mono K_0.size)⟩ ?_
    rintro V3 ⟨gp, hgp, hgv, P3, X3, L3, D3, T3, z3, K3⟩
    rw [← hgp]
    clear hgp
    have p3 := P3.cells
    have x3 := X3.cells
    have zx := X3.lt
    have zp := P3.lt
    go_quiet (fail)
    go_upto_region 17 with fail
    refine wp_world (fun V => Bx V gp (saC (.slice (some ⟨q, 0, none⟩) 1 1) 1 1 2) 213 ∧ Bx V s (stC 9 l) 215 ∧ Bx V l (lgC d 1 0 (.slice none 0 0)) 297 ∧ DkS V d m 20 a ∧ Sl V V1.heap.size V2.drew.heap.size tBy (some ⟨bb, ob, none⟩) 9 lb ∧ V2.drew.heap.size ≤ V.heap.size ∧ Below W.heap.size W V) ⟨P3, X3, L3, D3.keep ((Kp.refl (fun _ => False) V3).drewN _) (fun h => h) (fun h => h), T3.drewN _, z3, below_drewN K3 _⟩ ?_
    clear p3 x3 P3 X3 L3 D3 T3 z3 K3 zx zp
    rintro V4 ⟨P4, X4, L4, D4, T4, z4, K4⟩
    have x4 := X4.cells
    have zx := X4.lt
    have HN := Lib.hid (fun (V : World) => (need_1 V 9 (by omega) (by omega)).mono (R' := fun e W' => e = .returned (.int .i64 1) ∧ Below V.heap.size V W') (fun e W' hq => ⟨hq.1, by rw [← hq.2]; exact Below.refl _ _⟩))
    have HR := Lib.hid (fun (V : World) (hb : Below V4.heap.size V4 V) => (room_1 (D4.keep (Kp.of (S := fun _ => False) hb) (fun h => h) (fun h => h)) (L4.below hb L4.lt) (by omega) (by omega)).mono (R' := fun e W' => e = .returned (.int .i64 9) ∧ Below V.heap.size V W') (fun e W' hq => ⟨hq.1.trans (by rfl), hq.2⟩))
    refine wp_region_below (by kernel_rfl) (by kernel_rfl) ?_
    intro q9
    repeat
      (refine QH.step (fun K9 hK9 => ?_)
       go_simp
       first
       | (refine hK9 _ ?_; clear hK9 K9)
       | (apply Exists.intro
          refine ⟨fun _ => ?_, hK9 _ ?_⟩
          · first | (with_reducible exact Calls.blw _ (HN.out _)) | (with_reducible exact Calls.blw _ (HR.out _ (Blw.b _)))
          clear hK9 K9))
    refine QH.nil_ ?_
    clear q9
    rintro ⟨V9, hV9⟩
    dsimp only
    have X5 := X4.below hV9 X4.lt
    have P5 := P4.below hV9 P4.lt
    have L5 := L4.below hV9 L4.lt
    have D5 := D4.keep (Kp.of (S := fun _ => False) hV9) (fun h => h) (fun h => h)
    have T5 := T4.below hV9 z4
    have z5 := Nat.le_trans z4 hV9.size
    have K5 := K4.trans (hV9.mono K4.size)
    clear HN HR x4 X4 P4 L4 D4 T4 K4 hV9
    have x5 := X5.cells
    go_wp2_with fail
    have HA := append_9 (c := cb) D5 L5 hld hlm h0 h1 T5 hcb z5 (.inl zd) (.inl zm)
    refine HA.mono ?_
    rintro e V6 ⟨rfl, hK⟩
    have zx5 := X5.lt
    have zp5 := P5.lt
    have X6 := hK.bx X5 (by rintro (e | e | e) <;> omega)
    have P6 := hK.bx P5 (by rintro (e | e | e) <;> omega)
    have hK6 := (Kp.of K5 : Kp (fun b => b = s ∨ Odl d m l b) W _).trans (S' := Odl d m l) hK (fun b _ e => .inr e)
    clear x5 X5 P5 L5 D5 T5 K5
    have x6 := X6.cells
    have f6 := X6.free
    have p6 := P6.cells
    have hne6 : gp ≠ s := by omega
    have hK9 := (((hK6.set (p := ⟨s, 0, none⟩) (.inl rfl) (.slice (some ⟨q, 0, none⟩) 1 1)).set (p := ⟨s, 1, none⟩) (.inl rfl) (.int .i64 1)).set (p := ⟨s, 2, none⟩) (.inl rfl) (.int .u64 1)).set (p := ⟨s, 3, none⟩) (.inl rfl) (.int .i64 2)
    go_wp2
    go_ret2
    exact ⟨rfl, hK9⟩
  refine AllReadyH.cons (o := { dst := some 8, op := .alloc 213, type := 0, pos := "store.go:191", after := #[], guard := none }) rfl (fun K9 hK9 => ?_) AllReadyH.nil
  have P_4 := Bx.new V2.drew #[.slice none 0 0, .int .i64 0, .int .u64 0, .int .i64 0] 213
  have M_4 := M_0.alloc M_0.size (.cells #[.slice none 0 0, .int .i64 0, .int .u64 0, .int .i64 0] 213)
  have hgl : V2.drew.heap.size ≤ V2.heap.size := M_0.size
  go_simp
  refine hK9.out _ _ (X_0.below M_4 X_0.lt) (fun hS => ?_)
  clear hK9 K9
  try simp only [Act.put]
  try simp only [List.setIfInBounds_toArray]
  try simp only [List.set_cons_zero]
  try simp only [List.set_cons_succ]
  try simp only [List.set_cons_zero]
  refine wpAnyH_ready (rs := [11]) (by kernel_rfl) (by simp) ?_
  refine AllReadyH.cons (o := { dst := some 56, op := .call { callee := .value (.func 106), args := #[.tmp 48, .tmp 54, .tmp 55], argTypes := #[213, 173, 218] }, type := 213, pos := "store.go:191", after := #[⟨3, .data⟩, ⟨9, .data⟩, ⟨10, .data⟩], guard := none }) rfl (fun K9 hK9 => ?_) AllReadyH.nil
  go_simp
  refine (apply_e (c := c) (l := ls) kC (by decide) (G_0.below M_4 G_0.lt) (S_0.below M_4 hh0) (by omega) (by omega) (Nat.le_trans hh0 M_4.size)).mono ?_
  rintro e U_5 ⟨q, rfl, hb⟩
  have M_5 := M_4.trans (hb.mono M_4.size)
  have P_5 := P_4.below hb P_4.lt
  refine hK9.out _ _ (X_0.below M_5 X_0.lt) (fun hS => ?_)
  clear hK9 K9
  try simp only [Act.put]
  try simp only [List.setIfInBounds_toArray]
  try simp only [List.set_cons_zero]
  try simp only [List.set_cons_succ]
  try simp only [List.set_cons_zero]
  refine wpAnyH_ready (rs := [13]) (by kernel_rfl) (by simp) ?_
  refine AllReadyH.cons (o := { dst := none, op := .store 213 (.tmp 8) (.tmp 56), type := 0, pos := "store.go:191", after := #[⟨12, .data⟩, ⟨11, .data⟩, ⟨11, .chain⟩, ⟨0, .phase⟩, ⟨1, .phase⟩, ⟨2, .phase⟩, ⟨3, .phase⟩, ⟨4, .phase⟩, ⟨5, .phase⟩, ⟨6, .phase⟩, ⟨7, .phase⟩, ⟨8, .phase⟩, ⟨9, .phase⟩, ⟨10, .phase⟩, ⟨11, .phase⟩, ⟨12, .phase⟩], guard := none }) rfl (fun K9 hK9 => ?_) AllReadyH.nil
  have P_6 := P_5.row (saC (.slice (some ⟨q, 0, none⟩) 1 1) 1 1 2)
  have M_6 := below_setRow M_5 hgl (saC (.slice (some ⟨q, 0, none⟩) 1 1) 1 1 2)
  refine step_store_any 213 rfl (.tmp 8) (.tmp 56) (by rfl) (g := V2.heap.size) (saC (.slice (some ⟨q, 0, none⟩) 1 1) 1 1 2) (by rfl) (by rfl) P_5 info_sa rfl (by simp [Value.oneCell']) ?_
  refine hK9.out _ _ (X_0.below M_6 X_0.lt) (fun hS => ?_)
  clear hK9 K9
  try simp only [Act.put]
  try simp only [List.setIfInBounds_toArray]
  try simp only [List.set_cons_zero]
  try simp only [List.set_cons_succ]
  try simp only [List.set_cons_zero]
  refine wpAnyH_done (by kernel_rfl) ?_ _
  go_upto_region 14 with fail
  refine wp_world (fun V => ∃ gp, gp = V2.heap.size ∧ V1.heap.size ≤ gp ∧ Bx V gp (saC (.slice (some ⟨q, 0, none⟩) 1 1) 1 1 2) 213 ∧ Bx V s (stC 9 l) 215 ∧ Bx V l (lgC d 1 0 (.slice none 0 0)) 297 ∧ DkS V d m 20 a ∧ Sl V V1.heap.size V2.drew.heap.size tBy (some ⟨bb, ob, none⟩) 9 lb ∧ V2.drew.heap.size ≤ V.heap.size ∧ Below W.heap.size W V) ⟨_, rfl, Nat.le_trans z12 hgl, P_6, X_0.below M_6 X_0.lt, L_0.below M_6 L_0.lt, D_0.keep (Kp.of (S := fun _ => False) M_6) (fun h => h) (fun h => h), T_0.below M_6 (Nat.le_refl _), M_6.size, K_0.trans (M_6.mono K_0.size)⟩ ?_
  rintro V3 ⟨gp, hgp, hgv, P3, X3, L3, D3, T3, z3, K3⟩
  rw [← hgp]
  clear hgp
  have p3 := P3.cells
  have x3 := X3.cells
  have zx := X3.lt
  have zp := P3.lt
  go_quiet (fail)
  go_upto_region 17 with fail
  refine wp_world (fun V => Bx V gp (saC (.slice (some ⟨q, 0, none⟩) 1 1) 1 1 2) 213 ∧ Bx V s (stC 9 l) 215 ∧ Bx V l (lgC d 1 0 (.slice none 0 0)) 297 ∧ DkS V d m 20 a ∧ Sl V V1.heap.size V2.drew.heap.size tBy (some ⟨bb, ob, none⟩) 9 lb ∧ V2.drew.heap.size ≤ V.heap.size ∧ Below W.heap.size W V) ⟨P3, X3, L3, D3.keep ((Kp.refl (fun _ => False) V3).drewN _) (fun h => h) (fun h => h), T3.drewN _, z3, below_drewN K3 _⟩ ?_
  clear p3 x3 P3 X3 L3 D3 T3 z3 K3 zx zp
  rintro V4 ⟨P4, X4, L4, D4, T4, z4, K4⟩
  have x4 := X4.cells
  have zx := X4.lt
  have HN := Lib.hid (fun (V : World) => (need_1 V 9 (by omega) (by omega)).mono (R' := fun e W' => e = .returned (.int .i64 1) ∧ Below V.heap.size V W') (fun e W' hq => ⟨hq.1, by rw [← hq.2]; exact Below.refl _ _⟩))
  have HR := Lib.hid (fun (V : World) (hb : Below V4.heap.size V4 V) => (room_1 (D4.keep (Kp.of (S := fun _ => False) hb) (fun h => h) (fun h => h)) (L4.below hb L4.lt) (by omega) (by omega)).mono (R' := fun e W' => e = .returned (.int .i64 9) ∧ Below V.heap.size V W') (fun e W' hq => ⟨hq.1.trans (by rfl), hq.2⟩))
  refine wp_region_below (by kernel_rfl) (by kernel_rfl) ?_
  intro q9
  repeat
    (refine QH.step (fun K9 hK9 => ?_)
     go_simp
     first
     | (refine hK9 _ ?_; clear hK9 K9)
     | (apply Exists.intro
        refine ⟨fun _ => ?_, hK9 _ ?_⟩
        · first | (with_reducible exact Calls.blw _ (HN.out _)) | (with_reducible exact Calls.blw _ (HR.out _ (Blw.b _)))
        clear hK9 K9))
  refine QH.nil_ ?_
  clear q9
  rintro ⟨V9, hV9⟩
  dsimp only
  have X5 := X4.below hV9 X4.lt
  have P5 := P4.below hV9 P4.lt
  have L5 := L4.below hV9 L4.lt
  have D5 := D4.keep (Kp.of (S := fun _ => False) hV9) (fun h => h) (fun h => h)
  have T5 := T4.below hV9 z4
  have z5 := Nat.le_trans z4 hV9.size
  have K5 := K4.trans (hV9.mono K4.size)
  clear HN HR x4 X4 P4 L4 D4 T4 K4 hV9
  have x5 := X5.cells
  go_wp2_with fail
  have HA := append_9 (c := cb) D5 L5 hld hlm h0 h1 T5 hcb z5 (.inl zd) (.inl zm)
  refine HA.mono ?_
  rintro e V6 ⟨rfl, hK⟩
  have zx5 := X5.lt
  have zp5 := P5.lt
  have X6 := hK.bx X5 (by rintro (e | e | e) <;> omega)
  have P6 := hK.bx P5 (by rintro (e | e | e) <;> omega)
  have hK6 := (Kp.of K5 : Kp (fun b => b = s ∨ Odl d m l b) W _).trans (S' := Odl d m l) hK (fun b _ e => .inr e)
  clear x5 X5 P5 L5 D5 T5 K5
  have x6 := X6.cells
  have f6 := X6.free
  have p6 := P6.cells
  have hne6 : gp ≠ s := by omega
  have hK9 := (((hK6.set (p := ⟨s, 0, none⟩) (.inl rfl) (.slice (some ⟨q, 0, none⟩) 1 1)).set (p := ⟨s, 1, none⟩) (.inl rfl) (.int .i64 1)).set (p := ⟨s, 2, none⟩) (.inl rfl) (.int .u64 1)).set (p := ⟨s, 3, none⟩) (.inl rfl) (.int .i64 2)
  go_wp2
  go_ret2
  exact ⟨rfl, hK9⟩
end Go.Proofs.YtggomjfllbljeaaGreatDoor
