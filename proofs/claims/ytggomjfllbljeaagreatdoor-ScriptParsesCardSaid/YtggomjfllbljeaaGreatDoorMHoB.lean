/- Put together by program of: Ho5, Ho6. -/
import Derived.Test.YtggomjfllbljeaaGreatDoorMHoA
namespace Go.Proofs.YtggomjfllbljeaaGreatDoor
set_option linter.unusedVariables false
open Go Go.RowKit
theorem Kp.row {S : Nat → Prop} {W W1 : World} (h : Kp S W W1) {g : Nat} (hg : S g ∨ W.heap.size ≤ g) (cs : Array Value) : Kp S W (W1.setRow g cs) :=
  ⟨h.os, h.tape, h.output, by simpa using h.size, fun k hk hn => (setRow_other W1 g k cs (by rintro rfl; rcases hg with e | e; exact hn e; omega)).trans (h.block k hk hn)⟩
/-- The load of the first cells of a block that is known whole. -/
theorem ld_mid {b : Nat} {cs old : Array Value} {t ty : TypeId} {d : TypeDesc} (hu : Tryz.prog.underlying ty = some d) (hd : d.isRow = true) (hi : (Tryz.prog.info? ty).map (·.size) = some cs.size) (hp : ∀ j, j < cs.size → old[j]? = cs[j]?) (w : World) (h : Bx w b old t) :
    (Instr.loadAt ty (.pointer (some ⟨b, 0, none⟩))).run Tryz.prog w = .ok (.agg cs) w := by
  refine run_loadAt_mid (P := Tryz.prog) w b 0 ty cs.toList d ?_ hu hd (by rw [hi]; simp)
  intro j v hv
  have hj : j < cs.size := by
    rcases Nat.lt_or_ge j cs.size with h1 | h1
    · exact h1
    · rw [Array.getElem?_toList, Array.getElem?_eq_none h1] at hv; cases hv
  rw [Nat.zero_add, h.cells, hp j hj, ← Array.getElem?_toList]
  exact hv
/-- The cells of the terminal behind the sign-in. -/
abbrev tmS (g : Nat) : Array Value := arS ++ #[.slice (some ⟨g, 0, none⟩) 1 1, .int .i64 0]
theorem info_tm : (Tryz.prog.info? 179).map (·.size) = some 22 := by kernel_rfl
theorem HW.keep {S : Nat → Prop} {W W' : World} {h d m s l x du st : Nat} {a : Int} (H : HW W h d m s l x du st a) (hk : Kp S W W') (hS : ∀ k ∈ [h, d, m, s, l, x, du, st], ¬ S k) : HW W' h d m s l x du st a := by
  obtain ⟨⟨t, hb⟩, dk, sb, lb, ⟨pn, qs, k, bk, xb⟩, ⟨mp, db⟩, tb, nod⟩ := H
  exact ⟨⟨t, hk.bx hb (hS _ (by simp))⟩, dk.keep hk (hS _ (by simp)) (hS _ (by simp)), hk.bx sb (hS _ (by simp)), hk.bx lb (hS _ (by simp)), ⟨pn, qs, k, bk, hk.bx xb (hS _ (by simp))⟩, ⟨mp, hk.bx db (hS _ (by simp))⟩, hk.bx tb (hS _ (by simp)), nod⟩
theorem HW.below {W W' : World} {h d m s l x du st : Nat} {a : Int} (H : HW W h d m s l x du st a) (hb : Below W.heap.size W W') : HW W' h d m s l x du st a := H.keep (S := fun _ => False) (Kp.of hb) (fun _ _ h => h)
set_option maxRecDepth 100000 in
set_option maxHeartbeats 4000000 in
theorem entry_si {W : World} {h d m s l x du st : Nat} {a : Int} (H : HW W h d m s l x du st a) : Calls Tryz.prog 42 #[.pointer (some ⟨h, 0, none⟩), .int .i64 0, .string eT] W fun e W' => e = .returned (.agg (scrC (bl sSI))) ∧ Kp (Ob st) W W' := by
  have HSZ := Lib.hid (scrC_size (l := bl sSI) (by rw [bl_size]; decide))
  have HON := Lib.hid (scrC_one (bl sSI))
  have HZZ : Hid (Tryz.zeroCells67.size = 1536) := by show _ = _; rw [zero_scr]; simp
  have HLT := Lib.hid (ld_mid (b := st) (cs := arZ) (old := tmZ) (t := 179) (ty := 177) Tryz.underlying177 rfl info_ar (fun j hj => by unfold tmZ; exact Array.getElem?_append_left hj))
  go_enter Tryz.func42, Tryz.ntmps42
  have HH := Lib.hid H
  obtain ⟨t, hb⟩ := H.hb
  have bt := H.tb
  have hst0 := bt.lt
  have hnd := H.nod
  simp only [List.nodup_cons, List.mem_cons, List.mem_nil_iff, or_false, not_or, List.nodup_nil, and_true, not_false_eq_true] at hnd
  have hne : ¬ h = st := hnd.1.2.2.2.2.2.2
  have hd : Bx W d (dkC 20 m (.slice none 0 0) a) 139 := H.dk.bd
  clear hnd H
  go_upto_region 1 with fail
  refine wp_world (fun V => Bx V W.heap.size Tryz.zeroCells67 67 ∧ HW V h d m s l x du st a ∧ Below W.heap.size W V) ⟨Bx.new _ _ _, HH.out.below ((Below.refl _ _).alloc (Nat.le_refl _) _), (Below.refl _ _).alloc (Nat.le_refl _) _⟩ ?_
  rintro V ⟨b0, H, hb0⟩
  go_wp2_with fail
  refine (hdown_0 H).mono ?_
  rintro e V1 ⟨rfl, rfl⟩
  have HV := Lib.hid H
  obtain ⟨t2, hb2⟩ := H.hb
  have x1 := hb2.cells
  have z1 := hb2.lt
  clear hb bt hd HH H
  go_upto_region 5 with fail
  go_wp2_with fail
  refine (parse_si _).mono ?_
  rintro e V2 ⟨rfl, hb3⟩
  rename_i hK
  refine hK _ _ ?_
  have H2 := Lib.hid (HV.out.below hb3)
  have b02 := b0.below hb3 b0.lt
  have hb4 : Below W.heap.size W V2 := hb0.trans (hb3.mono hb0.size)
  clear x1 z1 hb2 hb3 b0 hb0 HV
  have q1 := (Bx.new V2 (cmC 0 ⟨#[]⟩ ⟨#[]⟩) 159).alloc (.cells flC 161)
  have q2 := Bx.new (V2.alloc (.cells (cmC 0 ⟨#[]⟩ ⟨#[]⟩) 159)) flC 161
  rw [World.size_alloc] at q2
  have r1 := q1.row (cmC 1 sAG sLN)
  have r2 := q2.rowOther (g := V2.heap.size) (by omega) (cmC 1 sAG sLN)
  have s1 := r1.rowOther (g := V2.heap.size + 1) (by omega) flC
  have s2 := r2.row flC
  have sb := below_setRow (below_setRow (((Below.refl V2.heap.size V2).alloc (Nat.le_refl _) (.cells (cmC 0 ⟨#[]⟩ ⟨#[]⟩) 159)).alloc (by simp) (.cells flC 161)) (Nat.le_refl _) (cmC 1 sAG sLN)) (show V2.heap.size ≤ V2.heap.size + 1 by omega) flC
  refine wpList_val rfl (v := .tuple #[.agg (cmC 1 sAG sLN), .agg flC]) (w' := V2) (by kernel_rfl) ?_
  refine wpList_val rfl (v := .agg (cmC 1 sAG sLN)) (w' := V2) (by kernel_rfl) ?_
  refine wpList_val rfl (v := .agg flC) (w' := V2) (by kernel_rfl) ?_
  refine wpList_val rfl (v := .pointer (some ⟨V2.heap.size, 0, none⟩)) (w' := V2.alloc (.cells (cmC 0 ⟨#[]⟩ ⟨#[]⟩) 159)) (by kernel_rfl) ?_
  refine wpList_val rfl (v := .pointer (some ⟨V2.heap.size + 1, 0, none⟩)) (w' := (V2.alloc (.cells (cmC 0 ⟨#[]⟩ ⟨#[]⟩) 159)).alloc (.cells flC 161)) (by simp only [execOp]; rw [← World.size_alloc V2 (.cells (cmC 0 ⟨#[]⟩ ⟨#[]⟩) 159)]; kernel_rfl) ?_
  refine wpList_store_row rfl 159 (.tmp 7) (.tmp 33) rfl V2.heap.size (cmC 1 sAG sLN) (by kernel_rfl) (by kernel_rfl) 159 (cmC 0 ⟨#[]⟩ ⟨#[]⟩) q1 info_cm (by kernel_rfl) (by kernel_rfl) ?_
  refine wpList_store_row rfl 161 (.tmp 8) (.tmp 34) rfl (V2.heap.size + 1) flC (by kernel_rfl) (by kernel_rfl) 161 flC r2 info_fl (by kernel_rfl) (by kernel_rfl) ?_
  go_upto_region 6 with fail
  refine wp_world (fun V => Bx V V2.heap.size (cmC 1 sAG sLN) 159 ∧ Bx V (V2.heap.size + 1) flC 161 ∧ Below V2.heap.size V2 V) ⟨s1, s2, sb⟩ ?_
  clear q1 q2 r1 r2 s1 s2 sb
  rintro V3 ⟨c3, f3, hb5⟩
  have H3 := H2.out.below hb5
  have b03 := b02.below hb5 b02.lt
  have HV := Lib.hid H3
  have HB := Lib.hid (hb4.trans (hb5.mono hb4.size))
  obtain ⟨t2, hb2⟩ := H3.hb
  have x1 := hb2.cells
  have z1 := hb2.lt
  have x3 := f3.cells
  have x2 := c3.cells
  have z3 := f3.lt
  go_upto_region 11 with fail
  have B_0 : Bx V3.drew W.heap.size Tryz.zeroCells67 67 := b03
  have T_0 : Bx V3.drew st tmZ 179 := H3.tb
  have C_0 : Bx V3.drew V2.heap.size (cmC 1 sAG sLN) 159 := c3
  have K_0 : Below W.heap.size W V3.drew := HB.out.drew
  have HLC := Lib.hid (ld_mid (b := V2.heap.size) (cs := cmC 1 sAG sLN) (old := cmC 1 sAG sLN) (t := 159) (ty := 159) Tryz.underlying159 rfl info_cm (fun j hj => rfl))
  clear hb2 x1 z1 x3 x2 z3 hb5 b03 b02 hb4 c3 f3
  refine wp_region_held_drew (S := fun w => Bx w st tmZ 179 ∧ Bx w V2.heap.size (cmC 1 sAG sLN) 159) (by kernel_rfl) ⟨T_0, C_0⟩ (fun hS => ?_)
  refine tk (i := 0) (oi := { dst := some 60, op := .move (.tmp 0), type := 49, pos := "host.go:157", after := #[], guard := none }) (v := ?_) ?_ hS ?_
  rotate_left
  · intro w9 hS9; skip; go_simp; try with_reducible rfl
  try simp only [Act.put]
  try simp only [List.setIfInBounds_toArray]
  try simp only [List.set_cons_zero]
  try simp only [List.set_cons_succ]
  try simp only [List.set_cons_zero]
  refine tk (i := 1) (oi := { dst := some 61, op := .move (.tmp 9), type := 165, pos := "host.go:157", after := #[], guard := none }) (v := ?_) ?_ hS ?_
  rotate_left
  · intro w9 hS9; skip; go_simp; try with_reducible rfl
  try simp only [Act.put]
  try simp only [List.setIfInBounds_toArray]
  try simp only [List.set_cons_zero]
  try simp only [List.set_cons_succ]
  try simp only [List.set_cons_zero]
  refine tk (i := 2) (oi := { dst := some 62, op := .nilCheck (.tmp 61), type := 0, pos := "host.go:157", after := #[⟨1, .data⟩], guard := none }) (v := ?_) ?_ hS ?_
  rotate_left
  · intro w9 hS9; skip; go_simp; try with_reducible rfl
  try simp only [Act.put]
  try simp only [List.setIfInBounds_toArray]
  try simp only [List.set_cons_zero]
  try simp only [List.set_cons_succ]
  try simp only [List.set_cons_zero]
  refine tk (i := 3) (oi := { dst := some 63, op := .fieldAddr 179 (.tmp 62) 0, type := 0, pos := "host.go:157", after := #[⟨2, .data⟩], guard := none }) (v := ?_) ?_ hS ?_
  rotate_left
  · intro w9 hS9; skip; go_simp; try with_reducible rfl
  try simp only [Act.put]
  try simp only [List.setIfInBounds_toArray]
  try simp only [List.set_cons_zero]
  try simp only [List.set_cons_succ]
  try simp only [List.set_cons_zero]
  refine tk (i := 4) (oi := { dst := some 64, op := .load 177 (.tmp 63), type := 177, pos := "host.go:157", after := #[⟨3, .data⟩], guard := none }) (v := .agg arZ) ?_ hS ?_
  · intro w9 hS9; exact ex_load 177 (.tmp 63) rfl rfl (HLT.out w9 hS9.1)
  try simp only [Act.put]
  try simp only [List.setIfInBounds_toArray]
  try simp only [List.set_cons_zero]
  try simp only [List.set_cons_succ]
  try simp only [List.set_cons_zero]
  refine tk (i := 5) (oi := { dst := some 65, op := .load 159 (.tmp 7), type := 159, pos := "host.go:157", after := #[], guard := none }) (v := .agg (cmC 1 sAG sLN)) ?_ hS ?_
  · intro w9 hS9; exact ex_load 159 (.tmp 7) rfl rfl (HLC.out w9 hS9.2)
  try simp only [Act.put]
  try simp only [List.setIfInBounds_toArray]
  try simp only [List.set_cons_zero]
  try simp only [List.set_cons_succ]
  try simp only [List.set_cons_zero]
  refine wpAnyH_ready (rs := [6, 11]) (by kernel_rfl) (by simp) ?_
  refine AllReadyH.cons (o := { dst := some 66, op := .call { callee := .value (.func 75), args := #[.tmp 60, .tmp 64, .tmp 65], argTypes := #[49, 177, 159] }, type := 180, pos := "host.go:157", after := #[⟨0, .data⟩, ⟨4, .data⟩, ⟨5, .data⟩], guard := none }) rfl (fun K9 hK9 => ?_) ?_
  · go_simp
    refine (command_si V3.drew (.pointer (some ⟨h, 0, none⟩))).mono ?_
    rintro e U_1 ⟨g, rfl, HG_1, hg0, hb_1⟩
    have B_1 := B_0.below hb_1 B_0.lt
    have T_1 := T_0.below hb_1 T_0.lt
    have C_1 := C_0.below hb_1 C_0.lt
    have K_1 := K_0.trans (hb_1.mono K_0.size)
    have hgn : st < g ∧ W.heap.size < g := ⟨by have := T_0.lt; omega, by have := B_0.lt; omega⟩
    refine hK9.out _ _ ⟨T_1, C_1⟩ (fun hS => ?_)
    clear hK9 K9
    try simp only [Act.put]
    try simp only [List.setIfInBounds_toArray]
    try simp only [List.set_cons_zero]
    try simp only [List.set_cons_succ]
    try simp only [List.set_cons_zero]
    refine tk (i := 7) (oi := { dst := some 59, op := .move (.tmp 66), type := 180, pos := "host.go:157", after := #[⟨6, .data⟩], guard := none }) (v := ?_) ?_ hS ?_
    rotate_left
    · intro w9 hS9; skip; go_simp; try with_reducible rfl
    try simp only [Act.put]
    try simp only [List.setIfInBounds_toArray]
    try simp only [List.set_cons_zero]
    try simp only [List.set_cons_succ]
    try simp only [List.set_cons_zero]
    refine tk (i := 8) (oi := { dst := some 67, op := .extract (.tmp 59) 0, type := 177, pos := "host.go:157", after := #[⟨7, .data⟩], guard := none }) (v := ?_) ?_ hS ?_
    rotate_left
    · intro w9 hS9; skip; go_simp; try with_reducible rfl
    try simp only [Act.put]
    try simp only [List.setIfInBounds_toArray]
    try simp only [List.set_cons_zero]
    try simp only [List.set_cons_succ]
    try simp only [List.set_cons_zero]
    refine tk (i := 9) (oi := { dst := some 68, op := .extract (.tmp 59) 1, type := 52, pos := "host.go:157", after := #[⟨7, .data⟩, ⟨12, .gcOnly .lateStores⟩], guard := none }) (v := ?_) ?_ hS ?_
    rotate_left
    · intro w9 hS9; skip; go_simp; try with_reducible rfl
    try simp only [Act.put]
    try simp only [List.setIfInBounds_toArray]
    try simp only [List.set_cons_zero]
    try simp only [List.set_cons_succ]
    try simp only [List.set_cons_zero]
    refine tk (i := 10) (oi := { dst := some 69, op := .extract (.tmp 59) 2, type := 26, pos := "host.go:157", after := #[⟨7, .data⟩, ⟨13, .gcOnly .lateStores⟩], guard := none }) (v := ?_) ?_ hS ?_
    rotate_left
    · intro w9 hS9; skip; go_simp; try with_reducible rfl
    try simp only [Act.put]
    try simp only [List.setIfInBounds_toArray]
    try simp only [List.set_cons_zero]
    try simp only [List.set_cons_succ]
    try simp only [List.set_cons_zero]
    refine wpAnyH_ready (rs := [11]) (by kernel_rfl) (by simp) ?_
    refine AllReadyH.cons (o := { dst := some 10, op := .alloc 177, type := 0, pos := "host.go:157", after := #[], guard := none }) rfl (fun K9 hK9 => ?_) AllReadyH.nil
    have A_2 := Bx.new U_1 arZ 177
    have B_2 := B_1.alloc (.cells arZ 177)
    have T_2 := T_1.alloc (.cells arZ 177)
    have C_2 := C_1.alloc (.cells arZ 177)
    have HG_2 := HG_1.alloc (.cells arZ 177)
    have K_2 := K_1.alloc K_1.size (.cells arZ 177)
    have hgl : st < U_1.heap.size ∧ W.heap.size < U_1.heap.size ∧ V2.heap.size < U_1.heap.size ∧ g < U_1.heap.size := ⟨by have := T_1.lt; omega, by have := B_1.lt; omega, by have := C_1.lt; omega, by have := HG_1.lt; omega⟩
    go_simp
    refine hK9.out _ _ ⟨T_2, C_2⟩ (fun hS => ?_)
    clear hK9 K9
    try simp only [Act.put]
    try simp only [List.setIfInBounds_toArray]
    try simp only [List.set_cons_zero]
    try simp only [List.set_cons_succ]
    try simp only [List.set_cons_zero]
    refine wpAnyH_ready (rs := [12]) (by kernel_rfl) (by simp) ?_
    refine AllReadyH.cons (o := { dst := none, op := .store 177 (.tmp 10) (.tmp 67), type := 0, pos := "host.go:157", after := #[⟨11, .data⟩, ⟨8, .data⟩, ⟨6, .chain⟩, ⟨0, .phase⟩, ⟨1, .phase⟩, ⟨2, .phase⟩, ⟨3, .phase⟩, ⟨4, .phase⟩, ⟨5, .phase⟩, ⟨6, .phase⟩, ⟨7, .phase⟩, ⟨8, .phase⟩, ⟨9, .textOnly .lateStores⟩, ⟨10, .textOnly .lateStores⟩, ⟨11, .phase⟩], guard := none }) rfl (fun K9 hK9 => ?_) AllReadyH.nil
    have A_3 := A_2.row arS
    have B_3 := B_2.rowOther (g := U_1.heap.size) (by omega) arS
    have T_3 := T_2.rowOther (g := U_1.heap.size) (by omega) arS
    have C_3 := C_2.rowOther (g := U_1.heap.size) (by omega) arS
    have HG_3 := HG_2.rowOther (g := U_1.heap.size) (by omega) arS
    have K_3 := below_setRow K_2 (show W.heap.size ≤ U_1.heap.size by omega) arS
    refine step_store_any 177 rfl (.tmp 10) (.tmp 67) (by rfl) (g := U_1.heap.size) arS (by rfl) (by rfl) A_2 info_ar rfl (by kernel_rfl) ?_
    refine hK9.out _ _ ⟨T_3, C_3⟩ (fun hS => ?_)
    clear hK9 K9
    try simp only [Act.put]
    try simp only [List.setIfInBounds_toArray]
    try simp only [List.set_cons_zero]
    try simp only [List.set_cons_succ]
    try simp only [List.set_cons_zero]
    refine tk (i := 13) (oi := { dst := some 11, op := .assign (.tmp 68), type := 52, pos := "host.go:157", after := #[⟨9, .data⟩, ⟨12, .chain⟩, ⟨0, .phase⟩, ⟨1, .phase⟩, ⟨2, .phase⟩, ⟨3, .phase⟩, ⟨4, .phase⟩, ⟨5, .phase⟩, ⟨6, .phase⟩, ⟨7, .phase⟩, ⟨8, .phase⟩, ⟨9, .phase⟩, ⟨10, .textOnly .lateStores⟩, ⟨11, .phase⟩, ⟨12, .phase⟩], guard := none }) (v := ?_) ?_ hS ?_
    rotate_left
    · intro w9 hS9; skip; go_simp; try with_reducible rfl
    try simp only [Act.put]
    try simp only [List.setIfInBounds_toArray]
    try simp only [List.set_cons_zero]
    try simp only [List.set_cons_succ]
    try simp only [List.set_cons_zero]
    refine tk (i := 14) (oi := { dst := some 12, op := .assign (.tmp 69), type := 26, pos := "host.go:157", after := #[⟨10, .data⟩, ⟨13, .chain⟩, ⟨0, .phase⟩, ⟨1, .phase⟩, ⟨2, .phase⟩, ⟨3, .phase⟩, ⟨4, .phase⟩, ⟨5, .phase⟩, ⟨6, .phase⟩, ⟨7, .phase⟩, ⟨8, .phase⟩, ⟨9, .phase⟩, ⟨10, .phase⟩, ⟨11, .phase⟩, ⟨12, .phase⟩, ⟨13, .phase⟩], guard := none }) (v := ?_) ?_ hS ?_
    rotate_left
    · intro w9 hS9; skip; go_simp; try with_reducible rfl
    try simp only [Act.put]
    try simp only [List.setIfInBounds_toArray]
    try simp only [List.set_cons_zero]
    try simp only [List.set_cons_succ]
    try simp only [List.set_cons_zero]
    refine wpAnyH_done (by kernel_rfl) ?_ _
    go_upto_region 14 with fail
    refine wp_world (fun V => Bx V W.heap.size Tryz.zeroCells67 67 ∧ Bx V U_1.heap.size arS 177 ∧ Bx V st tmZ 179 ∧ Bx V g #[.string sSI] 9 ∧ Below W.heap.size W V) ⟨B_3, A_3, T_3, HG_3, K_3⟩ ?_
    rintro V7 ⟨b7, a7, t7, g7, hb7⟩
    have r7 := b7.rowOther (g := st) (by omega) (tmS g)
    have rg := g7.rowOther (g := st) (by omega) (tmS g)
    have hk7 := (Kp.of (S := Ob st) hb7).row (.inl rfl : Ob st st ∨ W.heap.size ≤ st) (tmS g)
    refine wp_region_lit ?_
    refine wpList_val rfl (v := .pointer (some ⟨st, 0, none⟩)) (w' := V7) (by kernel_rfl) ?_
    refine wpList_load_row rfl 177 (.tmp 10) rfl U_1.heap.size (by rfl) 177 arS (0, 0) _ a7 Tryz.underlying177 rfl info_ar ?_
    refine wpList_val rfl (v := .slice (some ⟨g, 0, none⟩) 1 1) (w' := V7) (by kernel_rfl) ?_
    refine wpList_val rfl (v := .agg (tmS g)) (w' := V7) (by kernel_rfl) ?_
    refine wpList_val rfl (v := .pointer (some ⟨st, 0, none⟩)) (w' := V7) (by kernel_rfl) ?_
    refine wpList_store_row rfl 179 (.tmp 78) (.tmp 77) rfl st (tmS g) (by kernel_rfl) (by kernel_rfl) 179 tmZ t7 info_tm (by kernel_rfl) (by kernel_rfl) ?_
    go_upto_region 15 with fail
    refine wp_world (fun V => Bx V W.heap.size Tryz.zeroCells67 67 ∧ Bx V g #[.string sSI] 9 ∧ Kp (Ob st) W V) ⟨r7, rg, hk7⟩ ?_
    rintro V8 ⟨b8, g8, hk8⟩
    clear r7 rg hk7 hb7 g7 t7 a7 b7
    go_wp2_with fail
    refine (hlines_one g8 (by decide) (by decide)).mono ?_
    rintro e V9 ⟨rfl, hb9⟩
    have b9 := b8.below hb9 b8.lt
    have hk9 := (hk8.trans (S' := fun _ => False) (Kp.of hb9) (fun _ _ h => h.elim)).row (.inr (Nat.le_refl _) : Ob st W.heap.size ∨ W.heap.size ≤ W.heap.size)
    generalize hC : scrC (bl sSI) = C at HSZ HON
    have b9r := b9.row C
    clear b8 g8 hk8 hb9
    go_wp2_with (refine wpList_store_row rfl 67 (.tmp 6) (.tmp 80) rfl W.heap.size C rfl rfl 67 _ b9 (by rw [HSZ.out]; exact info_scr1) (by rw [HSZ.out]; exact HZZ.out) HON.out ?_)
    exact ret_scr rfl b9r HSZ.out rfl rfl ⟨by rw [hC], hk9 C⟩
  refine AllReadyH.cons (o := { dst := some 10, op := .alloc 177, type := 0, pos := "host.go:157", after := #[], guard := none }) rfl (fun K9 hK9 => ?_) AllReadyH.nil
  have A_4 := Bx.new V3.drew arZ 177
  have B_4 := B_0.alloc (.cells arZ 177)
  have T_4 := T_0.alloc (.cells arZ 177)
  have C_4 := C_0.alloc (.cells arZ 177)
  have K_4 := K_0.alloc K_0.size (.cells arZ 177)
  have hgl : st < V3.drew.heap.size ∧ W.heap.size < V3.drew.heap.size ∧ V2.heap.size < V3.drew.heap.size := ⟨by have := T_0.lt; omega, by have := B_0.lt; omega, by have := C_0.lt; omega⟩
  go_simp
  refine hK9.out _ _ ⟨T_4, C_4⟩ (fun hS => ?_)
  clear hK9 K9
  try simp only [Act.put]
  try simp only [List.setIfInBounds_toArray]
  try simp only [List.set_cons_zero]
  try simp only [List.set_cons_succ]
  try simp only [List.set_cons_zero]
  refine wpAnyH_ready (rs := [6]) (by kernel_rfl) (by simp) ?_
  refine AllReadyH.cons (o := { dst := some 66, op := .call { callee := .value (.func 75), args := #[.tmp 60, .tmp 64, .tmp 65], argTypes := #[49, 177, 159] }, type := 180, pos := "host.go:157", after := #[⟨0, .data⟩, ⟨4, .data⟩, ⟨5, .data⟩], guard := none }) rfl (fun K9 hK9 => ?_) AllReadyH.nil
  go_simp
  refine (command_si (V3.drew.alloc (.cells arZ 177)) (.pointer (some ⟨h, 0, none⟩))).mono ?_
  rintro e U_5 ⟨g, rfl, HG_5, hg0, hb_5⟩
  have B_5 := B_4.below hb_5 B_4.lt
  have T_5 := T_4.below hb_5 T_4.lt
  have C_5 := C_4.below hb_5 C_4.lt
  have A_5 := A_4.below hb_5 A_4.lt
  have K_5 := K_4.trans (hb_5.mono K_4.size)
  have hgn : st < g ∧ W.heap.size < g ∧ V3.drew.heap.size < g := ⟨by have := T_4.lt; omega, by have := B_4.lt; omega, by have := A_4.lt; omega⟩
  refine hK9.out _ _ ⟨T_5, C_5⟩ (fun hS => ?_)
  clear hK9 K9
  try simp only [Act.put]
  try simp only [List.setIfInBounds_toArray]
  try simp only [List.set_cons_zero]
  try simp only [List.set_cons_succ]
  try simp only [List.set_cons_zero]
  refine tk (i := 7) (oi := { dst := some 59, op := .move (.tmp 66), type := 180, pos := "host.go:157", after := #[⟨6, .data⟩], guard := none }) (v := ?_) ?_ hS ?_
  rotate_left
  · intro w9 hS9; skip; go_simp; try with_reducible rfl
  try simp only [Act.put]
  try simp only [List.setIfInBounds_toArray]
  try simp only [List.set_cons_zero]
  try simp only [List.set_cons_succ]
  try simp only [List.set_cons_zero]
  refine tk (i := 8) (oi := { dst := some 67, op := .extract (.tmp 59) 0, type := 177, pos := "host.go:157", after := #[⟨7, .data⟩], guard := none }) (v := ?_) ?_ hS ?_
  rotate_left
  · intro w9 hS9; skip; go_simp; try with_reducible rfl
  try simp only [Act.put]
  try simp only [List.setIfInBounds_toArray]
  try simp only [List.set_cons_zero]
  try simp only [List.set_cons_succ]
  try simp only [List.set_cons_zero]
  refine tk (i := 9) (oi := { dst := some 68, op := .extract (.tmp 59) 1, type := 52, pos := "host.go:157", after := #[⟨7, .data⟩, ⟨12, .gcOnly .lateStores⟩], guard := none }) (v := ?_) ?_ hS ?_
  rotate_left
  · intro w9 hS9; skip; go_simp; try with_reducible rfl
  try simp only [Act.put]
  try simp only [List.setIfInBounds_toArray]
  try simp only [List.set_cons_zero]
  try simp only [List.set_cons_succ]
  try simp only [List.set_cons_zero]
  refine tk (i := 10) (oi := { dst := some 69, op := .extract (.tmp 59) 2, type := 26, pos := "host.go:157", after := #[⟨7, .data⟩, ⟨13, .gcOnly .lateStores⟩], guard := none }) (v := ?_) ?_ hS ?_
  rotate_left
  · intro w9 hS9; skip; go_simp; try with_reducible rfl
  try simp only [Act.put]
  try simp only [List.setIfInBounds_toArray]
  try simp only [List.set_cons_zero]
  try simp only [List.set_cons_succ]
  try simp only [List.set_cons_zero]
  refine wpAnyH_ready (rs := [12]) (by kernel_rfl) (by simp) ?_
  refine AllReadyH.cons (o := { dst := none, op := .store 177 (.tmp 10) (.tmp 67), type := 0, pos := "host.go:157", after := #[⟨11, .data⟩, ⟨8, .data⟩, ⟨6, .chain⟩, ⟨0, .phase⟩, ⟨1, .phase⟩, ⟨2, .phase⟩, ⟨3, .phase⟩, ⟨4, .phase⟩, ⟨5, .phase⟩, ⟨6, .phase⟩, ⟨7, .phase⟩, ⟨8, .phase⟩, ⟨9, .textOnly .lateStores⟩, ⟨10, .textOnly .lateStores⟩, ⟨11, .phase⟩], guard := none }) rfl (fun K9 hK9 => ?_) AllReadyH.nil
  have A_6 := A_5.row arS
  have B_6 := B_5.rowOther (g := V3.drew.heap.size) (by omega) arS
  have T_6 := T_5.rowOther (g := V3.drew.heap.size) (by omega) arS
  have C_6 := C_5.rowOther (g := V3.drew.heap.size) (by omega) arS
  have HG_6 := HG_5.rowOther (g := V3.drew.heap.size) (by omega) arS
  have K_6 := below_setRow K_5 (show W.heap.size ≤ V3.drew.heap.size by omega) arS
  refine step_store_any 177 rfl (.tmp 10) (.tmp 67) (by rfl) (g := V3.drew.heap.size) arS (by rfl) (by rfl) A_5 info_ar rfl (by kernel_rfl) ?_
  refine hK9.out _ _ ⟨T_6, C_6⟩ (fun hS => ?_)
  clear hK9 K9
  try simp only [Act.put]
  try simp only [List.setIfInBounds_toArray]
  try simp only [List.set_cons_zero]
  try simp only [List.set_cons_succ]
  try simp only [List.set_cons_zero]
  refine tk (i := 13) (oi := { dst := some 11, op := .assign (.tmp 68), type := 52, pos := "host.go:157", after := #[⟨9, .data⟩, ⟨12, .chain⟩, ⟨0, .phase⟩, ⟨1, .phase⟩, ⟨2, .phase⟩, ⟨3, .phase⟩, ⟨4, .phase⟩, ⟨5, .phase⟩, ⟨6, .phase⟩, ⟨7, .phase⟩, ⟨8, .phase⟩, ⟨9, .phase⟩, ⟨10, .textOnly .lateStores⟩, ⟨11, .phase⟩, ⟨12, .phase⟩], guard := none }) (v := ?_) ?_ hS ?_
  rotate_left
  · intro w9 hS9; skip; go_simp; try with_reducible rfl
  try simp only [Act.put]
  try simp only [List.setIfInBounds_toArray]
  try simp only [List.set_cons_zero]
  try simp only [List.set_cons_succ]
  try simp only [List.set_cons_zero]
  refine tk (i := 14) (oi := { dst := some 12, op := .assign (.tmp 69), type := 26, pos := "host.go:157", after := #[⟨10, .data⟩, ⟨13, .chain⟩, ⟨0, .phase⟩, ⟨1, .phase⟩, ⟨2, .phase⟩, ⟨3, .phase⟩, ⟨4, .phase⟩, ⟨5, .phase⟩, ⟨6, .phase⟩, ⟨7, .phase⟩, ⟨8, .phase⟩, ⟨9, .phase⟩, ⟨10, .phase⟩, ⟨11, .phase⟩, ⟨12, .phase⟩, ⟨13, .phase⟩], guard := none }) (v := ?_) ?_ hS ?_
  rotate_left
  · intro w9 hS9; skip; go_simp; try with_reducible rfl
  try simp only [Act.put]
  try simp only [List.setIfInBounds_toArray]
  try simp only [List.set_cons_zero]
  try simp only [List.set_cons_succ]
  try simp only [List.set_cons_zero]
  refine wpAnyH_done (by kernel_rfl) ?_ _
  go_upto_region 14 with fail
  refine wp_world (fun V => Bx V W.heap.size Tryz.zeroCells67 67 ∧ Bx V V3.drew.heap.size arS 177 ∧ Bx V st tmZ 179 ∧ Bx V g #[.string sSI] 9 ∧ Below W.heap.size W V) ⟨B_6, A_6, T_6, HG_6, K_6⟩ ?_
  rintro V7 ⟨b7, a7, t7, g7, hb7⟩
  have r7 := b7.rowOther (g := st) (by omega) (tmS g)
  have rg := g7.rowOther (g := st) (by omega) (tmS g)
  have hk7 := (Kp.of (S := Ob st) hb7).row (.inl rfl : Ob st st ∨ W.heap.size ≤ st) (tmS g)
  refine wp_region_lit ?_
  refine wpList_val rfl (v := .pointer (some ⟨st, 0, none⟩)) (w' := V7) (by kernel_rfl) ?_
  refine wpList_load_row rfl 177 (.tmp 10) rfl V3.drew.heap.size (by rfl) 177 arS (0, 0) _ a7 Tryz.underlying177 rfl info_ar ?_
  refine wpList_val rfl (v := .slice (some ⟨g, 0, none⟩) 1 1) (w' := V7) (by kernel_rfl) ?_
  refine wpList_val rfl (v := .agg (tmS g)) (w' := V7) (by kernel_rfl) ?_
  refine wpList_val rfl (v := .pointer (some ⟨st, 0, none⟩)) (w' := V7) (by kernel_rfl) ?_
  refine wpList_store_row rfl 179 (.tmp 78) (.tmp 77) rfl st (tmS g) (by kernel_rfl) (by kernel_rfl) 179 tmZ t7 info_tm (by kernel_rfl) (by kernel_rfl) ?_
  go_upto_region 15 with fail
  refine wp_world (fun V => Bx V W.heap.size Tryz.zeroCells67 67 ∧ Bx V g #[.string sSI] 9 ∧ Kp (Ob st) W V) ⟨r7, rg, hk7⟩ ?_
  rintro V8 ⟨b8, g8, hk8⟩
  clear r7 rg hk7 hb7 g7 t7 a7 b7
  go_wp2_with fail
  refine (hlines_one g8 (by decide) (by decide)).mono ?_
  rintro e V9 ⟨rfl, hb9⟩
  have b9 := b8.below hb9 b8.lt
  have hk9 := (hk8.trans (S' := fun _ => False) (Kp.of hb9) (fun _ _ h => h.elim)).row (.inr (Nat.le_refl _) : Ob st W.heap.size ∨ W.heap.size ≤ W.heap.size)
  generalize hC : scrC (bl sSI) = C at HSZ HON
  have b9r := b9.row C
  clear b8 g8 hk8 hb9
  go_wp2_with (refine wpList_store_row rfl 67 (.tmp 6) (.tmp 80) rfl W.heap.size C rfl rfl 67 _ b9 (by rw [HSZ.out]; exact info_scr1) (by rw [HSZ.out]; exact HZZ.out) HON.out ?_)
  exact ret_scr rfl b9r HSZ.out rfl rfl ⟨by rw [hC], hk9 C⟩
end Go.Proofs.YtggomjfllbljeaaGreatDoor
namespace Go.Proofs.YtggomjfllbljeaaGreatDoor
set_option linter.unusedVariables false
open Go Go.RowKit
set_option maxRecDepth 100000 in
set_option maxHeartbeats 4000000 in
theorem do_si {W : World} {h d m s l x du st : Nat} {a : Int} {E : Option Addr} {e0 c0 : Nat} (H : HW W h d m s l x du st a) : Calls Tryz.prog 23 #[.pointer (some ⟨h, 0, none⟩), .agg (evC 1 0 eT 0 (.slice E e0 c0))] W fun e W' => e = .returned (.agg (scrC (bl sSI))) ∧ Kp (Ob st) W W' := by
  have HSZ := Lib.hid (scrC_size (l := bl sSI) (by rw [bl_size]; decide))
  have HON := Lib.hid (scrC_one (bl sSI))
  have HZZ : Hid (Tryz.zeroCells67.size = 1536) := by show _ = _; rw [zero_scr]; simp
  have HH := Lib.hid H
  have hst := H.tb.lt
  clear H
  have q1 := Bx.new W (evC 1 0 eT 0 (.slice E e0 c0)) 24
  have q2 := Bx.new (W.alloc (.cells (evC 1 0 eT 0 (.slice E e0 c0)) 24)) Tryz.zeroCells67 67
  rw [World.size_alloc] at q2
  have hB := ((Below.refl W.heap.size W).alloc (Nat.le_refl _) (.cells (evC 1 0 eT 0 (.slice E e0 c0)) 24)).alloc (by simp) (.cells Tryz.zeroCells67 67)
  go_enter Tryz.func23, Tryz.ntmps23
  go_upto_region 1 with fail
  refine wp_world (fun V => Bx V W.heap.size (evC 1 0 eT 0 (.slice E e0 c0)) 24 ∧ Bx V (W.heap.size + 1) Tryz.zeroCells67 67 ∧ HW V h d m s l x du st a ∧ Below W.heap.size W V) ⟨q1.alloc _, q2, HH.out.below hB, hB⟩ ?_
  clear q1 q2 hB HH
  rintro V ⟨b1, b2, H, hb⟩
  have HV := Lib.hid H
  have x1 := b1.cells
  have z1 := b2.lt
  clear H b1
  go_wp2_with fail
  refine (entry_si HV.out).mono ?_
  rintro e V2 ⟨rfl, hK⟩
  have b3 := hK.bx b2 (by unfold Ob; omega)
  have hk9 := (((Kp.of hb : Kp (Ob st) W V).trans (S' := Ob st) hK (fun _ _ e => e))).row (.inr (by omega) : Ob st (W.heap.size + 1) ∨ W.heap.size ≤ W.heap.size + 1)
  generalize hC : scrC (bl sSI) = C at HSZ HON
  have b9r := b3.row C
  clear b2 hK hb x1
  go_wp2_with (refine wpList_store_row rfl 67 (.tmp 4) (.tmp 15) rfl (W.heap.size + 1) C rfl rfl 67 _ b3 (by rw [HSZ.out]; exact info_scr1) (by rw [HSZ.out]; exact HZZ.out) HON.out ?_)
  exact ret_scr rfl b9r HSZ.out rfl rfl ⟨by rw [hC], hk9 C⟩
end Go.Proofs.YtggomjfllbljeaaGreatDoor
