/- Put together by program of: Nw5, Nw6, Nw7, Nw8, Nw9. -/
import Derived.Test.YtggomjfllbljeaaGreatDoorMNwC
import Derived.Great.FillDense
import Derived.Great.BuildSlice
import Derived.OrdersHeld
namespace Go.Proofs.YtggomjfllbljeaaGreatDoor
set_option linter.unusedVariables false
open Go Go.RowKit
open Go.Maps
/-- A slice literal of structs: its parts fill the new row, part by part. -/
theorem fill_list {α : Type} (T : Ty α) (l : List α) (z : Array Value) (hz : z.size = l.length * T.sz) :
    Instr.fill (fun i => some (i * T.sz, T.sz)) z ((l.map fun x => Value.agg (T.enc x).toArray).zipIdx.map fun x => (x.2, x.1)) = some (l.flatMap T.enc).toArray := by
  have hall : ∀ v ∈ (l.map fun x => Value.agg (T.enc x).toArray), v.cells.size = T.sz := fun v hv => by
    obtain ⟨x, _, rfl⟩ := List.mem_map.1 hv
    simp [Value.cells, T.len]
  obtain ⟨r, hr, hsz, hk⟩ := Great.fill_dense T.pos (l.map fun x => Value.agg (T.enc x).toArray) 0 z hall (by simp [hz])
  rw [hr]
  congr 1
  have hfl := flatMap_len T l
  apply Array.ext_getElem?
  intro k
  rw [hk k]
  have hp := T.pos
  by_cases hkl : k < l.length * T.sz
  · rw [if_pos (by simp; exact hkl)]
    have h1 : k / T.sz < l.length := Nat.div_lt_of_lt_mul (by rw [Nat.mul_comm]; exact hkl)
    have h2 : k % T.sz < T.sz := Nat.mod_lt _ hp
    obtain ⟨x, hx⟩ : ∃ x, l[k / T.sz]? = some x := ⟨_, List.getElem?_eq_getElem h1⟩
    obtain ⟨u, hu⟩ : ∃ u, (T.enc x)[k % T.sz]? = some u := ⟨_, List.getElem?_eq_getElem (by rw [T.len]; exact h2)⟩
    have h3 := flatMap_at T l _ x hx _ u hu
    rw [show k / T.sz * T.sz + k % T.sz = k from by rw [Nat.mul_comm]; exact Nat.div_add_mod k T.sz] at h3
    simp [hx, hu, h3, Value.cells]
  · rw [if_neg (by simp; omega)]
    rw [Array.getElem?_eq_none (by omega)]
    simp [hfl]
    omega
/-- A write that waits: its sector's number, its bytes. -/
structure Wt where
  i : Int
  l : List UInt8
  h : l.length = 512
def tWt : Ty Wt := ⟨fun x => .int .i64 x.i :: x.l.map (fun b => Value.int .u8 b.toNat), 513, fun x => okInt x.i, fun x => by simp [x.h], fun x u h => by
  rcases List.mem_cons.1 h with h | h
  · subst h; rfl
  · obtain ⟨b, _, rfl⟩ := List.mem_map.1 h; rfl, by omega⟩
set_option maxRecDepth 100000 in
theorem info_wt : (Tryz.prog.info? 267).map (fun i => (i.zero, i.size, i.bytes)) = some (some (.agg (#[.int .i64 0] ++ zsec)), 513, 520) := by kernel_rfl
theorem sz_wt : (Value.agg (#[.int .i64 0] ++ zsec)).cells.size = tWt.sz := by
  show (#[Value.int .i64 0] ++ zsec).size = 513
  rw [Array.size_append, Array.size_replicate]
  rfl
theorem sl_wt0 (z : Value) (hz : z.cells.size = 513) (h : (Tryz.prog.info? 267).map (fun i => (i.zero, i.size, i.bytes)) = some (some z, 513, 520)) : SlT Tryz.prog 137 267 513 :=
  SlT.mk' (z := z) (b := 520) Tryz.underlying137 h (by decide) hz
theorem sl_wt : SlT Tryz.prog 137 267 tWt.sz := sl_wt0 _ sz_wt info_wt
theorem fields_wt : Tryz.prog.underlying 267 = some (.struct (Tryz.prog.fieldsOf 267)) := by kernel_rfl
set_option maxRecDepth 100000 in
theorem places_wt : (Tryz.prog.fieldsOf 267).toList.mapM (fun f => (Tryz.prog.info? f.type).map fun i => (f.offset, i.size)) = some [(0, 1), (1, 512)] := by kernel_rfl
theorem fill_wt (x : Wt) (z : Array Value) (hz : z.size = 513) : Instr.fill (#[(0, 1), (1, 512)][·]?) z [(0, .int .i64 x.i), (1, .agg (x.l.map (fun b => Value.int .u8 b.toNat)).toArray)] = some (tWt.enc x).toArray := by
  have hl := x.h
  obtain ⟨h1, h2⟩ := Great.foldl_set 1 (x.l.map (fun b => Value.int .u8 b.toNat)) 0 (z.setIfInBounds 0 (.int .i64 x.i))
  have e0 : ((x.l.map (fun b => Value.int .u8 b.toNat)).zipIdx.foldl (fun cs (x : Value × Nat) => cs.setIfInBounds (1 + x.2) x.1) (z.setIfInBounds 0 (.int .i64 x.i))) = (tWt.enc x).toArray := by
    apply Array.ext_getElem?
    intro k
    rw [h2 k]
    have hzs : (z.setIfInBounds 0 (.int .i64 x.i)).size = 513 := by simp [hz]
    have hen : (tWt.enc x).length = 513 := tWt.len x
    rcases k with _ | k
    · rw [if_neg (by omega)]
      have h0 : 0 < z.size := by omega
      simp [h0, tWt]
    · by_cases hk : k < 512
      · rw [if_pos ⟨by omega, by simp [hl]; omega, by omega⟩]
        simp [tWt]
      · rw [if_neg (by simp [hl]; omega), Array.getElem?_eq_none (by omega)]
        symm
        rw [Array.getElem?_eq_none (by simp; omega)]
  simp only [Instr.fill, Value.cells]
  have hs2 : (x.l.map (fun b => Value.int .u8 b.toNat)).toArray.size = 512 := by simp [hl]
  simp [hz, hs2, e0]
theorem build_wt (x : Wt) (W : World) : (Instr.build 267 #[(0, .int .i64 x.i), (1, .agg (x.l.map (fun b => Value.int .u8 b.toNat)).toArray)]).run Tryz.prog W = .ok (.agg (tWt.enc x).toArray) W := by
  refine run_build W _ _ _ ?_
  obtain ⟨i, hi, h0, h1, h2⟩ := info_parts info_wt
  unfold Program.built
  simp only [hi, fields_wt, h0, places_wt]
  exact fill_wt x _ (by simp [Value.cells])
theorem slice_wt (x : Wt) (W : World) : (Instr.buildSlice 137 1 #[(0, .agg (tWt.enc x).toArray)]).run Tryz.prog W = .ok (.slice (some ⟨W.heap.size, 0, none⟩) 1 1) (W.alloc (.cells (tWt.enc x).toArray 267)) := by
  obtain ⟨i, hi, h0, h1, h2⟩ := info_parts info_wt
  refine Go.run_buildSlice W 137 267 1 _ (tWt.enc x).toArray i _ Tryz.underlying137 hi h0 (by rw [h1]; omega) (by rw [h1]; omega) ?_
  rw [h1]
  have := fill_list tWt [x] ((Array.range (1 * 513)).map ((Value.agg (#[.int .i64 0] ++ zsec)).cells[· % (Value.agg (#[.int .i64 0] ++ zsec)).cells.size]!)) (by simp [tWt])
  simpa [tWt] using this
end Go.Proofs.YtggomjfllbljeaaGreatDoor
namespace Go.Proofs.YtggomjfllbljeaaGreatDoor
set_option linter.unusedVariables false
open Go Go.RowKit
open Go.Maps
theorem ex_load {P : Program} {o : Oper} {a : Act} {w : World} (ty : TypeId) (x : Operand) (ho : o.op = .load ty x) {p v : Value} (hx : a.eval x = p) (h : (Instr.loadAt ty p).run P w = .ok v w) : (execOp a.eval o).run P w = .ok (.value v) w := by
  unfold execOp
  simp only [ho, hx, Sem.run_bind, h, Result.andThen_ok, Sem.run_pure]
theorem parts_of {ps : Array (Nat × Operand)} {a : Act} {qs : List (Nat × Value)} (h : ps.toList.map (fun x => (x.1, a.eval x.2)) = qs) : (ps.map fun (i, x) => (i, a.eval x)) = qs.toArray := by
  apply Array.toList_inj.1
  rw [Array.toList_map]
  exact h
theorem ex_build {P : Program} {o : Oper} {a : Act} {w : World} (ty : TypeId) (ps : Array (Nat × Operand)) (ho : o.op = .build ty ps) {qs : List (Nat × Value)} {v : Value} (hx : ps.toList.map (fun x => (x.1, a.eval x.2)) = qs) (h : (Instr.build ty qs.toArray).run P w = .ok v w) : (execOp a.eval o).run P w = .ok (.value v) w := by
  unfold execOp
  simp only [ho, parts_of hx, Sem.run_bind, h, Result.andThen_ok, Sem.run_pure]
theorem step_bslice {P : Program} {ops : Array Oper} {o : Oper} {a : Act} {K : Act → World → Prop} {Q : Exit → Act → World → Prop} {E : Prop} {W W' : World} (t : TypeId) (n : Nat) (ps : Array (Nat × Operand)) (hgd : o.guard = none) (ho : o.op = .buildSlice t n ps) {qs : List (Nat × Value)} {v : Value} (hx : ps.toList.map (fun x => (x.1, a.eval x.2)) = qs)
    (hr : (Instr.buildSlice t n qs.toArray).run P W = .ok v W') (h : K (a.put o.dst v) W') : if Region.wanted o (yielded ops a.tmps) = true then o.wp P a W K Q else E := by
  have hw : Region.wanted o (yielded ops a.tmps) = true := by simp [Region.wanted, hgd]
  rw [if_pos hw]
  unfold Oper.wp execOp
  simp only [ho, parts_of hx, Sem.run_bind, hr, Result.andThen_ok, Sem.run_pure]
  exact h
abbrev Od (d : Nat) : Nat → Prop := fun k => k = d
theorem goes_any {W : World} {d m : Nat} {n a : Int} {wt : Value} (h : Bx W d (dkC n m wt a) 139) (h0 : -100000 ≤ a) (h1 : a ≤ 100000) :
    Calls Tryz.prog 390 #[.pointer (some ⟨d, 0, none⟩)] W fun e W' => e = .returned (.bool true) ∧ Bx W' d (dkC n m wt (a - 1)) 139 ∧ Kp (Od d) W W' := by
  have c1 := h.cells
  have f1 := h.free
  have H := h.put 5 (.int .i64 (a - 1))
  go_enter Tryz.func390, Tryz.ntmps390
  go_wp2
  go_ret
  exact ⟨rfl, H, (Kp.refl (Od d) W).set (p := ⟨d, 5, none⟩) rfl _⟩
set_option maxRecDepth 100000 in
set_option maxHeartbeats 4000000 in
theorem flush_0 {W : World} {d m : Nat} {n a : Int} (h : Bx W d (dkC n m (.slice none 0 0) a) 139) (h0 : -100000 ≤ a) (h1 : a ≤ 100000) :
    Calls Tryz.prog 337 #[.pointer (some ⟨d, 0, none⟩)] W fun e W' => e = .returned (.int .i64 0) ∧ Bx W' d (dkC n m (.slice none 0 0) (a - 1)) 139 ∧ Kp (Od d) W W' := by
  go_enter Tryz.func337, Tryz.ntmps337
  go_wp2_with fail
  refine (goes_any h h0 h1).mono ?_
  rintro e V1 ⟨rfl, hd, hK⟩
  have c1 := hd.cells
  have f1 := hd.free
  have H := hd.put 2 (.slice none 0 0)
  go_wp2
  go_loop [13] (fun i => i = .int .i64 0) (fun _ => 0)
  case atStart => rfl
  case round =>
    obtain rfl := hrel
    go_wp2
    go_ret
    exact ⟨rfl, H, hK.set (p := ⟨d, 2, none⟩) rfl _⟩
set_option maxRecDepth 100000 in
set_option maxHeartbeats 8000000 in
theorem write_any {W : World} {d m lo hi : Nat} {n a i : Int} {A : Option Addr} {cA : Nat} (x : Wt) (hxi : x.i = i) (h : Bx W d (dkC n m (.slice none 0 0) a) 139) (hs : Sl W lo hi tBy A 512 x.l) (hh : hi ≤ W.heap.size) (hne : d < lo ∨ hi ≤ d) (h0 : -100000 ≤ a) (h1 : a ≤ 100000) (hi0 : 0 ≤ i) (hi1 : i < n) (hn : n ≤ 4096) :
    Calls Tryz.prog 355 #[.pointer (some ⟨d, 0, none⟩), .int .i64 i, .slice A 512 cA] W fun e W' => ∃ q c, e = .returned (.int .i64 0) ∧ Bx W' d (dkC n m (.slice q 1 c) (a - 1)) 139 ∧ Own W' W.heap.size 267 tWt (.slice q 1 c) [x] ∧ Kp (Od d) W W' := by
  have c0 := h.cells
  have hdl := h.lt
  have HS := Lib.hid hs
  have HSK : Hid (∀ V, Kp (Od d) W V → Sl V lo hi tBy A 512 x.l) := fun V hV => hs.keep fun p hp1 hp2 => World.cell?_of_block (hV.block p.block (by omega) (fun e => by unfold Od at e; omega))
  clear hs
  go_enter Tryz.func355, Tryz.ntmps355
  go_wp2_with fail
  refine (goes_any h h0 h1).mono ?_
  rintro e V1 ⟨rfl, hd, hK⟩
  clear c0
  have hS1 := Lib.hid (HSK.out V1 hK)
  obtain ⟨b, o, rfl, hlo, hhi, _⟩ := HS.out.cells (by omega)
  go_upto_region 8 with fail
  have hz : W.heap.size ≤ V1.heap.size := hK.size
  refine wp_world (fun V => Bx V d (dkC n m (.slice none 0 0) (a - 1)) 139 ∧ Kp (Od d) W V) ⟨hd, hK⟩ ?_
  clear hd hK hS1 hz
  rintro V ⟨hd, hK⟩
  have hokx : tWt.wf x := ⟨by omega, by omega⟩
  have HLD : Hid (∀ w : World, Kp (Od d) W w → (Instr.loadAt 265 (.pointer (some ⟨b, o, none⟩))).run Tryz.prog w = .ok (.agg (x.l.map (fun b => Value.int .u8 b.toNat)).toArray) w) := fun w hw => by
    have hsl := HSK.out w hw
    obtain ⟨b', o', he, _, _, hc⟩ := hsl.cells (by omega)
    injection he with he
    injection he with e1 e2
    subst e1 e2
    refine run_loadAt_mid w b o 265 (x.l.map (fun b => Value.int .u8 b.toNat)) _ (fun j v hj => ?_) Tryz.underlying265 rfl (by rw [List.length_map, x.h]; exact (zero_of_info zero_sec).2)
    rw [List.getElem?_map] at hj
    cases hq : x.l[j]? with
    | none => rw [hq] at hj; cases hj
    | some y =>
      rw [hq] at hj
      have := hc j y hq 0 v (by simpa [tBy] using hj)
      simpa [tBy] using this
  subst hxi
  have HBW := Lib.hid (build_wt x)
  have har := fun w : World => run_arrayAt (P := Tryz.prog) (w := w) 265 5 512 (some ⟨b, o, none⟩) 512 cA Tryz.underlying265 (Nat.le_refl _)
  have HSW := Lib.hid (slice_wt x)
  generalize hD : (x.l.map (fun b => Value.int .u8 b.toNat)).toArray = D at HLD HBW
  have HD := Lib.hid hD
  clear hD
  have HC : Hid ((tWt.enc x).toArray.toList = tWt.enc x) := rfl
  generalize (tWt.enc x).toArray = C at HBW HSW HC
  refine wp_region_held_drew (S := fun w => Kp (Od d) W w) (by kernel_rfl) hK.drew (fun hS => ?_)
  refine tk (i := 0) (oi := { dst := some 30, op := .move (.tmp 0), type := 84, pos := "disk.go:81", after := #[], guard := none }) (v := ?_) ?_ hS ?_
  rotate_left
  · intro w9 hS9; skip; go_simp; try with_reducible rfl
  try simp only [Act.put]
  try simp only [List.setIfInBounds_toArray]
  try simp only [List.set_cons_zero]
  try simp only [List.set_cons_succ]
  try simp only [List.set_cons_zero]
  refine tk (i := 1) (oi := { dst := some 31, op := .move (.tmp 0), type := 84, pos := "disk.go:81", after := #[], guard := none }) (v := ?_) ?_ hS ?_
  rotate_left
  · intro w9 hS9; skip; go_simp; try with_reducible rfl
  try simp only [Act.put]
  try simp only [List.setIfInBounds_toArray]
  try simp only [List.set_cons_zero]
  try simp only [List.set_cons_succ]
  try simp only [List.set_cons_zero]
  refine tk (i := 2) (oi := { dst := some 32, op := .nilCheck (.tmp 31), type := 0, pos := "disk.go:81", after := #[⟨1, .data⟩], guard := none }) (v := ?_) ?_ hS ?_
  rotate_left
  · intro w9 hS9; skip; go_simp; try with_reducible rfl
  try simp only [Act.put]
  try simp only [List.setIfInBounds_toArray]
  try simp only [List.set_cons_zero]
  try simp only [List.set_cons_succ]
  try simp only [List.set_cons_zero]
  refine tk (i := 3) (oi := { dst := some 33, op := .fieldAddr 139 (.tmp 32) 2, type := 0, pos := "disk.go:81", after := #[⟨2, .data⟩], guard := none }) (v := ?_) ?_ hS ?_
  rotate_left
  · intro w9 hS9; skip; go_simp; try with_reducible rfl
  try simp only [Act.put]
  try simp only [List.setIfInBounds_toArray]
  try simp only [List.set_cons_zero]
  try simp only [List.set_cons_succ]
  try simp only [List.set_cons_zero]
  refine tk (i := 5) (oi := { dst := some 35, op := .move (.tmp 1), type := 3, pos := "disk.go:81", after := #[], guard := none }) (v := ?_) ?_ hS ?_
  rotate_left
  · intro w9 hS9; skip; go_simp; try with_reducible rfl
  try simp only [Act.put]
  try simp only [List.setIfInBounds_toArray]
  try simp only [List.set_cons_zero]
  try simp only [List.set_cons_succ]
  try simp only [List.set_cons_zero]
  refine tk (i := 6) (oi := { dst := some 36, op := .move (.tmp 2), type := 57, pos := "disk.go:81", after := #[], guard := none }) (v := ?_) ?_ hS ?_
  rotate_left
  · intro w9 hS9; skip; go_simp; try with_reducible rfl
  try simp only [Act.put]
  try simp only [List.setIfInBounds_toArray]
  try simp only [List.set_cons_zero]
  try simp only [List.set_cons_succ]
  try simp only [List.set_cons_zero]
  refine tk (i := 7) (oi := { dst := some 37, op := .sliceToArrayPointer 265 (.tmp 36), type := 0, pos := "disk.go:81", after := #[⟨6, .data⟩], guard := none }) (v := ?_) ?_ hS ?_
  rotate_left
  · intro w9 hS9; skip; go_simp; try with_reducible rfl
  try simp only [Act.put]
  try simp only [List.setIfInBounds_toArray]
  try simp only [List.set_cons_zero]
  try simp only [List.set_cons_succ]
  try simp only [List.set_cons_zero]
  refine tk (i := 8) (oi := { dst := some 38, op := .load 265 (.tmp 37), type := 265, pos := "disk.go:81", after := #[⟨7, .data⟩], guard := none }) (v := .agg D) ?_ hS ?_
  · intro w9 hS9; exact ex_load 265 (.tmp 37) rfl rfl (HLD.out w9 hS9)
  try simp only [Act.put]
  try simp only [List.setIfInBounds_toArray]
  try simp only [List.set_cons_zero]
  try simp only [List.set_cons_succ]
  try simp only [List.set_cons_zero]
  refine tk (i := 9) (oi := { dst := some 39, op := .build 267 #[(0, .tmp 35), (1, .tmp 38)], type := 267, pos := "disk.go:81", after := #[⟨5, .data⟩, ⟨8, .data⟩], guard := none }) (v := .agg C) ?_ hS ?_
  · intro w9 hS9; exact ex_build 267 _ rfl (qs := [(0, .int .i64 x.i), (1, .agg D)]) rfl (HBW.out w9)
  try simp only [Act.put]
  try simp only [List.setIfInBounds_toArray]
  try simp only [List.set_cons_zero]
  try simp only [List.set_cons_succ]
  try simp only [List.set_cons_zero]
  refine wpAnyH_ready (rs := [4, 10]) (by kernel_rfl) (by simp) ?_
  refine AllReadyH.cons (o := { dst := some 34, op := .load 137 (.tmp 33), type := 137, pos := "disk.go:81", after := #[⟨3, .data⟩], guard := none }) rfl (fun K9 hK9 => ?_) ?_
  · have zd_0 := hd.lt
    have q0_0 := hd.cells
    have q1_0 := hd.cells
    go_simp
    refine hK9.out _ _ hK.drew (fun hS => ?_)
    clear hK9 K9
    try simp only [Act.put]
    try simp only [List.setIfInBounds_toArray]
    try simp only [List.set_cons_zero]
    try simp only [List.set_cons_succ]
    try simp only [List.set_cons_zero]
    refine wpAnyH_ready (rs := [10]) (by kernel_rfl) (by simp) ?_
    refine AllReadyH.cons (o := { dst := some 40, op := .buildSlice 137 1 #[(0, .tmp 39)], type := 137, pos := "disk.go:81", after := #[⟨9, .data⟩], guard := none }) rfl (fun K9 hK9 => ?_) AllReadyH.nil
    refine step_bslice 137 1 _ rfl rfl (qs := [(0, .agg C)]) rfl (HSW.out _) ?_
    refine hK9.out _ _ (hK.drew.alloc _) (fun hS => ?_)
    clear hK9 K9
    try simp only [Act.put]
    try simp only [List.setIfInBounds_toArray]
    try simp only [List.set_cons_zero]
    try simp only [List.set_cons_succ]
    try simp only [List.set_cons_zero]
    refine wpAnyH_ready (rs := [11]) (by kernel_rfl) (by simp) ?_
    refine AllReadyH.cons (o := { dst := some 41, op := .call { callee := .builtin .append, args := #[.tmp 34, .tmp 40], argTypes := #[137, 137] }, type := 137, pos := "disk.go:81", after := #[⟨4, .data⟩, ⟨10, .data⟩], guard := none }) rfl (fun K9 hK9 => ?_) AllReadyH.nil
    refine step_push rfl (.tmp 34) (.tmp 40) rfl sl_wt rfl (Own.nil_ _ V.heap.size _ _) x hokx (heap_alloc_new V.drew _) HC.out rfl (by simp) (by simp) ?_
    intro v1 w1 ho1 hg1 hob
    have hB1 := (Below.refl (V.drew.alloc (.cells C 267)).heap.size (V.drew.alloc (.cells C 267))).grown hg1 (Nat.le_refl _) (fun k hk => by cases hk)
    have hK1 : Kp (Od d) W w1 := (hK.drew.alloc _).trans (Kp.of hB1) (fun _ _ e => e)
    have hd1 : Bx w1 d (dkC n m (.slice none 0 0) (a - 1)) 139 := (Bx.alloc (w := V.drew) hd (.cells C 267)).below hB1 (by have := hd.lt; simp; omega)
    obtain ⟨q9, c9, hv9⟩ := ho1.form
    subst hv9
    refine hK9.out _ _ hK1 (fun hS => ?_)
    clear hK9 K9
    try simp only [Act.put]
    try simp only [List.setIfInBounds_toArray]
    try simp only [List.set_cons_zero]
    try simp only [List.set_cons_succ]
    try simp only [List.set_cons_zero]
    refine tk (i := 12) (oi := { dst := some 42, op := .nilCheck (.tmp 30), type := 0, pos := "disk.go:81", after := #[⟨0, .data⟩, ⟨0, .phase⟩, ⟨1, .phase⟩, ⟨2, .phase⟩, ⟨3, .phase⟩, ⟨4, .phase⟩, ⟨5, .phase⟩, ⟨6, .phase⟩, ⟨7, .phase⟩, ⟨8, .phase⟩, ⟨9, .phase⟩, ⟨10, .phase⟩, ⟨11, .phase⟩], guard := none }) (v := ?_) ?_ hS ?_
    rotate_left
    · intro w9 hS9; skip; go_simp; try with_reducible rfl
    try simp only [Act.put]
    try simp only [List.setIfInBounds_toArray]
    try simp only [List.set_cons_zero]
    try simp only [List.set_cons_succ]
    try simp only [List.set_cons_zero]
    refine tk (i := 13) (oi := { dst := some 43, op := .fieldAddr 139 (.tmp 42) 2, type := 0, pos := "disk.go:81", after := #[⟨12, .data⟩, ⟨0, .phase⟩, ⟨1, .phase⟩, ⟨2, .phase⟩, ⟨3, .phase⟩, ⟨4, .phase⟩, ⟨5, .phase⟩, ⟨6, .phase⟩, ⟨7, .phase⟩, ⟨8, .phase⟩, ⟨9, .phase⟩, ⟨10, .phase⟩, ⟨11, .phase⟩], guard := none }) (v := ?_) ?_ hS ?_
    rotate_left
    · intro w9 hS9; skip; go_simp; try with_reducible rfl
    try simp only [Act.put]
    try simp only [List.setIfInBounds_toArray]
    try simp only [List.set_cons_zero]
    try simp only [List.set_cons_succ]
    try simp only [List.set_cons_zero]
    refine wpAnyH_ready (rs := [14]) (by kernel_rfl) (by simp) ?_
    refine AllReadyH.cons (o := { dst := none, op := .store 137 (.tmp 43) (.tmp 41), type := 0, pos := "disk.go:81", after := #[⟨13, .data⟩, ⟨11, .data⟩, ⟨11, .chain⟩, ⟨0, .phase⟩, ⟨1, .phase⟩, ⟨2, .phase⟩, ⟨3, .phase⟩, ⟨4, .phase⟩, ⟨5, .phase⟩, ⟨6, .phase⟩, ⟨7, .phase⟩, ⟨8, .phase⟩, ⟨9, .phase⟩, ⟨10, .phase⟩, ⟨11, .phase⟩], guard := none }) rfl (fun K9 hK9 => ?_) AllReadyH.nil
    have q5 := hd1.cells
    have q6 := hd1.free
    go_simp
    refine hK9.out _ _ (hK1.set (p := ⟨d, 2, none⟩) rfl _) (fun hS => ?_)
    clear hK9 K9
    try simp only [Act.put]
    try simp only [List.setIfInBounds_toArray]
    try simp only [List.set_cons_zero]
    try simp only [List.set_cons_succ]
    try simp only [List.set_cons_zero]
    refine wpAnyH_done (by kernel_rfl) ?_ _
    have H9 := hd1.put 2 (.slice q9 1 c9)
    have O9 := ho1.setCell (B := V.heap.size) (p := ⟨d, 2, none⟩) hd.lt (.slice q9 1 c9)
    have K9 := hK1.set (p := ⟨d, 2, none⟩) rfl (.slice q9 1 c9)
    go_wp2
    go_ret
    exact ⟨q9, c9, rfl, H9, O9.more (by have := hK.size; omega), K9.drewN 0⟩
  refine AllReadyH.cons (o := { dst := some 40, op := .buildSlice 137 1 #[(0, .tmp 39)], type := 137, pos := "disk.go:81", after := #[⟨9, .data⟩], guard := none }) rfl (fun K9 hK9 => ?_) AllReadyH.nil
  refine step_bslice 137 1 _ rfl rfl (qs := [(0, .agg C)]) rfl (HSW.out _) ?_
  refine hK9.out _ _ (hK.drew.alloc _) (fun hS => ?_)
  clear hK9 K9
  try simp only [Act.put]
  try simp only [List.setIfInBounds_toArray]
  try simp only [List.set_cons_zero]
  try simp only [List.set_cons_succ]
  try simp only [List.set_cons_zero]
  refine wpAnyH_ready (rs := [4]) (by kernel_rfl) (by simp) ?_
  refine AllReadyH.cons (o := { dst := some 34, op := .load 137 (.tmp 33), type := 137, pos := "disk.go:81", after := #[⟨3, .data⟩], guard := none }) rfl (fun K9 hK9 => ?_) AllReadyH.nil
  have zd_1 := hd.lt
  have q0_1 := hd.cells
  have q1_1 := (Bx.alloc (w := V.drew) hd (.cells C 267)).cells
  go_simp
  refine hK9.out _ _ (hK.drew.alloc _) (fun hS => ?_)
  clear hK9 K9
  try simp only [Act.put]
  try simp only [List.setIfInBounds_toArray]
  try simp only [List.set_cons_zero]
  try simp only [List.set_cons_succ]
  try simp only [List.set_cons_zero]
  refine wpAnyH_ready (rs := [11]) (by kernel_rfl) (by simp) ?_
  refine AllReadyH.cons (o := { dst := some 41, op := .call { callee := .builtin .append, args := #[.tmp 34, .tmp 40], argTypes := #[137, 137] }, type := 137, pos := "disk.go:81", after := #[⟨4, .data⟩, ⟨10, .data⟩], guard := none }) rfl (fun K9 hK9 => ?_) AllReadyH.nil
  refine step_push rfl (.tmp 34) (.tmp 40) rfl sl_wt rfl (Own.nil_ _ V.heap.size _ _) x hokx (heap_alloc_new V.drew _) HC.out rfl (by simp) (by simp) ?_
  intro v1 w1 ho1 hg1 hob
  have hB1 := (Below.refl (V.drew.alloc (.cells C 267)).heap.size (V.drew.alloc (.cells C 267))).grown hg1 (Nat.le_refl _) (fun k hk => by cases hk)
  have hK1 : Kp (Od d) W w1 := (hK.drew.alloc _).trans (Kp.of hB1) (fun _ _ e => e)
  have hd1 : Bx w1 d (dkC n m (.slice none 0 0) (a - 1)) 139 := (Bx.alloc (w := V.drew) hd (.cells C 267)).below hB1 (by have := hd.lt; simp; omega)
  obtain ⟨q9, c9, hv9⟩ := ho1.form
  subst hv9
  refine hK9.out _ _ hK1 (fun hS => ?_)
  clear hK9 K9
  try simp only [Act.put]
  try simp only [List.setIfInBounds_toArray]
  try simp only [List.set_cons_zero]
  try simp only [List.set_cons_succ]
  try simp only [List.set_cons_zero]
  refine tk (i := 12) (oi := { dst := some 42, op := .nilCheck (.tmp 30), type := 0, pos := "disk.go:81", after := #[⟨0, .data⟩, ⟨0, .phase⟩, ⟨1, .phase⟩, ⟨2, .phase⟩, ⟨3, .phase⟩, ⟨4, .phase⟩, ⟨5, .phase⟩, ⟨6, .phase⟩, ⟨7, .phase⟩, ⟨8, .phase⟩, ⟨9, .phase⟩, ⟨10, .phase⟩, ⟨11, .phase⟩], guard := none }) (v := ?_) ?_ hS ?_
  rotate_left
  · intro w9 hS9; skip; go_simp; try with_reducible rfl
  try simp only [Act.put]
  try simp only [List.setIfInBounds_toArray]
  try simp only [List.set_cons_zero]
  try simp only [List.set_cons_succ]
  try simp only [List.set_cons_zero]
  refine tk (i := 13) (oi := { dst := some 43, op := .fieldAddr 139 (.tmp 42) 2, type := 0, pos := "disk.go:81", after := #[⟨12, .data⟩, ⟨0, .phase⟩, ⟨1, .phase⟩, ⟨2, .phase⟩, ⟨3, .phase⟩, ⟨4, .phase⟩, ⟨5, .phase⟩, ⟨6, .phase⟩, ⟨7, .phase⟩, ⟨8, .phase⟩, ⟨9, .phase⟩, ⟨10, .phase⟩, ⟨11, .phase⟩], guard := none }) (v := ?_) ?_ hS ?_
  rotate_left
  · intro w9 hS9; skip; go_simp; try with_reducible rfl
  try simp only [Act.put]
  try simp only [List.setIfInBounds_toArray]
  try simp only [List.set_cons_zero]
  try simp only [List.set_cons_succ]
  try simp only [List.set_cons_zero]
  refine wpAnyH_ready (rs := [14]) (by kernel_rfl) (by simp) ?_
  refine AllReadyH.cons (o := { dst := none, op := .store 137 (.tmp 43) (.tmp 41), type := 0, pos := "disk.go:81", after := #[⟨13, .data⟩, ⟨11, .data⟩, ⟨11, .chain⟩, ⟨0, .phase⟩, ⟨1, .phase⟩, ⟨2, .phase⟩, ⟨3, .phase⟩, ⟨4, .phase⟩, ⟨5, .phase⟩, ⟨6, .phase⟩, ⟨7, .phase⟩, ⟨8, .phase⟩, ⟨9, .phase⟩, ⟨10, .phase⟩, ⟨11, .phase⟩], guard := none }) rfl (fun K9 hK9 => ?_) AllReadyH.nil
  have q5 := hd1.cells
  have q6 := hd1.free
  go_simp
  refine hK9.out _ _ (hK1.set (p := ⟨d, 2, none⟩) rfl _) (fun hS => ?_)
  clear hK9 K9
  try simp only [Act.put]
  try simp only [List.setIfInBounds_toArray]
  try simp only [List.set_cons_zero]
  try simp only [List.set_cons_succ]
  try simp only [List.set_cons_zero]
  refine wpAnyH_done (by kernel_rfl) ?_ _
  have H9 := hd1.put 2 (.slice q9 1 c9)
  have O9 := ho1.setCell (B := V.heap.size) (p := ⟨d, 2, none⟩) hd.lt (.slice q9 1 c9)
  have K9 := hK1.set (p := ⟨d, 2, none⟩) rfl (.slice q9 1 c9)
  go_wp2
  go_ret
  exact ⟨q9, c9, rfl, H9, O9.more (by have := hK.size; omega), K9.drewN 0⟩
end Go.Proofs.YtggomjfllbljeaaGreatDoor
namespace Go.Proofs.YtggomjfllbljeaaGreatDoor
set_option linter.unusedVariables false
open Go Go.RowKit
open Go.Maps
abbrev Odm (d m : Nat) : Nat → Prop := fun k => k = d ∨ k = m
theorem info_size {P : Program} {t : TypeId} {z : Option Value} {s b : Nat} (h : (P.info? t).map (fun i => (i.zero, i.size, i.bytes)) = some (z, s, b)) : (P.info? t).map (·.size) = some s := by
  cases hq : P.info? t with
  | none => rw [hq] at h; cases h
  | some i => rw [hq] at h; injection h with h; injection h with _ h; injection h with h _; simp [h]
theorem mp_type : Tryz.prog.underlying 136 = some (.map 3 265) := Tryz.underlying136
set_option maxRecDepth 100000 in
set_option maxHeartbeats 8000000 in
theorem flush_1 {W : World} {d m B : Nat} {n a : Int} {g : Value → Option Value} {q : Option Addr} {c : Nat} (x : Wt) (h : Bx W d (dkC n m (.slice q 1 c) a) 139) (hm : MpD W m g) (ho : Own W B 267 tWt (.slice q 1 c) [x]) (hdm : d ≠ m) (hqd : d < B) (hqm : m < B) (h0 : -100000 ≤ a) (h1 : a ≤ 100000) (hx : okInt x.i) :
    Calls Tryz.prog 337 #[.pointer (some ⟨d, 0, none⟩)] W fun e W' => ∃ g', e = .returned (.int .i64 0) ∧ Bx W' d (dkC n m (.slice none 0 0) (a - 1)) 139 ∧ MpD W' m g' ∧ Kp (Odm d m) W W' := by
  have hml := hm.size
  have hdl := h.lt
  go_enter Tryz.func337, Tryz.ntmps337
  go_wp2_with fail
  refine (goes_any h h0 h1).mono ?_
  rintro e V1 ⟨rfl, hd, hK⟩
  have hm1 : MpD V1 m g := hm.keep (hK.block m hml (fun e => by unfold Od at e; omega))
  have ho1 : Own V1 B 267 tWt (.slice q 1 c) [x] := ho.kp hK (fun b hb e => by unfold Od at e; omega)
  have hk1 : Kp (Odm d m) W V1 := hK.mono (fun b e => .inl e)
  clear hK hm ho h
  obtain ⟨b, o, rfl, hlo, hhi, hc⟩ := ho1.sl.cells (by omega)
  have hr0 : V1.rangeAt b o (tWt.enc x) := fun j v hj => by
    have := hc 0 x rfl j v hj
    simpa using this
  have HR := Lib.hid hr0
  have HM := Lib.hid hm1
  have HK := Lib.hid hk1
  have hzl := hk1.size
  have hen : (tWt.enc x).length = 513 := tWt.len x
  have hC1 : ∃ C : Array Value, C.toList = tWt.enc x ∧ C.size = 513 ∧ (C.all fun v => v.oneCell') = true ∧ (tWt.enc x).toArray = C := ⟨(tWt.enc x).toArray, rfl, by simpa using hen, by
    rw [Array.all_eq_true]
    intro j hj
    exact tWt.one x _ (by simp), rfl⟩
  obtain ⟨C, hC, hCs, hCo, hCe⟩ := hC1
  have HC := Lib.hid hC
  have HCO := Lib.hid hCo
  have HCE := Lib.hid hCe
  have HCS := Lib.hid hCs
  have HHC := Lib.hid hc
  clear hc hr0 hm1 hk1 hC hCo hCe hCs
  have c1 := hd.cells
  go_wp2
  go_loopw [13] (fun i wr => (i = .int .i64 0 ∧ wr = V1) ∨ (i = .int .i64 1 ∧ ∃ g', Bx wr d (dkC n m (.slice (some ⟨b, o, none⟩) 1 c) (a - 1)) 139 ∧ MpD wr m g' ∧ Kp (Odm d m) W wr)) (fun i _ => 1 - (intOf i).toNat)
  case atStart => exact .inl ⟨rfl, rfl⟩
  case round =>
    rcases hrel with ⟨rfl, rfl⟩ | ⟨rfl, g', hd2, hm2, hk2⟩
    rotate_left
    · have f2 := hd2.free
      have c2 := hd2.cells
      have H := hd2.put 2 (.slice none 0 0)
      clear c1
      go_wp2
      go_ret
      exact ⟨g', rfl, H, hm2.setCell _ (by simpa using hdm) _, hk2.set (p := ⟨d, 2, none⟩) (.inl rfl) _⟩
    go_upto_region 6 with (first | (refine wpList_load_mid rfl 267 (.tmp 15) rfl b o rfl (tWt.enc x) _ HR.out fields_wt rfl (by rw [hen]; exact (info_size info_wt)) ?_; rw [HCE.out]) | (refine wpList_store_row rfl 267 (.tmp 4) (.tmp 16) rfl wr.heap.size C rfl rfl 267 _ (Bx.new _ _ _) (by rw [HCS.out]; exact (info_size info_wt)) (by rw [HCS.out]; rfl) HCO.out ?_))
    have hbL : Bx ((wr.alloc (.cells Tryz.zeroCells267 267)).setRow wr.heap.size C) wr.heap.size C 267 := (Bx.new wr _ _).row C
    have hbD : Bx ((wr.alloc (.cells Tryz.zeroCells267 267)).setRow wr.heap.size C) d (dkC n m (.slice (some ⟨b, o, none⟩) 1 c) (a - 1)) 139 := (hd.alloc _).rowOther (by omega) C
    have hbB : Below wr.heap.size wr ((wr.alloc (.cells Tryz.zeroCells267 267)).setRow wr.heap.size C) := below_setRow ((Below.refl _ _).alloc (Nat.le_refl _) _) (Nat.le_refl _) _
    refine wp_world (fun V => Bx V wr.heap.size C 267 ∧ Bx V d (dkC n m (.slice (some ⟨b, o, none⟩) 1 c) (a - 1)) 139 ∧ MpD V m g ∧ Kp (Odm d m) W V) ⟨hbL, hbD, HM.out.below hbB (by omega), HK.out.trans (S' := Odm d m) (Kp.of hbB) (fun _ _ e => e)⟩ ?_
    clear hbL hbD hbB c1
    rintro V ⟨bL, bD, hmV, hKV⟩
    have hzd := bD.lt
    obtain ⟨D, hD⟩ : ∃ D : Array Value, (x.l.map (fun b => Value.int .u8 b.toNat)).toArray = D := ⟨_, rfl⟩
    have HD := Lib.hid hD
    clear hD
    obtain ⟨w2, hrun, hm2, hw2⟩ := (hmV.drew).putK (v := .agg D) kl_int mp_type (key_int hx)
    have HLD : Hid (∀ w : World, Bx w wr.heap.size C 267 → (Instr.loadAt 265 (.pointer (some ⟨wr.heap.size, 1, none⟩))).run Tryz.prog w = .ok (.agg D) w) := fun w hw => by
      rw [← HD.out]
      refine run_loadAt_mid w wr.heap.size 1 265 (x.l.map (fun b => Value.int .u8 b.toNat)) _ (fun j v hj => ?_) Tryz.underlying265 rfl (by rw [List.length_map, x.h]; exact (zero_of_info zero_sec).2)
      rw [hw.cells, ← Array.getElem?_toList, HC.out, Nat.add_comm]
      exact hj
    have HL0 : Hid (∀ w : World, Bx w wr.heap.size C 267 → w.cell? ⟨wr.heap.size, 0, none⟩ = some (.int .i64 x.i)) := fun w hw => by
      rw [hw.cells, ← Array.getElem?_toList, HC.out]
      rfl
    have hdL : d ≠ wr.heap.size := by have := hd.lt; omega
    have hmL : m ≠ wr.heap.size := by omega
    have bL2 : Bx w2 wr.heap.size C 267 := Bx.wr (w := V.drew) bL hw2 (fun e => hmL e.symm)
    have bD2 : Bx w2 d (dkC n m (.slice (some ⟨b, o, none⟩) 1 c) (a - 1)) 139 := Bx.wr (w := V.drew) bD hw2 hdm
    have hK2 : Kp (Odm d m) W w2 := hKV.drew.trans (S' := Odm d m) ⟨by obtain ⟨ob, rfl⟩ := hw2; rfl, by obtain ⟨ob, rfl⟩ := hw2; rfl, by obtain ⟨ob, rfl⟩ := hw2; rfl, by rw [hw2.size]; exact Nat.le_refl _, fun k _ hn => hw2.block (fun e => hn (.inr e))⟩ (fun _ _ e => e)
    refine wp_region_held_drew (S := fun w => Bx w d (dkC n m (.slice (some ⟨b, o, none⟩) 1 c) (a - 1)) 139 ∧ Bx w wr.heap.size C 267) (by kernel_rfl) ⟨bD, bL⟩ (fun hS => ?_)
    refine tk (i := 0) (oi := { dst := some 17, op := .move (.tmp 0), type := 84, pos := "disk.go:94", after := #[], guard := none }) (v := ?_) ?_ hS ?_
    rotate_left
    · intro w9 hS9; have q1 := hS9.1.cells; have q2 := HL0.out w9 hS9.2; go_simp; try with_reducible rfl
    try simp only [Act.put]
    try simp only [List.setIfInBounds_toArray]
    try simp only [List.set_cons_zero]
    try simp only [List.set_cons_succ]
    try simp only [List.set_cons_zero]
    refine tk (i := 1) (oi := { dst := some 18, op := .nilCheck (.tmp 17), type := 0, pos := "disk.go:94", after := #[⟨0, .data⟩], guard := none }) (v := ?_) ?_ hS ?_
    rotate_left
    · intro w9 hS9; have q1 := hS9.1.cells; have q2 := HL0.out w9 hS9.2; go_simp; try with_reducible rfl
    try simp only [Act.put]
    try simp only [List.setIfInBounds_toArray]
    try simp only [List.set_cons_zero]
    try simp only [List.set_cons_succ]
    try simp only [List.set_cons_zero]
    refine tk (i := 2) (oi := { dst := some 19, op := .fieldAddr 139 (.tmp 18) 1, type := 0, pos := "disk.go:94", after := #[⟨1, .data⟩], guard := none }) (v := ?_) ?_ hS ?_
    rotate_left
    · intro w9 hS9; have q1 := hS9.1.cells; have q2 := HL0.out w9 hS9.2; go_simp; try with_reducible rfl
    try simp only [Act.put]
    try simp only [List.setIfInBounds_toArray]
    try simp only [List.set_cons_zero]
    try simp only [List.set_cons_succ]
    try simp only [List.set_cons_zero]
    refine tk (i := 3) (oi := { dst := some 20, op := .load 136 (.tmp 19), type := 136, pos := "disk.go:94", after := #[⟨2, .data⟩], guard := none }) (v := ?_) ?_ hS ?_
    rotate_left
    · intro w9 hS9; have q1 := hS9.1.cells; have q2 := HL0.out w9 hS9.2; go_simp; try with_reducible rfl
    try simp only [Act.put]
    try simp only [List.setIfInBounds_toArray]
    try simp only [List.set_cons_zero]
    try simp only [List.set_cons_succ]
    try simp only [List.set_cons_zero]
    refine tk (i := 4) (oi := { dst := some 21, op := .fieldAddr 267 (.tmp 4) 0, type := 0, pos := "disk.go:94", after := #[], guard := none }) (v := ?_) ?_ hS ?_
    rotate_left
    · intro w9 hS9; have q1 := hS9.1.cells; have q2 := HL0.out w9 hS9.2; go_simp; try with_reducible rfl
    try simp only [Act.put]
    try simp only [List.setIfInBounds_toArray]
    try simp only [List.set_cons_zero]
    try simp only [List.set_cons_succ]
    try simp only [List.set_cons_zero]
    refine tk (i := 5) (oi := { dst := some 22, op := .load 3 (.tmp 21), type := 3, pos := "disk.go:94", after := #[⟨4, .data⟩], guard := none }) (v := ?_) ?_ hS ?_
    rotate_left
    · intro w9 hS9; have q1 := hS9.1.cells; have q2 := HL0.out w9 hS9.2; go_simp; try with_reducible rfl
    try simp only [Act.put]
    try simp only [List.setIfInBounds_toArray]
    try simp only [List.set_cons_zero]
    try simp only [List.set_cons_succ]
    try simp only [List.set_cons_zero]
    refine tk (i := 6) (oi := { dst := some 23, op := .fieldAddr 267 (.tmp 4) 1, type := 0, pos := "disk.go:94", after := #[], guard := none }) (v := ?_) ?_ hS ?_
    rotate_left
    · intro w9 hS9; have q1 := hS9.1.cells; have q2 := HL0.out w9 hS9.2; go_simp; try with_reducible rfl
    try simp only [Act.put]
    try simp only [List.setIfInBounds_toArray]
    try simp only [List.set_cons_zero]
    try simp only [List.set_cons_succ]
    try simp only [List.set_cons_zero]
    refine tk (i := 7) (oi := { dst := some 24, op := .load 265 (.tmp 23), type := 265, pos := "disk.go:94", after := #[⟨6, .data⟩], guard := none }) (v := .agg D) ?_ hS ?_
    · intro w9 hS9; exact ex_load 265 (.tmp 23) rfl rfl (HLD.out w9 hS9.2)
    try simp only [Act.put]
    try simp only [List.setIfInBounds_toArray]
    try simp only [List.set_cons_zero]
    try simp only [List.set_cons_succ]
    try simp only [List.set_cons_zero]
    refine wpAnyH_ready (rs := [8]) (by kernel_rfl) (by simp) ?_
    refine AllReadyH.cons (o := { dst := none, op := .mapUpdate 136 (.tmp 20) (.tmp 22) (.tmp 24), type := 0, pos := "disk.go:94", after := #[⟨3, .data⟩, ⟨5, .data⟩, ⟨7, .data⟩, ⟨0, .phase⟩, ⟨1, .phase⟩, ⟨2, .phase⟩, ⟨3, .phase⟩, ⟨4, .phase⟩, ⟨5, .phase⟩, ⟨6, .phase⟩, ⟨7, .phase⟩], guard := none }) rfl (fun K9 hK9 => ?_) AllReadyH.nil
    go_simp
    refine hK9.out _ _ ⟨bD2, bL2⟩ (fun hS => ?_)
    clear hK9 K9
    try simp only [Act.put]
    try simp only [List.setIfInBounds_toArray]
    try simp only [List.set_cons_zero]
    try simp only [List.set_cons_succ]
    try simp only [List.set_cons_zero]
    refine wpAnyH_done (by kernel_rfl) ?_ _
    clear hrun
    go_wp2
    exact ⟨.inr ⟨rfl, _, bD2, hm2, hK2⟩, by decide⟩
end Go.Proofs.YtggomjfllbljeaaGreatDoor
namespace Go.Proofs.YtggomjfllbljeaaGreatDoor
set_option linter.unusedVariables false
open Go Go.RowKit
open Go.Maps
/-- The cells of a log. -/
abbrev lgC (d : Nat) (gen used : Int) (v : Value) : Array Value := #[.pointer (some ⟨d, 0, none⟩), .int .u32 gen, .int .i64 used, v, .bool false]
/-- A disk whose writes all last. -/
structure DkS (W : World) (d m : Nat) (n a : Int) : Prop where
  bd : Bx W d (dkC n m (.slice none 0 0) a) 139
  bm : ∃ g, MpD W m g
  ne : d ≠ m
  lo : 4 ≤ n
  hi : n ≤ 4096
theorem DkS.keep {W W' : World} {d m : Nat} {n a : Int} {S : Nat → Prop} (h : DkS W d m n a) (hk : Kp S W W') (h1 : ¬ S d) (h2 : ¬ S m) : DkS W' d m n a := by
  obtain ⟨hd, ⟨g, hm⟩, h3, h4, h5⟩ := h
  exact ⟨hk.bx hd h1, ⟨g, hm.keep (hk.block m hm.size h2)⟩, h3, h4, h5⟩
theorem area_any (n : Int) (W : World) (h0 : 2 ≤ n) (h1 : n ≤ 4096) : Calls Tryz.prog 102 #[.int .i64 n] W fun e W' => e = .returned (.int .i64 ((n - 2) / 2)) ∧ W' = W := by
  have h2 : ¬ n < 2 := by omega
  go_enter Tryz.func102, Tryz.ntmps102
  go_wp2
  go_ret
  exact ⟨rfl, rfl⟩
set_option maxRecDepth 100000 in
set_option maxHeartbeats 8000000 in
theorem begin_0 {W : World} {d m l : Nat} {n a : Int} {c : Nat} (h : DkS W d m n a) (hl : Bx W l (lgC d 0 0 (.slice none 0 0)) 297) (hld : l ≠ d) (hlm : l ≠ m) (h0 : -90000 ≤ a) (h1 : a ≤ 90000) :
    Calls Tryz.prog 271 #[.pointer (some ⟨l, 0, none⟩), .slice none 0 c] W fun e W' => e = .returned (.int .i64 0) ∧ DkS W' d m n (a - 3) ∧ Kp (Odm d m) W W' := by
  have c1 := hl.cells
  go_enter Tryz.func271, Tryz.ntmps271
  go_wp2
  go_loop [19] (fun i => i = .int .i64 0) (fun _ => 0)
  case atStart => rfl
  case round =>
    obtain rfl := hrel
    go_wp2_with fail
    refine (flush_0 h.bd (by omega) (by omega)).mono ?_
    rintro e V1 ⟨rfl, hd1, hK1⟩
    have hl1 := hK1.bx hl (by unfold Od; exact hld)
    have H1 : DkS V1 d m n (a - 1) := by
      obtain ⟨_, ⟨g, hm⟩, h3, h4, h5⟩ := h
      exact ⟨hd1, ⟨g, hm.keep (hK1.block m hm.size (by unfold Od; exact fun e => h3 e.symm))⟩, h3, h4, h5⟩
    have hKm : Kp (Odm d m) W V1 := hK1.mono (fun b e => .inl e)
    clear c1 hd1 hK1
    have c1 := hl1.cells
    go_upto_region 13 with fail
    have HH := Lib.hid (fun V => head_by V 1 (by omega) (by omega))
    have H1H := Lib.hid H1
    have HlH := Lib.hid hl1
    have HKH := Lib.hid hKm
    clear c1 h hl H1 hl1 hKm
    refine wp_region_held_drew (S := fun w => Bx w l (lgC d 0 0 (.slice none 0 0)) 297) (by kernel_rfl) HlH.out (fun hS => ?_)
    refine tk (i := 0) (oi := { dst := some 47, op := .move (.tmp 0), type := 205, pos := "wal.go:187", after := #[], guard := none }) (v := ?_) ?_ hS ?_
    rotate_left
    · intro w9 hS9; have q1 := hS9.cells; go_simp; try with_reducible rfl
    try simp only [Act.put]
    try simp only [List.setIfInBounds_toArray]
    try simp only [List.set_cons_zero]
    try simp only [List.set_cons_succ]
    try simp only [List.set_cons_zero]
    refine tk (i := 1) (oi := { dst := some 48, op := .nilCheck (.tmp 47), type := 0, pos := "wal.go:187", after := #[⟨0, .data⟩], guard := none }) (v := ?_) ?_ hS ?_
    rotate_left
    · intro w9 hS9; have q1 := hS9.cells; go_simp; try with_reducible rfl
    try simp only [Act.put]
    try simp only [List.setIfInBounds_toArray]
    try simp only [List.set_cons_zero]
    try simp only [List.set_cons_succ]
    try simp only [List.set_cons_zero]
    refine tk (i := 2) (oi := { dst := some 49, op := .fieldAddr 297 (.tmp 48) 0, type := 0, pos := "wal.go:187", after := #[⟨1, .data⟩], guard := none }) (v := ?_) ?_ hS ?_
    rotate_left
    · intro w9 hS9; have q1 := hS9.cells; go_simp; try with_reducible rfl
    try simp only [Act.put]
    try simp only [List.setIfInBounds_toArray]
    try simp only [List.set_cons_zero]
    try simp only [List.set_cons_succ]
    try simp only [List.set_cons_zero]
    refine tk (i := 3) (oi := { dst := some 50, op := .load 84 (.tmp 49), type := 84, pos := "wal.go:187", after := #[⟨2, .data⟩], guard := none }) (v := ?_) ?_ hS ?_
    rotate_left
    · intro w9 hS9; have q1 := hS9.cells; go_simp; try with_reducible rfl
    try simp only [Act.put]
    try simp only [List.setIfInBounds_toArray]
    try simp only [List.set_cons_zero]
    try simp only [List.set_cons_succ]
    try simp only [List.set_cons_zero]
    refine tk (i := 4) (oi := { dst := some 51, op := .move (.tmp 5), type := 291, pos := "wal.go:187", after := #[], guard := none }) (v := ?_) ?_ hS ?_
    rotate_left
    · intro w9 hS9; have q1 := hS9.cells; go_simp; try with_reducible rfl
    try simp only [Act.put]
    try simp only [List.setIfInBounds_toArray]
    try simp only [List.set_cons_zero]
    try simp only [List.set_cons_succ]
    try simp only [List.set_cons_zero]
    refine tk (i := 5) (oi := { dst := some 52, op := .binOp .rem 291 (.tmp 51) (.const (.int .u32 2)) 291, type := 291, pos := "wal.go:187", after := #[⟨4, .data⟩], guard := none }) (v := ?_) ?_ hS ?_
    rotate_left
    · intro w9 hS9; have q1 := hS9.cells; go_simp; try with_reducible rfl
    try simp only [Act.put]
    try simp only [List.setIfInBounds_toArray]
    try simp only [List.set_cons_zero]
    try simp only [List.set_cons_succ]
    try simp only [List.set_cons_zero]
    refine tk (i := 6) (oi := { dst := some 53, op := .convert 291 3 (.tmp 52), type := 3, pos := "wal.go:187", after := #[⟨5, .data⟩], guard := none }) (v := ?_) ?_ hS ?_
    rotate_left
    · intro w9 hS9; have q1 := hS9.cells; go_simp; try with_reducible rfl
    try simp only [Act.put]
    try simp only [List.setIfInBounds_toArray]
    try simp only [List.set_cons_zero]
    try simp only [List.set_cons_succ]
    try simp only [List.set_cons_zero]
    refine tk (i := 7) (oi := { dst := some 54, op := .move (.tmp 5), type := 291, pos := "wal.go:187", after := #[], guard := none }) (v := ?_) ?_ hS ?_
    rotate_left
    · intro w9 hS9; have q1 := hS9.cells; go_simp; try with_reducible rfl
    try simp only [Act.put]
    try simp only [List.setIfInBounds_toArray]
    try simp only [List.set_cons_zero]
    try simp only [List.set_cons_succ]
    try simp only [List.set_cons_zero]
    refine wpAnyH_ready (rs := [8]) (by kernel_rfl) (by simp) ?_
    refine AllReadyH.cons (o := { dst := some 55, op := .call { callee := .value (.func 267), args := #[.tmp 54], argTypes := #[291] }, type := 57, pos := "wal.go:187", after := #[⟨7, .data⟩], guard := none }) rfl (fun K9 hK9 => ?_) AllReadyH.nil
    go_simp
    refine (HH.out _).mono ?_
    rintro e V2 ⟨r, hr, A2, c2, rfl, ho2, hb2⟩
    have hlen : (1 :: r : List UInt8).length = 512 := by rw [List.length_cons, hr]
    rw [hlen] at ho2 ⊢
    have hl2 : Bx V2 l (lgC d 0 0 (.slice none 0 0)) 297 := Bx.below (w := V1.drew) HlH.out hb2 HlH.out.lt
    have H2 : DkS V2 d m n (a - 1) := (H1H.out.keep ((Kp.refl (fun _ => False) V1).drew) (fun h => h) (fun h => h)).keep (Kp.of (S := fun _ => False) hb2) (fun h => h) (fun h => h)
    have hK2 : Kp (Odm d m) W V2 := HKH.out.drew.trans (S' := Odm d m) (Kp.of hb2) (fun _ _ e => e)
    have hso := Lib.hid ho2.sl
    clear ho2
    refine hK9.out _ _ hl2 (fun hS => ?_)
    clear hK9 K9
    try simp only [Act.put]
    try simp only [List.setIfInBounds_toArray]
    try simp only [List.set_cons_zero]
    try simp only [List.set_cons_succ]
    try simp only [List.set_cons_zero]
    refine wpAnyH_ready (rs := [9]) (by kernel_rfl) (by simp) ?_
    refine AllReadyH.cons (o := { dst := some 56, op := .call { callee := .value (.func 355), args := #[.tmp 50, .tmp 53, .tmp 55], argTypes := #[84, 3, 57] }, type := 26, pos := "wal.go:187", after := #[⟨3, .data⟩, ⟨6, .data⟩, ⟨8, .data⟩, ⟨8, .chain⟩], guard := none }) rfl (fun K9 hK9 => ?_) AllReadyH.nil
    go_simp
    obtain ⟨x, hx⟩ : ∃ x : Wt, x = ⟨1, 1 :: r, hlen⟩ := ⟨_, rfl⟩
    have hdz := H1H.out.bd.lt
    refine (write_any (i := 1) x (by rw [hx]) H2.bd (by rw [hx]; exact hso.out) (Nat.le_refl _) (.inl hdz) (by omega) (by omega) (by omega) (by have := H2.lo; omega) H2.hi).mono ?_
    rintro e V3 ⟨q, c3, rfl, hd3, ho3, hK3⟩
    have hl3 : Bx V3 l (lgC d 0 0 (.slice none 0 0)) 297 := hK3.bx hl2 (by unfold Od; exact hld)
    refine hK9.out _ _ hl3 (fun hS => ?_)
    clear hK9 K9
    try simp only [Act.put]
    try simp only [List.setIfInBounds_toArray]
    try simp only [List.set_cons_zero]
    try simp only [List.set_cons_succ]
    try simp only [List.set_cons_zero]
    refine tk (i := 10) (oi := { dst := some 11, op := .assign (.tmp 56), type := 26, pos := "wal.go:187", after := #[⟨9, .data⟩, ⟨9, .chain⟩, ⟨0, .phase⟩, ⟨1, .phase⟩, ⟨2, .phase⟩, ⟨3, .phase⟩, ⟨4, .phase⟩, ⟨5, .phase⟩, ⟨6, .phase⟩, ⟨7, .phase⟩, ⟨8, .phase⟩, ⟨9, .phase⟩], guard := none }) (v := ?_) ?_ hS ?_
    rotate_left
    · intro w9 hS9; have q1 := hS9.cells; go_simp; try with_reducible rfl
    try simp only [Act.put]
    try simp only [List.setIfInBounds_toArray]
    try simp only [List.set_cons_zero]
    try simp only [List.set_cons_succ]
    try simp only [List.set_cons_zero]
    refine wpAnyH_done (by kernel_rfl) ?_ _
    have hxi : x.i = 1 := by rw [hx]
    have hm3 : ∃ g, MpD V3 m g := by obtain ⟨g, hm⟩ := H2.bm; exact ⟨g, hm.keep (hK3.block m hm.size (by unfold Od; exact fun e => H2.ne e.symm))⟩
    obtain ⟨g3, hm3⟩ := hm3
    have hlz := HlH.out.lt
    have hmz : m < V2.heap.size := by obtain ⟨g, hm⟩ := H2.bm; exact hm.size
    have hdz2 := H2.bd.lt
    have H2H := Lib.hid H2
    have HX := Lib.hid hx
    clear hx H2
    have cl := hl3.cells
    go_wp2_with fail
    refine (flush_1 x hd3 hm3 ho3 H2H.out.ne hdz2 hmz (by omega) (by omega) (by rw [hxi]; exact ⟨by omega, by omega⟩)).mono ?_
    rintro e V4 ⟨g4, rfl, hd4, hm4, hK4⟩
    have e3 : a - 1 - 1 - 1 = a - 3 := by omega
    rw [e3] at hd4
    go_wp2
    go_ret
    exact ⟨rfl, ⟨hd4, ⟨g4, hm4⟩, H2H.out.ne, H2H.out.lo, H2H.out.hi⟩, (hK2.trans (S' := Od d) hK3 (fun b _ e => .inl e)).trans (S' := Odm d m) hK4 (fun _ _ e => e)⟩
end Go.Proofs.YtggomjfllbljeaaGreatDoor
namespace Go.Proofs.YtggomjfllbljeaaGreatDoor
set_option linter.unusedVariables false
open Go Go.RowKit
open Go.Maps
abbrev Odl (d m l : Nat) : Nat → Prop := fun k => k = d ∨ k = m ∨ k = l
set_option maxRecDepth 100000 in
set_option maxHeartbeats 8000000 in
theorem renew_0 {W : World} {d m l : Nat} {n a : Int} {c : Nat} (h : DkS W d m n a) (hl : Bx W l (lgC d 0 0 (.slice none 0 0)) 297) (hld : l ≠ d) (hlm : l ≠ m) (h0 : -90000 ≤ a) (h1 : a ≤ 90000) :
    Calls Tryz.prog 173 #[.pointer (some ⟨l, 0, none⟩), .slice none 0 c] W fun e W' => e = .returned (.int .i64 0) ∧ DkS W' d m n (a - 3) ∧ Bx W' l (lgC d 1 0 (.slice none 0 0)) 297 ∧ Kp (Odl d m l) W W' := by
  have c1 := hl.cells
  have hlo := h.lo
  have hhi := h.hi
  have ha0 : ¬ (0 : Int) > (n - 2) / 2 := by omega
  have ha1 : ¬ (n - 2) / 2 < 0 := by omega
  go_enter Tryz.func173, Tryz.ntmps173
  go_wp2
  go_loop [5, 17] (fun u i => u = .int .i64 0 ∧ i = .int .i64 0) (fun _ _ => 0)
  case atStart => exact ⟨rfl, rfl⟩
  case round =>
    obtain ⟨rfl, rfl⟩ := hrel
    go_wp2_with fail
    refine (size_any h.bd).mono ?_
    rintro e V1 ⟨rfl, rfl⟩
    go_wp2_with fail
    refine (area_any n _ (by omega) hhi).mono ?_
    rintro e V2 ⟨rfl, rfl⟩
    generalize hq : (n - 2) / 2 = qa
    have hq0 : ¬ qa < 0 := by omega
    clear hq ha0 ha1
    go_wp2_with fail
    refine (begin_0 h hl hld hlm h0 h1).mono ?_
    rintro e V3 ⟨rfl, H3, hK3⟩
    have hl3 := hK3.bx hl (by rintro (e | e) <;> omega)
    have c3 := hl3.cells
    have f3 := hl3.free
    have HL := ((hl3.put 1 (.int .u32 1)).put 2 (.int .i64 0)).put 3 (.slice none 0 0)
    have hk0 := hK3.mono (S' := Odl d m l) (fun b e => by rcases e with e | e; exact .inl e; exact .inr (.inl e))
    have hk9 := ((hk0.set (p := ⟨l, 1, none⟩) (.inr (.inr rfl)) (.int .u32 1)).set (p := ⟨l, 2, none⟩) (.inr (.inr rfl)) (.int .i64 0)).set (p := ⟨l, 3, none⟩) (.inr (.inr rfl)) (.slice none 0 0)
    have hD9 := ((H3.keep ((Kp.refl (Od l) V3).set (p := ⟨l, 1, none⟩) rfl (.int .u32 1)) (by unfold Od; omega) (by unfold Od; omega)).keep ((Kp.refl (Od l) _).set (p := ⟨l, 2, none⟩) rfl (.int .i64 0)) (by unfold Od; omega) (by unfold Od; omega)).keep ((Kp.refl (Od l) _).set (p := ⟨l, 3, none⟩) rfl (.slice none 0 0)) (by unfold Od; omega) (by unfold Od; omega)
    clear c1
    go_wp2
    go_loop [71] (fun i => i = .int .i64 0) (fun _ => 0)
    case atStart => rfl
    case round =>
      obtain rfl := hrel
      go_wp2
      go_ret
      exact ⟨rfl, hD9, HL, hk9⟩
set_option maxRecDepth 100000 in
set_option maxHeartbeats 8000000 in
theorem walopen_0 {W : World} {d m : Nat} {n a : Int} {g : Value → Option Value} (h : Dk0 W d m n a g) (hdm : d ≠ m) (h0 : -90000 ≤ a) (h1 : a ≤ 90000) :
    Calls Tryz.prog 101 #[.pointer (some ⟨d, 0, none⟩)] W fun e W' => ∃ l, e = .returned (.tuple #[.pointer (some ⟨l, 0, none⟩), .int .i64 0]) ∧ W.heap.size ≤ l ∧ DkS W' d m n (a - 3) ∧ Bx W' l (lgC d 1 0 (.slice none 0 0)) 297 ∧ Kp (Odm d m) W W' := by
  have hlo := h.lo
  have hd := h.d.lt
  have hm := h.m.size
  have H := Lib.hid h
  clear h
  have n4 : ¬ n < 4 := by omega
  go_enter Tryz.func101, Tryz.ntmps101
  go_wp2_with fail
  refine (size_any H.out.d).mono ?_
  rintro e V1 ⟨rfl, rfl⟩
  go_wp2_with fail
  refine (down_any H.out.d).mono ?_
  rintro e V2 ⟨rfl, rfl⟩
  go_wp2_with fail
  refine (current_0 H.out).mono ?_
  rintro e V3 ⟨rfl, hb3⟩
  have H3 := Lib.hid (H.out.below hb3 hd hm)
  have hz3 := hb3.size
  go_wp2_with fail
  refine (following_0 H3.out).mono ?_
  rintro e V4 ⟨rfl, hb4⟩
  have H4 := Lib.hid (H3.out.below hb4 (by omega) (by omega))
  have hb5 : Below V2.heap.size V2 V4 := hb3.trans (hb4.mono hz3)
  have hz4 := hb4.size
  have hbl : Bx (V4.alloc (.cells (lgC d 0 0 (.slice none 0 0)) 297)) V4.heap.size (lgC d 0 0 (.slice none 0 0)) 297 := Bx.new _ _ _
  have hbb : Below V4.heap.size V4 (V4.alloc (.cells (lgC d 0 0 (.slice none 0 0)) 297)) := (Below.refl _ _).alloc (Nat.le_refl _) _
  go_upto_region 10 with fail
  refine wp_world (fun V => Bx V V4.heap.size (lgC d 0 0 (.slice none 0 0)) 297 ∧ Below V4.heap.size V4 V) ⟨hbl, hbb⟩ ?_
  clear hbl hbb
  rintro V5 ⟨hl5, hb6⟩
  have H5 := Lib.hid (H4.out.below hb6 (by omega) (by omega))
  have hb7 : Below V2.heap.size V2 V5 := hb5.trans (hb6.mono (by omega))
  have hD5 := Lib.hid (show DkS V5 d m n a from ⟨H5.out.d, ⟨g, H5.out.m⟩, hdm, H5.out.lo, H5.out.hi⟩)
  go_wp2
  go_loop [8, 9] (fun s i => s = .slice none 0 0 ∧ i = .int .i64 0) (fun _ _ => 0)
  case atStart => exact ⟨rfl, rfl⟩
  case round =>
    obtain ⟨rfl, rfl⟩ := hrel
    go_wp2_with fail
    refine (renew_0 hD5.out hl5 (by omega) (by omega) h0 h1).mono ?_
    rintro e V6 ⟨rfl, hD6, hl6, hK6⟩
    go_wp2
    go_ret2
    refine ⟨_, rfl, by omega, hD6, hl6, ?_⟩
    exact (Kp.of (S := Odm d m) hb7).trans (S' := Odl d m V4.heap.size) hK6 (fun b hb e => by rcases e with e | e | e; exact .inl e; exact .inr e; omega)
end Go.Proofs.YtggomjfllbljeaaGreatDoor
