/- The event of a line. -/
import Derived.Test.YtggomjfllbljeaaGreatDoorScE
import Derived.Test.YtggomjfllbljeaaGreatDoorScI
namespace Go.Proofs.YtggomjfllbljeaaGreatDoor
set_option linter.unusedVariables false
open Go Go.RowKit
attribute [local go_sem] bat_get
/-- A call's result block, its cursor's block, its event's block. -/
structure RF (W : World) (s : ByteArray) (a : Int) (rc ec : Array Value) (V : World) : Prop where
  B : Below W.heap.size W V
  r : Bx V W.heap.size rc 24
  c : Cu V (W.heap.size + 1) s a
  e : Bx V (W.heap.size + 2) ec 24
section
variable {W V V' : World} {s : ByteArray} {a a' : Int} {rc ec : Array Value}
theorem RF.call (H : RF W s a rc ec V) (hC : Cu V' (W.heap.size + 1) s a') (hK : Kp (fun k => k = W.heap.size + 1) V V') : RF W s a' rc ec V' :=
  ⟨hK.below H.B (Nat.le_refl _) (fun b _ e => by omega), hK.bx H.r (by omega), hC, hK.bx H.e (by omega)⟩
theorem RF.putE (H : RF W s a rc ec V) (i : Nat) (u : Value) : RF W s a rc (ec.setIfInBounds i u) (V.setCell ⟨W.heap.size + 2, i, none⟩ u) :=
  ⟨H.B.setCell (by show W.heap.size ≤ W.heap.size + 2; omega) _, H.r.other (by simp) u, H.c.keep (Below.heap_setCell V ⟨W.heap.size + 2, i, none⟩ u _ (by simp)) (by simp), H.e.put i u⟩
theorem RF.rowR (H : RF W s a rc ec V) (cs : Array Value) : RF W s a cs ec (V.setRow W.heap.size cs) :=
  ⟨below_setRow H.B (Nat.le_refl _) _, H.r.row cs, H.c.keep (setRow_other V W.heap.size _ cs (by omega)) (by simp), H.e.rowOther (by omega) cs⟩
theorem RF.drew (H : RF W s a rc ec V) : RF W s a rc ec V.drew := ⟨H.B.drew, H.r, ⟨H.c.t, H.c.a, H.c.f, H.c.lt⟩, H.e⟩
theorem RF.z (H : RF W s a rc ec V) : W.heap.size + 2 < V.heap.size := H.e.lt
end
theorem RF.start (W : World) (s : ByteArray) (rc ec : Array Value) : RF W s 0 rc ec (((W.alloc (.cells rc 24)).alloc (.cells #[.string s, .int .i64 0] 72)).alloc (.cells ec 24)) := by
  have h1 := (Bx.new W rc 24)
  have h2 := (Bx.new (W.alloc (.cells rc 24)) #[.string s, .int .i64 0] 72)
  have h3 := (Bx.new ((W.alloc (.cells rc 24)).alloc (.cells #[.string s, .int .i64 0] 72)) ec 24)
  rw [World.size_alloc] at h2
  rw [World.size_alloc, World.size_alloc] at h3
  refine ⟨(((Below.refl _ _).alloc (Nat.le_refl _) _).alloc (by simp) _).alloc (by simp; omega) _, (h1.alloc _).alloc _, ?_, h3⟩
  have h4 := h2.alloc (.cells ec 24)
  exact ⟨h4.cells 0, h4.cells 1, h4.free 1, h4.lt⟩
/-- What is handed back of a line: an event, or none. -/
def RetRd (W : World) (o : Option Ev) (e : Ending) (W' : World) : Prop :=
  ∃ k ag en n A m c l ok, e = .returned (.tuple #[.agg (evC k ag en n (.slice A m c)), .bool ok]) ∧ (ok = true → o = some ⟨k, ag, en, n, l⟩) ∧ (ok = false → o = none) ∧ l.length = m ∧ Own W' W.heap.size 4 tBool (.slice A m c) l ∧ Below W.heap.size W W'
theorem tail_0 (s : ByteArray) : tailB s 0 = s := by
  apply ByteArray.ext
  simp [tailB]
theorem beg_size {s : ByteArray} {w : List UInt8} (h : begB s w = true) : w.length ≤ s.size := by
  unfold begB at h
  rw [decide_eq_true_eq] at h
  have := congrArg List.length h
  have h9 : s.data.toList.length = s.size := Array.length_toList
  rw [List.length_take, h9] at this
  omega
theorem num_le {s : ByteArray} {a : Nat} {most : Int} (h : a ≤ s.size) : (numF s a most).2.1 ≤ s.size := by
  have := runTo_bd h
  unfold numF
  split <;> dsimp only <;> omega
set_option maxRecDepth 100000 in
set_option maxHeartbeats 8000000 in
theorem read_any (s : ByteArray) (h2 : s.size ≤ 100000) (W : World) : Calls Tryz.prog 11 #[.string s] W (RetRd W (parseF s)) := by
  have HF0 := RF.start W s (evC 0 0 ⟨#[]⟩ 0 (.slice none 0 0)) (evC 0 0 ⟨#[]⟩ 0 (.slice none 0 0))
  have hO : parseF s = if begB s wTick then (wholeF s 5).map (fun n => ⟨2, 0, ⟨#[]⟩, n, []⟩) else if begB s wFuse then (wholeF s 5).map (fun n => ⟨4, 0, ⟨#[]⟩, n, []⟩) else if begB s wCrash then crashF s else if (numF s 0 99).2.2 && (decide ((numF s 0 99).2.1 < s.size) && (decide (bat s (numF s 0 99).2.1 = 32) && noLf s)) then some ⟨1, (numF s 0 99).1, tailB s ((numF s 0 99).2.1 + 1), 0, []⟩ else none := rfl
  have HO := Lib.hid hO
  clear hO
  generalize parseF s = o at HO ⊢
  have HW := fun (p : ByteArray) => Lib.hid (fun (V : World) (hC : Cu V (W.heap.size + 1) s (0 : Nat)) => word_any (p := p) hC (Nat.zero_le _) h2)
  rw [tail_0] at HW
  have HW1 := HW ⟨#[116, 105, 99, 107, 32]⟩
  have HW2 := HW ⟨#[102, 117, 115, 101, 32]⟩
  have HW3 := HW ⟨#[99, 114, 97, 115, 104, 32]⟩
  clear HW
  have l1 : begB s wTick = true → 5 ≤ s.size := fun h => beg_size h
  have l2 : begB s wFuse = true → 5 ≤ s.size := fun h => beg_size h
  have l3 : begB s wCrash = true → 6 ≤ s.size := fun h => beg_size h
  have L1 := Lib.hid l1
  have L2 := Lib.hid l2
  have L3 := Lib.hid l3
  clear l1 l2 l3
  rw [show (⟨#[116, 105, 99, 107, 32]⟩ : ByteArray).data.toList = wTick from rfl] at HW1
  rw [show (⟨#[102, 117, 115, 101, 32]⟩ : ByteArray).data.toList = wFuse from rfl] at HW2
  rw [show (⟨#[99, 114, 97, 115, 104, 32]⟩ : ByteArray).data.toList = wCrash from rfl] at HW3
  generalize begB s wTick = q1 at HO HW1 L1
  generalize begB s wFuse = q2 at HO HW2 L2
  generalize begB s wCrash = q3 at HO HW3 L3
  go_enter Tryz.func11, Tryz.ntmps11
  go_upto_region 4 with fail
  refine wp_world (fun V => RF W s (0 : Nat) (evC 0 0 ⟨#[]⟩ 0 (.slice none 0 0)) (evC 0 0 ⟨#[]⟩ 0 (.slice none 0 0)) V) HF0 ?_
  clear HF0
  rintro V0 H0
  go_wp2_with fail
  refine (HW1.out _ H0.c).mono ?_
  rintro e V1 ⟨rfl, hC, hK⟩
  have H1 := H0.call hC hK
  clear hC hK H0 HW1
  rcases q1 with _ | _
  rotate_left
  · have h5 := L1.out rfl
    have H2 : RF W s (5 : Nat) (evC 0 0 ⟨#[]⟩ 0 (.slice none 0 0)) (evC 0 0 ⟨#[]⟩ 0 (.slice none 0 0)) V1 := by
      have := H1
      rw [if_pos rfl, show (⟨#[116, 105, 99, 107, 32]⟩ : ByteArray).size = 5 from rfl, Nat.zero_add] at this
      exact this
    have hO : o = (wholeF s 5).map (fun n => ⟨2, 0, ⟨#[]⟩, n, []⟩) := by rw [HO.out]; rfl
    clear H1
    have HO1 := Lib.hid hO
    clear hO HO
    have c1 := H2.e.cells
    have f1 := H2.e.free
    go_wp2_with fail
    have H3 := H2.putE 0 (.int .i64 2)
    clear c1 f1
    refine (number_any 999999999 H3.c h5 h2 (by omega) (by omega)).mono ?_
    rintro e V4 ⟨rfl, hC, hK⟩
    have H4 := H3.call hC hK
    clear hC hK H3 H2
    have hp9 := num_le (s := s) (a := 5) (most := 999999999) h5
    unfold wholeF at HO1
    generalize numF s 5 999999999 = F at H4 HO1 hp9
    obtain ⟨n, p, is⟩ := F
    dsimp only at HO1 hp9
    have c1 := H4.e.cells
    have f1 := H4.e.free
    go_upto_region 7 with fail
    have H5 := H4.putE 3 (.int .i64 n)
    clear c1 f1 H4
    refine wp_world (fun V => RF W s p (evC 0 0 ⟨#[]⟩ 0 (.slice none 0 0)) (evC 2 0 ⟨#[]⟩ n (.slice none 0 0)) V) H5 ?_
    clear H5
    rintro V9 H9
    have HE := Lib.hid (fun (V : World) (hC : Cu V (W.heap.size + 1) s p) => end_any hC hp9 h2)
    have HFIN := Lib.hid (fun (V : World) (q : Bool) (hq : q = (is && decide (p = s.size))) (hB : Below W.heap.size W V) => show RetRd W o (.returned (.tuple #[.agg (evC 2 0 ⟨#[]⟩ n (.slice none 0 0)), .bool q])) V from
      ⟨_, _, _, _, _, _, _, [], _, rfl, (fun h => by rw [HO1.out, ← hq, h]; rfl), (fun h => by rw [HO1.out, ← hq, h]; rfl), rfl, ow_nil _ _, hB⟩)
    rcases is with _ | _
    · skip
      have H_0 := H9.drew
      clear H9
      refine wp_region_held_drew (S := fun w => Bx w (W.heap.size + 2) (evC 2 0 ⟨#[]⟩ n (.slice none 0 0)) 24) (by kernel_rfl) H_0.e (fun hS => ?_)
      refine tk (i := 0) (oi := { dst := some 21, op := .load 24 (.tmp 5), type := 24, pos := "script.go:49", after := #[], guard := none }) (v := ?_) ?_ hS ?_
      rotate_left
      · intro w9 hS9; have q1 := hS9.cells; go_simp; try with_reducible rfl
      try simp only [Act.put]
      try simp only [List.setIfInBounds_toArray]
      try simp only [List.set_cons_zero]
      try simp only [List.set_cons_succ]
      try simp only [List.set_cons_zero]
      refine tk (i := 1) (oi := { dst := some 22, op := .move (.tmp 6), type := 4, pos := "script.go:49", after := #[], guard := none }) (v := ?_) ?_ hS ?_
      rotate_left
      · intro w9 hS9; have q1 := hS9.cells; go_simp; try with_reducible rfl
      try simp only [Act.put]
      try simp only [List.setIfInBounds_toArray]
      try simp only [List.set_cons_zero]
      try simp only [List.set_cons_succ]
      try simp only [List.set_cons_zero]
      refine tk (i := 2) (oi := { dst := some 23, op := .move (.tmp 22), type := 4, pos := "script.go:49", after := #[⟨1, .data⟩], guard := none }) (v := ?_) ?_ hS ?_
      rotate_left
      · intro w9 hS9; have q1 := hS9.cells; go_simp; try with_reducible rfl
      try simp only [Act.put]
      try simp only [List.setIfInBounds_toArray]
      try simp only [List.set_cons_zero]
      try simp only [List.set_cons_succ]
      try simp only [List.set_cons_zero]
      refine wpAnyH_take (i := 3) (oi := { dst := some 24, op := Op.move (Operand.tmp 4), type := 70, pos := "script.go:49", after := #[{ on := 2, ground := Ground.guard }], guard := some (2, true) }) (v := undef) rfl (by kernel_rfl) (by kernel_rfl) (by kernel_rfl) (fun _ _ _ h => h) (Or.inr ⟨by rfl, rfl⟩) hS ?_
      try simp only [Act.put]
      try simp only [List.setIfInBounds_toArray]
      try simp only [List.set_cons_zero]
      try simp only [List.set_cons_succ]
      try simp only [List.set_cons_zero]
      refine wpAnyH_take (i := 4) (oi := { dst := some 25, op := Op.call { callee := Callee.value (Operand.func 27), args := #[Operand.tmp 24], argTypes := #[70] }, type := 4, pos := "script.go:49", after := #[{ on := 3, ground := Ground.data }, { on := 2, ground := Ground.chain }, { on := 2, ground := Ground.guard }], guard := some (2, true) }) (v := undef) rfl (by kernel_rfl) (by kernel_rfl) (by kernel_rfl) (fun _ _ _ h => h) (Or.inr ⟨by rfl, rfl⟩) hS ?_
      try simp only [Act.put]
      try simp only [List.setIfInBounds_toArray]
      try simp only [List.set_cons_zero]
      try simp only [List.set_cons_succ]
      try simp only [List.set_cons_zero]
      refine tk (i := 5) (oi := { dst := some 26, op := .pick (.tmp 23) (.tmp 25) (.const (.bool false)), type := 4, pos := "script.go:49", after := #[⟨2, .data⟩, ⟨4, .data⟩, ⟨6, .gcOnly .lateStores⟩], guard := none }) (v := ?_) ?_ hS ?_
      rotate_left
      · intro w9 hS9; have q1 := hS9.cells; go_simp; try with_reducible rfl
      try simp only [Act.put]
      try simp only [List.setIfInBounds_toArray]
      try simp only [List.set_cons_zero]
      try simp only [List.set_cons_succ]
      try simp only [List.set_cons_zero]
      refine wpAnyH_ready (rs := [6]) (by kernel_rfl) (by simp) ?_
      refine AllReadyH.cons (o := { dst := none, op := .store 24 (.tmp 2) (.tmp 21), type := 0, pos := "script.go:49", after := #[⟨0, .data⟩, ⟨4, .chain⟩, ⟨0, .phase⟩, ⟨1, .textOnly .lateStores⟩, ⟨2, .textOnly .lateStores⟩, ⟨3, .textOnly .lateStores⟩, ⟨4, .textOnly .lateStoresUnsure⟩, ⟨5, .textOnly .lateStores⟩], guard := none }) rfl (fun K9 hK9 => ?_) AllReadyH.nil
      have H_1 := H_0.rowR (evC 2 0 ⟨#[]⟩ n (.slice none 0 0))
      refine step_store_any 24 rfl (.tmp 2) (.tmp 21) (by rfl) (evC 2 0 ⟨#[]⟩ n (.slice none 0 0)) (by rfl) (by rfl) H_0.r info_ev rfl (by simp [Value.oneCell']) ?_
      refine hK9.out _ _ H_1.e (fun hS => ?_)
      clear hK9 K9
      try simp only [Act.put]
      try simp only [List.setIfInBounds_toArray]
      try simp only [List.set_cons_zero]
      try simp only [List.set_cons_succ]
      try simp only [List.set_cons_zero]
      refine tk (i := 7) (oi := { dst := some 3, op := .assign (.tmp 26), type := 4, pos := "script.go:49", after := #[⟨5, .data⟩, ⟨6, .chain⟩, ⟨0, .phase⟩, ⟨1, .phase⟩, ⟨2, .phase⟩, ⟨3, .phase⟩, ⟨4, .phase⟩, ⟨5, .phase⟩, ⟨6, .phase⟩], guard := none }) (v := ?_) ?_ hS ?_
      rotate_left
      · intro w9 hS9; have q1 := hS9.cells; go_simp; try with_reducible rfl
      try simp only [Act.put]
      try simp only [List.setIfInBounds_toArray]
      try simp only [List.set_cons_zero]
      try simp only [List.set_cons_succ]
      try simp only [List.set_cons_zero]
      refine wpAnyH_done (by kernel_rfl) ?_ _
      go_wp2
      refine ret_ev Tryz.results11 H_1.r rfl rfl rfl rfl ?_
      exact HFIN.out _ _ rfl H_1.B
    · skip
      have H_0 := H9.drew
      clear H9
      refine wp_region_held_drew (S := fun w => Bx w (W.heap.size + 2) (evC 2 0 ⟨#[]⟩ n (.slice none 0 0)) 24) (by kernel_rfl) H_0.e (fun hS => ?_)
      refine tk (i := 0) (oi := { dst := some 21, op := .load 24 (.tmp 5), type := 24, pos := "script.go:49", after := #[], guard := none }) (v := ?_) ?_ hS ?_
      rotate_left
      · intro w9 hS9; have q1 := hS9.cells; go_simp; try with_reducible rfl
      try simp only [Act.put]
      try simp only [List.setIfInBounds_toArray]
      try simp only [List.set_cons_zero]
      try simp only [List.set_cons_succ]
      try simp only [List.set_cons_zero]
      refine tk (i := 1) (oi := { dst := some 22, op := .move (.tmp 6), type := 4, pos := "script.go:49", after := #[], guard := none }) (v := ?_) ?_ hS ?_
      rotate_left
      · intro w9 hS9; have q1 := hS9.cells; go_simp; try with_reducible rfl
      try simp only [Act.put]
      try simp only [List.setIfInBounds_toArray]
      try simp only [List.set_cons_zero]
      try simp only [List.set_cons_succ]
      try simp only [List.set_cons_zero]
      refine tk (i := 2) (oi := { dst := some 23, op := .move (.tmp 22), type := 4, pos := "script.go:49", after := #[⟨1, .data⟩], guard := none }) (v := ?_) ?_ hS ?_
      rotate_left
      · intro w9 hS9; have q1 := hS9.cells; go_simp; try with_reducible rfl
      try simp only [Act.put]
      try simp only [List.setIfInBounds_toArray]
      try simp only [List.set_cons_zero]
      try simp only [List.set_cons_succ]
      try simp only [List.set_cons_zero]
      refine tk (i := 3) (oi := { dst := some 24, op := .move (.tmp 4), type := 70, pos := "script.go:49", after := #[⟨2, .guard⟩], guard := some (2, true) }) (v := ?_) ?_ hS ?_
      rotate_left
      · intro w9 hS9; have q1 := hS9.cells; go_simp; try with_reducible rfl
      try simp only [Act.put]
      try simp only [List.setIfInBounds_toArray]
      try simp only [List.set_cons_zero]
      try simp only [List.set_cons_succ]
      try simp only [List.set_cons_zero]
      refine wpAnyH_ready (rs := [4]) (by kernel_rfl) (by simp) ?_
      refine AllReadyH.cons (o := { dst := some 25, op := .call { callee := .value (.func 27), args := #[.tmp 24], argTypes := #[70] }, type := 4, pos := "script.go:49", after := #[⟨3, .data⟩, ⟨2, .chain⟩, ⟨2, .guard⟩], guard := some (2, true) }) rfl (fun K9 hK9 => ?_) AllReadyH.nil
      go_simp
      refine (HE.out _ H_0.c).mono ?_
      rintro e V_1 ⟨rfl, hC_1, hK_1⟩
      have H_1 := H_0.call hC_1 hK_1
      refine hK9.out _ _ H_1.e (fun hS => ?_)
      clear hK9 K9
      try simp only [Act.put]
      try simp only [List.setIfInBounds_toArray]
      try simp only [List.set_cons_zero]
      try simp only [List.set_cons_succ]
      try simp only [List.set_cons_zero]
      refine tk (i := 5) (oi := { dst := some 26, op := .pick (.tmp 23) (.tmp 25) (.const (.bool false)), type := 4, pos := "script.go:49", after := #[⟨2, .data⟩, ⟨4, .data⟩, ⟨6, .gcOnly .lateStores⟩], guard := none }) (v := ?_) ?_ hS ?_
      rotate_left
      · intro w9 hS9; have q1 := hS9.cells; go_simp; try with_reducible rfl
      try simp only [Act.put]
      try simp only [List.setIfInBounds_toArray]
      try simp only [List.set_cons_zero]
      try simp only [List.set_cons_succ]
      try simp only [List.set_cons_zero]
      refine wpAnyH_ready (rs := [6]) (by kernel_rfl) (by simp) ?_
      refine AllReadyH.cons (o := { dst := none, op := .store 24 (.tmp 2) (.tmp 21), type := 0, pos := "script.go:49", after := #[⟨0, .data⟩, ⟨4, .chain⟩, ⟨0, .phase⟩, ⟨1, .textOnly .lateStores⟩, ⟨2, .textOnly .lateStores⟩, ⟨3, .textOnly .lateStores⟩, ⟨4, .textOnly .lateStoresUnsure⟩, ⟨5, .textOnly .lateStores⟩], guard := none }) rfl (fun K9 hK9 => ?_) AllReadyH.nil
      have H_2 := H_1.rowR (evC 2 0 ⟨#[]⟩ n (.slice none 0 0))
      refine step_store_any 24 rfl (.tmp 2) (.tmp 21) (by rfl) (evC 2 0 ⟨#[]⟩ n (.slice none 0 0)) (by rfl) (by rfl) H_1.r info_ev rfl (by simp [Value.oneCell']) ?_
      refine hK9.out _ _ H_2.e (fun hS => ?_)
      clear hK9 K9
      try simp only [Act.put]
      try simp only [List.setIfInBounds_toArray]
      try simp only [List.set_cons_zero]
      try simp only [List.set_cons_succ]
      try simp only [List.set_cons_zero]
      refine tk (i := 7) (oi := { dst := some 3, op := .assign (.tmp 26), type := 4, pos := "script.go:49", after := #[⟨5, .data⟩, ⟨6, .chain⟩, ⟨0, .phase⟩, ⟨1, .phase⟩, ⟨2, .phase⟩, ⟨3, .phase⟩, ⟨4, .phase⟩, ⟨5, .phase⟩, ⟨6, .phase⟩], guard := none }) (v := ?_) ?_ hS ?_
      rotate_left
      · intro w9 hS9; have q1 := hS9.cells; go_simp; try with_reducible rfl
      try simp only [Act.put]
      try simp only [List.setIfInBounds_toArray]
      try simp only [List.set_cons_zero]
      try simp only [List.set_cons_succ]
      try simp only [List.set_cons_zero]
      refine wpAnyH_done (by kernel_rfl) ?_ _
      go_wp2
      refine ret_ev Tryz.results11 H_2.r rfl rfl rfl rfl ?_
      exact HFIN.out _ _ (by first | rfl | (simp; done)) H_2.B
  have H1' : RF W s (0 : Nat) (evC 0 0 ⟨#[]⟩ 0 (.slice none 0 0)) (evC 0 0 ⟨#[]⟩ 0 (.slice none 0 0)) V1 := H1
  clear H1
  go_wp2_with fail
  refine (HW2.out _ H1'.c).mono ?_
  rintro e V2 ⟨rfl, hC, hK⟩
  have H1 := H1'.call hC hK
  clear hC hK H1' HW2
  rcases q2 with _ | _
  rotate_left
  · have h5 := L2.out rfl
    have H2 : RF W s (5 : Nat) (evC 0 0 ⟨#[]⟩ 0 (.slice none 0 0)) (evC 0 0 ⟨#[]⟩ 0 (.slice none 0 0)) V2 := by
      have := H1
      rw [if_pos rfl, show (⟨#[102, 117, 115, 101, 32]⟩ : ByteArray).size = 5 from rfl, Nat.zero_add] at this
      exact this
    have hO : o = (wholeF s 5).map (fun n => ⟨4, 0, ⟨#[]⟩, n, []⟩) := by rw [HO.out]; rfl
    clear H1
    have HO1 := Lib.hid hO
    clear hO HO
    have c1 := H2.e.cells
    have f1 := H2.e.free
    go_wp2_with fail
    have H3 := H2.putE 0 (.int .i64 4)
    clear c1 f1
    refine (number_any 999999999 H3.c h5 h2 (by omega) (by omega)).mono ?_
    rintro e V4 ⟨rfl, hC, hK⟩
    have H4 := H3.call hC hK
    clear hC hK H3 H2
    have hp9 := num_le (s := s) (a := 5) (most := 999999999) h5
    unfold wholeF at HO1
    generalize numF s 5 999999999 = F at H4 HO1 hp9
    obtain ⟨n, p, is⟩ := F
    dsimp only at HO1 hp9
    have c1 := H4.e.cells
    have f1 := H4.e.free
    go_upto_region 11 with fail
    have H5 := H4.putE 3 (.int .i64 n)
    clear c1 f1 H4
    refine wp_world (fun V => RF W s p (evC 0 0 ⟨#[]⟩ 0 (.slice none 0 0)) (evC 4 0 ⟨#[]⟩ n (.slice none 0 0)) V) H5 ?_
    clear H5
    rintro V9 H9
    have HE := Lib.hid (fun (V : World) (hC : Cu V (W.heap.size + 1) s p) => end_any hC hp9 h2)
    have HFIN := Lib.hid (fun (V : World) (q : Bool) (hq : q = (is && decide (p = s.size))) (hB : Below W.heap.size W V) => show RetRd W o (.returned (.tuple #[.agg (evC 4 0 ⟨#[]⟩ n (.slice none 0 0)), .bool q])) V from
      ⟨_, _, _, _, _, _, _, [], _, rfl, (fun h => by rw [HO1.out, ← hq, h]; rfl), (fun h => by rw [HO1.out, ← hq, h]; rfl), rfl, ow_nil _ _, hB⟩)
    rcases is with _ | _
    · skip
      have H_0 := H9.drew
      clear H9
      refine wp_region_held_drew (S := fun w => Bx w (W.heap.size + 2) (evC 4 0 ⟨#[]⟩ n (.slice none 0 0)) 24) (by kernel_rfl) H_0.e (fun hS => ?_)
      refine tk (i := 0) (oi := { dst := some 37, op := .load 24 (.tmp 5), type := 24, pos := "script.go:53", after := #[], guard := none }) (v := ?_) ?_ hS ?_
      rotate_left
      · intro w9 hS9; have q1 := hS9.cells; go_simp; try with_reducible rfl
      try simp only [Act.put]
      try simp only [List.setIfInBounds_toArray]
      try simp only [List.set_cons_zero]
      try simp only [List.set_cons_succ]
      try simp only [List.set_cons_zero]
      refine tk (i := 1) (oi := { dst := some 38, op := .move (.tmp 6), type := 4, pos := "script.go:53", after := #[], guard := none }) (v := ?_) ?_ hS ?_
      rotate_left
      · intro w9 hS9; have q1 := hS9.cells; go_simp; try with_reducible rfl
      try simp only [Act.put]
      try simp only [List.setIfInBounds_toArray]
      try simp only [List.set_cons_zero]
      try simp only [List.set_cons_succ]
      try simp only [List.set_cons_zero]
      refine tk (i := 2) (oi := { dst := some 39, op := .move (.tmp 38), type := 4, pos := "script.go:53", after := #[⟨1, .data⟩], guard := none }) (v := ?_) ?_ hS ?_
      rotate_left
      · intro w9 hS9; have q1 := hS9.cells; go_simp; try with_reducible rfl
      try simp only [Act.put]
      try simp only [List.setIfInBounds_toArray]
      try simp only [List.set_cons_zero]
      try simp only [List.set_cons_succ]
      try simp only [List.set_cons_zero]
      refine wpAnyH_take (i := 3) (oi := { dst := some 40, op := Op.move (Operand.tmp 4), type := 70, pos := "script.go:53", after := #[{ on := 2, ground := Ground.guard }], guard := some (2, true) }) (v := undef) rfl (by kernel_rfl) (by kernel_rfl) (by kernel_rfl) (fun _ _ _ h => h) (Or.inr ⟨by rfl, rfl⟩) hS ?_
      try simp only [Act.put]
      try simp only [List.setIfInBounds_toArray]
      try simp only [List.set_cons_zero]
      try simp only [List.set_cons_succ]
      try simp only [List.set_cons_zero]
      refine wpAnyH_take (i := 4) (oi := { dst := some 41, op := Op.call { callee := Callee.value (Operand.func 27), args := #[Operand.tmp 40], argTypes := #[70] }, type := 4, pos := "script.go:53", after := #[{ on := 3, ground := Ground.data }, { on := 2, ground := Ground.chain }, { on := 2, ground := Ground.guard }], guard := some (2, true) }) (v := undef) rfl (by kernel_rfl) (by kernel_rfl) (by kernel_rfl) (fun _ _ _ h => h) (Or.inr ⟨by rfl, rfl⟩) hS ?_
      try simp only [Act.put]
      try simp only [List.setIfInBounds_toArray]
      try simp only [List.set_cons_zero]
      try simp only [List.set_cons_succ]
      try simp only [List.set_cons_zero]
      refine tk (i := 5) (oi := { dst := some 42, op := .pick (.tmp 39) (.tmp 41) (.const (.bool false)), type := 4, pos := "script.go:53", after := #[⟨2, .data⟩, ⟨4, .data⟩, ⟨6, .gcOnly .lateStores⟩], guard := none }) (v := ?_) ?_ hS ?_
      rotate_left
      · intro w9 hS9; have q1 := hS9.cells; go_simp; try with_reducible rfl
      try simp only [Act.put]
      try simp only [List.setIfInBounds_toArray]
      try simp only [List.set_cons_zero]
      try simp only [List.set_cons_succ]
      try simp only [List.set_cons_zero]
      refine wpAnyH_ready (rs := [6]) (by kernel_rfl) (by simp) ?_
      refine AllReadyH.cons (o := { dst := none, op := .store 24 (.tmp 2) (.tmp 37), type := 0, pos := "script.go:53", after := #[⟨0, .data⟩, ⟨4, .chain⟩, ⟨0, .phase⟩, ⟨1, .textOnly .lateStores⟩, ⟨2, .textOnly .lateStores⟩, ⟨3, .textOnly .lateStores⟩, ⟨4, .textOnly .lateStoresUnsure⟩, ⟨5, .textOnly .lateStores⟩], guard := none }) rfl (fun K9 hK9 => ?_) AllReadyH.nil
      have H_1 := H_0.rowR (evC 4 0 ⟨#[]⟩ n (.slice none 0 0))
      refine step_store_any 24 rfl (.tmp 2) (.tmp 37) (by rfl) (evC 4 0 ⟨#[]⟩ n (.slice none 0 0)) (by rfl) (by rfl) H_0.r info_ev rfl (by simp [Value.oneCell']) ?_
      refine hK9.out _ _ H_1.e (fun hS => ?_)
      clear hK9 K9
      try simp only [Act.put]
      try simp only [List.setIfInBounds_toArray]
      try simp only [List.set_cons_zero]
      try simp only [List.set_cons_succ]
      try simp only [List.set_cons_zero]
      refine tk (i := 7) (oi := { dst := some 3, op := .assign (.tmp 42), type := 4, pos := "script.go:53", after := #[⟨5, .data⟩, ⟨6, .chain⟩, ⟨0, .phase⟩, ⟨1, .phase⟩, ⟨2, .phase⟩, ⟨3, .phase⟩, ⟨4, .phase⟩, ⟨5, .phase⟩, ⟨6, .phase⟩], guard := none }) (v := ?_) ?_ hS ?_
      rotate_left
      · intro w9 hS9; have q1 := hS9.cells; go_simp; try with_reducible rfl
      try simp only [Act.put]
      try simp only [List.setIfInBounds_toArray]
      try simp only [List.set_cons_zero]
      try simp only [List.set_cons_succ]
      try simp only [List.set_cons_zero]
      refine wpAnyH_done (by kernel_rfl) ?_ _
      go_wp2
      refine ret_ev Tryz.results11 H_1.r rfl rfl rfl rfl ?_
      exact HFIN.out _ _ rfl H_1.B
    · skip
      have H_0 := H9.drew
      clear H9
      refine wp_region_held_drew (S := fun w => Bx w (W.heap.size + 2) (evC 4 0 ⟨#[]⟩ n (.slice none 0 0)) 24) (by kernel_rfl) H_0.e (fun hS => ?_)
      refine tk (i := 0) (oi := { dst := some 37, op := .load 24 (.tmp 5), type := 24, pos := "script.go:53", after := #[], guard := none }) (v := ?_) ?_ hS ?_
      rotate_left
      · intro w9 hS9; have q1 := hS9.cells; go_simp; try with_reducible rfl
      try simp only [Act.put]
      try simp only [List.setIfInBounds_toArray]
      try simp only [List.set_cons_zero]
      try simp only [List.set_cons_succ]
      try simp only [List.set_cons_zero]
      refine tk (i := 1) (oi := { dst := some 38, op := .move (.tmp 6), type := 4, pos := "script.go:53", after := #[], guard := none }) (v := ?_) ?_ hS ?_
      rotate_left
      · intro w9 hS9; have q1 := hS9.cells; go_simp; try with_reducible rfl
      try simp only [Act.put]
      try simp only [List.setIfInBounds_toArray]
      try simp only [List.set_cons_zero]
      try simp only [List.set_cons_succ]
      try simp only [List.set_cons_zero]
      refine tk (i := 2) (oi := { dst := some 39, op := .move (.tmp 38), type := 4, pos := "script.go:53", after := #[⟨1, .data⟩], guard := none }) (v := ?_) ?_ hS ?_
      rotate_left
      · intro w9 hS9; have q1 := hS9.cells; go_simp; try with_reducible rfl
      try simp only [Act.put]
      try simp only [List.setIfInBounds_toArray]
      try simp only [List.set_cons_zero]
      try simp only [List.set_cons_succ]
      try simp only [List.set_cons_zero]
      refine tk (i := 3) (oi := { dst := some 40, op := .move (.tmp 4), type := 70, pos := "script.go:53", after := #[⟨2, .guard⟩], guard := some (2, true) }) (v := ?_) ?_ hS ?_
      rotate_left
      · intro w9 hS9; have q1 := hS9.cells; go_simp; try with_reducible rfl
      try simp only [Act.put]
      try simp only [List.setIfInBounds_toArray]
      try simp only [List.set_cons_zero]
      try simp only [List.set_cons_succ]
      try simp only [List.set_cons_zero]
      refine wpAnyH_ready (rs := [4]) (by kernel_rfl) (by simp) ?_
      refine AllReadyH.cons (o := { dst := some 41, op := .call { callee := .value (.func 27), args := #[.tmp 40], argTypes := #[70] }, type := 4, pos := "script.go:53", after := #[⟨3, .data⟩, ⟨2, .chain⟩, ⟨2, .guard⟩], guard := some (2, true) }) rfl (fun K9 hK9 => ?_) AllReadyH.nil
      go_simp
      refine (HE.out _ H_0.c).mono ?_
      rintro e V_1 ⟨rfl, hC_1, hK_1⟩
      have H_1 := H_0.call hC_1 hK_1
      refine hK9.out _ _ H_1.e (fun hS => ?_)
      clear hK9 K9
      try simp only [Act.put]
      try simp only [List.setIfInBounds_toArray]
      try simp only [List.set_cons_zero]
      try simp only [List.set_cons_succ]
      try simp only [List.set_cons_zero]
      refine tk (i := 5) (oi := { dst := some 42, op := .pick (.tmp 39) (.tmp 41) (.const (.bool false)), type := 4, pos := "script.go:53", after := #[⟨2, .data⟩, ⟨4, .data⟩, ⟨6, .gcOnly .lateStores⟩], guard := none }) (v := ?_) ?_ hS ?_
      rotate_left
      · intro w9 hS9; have q1 := hS9.cells; go_simp; try with_reducible rfl
      try simp only [Act.put]
      try simp only [List.setIfInBounds_toArray]
      try simp only [List.set_cons_zero]
      try simp only [List.set_cons_succ]
      try simp only [List.set_cons_zero]
      refine wpAnyH_ready (rs := [6]) (by kernel_rfl) (by simp) ?_
      refine AllReadyH.cons (o := { dst := none, op := .store 24 (.tmp 2) (.tmp 37), type := 0, pos := "script.go:53", after := #[⟨0, .data⟩, ⟨4, .chain⟩, ⟨0, .phase⟩, ⟨1, .textOnly .lateStores⟩, ⟨2, .textOnly .lateStores⟩, ⟨3, .textOnly .lateStores⟩, ⟨4, .textOnly .lateStoresUnsure⟩, ⟨5, .textOnly .lateStores⟩], guard := none }) rfl (fun K9 hK9 => ?_) AllReadyH.nil
      have H_2 := H_1.rowR (evC 4 0 ⟨#[]⟩ n (.slice none 0 0))
      refine step_store_any 24 rfl (.tmp 2) (.tmp 37) (by rfl) (evC 4 0 ⟨#[]⟩ n (.slice none 0 0)) (by rfl) (by rfl) H_1.r info_ev rfl (by simp [Value.oneCell']) ?_
      refine hK9.out _ _ H_2.e (fun hS => ?_)
      clear hK9 K9
      try simp only [Act.put]
      try simp only [List.setIfInBounds_toArray]
      try simp only [List.set_cons_zero]
      try simp only [List.set_cons_succ]
      try simp only [List.set_cons_zero]
      refine tk (i := 7) (oi := { dst := some 3, op := .assign (.tmp 42), type := 4, pos := "script.go:53", after := #[⟨5, .data⟩, ⟨6, .chain⟩, ⟨0, .phase⟩, ⟨1, .phase⟩, ⟨2, .phase⟩, ⟨3, .phase⟩, ⟨4, .phase⟩, ⟨5, .phase⟩, ⟨6, .phase⟩], guard := none }) (v := ?_) ?_ hS ?_
      rotate_left
      · intro w9 hS9; have q1 := hS9.cells; go_simp; try with_reducible rfl
      try simp only [Act.put]
      try simp only [List.setIfInBounds_toArray]
      try simp only [List.set_cons_zero]
      try simp only [List.set_cons_succ]
      try simp only [List.set_cons_zero]
      refine wpAnyH_done (by kernel_rfl) ?_ _
      go_wp2
      refine ret_ev Tryz.results11 H_2.r rfl rfl rfl rfl ?_
      exact HFIN.out _ _ (by first | rfl | (simp; done)) H_2.B
  have H1' : RF W s (0 : Nat) (evC 0 0 ⟨#[]⟩ 0 (.slice none 0 0)) (evC 0 0 ⟨#[]⟩ 0 (.slice none 0 0)) V2 := H1
  clear H1
  go_wp2_with fail
  refine (HW3.out _ H1'.c).mono ?_
  rintro e V3 ⟨rfl, hC, hK⟩
  have H1 := H1'.call hC hK
  clear hC hK H1' HW3
  rcases q3 with _ | _
  rotate_left
  · have h6 := L3.out rfl
    have H2 : RF W s (6 : Nat) (evC 0 0 ⟨#[]⟩ 0 (.slice none 0 0)) (evC 0 0 ⟨#[]⟩ 0 (.slice none 0 0)) V3 := by
      have := H1
      rw [if_pos rfl, show (⟨#[99, 114, 97, 115, 104, 32]⟩ : ByteArray).size = 6 from rfl, Nat.zero_add] at this
      exact this
    have hO : o = crashF s := by rw [HO.out]; rfl
    have HOO := Lib.hid hO
    clear H1 hO HO
    go_wp2_with fail
    refine (crash_any H2.c h6 h2).mono ?_
    rintro e V4 ⟨k, ag, en, n, A, m, c, l, ok, rfl, o1, o2, hl, hw, hK⟩
    have hr := hK.bx H2.r (by omega)
    have hB : Below W.heap.size W V4 := hK.below H2.B (Nat.le_refl _) (fun b _ e => by omega)
    have c2 := hr.cells
    have f2 := hr.free
    have hz := H2.z
    have O1 := Lib.hid o1
    have O2 := Lib.hid o2
    have HL := Lib.hid hl
    clear o1 o2 hl
    have H9 := (((((hr.put 0 (.int .i64 k)).put 1 (.int .i64 ag)).put 2 (.string en)).put 3 (.int .i64 n)).put 4 (.slice A m c))
    have hw2 := (hw.more (B' := W.heap.size + 1) (by omega)).put5 (g := W.heap.size) (by omega) (.int .i64 k) (.int .i64 ag) (.string en) (.int .i64 n) (.slice A m c)
    go_wp2
    clear c2 f2
    refine ret_ev Tryz.results11 H9 rfl rfl rfl rfl ?_
    exact ⟨_, _, _, _, _, _, _, l, _, rfl, (fun h => by rw [HOO.out]; exact O1.out h), (fun h => by rw [HOO.out]; exact O2.out h), HL.out, hw2.more (by omega), ((((hB.setCell (Nat.le_refl _) _).setCell (Nat.le_refl _) _).setCell (Nat.le_refl _) _).setCell (Nat.le_refl _) _).setCell (Nat.le_refl _) _⟩
  have H2 : RF W s (0 : Nat) (evC 0 0 ⟨#[]⟩ 0 (.slice none 0 0)) (evC 0 0 ⟨#[]⟩ 0 (.slice none 0 0)) V3 := H1
  have hO : o = if (numF s 0 99).2.2 && (decide ((numF s 0 99).2.1 < s.size) && (decide (bat s (numF s 0 99).2.1 = 32) && noLf s)) then some ⟨1, (numF s 0 99).1, tailB s ((numF s 0 99).2.1 + 1), 0, []⟩ else none := by rw [HO.out]; rfl
  have HO1 := Lib.hid hO
  clear H1 hO HO L1 L2 L3
  have c1 := H2.e.cells
  have f1 := H2.e.free
  go_wp2_with fail
  have H3 := H2.putE 0 (.int .i64 1)
  clear c1 f1
  refine (number_any 99 H3.c (Nat.zero_le _) h2 (by omega) (by omega)).mono ?_
  rintro e V4 ⟨rfl, hC, hK⟩
  have H4 := H3.call hC hK
  clear hC hK H3 H2
  have hp9 := num_le (s := s) (a := 0) (most := 99) (Nat.zero_le _)
  generalize numF s 0 99 = F at H4 HO1 hp9
  obtain ⟨n, p, is⟩ := F
  dsimp only at HO1 hp9
  have c1 := H4.e.cells
  have f1 := H4.e.free
  go_upto_region 16 with fail
  have H5 := H4.putE 1 (.int .i64 n)
  clear c1 f1 H4
  have hw0 := word_byte hp9 32
  have HWB := Lib.hid (fun (V : World) (hC : Cu V (W.heap.size + 1) s p) => word_any (p := ⟨#[32]⟩) hC hp9 h2)
  generalize hbq : begB (tailB s p) (⟨#[32]⟩ : ByteArray).data.toList = bq at HWB
  have HQ : Hid (bq = decide (p < s.size ∧ bat s p = 32)) := hbq.symm.trans hw0
  clear hw0 hbq
  -- the flag, and the cursor behind it
  go_cut [6] (fun v V => ∃ (ok : Bool) (a : Nat), v = .bool ok ∧ a ≤ s.size ∧ Hid (ok = (is && bq)) ∧ Hid (ok = true → a = p + 1) ∧ RF W s a (evC 0 0 ⟨#[]⟩ 0 (.slice none 0 0)) (evC 1 n ⟨#[]⟩ 0 (.slice none 0 0)) V)
  case first =>
    rcases is with _ | _
    · go_wp2
      go_meet
      exact ⟨false, p, rfl, hp9, rfl, (fun h => by cases h), H5⟩
    · go_wp2_with fail
      refine (HWB.out _ H5.c).mono ?_
      rintro e V5 ⟨rfl, hC, hK⟩
      have H6 := H5.call hC hK
      clear hC hK
      rcases bq with _ | _
      · go_wp2
        go_meet
        exact ⟨false, p, rfl, hp9, rfl, (fun h => by cases h), H6⟩
      · have hlt : p < s.size := by have := HQ.out; rw [eq_comm, decide_eq_true_eq] at this; exact this.1
        go_wp2
        go_meet
        exact ⟨true, p + 1, rfl, by omega, rfl, (fun _ => rfl), H6⟩
  case rest =>
    obtain ⟨ok, a, rfl, ha, HOK, HA, H6⟩ := hcut
    clear HWB H5
    go_wp2_with fail
    refine (rest_any H6.c ha h2).mono ?_
    rintro e V5 ⟨rfl, hC, hK⟩
    have H7 := H6.call hC hK
    clear hC hK H6
    have HTL : Hid (ok = true → tailB s a = tailB s (p + 1)) := fun h => by rw [HA.out h]
    generalize tailB s a = t at HTL
    have c1 := H7.e.cells
    have f1 := H7.e.free
    go_upto_region 18 with fail
    have H8 := H7.putE 2 (.string t)
    clear c1 f1 H7
    refine wp_world (fun V => RF W s s.size (evC 0 0 ⟨#[]⟩ 0 (.slice none 0 0)) (evC 1 n t 0 (.slice none 0 0)) V) H8 ?_
    clear H8
    rintro V9 H9
    have HIX := Lib.hid (fun (V : World) => index_any s 10 V)
    have hix := atI_neg s
    generalize atI s 10 = ix at HIX hix
    have HIN := Lib.hid hix
    clear hix
    have HFIN := Lib.hid (fun (V : World) (q : Bool) (hq : q = (ok && decide (ix < 0))) (hB : Below W.heap.size W V) => show RetRd W o (.returned (.tuple #[.agg (evC 1 n t 0 (.slice none 0 0)), .bool q])) V from
      have key : q = (is && (decide (p < s.size) && (decide (bat s p = 32) && noLf s))) := by
        rw [hq, HIN.out, HOK.out, HQ.out, Bool.decide_and, Bool.and_assoc, Bool.and_assoc]
      ⟨_, _, _, _, _, _, _, [], _, rfl, (fun h => by
        have hk : ok = true := by
          rw [h] at hq
          cases ok
          · cases hq
          · rfl
        rw [HO1.out, ← key, h, if_pos rfl, HTL.out hk]), (fun h => by
        rw [HO1.out, ← key, h]; rfl), rfl, ow_nil _ _, hB⟩)
    rcases ok with _ | _
    · skip
      have H_0 := H9.drew
      clear H9
      refine wp_region_held_drew (S := fun w => Bx w (W.heap.size + 2) (evC 1 n t 0 (.slice none 0 0)) 24) (by kernel_rfl) H_0.e (fun hS => ?_)
      refine tk (i := 0) (oi := { dst := some 65, op := .load 24 (.tmp 5), type := 24, pos := "script.go:61", after := #[], guard := none }) (v := ?_) ?_ hS ?_
      rotate_left
      · intro w9 hS9; have q1 := hS9.cells; go_simp; try with_reducible rfl
      try simp only [Act.put]
      try simp only [List.setIfInBounds_toArray]
      try simp only [List.set_cons_zero]
      try simp only [List.set_cons_succ]
      try simp only [List.set_cons_zero]
      refine tk (i := 1) (oi := { dst := some 66, op := .move (.tmp 6), type := 4, pos := "script.go:61", after := #[], guard := none }) (v := ?_) ?_ hS ?_
      rotate_left
      · intro w9 hS9; have q1 := hS9.cells; go_simp; try with_reducible rfl
      try simp only [Act.put]
      try simp only [List.setIfInBounds_toArray]
      try simp only [List.set_cons_zero]
      try simp only [List.set_cons_succ]
      try simp only [List.set_cons_zero]
      refine tk (i := 2) (oi := { dst := some 67, op := .move (.tmp 66), type := 4, pos := "script.go:61", after := #[⟨1, .data⟩], guard := none }) (v := ?_) ?_ hS ?_
      rotate_left
      · intro w9 hS9; have q1 := hS9.cells; go_simp; try with_reducible rfl
      try simp only [Act.put]
      try simp only [List.setIfInBounds_toArray]
      try simp only [List.set_cons_zero]
      try simp only [List.set_cons_succ]
      try simp only [List.set_cons_zero]
      refine wpAnyH_take (i := 3) (oi := { dst := some 68, op := Op.move (Operand.tmp 0), type := 9, pos := "script.go:61", after := #[{ on := 2, ground := Ground.guard }], guard := some (2, true) }) (v := undef) rfl (by kernel_rfl) (by kernel_rfl) (by kernel_rfl) (fun _ _ _ h => h) (Or.inr ⟨by rfl, rfl⟩) hS ?_
      try simp only [Act.put]
      try simp only [List.setIfInBounds_toArray]
      try simp only [List.set_cons_zero]
      try simp only [List.set_cons_succ]
      try simp only [List.set_cons_zero]
      refine wpAnyH_take (i := 4) (oi := { dst := some 69, op := Op.call { callee := Callee.value (Operand.func 30), args := #[Operand.tmp 68, Operand.const (Value.int IntKind.u8 10)], argTypes := #[9, 5] }, type := 3, pos := "script.go:61", after := #[{ on := 3, ground := Ground.data }, { on := 2, ground := Ground.chain }, { on := 2, ground := Ground.guard }], guard := some (2, true) }) (v := undef) rfl (by kernel_rfl) (by kernel_rfl) (by kernel_rfl) (fun _ _ _ h => h) (Or.inr ⟨by rfl, rfl⟩) hS ?_
      try simp only [Act.put]
      try simp only [List.setIfInBounds_toArray]
      try simp only [List.set_cons_zero]
      try simp only [List.set_cons_succ]
      try simp only [List.set_cons_zero]
      refine wpAnyH_take (i := 5) (oi := { dst := some 70, op := Op.binOp BinOp.lss 3 (Operand.tmp 69) (Operand.const (Value.int IntKind.i64 0)) 3, type := 4, pos := "script.go:61", after := #[{ on := 4, ground := Ground.data }, { on := 2, ground := Ground.guard }, { on := 7, ground := Ground.gcOnly Departure.lateStores }], guard := some (2, true) }) (v := undef) rfl (by kernel_rfl) (by kernel_rfl) (by kernel_rfl) (fun _ _ _ h => h) (Or.inr ⟨by rfl, rfl⟩) hS ?_
      try simp only [Act.put]
      try simp only [List.setIfInBounds_toArray]
      try simp only [List.set_cons_zero]
      try simp only [List.set_cons_succ]
      try simp only [List.set_cons_zero]
      refine tk (i := 6) (oi := { dst := some 71, op := .pick (.tmp 67) (.tmp 70) (.const (.bool false)), type := 4, pos := "script.go:61", after := #[⟨2, .data⟩, ⟨5, .data⟩, ⟨7, .gcOnly .lateStores⟩], guard := none }) (v := ?_) ?_ hS ?_
      rotate_left
      · intro w9 hS9; have q1 := hS9.cells; go_simp; try with_reducible rfl
      try simp only [Act.put]
      try simp only [List.setIfInBounds_toArray]
      try simp only [List.set_cons_zero]
      try simp only [List.set_cons_succ]
      try simp only [List.set_cons_zero]
      refine wpAnyH_ready (rs := [7]) (by kernel_rfl) (by simp) ?_
      refine AllReadyH.cons (o := { dst := none, op := .store 24 (.tmp 2) (.tmp 65), type := 0, pos := "script.go:61", after := #[⟨0, .data⟩, ⟨4, .chain⟩, ⟨0, .phase⟩, ⟨1, .textOnly .lateStores⟩, ⟨2, .textOnly .lateStores⟩, ⟨3, .textOnly .lateStores⟩, ⟨4, .textOnly .lateStoresUnsure⟩, ⟨5, .textOnly .lateStores⟩, ⟨6, .textOnly .lateStores⟩], guard := none }) rfl (fun K9 hK9 => ?_) AllReadyH.nil
      have H_1 := H_0.rowR (evC 1 n t 0 (.slice none 0 0))
      refine step_store_any 24 rfl (.tmp 2) (.tmp 65) (by rfl) (evC 1 n t 0 (.slice none 0 0)) (by rfl) (by rfl) H_0.r info_ev rfl (by simp [Value.oneCell']) ?_
      refine hK9.out _ _ H_1.e (fun hS => ?_)
      clear hK9 K9
      try simp only [Act.put]
      try simp only [List.setIfInBounds_toArray]
      try simp only [List.set_cons_zero]
      try simp only [List.set_cons_succ]
      try simp only [List.set_cons_zero]
      refine tk (i := 8) (oi := { dst := some 3, op := .assign (.tmp 71), type := 4, pos := "script.go:61", after := #[⟨6, .data⟩, ⟨7, .chain⟩, ⟨0, .phase⟩, ⟨1, .phase⟩, ⟨2, .phase⟩, ⟨3, .phase⟩, ⟨4, .phase⟩, ⟨5, .phase⟩, ⟨6, .phase⟩, ⟨7, .phase⟩], guard := none }) (v := ?_) ?_ hS ?_
      rotate_left
      · intro w9 hS9; have q1 := hS9.cells; go_simp; try with_reducible rfl
      try simp only [Act.put]
      try simp only [List.setIfInBounds_toArray]
      try simp only [List.set_cons_zero]
      try simp only [List.set_cons_succ]
      try simp only [List.set_cons_zero]
      refine wpAnyH_done (by kernel_rfl) ?_ _
      go_wp2
      refine ret_ev Tryz.results11 H_1.r rfl rfl rfl rfl ?_
      exact HFIN.out _ _ rfl H_1.B
    · rcases hlt : decide (ix < 0) with _ | _
      · skip
        have H_0 := H9.drew
        clear H9
        refine wp_region_held_drew (S := fun w => Bx w (W.heap.size + 2) (evC 1 n t 0 (.slice none 0 0)) 24) (by kernel_rfl) H_0.e (fun hS => ?_)
        refine tk (i := 0) (oi := { dst := some 65, op := .load 24 (.tmp 5), type := 24, pos := "script.go:61", after := #[], guard := none }) (v := ?_) ?_ hS ?_
        rotate_left
        · intro w9 hS9; have q1 := hS9.cells; go_simp; try with_reducible rfl
        try simp only [Act.put]
        try simp only [List.setIfInBounds_toArray]
        try simp only [List.set_cons_zero]
        try simp only [List.set_cons_succ]
        try simp only [List.set_cons_zero]
        refine tk (i := 1) (oi := { dst := some 66, op := .move (.tmp 6), type := 4, pos := "script.go:61", after := #[], guard := none }) (v := ?_) ?_ hS ?_
        rotate_left
        · intro w9 hS9; have q1 := hS9.cells; go_simp; try with_reducible rfl
        try simp only [Act.put]
        try simp only [List.setIfInBounds_toArray]
        try simp only [List.set_cons_zero]
        try simp only [List.set_cons_succ]
        try simp only [List.set_cons_zero]
        refine tk (i := 2) (oi := { dst := some 67, op := .move (.tmp 66), type := 4, pos := "script.go:61", after := #[⟨1, .data⟩], guard := none }) (v := ?_) ?_ hS ?_
        rotate_left
        · intro w9 hS9; have q1 := hS9.cells; go_simp; try with_reducible rfl
        try simp only [Act.put]
        try simp only [List.setIfInBounds_toArray]
        try simp only [List.set_cons_zero]
        try simp only [List.set_cons_succ]
        try simp only [List.set_cons_zero]
        refine tk (i := 3) (oi := { dst := some 68, op := .move (.tmp 0), type := 9, pos := "script.go:61", after := #[⟨2, .guard⟩], guard := some (2, true) }) (v := ?_) ?_ hS ?_
        rotate_left
        · intro w9 hS9; have q1 := hS9.cells; go_simp; try with_reducible rfl
        try simp only [Act.put]
        try simp only [List.setIfInBounds_toArray]
        try simp only [List.set_cons_zero]
        try simp only [List.set_cons_succ]
        try simp only [List.set_cons_zero]
        refine wpAnyH_ready (rs := [4]) (by kernel_rfl) (by simp) ?_
        refine AllReadyH.cons (o := { dst := some 69, op := .call { callee := .value (.func 30), args := #[.tmp 68, .const (.int .u8 10)], argTypes := #[9, 5] }, type := 3, pos := "script.go:61", after := #[⟨3, .data⟩, ⟨2, .chain⟩, ⟨2, .guard⟩], guard := some (2, true) }) rfl (fun K9 hK9 => ?_) AllReadyH.nil
        go_simp
        refine (HIX.out _).mono ?_
        rintro e V_1 ⟨rfl, rfl⟩
        have H_1 := H_0
        refine hK9.out _ _ H_1.e (fun hS => ?_)
        clear hK9 K9
        try simp only [Act.put]
        try simp only [List.setIfInBounds_toArray]
        try simp only [List.set_cons_zero]
        try simp only [List.set_cons_succ]
        try simp only [List.set_cons_zero]
        refine tk (i := 5) (oi := { dst := some 70, op := .binOp .lss 3 (.tmp 69) (.const (.int .i64 0)) 3, type := 4, pos := "script.go:61", after := #[⟨4, .data⟩, ⟨2, .guard⟩, ⟨7, .gcOnly .lateStores⟩], guard := some (2, true) }) (v := ?_) ?_ hS ?_
        rotate_left
        · intro w9 hS9; have q1 := hS9.cells; go_simp; try with_reducible rfl
        try simp only [Act.put]
        try simp only [List.setIfInBounds_toArray]
        try simp only [List.set_cons_zero]
        try simp only [List.set_cons_succ]
        try simp only [List.set_cons_zero]
        refine tk (i := 6) (oi := { dst := some 71, op := .pick (.tmp 67) (.tmp 70) (.const (.bool false)), type := 4, pos := "script.go:61", after := #[⟨2, .data⟩, ⟨5, .data⟩, ⟨7, .gcOnly .lateStores⟩], guard := none }) (v := ?_) ?_ hS ?_
        rotate_left
        · intro w9 hS9; have q1 := hS9.cells; go_simp; try with_reducible rfl
        try simp only [Act.put]
        try simp only [List.setIfInBounds_toArray]
        try simp only [List.set_cons_zero]
        try simp only [List.set_cons_succ]
        try simp only [List.set_cons_zero]
        refine wpAnyH_ready (rs := [7]) (by kernel_rfl) (by simp) ?_
        refine AllReadyH.cons (o := { dst := none, op := .store 24 (.tmp 2) (.tmp 65), type := 0, pos := "script.go:61", after := #[⟨0, .data⟩, ⟨4, .chain⟩, ⟨0, .phase⟩, ⟨1, .textOnly .lateStores⟩, ⟨2, .textOnly .lateStores⟩, ⟨3, .textOnly .lateStores⟩, ⟨4, .textOnly .lateStoresUnsure⟩, ⟨5, .textOnly .lateStores⟩, ⟨6, .textOnly .lateStores⟩], guard := none }) rfl (fun K9 hK9 => ?_) AllReadyH.nil
        have H_2 := H_1.rowR (evC 1 n t 0 (.slice none 0 0))
        refine step_store_any 24 rfl (.tmp 2) (.tmp 65) (by rfl) (evC 1 n t 0 (.slice none 0 0)) (by rfl) (by rfl) H_1.r info_ev rfl (by simp [Value.oneCell']) ?_
        refine hK9.out _ _ H_2.e (fun hS => ?_)
        clear hK9 K9
        try simp only [Act.put]
        try simp only [List.setIfInBounds_toArray]
        try simp only [List.set_cons_zero]
        try simp only [List.set_cons_succ]
        try simp only [List.set_cons_zero]
        refine tk (i := 8) (oi := { dst := some 3, op := .assign (.tmp 71), type := 4, pos := "script.go:61", after := #[⟨6, .data⟩, ⟨7, .chain⟩, ⟨0, .phase⟩, ⟨1, .phase⟩, ⟨2, .phase⟩, ⟨3, .phase⟩, ⟨4, .phase⟩, ⟨5, .phase⟩, ⟨6, .phase⟩, ⟨7, .phase⟩], guard := none }) (v := ?_) ?_ hS ?_
        rotate_left
        · intro w9 hS9; have q1 := hS9.cells; go_simp; try with_reducible rfl
        try simp only [Act.put]
        try simp only [List.setIfInBounds_toArray]
        try simp only [List.set_cons_zero]
        try simp only [List.set_cons_succ]
        try simp only [List.set_cons_zero]
        refine wpAnyH_done (by kernel_rfl) ?_ _
        go_wp2
        refine ret_ev Tryz.results11 H_2.r rfl rfl rfl rfl ?_
        exact HFIN.out _ _ (by first | rfl | (rw [hlt]; rfl)) H_2.B
      · skip
        have H_0 := H9.drew
        clear H9
        refine wp_region_held_drew (S := fun w => Bx w (W.heap.size + 2) (evC 1 n t 0 (.slice none 0 0)) 24) (by kernel_rfl) H_0.e (fun hS => ?_)
        refine tk (i := 0) (oi := { dst := some 65, op := .load 24 (.tmp 5), type := 24, pos := "script.go:61", after := #[], guard := none }) (v := ?_) ?_ hS ?_
        rotate_left
        · intro w9 hS9; have q1 := hS9.cells; go_simp; try with_reducible rfl
        try simp only [Act.put]
        try simp only [List.setIfInBounds_toArray]
        try simp only [List.set_cons_zero]
        try simp only [List.set_cons_succ]
        try simp only [List.set_cons_zero]
        refine tk (i := 1) (oi := { dst := some 66, op := .move (.tmp 6), type := 4, pos := "script.go:61", after := #[], guard := none }) (v := ?_) ?_ hS ?_
        rotate_left
        · intro w9 hS9; have q1 := hS9.cells; go_simp; try with_reducible rfl
        try simp only [Act.put]
        try simp only [List.setIfInBounds_toArray]
        try simp only [List.set_cons_zero]
        try simp only [List.set_cons_succ]
        try simp only [List.set_cons_zero]
        refine tk (i := 2) (oi := { dst := some 67, op := .move (.tmp 66), type := 4, pos := "script.go:61", after := #[⟨1, .data⟩], guard := none }) (v := ?_) ?_ hS ?_
        rotate_left
        · intro w9 hS9; have q1 := hS9.cells; go_simp; try with_reducible rfl
        try simp only [Act.put]
        try simp only [List.setIfInBounds_toArray]
        try simp only [List.set_cons_zero]
        try simp only [List.set_cons_succ]
        try simp only [List.set_cons_zero]
        refine tk (i := 3) (oi := { dst := some 68, op := .move (.tmp 0), type := 9, pos := "script.go:61", after := #[⟨2, .guard⟩], guard := some (2, true) }) (v := ?_) ?_ hS ?_
        rotate_left
        · intro w9 hS9; have q1 := hS9.cells; go_simp; try with_reducible rfl
        try simp only [Act.put]
        try simp only [List.setIfInBounds_toArray]
        try simp only [List.set_cons_zero]
        try simp only [List.set_cons_succ]
        try simp only [List.set_cons_zero]
        refine wpAnyH_ready (rs := [4]) (by kernel_rfl) (by simp) ?_
        refine AllReadyH.cons (o := { dst := some 69, op := .call { callee := .value (.func 30), args := #[.tmp 68, .const (.int .u8 10)], argTypes := #[9, 5] }, type := 3, pos := "script.go:61", after := #[⟨3, .data⟩, ⟨2, .chain⟩, ⟨2, .guard⟩], guard := some (2, true) }) rfl (fun K9 hK9 => ?_) AllReadyH.nil
        go_simp
        refine (HIX.out _).mono ?_
        rintro e V_1 ⟨rfl, rfl⟩
        have H_1 := H_0
        refine hK9.out _ _ H_1.e (fun hS => ?_)
        clear hK9 K9
        try simp only [Act.put]
        try simp only [List.setIfInBounds_toArray]
        try simp only [List.set_cons_zero]
        try simp only [List.set_cons_succ]
        try simp only [List.set_cons_zero]
        refine tk (i := 5) (oi := { dst := some 70, op := .binOp .lss 3 (.tmp 69) (.const (.int .i64 0)) 3, type := 4, pos := "script.go:61", after := #[⟨4, .data⟩, ⟨2, .guard⟩, ⟨7, .gcOnly .lateStores⟩], guard := some (2, true) }) (v := ?_) ?_ hS ?_
        rotate_left
        · intro w9 hS9; have q1 := hS9.cells; go_simp; try with_reducible rfl
        try simp only [Act.put]
        try simp only [List.setIfInBounds_toArray]
        try simp only [List.set_cons_zero]
        try simp only [List.set_cons_succ]
        try simp only [List.set_cons_zero]
        refine tk (i := 6) (oi := { dst := some 71, op := .pick (.tmp 67) (.tmp 70) (.const (.bool false)), type := 4, pos := "script.go:61", after := #[⟨2, .data⟩, ⟨5, .data⟩, ⟨7, .gcOnly .lateStores⟩], guard := none }) (v := ?_) ?_ hS ?_
        rotate_left
        · intro w9 hS9; have q1 := hS9.cells; go_simp; try with_reducible rfl
        try simp only [Act.put]
        try simp only [List.setIfInBounds_toArray]
        try simp only [List.set_cons_zero]
        try simp only [List.set_cons_succ]
        try simp only [List.set_cons_zero]
        refine wpAnyH_ready (rs := [7]) (by kernel_rfl) (by simp) ?_
        refine AllReadyH.cons (o := { dst := none, op := .store 24 (.tmp 2) (.tmp 65), type := 0, pos := "script.go:61", after := #[⟨0, .data⟩, ⟨4, .chain⟩, ⟨0, .phase⟩, ⟨1, .textOnly .lateStores⟩, ⟨2, .textOnly .lateStores⟩, ⟨3, .textOnly .lateStores⟩, ⟨4, .textOnly .lateStoresUnsure⟩, ⟨5, .textOnly .lateStores⟩, ⟨6, .textOnly .lateStores⟩], guard := none }) rfl (fun K9 hK9 => ?_) AllReadyH.nil
        have H_2 := H_1.rowR (evC 1 n t 0 (.slice none 0 0))
        refine step_store_any 24 rfl (.tmp 2) (.tmp 65) (by rfl) (evC 1 n t 0 (.slice none 0 0)) (by rfl) (by rfl) H_1.r info_ev rfl (by simp [Value.oneCell']) ?_
        refine hK9.out _ _ H_2.e (fun hS => ?_)
        clear hK9 K9
        try simp only [Act.put]
        try simp only [List.setIfInBounds_toArray]
        try simp only [List.set_cons_zero]
        try simp only [List.set_cons_succ]
        try simp only [List.set_cons_zero]
        refine tk (i := 8) (oi := { dst := some 3, op := .assign (.tmp 71), type := 4, pos := "script.go:61", after := #[⟨6, .data⟩, ⟨7, .chain⟩, ⟨0, .phase⟩, ⟨1, .phase⟩, ⟨2, .phase⟩, ⟨3, .phase⟩, ⟨4, .phase⟩, ⟨5, .phase⟩, ⟨6, .phase⟩, ⟨7, .phase⟩], guard := none }) (v := ?_) ?_ hS ?_
        rotate_left
        · intro w9 hS9; have q1 := hS9.cells; go_simp; try with_reducible rfl
        try simp only [Act.put]
        try simp only [List.setIfInBounds_toArray]
        try simp only [List.set_cons_zero]
        try simp only [List.set_cons_succ]
        try simp only [List.set_cons_zero]
        refine wpAnyH_done (by kernel_rfl) ?_ _
        go_wp2
        refine ret_ev Tryz.results11 H_2.r rfl rfl rfl rfl ?_
        exact HFIN.out _ _ (by first | rfl | (rw [hlt]; rfl)) H_2.B
end Go.Proofs.YtggomjfllbljeaaGreatDoor
