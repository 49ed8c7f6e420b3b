/- Put together by program of: Tk3, Tk4, Tk5, Tk6. -/
import Derived.Test.YtggomjfllbljeaaGreatDoorTk2
import Derived.Test.YtggomjfllbljeaaGreatDoorMNwE
namespace Go.Proofs.YtggomjfllbljeaaGreatDoor
set_option linter.unusedVariables false
open Go Go.RowKit
theorem step_text {ops : Array Oper} {o : Oper} {a : Act} {K : Act → World → Prop} {Q : Exit → Act → World → Prop} {E : Prop} {w : World} (hgd : o.guard = none) (sl x : Operand)
    (ho : o.op = .call { callee := .builtin .append, args := #[sl, x], argTypes := #[57, 9] }) {B : Nat} {v : Value} {l : List UInt8} (hs : a.eval sl = v) (hown : Own w B 5 tBy v l) (s : ByteArray) (hx : a.eval x = .string s)
    (hl : l.length + s.size ≤ 100000) (hB : B ≤ w.heap.size) (h : ∀ v' w', Own w' B 5 tBy v' (l ++ bl s) → Below B w w' → K (a.put o.dst v') w') : if Region.wanted o (yielded ops a.tmps) = true then o.wp Tryz.prog a w K Q else E := by
  have hw : Region.wanted o (yielded ops a.tmps) = true := by simp [Region.wanted, hgd]
  rw [if_pos hw]
  obtain ⟨i, hi, h0, h1, h2⟩ := info_parts (show (Tryz.prog.info? 5).map (fun i => (i.zero, i.size, i.bytes)) = some (some (.int .u8 0), 1, 1) by kernel_rfl)
  obtain ⟨v', w', hr, hrow, hg, _⟩ := Lib.run_append_own_string (P := Tryz.prog) w B 57 9 o.type 5 i Tryz.underlying57 Tryz.underlying9 hi h0 h1 h2 v l.length (l.flatMap tBy.enc) hown.row s (by unfold maxLen; omega) (by omega) hB
  unfold Oper.wp execOp
  simp only [ho, resolve, invoke, builtin, Sem.run_bind, Sem.run_pure, Result.andThen_ok, List.map_toArray, List.map_cons, List.map_nil, hs, hx, hr]
  refine h v' w' ⟨fun _ _ => trivial, ?_⟩ ((Below.refl B w).grown hg hB (fun k hk => (World.ownsRow.lt hown.row k hk).1))
  rw [List.length_append, bl_size, List.flatMap_append, ← str_by]
  exact hrow
/-- What hands back n bytes in new memory. -/
def RetBy (W : World) (n : Nat) (e : Ending) (W' : World) : Prop :=
  ∃ (l : List UInt8) (A : Option Addr) (c : Nat), l.length = n ∧ e = .returned (.slice A n c) ∧ Own W' W.heap.size 5 tBy (.slice A n c) l ∧ Below W.heap.size W W'
theorem lenInt {n : Nat} (k : Nat) (h : n = k) : (n : Int) = k := by rw [h]
set_option maxRecDepth 100000 in
set_option maxHeartbeats 8000000 in
theorem batch_1 {W : World} {g lo hi n c : Nat} {A : Option Addr} {l : List UInt8} {t : TypeId} (v : Int) (hv : 0 ≤ v) (hv2 : v ≤ 127) (k : ByteArray) (hk : k.size ≤ 32) (hg : Bx W g (wrC k A n c) t) (hs : Sl W lo hi tBy A n l) (hn : 0 < n) (hn2 : n ≤ 100) (hh : hi ≤ W.heap.size) :
    Calls Tryz.prog 240 #[.int .u64 v, .slice (some ⟨g, 0, none⟩) 1 1] W (RetBy W (5 + k.size + n)) := by
  have hs0 := hs.len
  obtain ⟨ba, oa, rfl, _, _, _⟩ := hs.cells hn
  have hwk : IntKind.u64.wrap (k.size : Int) = k.size := IntWalk.u64_in _ (by omega)
  have hwn : IntKind.u64.wrap (n : Int) = n := IntWalk.u64_in _ (by omega)
  have x0 := hg.cells
  have z0 := hg.lt
  go_enter Tryz.func240, Tryz.ntmps240
  go_wp2_with fail
  refine (var_any (n := 0) (c := 0) (A := none) (l := []) v hv hv2 rfl (by omega) (Cop.none W (k := 0 + 10) (by omega))).mono ?_
  rintro e V1 ⟨y1, A1, c1, rfl, ho1, hb1⟩
  rw [show ([] ++ [y1] : List UInt8).length = 1 from rfl] at ho1 ⊢
  have HC1 := Lib.hid (Cop.of c1 ho1.sl (by omega) (Nat.le_refl _) (show 1 ≤ 1 + 10 by omega) (by omega))
  clear ho1
  go_wp2_with fail
  refine (var_any (n := 1) (l := [] ++ [y1]) 1 (by omega) (by omega) rfl (by omega) HC1.out).mono ?_
  rintro e V2 ⟨y2, A2, c2, rfl, ho2, hb2⟩
  rw [show ([] ++ [y1] ++ [y2] : List UInt8).length = 2 from rfl] at ho2 ⊢
  have hb3 : Below W.heap.size W V2 := hb1.trans (hb2.mono hb1.size)
  have HO2 := Lib.hid (ho2.more (B' := W.heap.size) hb1.size)
  have HS2 := Lib.hid (hs.below hb3 hh)
  have HG2 := Lib.hid (hg.below hb3 z0)
  clear HC1 hb1 hb2 ho2 hs hg x0
  go_wp2
  go_loopw [5, 16] (fun s i wr => Hid (Bx wr g (wrC k (some ⟨ba, oa, none⟩) n c) t ∧ Sl wr lo hi tBy (some ⟨ba, oa, none⟩) n l ∧ Below W.heap.size W wr) ∧ ((i = .int .i64 0 ∧ s = .slice A2 2 c2 ∧ Hid (Own wr W.heap.size 5 tBy (.slice A2 2 c2) ([] ++ [y1] ++ [y2]))) ∨ (i = .int .i64 1 ∧ ∃ (l9 : List UInt8) (A9 : Option Addr) (c9 : Nat), l9.length = 5 + k.size + n ∧ s = .slice A9 (5 + k.size + n) c9 ∧ Hid (Own wr W.heap.size 5 tBy (.slice A9 (5 + k.size + n) c9) l9)))) (fun _ i _ => 1 - (intOf i).toNat)
  case atStart => exact ⟨Lib.hid ⟨HG2.out, HS2.out, hb3⟩, .inl ⟨rfl, rfl, HO2⟩⟩
  case round =>
    clear HO2 HS2 HG2 hb3
    obtain ⟨HR, ⟨rfl, rfl, HO⟩ | ⟨rfl, l9, A9, c9, hl9, rfl, HO⟩⟩ := hrel
    · have x0 := HR.out.1.cells
      go_upto_region 5 with fail
      have q2 := Bx.new wr (wrC k (some ⟨ba, oa, none⟩) n c) 259
      have hz := HR.out.2.2.size
      have hbw := (Below.refl wr.heap.size wr).alloc (Nat.le_refl _) (.cells (wrC k (some ⟨ba, oa, none⟩) n c) 259)
      refine wp_world (fun V => Bx V wr.heap.size (wrC k (some ⟨ba, oa, none⟩) n c) 259 ∧ Below wr.heap.size wr V) ⟨q2, hbw⟩ ?_
      clear q2 hbw x0
      rintro V3 ⟨b7, hb7⟩
      have hd7 := hb7.drew
      have G_0 : Bx V3.drew g (wrC k (some ⟨ba, oa, none⟩) n c) t := HR.out.1.below hd7 HR.out.1.lt
      have S_0 : Sl V3.drew lo hi tBy (some ⟨ba, oa, none⟩) n l := HR.out.2.1.below hd7 (by omega)
      have O_0 : Own V3.drew W.heap.size 5 tBy (.slice A2 2 c2) ([] ++ [y1] ++ [y2]) := HO.out.keep hd7
      have K_0 : Below W.heap.size W V3.drew := HR.out.2.2.trans (hd7.mono hz)
      have B_0 : Bx V3.drew wr.heap.size (wrC k (some ⟨ba, oa, none⟩) n c) 259 := b7
      have HC2 := Lib.hid (Cop.of (W := V3.drew) c2 O_0.sl (by omega) (Nat.le_refl _) (show 2 ≤ 2 + 10 by omega) (by omega))
      clear HR HO hb7 hd7 b7 O_0
      refine wp_region_held_drew (S := fun w => Bx w wr.heap.size (wrC k (some ⟨ba, oa, none⟩) n c) 259) (by kernel_rfl) B_0 (fun hS => ?_)
      refine tk (i := 0) (oi := { dst := some 20, op := .move (.tmp 5), type := 57, pos := "batch.go:15", after := #[], guard := none }) (v := ?_) ?_ hS ?_
      rotate_left
      · intro w9 hS9; have q1 := hS9.cells; go_simp; try with_reducible rfl
      try simp only [Act.put]
      try simp only [List.setIfInBounds_toArray]
      try simp only [List.set_cons_zero]
      try simp only [List.set_cons_succ]
      try simp only [List.set_cons_zero]
      refine tk (i := 1) (oi := { dst := some 21, op := .fieldAddr 259 (.tmp 7) 0, type := 0, pos := "batch.go:15", after := #[], guard := none }) (v := ?_) ?_ hS ?_
      rotate_left
      · intro w9 hS9; have q1 := hS9.cells; go_simp; try with_reducible rfl
      try simp only [Act.put]
      try simp only [List.setIfInBounds_toArray]
      try simp only [List.set_cons_zero]
      try simp only [List.set_cons_succ]
      try simp only [List.set_cons_zero]
      refine tk (i := 2) (oi := { dst := some 22, op := .load 9 (.tmp 21), type := 9, pos := "batch.go:15", after := #[⟨1, .data⟩], guard := none }) (v := ?_) ?_ hS ?_
      rotate_left
      · intro w9 hS9; have q1 := hS9.cells; go_simp; try with_reducible rfl
      try simp only [Act.put]
      try simp only [List.setIfInBounds_toArray]
      try simp only [List.set_cons_zero]
      try simp only [List.set_cons_succ]
      try simp only [List.set_cons_zero]
      refine tk (i := 3) (oi := { dst := some 23, op := .call { callee := .builtin .len, args := #[.tmp 22], argTypes := #[9] }, type := 3, pos := "batch.go:15", after := #[⟨2, .data⟩], guard := none }) (v := ?_) ?_ hS ?_
      rotate_left
      · intro w9 hS9; have q1 := hS9.cells; go_simp; try with_reducible rfl
      try simp only [Act.put]
      try simp only [List.setIfInBounds_toArray]
      try simp only [List.set_cons_zero]
      try simp only [List.set_cons_succ]
      try simp only [List.set_cons_zero]
      refine tk (i := 4) (oi := { dst := some 24, op := .convert 3 173 (.tmp 23), type := 173, pos := "batch.go:15", after := #[⟨3, .data⟩], guard := none }) (v := ?_) ?_ hS ?_
      rotate_left
      · intro w9 hS9; have q1 := hS9.cells; go_simp; try with_reducible rfl
      try simp only [Act.put]
      try simp only [List.setIfInBounds_toArray]
      try simp only [List.set_cons_zero]
      try simp only [List.set_cons_succ]
      try simp only [List.set_cons_zero]
      refine tk (i := 6) (oi := { dst := some 26, op := .fieldAddr 259 (.tmp 7) 0, type := 0, pos := "batch.go:15", after := #[], guard := none }) (v := ?_) ?_ hS ?_
      rotate_left
      · intro w9 hS9; have q1 := hS9.cells; go_simp; try with_reducible rfl
      try simp only [Act.put]
      try simp only [List.setIfInBounds_toArray]
      try simp only [List.set_cons_zero]
      try simp only [List.set_cons_succ]
      try simp only [List.set_cons_zero]
      refine tk (i := 7) (oi := { dst := some 27, op := .load 9 (.tmp 26), type := 9, pos := "batch.go:15", after := #[⟨6, .data⟩], guard := none }) (v := ?_) ?_ hS ?_
      rotate_left
      · intro w9 hS9; have q1 := hS9.cells; go_simp; try with_reducible rfl
      try simp only [Act.put]
      try simp only [List.setIfInBounds_toArray]
      try simp only [List.set_cons_zero]
      try simp only [List.set_cons_succ]
      try simp only [List.set_cons_zero]
      refine wpAnyH_ready (rs := [5]) (by kernel_rfl) (by simp) ?_
      refine AllReadyH.cons (o := { dst := some 25, op := .call { callee := .value (.func 335), args := #[.tmp 20, .tmp 24], argTypes := #[57, 173] }, type := 57, pos := "batch.go:15", after := #[⟨0, .data⟩, ⟨4, .data⟩], guard := none }) rfl (fun K9 hK9 => ?_) AllReadyH.nil
      go_simp
      refine (var_any (n := 2) (l := [] ++ [y1] ++ [y2]) (k.size : Int) (by omega) (by omega) rfl (by omega) HC2.out).mono ?_
      rintro e U1 ⟨y3, A3, c3, rfl, ho, hb⟩
      rw [show ([] ++ [y1] ++ [y2] ++ [y3] : List UInt8).length = 3 from rfl] at ho ⊢
      have B_1 := B_0.below hb B_0.lt
      have K_1 := K_0.trans (hb.mono K_0.size)
      have G_1 := G_0.below hb G_0.lt
      have S_1 := S_0.below hb (Nat.le_trans hh K_0.size)
      refine hK9.out _ _ B_1 (fun hS => ?_)
      clear hK9 K9
      try simp only [Act.put]
      try simp only [List.setIfInBounds_toArray]
      try simp only [List.set_cons_zero]
      try simp only [List.set_cons_succ]
      try simp only [List.set_cons_zero]
      refine wpAnyH_ready (rs := [8]) (by kernel_rfl) (by simp) ?_
      refine AllReadyH.cons (o := { dst := some 28, op := .call { callee := .builtin .append, args := #[.tmp 25, .tmp 27], argTypes := #[57, 9] }, type := 57, pos := "batch.go:15", after := #[⟨5, .data⟩, ⟨7, .data⟩, ⟨5, .chain⟩], guard := none }) rfl (fun K9 hK9 => ?_) AllReadyH.nil
      refine step_text (B := V3.drew.heap.size) rfl (.tmp 25) (.tmp 27) (by rfl) (by rfl) ho k (by rfl) (by show 3 + k.size ≤ 100000; omega) hb.size ?_
      intro v4 U2 ho2 hb2
      have B_2 := B_1.below hb2 B_0.lt
      have G_2 := G_1.below hb2 G_0.lt
      have S_2 := S_1.below hb2 (Nat.le_trans hh K_0.size)
      have K_2 := K_1.trans (hb2.mono K_0.size)
      have hl4 : ([] ++ [y1] ++ [y2] ++ [y3] ++ bl k : List UInt8).length = 3 + k.size := by rw [List.length_append, bl_size]; rfl
      generalize ([] ++ [y1] ++ [y2] ++ [y3] ++ bl k : List UInt8) = l4 at ho2 hl4
      obtain ⟨A4, c4, rfl⟩ := ho2.form
      rw [hl4] at ho2 ⊢
      have HU2 : V3.drew.heap.size ≤ U2.heap.size := Nat.le_trans hb.size hb2.size
      have HU2a : V3.heap.size ≤ U2.heap.size := HU2
      refine hK9.out _ _ B_2 (fun hS => ?_)
      clear hK9 K9
      try simp only [Act.put]
      try simp only [List.setIfInBounds_toArray]
      try simp only [List.set_cons_zero]
      try simp only [List.set_cons_succ]
      try simp only [List.set_cons_zero]
      refine tk (i := 9) (oi := { dst := some 5, op := .assign (.tmp 28), type := 57, pos := "batch.go:15", after := #[⟨8, .data⟩, ⟨8, .chain⟩, ⟨0, .phase⟩, ⟨1, .phase⟩, ⟨2, .phase⟩, ⟨3, .phase⟩, ⟨4, .phase⟩, ⟨5, .phase⟩, ⟨6, .phase⟩, ⟨7, .phase⟩, ⟨8, .phase⟩], guard := none }) (v := ?_) ?_ hS ?_
      rotate_left
      · intro w9 hS9; have q1 := hS9.cells; go_simp; try with_reducible rfl
      try simp only [Act.put]
      try simp only [List.setIfInBounds_toArray]
      try simp only [List.set_cons_zero]
      try simp only [List.set_cons_succ]
      try simp only [List.set_cons_zero]
      refine wpAnyH_done (by kernel_rfl) ?_ _
      have x2 := B_2.cells
      have z2 := B_2.lt
      clear B_1 G_1 S_1 K_1 ho hb hb2 HC2
      go_upto_region 8 with fail
      clear x2
      have B_3 : Bx U2.drew wr.heap.size (wrC k (some ⟨ba, oa, none⟩) n c) 259 := B_2
      have O_3 : Own U2.drew V3.drew.heap.size 5 tBy (.slice A4 (3 + k.size) c4) l4 := ho2.drew
      have G_3 : Bx U2.drew g (wrC k (some ⟨ba, oa, none⟩) n c) t := G_2
      have S_3 := S_2.drew
      have K_3 := K_2.drew
      refine wp_region_held_drew (S := fun w => Bx w wr.heap.size (wrC k (some ⟨ba, oa, none⟩) n c) 259) (by kernel_rfl) B_3 (fun hS => ?_)
      refine tk (i := 0) (oi := { dst := some 34, op := .move (.tmp 5), type := 57, pos := "batch.go:20", after := #[], guard := none }) (v := ?_) ?_ hS ?_
      rotate_left
      · intro w9 hS9; have q1 := hS9.cells; go_simp; try with_reducible rfl
      try simp only [Act.put]
      try simp only [List.setIfInBounds_toArray]
      try simp only [List.set_cons_zero]
      try simp only [List.set_cons_succ]
      try simp only [List.set_cons_zero]
      refine tk (i := 3) (oi := { dst := some 37, op := .fieldAddr 259 (.tmp 7) 1, type := 0, pos := "batch.go:20", after := #[], guard := none }) (v := ?_) ?_ hS ?_
      rotate_left
      · intro w9 hS9; have q1 := hS9.cells; go_simp; try with_reducible rfl
      try simp only [Act.put]
      try simp only [List.setIfInBounds_toArray]
      try simp only [List.set_cons_zero]
      try simp only [List.set_cons_succ]
      try simp only [List.set_cons_zero]
      refine tk (i := 4) (oi := { dst := some 38, op := .load 57 (.tmp 37), type := 57, pos := "batch.go:20", after := #[⟨3, .data⟩], guard := none }) (v := ?_) ?_ hS ?_
      rotate_left
      · intro w9 hS9; have q1 := hS9.cells; go_simp; try with_reducible rfl
      try simp only [Act.put]
      try simp only [List.setIfInBounds_toArray]
      try simp only [List.set_cons_zero]
      try simp only [List.set_cons_succ]
      try simp only [List.set_cons_zero]
      refine tk (i := 5) (oi := { dst := some 39, op := .call { callee := .builtin .len, args := #[.tmp 38], argTypes := #[57] }, type := 3, pos := "batch.go:20", after := #[⟨4, .data⟩], guard := none }) (v := ?_) ?_ hS ?_
      rotate_left
      · intro w9 hS9; have q1 := hS9.cells; go_simp; try with_reducible rfl
      try simp only [Act.put]
      try simp only [List.setIfInBounds_toArray]
      try simp only [List.set_cons_zero]
      try simp only [List.set_cons_succ]
      try simp only [List.set_cons_zero]
      refine tk (i := 6) (oi := { dst := some 40, op := .convert 3 173 (.tmp 39), type := 173, pos := "batch.go:20", after := #[⟨5, .data⟩], guard := none }) (v := ?_) ?_ hS ?_
      rotate_left
      · intro w9 hS9; have q1 := hS9.cells; go_simp; try with_reducible rfl
      try simp only [Act.put]
      try simp only [List.setIfInBounds_toArray]
      try simp only [List.set_cons_zero]
      try simp only [List.set_cons_succ]
      try simp only [List.set_cons_zero]
      refine tk (i := 8) (oi := { dst := some 42, op := .fieldAddr 259 (.tmp 7) 1, type := 0, pos := "batch.go:20", after := #[], guard := none }) (v := ?_) ?_ hS ?_
      rotate_left
      · intro w9 hS9; have q1 := hS9.cells; go_simp; try with_reducible rfl
      try simp only [Act.put]
      try simp only [List.setIfInBounds_toArray]
      try simp only [List.set_cons_zero]
      try simp only [List.set_cons_succ]
      try simp only [List.set_cons_zero]
      refine tk (i := 9) (oi := { dst := some 43, op := .load 57 (.tmp 42), type := 57, pos := "batch.go:20", after := #[⟨8, .data⟩], guard := none }) (v := ?_) ?_ hS ?_
      rotate_left
      · intro w9 hS9; have q1 := hS9.cells; go_simp; try with_reducible rfl
      try simp only [Act.put]
      try simp only [List.setIfInBounds_toArray]
      try simp only [List.set_cons_zero]
      try simp only [List.set_cons_succ]
      try simp only [List.set_cons_zero]
      refine wpAnyH_ready (rs := [1]) (by kernel_rfl) (by simp) ?_
      refine AllReadyH.cons (o := { dst := some 35, op := .buildSlice 57 1 #[(0, .const (.int .u8 1))], type := 57, pos := "batch.go:20", after := #[], guard := none }) rfl (fun K9 hK9 => ?_) AllReadyH.nil
      have B_4 := B_3.alloc (.cells #[.int .u8 1] 5)
      have O_4 := O_3.alloc (.cells #[.int .u8 1] 5)
      have N_4 := heap_alloc_new U2.drew (.cells #[.int .u8 1] 5)
      go_simp
      refine hK9.out _ _ B_4 (fun hS => ?_)
      clear hK9 K9
      try simp only [Act.put]
      try simp only [List.setIfInBounds_toArray]
      try simp only [List.set_cons_zero]
      try simp only [List.set_cons_succ]
      try simp only [List.set_cons_zero]
      refine wpAnyH_ready (rs := [2]) (by kernel_rfl) (by simp) ?_
      refine AllReadyH.cons (o := { dst := some 36, op := .call { callee := .builtin .append, args := #[.tmp 34, .tmp 35], argTypes := #[57, 57] }, type := 57, pos := "batch.go:20", after := #[⟨0, .data⟩, ⟨1, .data⟩], guard := none }) rfl (fun K9 hK9 => ?_) AllReadyH.nil
      refine step_push (T := tBy) (g := U2.drew.heap.size) rfl (.tmp 34) (.tmp 35) (by rfl) sl_by (by rfl) O_4 1 trivial N_4 rfl (by rfl) (by simp; omega) (by omega) ?_
      intro v5 U3 ho5 hg5 _
      have hb5 : Below V3.drew.heap.size (U2.drew.alloc (.cells #[.int .u8 1] 5)) U3 := (Below.refl V3.drew.heap.size _).grown hg5 (by simp; omega) (fun k hk => (O_4.lt k hk).1)
      have B_5 := B_4.below hb5 B_0.lt
      have G_5 := (G_3.alloc (.cells #[.int .u8 1] 5)).below hb5 G_0.lt
      have S_5 := (S_3.alloc (Nat.le_trans hh K_3.size) (.cells #[.int .u8 1] 5)).below hb5 (Nat.le_trans hh K_0.size)
      have K_5 := (K_3.alloc K_3.size (.cells #[.int .u8 1] 5)).trans (hb5.mono K_0.size)
      have hl5 : (l4 ++ [1]).length = 4 + k.size := by rw [List.length_append, hl4]; show 3 + k.size + 1 = _; omega
      generalize l4 ++ [1] = l5 at ho5 hl5
      obtain ⟨A5, c5, rfl⟩ := ho5.form
      rw [hl5] at ho5 ⊢
      have HC5 := Cop.of c5 ho5.sl (by omega) (Nat.le_refl _) (show 4 + k.size ≤ 4 + k.size + 10 by omega) (by omega)
      have HU3 : V3.drew.heap.size ≤ U3.heap.size := Nat.le_trans HU2 (Nat.le_trans (by simp) hb5.size)
      refine hK9.out _ _ B_5 (fun hS => ?_)
      clear hK9 K9
      try simp only [Act.put]
      try simp only [List.setIfInBounds_toArray]
      try simp only [List.set_cons_zero]
      try simp only [List.set_cons_succ]
      try simp only [List.set_cons_zero]
      refine wpAnyH_ready (rs := [7]) (by kernel_rfl) (by simp) ?_
      refine AllReadyH.cons (o := { dst := some 41, op := .call { callee := .value (.func 335), args := #[.tmp 36, .tmp 40], argTypes := #[57, 173] }, type := 57, pos := "batch.go:20", after := #[⟨2, .data⟩, ⟨6, .data⟩, ⟨2, .chain⟩], guard := none }) rfl (fun K9 hK9 => ?_) AllReadyH.nil
      go_simp
      refine (var_any (n := 4 + k.size) (l := l5) (n : Int) (by omega) (by omega) hl5 (by omega) HC5).mono ?_
      rintro e U4 ⟨y6, A6, c6, rfl, ho6, hb6⟩
      have hl6 : (l5 ++ [y6]).length = 5 + k.size := by rw [List.length_append, hl5]; show 4 + k.size + 1 = _; omega
      generalize l5 ++ [y6] = l6 at ho6 hl6
      rw [hl6] at ho6 ⊢
      have B_6 := B_5.below hb6 B_5.lt
      have G_6 := G_5.below hb6 G_5.lt
      have S_6 := S_5.below hb6 (Nat.le_trans hh K_5.size)
      have K_6 := K_5.trans (hb6.mono K_5.size)
      refine hK9.out _ _ B_6 (fun hS => ?_)
      clear hK9 K9
      try simp only [Act.put]
      try simp only [List.setIfInBounds_toArray]
      try simp only [List.set_cons_zero]
      try simp only [List.set_cons_succ]
      try simp only [List.set_cons_zero]
      refine wpAnyH_ready (rs := [10]) (by kernel_rfl) (by simp) ?_
      refine AllReadyH.cons (o := { dst := some 44, op := .call { callee := .builtin .append, args := #[.tmp 41, .tmp 43], argTypes := #[57, 57] }, type := 57, pos := "batch.go:20", after := #[⟨7, .data⟩, ⟨9, .data⟩, ⟨7, .chain⟩], guard := none }) rfl (fun K9 hK9 => ?_) AllReadyH.nil
      refine step_append_told (T := tBy) rfl (.tmp 41) (.tmp 43) (by rfl) sl_by (by rfl) ho6 (by rfl) S_6 (fun h => by cases h) hb6.size (by omega) ?_
      intro v7 U5 ho7 hg7 _
      have hb7 := (Below.refl U3.heap.size _).grown hg7 hb6.size (fun k hk => (ho6.lt k hk).1)
      have B_7 := B_6.below hb7 B_5.lt
      have G_7 := G_6.below hb7 G_5.lt
      have S_7 := S_6.below hb7 (Nat.le_trans hh K_5.size)
      have K_7 := K_6.trans (hb7.mono K_5.size)
      have hl7 : (l6 ++ l).length = 5 + k.size + n := by rw [List.length_append, hl6, hs0]
      generalize l6 ++ l = l7 at ho7 hl7
      obtain ⟨A7, c7, rfl⟩ := ho7.form
      rw [hl7] at ho7 ⊢
      refine hK9.out _ _ B_7 (fun hS => ?_)
      clear hK9 K9
      try simp only [Act.put]
      try simp only [List.setIfInBounds_toArray]
      try simp only [List.set_cons_zero]
      try simp only [List.set_cons_succ]
      try simp only [List.set_cons_zero]
      refine tk (i := 11) (oi := { dst := some 5, op := .assign (.tmp 44), type := 57, pos := "batch.go:20", after := #[⟨10, .data⟩, ⟨10, .chain⟩, ⟨0, .phase⟩, ⟨1, .phase⟩, ⟨2, .phase⟩, ⟨3, .phase⟩, ⟨4, .phase⟩, ⟨5, .phase⟩, ⟨6, .phase⟩, ⟨7, .phase⟩, ⟨8, .phase⟩, ⟨9, .phase⟩, ⟨10, .phase⟩], guard := none }) (v := ?_) ?_ hS ?_
      rotate_left
      · intro w9 hS9; have q1 := hS9.cells; go_simp; try with_reducible rfl
      try simp only [Act.put]
      try simp only [List.setIfInBounds_toArray]
      try simp only [List.set_cons_zero]
      try simp only [List.set_cons_succ]
      try simp only [List.set_cons_zero]
      refine wpAnyH_done (by kernel_rfl) ?_ _
      have HX := Lib.hid (And.intro G_7 (And.intro S_7 K_7))
      have HO7 := Lib.hid (ho7.more (B' := W.heap.size) K_5.size)
      clear B_7 G_7 S_7 K_7 ho7 hb7 hg7
      go_wp2
      go_roundw
      case rel => exact ⟨HX, .inr ⟨by go_num, l7, A7, c7, hl7, rfl, HO7⟩⟩
      case measure => simp [intOf]
    · go_wp2
      go_ret
      exact ⟨l9, A9, c9, hl9, rfl, HO.out, HR.out.2.2⟩
end Go.Proofs.YtggomjfllbljeaaGreatDoor
namespace Go.Proofs.YtggomjfllbljeaaGreatDoor
set_option linter.unusedVariables false
open Go Go.RowKit
theorem Sl.rowOther {α : Type} {T : Ty α} {W : World} {lo hi n : Nat} {A : Option Addr} {l : List α} (h : Sl W lo hi T A n l) {g : Nat} (hg : g < lo ∨ hi ≤ g) (cs : Array Value) : Sl (W.setRow g cs) lo hi T A n l :=
  h.keep fun p h1 h2 => World.cell?_of_block (setRow_other W g p.block cs (by omega))
theorem need_1 (W : World) (n : Int) (h0 : 1 ≤ n) (h1 : n ≤ 491) : Calls Tryz.prog 172 #[.int .i64 n] W fun e W' => e = .returned (.int .i64 1) ∧ W = W' := by
  have t0 : ¬ n < 1 := by omega
  have t1 : (n - 1) / 491 = 0 := by omega
  go_enter Tryz.func172, Tryz.ntmps172
  go_wp2
  go_ret
  exact ⟨rfl, rfl⟩
/-- The cells of a pair, and of a state. -/
abbrev pairC (k : ByteArray) (A : Option Addr) (n c : Nat) : Array Value := #[.string k, .slice A n c, .int .u64 1]
abbrev saC (x : Value) (n m d : Int) : Array Value := #[x, .int .i64 n, .int .u64 m, .int .i64 d]
set_option maxRecDepth 100000 in
set_option maxHeartbeats 4000000 in
theorem needp_1 {W : World} {lo hi n c : Nat} {A : Option Addr} {l : List UInt8} (k : ByteArray) (hk : k.size ≤ 32) (hs : Sl W lo hi tBy A n l) (hn : 0 < n) (hn2 : n ≤ 100) (hh : hi ≤ W.heap.size) :
    Calls Tryz.prog 178 #[.agg (pairC k A n c)] W fun e W' => e = .returned (.int .i64 1) ∧ Below W.heap.size W W' := by
  have q1 := Bx.new (W.alloc (.cells (pairC k A n c) 235)) (wrC k A n c) 259
  rw [World.size_alloc] at q1
  have HB := Lib.hid (((Below.refl W.heap.size W).alloc (Nat.le_refl _) (.cells (pairC k A n c) 235)).alloc (by simp) (.cells (wrC k A n c) 259))
  have HS := Lib.hid (hs.below HB.out hh)
  have HG := Lib.hid q1
  clear q1 hs
  go_enter Tryz.func178, Tryz.ntmps178
  go_wp2_with fail
  refine (batch_1 1 (by omega) (by omega) k hk HG.out HS.out hn hn2 (by simp; omega)).mono ?_
  rintro e V ⟨l9, A9, c9, hl9, rfl, ho, hb⟩
  have hb9 := HB.out.trans (hb.mono HB.out.size)
  clear ho hb HS HG HB
  go_wp2_with fail
  refine (need_1 _ ((5 + k.size + n : Nat) : Int) (by omega) (by omega)).mono ?_
  rintro e V2 ⟨rfl, rfl⟩
  go_wp2
  go_ret
  exact ⟨rfl, hb9⟩
set_option maxRecDepth 100000 in
set_option maxHeartbeats 4000000 in
theorem put_e (W : World) (k : ByteArray) (A : Option Addr) (n c : Nat) : Calls Tryz.prog 180 #[.slice none 0 0, .agg (pairC k A n c)] W fun e W' => ∃ q, e = .returned (.slice (some ⟨q, 0, none⟩) 1 1) ∧ Below W.heap.size W W' := by
  have HB := Lib.hid ((((Below.refl W.heap.size W).alloc (Nat.le_refl _) (.cells (pairC k A n c) 235)).alloc (by simp) (.cells (pairC k A n c) 235)).alloc (by simp; omega) (.cells #[.slice (some ⟨W.heap.size + 1, 0, none⟩) 1 1] 232))
  go_enter Tryz.func180, Tryz.ntmps180
  go_wp2
  go_ret
  exact ⟨_, rfl, HB.out⟩
set_option maxRecDepth 100000 in
set_option maxHeartbeats 4000000 in
theorem clone_by {W : World} {lo hi n c : Nat} {A : Option Addr} {l : List UInt8} (hs : Sl W lo hi tBy A n l) (hn : 0 < n) (hn2 : n ≤ 100000) (hh : hi ≤ W.heap.size) :
    Calls Tryz.prog 174 #[.slice A n c] W (RetOwn W 5 tBy l) := by
  obtain ⟨ba, oa, rfl, _, _, _⟩ := hs.cells hn
  have ho : Own (W.alloc (.cells #[] 5)) W.heap.size 5 tBy (.slice (some ⟨W.heap.size, 0, none⟩) 0 0) [] := Own.ofRow (T := tBy) (heap_alloc_new W _) (Nat.le_refl _) rfl (Nat.le_refl _) (by unfold maxLen; omega) rfl (fun _ h => absurd h List.not_mem_nil) rfl
  have hs1 := hs.alloc hh (.cells #[] 5)
  have hb1 := (Below.refl W.heap.size W).alloc (Nat.le_refl _) (.cells #[] 5)
  have he : ∀ u, (binOp .eql 57 (.slice (some ⟨ba, oa, none⟩) n c) (.slice none 0 0)).run Tryz.prog u = .ok (.bool false) u := fun u => by
    simp only [binOp]
    simp [Op.equal, Op.maxDepth, Lib.run_equalIn_slice_nil u 9999 57 5 (some ⟨ba, oa, none⟩) n c 0 0 Tryz.underlying57]
  go_enter Tryz.func174, Tryz.ntmps174
  go_wp2_with (at_builtin; refine append_law rfl (.tmp 5) (.tmp 6) rfl sl_by rfl ho rfl hs1 (fun h => by cases h) (by simp) (by simp; omega) ?_; intro v1 w1 ho1 hg1 _)
  go_ret
  exact RetOwn.mk' (by simpa using ho1) ((Below.refl _ _).grown hg1 (by simp) (fun k hk => (ho.lt k hk).1) |> hb1.trans)
theorem info_pr : (Tryz.prog.info? 235).map (·.size) = some 3 := by kernel_rfl
theorem info_sa : (Tryz.prog.info? 213).map (·.size) = some 4 := by kernel_rfl
set_option maxRecDepth 100000 in
set_option maxHeartbeats 8000000 in
theorem apply_e {W : World} {g lo hi n c : Nat} {A : Option Addr} {l : List UInt8} {t : TypeId} (k : ByteArray) (hk : k.size ≤ 32) (hg : Bx W g (wrC k A n c) t) (hs : Sl W lo hi tBy A n l) (hn : 0 < n) (hn2 : n ≤ 100) (hh : hi ≤ W.heap.size) :
    Calls Tryz.prog 106 #[.agg (saC (.slice none 0 0) 0 0 1), .int .u64 1, .slice (some ⟨g, 0, none⟩) 1 1] W fun e W' => ∃ q, e = .returned (.agg (saC (.slice (some ⟨q, 0, none⟩) 1 1) 1 1 2)) ∧ Below W.heap.size W W' := by
  have hs0 := hs.len
  obtain ⟨ba, oa, rfl, _, _, _⟩ := hs.cells hn
  have q1 := Bx.new (W.alloc (.cells (saC (.slice none 0 0) 0 0 1) 213)) (saC (.slice none 0 0) 0 0 0) 213
  rw [World.size_alloc] at q1
  have hB0 := ((Below.refl W.heap.size W).alloc (Nat.le_refl _) (.cells (saC (.slice none 0 0) 0 0 1) 213)).alloc (by simp) (.cells (saC (.slice none 0 0) 0 0 0) 213)
  have HI := Lib.hid (And.intro ((Bx.new W (saC (.slice none 0 0) 0 0 1) 213).alloc (.cells (saC (.slice none 0 0) 0 0 0) 213)) (And.intro q1 (And.intro (hg.below hB0 hg.lt) (And.intro (hs.below hB0 hh) hB0))))
  have z0 := hg.lt
  clear q1 hB0 hs hg
  go_enter Tryz.func106, Tryz.ntmps106
  go_upto_region 1 with fail
  refine wp_world (fun V => Bx V W.heap.size (saC (.slice none 0 0) 0 0 1) 213 ∧ Bx V (W.heap.size + 1) (saC (.slice none 0 0) 0 0 0) 213 ∧ Bx V g (wrC k (some ⟨ba, oa, none⟩) n c) t ∧ Sl V lo hi tBy (some ⟨ba, oa, none⟩) n l ∧ Below W.heap.size W V) HI.out ?_
  clear HI
  rintro V0 HV
  have HW := Lib.hid HV
  clear HV
  go_wp2
  go_loopw [15] (fun i wr => (i = .int .i64 0 ∧ Hid (Bx wr W.heap.size (saC (.slice none 0 0) 0 0 1) 213 ∧ Bx wr (W.heap.size + 1) (saC (.slice none 0 0) 0 0 0) 213 ∧ Bx wr g (wrC k (some ⟨ba, oa, none⟩) n c) t ∧ Sl wr lo hi tBy (some ⟨ba, oa, none⟩) n l ∧ Below W.heap.size W wr)) ∨
    (i = .int .i64 1 ∧ ∃ q, Hid (Bx wr W.heap.size (saC (.slice (some ⟨q, 0, none⟩) 1 1) 1 0 2) 213 ∧ Bx wr (W.heap.size + 1) (saC (.slice none 0 0) 0 0 0) 213 ∧ Below W.heap.size W wr))) (fun i _ => 1 - (intOf i).toNat)
  case atStart => exact .inl ⟨rfl, HW⟩
  case round =>
    clear HW
    rcases hrel with ⟨rfl, HW⟩ | ⟨rfl, q, HW⟩
    · have x0 := HW.out.2.2.1.cells
      go_upto_region 4 with fail
      have q2 := Bx.new wr (wrC k (some ⟨ba, oa, none⟩) n c) 259
      have hbw := (Below.refl wr.heap.size wr).alloc (Nat.le_refl _) (.cells (wrC k (some ⟨ba, oa, none⟩) n c) 259)
      refine wp_world (fun V => Bx V wr.heap.size (wrC k (some ⟨ba, oa, none⟩) n c) 259 ∧ Below wr.heap.size wr V) ⟨q2, hbw⟩ ?_
      clear q2 hbw x0
      rintro V1 ⟨b8, hb1⟩
      have x8 := b8.cells
      have xs := (HW.out.1.below hb1 HW.out.1.lt).cells
      go_wp2_with fail
      refine (find_0 _ _).mono ?_
      rintro e V2 ⟨rfl, hb2⟩
      have b82 := b8.below hb2 b8.lt
      have hb3 : Below wr.heap.size wr V2 := hb1.trans (hb2.mono hb1.size)
      clear x8 xs b8 hb1 hb2
      have x8 := b82.cells
      go_upto_region 10 with fail
      have hd3 := hb3.drew
      have X_0 : Bx V2.drew W.heap.size (saC (.slice none 0 0) 0 0 1) 213 := HW.out.1.below hd3 HW.out.1.lt
      have R_0 : Bx V2.drew (W.heap.size + 1) (saC (.slice none 0 0) 0 0 0) 213 := HW.out.2.1.below hd3 HW.out.2.1.lt
      have S_0 : Sl V2.drew lo hi tBy (some ⟨ba, oa, none⟩) n l := HW.out.2.2.2.1.below hd3 (Nat.le_trans hh HW.out.2.2.2.2.size)
      have K_0 : Below W.heap.size W V2.drew := HW.out.2.2.2.2.trans (hd3.mono HW.out.2.2.2.2.size)
      have B_0 : Bx V2.drew wr.heap.size (wrC k (some ⟨ba, oa, none⟩) n c) 259 := b82
      have hh0 : hi ≤ V2.drew.heap.size := Nat.le_trans hh K_0.size
      clear HW hb3 hd3 b82 x8
      have M_0 : Below V2.drew.heap.size V2.drew V2.drew := Below.refl _ _
      refine wp_region_held_drew (S := fun w => Bx w wr.heap.size (wrC k (some ⟨ba, oa, none⟩) n c) 259) (by kernel_rfl) B_0 (fun hS => ?_)
      refine tk (i := 0) (oi := { dst := some 54, op := .fieldAddr 259 (.tmp 8) 0, type := 0, pos := "store.go:110", after := #[], guard := none }) (v := ?_) ?_ hS ?_
      rotate_left
      · intro w9 hS9; have q1 := hS9.cells; go_simp; try with_reducible rfl
      try simp only [Act.put]
      try simp only [List.setIfInBounds_toArray]
      try simp only [List.set_cons_zero]
      try simp only [List.set_cons_succ]
      try simp only [List.set_cons_zero]
      refine tk (i := 1) (oi := { dst := some 55, op := .load 9 (.tmp 54), type := 9, pos := "store.go:110", after := #[⟨0, .data⟩], guard := none }) (v := ?_) ?_ hS ?_
      rotate_left
      · intro w9 hS9; have q1 := hS9.cells; go_simp; try with_reducible rfl
      try simp only [Act.put]
      try simp only [List.setIfInBounds_toArray]
      try simp only [List.set_cons_zero]
      try simp only [List.set_cons_succ]
      try simp only [List.set_cons_zero]
      refine tk (i := 2) (oi := { dst := some 56, op := .fieldAddr 259 (.tmp 8) 1, type := 0, pos := "store.go:110", after := #[], guard := none }) (v := ?_) ?_ hS ?_
      rotate_left
      · intro w9 hS9; have q1 := hS9.cells; go_simp; try with_reducible rfl
      try simp only [Act.put]
      try simp only [List.setIfInBounds_toArray]
      try simp only [List.set_cons_zero]
      try simp only [List.set_cons_succ]
      try simp only [List.set_cons_zero]
      refine tk (i := 3) (oi := { dst := some 57, op := .load 57 (.tmp 56), type := 57, pos := "store.go:110", after := #[⟨2, .data⟩], guard := none }) (v := ?_) ?_ hS ?_
      rotate_left
      · intro w9 hS9; have q1 := hS9.cells; go_simp; try with_reducible rfl
      try simp only [Act.put]
      try simp only [List.setIfInBounds_toArray]
      try simp only [List.set_cons_zero]
      try simp only [List.set_cons_succ]
      try simp only [List.set_cons_zero]
      refine tk (i := 5) (oi := { dst := some 59, op := .move (.tmp 1), type := 173, pos := "store.go:110", after := #[], guard := none }) (v := ?_) ?_ hS ?_
      rotate_left
      · intro w9 hS9; have q1 := hS9.cells; go_simp; try with_reducible rfl
      try simp only [Act.put]
      try simp only [List.setIfInBounds_toArray]
      try simp only [List.set_cons_zero]
      try simp only [List.set_cons_succ]
      try simp only [List.set_cons_zero]
      refine wpAnyH_ready (rs := [4, 7]) (by kernel_rfl) (by simp) ?_
      refine AllReadyH.cons (o := { dst := some 58, op := .call { callee := .value (.func 174), args := #[.tmp 57], argTypes := #[57] }, type := 57, pos := "store.go:110", after := #[⟨3, .data⟩], guard := none }) rfl (fun K9 hK9 => ?_) ?_
      · go_simp
        refine (clone_by (c := c) (S_0.below M_0 hh0) hn (by omega) (Nat.le_trans hh0 M_0.size)).mono ?_
        rintro e U_1 ⟨A5, c5, rfl, ho, hb⟩
        rw [hs0] at ho ⊢
        have M_1 := M_0.trans (hb.mono M_0.size)
        have C_1 := ho.sl
        have hlo5 : V2.drew.heap.size ≤ V2.drew.heap.size := M_0.size
        have hlo6 := hb.size
        refine hK9.out _ _ (B_0.below M_1 B_0.lt) (fun hS => ?_)
        clear hK9 K9
        try simp only [Act.put]
        try simp only [List.setIfInBounds_toArray]
        try simp only [List.set_cons_zero]
        try simp only [List.set_cons_succ]
        try simp only [List.set_cons_zero]
        refine tk (i := 6) (oi := { dst := some 60, op := .build 235 #[(0, .tmp 55), (1, .tmp 58), (2, .tmp 59)], type := 235, pos := "store.go:110", after := #[⟨1, .data⟩, ⟨4, .data⟩, ⟨5, .data⟩], guard := none }) (v := ?_) ?_ hS ?_
        rotate_left
        · intro w9 hS9; have q1 := hS9.cells; go_simp; try with_reducible rfl
        try simp only [Act.put]
        try simp only [List.setIfInBounds_toArray]
        try simp only [List.set_cons_zero]
        try simp only [List.set_cons_succ]
        try simp only [List.set_cons_zero]
        refine wpAnyH_ready (rs := [7]) (by kernel_rfl) (by simp) ?_
        refine AllReadyH.cons (o := { dst := some 12, op := .alloc 235, type := 0, pos := "store.go:110", after := #[], guard := none }) rfl (fun K9 hK9 => ?_) AllReadyH.nil
        have P_2 := Bx.new U_1 #[.string ⟨#[]⟩, .slice none 0 0, .int .u64 0] 235
        have M_2 := M_1.alloc M_1.size (.cells #[.string ⟨#[]⟩, .slice none 0 0, .int .u64 0] 235)
        have C_2 := C_1.alloc (Nat.le_refl _) (.cells #[.string ⟨#[]⟩, .slice none 0 0, .int .u64 0] 235)
        have hgl : V2.drew.heap.size ≤ U_1.heap.size := M_1.size
        go_simp
        refine hK9.out _ _ (B_0.below M_2 B_0.lt) (fun hS => ?_)
        clear hK9 K9
        try simp only [Act.put]
        try simp only [List.setIfInBounds_toArray]
        try simp only [List.set_cons_zero]
        try simp only [List.set_cons_succ]
        try simp only [List.set_cons_zero]
        refine wpAnyH_ready (rs := [8]) (by kernel_rfl) (by simp) ?_
        refine AllReadyH.cons (o := { dst := none, op := .store 235 (.tmp 12) (.tmp 60), type := 0, pos := "store.go:110", after := #[⟨7, .data⟩, ⟨6, .data⟩, ⟨4, .chain⟩, ⟨0, .phase⟩, ⟨1, .phase⟩, ⟨2, .phase⟩, ⟨3, .phase⟩, ⟨4, .phase⟩, ⟨5, .phase⟩, ⟨6, .phase⟩, ⟨7, .phase⟩], guard := none }) rfl (fun K9 hK9 => ?_) AllReadyH.nil
        have P_3 := P_2.row (pairC k A5 n c5)
        have M_3 := below_setRow M_2 hgl (pairC k A5 n c5)
        have C_3 := C_2.rowOther (g := U_1.heap.size) (.inr (Nat.le_refl _)) (pairC k A5 n c5)
        refine step_store_any 235 rfl (.tmp 12) (.tmp 60) (by rfl) (g := U_1.heap.size) (pairC k A5 n c5) (by rfl) (by rfl) P_2 info_pr rfl (by simp [Value.oneCell']) ?_
        refine hK9.out _ _ (B_0.below M_3 B_0.lt) (fun hS => ?_)
        clear hK9 K9
        try simp only [Act.put]
        try simp only [List.setIfInBounds_toArray]
        try simp only [List.set_cons_zero]
        try simp only [List.set_cons_succ]
        try simp only [List.set_cons_zero]
        refine wpAnyH_done (by kernel_rfl) ?_ _
        go_upto_region 11 with fail
        obtain ⟨lo5, hi5, hlh5, C_9⟩ : ∃ lo5 hi5, (V2.drew.heap.size ≤ lo5 ∧ hi5 ≤ ((U_1.alloc (.cells #[.string ⟨#[]⟩, .slice none 0 0, .int .u64 0] 235)).setRow U_1.heap.size (pairC k A5 n c5)).heap.size) ∧ Sl ((U_1.alloc (.cells #[.string ⟨#[]⟩, .slice none 0 0, .int .u64 0] 235)).setRow U_1.heap.size (pairC k A5 n c5)) lo5 hi5 tBy A5 n l := ⟨_, _, ⟨hlo5, by first | exact Nat.le_refl _ | (simp; done) | (simp; omega)⟩, C_3⟩
        refine wp_world (fun V => Bx V W.heap.size (saC (.slice none 0 0) 0 0 1) 213 ∧ Bx V (W.heap.size + 1) (saC (.slice none 0 0) 0 0 0) 213 ∧ Below W.heap.size W V ∧ Bx V U_1.heap.size (pairC k A5 n c5) 235 ∧ Sl V lo5 hi5 tBy A5 n l ∧ hi5 ≤ V.heap.size) ⟨X_0.below M_3 X_0.lt, R_0.below M_3 R_0.lt, K_0.trans (M_3.mono K_0.size), P_3, C_9, hlh5.2⟩ ?_
        have hlo7 := hlh5.1
        have hx0 := X_0.lt
        have hr0 := R_0.lt
        rintro V3 ⟨X1, R1, K1, P1, C1, hhi5⟩
        have x1 := X1.cells
        have p1 := P1.cells
        go_wp2_with fail
        refine (put_e _ k A5 n c5).mono ?_
        rintro e V4 ⟨q, rfl, hb4⟩
        have X2 := X1.below hb4 X1.lt
        have X3 := X2.put 0 (.slice (some ⟨q, 0, none⟩) 1 1)
        have R3 := (R1.below hb4 R1.lt).other (p := ⟨W.heap.size, 0, none⟩) (by show W.heap.size + 1 ≠ W.heap.size; omega) (.slice (some ⟨q, 0, none⟩) 1 1)
        have P3 := (P1.below hb4 P1.lt).other (p := ⟨W.heap.size, 0, none⟩) (by show U_1.heap.size ≠ W.heap.size; omega) (.slice (some ⟨q, 0, none⟩) 1 1)
        have C3 := (C1.below hb4 hhi5).setOther (p := ⟨W.heap.size, 0, none⟩) (.inl (by show W.heap.size < lo5; omega)) (.slice (some ⟨q, 0, none⟩) 1 1)
        have K3 := (K1.trans (hb4.mono K1.size)).setCell (p := ⟨W.heap.size, 0, none⟩) (Nat.le_refl _) (.slice (some ⟨q, 0, none⟩) 1 1)
        have hz4 := hb4.size
        have x2 := X2.cells
        have f2 := X2.free
        clear x1 p1
        go_upto_region 12 with fail
        refine wp_world (fun V => Bx V W.heap.size (saC (.slice (some ⟨q, 0, none⟩) 1 1) 0 0 1) 213 ∧ Bx V (W.heap.size + 1) (saC (.slice none 0 0) 0 0 0) 213 ∧ Below W.heap.size W V ∧ Bx V U_1.heap.size (pairC k A5 n c5) 235 ∧ Sl V lo5 hi5 tBy A5 n l ∧ hi5 ≤ V.heap.size) ⟨X3, R3, K3, P3, C3, by simp; omega⟩ ?_
        clear x2 f2 X2 X3 R3 K3 P3 C3 hb4 X1 R1 K1 P1 C1
        rintro V5 ⟨X1, R1, K1, P1, C1, hhi6⟩
        have X_1 : Bx V5.drew W.heap.size (saC (.slice (some ⟨q, 0, none⟩) 1 1) 0 0 1) 213 := X1
        have P_1 : Bx V5.drew U_1.heap.size (pairC k A5 n c5) 235 := P1
        have C_1 : Sl V5.drew lo5 hi5 tBy A5 n l := C1.drew
        refine wp_region_held_drew (S := fun w => Bx w U_1.heap.size (pairC k A5 n c5) 235) (by kernel_rfl) P_1 (fun hS => ?_)
        refine tk (i := 0) (oi := { dst := some 66, op := .fieldAddr 213 (.tmp 3) 3, type := 0, pos := "store.go:112", after := #[], guard := none }) (v := ?_) ?_ hS ?_
        rotate_left
        · intro w9 hS9; have q2 := hS9.cells; go_simp; try with_reducible rfl
        try simp only [Act.put]
        try simp only [List.setIfInBounds_toArray]
        try simp only [List.set_cons_zero]
        try simp only [List.set_cons_succ]
        try simp only [List.set_cons_zero]
        refine tk (i := 2) (oi := { dst := some 68, op := .load 235 (.tmp 12), type := 235, pos := "store.go:112", after := #[], guard := none }) (v := ?_) ?_ hS ?_
        rotate_left
        · intro w9 hS9; have q2 := hS9.cells; go_simp; try with_reducible rfl
        try simp only [Act.put]
        try simp only [List.setIfInBounds_toArray]
        try simp only [List.set_cons_zero]
        try simp only [List.set_cons_succ]
        try simp only [List.set_cons_zero]
        refine wpAnyH_ready (rs := [1, 3]) (by kernel_rfl) (by simp) ?_
        refine AllReadyH.cons (o := { dst := some 67, op := .load 3 (.tmp 66), type := 3, pos := "store.go:112", after := #[⟨0, .data⟩], guard := none }) rfl (fun K9 hK9 => ?_) ?_
        · have x7 := X_1.cells
          go_simp
          clear x7
          refine hK9.out _ _ P_1 (fun hS => ?_)
          clear hK9 K9
          try simp only [Act.put]
          try simp only [List.setIfInBounds_toArray]
          try simp only [List.set_cons_zero]
          try simp only [List.set_cons_succ]
          try simp only [List.set_cons_zero]
          refine wpAnyH_ready (rs := [3]) (by kernel_rfl) (by simp) ?_
          refine AllReadyH.cons (o := { dst := some 69, op := .call { callee := .value (.func 178), args := #[.tmp 68], argTypes := #[235] }, type := 3, pos := "store.go:112", after := #[⟨2, .data⟩], guard := none }) rfl (fun K9 hK9 => ?_) AllReadyH.nil
          go_simp
          refine (needp_1 (c := c5) k hk C_1 hn hn2 hhi6).mono ?_
          rintro e V6 ⟨rfl, hb6⟩
          have X_2 := X_1.below hb6 X_1.lt
          have P_2 := P_1.below hb6 P_1.lt
          refine hK9.out _ _ P_2 (fun hS => ?_)
          clear hK9 K9
          try simp only [Act.put]
          try simp only [List.setIfInBounds_toArray]
          try simp only [List.set_cons_zero]
          try simp only [List.set_cons_succ]
          try simp only [List.set_cons_zero]
          refine tk (i := 4) (oi := { dst := some 70, op := .binOp .add 3 (.tmp 67) (.tmp 69) 3, type := 3, pos := "store.go:112", after := #[⟨1, .data⟩, ⟨3, .data⟩], guard := none }) (v := ?_) ?_ hS ?_
          rotate_left
          · intro w9 hS9; have q2 := hS9.cells; go_simp; try with_reducible rfl
          try simp only [Act.put]
          try simp only [List.setIfInBounds_toArray]
          try simp only [List.set_cons_zero]
          try simp only [List.set_cons_succ]
          try simp only [List.set_cons_zero]
          refine tk (i := 5) (oi := { dst := some 71, op := .fieldAddr 213 (.tmp 3) 3, type := 0, pos := "store.go:112", after := #[⟨0, .phase⟩, ⟨1, .phase⟩, ⟨2, .phase⟩, ⟨3, .phase⟩, ⟨4, .phase⟩], guard := none }) (v := ?_) ?_ hS ?_
          rotate_left
          · intro w9 hS9; have q2 := hS9.cells; go_simp; try with_reducible rfl
          try simp only [Act.put]
          try simp only [List.setIfInBounds_toArray]
          try simp only [List.set_cons_zero]
          try simp only [List.set_cons_succ]
          try simp only [List.set_cons_zero]
          refine wpAnyH_ready (rs := [6]) (by kernel_rfl) (by simp) ?_
          refine AllReadyH.cons (o := { dst := none, op := .store 3 (.tmp 71) (.tmp 70), type := 0, pos := "store.go:112", after := #[⟨5, .data⟩, ⟨4, .data⟩, ⟨3, .chain⟩, ⟨0, .phase⟩, ⟨1, .phase⟩, ⟨2, .phase⟩, ⟨3, .phase⟩, ⟨4, .phase⟩], guard := none }) rfl (fun K9 hK9 => ?_) AllReadyH.nil
          have x6 := X_2.cells
          have f6 := X_2.free
          have X_3 := X_2.put 3 (.int .i64 2)
          have P_3 := P_2.other (p := ⟨W.heap.size, 3, none⟩) (by show U_1.heap.size ≠ W.heap.size; omega) (.int .i64 2)
          go_simp
          refine hK9.out _ _ P_3 (fun hS => ?_)
          clear hK9 K9
          try simp only [Act.put]
          try simp only [List.setIfInBounds_toArray]
          try simp only [List.set_cons_zero]
          try simp only [List.set_cons_succ]
          try simp only [List.set_cons_zero]
          refine wpAnyH_done (by kernel_rfl) ?_ _
          have R_3 := (Bx.below (w := V5.drew) R1 hb6 R1.lt).other (p := ⟨W.heap.size, 3, none⟩) (by show W.heap.size + 1 ≠ W.heap.size; omega) (.int .i64 2)
          have K_3 := ((K1.drew).trans (hb6.mono K1.size)).setCell (p := ⟨W.heap.size, 3, none⟩) (Nat.le_refl _) (.int .i64 2)
          clear x6 f6 X_2 P_2
          have x6 := X_3.cells
          have f6 := X_3.free
          have X9 := X_3.put 1 (.int .i64 1)
          have R9 := R_3.other (p := ⟨W.heap.size, 1, none⟩) (by show W.heap.size + 1 ≠ W.heap.size; omega) (.int .i64 1)
          have K9 := K_3.setCell (p := ⟨W.heap.size, 1, none⟩) (Nat.le_refl _) (.int .i64 1)
          have HF := Lib.hid (And.intro X9 (And.intro R9 K9))
          clear X9 R9 K9 R_3 K_3 X_3 P_3
          go_wp2
          go_roundw
          case rel => exact .inr ⟨by go_num, q, HF⟩
          case measure => simp [intOf]
        refine AllReadyH.cons (o := { dst := some 69, op := .call { callee := .value (.func 178), args := #[.tmp 68], argTypes := #[235] }, type := 3, pos := "store.go:112", after := #[⟨2, .data⟩], guard := none }) rfl (fun K9 hK9 => ?_) AllReadyH.nil
        go_simp
        refine (needp_1 (c := c5) k hk C_1 hn hn2 hhi6).mono ?_
        rintro e V6 ⟨rfl, hb6⟩
        have X_2 := X_1.below hb6 X_1.lt
        have P_2 := P_1.below hb6 P_1.lt
        refine hK9.out _ _ P_2 (fun hS => ?_)
        clear hK9 K9
        try simp only [Act.put]
        try simp only [List.setIfInBounds_toArray]
        try simp only [List.set_cons_zero]
        try simp only [List.set_cons_succ]
        try simp only [List.set_cons_zero]
        refine wpAnyH_ready (rs := [1]) (by kernel_rfl) (by simp) ?_
        refine AllReadyH.cons (o := { dst := some 67, op := .load 3 (.tmp 66), type := 3, pos := "store.go:112", after := #[⟨0, .data⟩], guard := none }) rfl (fun K9 hK9 => ?_) AllReadyH.nil
        have x7 := X_2.cells
        go_simp
        clear x7
        refine hK9.out _ _ P_2 (fun hS => ?_)
        clear hK9 K9
        try simp only [Act.put]
        try simp only [List.setIfInBounds_toArray]
        try simp only [List.set_cons_zero]
        try simp only [List.set_cons_succ]
        try simp only [List.set_cons_zero]
        refine tk (i := 4) (oi := { dst := some 70, op := .binOp .add 3 (.tmp 67) (.tmp 69) 3, type := 3, pos := "store.go:112", after := #[⟨1, .data⟩, ⟨3, .data⟩], guard := none }) (v := ?_) ?_ hS ?_
        rotate_left
        · intro w9 hS9; have q2 := hS9.cells; go_simp; try with_reducible rfl
        try simp only [Act.put]
        try simp only [List.setIfInBounds_toArray]
        try simp only [List.set_cons_zero]
        try simp only [List.set_cons_succ]
        try simp only [List.set_cons_zero]
        refine tk (i := 5) (oi := { dst := some 71, op := .fieldAddr 213 (.tmp 3) 3, type := 0, pos := "store.go:112", after := #[⟨0, .phase⟩, ⟨1, .phase⟩, ⟨2, .phase⟩, ⟨3, .phase⟩, ⟨4, .phase⟩], guard := none }) (v := ?_) ?_ hS ?_
        rotate_left
        · intro w9 hS9; have q2 := hS9.cells; go_simp; try with_reducible rfl
        try simp only [Act.put]
        try simp only [List.setIfInBounds_toArray]
        try simp only [List.set_cons_zero]
        try simp only [List.set_cons_succ]
        try simp only [List.set_cons_zero]
        refine wpAnyH_ready (rs := [6]) (by kernel_rfl) (by simp) ?_
        refine AllReadyH.cons (o := { dst := none, op := .store 3 (.tmp 71) (.tmp 70), type := 0, pos := "store.go:112", after := #[⟨5, .data⟩, ⟨4, .data⟩, ⟨3, .chain⟩, ⟨0, .phase⟩, ⟨1, .phase⟩, ⟨2, .phase⟩, ⟨3, .phase⟩, ⟨4, .phase⟩], guard := none }) rfl (fun K9 hK9 => ?_) AllReadyH.nil
        have x6 := X_2.cells
        have f6 := X_2.free
        have X_3 := X_2.put 3 (.int .i64 2)
        have P_3 := P_2.other (p := ⟨W.heap.size, 3, none⟩) (by show U_1.heap.size ≠ W.heap.size; omega) (.int .i64 2)
        go_simp
        refine hK9.out _ _ P_3 (fun hS => ?_)
        clear hK9 K9
        try simp only [Act.put]
        try simp only [List.setIfInBounds_toArray]
        try simp only [List.set_cons_zero]
        try simp only [List.set_cons_succ]
        try simp only [List.set_cons_zero]
        refine wpAnyH_done (by kernel_rfl) ?_ _
        have R_3 := (Bx.below (w := V5.drew) R1 hb6 R1.lt).other (p := ⟨W.heap.size, 3, none⟩) (by show W.heap.size + 1 ≠ W.heap.size; omega) (.int .i64 2)
        have K_3 := ((K1.drew).trans (hb6.mono K1.size)).setCell (p := ⟨W.heap.size, 3, none⟩) (Nat.le_refl _) (.int .i64 2)
        clear x6 f6 X_2 P_2
        have x6 := X_3.cells
        have f6 := X_3.free
        have X9 := X_3.put 1 (.int .i64 1)
        have R9 := R_3.other (p := ⟨W.heap.size, 1, none⟩) (by show W.heap.size + 1 ≠ W.heap.size; omega) (.int .i64 1)
        have K9 := K_3.setCell (p := ⟨W.heap.size, 1, none⟩) (Nat.le_refl _) (.int .i64 1)
        have HF := Lib.hid (And.intro X9 (And.intro R9 K9))
        clear X9 R9 K9 R_3 K_3 X_3 P_3
        go_wp2
        go_roundw
        case rel => exact .inr ⟨by go_num, q, HF⟩
        case measure => simp [intOf]
      refine AllReadyH.cons (o := { dst := some 12, op := .alloc 235, type := 0, pos := "store.go:110", after := #[], guard := none }) rfl (fun K9 hK9 => ?_) AllReadyH.nil
      have P_4 := Bx.new V2.drew #[.string ⟨#[]⟩, .slice none 0 0, .int .u64 0] 235
      have M_4 := M_0.alloc M_0.size (.cells #[.string ⟨#[]⟩, .slice none 0 0, .int .u64 0] 235)
      have hgl : V2.drew.heap.size ≤ V2.heap.size := M_0.size
      go_simp
      refine hK9.out _ _ (B_0.below M_4 B_0.lt) (fun hS => ?_)
      clear hK9 K9
      try simp only [Act.put]
      try simp only [List.setIfInBounds_toArray]
      try simp only [List.set_cons_zero]
      try simp only [List.set_cons_succ]
      try simp only [List.set_cons_zero]
      refine wpAnyH_ready (rs := [4]) (by kernel_rfl) (by simp) ?_
      refine AllReadyH.cons (o := { dst := some 58, op := .call { callee := .value (.func 174), args := #[.tmp 57], argTypes := #[57] }, type := 57, pos := "store.go:110", after := #[⟨3, .data⟩], guard := none }) rfl (fun K9 hK9 => ?_) AllReadyH.nil
      go_simp
      refine (clone_by (c := c) (S_0.below M_4 hh0) hn (by omega) (Nat.le_trans hh0 M_4.size)).mono ?_
      rintro e U_5 ⟨A5, c5, rfl, ho, hb⟩
      rw [hs0] at ho ⊢
      have M_5 := M_4.trans (hb.mono M_4.size)
      have C_5 := ho.sl
      have hlo5 : V2.drew.heap.size ≤ (V2.drew.alloc (.cells #[.string ⟨#[]⟩, .slice none 0 0, .int .u64 0] 235)).heap.size := M_4.size
      have hlo6 := hb.size
      have P_5 := P_4.below hb P_4.lt
      have hgp5 : V2.heap.size < (V2.drew.alloc (.cells #[.string ⟨#[]⟩, .slice none 0 0, .int .u64 0] 235)).heap.size := P_4.lt
      refine hK9.out _ _ (B_0.below M_5 B_0.lt) (fun hS => ?_)
      clear hK9 K9
      try simp only [Act.put]
      try simp only [List.setIfInBounds_toArray]
      try simp only [List.set_cons_zero]
      try simp only [List.set_cons_succ]
      try simp only [List.set_cons_zero]
      refine tk (i := 6) (oi := { dst := some 60, op := .build 235 #[(0, .tmp 55), (1, .tmp 58), (2, .tmp 59)], type := 235, pos := "store.go:110", after := #[⟨1, .data⟩, ⟨4, .data⟩, ⟨5, .data⟩], guard := none }) (v := ?_) ?_ hS ?_
      rotate_left
      · intro w9 hS9; have q1 := hS9.cells; go_simp; try with_reducible rfl
      try simp only [Act.put]
      try simp only [List.setIfInBounds_toArray]
      try simp only [List.set_cons_zero]
      try simp only [List.set_cons_succ]
      try simp only [List.set_cons_zero]
      refine wpAnyH_ready (rs := [8]) (by kernel_rfl) (by simp) ?_
      refine AllReadyH.cons (o := { dst := none, op := .store 235 (.tmp 12) (.tmp 60), type := 0, pos := "store.go:110", after := #[⟨7, .data⟩, ⟨6, .data⟩, ⟨4, .chain⟩, ⟨0, .phase⟩, ⟨1, .phase⟩, ⟨2, .phase⟩, ⟨3, .phase⟩, ⟨4, .phase⟩, ⟨5, .phase⟩, ⟨6, .phase⟩, ⟨7, .phase⟩], guard := none }) rfl (fun K9 hK9 => ?_) AllReadyH.nil
      have P_6 := P_5.row (pairC k A5 n c5)
      have M_6 := below_setRow M_5 hgl (pairC k A5 n c5)
      have C_6 := C_5.rowOther (g := V2.heap.size) (.inl hgp5) (pairC k A5 n c5)
      refine step_store_any 235 rfl (.tmp 12) (.tmp 60) (by rfl) (g := V2.heap.size) (pairC k A5 n c5) (by rfl) (by rfl) P_5 info_pr rfl (by simp [Value.oneCell']) ?_
      refine hK9.out _ _ (B_0.below M_6 B_0.lt) (fun hS => ?_)
      clear hK9 K9
      try simp only [Act.put]
      try simp only [List.setIfInBounds_toArray]
      try simp only [List.set_cons_zero]
      try simp only [List.set_cons_succ]
      try simp only [List.set_cons_zero]
      refine wpAnyH_done (by kernel_rfl) ?_ _
      go_upto_region 11 with fail
      obtain ⟨lo5, hi5, hlh5, C_9⟩ : ∃ lo5 hi5, (V2.drew.heap.size ≤ lo5 ∧ hi5 ≤ (U_5.setRow V2.heap.size (pairC k A5 n c5)).heap.size) ∧ Sl (U_5.setRow V2.heap.size (pairC k A5 n c5)) lo5 hi5 tBy A5 n l := ⟨_, _, ⟨hlo5, by first | exact Nat.le_refl _ | (simp; done) | (simp; omega)⟩, C_6⟩
      refine wp_world (fun V => Bx V W.heap.size (saC (.slice none 0 0) 0 0 1) 213 ∧ Bx V (W.heap.size + 1) (saC (.slice none 0 0) 0 0 0) 213 ∧ Below W.heap.size W V ∧ Bx V V2.heap.size (pairC k A5 n c5) 235 ∧ Sl V lo5 hi5 tBy A5 n l ∧ hi5 ≤ V.heap.size) ⟨X_0.below M_6 X_0.lt, R_0.below M_6 R_0.lt, K_0.trans (M_6.mono K_0.size), P_6, C_9, hlh5.2⟩ ?_
      have hlo7 := hlh5.1
      have hx0 := X_0.lt
      have hr0 := R_0.lt
      rintro V3 ⟨X1, R1, K1, P1, C1, hhi5⟩
      have x1 := X1.cells
      have p1 := P1.cells
      go_wp2_with fail
      refine (put_e _ k A5 n c5).mono ?_
      rintro e V4 ⟨q, rfl, hb4⟩
      have X2 := X1.below hb4 X1.lt
      have X3 := X2.put 0 (.slice (some ⟨q, 0, none⟩) 1 1)
      have R3 := (R1.below hb4 R1.lt).other (p := ⟨W.heap.size, 0, none⟩) (by show W.heap.size + 1 ≠ W.heap.size; omega) (.slice (some ⟨q, 0, none⟩) 1 1)
      have P3 := (P1.below hb4 P1.lt).other (p := ⟨W.heap.size, 0, none⟩) (by show V2.heap.size ≠ W.heap.size; omega) (.slice (some ⟨q, 0, none⟩) 1 1)
      have C3 := (C1.below hb4 hhi5).setOther (p := ⟨W.heap.size, 0, none⟩) (.inl (by show W.heap.size < lo5; omega)) (.slice (some ⟨q, 0, none⟩) 1 1)
      have K3 := (K1.trans (hb4.mono K1.size)).setCell (p := ⟨W.heap.size, 0, none⟩) (Nat.le_refl _) (.slice (some ⟨q, 0, none⟩) 1 1)
      have hz4 := hb4.size
      have x2 := X2.cells
      have f2 := X2.free
      clear x1 p1
      go_upto_region 12 with fail
      refine wp_world (fun V => Bx V W.heap.size (saC (.slice (some ⟨q, 0, none⟩) 1 1) 0 0 1) 213 ∧ Bx V (W.heap.size + 1) (saC (.slice none 0 0) 0 0 0) 213 ∧ Below W.heap.size W V ∧ Bx V V2.heap.size (pairC k A5 n c5) 235 ∧ Sl V lo5 hi5 tBy A5 n l ∧ hi5 ≤ V.heap.size) ⟨X3, R3, K3, P3, C3, by simp; omega⟩ ?_
      clear x2 f2 X2 X3 R3 K3 P3 C3 hb4 X1 R1 K1 P1 C1
      rintro V5 ⟨X1, R1, K1, P1, C1, hhi6⟩
      have X_1 : Bx V5.drew W.heap.size (saC (.slice (some ⟨q, 0, none⟩) 1 1) 0 0 1) 213 := X1
      have P_1 : Bx V5.drew V2.heap.size (pairC k A5 n c5) 235 := P1
      have C_1 : Sl V5.drew lo5 hi5 tBy A5 n l := C1.drew
      refine wp_region_held_drew (S := fun w => Bx w V2.heap.size (pairC k A5 n c5) 235) (by kernel_rfl) P_1 (fun hS => ?_)
      refine tk (i := 0) (oi := { dst := some 66, op := .fieldAddr 213 (.tmp 3) 3, type := 0, pos := "store.go:112", after := #[], guard := none }) (v := ?_) ?_ hS ?_
      rotate_left
      · intro w9 hS9; have q2 := hS9.cells; go_simp; try with_reducible rfl
      try simp only [Act.put]
      try simp only [List.setIfInBounds_toArray]
      try simp only [List.set_cons_zero]
      try simp only [List.set_cons_succ]
      try simp only [List.set_cons_zero]
      refine tk (i := 2) (oi := { dst := some 68, op := .load 235 (.tmp 12), type := 235, pos := "store.go:112", after := #[], guard := none }) (v := ?_) ?_ hS ?_
      rotate_left
      · intro w9 hS9; have q2 := hS9.cells; go_simp; try with_reducible rfl
      try simp only [Act.put]
      try simp only [List.setIfInBounds_toArray]
      try simp only [List.set_cons_zero]
      try simp only [List.set_cons_succ]
      try simp only [List.set_cons_zero]
      refine wpAnyH_ready (rs := [1, 3]) (by kernel_rfl) (by simp) ?_
      refine AllReadyH.cons (o := { dst := some 67, op := .load 3 (.tmp 66), type := 3, pos := "store.go:112", after := #[⟨0, .data⟩], guard := none }) rfl (fun K9 hK9 => ?_) ?_
      · have x7 := X_1.cells
        go_simp
        clear x7
        refine hK9.out _ _ P_1 (fun hS => ?_)
        clear hK9 K9
        try simp only [Act.put]
        try simp only [List.setIfInBounds_toArray]
        try simp only [List.set_cons_zero]
        try simp only [List.set_cons_succ]
        try simp only [List.set_cons_zero]
        refine wpAnyH_ready (rs := [3]) (by kernel_rfl) (by simp) ?_
        refine AllReadyH.cons (o := { dst := some 69, op := .call { callee := .value (.func 178), args := #[.tmp 68], argTypes := #[235] }, type := 3, pos := "store.go:112", after := #[⟨2, .data⟩], guard := none }) rfl (fun K9 hK9 => ?_) AllReadyH.nil
        go_simp
        refine (needp_1 (c := c5) k hk C_1 hn hn2 hhi6).mono ?_
        rintro e V6 ⟨rfl, hb6⟩
        have X_2 := X_1.below hb6 X_1.lt
        have P_2 := P_1.below hb6 P_1.lt
        refine hK9.out _ _ P_2 (fun hS => ?_)
        clear hK9 K9
        try simp only [Act.put]
        try simp only [List.setIfInBounds_toArray]
        try simp only [List.set_cons_zero]
        try simp only [List.set_cons_succ]
        try simp only [List.set_cons_zero]
        refine tk (i := 4) (oi := { dst := some 70, op := .binOp .add 3 (.tmp 67) (.tmp 69) 3, type := 3, pos := "store.go:112", after := #[⟨1, .data⟩, ⟨3, .data⟩], guard := none }) (v := ?_) ?_ hS ?_
        rotate_left
        · intro w9 hS9; have q2 := hS9.cells; go_simp; try with_reducible rfl
        try simp only [Act.put]
        try simp only [List.setIfInBounds_toArray]
        try simp only [List.set_cons_zero]
        try simp only [List.set_cons_succ]
        try simp only [List.set_cons_zero]
        refine tk (i := 5) (oi := { dst := some 71, op := .fieldAddr 213 (.tmp 3) 3, type := 0, pos := "store.go:112", after := #[⟨0, .phase⟩, ⟨1, .phase⟩, ⟨2, .phase⟩, ⟨3, .phase⟩, ⟨4, .phase⟩], guard := none }) (v := ?_) ?_ hS ?_
        rotate_left
        · intro w9 hS9; have q2 := hS9.cells; go_simp; try with_reducible rfl
        try simp only [Act.put]
        try simp only [List.setIfInBounds_toArray]
        try simp only [List.set_cons_zero]
        try simp only [List.set_cons_succ]
        try simp only [List.set_cons_zero]
        refine wpAnyH_ready (rs := [6]) (by kernel_rfl) (by simp) ?_
        refine AllReadyH.cons (o := { dst := none, op := .store 3 (.tmp 71) (.tmp 70), type := 0, pos := "store.go:112", after := #[⟨5, .data⟩, ⟨4, .data⟩, ⟨3, .chain⟩, ⟨0, .phase⟩, ⟨1, .phase⟩, ⟨2, .phase⟩, ⟨3, .phase⟩, ⟨4, .phase⟩], guard := none }) rfl (fun K9 hK9 => ?_) AllReadyH.nil
        have x6 := X_2.cells
        have f6 := X_2.free
        have X_3 := X_2.put 3 (.int .i64 2)
        have P_3 := P_2.other (p := ⟨W.heap.size, 3, none⟩) (by show V2.heap.size ≠ W.heap.size; omega) (.int .i64 2)
        go_simp
        refine hK9.out _ _ P_3 (fun hS => ?_)
        clear hK9 K9
        try simp only [Act.put]
        try simp only [List.setIfInBounds_toArray]
        try simp only [List.set_cons_zero]
        try simp only [List.set_cons_succ]
        try simp only [List.set_cons_zero]
        refine wpAnyH_done (by kernel_rfl) ?_ _
        have R_3 := (Bx.below (w := V5.drew) R1 hb6 R1.lt).other (p := ⟨W.heap.size, 3, none⟩) (by show W.heap.size + 1 ≠ W.heap.size; omega) (.int .i64 2)
        have K_3 := ((K1.drew).trans (hb6.mono K1.size)).setCell (p := ⟨W.heap.size, 3, none⟩) (Nat.le_refl _) (.int .i64 2)
        clear x6 f6 X_2 P_2
        have x6 := X_3.cells
        have f6 := X_3.free
        have X9 := X_3.put 1 (.int .i64 1)
        have R9 := R_3.other (p := ⟨W.heap.size, 1, none⟩) (by show W.heap.size + 1 ≠ W.heap.size; omega) (.int .i64 1)
        have K9 := K_3.setCell (p := ⟨W.heap.size, 1, none⟩) (Nat.le_refl _) (.int .i64 1)
        have HF := Lib.hid (And.intro X9 (And.intro R9 K9))
        clear X9 R9 K9 R_3 K_3 X_3 P_3
        go_wp2
        go_roundw
        case rel => exact .inr ⟨by go_num, q, HF⟩
        case measure => simp [intOf]
      refine AllReadyH.cons (o := { dst := some 69, op := .call { callee := .value (.func 178), args := #[.tmp 68], argTypes := #[235] }, type := 3, pos := "store.go:112", after := #[⟨2, .data⟩], guard := none }) rfl (fun K9 hK9 => ?_) AllReadyH.nil
      go_simp
      refine (needp_1 (c := c5) k hk C_1 hn hn2 hhi6).mono ?_
      rintro e V6 ⟨rfl, hb6⟩
      have X_2 := X_1.below hb6 X_1.lt
      have P_2 := P_1.below hb6 P_1.lt
      refine hK9.out _ _ P_2 (fun hS => ?_)
      clear hK9 K9
      try simp only [Act.put]
      try simp only [List.setIfInBounds_toArray]
      try simp only [List.set_cons_zero]
      try simp only [List.set_cons_succ]
      try simp only [List.set_cons_zero]
      refine wpAnyH_ready (rs := [1]) (by kernel_rfl) (by simp) ?_
      refine AllReadyH.cons (o := { dst := some 67, op := .load 3 (.tmp 66), type := 3, pos := "store.go:112", after := #[⟨0, .data⟩], guard := none }) rfl (fun K9 hK9 => ?_) AllReadyH.nil
      have x7 := X_2.cells
      go_simp
      clear x7
      refine hK9.out _ _ P_2 (fun hS => ?_)
      clear hK9 K9
      try simp only [Act.put]
      try simp only [List.setIfInBounds_toArray]
      try simp only [List.set_cons_zero]
      try simp only [List.set_cons_succ]
      try simp only [List.set_cons_zero]
      refine tk (i := 4) (oi := { dst := some 70, op := .binOp .add 3 (.tmp 67) (.tmp 69) 3, type := 3, pos := "store.go:112", after := #[⟨1, .data⟩, ⟨3, .data⟩], guard := none }) (v := ?_) ?_ hS ?_
      rotate_left
      · intro w9 hS9; have q2 := hS9.cells; go_simp; try with_reducible rfl
      try simp only [Act.put]
      try simp only [List.setIfInBounds_toArray]
      try simp only [List.set_cons_zero]
      try simp only [List.set_cons_succ]
      try simp only [List.set_cons_zero]
      refine tk (i := 5) (oi := { dst := some 71, op := .fieldAddr 213 (.tmp 3) 3, type := 0, pos := "store.go:112", after := #[⟨0, .phase⟩, ⟨1, .phase⟩, ⟨2, .phase⟩, ⟨3, .phase⟩, ⟨4, .phase⟩], guard := none }) (v := ?_) ?_ hS ?_
      rotate_left
      · intro w9 hS9; have q2 := hS9.cells; go_simp; try with_reducible rfl
      try simp only [Act.put]
      try simp only [List.setIfInBounds_toArray]
      try simp only [List.set_cons_zero]
      try simp only [List.set_cons_succ]
      try simp only [List.set_cons_zero]
      refine wpAnyH_ready (rs := [6]) (by kernel_rfl) (by simp) ?_
      refine AllReadyH.cons (o := { dst := none, op := .store 3 (.tmp 71) (.tmp 70), type := 0, pos := "store.go:112", after := #[⟨5, .data⟩, ⟨4, .data⟩, ⟨3, .chain⟩, ⟨0, .phase⟩, ⟨1, .phase⟩, ⟨2, .phase⟩, ⟨3, .phase⟩, ⟨4, .phase⟩], guard := none }) rfl (fun K9 hK9 => ?_) AllReadyH.nil
      have x6 := X_2.cells
      have f6 := X_2.free
      have X_3 := X_2.put 3 (.int .i64 2)
      have P_3 := P_2.other (p := ⟨W.heap.size, 3, none⟩) (by show V2.heap.size ≠ W.heap.size; omega) (.int .i64 2)
      go_simp
      refine hK9.out _ _ P_3 (fun hS => ?_)
      clear hK9 K9
      try simp only [Act.put]
      try simp only [List.setIfInBounds_toArray]
      try simp only [List.set_cons_zero]
      try simp only [List.set_cons_succ]
      try simp only [List.set_cons_zero]
      refine wpAnyH_done (by kernel_rfl) ?_ _
      have R_3 := (Bx.below (w := V5.drew) R1 hb6 R1.lt).other (p := ⟨W.heap.size, 3, none⟩) (by show W.heap.size + 1 ≠ W.heap.size; omega) (.int .i64 2)
      have K_3 := ((K1.drew).trans (hb6.mono K1.size)).setCell (p := ⟨W.heap.size, 3, none⟩) (Nat.le_refl _) (.int .i64 2)
      clear x6 f6 X_2 P_2
      have x6 := X_3.cells
      have f6 := X_3.free
      have X9 := X_3.put 1 (.int .i64 1)
      have R9 := R_3.other (p := ⟨W.heap.size, 1, none⟩) (by show W.heap.size + 1 ≠ W.heap.size; omega) (.int .i64 1)
      have K9 := K_3.setCell (p := ⟨W.heap.size, 1, none⟩) (Nat.le_refl _) (.int .i64 1)
      have HF := Lib.hid (And.intro X9 (And.intro R9 K9))
      clear X9 R9 K9 R_3 K_3 X_3 P_3
      go_wp2
      go_roundw
      case rel => exact .inr ⟨by go_num, q, HF⟩
      case measure => simp [intOf]
    · have x0 := HW.out.1.cells
      have f0 := HW.out.1.free
      have r1 := HW.out.1.put 2 (.int .u64 1)
      have r2 := HW.out.2.1.other (p := ⟨W.heap.size, 2, none⟩) (by show W.heap.size + 1 ≠ W.heap.size; omega) (.int .u64 1)
      have hb9 := HW.out.2.2.setCell (p := ⟨W.heap.size, 2, none⟩) (Nat.le_refl _) (.int .u64 1)
      go_upto_region 16 with fail
      refine wp_world (fun V => Bx V W.heap.size (saC (.slice (some ⟨q, 0, none⟩) 1 1) 1 1 2) 213 ∧ Bx V (W.heap.size + 1) (saC (.slice none 0 0) 0 0 0) 213 ∧ Below W.heap.size W V) ⟨r1, r2, hb9⟩ ?_
      clear x0 f0 r1 r2 hb9 HW
      rintro V8 ⟨b1, b2, hb⟩
      have x1 := b1.cells
      have r9 := b2.row (saC (.slice (some ⟨q, 0, none⟩) 1 1) 1 1 2)
      have hb9 := below_setRow hb (show W.heap.size ≤ W.heap.size + 1 by omega) (saC (.slice (some ⟨q, 0, none⟩) 1 1) 1 1 2)
      go_wp2_with (refine wpList_store_row rfl 213 (.tmp 6) (.tmp 82) rfl (W.heap.size + 1) (saC (.slice (some ⟨q, 0, none⟩) 1 1) 1 1 2) rfl rfl 213 _ b2 info_sa rfl (by simp [Value.oneCell']) ?_)
      exact ret_row rfl Tryz.underlying213 rfl info_sa r9 rfl rfl rfl ⟨q, rfl, hb9⟩
end Go.Proofs.YtggomjfllbljeaaGreatDoor
namespace Go.Proofs.YtggomjfllbljeaaGreatDoor
set_option linter.unusedVariables false
open Go Go.RowKit
set_option maxRecDepth 100000 in
set_option maxHeartbeats 8000000 in
theorem piece_9 {W : World} {lo hi c : Nat} {A : Option Addr} {l : List UInt8} (hs : Sl W lo hi tBy A 9 l) (hc : 9 ≤ c) (hh : hi ≤ W.heap.size) :
    Calls Tryz.prog 270 #[.int .u32 1, .int .i64 0, .int .i64 0, .slice A 9 c] W (RetBy W 512) := by
  obtain ⟨ba, oa, rfl, _, _, _⟩ := hs.cells (by omega)
  have HB := Lib.hid ((Below.refl W.heap.size W).alloc (Nat.le_refl _) (.cells #[.int .u8 2] 5))
  have HQ := Lib.hid (Sl.one (T := tBy) W 2 trivial #[.int .u8 2] rfl 5)
  have HS := Lib.hid (hs.alloc hh (.cells #[.int .u8 2] 5))
  have hl9 := hs.len
  clear hs
  go_enter Tryz.func270, Tryz.ntmps270
  go_wp2_with fail
  refine (put_by (n := 1) (l := [2]) _ 8 ?_ ?_ (by omega) HQ.out (by omega) (by omega) (by simp)).mono ?_
  · first | omega | decide
  · first | omega | decide
  rintro e V1 ⟨r1, hr1, A1, c1, rfl, ho1, hb1⟩
  have hl1 : ([2] ++ r1 : List UInt8).length = 9 := by rw [List.length_append, hr1]; rfl
  rw [hl1] at ho1 ⊢
  have HS1 := Lib.hid (HS.out.below hb1 (by simp; omega))
  have hbb1 : Below W.heap.size W V1 := HB.out.trans (hb1.mono HB.out.size)
  have HO1 := Lib.hid ho1.sl
  clear HS HQ HB hb1 ho1
  go_wp2_with fail
  refine (need_1 _ 9 (by omega) (by omega)).mono ?_
  rintro e V1 ⟨rfl, rfl⟩
  go_wp2_with fail
  refine (put_by (n := 9) (l := [2] ++ r1) _ 8 ?_ ?_ (by omega) HO1.out (by omega) (by omega) (Nat.le_refl _)).mono ?_
  · first | omega | decide
  · first | omega | decide
  rintro e V2 ⟨r2, hr2, A2, c2, rfl, ho2, hb2⟩
  have hl2 : ([2] ++ r1 ++ r2 : List UInt8).length = 17 := by rw [List.length_append, hl1, hr2]
  rw [hl2] at ho2 ⊢
  generalize ([2] ++ r1 ++ r2 : List UInt8) = l2 at ho2 hl2
  have hs2 := HS1.out.below hb2 (Nat.le_trans hh hbb1.size)
  have hbb2 := hbb1.trans (hb2.mono hbb1.size)
  have hz2 := hb2.size
  have hz1 := hbb1.size
  clear HS1 HO1 hb2
  go_wp2_with (at_builtin; refine append_law rfl (.tmp 37) (.tmp 47) rfl sl_by rfl ho2 rfl hs2 (fun h => by cases h) hz2 (by omega) ?_; intro v3 V3 ho3 hg3 _)
  have hb3 := (Below.refl V1.heap.size V2).grown hg3 hz2 (fun k hk => (ho2.lt k hk).1)
  have hl3 : (l2 ++ l).length = 26 := by rw [List.length_append, hl2, hl9]
  generalize l2 ++ l = l3 at ho3 hl3
  obtain ⟨A3, c3, rfl⟩ := ho3.form
  rw [hl3] at ho3 ⊢
  have hbb3 := hbb2.trans (hb3.mono hz1)
  clear hg3 hb3 hs2 ho2
  go_wp2_with fail
  refine (sealed_by (n := 26) (l := l3) ho3.sl (by omega) (by omega) (Nat.le_refl _)).mono ?_
  rintro e V4 ⟨r, hr, A4, c4, rfl, ho4, hb4⟩
  have hl4 : (l3 ++ r).length = 512 := by rw [List.length_append, hl3, hr]
  rw [hl4] at ho4 ⊢
  have HO4 := Lib.hid (ho4.more (B' := W.heap.size) hbb3.size)
  have HB4 := Lib.hid (hbb3.trans (hb4.mono hbb3.size))
  clear ho4 hb4 ho3
  go_wp2
  go_ret
  exact ⟨_, A4, c4, hl4, rfl, HO4.out, HB4.out⟩
set_option maxRecDepth 100000 in
theorem larea_1 {W : World} {d m l : Nat} {a used : Int} {v : Value} (h : DkS W d m 20 a) (hl : Bx W l (lgC d 1 used v) 297) :
    Calls Tryz.prog 269 #[.pointer (some ⟨l, 0, none⟩), .int .u32 1] W fun e W' => e = .returned (.int .i64 11) ∧ W = W' := by
  have c1 := hl.cells
  go_enter Tryz.func269, Tryz.ntmps269
  go_wp2_with fail
  refine (size_any h.bd).mono ?_
  rintro e V1 ⟨rfl, rfl⟩
  go_wp2_with fail
  refine (area_any 20 _ (by omega) (by omega)).mono ?_
  rintro e V2 ⟨rfl, rfl⟩
  go_wp2
  go_ret
  exact ⟨rfl, rfl⟩
end Go.Proofs.YtggomjfllbljeaaGreatDoor
namespace Go.Proofs.YtggomjfllbljeaaGreatDoor
set_option linter.unusedVariables false
open Go Go.RowKit
open Go.Maps
/-- What lies behind the write of one sector. -/
def RetLay (W : World) (d m : Nat) (a : Int) (e : Ending) (W' : World) : Prop :=
  ∃ (x : Wt) (q : Option Addr) (c : Nat), x.i = 11 ∧ e = .returned (.int .i64 0) ∧ Bx W' d (dkC 20 m (.slice q 1 c) (a - 1)) 139 ∧ Own W' W.heap.size 267 tWt (.slice q 1 c) [x] ∧ Kp (Od d) W W'
set_option maxRecDepth 100000 in
set_option maxHeartbeats 8000000 in
theorem lay_9 {W : World} {d m l lo hi c : Nat} {a : Int} {v : Value} {A : Option Addr} {ls : List UInt8} (h : DkS W d m 20 a) (hl : Bx W l (lgC d 1 0 v) 297) (hld : l ≠ d) (h0 : -90000 ≤ a) (h1 : a ≤ 90000) (hs : Sl W lo hi tBy A 9 ls) (hc : 9 ≤ c) (hh : hi ≤ W.heap.size) :
    Calls Tryz.prog 336 #[.pointer (some ⟨l, 0, none⟩), .int .u32 1, .int .i64 0, .int .i64 0, .slice A 9 c] W (RetLay W d m a) := by
  go_enter Tryz.func336, Tryz.ntmps336
  go_wp2_with fail
  refine (need_1 _ 9 (by omega) (by omega)).mono ?_
  rintro e V1 ⟨rfl, rfl⟩
  have HI := Lib.hid (And.intro h (And.intro hl hs))
  clear h hl hs
  go_wp2
  go_loopw [16] (fun i wr => (i = .int .i64 0 ∧ Hid (wr = W)) ∨ (i = .int .i64 1 ∧ Hid (RetLay W d m a (.returned (.int .i64 0)) wr))) (fun i _ => 1 - (intOf i).toNat)
  case atStart => exact .inl ⟨rfl, Lib.hid rfl⟩
  case round =>
    rcases hrel with ⟨rfl, HW⟩ | ⟨rfl, HW⟩
    · obtain rfl := HW.out
      clear HW
      obtain ⟨H, hl, hs⟩ := HI.out
      clear HI
      have D_0 : DkS wr.drew d m 20 a := H.keep ((Kp.refl (fun _ => False) wr).drew) (fun h => h) (fun h => h)
      have L_0 : Bx wr.drew l (lgC d 1 0 v) 297 := hl
      have S_0 : Sl wr.drew lo hi tBy A 9 ls := hs.drew
      have K_0 : Kp (Od d) wr wr.drew := (Kp.refl (Od d) wr).drew
      have M_0 : Below wr.drew.heap.size wr.drew wr.drew := Below.refl _ _
      clear H hl hs
      go_upto_region 4 with fail
      refine wp_region_held_drew (S := fun w => Bx w l (lgC d 1 0 v) 297) (by kernel_rfl) L_0 (fun hS => ?_)
      refine tk (i := 0) (oi := { dst := some 19, op := .move (.tmp 0), type := 205, pos := "wal.go:145", after := #[], guard := none }) (v := ?_) ?_ hS ?_
      rotate_left
      · intro w9 hS9; have q1 := hS9.cells; go_simp; try with_reducible rfl
      try simp only [Act.put]
      try simp only [List.setIfInBounds_toArray]
      try simp only [List.set_cons_zero]
      try simp only [List.set_cons_succ]
      try simp only [List.set_cons_zero]
      refine tk (i := 1) (oi := { dst := some 20, op := .nilCheck (.tmp 19), type := 0, pos := "wal.go:145", after := #[⟨0, .data⟩], guard := none }) (v := ?_) ?_ hS ?_
      rotate_left
      · intro w9 hS9; have q1 := hS9.cells; go_simp; try with_reducible rfl
      try simp only [Act.put]
      try simp only [List.setIfInBounds_toArray]
      try simp only [List.set_cons_zero]
      try simp only [List.set_cons_succ]
      try simp only [List.set_cons_zero]
      refine tk (i := 2) (oi := { dst := some 21, op := .fieldAddr 297 (.tmp 20) 0, type := 0, pos := "wal.go:145", after := #[⟨1, .data⟩], guard := none }) (v := ?_) ?_ hS ?_
      rotate_left
      · intro w9 hS9; have q1 := hS9.cells; go_simp; try with_reducible rfl
      try simp only [Act.put]
      try simp only [List.setIfInBounds_toArray]
      try simp only [List.set_cons_zero]
      try simp only [List.set_cons_succ]
      try simp only [List.set_cons_zero]
      refine tk (i := 3) (oi := { dst := some 22, op := .load 84 (.tmp 21), type := 84, pos := "wal.go:145", after := #[⟨2, .data⟩], guard := none }) (v := ?_) ?_ hS ?_
      rotate_left
      · intro w9 hS9; have q1 := hS9.cells; go_simp; try with_reducible rfl
      try simp only [Act.put]
      try simp only [List.setIfInBounds_toArray]
      try simp only [List.set_cons_zero]
      try simp only [List.set_cons_succ]
      try simp only [List.set_cons_zero]
      refine tk (i := 4) (oi := { dst := some 23, op := .move (.tmp 0), type := 205, pos := "wal.go:145", after := #[], guard := none }) (v := ?_) ?_ hS ?_
      rotate_left
      · intro w9 hS9; have q1 := hS9.cells; go_simp; try with_reducible rfl
      try simp only [Act.put]
      try simp only [List.setIfInBounds_toArray]
      try simp only [List.set_cons_zero]
      try simp only [List.set_cons_succ]
      try simp only [List.set_cons_zero]
      refine tk (i := 5) (oi := { dst := some 24, op := .move (.tmp 1), type := 291, pos := "wal.go:145", after := #[], guard := none }) (v := ?_) ?_ hS ?_
      rotate_left
      · intro w9 hS9; have q1 := hS9.cells; go_simp; try with_reducible rfl
      try simp only [Act.put]
      try simp only [List.setIfInBounds_toArray]
      try simp only [List.set_cons_zero]
      try simp only [List.set_cons_succ]
      try simp only [List.set_cons_zero]
      refine tk (i := 7) (oi := { dst := some 26, op := .move (.tmp 3), type := 3, pos := "wal.go:145", after := #[], guard := none }) (v := ?_) ?_ hS ?_
      rotate_left
      · intro w9 hS9; have q1 := hS9.cells; go_simp; try with_reducible rfl
      try simp only [Act.put]
      try simp only [List.setIfInBounds_toArray]
      try simp only [List.set_cons_zero]
      try simp only [List.set_cons_succ]
      try simp only [List.set_cons_zero]
      refine tk (i := 9) (oi := { dst := some 28, op := .move (.tmp 11), type := 3, pos := "wal.go:145", after := #[], guard := none }) (v := ?_) ?_ hS ?_
      rotate_left
      · intro w9 hS9; have q1 := hS9.cells; go_simp; try with_reducible rfl
      try simp only [Act.put]
      try simp only [List.setIfInBounds_toArray]
      try simp only [List.set_cons_zero]
      try simp only [List.set_cons_succ]
      try simp only [List.set_cons_zero]
      refine tk (i := 11) (oi := { dst := some 30, op := .move (.tmp 1), type := 291, pos := "wal.go:145", after := #[], guard := none }) (v := ?_) ?_ hS ?_
      rotate_left
      · intro w9 hS9; have q1 := hS9.cells; go_simp; try with_reducible rfl
      try simp only [Act.put]
      try simp only [List.setIfInBounds_toArray]
      try simp only [List.set_cons_zero]
      try simp only [List.set_cons_succ]
      try simp only [List.set_cons_zero]
      refine tk (i := 12) (oi := { dst := some 31, op := .move (.tmp 2), type := 3, pos := "wal.go:145", after := #[], guard := none }) (v := ?_) ?_ hS ?_
      rotate_left
      · intro w9 hS9; have q1 := hS9.cells; go_simp; try with_reducible rfl
      try simp only [Act.put]
      try simp only [List.setIfInBounds_toArray]
      try simp only [List.set_cons_zero]
      try simp only [List.set_cons_succ]
      try simp only [List.set_cons_zero]
      refine tk (i := 13) (oi := { dst := some 32, op := .move (.tmp 11), type := 3, pos := "wal.go:145", after := #[], guard := none }) (v := ?_) ?_ hS ?_
      rotate_left
      · intro w9 hS9; have q1 := hS9.cells; go_simp; try with_reducible rfl
      try simp only [Act.put]
      try simp only [List.setIfInBounds_toArray]
      try simp only [List.set_cons_zero]
      try simp only [List.set_cons_succ]
      try simp only [List.set_cons_zero]
      refine tk (i := 14) (oi := { dst := some 33, op := .move (.tmp 4), type := 57, pos := "wal.go:145", after := #[], guard := none }) (v := ?_) ?_ hS ?_
      rotate_left
      · intro w9 hS9; have q1 := hS9.cells; go_simp; try with_reducible rfl
      try simp only [Act.put]
      try simp only [List.setIfInBounds_toArray]
      try simp only [List.set_cons_zero]
      try simp only [List.set_cons_succ]
      try simp only [List.set_cons_zero]
      refine wpAnyH_ready (rs := [6]) (by kernel_rfl) (by simp) ?_
      refine AllReadyH.cons (o := { dst := some 25, op := .call { callee := .value (.func 269), args := #[.tmp 23, .tmp 24], argTypes := #[205, 291] }, type := 3, pos := "wal.go:145", after := #[⟨4, .data⟩, ⟨5, .data⟩], guard := none }) rfl (fun K9 hK9 => ?_) AllReadyH.nil
      go_simp
      refine (larea_1 (d := d) (m := m) (a := a) (D_0) (L_0)).mono ?_
      rintro e U ⟨rfl, hUU⟩
      subst hUU
      refine hK9.out _ _ L_0 (fun hS => ?_)
      clear hK9 K9
      try simp only [Act.put]
      try simp only [List.setIfInBounds_toArray]
      try simp only [List.set_cons_zero]
      try simp only [List.set_cons_succ]
      try simp only [List.set_cons_zero]
      refine tk (i := 8) (oi := { dst := some 27, op := .binOp .add 3 (.tmp 25) (.tmp 26) 3, type := 3, pos := "wal.go:145", after := #[⟨6, .data⟩, ⟨7, .data⟩], guard := none }) (v := ?_) ?_ hS ?_
      rotate_left
      · intro w9 hS9; have q1 := hS9.cells; go_simp; try with_reducible rfl
      try simp only [Act.put]
      try simp only [List.setIfInBounds_toArray]
      try simp only [List.set_cons_zero]
      try simp only [List.set_cons_succ]
      try simp only [List.set_cons_zero]
      refine tk (i := 10) (oi := { dst := some 29, op := .binOp .add 3 (.tmp 27) (.tmp 28) 3, type := 3, pos := "wal.go:145", after := #[⟨8, .data⟩, ⟨9, .data⟩], guard := none }) (v := ?_) ?_ hS ?_
      rotate_left
      · intro w9 hS9; have q1 := hS9.cells; go_simp; try with_reducible rfl
      try simp only [Act.put]
      try simp only [List.setIfInBounds_toArray]
      try simp only [List.set_cons_zero]
      try simp only [List.set_cons_succ]
      try simp only [List.set_cons_zero]
      refine wpAnyH_ready (rs := [15]) (by kernel_rfl) (by simp) ?_
      refine AllReadyH.cons (o := { dst := some 34, op := .call { callee := .value (.func 270), args := #[.tmp 30, .tmp 31, .tmp 32, .tmp 33], argTypes := #[291, 3, 3, 57] }, type := 57, pos := "wal.go:145", after := #[⟨11, .data⟩, ⟨12, .data⟩, ⟨13, .data⟩, ⟨14, .data⟩, ⟨6, .chain⟩], guard := none }) rfl (fun K9 hK9 => ?_) AllReadyH.nil
      go_simp
      refine (piece_9 S_0 hc hh).mono ?_
      rintro e U1 ⟨l9, A9, c9, hl9, rfl, ho9, hb9⟩
      have D_1 : DkS U1 d m 20 a := D_0.keep (Kp.of (S := fun _ => False) hb9) (fun h => h) (fun h => h)
      have L_1 := L_0.below hb9 L_0.lt
      have K_1 := K_0.trans (S' := Od d) (Kp.of hb9) (fun _ _ e => e)
      refine hK9.out _ _ L_1 (fun hS => ?_)
      clear hK9 K9
      try simp only [Act.put]
      try simp only [List.setIfInBounds_toArray]
      try simp only [List.set_cons_zero]
      try simp only [List.set_cons_succ]
      try simp only [List.set_cons_zero]
      refine wpAnyH_ready (rs := [16]) (by kernel_rfl) (by simp) ?_
      refine AllReadyH.cons (o := { dst := some 35, op := .call { callee := .value (.func 355), args := #[.tmp 22, .tmp 29, .tmp 34], argTypes := #[84, 3, 57] }, type := 26, pos := "wal.go:145", after := #[⟨3, .data⟩, ⟨10, .data⟩, ⟨15, .data⟩, ⟨15, .chain⟩], guard := none }) rfl (fun K9 hK9 => ?_) AllReadyH.nil
      go_simp
      obtain ⟨x, hx⟩ : ∃ x : Wt, x = ⟨11, l9, hl9⟩ := ⟨_, rfl⟩
      have hdz := D_0.bd.lt
      refine (write_any (i := 11) (lo := wr.drew.heap.size) (hi := U1.heap.size) x (by rw [hx]) D_1.bd (by rw [hx]; exact ho9.sl) (Nat.le_refl _) (.inl hdz) (by omega) (by omega) (by omega) (by omega) (by omega)).mono ?_
      rintro e U2 ⟨q, c3, rfl, hd3, ho3, hK3⟩
      have L_2 := hK3.bx L_1 (by unfold Od; exact hld)
      have K_2 := K_1.trans (S' := Od d) hK3 (fun _ _ e => e)
      refine hK9.out _ _ L_2 (fun hS => ?_)
      clear hK9 K9
      try simp only [Act.put]
      try simp only [List.setIfInBounds_toArray]
      try simp only [List.set_cons_zero]
      try simp only [List.set_cons_succ]
      try simp only [List.set_cons_zero]
      refine tk (i := 17) (oi := { dst := some 12, op := .assign (.tmp 35), type := 26, pos := "wal.go:145", after := #[⟨16, .data⟩, ⟨16, .chain⟩, ⟨0, .phase⟩, ⟨1, .phase⟩, ⟨2, .phase⟩, ⟨3, .phase⟩, ⟨4, .phase⟩, ⟨5, .phase⟩, ⟨6, .phase⟩, ⟨7, .phase⟩, ⟨8, .phase⟩, ⟨9, .phase⟩, ⟨10, .phase⟩, ⟨11, .phase⟩, ⟨12, .phase⟩, ⟨13, .phase⟩, ⟨14, .phase⟩, ⟨15, .phase⟩, ⟨16, .phase⟩], guard := none }) (v := ?_) ?_ hS ?_
      rotate_left
      · intro w9 hS9; have q1 := hS9.cells; go_simp; try with_reducible rfl
      try simp only [Act.put]
      try simp only [List.setIfInBounds_toArray]
      try simp only [List.set_cons_zero]
      try simp only [List.set_cons_succ]
      try simp only [List.set_cons_zero]
      refine wpAnyH_done (by kernel_rfl) ?_ _
      have hxi : x.i = 11 := by rw [hx]
      have HR := Lib.hid (show RetLay wr d m a (.returned (.int .i64 0)) U2 from ⟨x, q, c3, hxi, rfl, hd3, ho3.more hb9.size, K_2⟩)
      clear hd3 ho3 hK3 L_2 K_2 L_1 K_1 D_1
      go_wp2
      go_roundw
      case rel => exact .inr ⟨by go_num, HR⟩
      case measure => simp [intOf]
    · go_wp2
      go_ret
      exact HW.out
end Go.Proofs.YtggomjfllbljeaaGreatDoor
