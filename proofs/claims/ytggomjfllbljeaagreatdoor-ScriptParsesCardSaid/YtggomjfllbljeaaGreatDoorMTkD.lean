/- Put together by program of: TkA, TkB, TkC. -/
import Derived.Test.YtggomjfllbljeaaGreatDoorMTkC
import Derived.Test.YtggomjfllbljeaaGreatDoorTkS
namespace Go.Proofs.YtggomjfllbljeaaGreatDoor
set_option linter.unusedVariables false
open Go Go.RowKit
open Go.Maps
/-- The blocks that a tick turns. -/
abbrev Otk (x s d m l : Nat) : Nat → Prop := fun b => b = x ∨ b = s ∨ Odl d m l b
/-- What a tick leaves. -/
def RetTk (W : World) (x s d m l du : Nat) (e : Ending) (W' : World) : Prop :=
  e = .returned (.int .i64 0) ∧ (∃ pn qs k bk, Bx W' x (xC s pn qs k bk 5 du) 231) ∧ Kp (Otk x s d m l) W W'
set_option maxRecDepth 100000 in
set_option maxHeartbeats 8000000 in
theorem stick_5 {W : World} {d m s l x du : Nat} {a : Int} {pn qs : Nat} {k bk : Value} {mp : Option Nat} (hx : Bx W x (xC s pn qs k bk 0 du) 231) (hst : Bx W s (stC 9 l) 215) (hD : DkS W d m 20 a) (hl : Bx W l (lgC d 1 0 (.slice none 0 0)) 297) (hdu : Bx W du #[.slice none 0 0, .map mp] 322)
    (hn : [d, m, s, l, x, du].Nodup) (h0 : -90000 ≤ a) (h1 : a ≤ 90000) :
    Calls Tryz.prog 76 #[.pointer (some ⟨x, 0, none⟩), .int .i64 5] W (RetTk W x s d m l du) := by
  simp only [List.nodup_cons, List.mem_cons, List.mem_nil_iff, or_false, not_or, List.nodup_nil, and_true, not_false_eq_true] at hn
  obtain ⟨⟨ndm, nds, ndl, ndx, ndu⟩, ⟨nms, nml, nmx, nmu⟩, ⟨nsl, nsx, nsu⟩, ⟨nlx, nlu⟩, nxu⟩ := hn
  have HI := Lib.hid (And.intro hx (And.intro hst (And.intro hD (And.intro hl hdu))))
  have c1 := hx.cells
  clear hx hst hD hl hdu
  have HB := Lib.hid ((Below.refl W.heap.size W).alloc (Nat.le_refl _) (.cells #[.int .i64 0, .int .i64 5] 185))
  go_enter Tryz.func76, Tryz.ntmps76
  go_upto_region 7 with fail
  refine wp_world (fun V => Bx V W.heap.size #[.int .i64 0, .int .i64 5] 185 ∧ Below W.heap.size W V) (by first | exact ⟨Bx.new _ _ _, HB.out⟩ | exact ⟨(Bx.new _ _ _).put 1 _, ((Below.refl _ _).alloc (Nat.le_refl _) _).setCell (Nat.le_refl _) _⟩) ?_
  clear c1 HB
  rintro V1 ⟨b5, hb1⟩
  have c5 := b5.cells
  go_wp2_with fail
  refine (ofcount_5 _).mono ?_
  rintro e V2 ⟨lb, A, c, hlb, rfl, hsb, hb2⟩
  have b52 := b5.below hb2 b5.lt
  have hb3 := (hb1.trans (hb2.mono hb1.size)).drew
  have X_0 : Bx V2.drew x (xC s pn qs k bk 0 du) 231 := HI.out.1.below hb3 HI.out.1.lt
  have St_0 : Bx V2.drew s (stC 9 l) 215 := HI.out.2.1.below hb3 HI.out.2.1.lt
  have D_0 : DkS V2.drew d m 20 a := HI.out.2.2.1.keep (Kp.of (S := fun _ => False) hb3) (fun h => h) (fun h => h)
  have L_0 : Bx V2.drew l (lgC d 1 0 (.slice none 0 0)) 297 := HI.out.2.2.2.1.below hb3 HI.out.2.2.2.1.lt
  have U_0 : Bx V2.drew du #[.slice none 0 0, .map mp] 322 := HI.out.2.2.2.2.below hb3 HI.out.2.2.2.2.lt
  have C_0 : Bx V2.drew W.heap.size #[.int .i64 0, .int .i64 5] 185 := b52
  have S_0 : Sl V2.drew V1.heap.size V2.drew.heap.size tBy A 3 lb := hsb.drew
  have K_0 : Kp (Otk x s d m l) W V2.drew := Kp.of hb3
  have zx := HI.out.1.lt
  have zs := HI.out.2.1.lt
  have zd := HI.out.2.2.1.bd.lt
  have zm : m < W.heap.size := by obtain ⟨g, hg⟩ := HI.out.2.2.1.bm; exact hg.size
  have zl := HI.out.2.2.2.1.lt
  clear HI b5 c5 hb1 hb2 hb3 b52 hsb
  have c1 : ∀ i, V2.cell? ⟨x, i, none⟩ = _ := X_0.cells
  go_upto_region 9 with fail
  clear c1
  refine wp_region_held_drew (S := fun w => Bx w x (xC s pn qs k bk 0 du) 231) (by kernel_rfl) X_0 (fun hS => ?_)
  refine tk (i := 0) (oi := { dst := some 38, op := .move (.tmp 0), type := 86, pos := "queues.go:119", after := #[], guard := none }) (v := ?_) ?_ hS ?_
  rotate_left
  · intro w9 hS9; have q1 := hS9.cells; go_simp; try with_reducible rfl
  try simp only [Act.put]
  try simp only [List.setIfInBounds_toArray]
  try simp only [List.set_cons_zero]
  try simp only [List.set_cons_succ]
  try simp only [List.set_cons_zero]
  refine tk (i := 1) (oi := { dst := some 39, op := .nilCheck (.tmp 38), type := 0, pos := "queues.go:119", after := #[⟨0, .data⟩], guard := none }) (v := ?_) ?_ hS ?_
  rotate_left
  · intro w9 hS9; have q1 := hS9.cells; go_simp; try with_reducible rfl
  try simp only [Act.put]
  try simp only [List.setIfInBounds_toArray]
  try simp only [List.set_cons_zero]
  try simp only [List.set_cons_succ]
  try simp only [List.set_cons_zero]
  refine tk (i := 2) (oi := { dst := some 40, op := .fieldAddr 231 (.tmp 39) 0, type := 0, pos := "queues.go:119", after := #[⟨1, .data⟩], guard := none }) (v := ?_) ?_ hS ?_
  rotate_left
  · intro w9 hS9; have q1 := hS9.cells; go_simp; try with_reducible rfl
  try simp only [Act.put]
  try simp only [List.setIfInBounds_toArray]
  try simp only [List.set_cons_zero]
  try simp only [List.set_cons_succ]
  try simp only [List.set_cons_zero]
  refine tk (i := 3) (oi := { dst := some 41, op := .load 85 (.tmp 40), type := 85, pos := "queues.go:119", after := #[⟨2, .data⟩], guard := none }) (v := ?_) ?_ hS ?_
  rotate_left
  · intro w9 hS9; have q1 := hS9.cells; go_simp; try with_reducible rfl
  try simp only [Act.put]
  try simp only [List.setIfInBounds_toArray]
  try simp only [List.set_cons_zero]
  try simp only [List.set_cons_succ]
  try simp only [List.set_cons_zero]
  refine tk (i := 4) (oi := { dst := some 42, op := .move (.tmp 0), type := 86, pos := "queues.go:119", after := #[], guard := none }) (v := ?_) ?_ hS ?_
  rotate_left
  · intro w9 hS9; have q1 := hS9.cells; go_simp; try with_reducible rfl
  try simp only [Act.put]
  try simp only [List.setIfInBounds_toArray]
  try simp only [List.set_cons_zero]
  try simp only [List.set_cons_succ]
  try simp only [List.set_cons_zero]
  refine tk (i := 5) (oi := { dst := some 43, op := .move (.tmp 6), type := 57, pos := "queues.go:119", after := #[], guard := none }) (v := ?_) ?_ hS ?_
  rotate_left
  · intro w9 hS9; have q1 := hS9.cells; go_simp; try with_reducible rfl
  try simp only [Act.put]
  try simp only [List.setIfInBounds_toArray]
  try simp only [List.set_cons_zero]
  try simp only [List.set_cons_succ]
  try simp only [List.set_cons_zero]
  refine wpAnyH_ready (rs := [6]) (by kernel_rfl) (by simp) ?_
  refine AllReadyH.cons (o := { dst := some 44, op := .call { callee := .value (.func 138), args := #[.tmp 42, .const (.string { data := #[67] }), .tmp 43], argTypes := #[86, 9, 57] }, type := 259, pos := "queues.go:119", after := #[⟨4, .data⟩, ⟨5, .data⟩], guard := none }) rfl (fun K9 hK9 => ?_) AllReadyH.nil
  go_simp
  refine (write_e (c := c) (A := A) X_0 St_0 kC (n := 3) (by omega)).mono ?_
  rintro e U1 ⟨rfl, hb⟩
  have X_1 := X_0.below hb X_0.lt
  refine hK9.out _ _ X_1 (fun hS => ?_)
  clear hK9 K9
  try simp only [Act.put]
  try simp only [List.setIfInBounds_toArray]
  try simp only [List.set_cons_zero]
  try simp only [List.set_cons_succ]
  try simp only [List.set_cons_zero]
  refine wpAnyH_ready (rs := [7]) (by kernel_rfl) (by simp) ?_
  refine AllReadyH.cons (o := { dst := some 45, op := .buildSlice 218 1 #[(0, .tmp 44)], type := 218, pos := "queues.go:119", after := #[⟨6, .data⟩], guard := none }) rfl (fun K9 hK9 => ?_) AllReadyH.nil
  have M_1 : Below V2.drew.heap.size V2.drew U1 := hb
  have M_2 := M_1.alloc M_1.size (.cells (wrC kC A 3 c) 259)
  have X_2 := X_1.alloc (.cells (wrC kC A 3 c) 259)
  have G_2 := Bx.new U1 (wrC kC A 3 c) 259
  go_simp
  refine hK9.out _ _ X_2 (fun hS => ?_)
  clear hK9 K9
  try simp only [Act.put]
  try simp only [List.setIfInBounds_toArray]
  try simp only [List.set_cons_zero]
  try simp only [List.set_cons_succ]
  try simp only [List.set_cons_zero]
  refine wpAnyH_ready (rs := [8]) (by kernel_rfl) (by simp) ?_
  refine AllReadyH.cons (o := { dst := some 46, op := .call { callee := .value (.func 137), args := #[.tmp 41, .tmp 45], argTypes := #[85, 218] }, type := 256, pos := "queues.go:119", after := #[⟨3, .data⟩, ⟨7, .data⟩, ⟨6, .chain⟩], guard := none }) rfl (fun K9 hK9 => ?_) AllReadyH.nil
  go_simp
  refine (commit_1 (c := c) (ls := lb) (lo := V1.heap.size) (hi := V2.drew.heap.size) (St_0.below M_2 St_0.lt) (D_0.keep (Kp.of (S := fun _ => False) M_2) (fun h => h) (fun h => h)) (L_0.below M_2 L_0.lt) (by omega) (by omega) (by omega) (by omega) (by omega) h0 h1 G_2 (S_0.below M_2 (Nat.le_refl _)) M_2.size).mono ?_
  rintro e U3 ⟨rfl, hK⟩
  have X_3 := hK.bx X_2 (by rintro (e | e | e | e) <;> omega)
  refine hK9.out _ _ X_3 (fun hS => ?_)
  clear hK9 K9
  try simp only [Act.put]
  try simp only [List.setIfInBounds_toArray]
  try simp only [List.set_cons_zero]
  try simp only [List.set_cons_succ]
  try simp only [List.set_cons_zero]
  refine tk (i := 9) (oi := { dst := some 37, op := .move (.tmp 46), type := 256, pos := "queues.go:119", after := #[⟨8, .data⟩], guard := none }) (v := ?_) ?_ hS ?_
  rotate_left
  · intro w9 hS9; have q1 := hS9.cells; go_simp; try with_reducible rfl
  try simp only [Act.put]
  try simp only [List.setIfInBounds_toArray]
  try simp only [List.set_cons_zero]
  try simp only [List.set_cons_succ]
  try simp only [List.set_cons_zero]
  refine tk (i := 10) (oi := { dst := some 47, op := .extract (.tmp 37) 0, type := 173, pos := "queues.go:119", after := #[⟨9, .data⟩], guard := none }) (v := ?_) ?_ hS ?_
  rotate_left
  · intro w9 hS9; have q1 := hS9.cells; go_simp; try with_reducible rfl
  try simp only [Act.put]
  try simp only [List.setIfInBounds_toArray]
  try simp only [List.set_cons_zero]
  try simp only [List.set_cons_succ]
  try simp only [List.set_cons_zero]
  refine tk (i := 11) (oi := { dst := some 48, op := .extract (.tmp 37) 1, type := 26, pos := "queues.go:119", after := #[⟨9, .data⟩], guard := none }) (v := ?_) ?_ hS ?_
  rotate_left
  · intro w9 hS9; have q1 := hS9.cells; go_simp; try with_reducible rfl
  try simp only [Act.put]
  try simp only [List.setIfInBounds_toArray]
  try simp only [List.set_cons_zero]
  try simp only [List.set_cons_succ]
  try simp only [List.set_cons_zero]
  refine tk (i := 12) (oi := { dst := some 7, op := .assign (.tmp 48), type := 26, pos := "queues.go:119", after := #[⟨11, .data⟩, ⟨8, .chain⟩, ⟨0, .phase⟩, ⟨1, .phase⟩, ⟨2, .phase⟩, ⟨3, .phase⟩, ⟨4, .phase⟩, ⟨5, .phase⟩, ⟨6, .phase⟩, ⟨7, .phase⟩, ⟨8, .phase⟩, ⟨9, .phase⟩, ⟨10, .phase⟩, ⟨11, .phase⟩], guard := none }) (v := ?_) ?_ hS ?_
  rotate_left
  · intro w9 hS9; have q1 := hS9.cells; go_simp; try with_reducible rfl
  try simp only [Act.put]
  try simp only [List.setIfInBounds_toArray]
  try simp only [List.set_cons_zero]
  try simp only [List.set_cons_succ]
  try simp only [List.set_cons_zero]
  refine wpAnyH_done (by kernel_rfl) ?_ _
  have U_3 := hK.bx (U_0.below M_2 U_0.lt) (by rintro (e | e | e | e) <;> omega)
  have C_3 := hK.bx (C_0.below M_2 C_0.lt) (by rintro (e | e | e | e) <;> omega)
  have K_3 := (K_0.trans (S' := Otk x s d m l) (Kp.of M_2) (fun _ _ e => e)).trans (S' := fun b => b = s ∨ Odl d m l b) hK (fun b _ e => .inr e)
  clear X_0 St_0 D_0 L_0 U_0 C_0 S_0 K_0 X_1 M_1 M_2 X_2 G_2 hK hb
  have x3 := X_3.cells
  have f3 := X_3.free
  have k3 := C_3.cells
  have hcx : W.heap.size ≠ x := by omega
  have X_4 := (X_3.put 5 (.int .i64 0)).put 6 (.int .i64 5)
  have C_4 := (C_3.other (p := ⟨x, 5, none⟩) (by show W.heap.size ≠ x; omega) (.int .i64 0)).other (p := ⟨x, 6, none⟩) (by show W.heap.size ≠ x; omega) (.int .i64 5)
  have U_4 := (U_3.other (p := ⟨x, 5, none⟩) (by show du ≠ x; omega) (.int .i64 0)).other (p := ⟨x, 6, none⟩) (by show du ≠ x; omega) (.int .i64 5)
  have K_4 := (K_3.set (p := ⟨x, 5, none⟩) (.inl rfl) (.int .i64 0)).set (p := ⟨x, 6, none⟩) (.inl rfl) (.int .i64 5)
  go_upto_region 13 with fail
  refine wp_world (fun V => Bx V x (xC s pn qs k bk 5 du) 231 ∧ Bx V W.heap.size #[.int .i64 0, .int .i64 5] 185 ∧ Bx V du #[.slice none 0 0, .map mp] 322 ∧ Kp (Otk x s d m l) W V) ⟨X_4, C_4, U_4, K_4⟩ ?_
  clear x3 f3 k3 X_3 C_3 U_3 K_3 X_4 C_4 U_4 K_4
  rintro V5 ⟨X5, C5, U5, K5⟩
  have x5 := X5.cells
  have k5 := C5.cells
  have zx5 := X5.lt
  have zc5 := C5.lt
  have HR := Lib.hid (fun (V : World) (hb : Below V5.heap.size V5 V) => (ripe_0 (U5.below hb U5.lt) 5).mono (R' := fun e W' => e = .returned (.slice none 0 0) ∧ Below V.heap.size V W') (fun e W' hq => ⟨hq.1, by rw [← hq.2]; exact Below.refl _ _⟩))
  refine wp_region_below (by kernel_rfl) (by kernel_rfl) ?_
  intro q9
  repeat
    (refine QH.step (fun K9 hK9 => ?_)
     go_simp
     first
     | (refine hK9 _ ?_; clear hK9 K9)
     | (apply Exists.intro
        refine ⟨fun _ => ?_, hK9 _ ?_⟩
        · first | (with_reducible exact Calls.blw _ (HR.out _ (Blw.b _)))
        clear hK9 K9))
  refine QH.nil_ ?_
  clear q9
  rintro ⟨V9, hV9⟩
  dsimp only
  have X6 := Lib.hid (X5.below hV9 X5.lt)
  have K6 := Lib.hid (K5.trans (S' := Otk x s d m l) (Kp.of hV9) (fun _ _ e => e))
  clear x5 k5 X5 C5 U5 K5 HR
  go_wp2
  go_loop [64] (fun i => i = .int .i64 0) (fun _ => 0)
  case atStart => rfl
  case round =>
    obtain rfl := hrel
    go_wp2
    go_ret
    exact ⟨rfl, ⟨_, _, _, _, X6.out⟩, K6.out⟩
end Go.Proofs.YtggomjfllbljeaaGreatDoor
namespace Go.Proofs.YtggomjfllbljeaaGreatDoor
set_option linter.unusedVariables false
open Go Go.RowKit
open Go.Maps
theorem sl_bx {W : World} {g : Nat} {cs : Array Value} {t : TypeId} {l : List UInt8} (h : Bx W g cs t) (hl : cs.toList = l.flatMap tBy.enc) : Sl W g (g + 1) tBy (some ⟨g, 0, none⟩) l.length l :=
  ⟨rfl, fun _ _ => trivial, fun _ => ⟨g, 0, rfl, Nat.le_refl _, by omega, fun k x hx j u hu => by
    have h3 := flatMap_at tBy l k x hx j u hu
    rw [h.cells, ← Array.getElem?_toList, hl, show 0 + k * tBy.sz + j = k * tBy.sz + j by omega]
    exact h3⟩⟩
set_option maxRecDepth 100000 in
theorem two_1 (W : World) : Calls Tryz.prog 141 #[.int .i64 1] W fun e W' => e = .returned (.string ⟨#[48, 49]⟩) ∧ Below W.heap.size W W' := by
  have hcv : (convert 57 9 (.slice (some ⟨W.heap.size, 0, none⟩) 2 2)).run Tryz.prog (W.alloc (.cells #[.int .u8 48, .int .u8 49] 5)) = .ok (.string ⟨#[48, 49]⟩) (W.alloc (.cells #[.int .u8 48, .int .u8 49] 5)) := text_of (c := 2) (sl_bx (l := [48, 49]) (Bx.new W #[.int .u8 48, .int .u8 49] 5) rfl) (by show 0 < 2; omega)
  have hb := (Below.refl W.heap.size W).alloc (Nat.le_refl _) (.cells #[.int .u8 48, .int .u8 49] 5)
  go_enter Tryz.func141, Tryz.ntmps141
  go_wp2
  go_ret
  exact ⟨rfl, hb⟩
set_option maxRecDepth 100000 in
theorem two_0 (W : World) : Calls Tryz.prog 141 #[.int .i64 0] W fun e W' => e = .returned (.string ⟨#[48, 48]⟩) ∧ Below W.heap.size W W' := by
  have hcv : (convert 57 9 (.slice (some ⟨W.heap.size, 0, none⟩) 2 2)).run Tryz.prog (W.alloc (.cells #[.int .u8 48, .int .u8 48] 5)) = .ok (.string ⟨#[48, 48]⟩) (W.alloc (.cells #[.int .u8 48, .int .u8 48] 5)) := text_of (c := 2) (sl_bx (l := [48, 48]) (Bx.new W #[.int .u8 48, .int .u8 48] 5) rfl) (by show 0 < 2; omega)
  have hb := (Below.refl W.heap.size W).alloc (Nat.le_refl _) (.cells #[.int .u8 48, .int .u8 48] 5)
  go_enter Tryz.func141, Tryz.ntmps141
  go_wp2
  go_ret
  exact ⟨rfl, hb⟩
set_option maxRecDepth 100000 in
theorem two_5 (W : World) : Calls Tryz.prog 141 #[.int .i64 5] W fun e W' => e = .returned (.string ⟨#[48, 53]⟩) ∧ Below W.heap.size W W' := by
  have hcv : (convert 57 9 (.slice (some ⟨W.heap.size, 0, none⟩) 2 2)).run Tryz.prog (W.alloc (.cells #[.int .u8 48, .int .u8 53] 5)) = .ok (.string ⟨#[48, 53]⟩) (W.alloc (.cells #[.int .u8 48, .int .u8 53] 5)) := text_of (c := 2) (sl_bx (l := [48, 53]) (Bx.new W #[.int .u8 48, .int .u8 53] 5) rfl) (by show 0 < 2; omega)
  have hb := (Below.refl W.heap.size W).alloc (Nat.le_refl _) (.cells #[.int .u8 48, .int .u8 53] 5)
  go_enter Tryz.func141, Tryz.ntmps141
  go_wp2
  go_ret
  exact ⟨rfl, hb⟩
/-- The table of the months' lengths. -/
def Tab12 (w : World) : Prop := Lib.TabIs Tryz.prog w "jetway/date.lengths" .i64 [31, 29, 31, 30, 31, 30, 31, 31, 30, 31, 30, 31]
theorem Tab12.keep {w W : World} (h : Tab12 w) (hb : Below w.heap.size w W) : Tab12 W := Lib.tabBelow_of_tabIs h W hb
set_option maxRecDepth 100000 in
set_option maxHeartbeats 4000000 in
theorem text_0 {W : World} (hT : Tab12 W) : Calls Tryz.prog 79 #[.int .i64 0] W fun e W' => e = .returned (.tuple #[.string ⟨#[48, 49, 74, 65, 78]⟩, .int .i64 0]) ∧ Below W.heap.size W W' := by
  have c0 : W.cell? ⟨0, 0, none⟩ = some (.int .i64 31) := Lib.TabIs.cell (g := 0) hT (by kernel_rfl) 0 (by decide)
  have H1 := Lib.hid two_1
  have w0 : IntKind.i64.wrap 0 = 0 := by decide
  have w1 : IntKind.i64.wrap 1 = 1 := by decide
  have w3 : IntKind.i64.wrap 3 = 3 := by decide
  go_enter Tryz.func79, Tryz.ntmps79
  go_wp2
  go_loop [0, 4] (fun u v => u = .int .i64 0 ∧ v = .int .i64 0) (fun _ _ => 0)
  case atStart => exact ⟨rfl, rfl⟩
  case round =>
    obtain ⟨rfl, rfl⟩ := hrel
    go_upto_region 7 with fail
    refine wp_region_below (by kernel_rfl) (by kernel_rfl) ?_
    intro q9
    repeat
      (refine QH.step (fun K9 hK9 => ?_)
       go_simp
       first
       | (refine hK9 _ ?_; clear hK9 K9)
       | (apply Exists.intro
          refine ⟨fun _ => ?_, hK9 _ ?_⟩
          · first | (with_reducible exact Calls.blw _ (H1.out _))
          clear hK9 K9))
    refine QH.nil_ ?_
    clear q9
    rintro ⟨V9, hV9⟩
    dsimp only
    go_wp2
    go_ret2
    exact ⟨rfl, hV9⟩
set_option maxRecDepth 100000 in
set_option maxHeartbeats 4000000 in
theorem clock_5 (W : World) : Calls Tryz.prog 80 #[.int .i64 5] W fun e W' => e = .returned (.tuple #[.string ⟨#[48, 48, 48, 53]⟩, .int .i64 0]) ∧ Below W.heap.size W W' := by
  go_enter Tryz.func80, Tryz.ntmps80
  go_wp2_with fail
  refine (two_0 _).mono ?_
  rintro e V1 ⟨rfl, hb1⟩
  go_wp2_with fail
  refine (two_5 _).mono ?_
  rintro e V2 ⟨rfl, hb2⟩
  have hb := hb1.trans (hb2.mono hb1.size)
  go_wp2
  go_ret2
  exact ⟨rfl, hb⟩
theorem info_ct : (Tryz.prog.info? 185).map (·.size) = some 2 := by kernel_rfl
set_option maxRecDepth 100000 in
set_option maxHeartbeats 4000000 in
theorem count_5 {W : World} {x s pn qs du : Nat} {k bk : Value} (hx : Bx W x (xC s pn qs k bk 5 du) 231) : Calls Tryz.prog 78 #[.pointer (some ⟨x, 0, none⟩)] W fun e W' => e = .returned (.agg #[.int .i64 0, .int .i64 5]) ∧ Below W.heap.size W W' := by
  have c1 := hx.cells
  have z1 := hx.lt
  have hb0 := Bx.new W #[.int .i64 0, .int .i64 0] 185
  have hb9 := below_setRow ((Below.refl W.heap.size W).alloc (Nat.le_refl _) (.cells #[.int .i64 0, .int .i64 0] 185)) (Nat.le_refl _) #[.int .i64 0, .int .i64 5]
  have r9 := hb0.row #[.int .i64 0, .int .i64 5]
  go_enter Tryz.func78, Tryz.ntmps78
  go_wp2_with (refine wpList_store_row rfl 185 (.tmp 2) (.tmp 6) rfl W.heap.size #[.int .i64 0, .int .i64 5] rfl rfl 185 _ hb0 info_ct rfl (by simp [Value.oneCell']) ?_)
  exact ret_row rfl Tryz.underlying185 rfl info_ct r9 rfl rfl rfl ⟨rfl, hb9⟩
end Go.Proofs.YtggomjfllbljeaaGreatDoor
namespace Go.Proofs.YtggomjfllbljeaaGreatDoor
set_option linter.unusedVariables false
open Go Go.RowKit
open Go.Maps
/-- A host but for what its terminal holds. -/
structure HV (W : World) (h d m s l x du st : Nat) (a : Int) : Prop where
  hb : ∃ t, Bx W h (hC t d (.pointer (some ⟨s, 0, none⟩)) (.pointer (some ⟨x, 0, none⟩)) st) 88
  dk : DkS W d m 20 a
  sb : Bx W s (stC 9 l) 215
  lb : Bx W l (lgC d 1 0 (.slice none 0 0)) 297
  xb : ∃ pn qs k bk, Bx W x (xC s pn qs k bk 0 du) 231
  db : ∃ mp, Bx W du #[.slice none 0 0, .map mp] 322
  nod : [h, d, m, s, l, x, du].Nodup
theorem HW.hv {W : World} {h d m s l x du st : Nat} {a : Int} (H : HW W h d m s l x du st a) : HV W h d m s l x du st a := by
  obtain ⟨hb, dk, sb, lb, xb, db, tb, nod⟩ := H
  exact ⟨hb, dk, sb, lb, xb, db, nod.sublist (l₁ := [h, d, m, s, l, x, du]) (l₂ := [h, d, m, s, l, x, du, st]) (List.sublist_append_left [h, d, m, s, l, x, du] [st])⟩
theorem HV.keep {S : Nat → Prop} {W W' : World} {h d m s l x du st : Nat} {a : Int} (H : HV W h d m s l x du st a) (hk : Kp S W W') (hS : ∀ k ∈ [h, d, m, s, l, x, du], ¬ S k) : HV W' h d m s l x du st a := by
  obtain ⟨⟨t, hb⟩, dk, sb, lb, ⟨pn, qs, k, bk, xb⟩, ⟨mp, db⟩, nod⟩ := H
  exact ⟨⟨t, hk.bx hb (hS _ (by simp))⟩, dk.keep hk (hS _ (by simp)) (hS _ (by simp)), hk.bx sb (hS _ (by simp)), hk.bx lb (hS _ (by simp)), ⟨pn, qs, k, bk, hk.bx xb (hS _ (by simp))⟩, ⟨mp, hk.bx db (hS _ (by simp))⟩, nod⟩
theorem HV.below {W W' : World} {h d m s l x du st : Nat} {a : Int} (H : HV W h d m s l x du st a) (hb : Below W.heap.size W W') : HV W' h d m s l x du st a := H.keep (S := fun _ => False) (Kp.of hb) (fun _ _ h => h)
set_option maxRecDepth 100000 in
set_option maxHeartbeats 2000000 in
theorem hdown_v {W : World} {h d m s l x du st : Nat} {a : Int} (H : HV W h d m s l x du st a) : Calls Tryz.prog 71 #[.pointer (some ⟨h, 0, none⟩)] W fun e W' => e = .returned (.bool false) ∧ W = W' := by
  obtain ⟨t, hb⟩ := H.hb
  have c1 := hb.cells
  have z1 := hb.lt
  have d1 := H.dk.bd
  go_enter Tryz.func71, Tryz.ntmps71
  go_wp2_with fail
  refine (down_any d1).mono ?_
  rintro e V ⟨rfl, rfl⟩
  go_wp2
  go_ret
  exact ⟨rfl, rfl⟩
abbrev sTM : ByteArray := ⟨#[84, 73, 77, 69, 32, 48, 49, 74, 65, 78, 47, 48, 48, 48, 53]⟩
set_option maxRecDepth 100000 in
set_option maxHeartbeats 8000000 in
theorem htick_5 {W : World} {h d m s l x du st : Nat} {a : Int} (H : HV W h d m s l x du st a) (h0 : -90000 ≤ a) (h1 : a ≤ 90000) (hT : ∀ V, Kp (Otk x s d m l) W V → Tab12 V) :
    Calls Tryz.prog 43 #[.pointer (some ⟨h, 0, none⟩), .int .i64 5] W fun e W' => e = .returned (.agg (scrC (bl sTM))) ∧ Kp (Otk x s d m l) W W' := by
  have HSZ := Lib.hid (scrC_size (l := bl sTM) (by rw [bl_size]; decide))
  have HON := Lib.hid (scrC_one (bl sTM))
  have HZZ : Hid (Tryz.zeroCells67.size = 1536) := by show _ = _; rw [zero_scr]; simp
  have hfl : ∀ w, (Instr.field 185 (.agg #[.int .i64 0, .int .i64 5]) 1).run Tryz.prog w = .ok (.int .i64 5) w := fun w => by kernel_rfl
  have hcat : (⟨#[84, 73, 77, 69, 32]⟩ : ByteArray) ++ ⟨#[48, 49, 74, 65, 78]⟩ ++ ⟨#[47]⟩ ++ ⟨#[48, 48, 48, 53]⟩ = sTM := by rfl
  have HT := Lib.hid hT
  clear hT
  have HH := Lib.hid H
  have hn := H.nod
  simp only [List.nodup_cons, List.mem_cons, List.mem_nil_iff, or_false, not_or, List.nodup_nil, and_true, not_false_eq_true] at hn
  obtain ⟨⟨nhd, nhm, nhs, nhl, nhx, nhu⟩, hn6⟩ := hn
  have HN6 : Hid ([d, m, s, l, x, du].Nodup) := (List.nodup_cons.1 H.nod).2
  clear H hn6
  go_enter Tryz.func43, Tryz.ntmps43
  go_upto_region 1 with fail
  refine wp_world (fun V => Bx V W.heap.size Tryz.zeroCells67 67 ∧ HV V h d m s l x du st a ∧ Below W.heap.size W V) ⟨Bx.new _ _ _, HH.out.below ((Below.refl _ _).alloc (Nat.le_refl _) _), (Below.refl _ _).alloc (Nat.le_refl _) _⟩ ?_
  rintro V ⟨b0, H, hb0⟩
  go_wp2_with fail
  refine (hdown_v H).mono ?_
  rintro e V1 ⟨rfl, rfl⟩
  obtain ⟨t2, hb2⟩ := H.hb
  obtain ⟨pn, qs, k, bk, hx⟩ := H.xb
  obtain ⟨mp, hdu⟩ := H.db
  have x1 := hb2.cells
  have HV1 := Lib.hid H
  have zx := (show x < W.heap.size from by obtain ⟨_, _, _, _, hq⟩ := HH.out.xb; exact hq.lt)
  have zs := HH.out.sb.lt
  have zl := HH.out.lb.lt
  have zd := HH.out.dk.bd.lt
  have zm : m < W.heap.size := by obtain ⟨g, hg⟩ := HH.out.dk.bm; exact hg.size
  clear HH H
  go_wp2_with fail
  refine (stick_5 hx HV1.out.sb HV1.out.dk HV1.out.lb hdu HN6.out h0 h1).mono ?_
  rintro e V2 ⟨rfl, ⟨pn2, qs2, k2, bk2, hx2⟩, hK⟩
  have hbh := hK.bx hb2 (by rintro (e | e | e | e | e) <;> omega)
  have b02 := hK.bx b0 (by rintro (e | e | e | e | e) <;> omega)
  have hK2 := (Kp.of hb0 : Kp (Otk x s d m l) W _).trans (S' := Otk x s d m l) hK (fun _ _ e => e)
  clear x1 hb2 b0 hb0 hK hx hdu HV1
  have x1 := hbh.cells
  go_wp2_with fail
  refine (count_5 hx2).mono ?_
  rintro e V3 ⟨rfl, hb3⟩
  have b03 := b02.below hb3 b02.lt
  have hK3 := hK2.trans (S' := fun _ => False) (Kp.of hb3) (fun _ _ e => e.elim)
  clear x1 hbh hx2 hK2 hb3 b02
  go_wp2_with fail
  refine (split_5 _).mono ?_
  rintro e V4 ⟨rfl, rfl⟩
  go_wp2_with fail
  refine (text_0 (HT.out _ hK3)).mono ?_
  rintro e V5 ⟨rfl, hb5⟩
  have b05 := b03.below hb5 b03.lt
  have hK5 := hK3.trans (S' := fun _ => False) (Kp.of hb5) (fun _ _ e => e.elim)
  clear hb5 b03 hK3
  go_wp2_with fail
  refine (clock_5 _).mono ?_
  rintro e V6 ⟨rfl, hb6⟩
  have b06 := (b05.below hb6 b05.lt).alloc (.cells #[.string sTM] 9)
  have hK6 := (hK5.trans (S' := fun _ => False) (Kp.of hb6) (fun _ _ e => e.elim)).alloc (.cells #[.string sTM] 9)
  have hg6 := Bx.new V6 #[.string sTM] 9
  clear hb6 b05 hK5
  go_wp2_with fail
  refine (hlines_one hg6 (by decide) (by decide)).mono ?_
  rintro e V7 ⟨rfl, hb7⟩
  have b07 := b06.below hb7 b06.lt
  have hK7 := (hK6.trans (S' := fun _ => False) (Kp.of hb7) (fun _ _ e => e.elim)).row (.inr (Nat.le_refl _) : Otk x s d m l W.heap.size ∨ W.heap.size ≤ W.heap.size)
  generalize hC : scrC (bl sTM) = C at HSZ HON
  have b09 := b07.row C
  clear b06 hK6 hg6 hb7
  go_wp2_with (refine wpList_store_row rfl 67 (.tmp 4) (.tmp 53) rfl W.heap.size C rfl rfl 67 _ b07 (by rw [HSZ.out]; exact info_scr1) (by rw [HSZ.out]; exact HZZ.out) HON.out ?_)
  exact ret_scr rfl b09 HSZ.out rfl rfl ⟨by rw [hC], hK7 C⟩
set_option maxRecDepth 100000 in
set_option maxHeartbeats 4000000 in
theorem do_tick {W : World} {h d m s l x du st : Nat} {a : Int} {E : Option Addr} {e0 c0 : Nat} (H : HV W h d m s l x du st a) (h0 : -90000 ≤ a) (h1 : a ≤ 90000) (hT : ∀ V, Kp (Otk x s d m l) W V → Tab12 V) :
    Calls Tryz.prog 23 #[.pointer (some ⟨h, 0, none⟩), .agg (evC 2 0 ⟨#[]⟩ 5 (.slice E e0 c0))] W fun e W' => e = .returned (.agg (scrC (bl sTM))) ∧ Kp (Otk x s d m l) W W' := by
  have HSZ := Lib.hid (scrC_size (l := bl sTM) (by rw [bl_size]; decide))
  have HON := Lib.hid (scrC_one (bl sTM))
  have HZZ : Hid (Tryz.zeroCells67.size = 1536) := by show _ = _; rw [zero_scr]; simp
  have HH := Lib.hid H
  have HT := Lib.hid hT
  have zx := (show x < W.heap.size from by obtain ⟨_, _, _, _, hq⟩ := H.xb; exact hq.lt)
  have zs := H.sb.lt
  have zl := H.lb.lt
  have zd := H.dk.bd.lt
  have zm : m < W.heap.size := by obtain ⟨g, hg⟩ := H.dk.bm; exact hg.size
  clear H hT
  have q1 := Bx.new W (evC 2 0 ⟨#[]⟩ 5 (.slice E e0 c0)) 24
  have q2 := Bx.new (W.alloc (.cells (evC 2 0 ⟨#[]⟩ 5 (.slice E e0 c0)) 24)) Tryz.zeroCells67 67
  rw [World.size_alloc] at q2
  have hB := ((Below.refl W.heap.size W).alloc (Nat.le_refl _) (.cells (evC 2 0 ⟨#[]⟩ 5 (.slice E e0 c0)) 24)).alloc (by simp) (.cells Tryz.zeroCells67 67)
  go_enter Tryz.func23, Tryz.ntmps23
  go_upto_region 1 with fail
  refine wp_world (fun V => Bx V W.heap.size (evC 2 0 ⟨#[]⟩ 5 (.slice E e0 c0)) 24 ∧ Bx V (W.heap.size + 1) Tryz.zeroCells67 67 ∧ HV V h d m s l x du st a ∧ Below W.heap.size W V) ⟨q1.alloc _, q2, HH.out.below hB, hB⟩ ?_
  clear q1 q2 hB HH
  rintro V ⟨b1, b2, H, hb⟩
  have HV1 := Lib.hid H
  have HK := Lib.hid (Kp.of hb : Kp (Otk x s d m l) W V)
  have x1 := b1.cells
  have z1 := b2.lt
  clear H b1 hb
  go_wp2_with fail
  refine (htick_5 HV1.out h0 h1 (fun U hU => HT.out U (HK.out.trans (S' := Otk x s d m l) hU (fun _ _ e => e)))).mono ?_
  rintro e V2 ⟨rfl, hK⟩
  have b3 := hK.bx b2 (by rintro (e | e | e | e | e) <;> omega)
  have hk9 := (HK.out.trans (S' := Otk x s d m l) hK (fun _ _ e => e)).row (.inr (by omega) : Otk x s d m l (W.heap.size + 1) ∨ W.heap.size ≤ W.heap.size + 1)
  generalize hC : scrC (bl sTM) = C at HSZ HON
  have b9r := b3.row C
  clear b2 hK HK x1
  go_wp2_with (refine wpList_store_row rfl 67 (.tmp 4) (.tmp 21) rfl (W.heap.size + 1) C rfl rfl 67 _ b3 (by rw [HSZ.out]; exact info_scr1) (by rw [HSZ.out]; exact HZZ.out) HON.out ?_)
  exact ret_scr rfl b9r HSZ.out rfl rfl ⟨by rw [hC], hk9 C⟩
end Go.Proofs.YtggomjfllbljeaaGreatDoor
