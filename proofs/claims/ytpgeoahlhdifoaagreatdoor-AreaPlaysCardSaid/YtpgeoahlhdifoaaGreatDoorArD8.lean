/- 'of': the program's area from the document's; small. By program. -/
import Derived.Test.YtpgeoahlhdifoaaGreatDoorMArD6
import Derived.Test.YtpgeoahlhdifoaaGreatDoorCopied
import Derived.OrdersHeld
namespace Go.Proofs.YtpgeoahlhdifoaaGreatDoor
set_option linter.unusedVariables false
open Go Go.RowKit
attribute [local go_sem ↓] loadA_eq storeA_eq
theorem F2.grown {w W W1 : World} {c1 c2 : Array Value} {t1 t2 : TypeId} {row : Option Nat} (H : F2 w c1 t1 c2 t2 W) (hg : W.grownBy W1 row) (hr : ∀ k, row = some k → w.heap.size + 1 < k) : F2 w c1 t1 c2 t2 W1 :=
  ⟨H.B.grown hg (by have := H.z; omega) (fun k hk => by have := hr k hk; omega), H.r1.grown hg (fun e => by have := hr _ e; omega), H.r2.grown hg (fun e => by have := hr _ e; omega)⟩
theorem OP.rng {W : World} {B : Nat} {q : Pnr} {h : Hd} (H : OP W B q h) : ∀ k, rowP h k → B ≤ k ∧ k < W.heap.size := fun k hk => by
  rcases hk with hk | hk | hk | hk | hk
  · exact H.names.bk_lt k hk
  · exact H.segs.bk_lt k hk
  · exact H.phones.bk_lt k hk
  · exact H.remarks.bk_lt k hk
  · exact H.seats.bk_lt k hk
theorem OP.kept {W W1 : World} {B : Nat} {q : Pnr} {h : Hd} {row : Option Nat} (H : OP W B q h) (hg : W.grownBy W1 row) (hne : ∀ k, rowP h k → row ≠ some k) : OP W1 B q h :=
  ⟨H.loc, H.off, H.rc, H.tik, H.names.kept hg (fun k hk => hne k (.inl (by rw [← ownBlock_bk h.an h.nn h.cn]; exact hk))), H.segs.kept hg (fun k hk => hne k (.inr (.inl (by rw [← ownBlock_bk h.ag h.ng h.cg]; exact hk)))),
   H.phones.kept hg (fun k hk => hne k (.inr (.inr (.inl (by rw [← ownBlock_bk h.ap h.np h.cp]; exact hk))))), H.remarks.kept hg (fun k hk => hne k (.inr (.inr (.inr (.inl (by rw [← ownBlock_bk h.ar h.nr h.cr]; exact hk)))))), H.seats.kept hg (fun k hk => hne k (.inr (.inr (.inr (.inr (by rw [← ownBlock_bk h.ae h.ne h.ce]; exact hk))))))⟩
set_option maxRecDepth 100000 in
set_option maxHeartbeats 8000000 in
theorem of_any (a : Ar) (h : AH) (w : World) (S : Nat → Prop) (hp : AS w S a h) (hS : ∀ b, S b → b < w.heap.size) (hs : a.small 1000) :
    Calls Tryz.prog 7 #[.agg #[.string a.agent, .string a.off, .bool a.open_, .string a.base.loc, .string a.base.off, .slice h.b.an h.b.nn h.b.cn, .slice h.b.ag h.b.ng h.b.cg, .slice h.b.ap h.b.np h.b.cp, .int .i64 a.base.tik.kind, .int .i64 a.base.tik.day, .int .i64 a.base.tik.min, .string a.base.rc, .slice h.b.ar h.b.nr h.b.cr, .slice h.b.ae h.b.ne h.b.ce, .bool a.base.queued, .int .u64 a.ver, .slice h.ad h.nd h.cd, .slice h.al h.nl h.cl, .bool a.working, .int .i64 a.queue]] w (fun e w' => ∃ h', e = .returned (.agg #[.string a.agent, .string a.off, .bool a.open_, .string a.base.loc, .string a.base.off, .slice h'.b.an h'.b.nn h'.b.cn, .slice h'.b.ag h'.b.ng h'.b.cg, .slice h'.b.ap h'.b.np h'.b.cp, .int .i64 a.base.tik.kind, .int .i64 a.base.tik.day, .int .i64 a.base.tik.min, .string a.base.rc, .slice h'.b.ar h'.b.nr h'.b.cr, .slice h'.b.ae h'.b.ne h'.b.ce, .bool a.base.queued, .int .u64 a.ver, .slice h'.ad h'.nd h'.cd, .slice h'.al h'.nl h'.cl, .bool a.working, .int .i64 a.queue]) ∧ OA w' w.heap.size a h' ∧ Below w.heap.size w w') := by
  have HP := Lib.hid hp
  have HB := Lib.hid hS
  have HSB := Lib.hid (hs.base.mono (M := 100000) (by omega))
  have hnB1 : h.nd ≤ 100000 := by have := hp.edits.len; have := hs.edits; omega
  have hnB2 : h.nl ≤ 100000 := by have := hp.legs.len; have := hs.legs; omega
  clear hp hS hs
  have hF := F2.start w #[.string a.agent, .string a.off, .bool a.open_, .string a.base.loc, .string a.base.off, .slice h.b.an h.b.nn h.b.cn, .slice h.b.ag h.b.ng h.b.cg, .slice h.b.ap h.b.np h.b.cp, .int .i64 a.base.tik.kind, .int .i64 a.base.tik.day, .int .i64 a.base.tik.min, .string a.base.rc, .slice h.b.ar h.b.nr h.b.cr, .slice h.b.ae h.b.ne h.b.ce, .bool a.base.queued, .int .u64 a.ver, .slice h.ad h.nd h.cd, .slice h.al h.nl h.cl, .bool a.working, .int .i64 a.queue] 34 #[.string ⟨#[]⟩, .string ⟨#[]⟩, .bool false, .string ⟨#[]⟩, .string ⟨#[]⟩, .slice none 0 0, .slice none 0 0, .slice none 0 0, .int .i64 0, .int .i64 0, .int .i64 0, .string ⟨#[]⟩, .slice none 0 0, .slice none 0 0, .bool false, .int .u64 0, .slice none 0 0, .slice none 0 0, .bool false, .int .i64 0] 53
  go_enter Tryz.func7, Tryz.ntmps7
  go_upto_region 1 with fail
  refine wp_world (fun W => F2 w #[.string a.agent, .string a.off, .bool a.open_, .string a.base.loc, .string a.base.off, .slice h.b.an h.b.nn h.b.cn, .slice h.b.ag h.b.ng h.b.cg, .slice h.b.ap h.b.np h.b.cp, .int .i64 a.base.tik.kind, .int .i64 a.base.tik.day, .int .i64 a.base.tik.min, .string a.base.rc, .slice h.b.ar h.b.nr h.b.cr, .slice h.b.ae h.b.ne h.b.ce, .bool a.base.queued, .int .u64 a.ver, .slice h.ad h.nd h.cd, .slice h.al h.nl h.cl, .bool a.working, .int .i64 a.queue] 34 #[.string ⟨#[]⟩, .string ⟨#[]⟩, .bool false, .string ⟨#[]⟩, .string ⟨#[]⟩, .slice none 0 0, .slice none 0 0, .slice none 0 0, .int .i64 0, .int .i64 0, .int .i64 0, .string ⟨#[]⟩, .slice none 0 0, .slice none 0 0, .bool false, .int .u64 0, .slice none 0 0, .slice none 0 0, .bool false, .int .i64 0] 53 W) hF ?_
  clear hF
  intro V hF
  obtain ⟨Y1, hY1, hmk1⟩ := make_eq (P := Tryz.prog) sl_edi h.nd hnB1
  have HY1 := Lib.hid hY1
  clear hY1
  obtain ⟨Y2, hY2, hmk2⟩ := make_eq (P := Tryz.prog) sl_leg h.nl hnB2
  have HY2 := Lib.hid hY2
  clear hY2
  have hw1 : IntKind.i64.wrap ((h.nd : Int) + 2) = (h.nd : Int) + 2 := by rw [IntKind.wrap_i64]; omega
  have hw2 : IntKind.i64.wrap ((h.nl : Int) + 2) = (h.nl : Int) + 2 := by rw [IntKind.wrap_i64]; omega
  have hF_0 := hF.drew
  have hz0 := hF_0.z
  have hdr : V.drew.heap.size = V.heap.size := rfl
  clear hF
  refine wp_region_held_drew (S := fun w' => ∀ i : Nat, w'.cell? ⟨w.heap.size, i, none⟩ = (#[.string a.agent, .string a.off, .bool a.open_, .string a.base.loc, .string a.base.off, .slice h.b.an h.b.nn h.b.cn, .slice h.b.ag h.b.ng h.b.cg, .slice h.b.ap h.b.np h.b.cp, .int .i64 a.base.tik.kind, .int .i64 a.base.tik.day, .int .i64 a.base.tik.min, .string a.base.rc, .slice h.b.ar h.b.nr h.b.cr, .slice h.b.ae h.b.ne h.b.ce, .bool a.base.queued, .int .u64 a.ver, .slice h.ad h.nd h.cd, .slice h.al h.nl h.cl, .bool a.working, .int .i64 a.queue] : Array Value)[i]?) (by kernel_rfl) hF_0.x1 (fun hS => ?_)
  refine tk (i := 0) (oi := { dst := some 3, op := .fieldAddr 34 (.tmp 1) 0, type := 0, pos := "law.go:54", after := #[], guard := none }) (v := ?_) ?_ hS ?_
  rotate_left
  · intro w9 hS9; have q1 := hS9; go_simp; try with_reducible rfl
  try simp only [Act.put, List.setIfInBounds_toArray, List.set_cons_zero, List.set_cons_succ]
  refine tk (i := 1) (oi := { dst := some 4, op := .load 9 (.tmp 3), type := 9, pos := "law.go:54", after := #[⟨0, .data⟩], guard := none }) (v := ?_) ?_ hS ?_
  rotate_left
  · intro w9 hS9; have q1 := hS9; go_simp; try with_reducible rfl
  try simp only [Act.put, List.setIfInBounds_toArray, List.set_cons_zero, List.set_cons_succ]
  refine tk (i := 2) (oi := { dst := some 5, op := .fieldAddr 34 (.tmp 1) 1, type := 0, pos := "law.go:54", after := #[], guard := none }) (v := ?_) ?_ hS ?_
  rotate_left
  · intro w9 hS9; have q1 := hS9; go_simp; try with_reducible rfl
  try simp only [Act.put, List.setIfInBounds_toArray, List.set_cons_zero, List.set_cons_succ]
  refine tk (i := 3) (oi := { dst := some 6, op := .load 9 (.tmp 5), type := 9, pos := "law.go:54", after := #[⟨2, .data⟩], guard := none }) (v := ?_) ?_ hS ?_
  rotate_left
  · intro w9 hS9; have q1 := hS9; go_simp; try with_reducible rfl
  try simp only [Act.put, List.setIfInBounds_toArray, List.set_cons_zero, List.set_cons_succ]
  refine tk (i := 4) (oi := { dst := some 7, op := .fieldAddr 34 (.tmp 1) 2, type := 0, pos := "law.go:54", after := #[], guard := none }) (v := ?_) ?_ hS ?_
  rotate_left
  · intro w9 hS9; have q1 := hS9; go_simp; try with_reducible rfl
  try simp only [Act.put, List.setIfInBounds_toArray, List.set_cons_zero, List.set_cons_succ]
  refine tk (i := 5) (oi := { dst := some 8, op := .load 4 (.tmp 7), type := 4, pos := "law.go:54", after := #[⟨4, .data⟩], guard := none }) (v := ?_) ?_ hS ?_
  rotate_left
  · intro w9 hS9; have q1 := hS9; go_simp; try with_reducible rfl
  try simp only [Act.put, List.setIfInBounds_toArray, List.set_cons_zero, List.set_cons_succ]
  refine tk (i := 6) (oi := { dst := some 9, op := .fieldAddr 34 (.tmp 1) 3, type := 0, pos := "law.go:54", after := #[], guard := none }) (v := ?_) ?_ hS ?_
  rotate_left
  · intro w9 hS9; have q1 := hS9; go_simp; try with_reducible rfl
  try simp only [Act.put, List.setIfInBounds_toArray, List.set_cons_zero, List.set_cons_succ]
  refine tk (i := 7) (oi := { dst := some 10, op := .load 29 (.tmp 9), type := 29, pos := "law.go:54", after := #[⟨6, .data⟩], guard := none }) (v := ?_) ?_ hS ?_
  rotate_left
  · intro w9 hS9; have q1 := hS9; go_simp; try with_reducible rfl
  try simp only [Act.put, List.setIfInBounds_toArray, List.set_cons_zero, List.set_cons_succ]
  refine tk (i := 9) (oi := { dst := some 12, op := .fieldAddr 34 (.tmp 1) 4, type := 0, pos := "law.go:54", after := #[], guard := none }) (v := ?_) ?_ hS ?_
  rotate_left
  · intro w9 hS9; have q1 := hS9; go_simp; try with_reducible rfl
  try simp only [Act.put, List.setIfInBounds_toArray, List.set_cons_zero, List.set_cons_succ]
  refine tk (i := 10) (oi := { dst := some 13, op := .load 30 (.tmp 12), type := 30, pos := "law.go:54", after := #[⟨9, .data⟩], guard := none }) (v := ?_) ?_ hS ?_
  rotate_left
  · intro w9 hS9; have q1 := hS9; go_simp; try with_reducible rfl
  try simp only [Act.put, List.setIfInBounds_toArray, List.set_cons_zero, List.set_cons_succ]
  refine tk (i := 11) (oi := { dst := some 14, op := .fieldAddr 34 (.tmp 1) 5, type := 0, pos := "law.go:54", after := #[], guard := none }) (v := ?_) ?_ hS ?_
  rotate_left
  · intro w9 hS9; have q1 := hS9; go_simp; try with_reducible rfl
  try simp only [Act.put, List.setIfInBounds_toArray, List.set_cons_zero, List.set_cons_succ]
  refine tk (i := 12) (oi := { dst := some 15, op := .load 31 (.tmp 14), type := 31, pos := "law.go:54", after := #[⟨11, .data⟩], guard := none }) (v := ?_) ?_ hS ?_
  rotate_left
  · intro w9 hS9; have q1 := hS9; go_simp; try with_reducible rfl
  try simp only [Act.put, List.setIfInBounds_toArray, List.set_cons_zero, List.set_cons_succ]
  refine tk (i := 13) (oi := { dst := some 16, op := .call { callee := .builtin .len, args := #[.tmp 15], argTypes := #[31] }, type := 3, pos := "law.go:54", after := #[⟨12, .data⟩], guard := none }) (v := ?_) ?_ hS ?_
  rotate_left
  · intro w9 hS9; have q1 := hS9; go_simp; try with_reducible rfl
  try simp only [Act.put, List.setIfInBounds_toArray, List.set_cons_zero, List.set_cons_succ]
  refine tk (i := 14) (oi := { dst := some 17, op := .binOp .add 3 (.tmp 16) (.const (.int .i64 2)) 3, type := 3, pos := "law.go:54", after := #[⟨13, .data⟩], guard := none }) (v := ?_) ?_ hS ?_
  rotate_left
  · intro w9 hS9; have q1 := hS9; go_simp; try with_reducible rfl
  try simp only [Act.put, List.setIfInBounds_toArray, List.set_cons_zero, List.set_cons_succ]
  refine tk (i := 16) (oi := { dst := some 19, op := .fieldAddr 34 (.tmp 1) 5, type := 0, pos := "law.go:54", after := #[], guard := none }) (v := ?_) ?_ hS ?_
  rotate_left
  · intro w9 hS9; have q1 := hS9; go_simp; try with_reducible rfl
  try simp only [Act.put, List.setIfInBounds_toArray, List.set_cons_zero, List.set_cons_succ]
  refine tk (i := 17) (oi := { dst := some 20, op := .load 31 (.tmp 19), type := 31, pos := "law.go:54", after := #[⟨16, .data⟩], guard := none }) (v := ?_) ?_ hS ?_
  rotate_left
  · intro w9 hS9; have q1 := hS9; go_simp; try with_reducible rfl
  try simp only [Act.put, List.setIfInBounds_toArray, List.set_cons_zero, List.set_cons_succ]
  refine tk (i := 19) (oi := { dst := some 22, op := .fieldAddr 34 (.tmp 1) 6, type := 0, pos := "law.go:54", after := #[], guard := none }) (v := ?_) ?_ hS ?_
  rotate_left
  · intro w9 hS9; have q1 := hS9; go_simp; try with_reducible rfl
  try simp only [Act.put, List.setIfInBounds_toArray, List.set_cons_zero, List.set_cons_succ]
  refine tk (i := 20) (oi := { dst := some 23, op := .load 32 (.tmp 22), type := 32, pos := "law.go:54", after := #[⟨19, .data⟩], guard := none }) (v := ?_) ?_ hS ?_
  rotate_left
  · intro w9 hS9; have q1 := hS9; go_simp; try with_reducible rfl
  try simp only [Act.put, List.setIfInBounds_toArray, List.set_cons_zero, List.set_cons_succ]
  refine tk (i := 21) (oi := { dst := some 24, op := .call { callee := .builtin .len, args := #[.tmp 23], argTypes := #[32] }, type := 3, pos := "law.go:54", after := #[⟨20, .data⟩], guard := none }) (v := ?_) ?_ hS ?_
  rotate_left
  · intro w9 hS9; have q1 := hS9; go_simp; try with_reducible rfl
  try simp only [Act.put, List.setIfInBounds_toArray, List.set_cons_zero, List.set_cons_succ]
  refine tk (i := 22) (oi := { dst := some 25, op := .binOp .add 3 (.tmp 24) (.const (.int .i64 2)) 3, type := 3, pos := "law.go:54", after := #[⟨21, .data⟩], guard := none }) (v := ?_) ?_ hS ?_
  rotate_left
  · intro w9 hS9; have q1 := hS9; go_simp; try with_reducible rfl
  try simp only [Act.put, List.setIfInBounds_toArray, List.set_cons_zero, List.set_cons_succ]
  refine tk (i := 24) (oi := { dst := some 27, op := .fieldAddr 34 (.tmp 1) 6, type := 0, pos := "law.go:54", after := #[], guard := none }) (v := ?_) ?_ hS ?_
  rotate_left
  · intro w9 hS9; have q1 := hS9; go_simp; try with_reducible rfl
  try simp only [Act.put, List.setIfInBounds_toArray, List.set_cons_zero, List.set_cons_succ]
  refine tk (i := 25) (oi := { dst := some 28, op := .load 32 (.tmp 27), type := 32, pos := "law.go:54", after := #[⟨24, .data⟩], guard := none }) (v := ?_) ?_ hS ?_
  rotate_left
  · intro w9 hS9; have q1 := hS9; go_simp; try with_reducible rfl
  try simp only [Act.put, List.setIfInBounds_toArray, List.set_cons_zero, List.set_cons_succ]
  refine tk (i := 27) (oi := { dst := some 30, op := .fieldAddr 34 (.tmp 1) 7, type := 0, pos := "law.go:54", after := #[], guard := none }) (v := ?_) ?_ hS ?_
  rotate_left
  · intro w9 hS9; have q1 := hS9; go_simp; try with_reducible rfl
  try simp only [Act.put, List.setIfInBounds_toArray, List.set_cons_zero, List.set_cons_succ]
  refine tk (i := 28) (oi := { dst := some 31, op := .load 4 (.tmp 30), type := 4, pos := "law.go:54", after := #[⟨27, .data⟩], guard := none }) (v := ?_) ?_ hS ?_
  rotate_left
  · intro w9 hS9; have q1 := hS9; go_simp; try with_reducible rfl
  try simp only [Act.put, List.setIfInBounds_toArray, List.set_cons_zero, List.set_cons_succ]
  refine tk (i := 29) (oi := { dst := some 32, op := .fieldAddr 34 (.tmp 1) 8, type := 0, pos := "law.go:54", after := #[], guard := none }) (v := ?_) ?_ hS ?_
  rotate_left
  · intro w9 hS9; have q1 := hS9; go_simp; try with_reducible rfl
  try simp only [Act.put, List.setIfInBounds_toArray, List.set_cons_zero, List.set_cons_succ]
  refine tk (i := 30) (oi := { dst := some 33, op := .load 3 (.tmp 32), type := 3, pos := "law.go:54", after := #[⟨29, .data⟩], guard := none }) (v := ?_) ?_ hS ?_
  rotate_left
  · intro w9 hS9; have q1 := hS9; go_simp; try with_reducible rfl
  try simp only [Act.put, List.setIfInBounds_toArray, List.set_cons_zero, List.set_cons_succ]
  refine wpAnyH_ready (rs := [8, 15, 23]) (by kernel_rfl) (by simp) ?_
  refine AllReadyH.cons (o := { dst := some 11, op := .call { callee := .value (.func 17), args := #[.tmp 10], argTypes := #[29] }, type := 29, pos := "law.go:54", after := #[⟨7, .data⟩], guard := none }) rfl (fun K9 hK9 => ?_) ?_
  · go_simp
    refine (lcopied_any a.base h.b _ S (HP.out.base.below hF_0.B HB.out) (fun b hb => by have := HB.out b hb; have := hF_0.z; omega) HSB.out).mono ?_
    rintro e v1 ⟨hC, rfl, oC_1, hb1⟩
    have hz1 := hb1.size
    have hF_1 := hF_0.step hb1
    have rC := oC_1.rng
    have hS_1 := hF_1.x1
    refine hK9.out _ _ hS_1 (fun hS => ?_)
    clear hK9 K9
    try simp only [Act.put, List.setIfInBounds_toArray, List.set_cons_zero, List.set_cons_succ]
    refine wpAnyH_ready (rs := [15, 23]) (by kernel_rfl) (by simp) ?_
    refine AllReadyH.cons (o := { dst := some 18, op := .makeSlice 31 (.const (.int .i64 0)) (.tmp 17), type := 31, pos := "law.go:54", after := #[⟨14, .data⟩], guard := none }) rfl (fun K9 hK9 => ?_) ?_
    · go_simp
      have hz2 : (v1.alloc (.cells Y1 50)).heap.size = v1.heap.size + 1 := World.size_alloc _ _
      have hF_2 := hF_1.step ((Below.refl _ _).alloc (Nat.le_refl _) (.cells Y1 50))
      have oM1_2 : Own (v1.alloc (.cells Y1 50)) (v1.heap.size) 50 tEdit (.slice (some ⟨v1.heap.size, 0, none⟩) 0 (h.nd + 2)) [] := by have q := made_own (T := tEdit) v1 50 h.nd hnB1 Y1 HY1.out; exact q
      have oC_2 := oC_1.alloc (.cells Y1 50)
      have hS_2 := hF_2.x1
      refine hK9.out _ _ hS_2 (fun hS => ?_)
      clear hK9 K9
      try simp only [Act.put, List.setIfInBounds_toArray, List.set_cons_zero, List.set_cons_succ]
      refine wpAnyH_ready (rs := [18, 23]) (by kernel_rfl) (by simp) ?_
      refine AllReadyH.cons (o := { dst := some 21, op := .call { callee := .builtin .append, args := #[.tmp 18, .tmp 20], argTypes := #[31, 31] }, type := 31, pos := "law.go:54", after := #[⟨15, .data⟩, ⟨17, .data⟩, ⟨8, .chain⟩], guard := none }) rfl (fun K9 hK9 => ?_) ?_
      · refine step_append_told (T := tEdit) (v := .slice (some ⟨v1.heap.size, 0, none⟩) 0 (h.nd + 2)) (l := []) (B := v1.heap.size) rfl (.tmp 18) (.tmp 20) (by rfl) sl_edi (by rfl) oM1_2 (by rfl) ((HP.out.edits.below hF_2.B HB.out).sl (lo := 0) (hi := w.heap.size) fun b hb => ⟨Nat.zero_le _, HB.out b hb⟩) HP.out.edits.nil (by omega) (by simp; omega) ?_
        intro w9 v3 hown hgr hvb
        rw [List.nil_append] at hown
        obtain ⟨e1, k1, hv9⟩ := hown.form
        subst hv9
        have hz3 := hgr.size
        replace hgr : World.grownBy (v1.alloc (.cells Y1 50)) v3 (some (v1.heap.size)) := hgr
        have hF_3 := hF_2.grown hgr (fun k hk => by injection hk; have := hF_2.z; omega)
        have oA1_3 := hown
        have rA1 : ∀ k, bk e1 = some k → (k = v1.heap.size ∨ k = (v1.alloc (.cells Y1 50)).heap.size) ∧ k < v3.heap.size := fun k hk => by have hkl := (hown.bk_lt k hk).2; rcases hvb with hv | hv <;> (rw [ownBlock_bk, hk] at hv; injection hv with hv) ; exact ⟨.inl hv, hkl⟩ ; exact ⟨.inr hv, hkl⟩
        have oC_3 := oC_2.kept hgr (fun k hk e => by have := rC k hk; injection e with e; omega)
        have hS_3 := hF_3.x1
        refine hK9.out _ _ hS_3 (fun hS => ?_)
        clear hK9 K9
        try simp only [Act.put, List.setIfInBounds_toArray, List.set_cons_zero, List.set_cons_succ]
        refine wpAnyH_ready (rs := [23]) (by kernel_rfl) (by simp) ?_
        refine AllReadyH.cons (o := { dst := some 26, op := .makeSlice 32 (.const (.int .i64 0)) (.tmp 25), type := 32, pos := "law.go:54", after := #[⟨22, .data⟩], guard := none }) rfl (fun K9 hK9 => ?_) AllReadyH.nil
        go_simp
        have hz4 : (v3.alloc (.cells Y2 44)).heap.size = v3.heap.size + 1 := World.size_alloc _ _
        have hF_4 := hF_3.step ((Below.refl _ _).alloc (Nat.le_refl _) (.cells Y2 44))
        have oM2_4 : Own (v3.alloc (.cells Y2 44)) (v3.heap.size) 44 tLeg (.slice (some ⟨v3.heap.size, 0, none⟩) 0 (h.nl + 2)) [] := by have q := made_own (T := tLeg) v3 44 h.nl hnB2 Y2 HY2.out; exact q
        have oC_4 := oC_3.alloc (.cells Y2 44)
        have oA1_4 := oA1_3.alloc (.cells Y2 44)
        have hS_4 := hF_4.x1
        refine hK9.out _ _ hS_4 (fun hS => ?_)
        clear hK9 K9
        try simp only [Act.put, List.setIfInBounds_toArray, List.set_cons_zero, List.set_cons_succ]
        refine wpAnyH_ready (rs := [26]) (by kernel_rfl) (by simp) ?_
        refine AllReadyH.cons (o := { dst := some 29, op := .call { callee := .builtin .append, args := #[.tmp 26, .tmp 28], argTypes := #[32, 32] }, type := 32, pos := "law.go:54", after := #[⟨23, .data⟩, ⟨25, .data⟩, ⟨18, .chain⟩], guard := none }) rfl (fun K9 hK9 => ?_) AllReadyH.nil
        refine step_append_told (T := tLeg) (v := .slice (some ⟨v3.heap.size, 0, none⟩) 0 (h.nl + 2)) (l := []) (B := v3.heap.size) rfl (.tmp 26) (.tmp 28) (by rfl) sl_leg (by rfl) oM2_4 (by rfl) ((HP.out.legs.below hF_4.B HB.out).sl (lo := 0) (hi := w.heap.size) fun b hb => ⟨Nat.zero_le _, HB.out b hb⟩) HP.out.legs.nil (by omega) (by simp; omega) ?_
        intro w9 v5 hown hgr hvb
        rw [List.nil_append] at hown
        obtain ⟨e2, k2, hv9⟩ := hown.form
        subst hv9
        have hz5 := hgr.size
        replace hgr : World.grownBy (v3.alloc (.cells Y2 44)) v5 (some (v3.heap.size)) := hgr
        have hF_5 := hF_4.grown hgr (fun k hk => by injection hk; have := hF_4.z; omega)
        have oA2_5 := hown
        have rA2 : ∀ k, bk e2 = some k → (k = v3.heap.size ∨ k = (v3.alloc (.cells Y2 44)).heap.size) ∧ k < v5.heap.size := fun k hk => by have hkl := (hown.bk_lt k hk).2; rcases hvb with hv | hv <;> (rw [ownBlock_bk, hk] at hv; injection hv with hv) ; exact ⟨.inl hv, hkl⟩ ; exact ⟨.inr hv, hkl⟩
        have oC_5 := oC_4.kept hgr (fun k hk e => by have := rC k hk; injection e with e; omega)
        have oA1_5 := oA1_4.kept hgr (fun k hk e => by rw [ownBlock_bk] at hk; have := rA1 k hk; injection e with e; omega)
        have hS_5 := hF_5.x1
        refine hK9.out _ _ hS_5 (fun hS => ?_)
        clear hK9 K9
        try simp only [Act.put, List.setIfInBounds_toArray, List.set_cons_zero, List.set_cons_succ]
        refine tk (i := 31) (oi := { dst := some 34, op := .build 53 #[(0, .tmp 4), (1, .tmp 6), (2, .tmp 8), (3, .tmp 11), (4, .tmp 13), (5, .tmp 21), (6, .tmp 29), (7, .tmp 31), (8, .tmp 33)], type := 53, pos := "law.go:54", after := #[⟨1, .data⟩, ⟨3, .data⟩, ⟨5, .data⟩, ⟨8, .data⟩, ⟨10, .data⟩, ⟨18, .data⟩, ⟨26, .data⟩, ⟨28, .data⟩, ⟨30, .data⟩], guard := none }) (v := ?_) ?_ hS ?_
        rotate_left
        · intro w9 hS9; have q1 := hS9; go_simp; try with_reducible rfl
        try simp only [Act.put, List.setIfInBounds_toArray, List.set_cons_zero, List.set_cons_succ]
        refine wpAnyH_ready (rs := [32]) (by kernel_rfl) (by simp) ?_
        refine AllReadyH.cons (o := { dst := none, op := .store 53 (.tmp 2) (.tmp 34), type := 0, pos := "law.go:54", after := #[⟨31, .data⟩, ⟨26, .chain⟩, ⟨0, .phase⟩, ⟨1, .phase⟩, ⟨2, .phase⟩, ⟨3, .phase⟩, ⟨4, .phase⟩, ⟨5, .phase⟩, ⟨6, .phase⟩, ⟨7, .phase⟩, ⟨8, .phase⟩, ⟨9, .phase⟩, ⟨10, .phase⟩, ⟨11, .phase⟩, ⟨12, .phase⟩, ⟨13, .phase⟩, ⟨14, .phase⟩, ⟨15, .phase⟩, ⟨16, .phase⟩, ⟨17, .phase⟩, ⟨18, .phase⟩, ⟨19, .phase⟩, ⟨20, .phase⟩, ⟨21, .phase⟩, ⟨22, .phase⟩, ⟨23, .phase⟩, ⟨24, .phase⟩, ⟨25, .phase⟩, ⟨26, .phase⟩, ⟨27, .phase⟩, ⟨28, .phase⟩, ⟨29, .phase⟩, ⟨30, .phase⟩, ⟨31, .phase⟩], guard := none }) rfl (fun K9 hK9 => ?_) AllReadyH.nil
        have hst := sta_of (cs := #[.string a.agent, .string a.off, .bool a.open_, .string a.base.loc, .string a.base.off, .slice hC.an hC.nn hC.cn, .slice hC.ag hC.ng hC.cg, .slice hC.ap hC.np hC.cp, .int .i64 a.base.tik.kind, .int .i64 a.base.tik.day, .int .i64 a.base.tik.min, .string a.base.rc, .slice hC.ar hC.nr hC.cr, .slice hC.ae hC.ne hC.ce, .bool a.base.queued, .int .u64 a.ver, .slice e1 a.edits.length k1, .slice e2 a.legs.length k2, .bool a.working, .int .i64 a.queue]) hF_5.r2 rfl rfl (by simp [Value.oneCell'])
        have hF9 := hF_5.row2 #[.string a.agent, .string a.off, .bool a.open_, .string a.base.loc, .string a.base.off, .slice hC.an hC.nn hC.cn, .slice hC.ag hC.ng hC.cg, .slice hC.ap hC.np hC.cp, .int .i64 a.base.tik.kind, .int .i64 a.base.tik.day, .int .i64 a.base.tik.min, .string a.base.rc, .slice hC.ar hC.nr hC.cr, .slice hC.ae hC.ne hC.ce, .bool a.base.queued, .int .u64 a.ver, .slice e1 a.edits.length k1, .slice e2 a.legs.length k2, .bool a.working, .int .i64 a.queue]
        have hS9 := hF9.x1
        have hOA : OA (v5.setRow (w.heap.size + 1) #[.string a.agent, .string a.off, .bool a.open_, .string a.base.loc, .string a.base.off, .slice hC.an hC.nn hC.cn, .slice hC.ag hC.ng hC.cg, .slice hC.ap hC.np hC.cp, .int .i64 a.base.tik.kind, .int .i64 a.base.tik.day, .int .i64 a.base.tik.min, .string a.base.rc, .slice hC.ar hC.nr hC.cr, .slice hC.ae hC.ne hC.ce, .bool a.base.queued, .int .u64 a.ver, .slice e1 a.edits.length k1, .slice e2 a.legs.length k2, .bool a.working, .int .i64 a.queue]) (w.heap.size + 1 + 1) a (AH.mk hC e1 a.edits.length k1 e2 a.legs.length k2) := OA.rowAt (B := w.heap.size + 1 + 1) ⟨HP.out.agent, HP.out.off, HP.out.ver, HP.out.queue, oC_5.more (by omega), oA1_5.more (by omega), oA2_5.more (by omega)⟩ (by omega) _
        go_simp
        refine hK9.out _ _ hS9 (fun hS => ?_)
        clear hK9 K9
        try simp only [Act.put, List.setIfInBounds_toArray, List.set_cons_zero, List.set_cons_succ]
        refine wpAnyH_done (by kernel_rfl) ?_ _
        go_wp2
        refine ret_a1 Tryz.results7 hF9.r2 rfl rfl rfl ?_
        exact ⟨_, rfl, hOA.more (by omega), hF9.B⟩
      refine AllReadyH.cons (o := { dst := some 26, op := .makeSlice 32 (.const (.int .i64 0)) (.tmp 25), type := 32, pos := "law.go:54", after := #[⟨22, .data⟩], guard := none }) rfl (fun K9 hK9 => ?_) AllReadyH.nil
      go_simp
      have hz3 : ((v1.alloc (.cells Y1 50)).alloc (.cells Y2 44)).heap.size = (v1.alloc (.cells Y1 50)).heap.size + 1 := World.size_alloc _ _
      have hF_3 := hF_2.step ((Below.refl _ _).alloc (Nat.le_refl _) (.cells Y2 44))
      have oM2_3 : Own ((v1.alloc (.cells Y1 50)).alloc (.cells Y2 44)) (v1.heap.size + 1) 44 tLeg (.slice (some ⟨v1.heap.size + 1, 0, none⟩) 0 (h.nl + 2)) [] := by have q := made_own (T := tLeg) (v1.alloc (.cells Y1 50)) 44 h.nl hnB2 Y2 HY2.out; rw [hz2] at q; exact q
      have oC_3 := oC_2.alloc (.cells Y2 44)
      have oM1_3 := oM1_2.alloc (.cells Y2 44)
      have hS_3 := hF_3.x1
      refine hK9.out _ _ hS_3 (fun hS => ?_)
      clear hK9 K9
      try simp only [Act.put, List.setIfInBounds_toArray, List.set_cons_zero, List.set_cons_succ]
      refine wpAnyH_ready (rs := [18]) (by kernel_rfl) (by simp) ?_
      refine AllReadyH.cons (o := { dst := some 21, op := .call { callee := .builtin .append, args := #[.tmp 18, .tmp 20], argTypes := #[31, 31] }, type := 31, pos := "law.go:54", after := #[⟨15, .data⟩, ⟨17, .data⟩, ⟨8, .chain⟩], guard := none }) rfl (fun K9 hK9 => ?_) AllReadyH.nil
      refine step_append_told (T := tEdit) (v := .slice (some ⟨v1.heap.size, 0, none⟩) 0 (h.nd + 2)) (l := []) (B := v1.heap.size) rfl (.tmp 18) (.tmp 20) (by rfl) sl_edi (by rfl) oM1_3 (by rfl) ((HP.out.edits.below hF_3.B HB.out).sl (lo := 0) (hi := w.heap.size) fun b hb => ⟨Nat.zero_le _, HB.out b hb⟩) HP.out.edits.nil (by omega) (by simp; omega) ?_
      intro w9 v4 hown hgr hvb
      rw [List.nil_append] at hown
      obtain ⟨e1, k1, hv9⟩ := hown.form
      subst hv9
      have hz4 := hgr.size
      replace hgr : World.grownBy ((v1.alloc (.cells Y1 50)).alloc (.cells Y2 44)) v4 (some (v1.heap.size)) := hgr
      have hF_4 := hF_3.grown hgr (fun k hk => by injection hk; have := hF_3.z; omega)
      have oA1_4 := hown
      have rA1 : ∀ k, bk e1 = some k → (k = v1.heap.size ∨ k = ((v1.alloc (.cells Y1 50)).alloc (.cells Y2 44)).heap.size) ∧ k < v4.heap.size := fun k hk => by have hkl := (hown.bk_lt k hk).2; rcases hvb with hv | hv <;> (rw [ownBlock_bk, hk] at hv; injection hv with hv) ; exact ⟨.inl hv, hkl⟩ ; exact ⟨.inr hv, hkl⟩
      have oC_4 := oC_3.kept hgr (fun k hk e => by have := rC k hk; injection e with e; omega)
      have oM2_4 := oM2_3.kept hgr (fun k hk e => by have e2 := hk; simp [Value.ownBlock] at e2; injection e with e; omega)
      have hS_4 := hF_4.x1
      refine hK9.out _ _ hS_4 (fun hS => ?_)
      clear hK9 K9
      try simp only [Act.put, List.setIfInBounds_toArray, List.set_cons_zero, List.set_cons_succ]
      refine wpAnyH_ready (rs := [26]) (by kernel_rfl) (by simp) ?_
      refine AllReadyH.cons (o := { dst := some 29, op := .call { callee := .builtin .append, args := #[.tmp 26, .tmp 28], argTypes := #[32, 32] }, type := 32, pos := "law.go:54", after := #[⟨23, .data⟩, ⟨25, .data⟩, ⟨18, .chain⟩], guard := none }) rfl (fun K9 hK9 => ?_) AllReadyH.nil
      refine step_append_told (T := tLeg) (v := .slice (some ⟨v1.heap.size + 1, 0, none⟩) 0 (h.nl + 2)) (l := []) (B := v1.heap.size + 1) rfl (.tmp 26) (.tmp 28) (by rfl) sl_leg (by rfl) oM2_4 (by rfl) ((HP.out.legs.below hF_4.B HB.out).sl (lo := 0) (hi := w.heap.size) fun b hb => ⟨Nat.zero_le _, HB.out b hb⟩) HP.out.legs.nil (by omega) (by simp; omega) ?_
      intro w9 v5 hown hgr hvb
      rw [List.nil_append] at hown
      obtain ⟨e2, k2, hv9⟩ := hown.form
      subst hv9
      have hz5 := hgr.size
      replace hgr : World.grownBy v4 v5 (some (v1.heap.size + 1)) := hgr
      have hF_5 := hF_4.grown hgr (fun k hk => by injection hk; have := hF_4.z; omega)
      have oA2_5 := hown
      have rA2 : ∀ k, bk e2 = some k → (k = v1.heap.size + 1 ∨ k = v4.heap.size) ∧ k < v5.heap.size := fun k hk => by have hkl := (hown.bk_lt k hk).2; rcases hvb with hv | hv <;> (rw [ownBlock_bk, hk] at hv; injection hv with hv) ; exact ⟨.inl hv, hkl⟩ ; exact ⟨.inr hv, hkl⟩
      have oC_5 := oC_4.kept hgr (fun k hk e => by have := rC k hk; injection e with e; omega)
      have oA1_5 := oA1_4.kept hgr (fun k hk e => by rw [ownBlock_bk] at hk; have := rA1 k hk; injection e with e; omega)
      have hS_5 := hF_5.x1
      refine hK9.out _ _ hS_5 (fun hS => ?_)
      clear hK9 K9
      try simp only [Act.put, List.setIfInBounds_toArray, List.set_cons_zero, List.set_cons_succ]
      refine tk (i := 31) (oi := { dst := some 34, op := .build 53 #[(0, .tmp 4), (1, .tmp 6), (2, .tmp 8), (3, .tmp 11), (4, .tmp 13), (5, .tmp 21), (6, .tmp 29), (7, .tmp 31), (8, .tmp 33)], type := 53, pos := "law.go:54", after := #[⟨1, .data⟩, ⟨3, .data⟩, ⟨5, .data⟩, ⟨8, .data⟩, ⟨10, .data⟩, ⟨18, .data⟩, ⟨26, .data⟩, ⟨28, .data⟩, ⟨30, .data⟩], guard := none }) (v := ?_) ?_ hS ?_
      rotate_left
      · intro w9 hS9; have q1 := hS9; go_simp; try with_reducible rfl
      try simp only [Act.put, List.setIfInBounds_toArray, List.set_cons_zero, List.set_cons_succ]
      refine wpAnyH_ready (rs := [32]) (by kernel_rfl) (by simp) ?_
      refine AllReadyH.cons (o := { dst := none, op := .store 53 (.tmp 2) (.tmp 34), type := 0, pos := "law.go:54", after := #[⟨31, .data⟩, ⟨26, .chain⟩, ⟨0, .phase⟩, ⟨1, .phase⟩, ⟨2, .phase⟩, ⟨3, .phase⟩, ⟨4, .phase⟩, ⟨5, .phase⟩, ⟨6, .phase⟩, ⟨7, .phase⟩, ⟨8, .phase⟩, ⟨9, .phase⟩, ⟨10, .phase⟩, ⟨11, .phase⟩, ⟨12, .phase⟩, ⟨13, .phase⟩, ⟨14, .phase⟩, ⟨15, .phase⟩, ⟨16, .phase⟩, ⟨17, .phase⟩, ⟨18, .phase⟩, ⟨19, .phase⟩, ⟨20, .phase⟩, ⟨21, .phase⟩, ⟨22, .phase⟩, ⟨23, .phase⟩, ⟨24, .phase⟩, ⟨25, .phase⟩, ⟨26, .phase⟩, ⟨27, .phase⟩, ⟨28, .phase⟩, ⟨29, .phase⟩, ⟨30, .phase⟩, ⟨31, .phase⟩], guard := none }) rfl (fun K9 hK9 => ?_) AllReadyH.nil
      have hst := sta_of (cs := #[.string a.agent, .string a.off, .bool a.open_, .string a.base.loc, .string a.base.off, .slice hC.an hC.nn hC.cn, .slice hC.ag hC.ng hC.cg, .slice hC.ap hC.np hC.cp, .int .i64 a.base.tik.kind, .int .i64 a.base.tik.day, .int .i64 a.base.tik.min, .string a.base.rc, .slice hC.ar hC.nr hC.cr, .slice hC.ae hC.ne hC.ce, .bool a.base.queued, .int .u64 a.ver, .slice e1 a.edits.length k1, .slice e2 a.legs.length k2, .bool a.working, .int .i64 a.queue]) hF_5.r2 rfl rfl (by simp [Value.oneCell'])
      have hF9 := hF_5.row2 #[.string a.agent, .string a.off, .bool a.open_, .string a.base.loc, .string a.base.off, .slice hC.an hC.nn hC.cn, .slice hC.ag hC.ng hC.cg, .slice hC.ap hC.np hC.cp, .int .i64 a.base.tik.kind, .int .i64 a.base.tik.day, .int .i64 a.base.tik.min, .string a.base.rc, .slice hC.ar hC.nr hC.cr, .slice hC.ae hC.ne hC.ce, .bool a.base.queued, .int .u64 a.ver, .slice e1 a.edits.length k1, .slice e2 a.legs.length k2, .bool a.working, .int .i64 a.queue]
      have hS9 := hF9.x1
      have hOA : OA (v5.setRow (w.heap.size + 1) #[.string a.agent, .string a.off, .bool a.open_, .string a.base.loc, .string a.base.off, .slice hC.an hC.nn hC.cn, .slice hC.ag hC.ng hC.cg, .slice hC.ap hC.np hC.cp, .int .i64 a.base.tik.kind, .int .i64 a.base.tik.day, .int .i64 a.base.tik.min, .string a.base.rc, .slice hC.ar hC.nr hC.cr, .slice hC.ae hC.ne hC.ce, .bool a.base.queued, .int .u64 a.ver, .slice e1 a.edits.length k1, .slice e2 a.legs.length k2, .bool a.working, .int .i64 a.queue]) (w.heap.size + 1 + 1) a (AH.mk hC e1 a.edits.length k1 e2 a.legs.length k2) := OA.rowAt (B := w.heap.size + 1 + 1) ⟨HP.out.agent, HP.out.off, HP.out.ver, HP.out.queue, oC_5.more (by omega), oA1_5.more (by omega), oA2_5.more (by omega)⟩ (by omega) _
      go_simp
      refine hK9.out _ _ hS9 (fun hS => ?_)
      clear hK9 K9
      try simp only [Act.put, List.setIfInBounds_toArray, List.set_cons_zero, List.set_cons_succ]
      refine wpAnyH_done (by kernel_rfl) ?_ _
      go_wp2
      refine ret_a1 Tryz.results7 hF9.r2 rfl rfl rfl ?_
      exact ⟨_, rfl, hOA.more (by omega), hF9.B⟩
    refine AllReadyH.cons (o := { dst := some 26, op := .makeSlice 32 (.const (.int .i64 0)) (.tmp 25), type := 32, pos := "law.go:54", after := #[⟨22, .data⟩], guard := none }) rfl (fun K9 hK9 => ?_) AllReadyH.nil
    go_simp
    have hz2 : (v1.alloc (.cells Y2 44)).heap.size = v1.heap.size + 1 := World.size_alloc _ _
    have hF_2 := hF_1.step ((Below.refl _ _).alloc (Nat.le_refl _) (.cells Y2 44))
    have oM2_2 : Own (v1.alloc (.cells Y2 44)) (v1.heap.size) 44 tLeg (.slice (some ⟨v1.heap.size, 0, none⟩) 0 (h.nl + 2)) [] := by have q := made_own (T := tLeg) v1 44 h.nl hnB2 Y2 HY2.out; exact q
    have oC_2 := oC_1.alloc (.cells Y2 44)
    have hS_2 := hF_2.x1
    refine hK9.out _ _ hS_2 (fun hS => ?_)
    clear hK9 K9
    try simp only [Act.put, List.setIfInBounds_toArray, List.set_cons_zero, List.set_cons_succ]
    refine wpAnyH_ready (rs := [15]) (by kernel_rfl) (by simp) ?_
    refine AllReadyH.cons (o := { dst := some 18, op := .makeSlice 31 (.const (.int .i64 0)) (.tmp 17), type := 31, pos := "law.go:54", after := #[⟨14, .data⟩], guard := none }) rfl (fun K9 hK9 => ?_) AllReadyH.nil
    go_simp
    have hz3 : ((v1.alloc (.cells Y2 44)).alloc (.cells Y1 50)).heap.size = (v1.alloc (.cells Y2 44)).heap.size + 1 := World.size_alloc _ _
    have hF_3 := hF_2.step ((Below.refl _ _).alloc (Nat.le_refl _) (.cells Y1 50))
    have oM1_3 : Own ((v1.alloc (.cells Y2 44)).alloc (.cells Y1 50)) (v1.heap.size + 1) 50 tEdit (.slice (some ⟨v1.heap.size + 1, 0, none⟩) 0 (h.nd + 2)) [] := by have q := made_own (T := tEdit) (v1.alloc (.cells Y2 44)) 50 h.nd hnB1 Y1 HY1.out; rw [hz2] at q; exact q
    have oC_3 := oC_2.alloc (.cells Y1 50)
    have oM2_3 := oM2_2.alloc (.cells Y1 50)
    have hS_3 := hF_3.x1
    refine hK9.out _ _ hS_3 (fun hS => ?_)
    clear hK9 K9
    try simp only [Act.put, List.setIfInBounds_toArray, List.set_cons_zero, List.set_cons_succ]
    refine wpAnyH_ready (rs := [18]) (by kernel_rfl) (by simp) ?_
    refine AllReadyH.cons (o := { dst := some 21, op := .call { callee := .builtin .append, args := #[.tmp 18, .tmp 20], argTypes := #[31, 31] }, type := 31, pos := "law.go:54", after := #[⟨15, .data⟩, ⟨17, .data⟩, ⟨8, .chain⟩], guard := none }) rfl (fun K9 hK9 => ?_) AllReadyH.nil
    refine step_append_told (T := tEdit) (v := .slice (some ⟨v1.heap.size + 1, 0, none⟩) 0 (h.nd + 2)) (l := []) (B := v1.heap.size + 1) rfl (.tmp 18) (.tmp 20) (by rfl) sl_edi (by rfl) oM1_3 (by rfl) ((HP.out.edits.below hF_3.B HB.out).sl (lo := 0) (hi := w.heap.size) fun b hb => ⟨Nat.zero_le _, HB.out b hb⟩) HP.out.edits.nil (by omega) (by simp; omega) ?_
    intro w9 v4 hown hgr hvb
    rw [List.nil_append] at hown
    obtain ⟨e1, k1, hv9⟩ := hown.form
    subst hv9
    have hz4 := hgr.size
    replace hgr : World.grownBy ((v1.alloc (.cells Y2 44)).alloc (.cells Y1 50)) v4 (some (v1.heap.size + 1)) := hgr
    have hF_4 := hF_3.grown hgr (fun k hk => by injection hk; have := hF_3.z; omega)
    have oA1_4 := hown
    have rA1 : ∀ k, bk e1 = some k → (k = v1.heap.size + 1 ∨ k = ((v1.alloc (.cells Y2 44)).alloc (.cells Y1 50)).heap.size) ∧ k < v4.heap.size := fun k hk => by have hkl := (hown.bk_lt k hk).2; rcases hvb with hv | hv <;> (rw [ownBlock_bk, hk] at hv; injection hv with hv) ; exact ⟨.inl hv, hkl⟩ ; exact ⟨.inr hv, hkl⟩
    have oC_4 := oC_3.kept hgr (fun k hk e => by have := rC k hk; injection e with e; omega)
    have oM2_4 := oM2_3.kept hgr (fun k hk e => by have e2 := hk; simp [Value.ownBlock] at e2; injection e with e; omega)
    have hS_4 := hF_4.x1
    refine hK9.out _ _ hS_4 (fun hS => ?_)
    clear hK9 K9
    try simp only [Act.put, List.setIfInBounds_toArray, List.set_cons_zero, List.set_cons_succ]
    refine wpAnyH_ready (rs := [26]) (by kernel_rfl) (by simp) ?_
    refine AllReadyH.cons (o := { dst := some 29, op := .call { callee := .builtin .append, args := #[.tmp 26, .tmp 28], argTypes := #[32, 32] }, type := 32, pos := "law.go:54", after := #[⟨23, .data⟩, ⟨25, .data⟩, ⟨18, .chain⟩], guard := none }) rfl (fun K9 hK9 => ?_) AllReadyH.nil
    refine step_append_told (T := tLeg) (v := .slice (some ⟨v1.heap.size, 0, none⟩) 0 (h.nl + 2)) (l := []) (B := v1.heap.size) rfl (.tmp 26) (.tmp 28) (by rfl) sl_leg (by rfl) oM2_4 (by rfl) ((HP.out.legs.below hF_4.B HB.out).sl (lo := 0) (hi := w.heap.size) fun b hb => ⟨Nat.zero_le _, HB.out b hb⟩) HP.out.legs.nil (by omega) (by simp; omega) ?_
    intro w9 v5 hown hgr hvb
    rw [List.nil_append] at hown
    obtain ⟨e2, k2, hv9⟩ := hown.form
    subst hv9
    have hz5 := hgr.size
    replace hgr : World.grownBy v4 v5 (some (v1.heap.size)) := hgr
    have hF_5 := hF_4.grown hgr (fun k hk => by injection hk; have := hF_4.z; omega)
    have oA2_5 := hown
    have rA2 : ∀ k, bk e2 = some k → (k = v1.heap.size ∨ k = v4.heap.size) ∧ k < v5.heap.size := fun k hk => by have hkl := (hown.bk_lt k hk).2; rcases hvb with hv | hv <;> (rw [ownBlock_bk, hk] at hv; injection hv with hv) ; exact ⟨.inl hv, hkl⟩ ; exact ⟨.inr hv, hkl⟩
    have oC_5 := oC_4.kept hgr (fun k hk e => by have := rC k hk; injection e with e; omega)
    have oA1_5 := oA1_4.kept hgr (fun k hk e => by rw [ownBlock_bk] at hk; have := rA1 k hk; injection e with e; omega)
    have hS_5 := hF_5.x1
    refine hK9.out _ _ hS_5 (fun hS => ?_)
    clear hK9 K9
    try simp only [Act.put, List.setIfInBounds_toArray, List.set_cons_zero, List.set_cons_succ]
    refine tk (i := 31) (oi := { dst := some 34, op := .build 53 #[(0, .tmp 4), (1, .tmp 6), (2, .tmp 8), (3, .tmp 11), (4, .tmp 13), (5, .tmp 21), (6, .tmp 29), (7, .tmp 31), (8, .tmp 33)], type := 53, pos := "law.go:54", after := #[⟨1, .data⟩, ⟨3, .data⟩, ⟨5, .data⟩, ⟨8, .data⟩, ⟨10, .data⟩, ⟨18, .data⟩, ⟨26, .data⟩, ⟨28, .data⟩, ⟨30, .data⟩], guard := none }) (v := ?_) ?_ hS ?_
    rotate_left
    · intro w9 hS9; have q1 := hS9; go_simp; try with_reducible rfl
    try simp only [Act.put, List.setIfInBounds_toArray, List.set_cons_zero, List.set_cons_succ]
    refine wpAnyH_ready (rs := [32]) (by kernel_rfl) (by simp) ?_
    refine AllReadyH.cons (o := { dst := none, op := .store 53 (.tmp 2) (.tmp 34), type := 0, pos := "law.go:54", after := #[⟨31, .data⟩, ⟨26, .chain⟩, ⟨0, .phase⟩, ⟨1, .phase⟩, ⟨2, .phase⟩, ⟨3, .phase⟩, ⟨4, .phase⟩, ⟨5, .phase⟩, ⟨6, .phase⟩, ⟨7, .phase⟩, ⟨8, .phase⟩, ⟨9, .phase⟩, ⟨10, .phase⟩, ⟨11, .phase⟩, ⟨12, .phase⟩, ⟨13, .phase⟩, ⟨14, .phase⟩, ⟨15, .phase⟩, ⟨16, .phase⟩, ⟨17, .phase⟩, ⟨18, .phase⟩, ⟨19, .phase⟩, ⟨20, .phase⟩, ⟨21, .phase⟩, ⟨22, .phase⟩, ⟨23, .phase⟩, ⟨24, .phase⟩, ⟨25, .phase⟩, ⟨26, .phase⟩, ⟨27, .phase⟩, ⟨28, .phase⟩, ⟨29, .phase⟩, ⟨30, .phase⟩, ⟨31, .phase⟩], guard := none }) rfl (fun K9 hK9 => ?_) AllReadyH.nil
    have hst := sta_of (cs := #[.string a.agent, .string a.off, .bool a.open_, .string a.base.loc, .string a.base.off, .slice hC.an hC.nn hC.cn, .slice hC.ag hC.ng hC.cg, .slice hC.ap hC.np hC.cp, .int .i64 a.base.tik.kind, .int .i64 a.base.tik.day, .int .i64 a.base.tik.min, .string a.base.rc, .slice hC.ar hC.nr hC.cr, .slice hC.ae hC.ne hC.ce, .bool a.base.queued, .int .u64 a.ver, .slice e1 a.edits.length k1, .slice e2 a.legs.length k2, .bool a.working, .int .i64 a.queue]) hF_5.r2 rfl rfl (by simp [Value.oneCell'])
    have hF9 := hF_5.row2 #[.string a.agent, .string a.off, .bool a.open_, .string a.base.loc, .string a.base.off, .slice hC.an hC.nn hC.cn, .slice hC.ag hC.ng hC.cg, .slice hC.ap hC.np hC.cp, .int .i64 a.base.tik.kind, .int .i64 a.base.tik.day, .int .i64 a.base.tik.min, .string a.base.rc, .slice hC.ar hC.nr hC.cr, .slice hC.ae hC.ne hC.ce, .bool a.base.queued, .int .u64 a.ver, .slice e1 a.edits.length k1, .slice e2 a.legs.length k2, .bool a.working, .int .i64 a.queue]
    have hS9 := hF9.x1
    have hOA : OA (v5.setRow (w.heap.size + 1) #[.string a.agent, .string a.off, .bool a.open_, .string a.base.loc, .string a.base.off, .slice hC.an hC.nn hC.cn, .slice hC.ag hC.ng hC.cg, .slice hC.ap hC.np hC.cp, .int .i64 a.base.tik.kind, .int .i64 a.base.tik.day, .int .i64 a.base.tik.min, .string a.base.rc, .slice hC.ar hC.nr hC.cr, .slice hC.ae hC.ne hC.ce, .bool a.base.queued, .int .u64 a.ver, .slice e1 a.edits.length k1, .slice e2 a.legs.length k2, .bool a.working, .int .i64 a.queue]) (w.heap.size + 1 + 1) a (AH.mk hC e1 a.edits.length k1 e2 a.legs.length k2) := OA.rowAt (B := w.heap.size + 1 + 1) ⟨HP.out.agent, HP.out.off, HP.out.ver, HP.out.queue, oC_5.more (by omega), oA1_5.more (by omega), oA2_5.more (by omega)⟩ (by omega) _
    go_simp
    refine hK9.out _ _ hS9 (fun hS => ?_)
    clear hK9 K9
    try simp only [Act.put, List.setIfInBounds_toArray, List.set_cons_zero, List.set_cons_succ]
    refine wpAnyH_done (by kernel_rfl) ?_ _
    go_wp2
    refine ret_a1 Tryz.results7 hF9.r2 rfl rfl rfl ?_
    exact ⟨_, rfl, hOA.more (by omega), hF9.B⟩
  refine AllReadyH.cons (o := { dst := some 18, op := .makeSlice 31 (.const (.int .i64 0)) (.tmp 17), type := 31, pos := "law.go:54", after := #[⟨14, .data⟩], guard := none }) rfl (fun K9 hK9 => ?_) ?_
  · go_simp
    have hz1 : (V.drew.alloc (.cells Y1 50)).heap.size = V.drew.heap.size + 1 := World.size_alloc _ _
    have hF_1 := hF_0.step ((Below.refl _ _).alloc (Nat.le_refl _) (.cells Y1 50))
    have oM1_1 : Own (V.drew.alloc (.cells Y1 50)) (V.drew.heap.size) 50 tEdit (.slice (some ⟨V.drew.heap.size, 0, none⟩) 0 (h.nd + 2)) [] := by have q := made_own (T := tEdit) V.drew 50 h.nd hnB1 Y1 HY1.out; exact q
    have hS_1 := hF_1.x1
    refine hK9.out _ _ hS_1 (fun hS => ?_)
    clear hK9 K9
    try simp only [Act.put, List.setIfInBounds_toArray, List.set_cons_zero, List.set_cons_succ]
    refine wpAnyH_ready (rs := [8, 23]) (by kernel_rfl) (by simp) ?_
    refine AllReadyH.cons (o := { dst := some 11, op := .call { callee := .value (.func 17), args := #[.tmp 10], argTypes := #[29] }, type := 29, pos := "law.go:54", after := #[⟨7, .data⟩], guard := none }) rfl (fun K9 hK9 => ?_) ?_
    · go_simp
      refine (lcopied_any a.base h.b _ S (HP.out.base.below hF_1.B HB.out) (fun b hb => by have := HB.out b hb; have := hF_1.z; omega) HSB.out).mono ?_
      rintro e v2 ⟨hC, rfl, oC_2, hb2⟩
      have hz2 := hb2.size
      have hF_2 := hF_1.step hb2
      have rC := oC_2.rng
      have oM1_2 := oM1_1.keep hb2
      have hS_2 := hF_2.x1
      refine hK9.out _ _ hS_2 (fun hS => ?_)
      clear hK9 K9
      try simp only [Act.put, List.setIfInBounds_toArray, List.set_cons_zero, List.set_cons_succ]
      refine wpAnyH_ready (rs := [18, 23]) (by kernel_rfl) (by simp) ?_
      refine AllReadyH.cons (o := { dst := some 21, op := .call { callee := .builtin .append, args := #[.tmp 18, .tmp 20], argTypes := #[31, 31] }, type := 31, pos := "law.go:54", after := #[⟨15, .data⟩, ⟨17, .data⟩, ⟨8, .chain⟩], guard := none }) rfl (fun K9 hK9 => ?_) ?_
      · refine step_append_told (T := tEdit) (v := .slice (some ⟨V.drew.heap.size, 0, none⟩) 0 (h.nd + 2)) (l := []) (B := V.drew.heap.size) rfl (.tmp 18) (.tmp 20) (by rfl) sl_edi (by rfl) oM1_2 (by rfl) ((HP.out.edits.below hF_2.B HB.out).sl (lo := 0) (hi := w.heap.size) fun b hb => ⟨Nat.zero_le _, HB.out b hb⟩) HP.out.edits.nil (by omega) (by simp; omega) ?_
        intro w9 v3 hown hgr hvb
        rw [List.nil_append] at hown
        obtain ⟨e1, k1, hv9⟩ := hown.form
        subst hv9
        have hz3 := hgr.size
        replace hgr : World.grownBy v2 v3 (some (V.drew.heap.size)) := hgr
        have hF_3 := hF_2.grown hgr (fun k hk => by injection hk; have := hF_2.z; omega)
        have oA1_3 := hown
        have rA1 : ∀ k, bk e1 = some k → (k = V.drew.heap.size ∨ k = v2.heap.size) ∧ k < v3.heap.size := fun k hk => by have hkl := (hown.bk_lt k hk).2; rcases hvb with hv | hv <;> (rw [ownBlock_bk, hk] at hv; injection hv with hv) ; exact ⟨.inl hv, hkl⟩ ; exact ⟨.inr hv, hkl⟩
        have oC_3 := oC_2.kept hgr (fun k hk e => by have := rC k hk; injection e with e; omega)
        have hS_3 := hF_3.x1
        refine hK9.out _ _ hS_3 (fun hS => ?_)
        clear hK9 K9
        try simp only [Act.put, List.setIfInBounds_toArray, List.set_cons_zero, List.set_cons_succ]
        refine wpAnyH_ready (rs := [23]) (by kernel_rfl) (by simp) ?_
        refine AllReadyH.cons (o := { dst := some 26, op := .makeSlice 32 (.const (.int .i64 0)) (.tmp 25), type := 32, pos := "law.go:54", after := #[⟨22, .data⟩], guard := none }) rfl (fun K9 hK9 => ?_) AllReadyH.nil
        go_simp
        have hz4 : (v3.alloc (.cells Y2 44)).heap.size = v3.heap.size + 1 := World.size_alloc _ _
        have hF_4 := hF_3.step ((Below.refl _ _).alloc (Nat.le_refl _) (.cells Y2 44))
        have oM2_4 : Own (v3.alloc (.cells Y2 44)) (v3.heap.size) 44 tLeg (.slice (some ⟨v3.heap.size, 0, none⟩) 0 (h.nl + 2)) [] := by have q := made_own (T := tLeg) v3 44 h.nl hnB2 Y2 HY2.out; exact q
        have oC_4 := oC_3.alloc (.cells Y2 44)
        have oA1_4 := oA1_3.alloc (.cells Y2 44)
        have hS_4 := hF_4.x1
        refine hK9.out _ _ hS_4 (fun hS => ?_)
        clear hK9 K9
        try simp only [Act.put, List.setIfInBounds_toArray, List.set_cons_zero, List.set_cons_succ]
        refine wpAnyH_ready (rs := [26]) (by kernel_rfl) (by simp) ?_
        refine AllReadyH.cons (o := { dst := some 29, op := .call { callee := .builtin .append, args := #[.tmp 26, .tmp 28], argTypes := #[32, 32] }, type := 32, pos := "law.go:54", after := #[⟨23, .data⟩, ⟨25, .data⟩, ⟨18, .chain⟩], guard := none }) rfl (fun K9 hK9 => ?_) AllReadyH.nil
        refine step_append_told (T := tLeg) (v := .slice (some ⟨v3.heap.size, 0, none⟩) 0 (h.nl + 2)) (l := []) (B := v3.heap.size) rfl (.tmp 26) (.tmp 28) (by rfl) sl_leg (by rfl) oM2_4 (by rfl) ((HP.out.legs.below hF_4.B HB.out).sl (lo := 0) (hi := w.heap.size) fun b hb => ⟨Nat.zero_le _, HB.out b hb⟩) HP.out.legs.nil (by omega) (by simp; omega) ?_
        intro w9 v5 hown hgr hvb
        rw [List.nil_append] at hown
        obtain ⟨e2, k2, hv9⟩ := hown.form
        subst hv9
        have hz5 := hgr.size
        replace hgr : World.grownBy (v3.alloc (.cells Y2 44)) v5 (some (v3.heap.size)) := hgr
        have hF_5 := hF_4.grown hgr (fun k hk => by injection hk; have := hF_4.z; omega)
        have oA2_5 := hown
        have rA2 : ∀ k, bk e2 = some k → (k = v3.heap.size ∨ k = (v3.alloc (.cells Y2 44)).heap.size) ∧ k < v5.heap.size := fun k hk => by have hkl := (hown.bk_lt k hk).2; rcases hvb with hv | hv <;> (rw [ownBlock_bk, hk] at hv; injection hv with hv) ; exact ⟨.inl hv, hkl⟩ ; exact ⟨.inr hv, hkl⟩
        have oC_5 := oC_4.kept hgr (fun k hk e => by have := rC k hk; injection e with e; omega)
        have oA1_5 := oA1_4.kept hgr (fun k hk e => by rw [ownBlock_bk] at hk; have := rA1 k hk; injection e with e; omega)
        have hS_5 := hF_5.x1
        refine hK9.out _ _ hS_5 (fun hS => ?_)
        clear hK9 K9
        try simp only [Act.put, List.setIfInBounds_toArray, List.set_cons_zero, List.set_cons_succ]
        refine tk (i := 31) (oi := { dst := some 34, op := .build 53 #[(0, .tmp 4), (1, .tmp 6), (2, .tmp 8), (3, .tmp 11), (4, .tmp 13), (5, .tmp 21), (6, .tmp 29), (7, .tmp 31), (8, .tmp 33)], type := 53, pos := "law.go:54", after := #[⟨1, .data⟩, ⟨3, .data⟩, ⟨5, .data⟩, ⟨8, .data⟩, ⟨10, .data⟩, ⟨18, .data⟩, ⟨26, .data⟩, ⟨28, .data⟩, ⟨30, .data⟩], guard := none }) (v := ?_) ?_ hS ?_
        rotate_left
        · intro w9 hS9; have q1 := hS9; go_simp; try with_reducible rfl
        try simp only [Act.put, List.setIfInBounds_toArray, List.set_cons_zero, List.set_cons_succ]
        refine wpAnyH_ready (rs := [32]) (by kernel_rfl) (by simp) ?_
        refine AllReadyH.cons (o := { dst := none, op := .store 53 (.tmp 2) (.tmp 34), type := 0, pos := "law.go:54", after := #[⟨31, .data⟩, ⟨26, .chain⟩, ⟨0, .phase⟩, ⟨1, .phase⟩, ⟨2, .phase⟩, ⟨3, .phase⟩, ⟨4, .phase⟩, ⟨5, .phase⟩, ⟨6, .phase⟩, ⟨7, .phase⟩, ⟨8, .phase⟩, ⟨9, .phase⟩, ⟨10, .phase⟩, ⟨11, .phase⟩, ⟨12, .phase⟩, ⟨13, .phase⟩, ⟨14, .phase⟩, ⟨15, .phase⟩, ⟨16, .phase⟩, ⟨17, .phase⟩, ⟨18, .phase⟩, ⟨19, .phase⟩, ⟨20, .phase⟩, ⟨21, .phase⟩, ⟨22, .phase⟩, ⟨23, .phase⟩, ⟨24, .phase⟩, ⟨25, .phase⟩, ⟨26, .phase⟩, ⟨27, .phase⟩, ⟨28, .phase⟩, ⟨29, .phase⟩, ⟨30, .phase⟩, ⟨31, .phase⟩], guard := none }) rfl (fun K9 hK9 => ?_) AllReadyH.nil
        have hst := sta_of (cs := #[.string a.agent, .string a.off, .bool a.open_, .string a.base.loc, .string a.base.off, .slice hC.an hC.nn hC.cn, .slice hC.ag hC.ng hC.cg, .slice hC.ap hC.np hC.cp, .int .i64 a.base.tik.kind, .int .i64 a.base.tik.day, .int .i64 a.base.tik.min, .string a.base.rc, .slice hC.ar hC.nr hC.cr, .slice hC.ae hC.ne hC.ce, .bool a.base.queued, .int .u64 a.ver, .slice e1 a.edits.length k1, .slice e2 a.legs.length k2, .bool a.working, .int .i64 a.queue]) hF_5.r2 rfl rfl (by simp [Value.oneCell'])
        have hF9 := hF_5.row2 #[.string a.agent, .string a.off, .bool a.open_, .string a.base.loc, .string a.base.off, .slice hC.an hC.nn hC.cn, .slice hC.ag hC.ng hC.cg, .slice hC.ap hC.np hC.cp, .int .i64 a.base.tik.kind, .int .i64 a.base.tik.day, .int .i64 a.base.tik.min, .string a.base.rc, .slice hC.ar hC.nr hC.cr, .slice hC.ae hC.ne hC.ce, .bool a.base.queued, .int .u64 a.ver, .slice e1 a.edits.length k1, .slice e2 a.legs.length k2, .bool a.working, .int .i64 a.queue]
        have hS9 := hF9.x1
        have hOA : OA (v5.setRow (w.heap.size + 1) #[.string a.agent, .string a.off, .bool a.open_, .string a.base.loc, .string a.base.off, .slice hC.an hC.nn hC.cn, .slice hC.ag hC.ng hC.cg, .slice hC.ap hC.np hC.cp, .int .i64 a.base.tik.kind, .int .i64 a.base.tik.day, .int .i64 a.base.tik.min, .string a.base.rc, .slice hC.ar hC.nr hC.cr, .slice hC.ae hC.ne hC.ce, .bool a.base.queued, .int .u64 a.ver, .slice e1 a.edits.length k1, .slice e2 a.legs.length k2, .bool a.working, .int .i64 a.queue]) (w.heap.size + 1 + 1) a (AH.mk hC e1 a.edits.length k1 e2 a.legs.length k2) := OA.rowAt (B := w.heap.size + 1 + 1) ⟨HP.out.agent, HP.out.off, HP.out.ver, HP.out.queue, oC_5.more (by omega), oA1_5.more (by omega), oA2_5.more (by omega)⟩ (by omega) _
        go_simp
        refine hK9.out _ _ hS9 (fun hS => ?_)
        clear hK9 K9
        try simp only [Act.put, List.setIfInBounds_toArray, List.set_cons_zero, List.set_cons_succ]
        refine wpAnyH_done (by kernel_rfl) ?_ _
        go_wp2
        refine ret_a1 Tryz.results7 hF9.r2 rfl rfl rfl ?_
        exact ⟨_, rfl, hOA.more (by omega), hF9.B⟩
      refine AllReadyH.cons (o := { dst := some 26, op := .makeSlice 32 (.const (.int .i64 0)) (.tmp 25), type := 32, pos := "law.go:54", after := #[⟨22, .data⟩], guard := none }) rfl (fun K9 hK9 => ?_) AllReadyH.nil
      go_simp
      have hz3 : (v2.alloc (.cells Y2 44)).heap.size = v2.heap.size + 1 := World.size_alloc _ _
      have hF_3 := hF_2.step ((Below.refl _ _).alloc (Nat.le_refl _) (.cells Y2 44))
      have oM2_3 : Own (v2.alloc (.cells Y2 44)) (v2.heap.size) 44 tLeg (.slice (some ⟨v2.heap.size, 0, none⟩) 0 (h.nl + 2)) [] := by have q := made_own (T := tLeg) v2 44 h.nl hnB2 Y2 HY2.out; exact q
      have oC_3 := oC_2.alloc (.cells Y2 44)
      have oM1_3 := oM1_2.alloc (.cells Y2 44)
      have hS_3 := hF_3.x1
      refine hK9.out _ _ hS_3 (fun hS => ?_)
      clear hK9 K9
      try simp only [Act.put, List.setIfInBounds_toArray, List.set_cons_zero, List.set_cons_succ]
      refine wpAnyH_ready (rs := [18]) (by kernel_rfl) (by simp) ?_
      refine AllReadyH.cons (o := { dst := some 21, op := .call { callee := .builtin .append, args := #[.tmp 18, .tmp 20], argTypes := #[31, 31] }, type := 31, pos := "law.go:54", after := #[⟨15, .data⟩, ⟨17, .data⟩, ⟨8, .chain⟩], guard := none }) rfl (fun K9 hK9 => ?_) AllReadyH.nil
      refine step_append_told (T := tEdit) (v := .slice (some ⟨V.drew.heap.size, 0, none⟩) 0 (h.nd + 2)) (l := []) (B := V.drew.heap.size) rfl (.tmp 18) (.tmp 20) (by rfl) sl_edi (by rfl) oM1_3 (by rfl) ((HP.out.edits.below hF_3.B HB.out).sl (lo := 0) (hi := w.heap.size) fun b hb => ⟨Nat.zero_le _, HB.out b hb⟩) HP.out.edits.nil (by omega) (by simp; omega) ?_
      intro w9 v4 hown hgr hvb
      rw [List.nil_append] at hown
      obtain ⟨e1, k1, hv9⟩ := hown.form
      subst hv9
      have hz4 := hgr.size
      replace hgr : World.grownBy (v2.alloc (.cells Y2 44)) v4 (some (V.drew.heap.size)) := hgr
      have hF_4 := hF_3.grown hgr (fun k hk => by injection hk; have := hF_3.z; omega)
      have oA1_4 := hown
      have rA1 : ∀ k, bk e1 = some k → (k = V.drew.heap.size ∨ k = (v2.alloc (.cells Y2 44)).heap.size) ∧ k < v4.heap.size := fun k hk => by have hkl := (hown.bk_lt k hk).2; rcases hvb with hv | hv <;> (rw [ownBlock_bk, hk] at hv; injection hv with hv) ; exact ⟨.inl hv, hkl⟩ ; exact ⟨.inr hv, hkl⟩
      have oC_4 := oC_3.kept hgr (fun k hk e => by have := rC k hk; injection e with e; omega)
      have oM2_4 := oM2_3.kept hgr (fun k hk e => by have e2 := hk; simp [Value.ownBlock] at e2; injection e with e; omega)
      have hS_4 := hF_4.x1
      refine hK9.out _ _ hS_4 (fun hS => ?_)
      clear hK9 K9
      try simp only [Act.put, List.setIfInBounds_toArray, List.set_cons_zero, List.set_cons_succ]
      refine wpAnyH_ready (rs := [26]) (by kernel_rfl) (by simp) ?_
      refine AllReadyH.cons (o := { dst := some 29, op := .call { callee := .builtin .append, args := #[.tmp 26, .tmp 28], argTypes := #[32, 32] }, type := 32, pos := "law.go:54", after := #[⟨23, .data⟩, ⟨25, .data⟩, ⟨18, .chain⟩], guard := none }) rfl (fun K9 hK9 => ?_) AllReadyH.nil
      refine step_append_told (T := tLeg) (v := .slice (some ⟨v2.heap.size, 0, none⟩) 0 (h.nl + 2)) (l := []) (B := v2.heap.size) rfl (.tmp 26) (.tmp 28) (by rfl) sl_leg (by rfl) oM2_4 (by rfl) ((HP.out.legs.below hF_4.B HB.out).sl (lo := 0) (hi := w.heap.size) fun b hb => ⟨Nat.zero_le _, HB.out b hb⟩) HP.out.legs.nil (by omega) (by simp; omega) ?_
      intro w9 v5 hown hgr hvb
      rw [List.nil_append] at hown
      obtain ⟨e2, k2, hv9⟩ := hown.form
      subst hv9
      have hz5 := hgr.size
      replace hgr : World.grownBy v4 v5 (some (v2.heap.size)) := hgr
      have hF_5 := hF_4.grown hgr (fun k hk => by injection hk; have := hF_4.z; omega)
      have oA2_5 := hown
      have rA2 : ∀ k, bk e2 = some k → (k = v2.heap.size ∨ k = v4.heap.size) ∧ k < v5.heap.size := fun k hk => by have hkl := (hown.bk_lt k hk).2; rcases hvb with hv | hv <;> (rw [ownBlock_bk, hk] at hv; injection hv with hv) ; exact ⟨.inl hv, hkl⟩ ; exact ⟨.inr hv, hkl⟩
      have oC_5 := oC_4.kept hgr (fun k hk e => by have := rC k hk; injection e with e; omega)
      have oA1_5 := oA1_4.kept hgr (fun k hk e => by rw [ownBlock_bk] at hk; have := rA1 k hk; injection e with e; omega)
      have hS_5 := hF_5.x1
      refine hK9.out _ _ hS_5 (fun hS => ?_)
      clear hK9 K9
      try simp only [Act.put, List.setIfInBounds_toArray, List.set_cons_zero, List.set_cons_succ]
      refine tk (i := 31) (oi := { dst := some 34, op := .build 53 #[(0, .tmp 4), (1, .tmp 6), (2, .tmp 8), (3, .tmp 11), (4, .tmp 13), (5, .tmp 21), (6, .tmp 29), (7, .tmp 31), (8, .tmp 33)], type := 53, pos := "law.go:54", after := #[⟨1, .data⟩, ⟨3, .data⟩, ⟨5, .data⟩, ⟨8, .data⟩, ⟨10, .data⟩, ⟨18, .data⟩, ⟨26, .data⟩, ⟨28, .data⟩, ⟨30, .data⟩], guard := none }) (v := ?_) ?_ hS ?_
      rotate_left
      · intro w9 hS9; have q1 := hS9; go_simp; try with_reducible rfl
      try simp only [Act.put, List.setIfInBounds_toArray, List.set_cons_zero, List.set_cons_succ]
      refine wpAnyH_ready (rs := [32]) (by kernel_rfl) (by simp) ?_
      refine AllReadyH.cons (o := { dst := none, op := .store 53 (.tmp 2) (.tmp 34), type := 0, pos := "law.go:54", after := #[⟨31, .data⟩, ⟨26, .chain⟩, ⟨0, .phase⟩, ⟨1, .phase⟩, ⟨2, .phase⟩, ⟨3, .phase⟩, ⟨4, .phase⟩, ⟨5, .phase⟩, ⟨6, .phase⟩, ⟨7, .phase⟩, ⟨8, .phase⟩, ⟨9, .phase⟩, ⟨10, .phase⟩, ⟨11, .phase⟩, ⟨12, .phase⟩, ⟨13, .phase⟩, ⟨14, .phase⟩, ⟨15, .phase⟩, ⟨16, .phase⟩, ⟨17, .phase⟩, ⟨18, .phase⟩, ⟨19, .phase⟩, ⟨20, .phase⟩, ⟨21, .phase⟩, ⟨22, .phase⟩, ⟨23, .phase⟩, ⟨24, .phase⟩, ⟨25, .phase⟩, ⟨26, .phase⟩, ⟨27, .phase⟩, ⟨28, .phase⟩, ⟨29, .phase⟩, ⟨30, .phase⟩, ⟨31, .phase⟩], guard := none }) rfl (fun K9 hK9 => ?_) AllReadyH.nil
      have hst := sta_of (cs := #[.string a.agent, .string a.off, .bool a.open_, .string a.base.loc, .string a.base.off, .slice hC.an hC.nn hC.cn, .slice hC.ag hC.ng hC.cg, .slice hC.ap hC.np hC.cp, .int .i64 a.base.tik.kind, .int .i64 a.base.tik.day, .int .i64 a.base.tik.min, .string a.base.rc, .slice hC.ar hC.nr hC.cr, .slice hC.ae hC.ne hC.ce, .bool a.base.queued, .int .u64 a.ver, .slice e1 a.edits.length k1, .slice e2 a.legs.length k2, .bool a.working, .int .i64 a.queue]) hF_5.r2 rfl rfl (by simp [Value.oneCell'])
      have hF9 := hF_5.row2 #[.string a.agent, .string a.off, .bool a.open_, .string a.base.loc, .string a.base.off, .slice hC.an hC.nn hC.cn, .slice hC.ag hC.ng hC.cg, .slice hC.ap hC.np hC.cp, .int .i64 a.base.tik.kind, .int .i64 a.base.tik.day, .int .i64 a.base.tik.min, .string a.base.rc, .slice hC.ar hC.nr hC.cr, .slice hC.ae hC.ne hC.ce, .bool a.base.queued, .int .u64 a.ver, .slice e1 a.edits.length k1, .slice e2 a.legs.length k2, .bool a.working, .int .i64 a.queue]
      have hS9 := hF9.x1
      have hOA : OA (v5.setRow (w.heap.size + 1) #[.string a.agent, .string a.off, .bool a.open_, .string a.base.loc, .string a.base.off, .slice hC.an hC.nn hC.cn, .slice hC.ag hC.ng hC.cg, .slice hC.ap hC.np hC.cp, .int .i64 a.base.tik.kind, .int .i64 a.base.tik.day, .int .i64 a.base.tik.min, .string a.base.rc, .slice hC.ar hC.nr hC.cr, .slice hC.ae hC.ne hC.ce, .bool a.base.queued, .int .u64 a.ver, .slice e1 a.edits.length k1, .slice e2 a.legs.length k2, .bool a.working, .int .i64 a.queue]) (w.heap.size + 1 + 1) a (AH.mk hC e1 a.edits.length k1 e2 a.legs.length k2) := OA.rowAt (B := w.heap.size + 1 + 1) ⟨HP.out.agent, HP.out.off, HP.out.ver, HP.out.queue, oC_5.more (by omega), oA1_5.more (by omega), oA2_5.more (by omega)⟩ (by omega) _
      go_simp
      refine hK9.out _ _ hS9 (fun hS => ?_)
      clear hK9 K9
      try simp only [Act.put, List.setIfInBounds_toArray, List.set_cons_zero, List.set_cons_succ]
      refine wpAnyH_done (by kernel_rfl) ?_ _
      go_wp2
      refine ret_a1 Tryz.results7 hF9.r2 rfl rfl rfl ?_
      exact ⟨_, rfl, hOA.more (by omega), hF9.B⟩
    refine AllReadyH.cons (o := { dst := some 26, op := .makeSlice 32 (.const (.int .i64 0)) (.tmp 25), type := 32, pos := "law.go:54", after := #[⟨22, .data⟩], guard := none }) rfl (fun K9 hK9 => ?_) AllReadyH.nil
    go_simp
    have hz2 : ((V.drew.alloc (.cells Y1 50)).alloc (.cells Y2 44)).heap.size = (V.drew.alloc (.cells Y1 50)).heap.size + 1 := World.size_alloc _ _
    have hF_2 := hF_1.step ((Below.refl _ _).alloc (Nat.le_refl _) (.cells Y2 44))
    have oM2_2 : Own ((V.drew.alloc (.cells Y1 50)).alloc (.cells Y2 44)) (V.drew.heap.size + 1) 44 tLeg (.slice (some ⟨V.drew.heap.size + 1, 0, none⟩) 0 (h.nl + 2)) [] := by have q := made_own (T := tLeg) (V.drew.alloc (.cells Y1 50)) 44 h.nl hnB2 Y2 HY2.out; rw [hz1] at q; exact q
    have oM1_2 := oM1_1.alloc (.cells Y2 44)
    have hS_2 := hF_2.x1
    refine hK9.out _ _ hS_2 (fun hS => ?_)
    clear hK9 K9
    try simp only [Act.put, List.setIfInBounds_toArray, List.set_cons_zero, List.set_cons_succ]
    refine wpAnyH_ready (rs := [8]) (by kernel_rfl) (by simp) ?_
    refine AllReadyH.cons (o := { dst := some 11, op := .call { callee := .value (.func 17), args := #[.tmp 10], argTypes := #[29] }, type := 29, pos := "law.go:54", after := #[⟨7, .data⟩], guard := none }) rfl (fun K9 hK9 => ?_) AllReadyH.nil
    go_simp
    refine (lcopied_any a.base h.b _ S (HP.out.base.below hF_2.B HB.out) (fun b hb => by have := HB.out b hb; have := hF_2.z; omega) HSB.out).mono ?_
    rintro e v3 ⟨hC, rfl, oC_3, hb3⟩
    have hz3 := hb3.size
    have hF_3 := hF_2.step hb3
    have rC := oC_3.rng
    have oM1_3 := oM1_2.keep hb3
    have oM2_3 := oM2_2.keep hb3
    have hS_3 := hF_3.x1
    refine hK9.out _ _ hS_3 (fun hS => ?_)
    clear hK9 K9
    try simp only [Act.put, List.setIfInBounds_toArray, List.set_cons_zero, List.set_cons_succ]
    refine wpAnyH_ready (rs := [18]) (by kernel_rfl) (by simp) ?_
    refine AllReadyH.cons (o := { dst := some 21, op := .call { callee := .builtin .append, args := #[.tmp 18, .tmp 20], argTypes := #[31, 31] }, type := 31, pos := "law.go:54", after := #[⟨15, .data⟩, ⟨17, .data⟩, ⟨8, .chain⟩], guard := none }) rfl (fun K9 hK9 => ?_) AllReadyH.nil
    refine step_append_told (T := tEdit) (v := .slice (some ⟨V.drew.heap.size, 0, none⟩) 0 (h.nd + 2)) (l := []) (B := V.drew.heap.size) rfl (.tmp 18) (.tmp 20) (by rfl) sl_edi (by rfl) oM1_3 (by rfl) ((HP.out.edits.below hF_3.B HB.out).sl (lo := 0) (hi := w.heap.size) fun b hb => ⟨Nat.zero_le _, HB.out b hb⟩) HP.out.edits.nil (by omega) (by simp; omega) ?_
    intro w9 v4 hown hgr hvb
    rw [List.nil_append] at hown
    obtain ⟨e1, k1, hv9⟩ := hown.form
    subst hv9
    have hz4 := hgr.size
    replace hgr : World.grownBy v3 v4 (some (V.drew.heap.size)) := hgr
    have hF_4 := hF_3.grown hgr (fun k hk => by injection hk; have := hF_3.z; omega)
    have oA1_4 := hown
    have rA1 : ∀ k, bk e1 = some k → (k = V.drew.heap.size ∨ k = v3.heap.size) ∧ k < v4.heap.size := fun k hk => by have hkl := (hown.bk_lt k hk).2; rcases hvb with hv | hv <;> (rw [ownBlock_bk, hk] at hv; injection hv with hv) ; exact ⟨.inl hv, hkl⟩ ; exact ⟨.inr hv, hkl⟩
    have oC_4 := oC_3.kept hgr (fun k hk e => by have := rC k hk; injection e with e; omega)
    have oM2_4 := oM2_3.kept hgr (fun k hk e => by have e2 := hk; simp [Value.ownBlock] at e2; injection e with e; omega)
    have hS_4 := hF_4.x1
    refine hK9.out _ _ hS_4 (fun hS => ?_)
    clear hK9 K9
    try simp only [Act.put, List.setIfInBounds_toArray, List.set_cons_zero, List.set_cons_succ]
    refine wpAnyH_ready (rs := [26]) (by kernel_rfl) (by simp) ?_
    refine AllReadyH.cons (o := { dst := some 29, op := .call { callee := .builtin .append, args := #[.tmp 26, .tmp 28], argTypes := #[32, 32] }, type := 32, pos := "law.go:54", after := #[⟨23, .data⟩, ⟨25, .data⟩, ⟨18, .chain⟩], guard := none }) rfl (fun K9 hK9 => ?_) AllReadyH.nil
    refine step_append_told (T := tLeg) (v := .slice (some ⟨V.drew.heap.size + 1, 0, none⟩) 0 (h.nl + 2)) (l := []) (B := V.drew.heap.size + 1) rfl (.tmp 26) (.tmp 28) (by rfl) sl_leg (by rfl) oM2_4 (by rfl) ((HP.out.legs.below hF_4.B HB.out).sl (lo := 0) (hi := w.heap.size) fun b hb => ⟨Nat.zero_le _, HB.out b hb⟩) HP.out.legs.nil (by omega) (by simp; omega) ?_
    intro w9 v5 hown hgr hvb
    rw [List.nil_append] at hown
    obtain ⟨e2, k2, hv9⟩ := hown.form
    subst hv9
    have hz5 := hgr.size
    replace hgr : World.grownBy v4 v5 (some (V.drew.heap.size + 1)) := hgr
    have hF_5 := hF_4.grown hgr (fun k hk => by injection hk; have := hF_4.z; omega)
    have oA2_5 := hown
    have rA2 : ∀ k, bk e2 = some k → (k = V.drew.heap.size + 1 ∨ k = v4.heap.size) ∧ k < v5.heap.size := fun k hk => by have hkl := (hown.bk_lt k hk).2; rcases hvb with hv | hv <;> (rw [ownBlock_bk, hk] at hv; injection hv with hv) ; exact ⟨.inl hv, hkl⟩ ; exact ⟨.inr hv, hkl⟩
    have oC_5 := oC_4.kept hgr (fun k hk e => by have := rC k hk; injection e with e; omega)
    have oA1_5 := oA1_4.kept hgr (fun k hk e => by rw [ownBlock_bk] at hk; have := rA1 k hk; injection e with e; omega)
    have hS_5 := hF_5.x1
    refine hK9.out _ _ hS_5 (fun hS => ?_)
    clear hK9 K9
    try simp only [Act.put, List.setIfInBounds_toArray, List.set_cons_zero, List.set_cons_succ]
    refine tk (i := 31) (oi := { dst := some 34, op := .build 53 #[(0, .tmp 4), (1, .tmp 6), (2, .tmp 8), (3, .tmp 11), (4, .tmp 13), (5, .tmp 21), (6, .tmp 29), (7, .tmp 31), (8, .tmp 33)], type := 53, pos := "law.go:54", after := #[⟨1, .data⟩, ⟨3, .data⟩, ⟨5, .data⟩, ⟨8, .data⟩, ⟨10, .data⟩, ⟨18, .data⟩, ⟨26, .data⟩, ⟨28, .data⟩, ⟨30, .data⟩], guard := none }) (v := ?_) ?_ hS ?_
    rotate_left
    · intro w9 hS9; have q1 := hS9; go_simp; try with_reducible rfl
    try simp only [Act.put, List.setIfInBounds_toArray, List.set_cons_zero, List.set_cons_succ]
    refine wpAnyH_ready (rs := [32]) (by kernel_rfl) (by simp) ?_
    refine AllReadyH.cons (o := { dst := none, op := .store 53 (.tmp 2) (.tmp 34), type := 0, pos := "law.go:54", after := #[⟨31, .data⟩, ⟨26, .chain⟩, ⟨0, .phase⟩, ⟨1, .phase⟩, ⟨2, .phase⟩, ⟨3, .phase⟩, ⟨4, .phase⟩, ⟨5, .phase⟩, ⟨6, .phase⟩, ⟨7, .phase⟩, ⟨8, .phase⟩, ⟨9, .phase⟩, ⟨10, .phase⟩, ⟨11, .phase⟩, ⟨12, .phase⟩, ⟨13, .phase⟩, ⟨14, .phase⟩, ⟨15, .phase⟩, ⟨16, .phase⟩, ⟨17, .phase⟩, ⟨18, .phase⟩, ⟨19, .phase⟩, ⟨20, .phase⟩, ⟨21, .phase⟩, ⟨22, .phase⟩, ⟨23, .phase⟩, ⟨24, .phase⟩, ⟨25, .phase⟩, ⟨26, .phase⟩, ⟨27, .phase⟩, ⟨28, .phase⟩, ⟨29, .phase⟩, ⟨30, .phase⟩, ⟨31, .phase⟩], guard := none }) rfl (fun K9 hK9 => ?_) AllReadyH.nil
    have hst := sta_of (cs := #[.string a.agent, .string a.off, .bool a.open_, .string a.base.loc, .string a.base.off, .slice hC.an hC.nn hC.cn, .slice hC.ag hC.ng hC.cg, .slice hC.ap hC.np hC.cp, .int .i64 a.base.tik.kind, .int .i64 a.base.tik.day, .int .i64 a.base.tik.min, .string a.base.rc, .slice hC.ar hC.nr hC.cr, .slice hC.ae hC.ne hC.ce, .bool a.base.queued, .int .u64 a.ver, .slice e1 a.edits.length k1, .slice e2 a.legs.length k2, .bool a.working, .int .i64 a.queue]) hF_5.r2 rfl rfl (by simp [Value.oneCell'])
    have hF9 := hF_5.row2 #[.string a.agent, .string a.off, .bool a.open_, .string a.base.loc, .string a.base.off, .slice hC.an hC.nn hC.cn, .slice hC.ag hC.ng hC.cg, .slice hC.ap hC.np hC.cp, .int .i64 a.base.tik.kind, .int .i64 a.base.tik.day, .int .i64 a.base.tik.min, .string a.base.rc, .slice hC.ar hC.nr hC.cr, .slice hC.ae hC.ne hC.ce, .bool a.base.queued, .int .u64 a.ver, .slice e1 a.edits.length k1, .slice e2 a.legs.length k2, .bool a.working, .int .i64 a.queue]
    have hS9 := hF9.x1
    have hOA : OA (v5.setRow (w.heap.size + 1) #[.string a.agent, .string a.off, .bool a.open_, .string a.base.loc, .string a.base.off, .slice hC.an hC.nn hC.cn, .slice hC.ag hC.ng hC.cg, .slice hC.ap hC.np hC.cp, .int .i64 a.base.tik.kind, .int .i64 a.base.tik.day, .int .i64 a.base.tik.min, .string a.base.rc, .slice hC.ar hC.nr hC.cr, .slice hC.ae hC.ne hC.ce, .bool a.base.queued, .int .u64 a.ver, .slice e1 a.edits.length k1, .slice e2 a.legs.length k2, .bool a.working, .int .i64 a.queue]) (w.heap.size + 1 + 1) a (AH.mk hC e1 a.edits.length k1 e2 a.legs.length k2) := OA.rowAt (B := w.heap.size + 1 + 1) ⟨HP.out.agent, HP.out.off, HP.out.ver, HP.out.queue, oC_5.more (by omega), oA1_5.more (by omega), oA2_5.more (by omega)⟩ (by omega) _
    go_simp
    refine hK9.out _ _ hS9 (fun hS => ?_)
    clear hK9 K9
    try simp only [Act.put, List.setIfInBounds_toArray, List.set_cons_zero, List.set_cons_succ]
    refine wpAnyH_done (by kernel_rfl) ?_ _
    go_wp2
    refine ret_a1 Tryz.results7 hF9.r2 rfl rfl rfl ?_
    exact ⟨_, rfl, hOA.more (by omega), hF9.B⟩
  refine AllReadyH.cons (o := { dst := some 26, op := .makeSlice 32 (.const (.int .i64 0)) (.tmp 25), type := 32, pos := "law.go:54", after := #[⟨22, .data⟩], guard := none }) rfl (fun K9 hK9 => ?_) AllReadyH.nil
  go_simp
  have hz1 : (V.drew.alloc (.cells Y2 44)).heap.size = V.drew.heap.size + 1 := World.size_alloc _ _
  have hF_1 := hF_0.step ((Below.refl _ _).alloc (Nat.le_refl _) (.cells Y2 44))
  have oM2_1 : Own (V.drew.alloc (.cells Y2 44)) (V.drew.heap.size) 44 tLeg (.slice (some ⟨V.drew.heap.size, 0, none⟩) 0 (h.nl + 2)) [] := by have q := made_own (T := tLeg) V.drew 44 h.nl hnB2 Y2 HY2.out; exact q
  have hS_1 := hF_1.x1
  refine hK9.out _ _ hS_1 (fun hS => ?_)
  clear hK9 K9
  try simp only [Act.put, List.setIfInBounds_toArray, List.set_cons_zero, List.set_cons_succ]
  refine wpAnyH_ready (rs := [8, 15]) (by kernel_rfl) (by simp) ?_
  refine AllReadyH.cons (o := { dst := some 11, op := .call { callee := .value (.func 17), args := #[.tmp 10], argTypes := #[29] }, type := 29, pos := "law.go:54", after := #[⟨7, .data⟩], guard := none }) rfl (fun K9 hK9 => ?_) ?_
  · go_simp
    refine (lcopied_any a.base h.b _ S (HP.out.base.below hF_1.B HB.out) (fun b hb => by have := HB.out b hb; have := hF_1.z; omega) HSB.out).mono ?_
    rintro e v2 ⟨hC, rfl, oC_2, hb2⟩
    have hz2 := hb2.size
    have hF_2 := hF_1.step hb2
    have rC := oC_2.rng
    have oM2_2 := oM2_1.keep hb2
    have hS_2 := hF_2.x1
    refine hK9.out _ _ hS_2 (fun hS => ?_)
    clear hK9 K9
    try simp only [Act.put, List.setIfInBounds_toArray, List.set_cons_zero, List.set_cons_succ]
    refine wpAnyH_ready (rs := [15]) (by kernel_rfl) (by simp) ?_
    refine AllReadyH.cons (o := { dst := some 18, op := .makeSlice 31 (.const (.int .i64 0)) (.tmp 17), type := 31, pos := "law.go:54", after := #[⟨14, .data⟩], guard := none }) rfl (fun K9 hK9 => ?_) AllReadyH.nil
    go_simp
    have hz3 : (v2.alloc (.cells Y1 50)).heap.size = v2.heap.size + 1 := World.size_alloc _ _
    have hF_3 := hF_2.step ((Below.refl _ _).alloc (Nat.le_refl _) (.cells Y1 50))
    have oM1_3 : Own (v2.alloc (.cells Y1 50)) (v2.heap.size) 50 tEdit (.slice (some ⟨v2.heap.size, 0, none⟩) 0 (h.nd + 2)) [] := by have q := made_own (T := tEdit) v2 50 h.nd hnB1 Y1 HY1.out; exact q
    have oC_3 := oC_2.alloc (.cells Y1 50)
    have oM2_3 := oM2_2.alloc (.cells Y1 50)
    have hS_3 := hF_3.x1
    refine hK9.out _ _ hS_3 (fun hS => ?_)
    clear hK9 K9
    try simp only [Act.put, List.setIfInBounds_toArray, List.set_cons_zero, List.set_cons_succ]
    refine wpAnyH_ready (rs := [18]) (by kernel_rfl) (by simp) ?_
    refine AllReadyH.cons (o := { dst := some 21, op := .call { callee := .builtin .append, args := #[.tmp 18, .tmp 20], argTypes := #[31, 31] }, type := 31, pos := "law.go:54", after := #[⟨15, .data⟩, ⟨17, .data⟩, ⟨8, .chain⟩], guard := none }) rfl (fun K9 hK9 => ?_) AllReadyH.nil
    refine step_append_told (T := tEdit) (v := .slice (some ⟨v2.heap.size, 0, none⟩) 0 (h.nd + 2)) (l := []) (B := v2.heap.size) rfl (.tmp 18) (.tmp 20) (by rfl) sl_edi (by rfl) oM1_3 (by rfl) ((HP.out.edits.below hF_3.B HB.out).sl (lo := 0) (hi := w.heap.size) fun b hb => ⟨Nat.zero_le _, HB.out b hb⟩) HP.out.edits.nil (by omega) (by simp; omega) ?_
    intro w9 v4 hown hgr hvb
    rw [List.nil_append] at hown
    obtain ⟨e1, k1, hv9⟩ := hown.form
    subst hv9
    have hz4 := hgr.size
    replace hgr : World.grownBy (v2.alloc (.cells Y1 50)) v4 (some (v2.heap.size)) := hgr
    have hF_4 := hF_3.grown hgr (fun k hk => by injection hk; have := hF_3.z; omega)
    have oA1_4 := hown
    have rA1 : ∀ k, bk e1 = some k → (k = v2.heap.size ∨ k = (v2.alloc (.cells Y1 50)).heap.size) ∧ k < v4.heap.size := fun k hk => by have hkl := (hown.bk_lt k hk).2; rcases hvb with hv | hv <;> (rw [ownBlock_bk, hk] at hv; injection hv with hv) ; exact ⟨.inl hv, hkl⟩ ; exact ⟨.inr hv, hkl⟩
    have oC_4 := oC_3.kept hgr (fun k hk e => by have := rC k hk; injection e with e; omega)
    have oM2_4 := oM2_3.kept hgr (fun k hk e => by have e2 := hk; simp [Value.ownBlock] at e2; injection e with e; omega)
    have hS_4 := hF_4.x1
    refine hK9.out _ _ hS_4 (fun hS => ?_)
    clear hK9 K9
    try simp only [Act.put, List.setIfInBounds_toArray, List.set_cons_zero, List.set_cons_succ]
    refine wpAnyH_ready (rs := [26]) (by kernel_rfl) (by simp) ?_
    refine AllReadyH.cons (o := { dst := some 29, op := .call { callee := .builtin .append, args := #[.tmp 26, .tmp 28], argTypes := #[32, 32] }, type := 32, pos := "law.go:54", after := #[⟨23, .data⟩, ⟨25, .data⟩, ⟨18, .chain⟩], guard := none }) rfl (fun K9 hK9 => ?_) AllReadyH.nil
    refine step_append_told (T := tLeg) (v := .slice (some ⟨V.drew.heap.size, 0, none⟩) 0 (h.nl + 2)) (l := []) (B := V.drew.heap.size) rfl (.tmp 26) (.tmp 28) (by rfl) sl_leg (by rfl) oM2_4 (by rfl) ((HP.out.legs.below hF_4.B HB.out).sl (lo := 0) (hi := w.heap.size) fun b hb => ⟨Nat.zero_le _, HB.out b hb⟩) HP.out.legs.nil (by omega) (by simp; omega) ?_
    intro w9 v5 hown hgr hvb
    rw [List.nil_append] at hown
    obtain ⟨e2, k2, hv9⟩ := hown.form
    subst hv9
    have hz5 := hgr.size
    replace hgr : World.grownBy v4 v5 (some (V.drew.heap.size)) := hgr
    have hF_5 := hF_4.grown hgr (fun k hk => by injection hk; have := hF_4.z; omega)
    have oA2_5 := hown
    have rA2 : ∀ k, bk e2 = some k → (k = V.drew.heap.size ∨ k = v4.heap.size) ∧ k < v5.heap.size := fun k hk => by have hkl := (hown.bk_lt k hk).2; rcases hvb with hv | hv <;> (rw [ownBlock_bk, hk] at hv; injection hv with hv) ; exact ⟨.inl hv, hkl⟩ ; exact ⟨.inr hv, hkl⟩
    have oC_5 := oC_4.kept hgr (fun k hk e => by have := rC k hk; injection e with e; omega)
    have oA1_5 := oA1_4.kept hgr (fun k hk e => by rw [ownBlock_bk] at hk; have := rA1 k hk; injection e with e; omega)
    have hS_5 := hF_5.x1
    refine hK9.out _ _ hS_5 (fun hS => ?_)
    clear hK9 K9
    try simp only [Act.put, List.setIfInBounds_toArray, List.set_cons_zero, List.set_cons_succ]
    refine tk (i := 31) (oi := { dst := some 34, op := .build 53 #[(0, .tmp 4), (1, .tmp 6), (2, .tmp 8), (3, .tmp 11), (4, .tmp 13), (5, .tmp 21), (6, .tmp 29), (7, .tmp 31), (8, .tmp 33)], type := 53, pos := "law.go:54", after := #[⟨1, .data⟩, ⟨3, .data⟩, ⟨5, .data⟩, ⟨8, .data⟩, ⟨10, .data⟩, ⟨18, .data⟩, ⟨26, .data⟩, ⟨28, .data⟩, ⟨30, .data⟩], guard := none }) (v := ?_) ?_ hS ?_
    rotate_left
    · intro w9 hS9; have q1 := hS9; go_simp; try with_reducible rfl
    try simp only [Act.put, List.setIfInBounds_toArray, List.set_cons_zero, List.set_cons_succ]
    refine wpAnyH_ready (rs := [32]) (by kernel_rfl) (by simp) ?_
    refine AllReadyH.cons (o := { dst := none, op := .store 53 (.tmp 2) (.tmp 34), type := 0, pos := "law.go:54", after := #[⟨31, .data⟩, ⟨26, .chain⟩, ⟨0, .phase⟩, ⟨1, .phase⟩, ⟨2, .phase⟩, ⟨3, .phase⟩, ⟨4, .phase⟩, ⟨5, .phase⟩, ⟨6, .phase⟩, ⟨7, .phase⟩, ⟨8, .phase⟩, ⟨9, .phase⟩, ⟨10, .phase⟩, ⟨11, .phase⟩, ⟨12, .phase⟩, ⟨13, .phase⟩, ⟨14, .phase⟩, ⟨15, .phase⟩, ⟨16, .phase⟩, ⟨17, .phase⟩, ⟨18, .phase⟩, ⟨19, .phase⟩, ⟨20, .phase⟩, ⟨21, .phase⟩, ⟨22, .phase⟩, ⟨23, .phase⟩, ⟨24, .phase⟩, ⟨25, .phase⟩, ⟨26, .phase⟩, ⟨27, .phase⟩, ⟨28, .phase⟩, ⟨29, .phase⟩, ⟨30, .phase⟩, ⟨31, .phase⟩], guard := none }) rfl (fun K9 hK9 => ?_) AllReadyH.nil
    have hst := sta_of (cs := #[.string a.agent, .string a.off, .bool a.open_, .string a.base.loc, .string a.base.off, .slice hC.an hC.nn hC.cn, .slice hC.ag hC.ng hC.cg, .slice hC.ap hC.np hC.cp, .int .i64 a.base.tik.kind, .int .i64 a.base.tik.day, .int .i64 a.base.tik.min, .string a.base.rc, .slice hC.ar hC.nr hC.cr, .slice hC.ae hC.ne hC.ce, .bool a.base.queued, .int .u64 a.ver, .slice e1 a.edits.length k1, .slice e2 a.legs.length k2, .bool a.working, .int .i64 a.queue]) hF_5.r2 rfl rfl (by simp [Value.oneCell'])
    have hF9 := hF_5.row2 #[.string a.agent, .string a.off, .bool a.open_, .string a.base.loc, .string a.base.off, .slice hC.an hC.nn hC.cn, .slice hC.ag hC.ng hC.cg, .slice hC.ap hC.np hC.cp, .int .i64 a.base.tik.kind, .int .i64 a.base.tik.day, .int .i64 a.base.tik.min, .string a.base.rc, .slice hC.ar hC.nr hC.cr, .slice hC.ae hC.ne hC.ce, .bool a.base.queued, .int .u64 a.ver, .slice e1 a.edits.length k1, .slice e2 a.legs.length k2, .bool a.working, .int .i64 a.queue]
    have hS9 := hF9.x1
    have hOA : OA (v5.setRow (w.heap.size + 1) #[.string a.agent, .string a.off, .bool a.open_, .string a.base.loc, .string a.base.off, .slice hC.an hC.nn hC.cn, .slice hC.ag hC.ng hC.cg, .slice hC.ap hC.np hC.cp, .int .i64 a.base.tik.kind, .int .i64 a.base.tik.day, .int .i64 a.base.tik.min, .string a.base.rc, .slice hC.ar hC.nr hC.cr, .slice hC.ae hC.ne hC.ce, .bool a.base.queued, .int .u64 a.ver, .slice e1 a.edits.length k1, .slice e2 a.legs.length k2, .bool a.working, .int .i64 a.queue]) (w.heap.size + 1 + 1) a (AH.mk hC e1 a.edits.length k1 e2 a.legs.length k2) := OA.rowAt (B := w.heap.size + 1 + 1) ⟨HP.out.agent, HP.out.off, HP.out.ver, HP.out.queue, oC_5.more (by omega), oA1_5.more (by omega), oA2_5.more (by omega)⟩ (by omega) _
    go_simp
    refine hK9.out _ _ hS9 (fun hS => ?_)
    clear hK9 K9
    try simp only [Act.put, List.setIfInBounds_toArray, List.set_cons_zero, List.set_cons_succ]
    refine wpAnyH_done (by kernel_rfl) ?_ _
    go_wp2
    refine ret_a1 Tryz.results7 hF9.r2 rfl rfl rfl ?_
    exact ⟨_, rfl, hOA.more (by omega), hF9.B⟩
  refine AllReadyH.cons (o := { dst := some 18, op := .makeSlice 31 (.const (.int .i64 0)) (.tmp 17), type := 31, pos := "law.go:54", after := #[⟨14, .data⟩], guard := none }) rfl (fun K9 hK9 => ?_) AllReadyH.nil
  go_simp
  have hz2 : ((V.drew.alloc (.cells Y2 44)).alloc (.cells Y1 50)).heap.size = (V.drew.alloc (.cells Y2 44)).heap.size + 1 := World.size_alloc _ _
  have hF_2 := hF_1.step ((Below.refl _ _).alloc (Nat.le_refl _) (.cells Y1 50))
  have oM1_2 : Own ((V.drew.alloc (.cells Y2 44)).alloc (.cells Y1 50)) (V.drew.heap.size + 1) 50 tEdit (.slice (some ⟨V.drew.heap.size + 1, 0, none⟩) 0 (h.nd + 2)) [] := by have q := made_own (T := tEdit) (V.drew.alloc (.cells Y2 44)) 50 h.nd hnB1 Y1 HY1.out; rw [hz1] at q; exact q
  have oM2_2 := oM2_1.alloc (.cells Y1 50)
  have hS_2 := hF_2.x1
  refine hK9.out _ _ hS_2 (fun hS => ?_)
  clear hK9 K9
  try simp only [Act.put, List.setIfInBounds_toArray, List.set_cons_zero, List.set_cons_succ]
  refine wpAnyH_ready (rs := [8]) (by kernel_rfl) (by simp) ?_
  refine AllReadyH.cons (o := { dst := some 11, op := .call { callee := .value (.func 17), args := #[.tmp 10], argTypes := #[29] }, type := 29, pos := "law.go:54", after := #[⟨7, .data⟩], guard := none }) rfl (fun K9 hK9 => ?_) AllReadyH.nil
  go_simp
  refine (lcopied_any a.base h.b _ S (HP.out.base.below hF_2.B HB.out) (fun b hb => by have := HB.out b hb; have := hF_2.z; omega) HSB.out).mono ?_
  rintro e v3 ⟨hC, rfl, oC_3, hb3⟩
  have hz3 := hb3.size
  have hF_3 := hF_2.step hb3
  have rC := oC_3.rng
  have oM1_3 := oM1_2.keep hb3
  have oM2_3 := oM2_2.keep hb3
  have hS_3 := hF_3.x1
  refine hK9.out _ _ hS_3 (fun hS => ?_)
  clear hK9 K9
  try simp only [Act.put, List.setIfInBounds_toArray, List.set_cons_zero, List.set_cons_succ]
  refine wpAnyH_ready (rs := [18]) (by kernel_rfl) (by simp) ?_
  refine AllReadyH.cons (o := { dst := some 21, op := .call { callee := .builtin .append, args := #[.tmp 18, .tmp 20], argTypes := #[31, 31] }, type := 31, pos := "law.go:54", after := #[⟨15, .data⟩, ⟨17, .data⟩, ⟨8, .chain⟩], guard := none }) rfl (fun K9 hK9 => ?_) AllReadyH.nil
  refine step_append_told (T := tEdit) (v := .slice (some ⟨V.drew.heap.size + 1, 0, none⟩) 0 (h.nd + 2)) (l := []) (B := V.drew.heap.size + 1) rfl (.tmp 18) (.tmp 20) (by rfl) sl_edi (by rfl) oM1_3 (by rfl) ((HP.out.edits.below hF_3.B HB.out).sl (lo := 0) (hi := w.heap.size) fun b hb => ⟨Nat.zero_le _, HB.out b hb⟩) HP.out.edits.nil (by omega) (by simp; omega) ?_
  intro w9 v4 hown hgr hvb
  rw [List.nil_append] at hown
  obtain ⟨e1, k1, hv9⟩ := hown.form
  subst hv9
  have hz4 := hgr.size
  replace hgr : World.grownBy v3 v4 (some (V.drew.heap.size + 1)) := hgr
  have hF_4 := hF_3.grown hgr (fun k hk => by injection hk; have := hF_3.z; omega)
  have oA1_4 := hown
  have rA1 : ∀ k, bk e1 = some k → (k = V.drew.heap.size + 1 ∨ k = v3.heap.size) ∧ k < v4.heap.size := fun k hk => by have hkl := (hown.bk_lt k hk).2; rcases hvb with hv | hv <;> (rw [ownBlock_bk, hk] at hv; injection hv with hv) ; exact ⟨.inl hv, hkl⟩ ; exact ⟨.inr hv, hkl⟩
  have oC_4 := oC_3.kept hgr (fun k hk e => by have := rC k hk; injection e with e; omega)
  have oM2_4 := oM2_3.kept hgr (fun k hk e => by have e2 := hk; simp [Value.ownBlock] at e2; injection e with e; omega)
  have hS_4 := hF_4.x1
  refine hK9.out _ _ hS_4 (fun hS => ?_)
  clear hK9 K9
  try simp only [Act.put, List.setIfInBounds_toArray, List.set_cons_zero, List.set_cons_succ]
  refine wpAnyH_ready (rs := [26]) (by kernel_rfl) (by simp) ?_
  refine AllReadyH.cons (o := { dst := some 29, op := .call { callee := .builtin .append, args := #[.tmp 26, .tmp 28], argTypes := #[32, 32] }, type := 32, pos := "law.go:54", after := #[⟨23, .data⟩, ⟨25, .data⟩, ⟨18, .chain⟩], guard := none }) rfl (fun K9 hK9 => ?_) AllReadyH.nil
  refine step_append_told (T := tLeg) (v := .slice (some ⟨V.drew.heap.size, 0, none⟩) 0 (h.nl + 2)) (l := []) (B := V.drew.heap.size) rfl (.tmp 26) (.tmp 28) (by rfl) sl_leg (by rfl) oM2_4 (by rfl) ((HP.out.legs.below hF_4.B HB.out).sl (lo := 0) (hi := w.heap.size) fun b hb => ⟨Nat.zero_le _, HB.out b hb⟩) HP.out.legs.nil (by omega) (by simp; omega) ?_
  intro w9 v5 hown hgr hvb
  rw [List.nil_append] at hown
  obtain ⟨e2, k2, hv9⟩ := hown.form
  subst hv9
  have hz5 := hgr.size
  replace hgr : World.grownBy v4 v5 (some (V.drew.heap.size)) := hgr
  have hF_5 := hF_4.grown hgr (fun k hk => by injection hk; have := hF_4.z; omega)
  have oA2_5 := hown
  have rA2 : ∀ k, bk e2 = some k → (k = V.drew.heap.size ∨ k = v4.heap.size) ∧ k < v5.heap.size := fun k hk => by have hkl := (hown.bk_lt k hk).2; rcases hvb with hv | hv <;> (rw [ownBlock_bk, hk] at hv; injection hv with hv) ; exact ⟨.inl hv, hkl⟩ ; exact ⟨.inr hv, hkl⟩
  have oC_5 := oC_4.kept hgr (fun k hk e => by have := rC k hk; injection e with e; omega)
  have oA1_5 := oA1_4.kept hgr (fun k hk e => by rw [ownBlock_bk] at hk; have := rA1 k hk; injection e with e; omega)
  have hS_5 := hF_5.x1
  refine hK9.out _ _ hS_5 (fun hS => ?_)
  clear hK9 K9
  try simp only [Act.put, List.setIfInBounds_toArray, List.set_cons_zero, List.set_cons_succ]
  refine tk (i := 31) (oi := { dst := some 34, op := .build 53 #[(0, .tmp 4), (1, .tmp 6), (2, .tmp 8), (3, .tmp 11), (4, .tmp 13), (5, .tmp 21), (6, .tmp 29), (7, .tmp 31), (8, .tmp 33)], type := 53, pos := "law.go:54", after := #[⟨1, .data⟩, ⟨3, .data⟩, ⟨5, .data⟩, ⟨8, .data⟩, ⟨10, .data⟩, ⟨18, .data⟩, ⟨26, .data⟩, ⟨28, .data⟩, ⟨30, .data⟩], guard := none }) (v := ?_) ?_ hS ?_
  rotate_left
  · intro w9 hS9; have q1 := hS9; go_simp; try with_reducible rfl
  try simp only [Act.put, List.setIfInBounds_toArray, List.set_cons_zero, List.set_cons_succ]
  refine wpAnyH_ready (rs := [32]) (by kernel_rfl) (by simp) ?_
  refine AllReadyH.cons (o := { dst := none, op := .store 53 (.tmp 2) (.tmp 34), type := 0, pos := "law.go:54", after := #[⟨31, .data⟩, ⟨26, .chain⟩, ⟨0, .phase⟩, ⟨1, .phase⟩, ⟨2, .phase⟩, ⟨3, .phase⟩, ⟨4, .phase⟩, ⟨5, .phase⟩, ⟨6, .phase⟩, ⟨7, .phase⟩, ⟨8, .phase⟩, ⟨9, .phase⟩, ⟨10, .phase⟩, ⟨11, .phase⟩, ⟨12, .phase⟩, ⟨13, .phase⟩, ⟨14, .phase⟩, ⟨15, .phase⟩, ⟨16, .phase⟩, ⟨17, .phase⟩, ⟨18, .phase⟩, ⟨19, .phase⟩, ⟨20, .phase⟩, ⟨21, .phase⟩, ⟨22, .phase⟩, ⟨23, .phase⟩, ⟨24, .phase⟩, ⟨25, .phase⟩, ⟨26, .phase⟩, ⟨27, .phase⟩, ⟨28, .phase⟩, ⟨29, .phase⟩, ⟨30, .phase⟩, ⟨31, .phase⟩], guard := none }) rfl (fun K9 hK9 => ?_) AllReadyH.nil
  have hst := sta_of (cs := #[.string a.agent, .string a.off, .bool a.open_, .string a.base.loc, .string a.base.off, .slice hC.an hC.nn hC.cn, .slice hC.ag hC.ng hC.cg, .slice hC.ap hC.np hC.cp, .int .i64 a.base.tik.kind, .int .i64 a.base.tik.day, .int .i64 a.base.tik.min, .string a.base.rc, .slice hC.ar hC.nr hC.cr, .slice hC.ae hC.ne hC.ce, .bool a.base.queued, .int .u64 a.ver, .slice e1 a.edits.length k1, .slice e2 a.legs.length k2, .bool a.working, .int .i64 a.queue]) hF_5.r2 rfl rfl (by simp [Value.oneCell'])
  have hF9 := hF_5.row2 #[.string a.agent, .string a.off, .bool a.open_, .string a.base.loc, .string a.base.off, .slice hC.an hC.nn hC.cn, .slice hC.ag hC.ng hC.cg, .slice hC.ap hC.np hC.cp, .int .i64 a.base.tik.kind, .int .i64 a.base.tik.day, .int .i64 a.base.tik.min, .string a.base.rc, .slice hC.ar hC.nr hC.cr, .slice hC.ae hC.ne hC.ce, .bool a.base.queued, .int .u64 a.ver, .slice e1 a.edits.length k1, .slice e2 a.legs.length k2, .bool a.working, .int .i64 a.queue]
  have hS9 := hF9.x1
  have hOA : OA (v5.setRow (w.heap.size + 1) #[.string a.agent, .string a.off, .bool a.open_, .string a.base.loc, .string a.base.off, .slice hC.an hC.nn hC.cn, .slice hC.ag hC.ng hC.cg, .slice hC.ap hC.np hC.cp, .int .i64 a.base.tik.kind, .int .i64 a.base.tik.day, .int .i64 a.base.tik.min, .string a.base.rc, .slice hC.ar hC.nr hC.cr, .slice hC.ae hC.ne hC.ce, .bool a.base.queued, .int .u64 a.ver, .slice e1 a.edits.length k1, .slice e2 a.legs.length k2, .bool a.working, .int .i64 a.queue]) (w.heap.size + 1 + 1) a (AH.mk hC e1 a.edits.length k1 e2 a.legs.length k2) := OA.rowAt (B := w.heap.size + 1 + 1) ⟨HP.out.agent, HP.out.off, HP.out.ver, HP.out.queue, oC_5.more (by omega), oA1_5.more (by omega), oA2_5.more (by omega)⟩ (by omega) _
  go_simp
  refine hK9.out _ _ hS9 (fun hS => ?_)
  clear hK9 K9
  try simp only [Act.put, List.setIfInBounds_toArray, List.set_cons_zero, List.set_cons_succ]
  refine wpAnyH_done (by kernel_rfl) ?_ _
  go_wp2
  refine ret_a1 Tryz.results7 hF9.r2 rfl rfl rfl ?_
  exact ⟨_, rfl, hOA.more (by omega), hF9.B⟩
def small19B (h : AH) : Bool := smallB h.b && (decide (h.nd ≤ 150) && decide (h.nl ≤ 200))
theorem small19_yes {h : AH} (H : small19B h = true) : smallB h.b = true ∧ h.nd ≤ 150 ∧ h.nl ≤ 200 := by
  simpa [small19B] using H
theorem small19_ar {w : World} {S : Nat → Prop} {a : Ar} {h : AH} (H : small19B h = true) (hp : AS w S a h) (hS : ∀ b, S b → b < w.heap.size) : a.small 200 := by
  obtain ⟨s1, s2, s3⟩ := small19_yes H
  exact ⟨smallB_pnr s1 (hp.base.at fun b hb => ⟨Nat.zero_le _, hS b hb⟩), by rw [hp.edits.len]; omega, by rw [hp.legs.len]; omega⟩
set_option maxRecDepth 100000 in
set_option maxHeartbeats 8000000 in
theorem small19_any (a : Ar) (h : AH) (w : World) :
    Calls Tryz.prog 5 #[.agg #[.string a.agent, .string a.off, .bool a.open_, .string a.base.loc, .string a.base.off, .slice h.b.an h.b.nn h.b.cn, .slice h.b.ag h.b.ng h.b.cg, .slice h.b.ap h.b.np h.b.cp, .int .i64 a.base.tik.kind, .int .i64 a.base.tik.day, .int .i64 a.base.tik.min, .string a.base.rc, .slice h.b.ar h.b.nr h.b.cr, .slice h.b.ae h.b.ne h.b.ce, .bool a.base.queued, .int .u64 a.ver, .slice h.ad h.nd h.cd, .slice h.al h.nl h.cl, .bool a.working, .int .i64 a.queue]] w (RetB w (small19B h)) := by
  have HSM := Lib.hid (show small19B h = (smallB h.b && (decide (h.nd ≤ 150) && decide (h.nl ≤ 200))) from rfl)
  go_enter Tryz.func5, Tryz.ntmps5
  have hF := And.intro (Bx.new w #[.string a.agent, .string a.off, .bool a.open_, .string a.base.loc, .string a.base.off, .slice h.b.an h.b.nn h.b.cn, .slice h.b.ag h.b.ng h.b.cg, .slice h.b.ap h.b.np h.b.cp, .int .i64 a.base.tik.kind, .int .i64 a.base.tik.day, .int .i64 a.base.tik.min, .string a.base.rc, .slice h.b.ar h.b.nr h.b.cr, .slice h.b.ae h.b.ne h.b.ce, .bool a.base.queued, .int .u64 a.ver, .slice h.ad h.nd h.cd, .slice h.al h.nl h.cl, .bool a.working, .int .i64 a.queue] 34) ((Below.refl w.heap.size w).alloc (Nat.le_refl _) (.cells #[.string a.agent, .string a.off, .bool a.open_, .string a.base.loc, .string a.base.off, .slice h.b.an h.b.nn h.b.cn, .slice h.b.ag h.b.ng h.b.cg, .slice h.b.ap h.b.np h.b.cp, .int .i64 a.base.tik.kind, .int .i64 a.base.tik.day, .int .i64 a.base.tik.min, .string a.base.rc, .slice h.b.ar h.b.nr h.b.cr, .slice h.b.ae h.b.ne h.b.ce, .bool a.base.queued, .int .u64 a.ver, .slice h.ad h.nd h.cd, .slice h.al h.nl h.cl, .bool a.working, .int .i64 a.queue] 34))
  go_wp2_with fail
  refine (small_any a.base h.b _).mono ?_
  rintro en w1 ⟨rfl, hb1⟩
  have x1 := (hF.1.below hb1 hF.1.lt).cells
  have B1 := hF.2.trans (hb1.mono hF.2.size)
  clear hF hb1
  generalize hsb : smallB h.b = b at HSM ⊢
  clear hsb
  rcases b with _ | _
  all_goals
    go_wp2
  all_goals go_ret
  all_goals exact ⟨ret_bool (by
    rw [HSM.out, Bool.eq_iff_iff]
    simp only [Bool.and_eq_true, decide_eq_true_eq]
    first
      | (simp; done)
      | (simp; omega)
      | (simp; intros; omega)
      | omega), B1⟩
end Go.Proofs.YtpgeoahlhdifoaaGreatDoor
