/- The answers that the document fixes, for layer 19. -/
import Derived.Test.YtfbalabmidobeaaDoorArea6
namespace Go.Proofs.YtfbalabmidobeaaDoor
set_option linter.unusedVariables false
open Go Go.RowKit
set_option maxRecDepth 100000 in
theorem field_phones (u : World) (b0 b1 : ByteArray) (E0 E1 E2 E3 E4 : Option Addr) (n0 c0 n1 c1 n2 c2 n3 c3 n4 c4 : Nat) (i0 i1 i2 : Int) (b2 : ByteArray) (q : Bool) : (Instr.field 29 (.agg #[.string b0, .string b1, .slice E0 n0 c0, .slice E1 n1 c1, .slice E2 n2 c2, .int .i64 i0, .int .i64 i1, .int .i64 i2, .string b2, .slice E3 n3 c3, .slice E4 n4 c4, .bool q]) 4).run Tryd.prog u = .ok (.slice E2 n2 c2) u := by
  rfl
attribute [local go_sem ↓] loadA_eq
def sA : Ar := { ar0 with agent := ⟨#[65, 49]⟩, off := ⟨#[76, 79, 78]⟩ }
def eP : Edit := ⟨3, ⟨⟨#[]⟩, ⟨#[]⟩⟩, ⟨⟨#[]⟩, 0, 0, 0, false⟩, ⟨0, 0, 0⟩, ⟨#[49]⟩, 0, 0, 0, 0⟩
def sB : Ar := { sA with open_ := true, edits := [eP] }
def pP : Pnr := { pnr0 with phones := [⟨#[49]⟩] }
theorem signin_A : signinF ar0 ⟨#[65, 49]⟩ ⟨#[76, 79, 78]⟩ = (sA, 0) := by kernel_rfl
theorem edit_A : editF sA eP = (sB, 0) := by kernel_rfl
theorem idle_A : idleF sB = (ar0, 53) := by kernel_rfl
theorem pnr_A : pnrF sB = pP := by kernel_rfl
theorem eP_ok : eP.ok := by simp [Edit.ok, okInt, okByte, okStr, Nam.ok, Seg.ok, Tik.ok, eP, ByteArray.size]
theorem sA_small : sA.small 1000 := ⟨⟨by simp [sA, ar0, pnr0], by simp [sA, ar0, pnr0], by simp [sA, ar0, pnr0], by simp [sA, ar0, pnr0], by simp [sA, ar0, pnr0]⟩, by simp [sA, ar0], by simp [sA, ar0]⟩
theorem sB_small : sB.small 1000 := ⟨⟨by simp [sB, sA, ar0, pnr0], by simp [sB, sA, ar0, pnr0], by simp [sB, sA, ar0, pnr0], by simp [sB, sA, ar0, pnr0], by simp [sB, sA, ar0, pnr0]⟩, by simp [sB, sA, ar0], by simp [sB, sA, ar0]⟩
theorem aw_signin (w : World) : Calls Tryd.prog 8 #[.agg #[.string ⟨#[]⟩, .string ⟨#[]⟩, .bool false, .string ⟨#[]⟩, .string ⟨#[]⟩, .slice none 0 0, .slice none 0 0, .slice none 0 0, .int .i64 0, .int .i64 0, .int .i64 0, .string ⟨#[]⟩, .slice none 0 0, .slice none 0 0, .bool false, .int .u64 0, .slice none 0 0, .slice none 0 0, .bool false, .int .i64 0], .string ⟨#[65, 49]⟩, .string ⟨#[76, 79, 78]⟩] w (fun en w' => ∃ h' : AH, en = .returned (.tuple #[.agg #[.string ⟨#[65, 49]⟩, .string ⟨#[76, 79, 78]⟩, .bool false, .string ⟨#[]⟩, .string ⟨#[]⟩, .slice h'.b.an h'.b.nn h'.b.cn, .slice h'.b.ag h'.b.ng h'.b.cg, .slice h'.b.ap h'.b.np h'.b.cp, .int .i64 0, .int .i64 0, .int .i64 0, .string ⟨#[]⟩, .slice h'.b.ar h'.b.nr h'.b.cr, .slice h'.b.ae h'.b.ne h'.b.ce, .bool false, .int .u64 0, .slice h'.ad h'.nd h'.cd, .slice h'.al h'.nl h'.cl, .bool false, .int .i64 0], .int .i64 0]) ∧ OA w' w.heap.size sA h' ∧ Below w.heap.size w w') := by
  have h := signin_any ar0 ah0 ⟨#[65, 49]⟩ ⟨#[76, 79, 78]⟩ w (by simp [okStr, ByteArray.size]) (by simp [okStr, ByteArray.size])
  rw [signin_A] at h
  exact h
theorem aw_edit (h' : AH) (w : World) (S : Nat → Prop) (hp : AS w S sA h') (hS : ∀ b, S b → b < w.heap.size) : Calls Tryd.prog 13 #[.agg #[.string ⟨#[65, 49]⟩, .string ⟨#[76, 79, 78]⟩, .bool false, .string ⟨#[]⟩, .string ⟨#[]⟩, .slice h'.b.an h'.b.nn h'.b.cn, .slice h'.b.ag h'.b.ng h'.b.cg, .slice h'.b.ap h'.b.np h'.b.cp, .int .i64 0, .int .i64 0, .int .i64 0, .string ⟨#[]⟩, .slice h'.b.ar h'.b.nr h'.b.cr, .slice h'.b.ae h'.b.ne h'.b.ce, .bool false, .int .u64 0, .slice h'.ad h'.nd h'.cd, .slice h'.al h'.nl h'.cl, .bool false, .int .i64 0], .agg #[.int .i64 3, .string ⟨#[]⟩, .string ⟨#[]⟩, .string ⟨#[]⟩, .int .i64 0, .int .i64 0, .int .u8 0, .bool false, .int .i64 0, .int .i64 0, .int .i64 0, .string ⟨#[49]⟩, .int .i64 0, .int .i64 0, .int .i64 0, .int .u8 0]] w (fun en w' => ∃ h2 : AH, en = .returned (.tuple #[.agg #[.string ⟨#[65, 49]⟩, .string ⟨#[76, 79, 78]⟩, .bool true, .string ⟨#[]⟩, .string ⟨#[]⟩, .slice h2.b.an h2.b.nn h2.b.cn, .slice h2.b.ag h2.b.ng h2.b.cg, .slice h2.b.ap h2.b.np h2.b.cp, .int .i64 0, .int .i64 0, .int .i64 0, .string ⟨#[]⟩, .slice h2.b.ar h2.b.nr h2.b.cr, .slice h2.b.ae h2.b.ne h2.b.ce, .bool false, .int .u64 0, .slice h2.ad h2.nd h2.cd, .slice h2.al h2.nl h2.cl, .bool false, .int .i64 0], .int .i64 0]) ∧ OA w' w.heap.size sB h2 ∧ Below w.heap.size w w') := by
  have h := edit_any sA h' eP w S hp hS sA_small eP_ok
  rw [edit_A] at h
  exact h
theorem aw_out (h2 : AH) (w : World) (S : Nat → Prop) (hp : AS w S sB h2) (hS : ∀ b, S b → b < w.heap.size) : Calls Tryd.prog 20 #[.agg #[.string ⟨#[65, 49]⟩, .string ⟨#[76, 79, 78]⟩, .bool true, .string ⟨#[]⟩, .string ⟨#[]⟩, .slice h2.b.an h2.b.nn h2.b.cn, .slice h2.b.ag h2.b.ng h2.b.cg, .slice h2.b.ap h2.b.np h2.b.cp, .int .i64 0, .int .i64 0, .int .i64 0, .string ⟨#[]⟩, .slice h2.b.ar h2.b.nr h2.b.cr, .slice h2.b.ae h2.b.ne h2.b.ce, .bool false, .int .u64 0, .slice h2.ad h2.nd h2.cd, .slice h2.al h2.nl h2.cl, .bool false, .int .i64 0]] w (fun en w' => ∃ h3 : AH, en = .returned (.tuple #[.agg #[.string ⟨#[]⟩, .string ⟨#[]⟩, .bool false, .string ⟨#[]⟩, .string ⟨#[]⟩, .slice h3.b.an h3.b.nn h3.b.cn, .slice h3.b.ag h3.b.ng h3.b.cg, .slice h3.b.ap h3.b.np h3.b.cp, .int .i64 0, .int .i64 0, .int .i64 0, .string ⟨#[]⟩, .slice h3.b.ar h3.b.nr h3.b.cr, .slice h3.b.ae h3.b.ne h3.b.ce, .bool false, .int .u64 0, .slice h3.ad h3.nd h3.cd, .slice h3.al h3.nl h3.cl, .bool false, .int .i64 0], .int .i64 53]) ∧ Below w.heap.size w w') := by
  have h := signout_any sB h2 w S hp hS sB_small
  rw [idle_A] at h
  exact h.mono fun en w' ⟨h3, e, _, hb⟩ => ⟨h3, e, hb⟩
theorem aw_pnr (h2 : AH) (w : World) (S : Nat → Prop) (hp : AS w S sB h2) (hS : ∀ b, S b → b < w.heap.size) : Calls Tryd.prog 11 #[.agg #[.string ⟨#[65, 49]⟩, .string ⟨#[76, 79, 78]⟩, .bool true, .string ⟨#[]⟩, .string ⟨#[]⟩, .slice h2.b.an h2.b.nn h2.b.cn, .slice h2.b.ag h2.b.ng h2.b.cg, .slice h2.b.ap h2.b.np h2.b.cp, .int .i64 0, .int .i64 0, .int .i64 0, .string ⟨#[]⟩, .slice h2.b.ar h2.b.nr h2.b.cr, .slice h2.b.ae h2.b.ne h2.b.ce, .bool false, .int .u64 0, .slice h2.ad h2.nd h2.cd, .slice h2.al h2.nl h2.cl, .bool false, .int .i64 0]] w (fun en w' => ∃ h4 : Hd, en = .returned (.agg #[.string ⟨#[]⟩, .string ⟨#[]⟩, .slice h4.an h4.nn h4.cn, .slice h4.ag h4.ng h4.cg, .slice h4.ap h4.np h4.cp, .int .i64 0, .int .i64 0, .int .i64 0, .string ⟨#[]⟩, .slice h4.ar h4.nr h4.cr, .slice h4.ae h4.ne h4.ce, .bool false]) ∧ h4.np = 1 ∧ Below w.heap.size w w') := by
  have h := apnr_any sB h2 w S hp hS sB_small pP pnr_A
  exact h.mono fun en w' ⟨h4, e, o, hb⟩ => ⟨h4, e, o.phones.sl.len.symm, hb⟩
set_option maxRecDepth 100000 in
set_option maxHeartbeats 8000000 in
theorem awake19_any (w : World) :
    Calls Tryd.prog 6 #[] w (RetB w true) := by
  go_enter Tryd.func6, Tryd.ntmps6
  go_wp2_with fail
  refine (aw_signin _).mono ?_
  rintro en w1 ⟨h', rfl, o1, hb1⟩
  have hb := below_setRow (w := w1.alloc (.cells #[.string ⟨#[]⟩, .string ⟨#[]⟩, .bool false, .string ⟨#[]⟩, .string ⟨#[]⟩, .slice none 0 0, .slice none 0 0, .slice none 0 0, .int .i64 0, .int .i64 0, .int .i64 0, .string ⟨#[]⟩, .slice none 0 0, .slice none 0 0, .bool false, .int .u64 0, .slice none 0 0, .slice none 0 0, .bool false, .int .i64 0] 36)) ((Below.refl w1.heap.size w1).alloc (Nat.le_refl _) (.cells #[.string ⟨#[]⟩, .string ⟨#[]⟩, .bool false, .string ⟨#[]⟩, .string ⟨#[]⟩, .slice none 0 0, .slice none 0 0, .slice none 0 0, .int .i64 0, .int .i64 0, .int .i64 0, .string ⟨#[]⟩, .slice none 0 0, .slice none 0 0, .bool false, .int .u64 0, .slice none 0 0, .slice none 0 0, .bool false, .int .i64 0] 36)) (Nat.le_refl _) #[.string ⟨#[65, 49]⟩, .string ⟨#[76, 79, 78]⟩, .bool false, .string ⟨#[]⟩, .string ⟨#[]⟩, .slice h'.b.an h'.b.nn h'.b.cn, .slice h'.b.ag h'.b.ng h'.b.cg, .slice h'.b.ap h'.b.np h'.b.cp, .int .i64 0, .int .i64 0, .int .i64 0, .string ⟨#[]⟩, .slice h'.b.ar h'.b.nr h'.b.cr, .slice h'.b.ae h'.b.ne h'.b.ce, .bool false, .int .u64 0, .slice h'.ad h'.nd h'.cd, .slice h'.al h'.nl h'.cl, .bool false, .int .i64 0]
  have bx1 := (Bx.new w1 #[.string ⟨#[]⟩, .string ⟨#[]⟩, .bool false, .string ⟨#[]⟩, .string ⟨#[]⟩, .slice none 0 0, .slice none 0 0, .slice none 0 0, .int .i64 0, .int .i64 0, .int .i64 0, .string ⟨#[]⟩, .slice none 0 0, .slice none 0 0, .bool false, .int .u64 0, .slice none 0 0, .slice none 0 0, .bool false, .int .i64 0] 36).row #[.string ⟨#[65, 49]⟩, .string ⟨#[76, 79, 78]⟩, .bool false, .string ⟨#[]⟩, .string ⟨#[]⟩, .slice h'.b.an h'.b.nn h'.b.cn, .slice h'.b.ag h'.b.ng h'.b.cg, .slice h'.b.ap h'.b.np h'.b.cp, .int .i64 0, .int .i64 0, .int .i64 0, .string ⟨#[]⟩, .slice h'.b.ar h'.b.nr h'.b.cr, .slice h'.b.ae h'.b.ne h'.b.ce, .bool false, .int .u64 0, .slice h'.ad h'.nd h'.cd, .slice h'.al h'.nl h'.cl, .bool false, .int .i64 0]
  have oa1 := o1.keep hb
  have B1 := hb1.trans (hb.mono hb1.size)
  have z1 := hb1.size
  go_upto_region 2 with (refine store_ra rfl (.tmp 1) (.tmp 8) rfl #[.string ⟨#[65, 49]⟩, .string ⟨#[76, 79, 78]⟩, .bool false, .string ⟨#[]⟩, .string ⟨#[]⟩, .slice h'.b.an h'.b.nn h'.b.cn, .slice h'.b.ag h'.b.ng h'.b.cg, .slice h'.b.ap h'.b.np h'.b.cp, .int .i64 0, .int .i64 0, .int .i64 0, .string ⟨#[]⟩, .slice h'.b.ar h'.b.nr h'.b.cr, .slice h'.b.ae h'.b.ne h'.b.ce, .bool false, .int .u64 0, .slice h'.ad h'.nd h'.cd, .slice h'.al h'.nl h'.cl, .bool false, .int .i64 0] rfl rfl (Bx.new w1 #[.string ⟨#[]⟩, .string ⟨#[]⟩, .bool false, .string ⟨#[]⟩, .string ⟨#[]⟩, .slice none 0 0, .slice none 0 0, .slice none 0 0, .int .i64 0, .int .i64 0, .int .i64 0, .string ⟨#[]⟩, .slice none 0 0, .slice none 0 0, .bool false, .int .u64 0, .slice none 0 0, .slice none 0 0, .bool false, .int .i64 0] 36) rfl rfl (by simp [Value.oneCell']) ?_)
  refine wp_world (fun W => Below w.heap.size w W ∧ Bx W w1.heap.size #[.string ⟨#[65, 49]⟩, .string ⟨#[76, 79, 78]⟩, .bool false, .string ⟨#[]⟩, .string ⟨#[]⟩, .slice h'.b.an h'.b.nn h'.b.cn, .slice h'.b.ag h'.b.ng h'.b.cg, .slice h'.b.ap h'.b.np h'.b.cp, .int .i64 0, .int .i64 0, .int .i64 0, .string ⟨#[]⟩, .slice h'.b.ar h'.b.nr h'.b.cr, .slice h'.b.ae h'.b.ne h'.b.ce, .bool false, .int .u64 0, .slice h'.ad h'.nd h'.cd, .slice h'.al h'.nl h'.cl, .bool false, .int .i64 0] 36 ∧ OA W w.heap.size sA h') ⟨B1, bx1, oa1⟩ ?_
  clear hb bx1 oa1 B1 o1 hb1
  generalize w1.heap.size = g1 at z1 ⊢
  rintro W ⟨B1, bx1, oa1⟩
  have x1 := bx1.cells
  have y1 := bx1.lt
  go_wp2_with (refine load_ra rfl (.tmp 1) rfl rfl bx1 rfl ?_)
  refine (aw_edit h' _ _ oa1.as (fun b hb => hb.2)).mono ?_
  rintro en w2 ⟨h2, rfl, o2, hb2⟩
  have bx2 := bx1.below hb2 y1
  have B2 := B1.trans (hb2.mono B1.size)
  have hz2 := hb2.size
  have o2' : OA w2 (g1 + 1) sB h2 := o2.more (by omega)
  clear bx1 oa1 B1 x1 hb2 o2
  go_upto_region 5 with (refine store_ra rfl (.tmp 1) (.tmp 21) rfl #[.string ⟨#[65, 49]⟩, .string ⟨#[76, 79, 78]⟩, .bool true, .string ⟨#[]⟩, .string ⟨#[]⟩, .slice h2.b.an h2.b.nn h2.b.cn, .slice h2.b.ag h2.b.ng h2.b.cg, .slice h2.b.ap h2.b.np h2.b.cp, .int .i64 0, .int .i64 0, .int .i64 0, .string ⟨#[]⟩, .slice h2.b.ar h2.b.nr h2.b.cr, .slice h2.b.ae h2.b.ne h2.b.ce, .bool false, .int .u64 0, .slice h2.ad h2.nd h2.cd, .slice h2.al h2.nl h2.cl, .bool false, .int .i64 0] rfl rfl bx2 rfl rfl (by simp [Value.oneCell']) ?_)
  refine wp_world (fun W => Below w.heap.size w W ∧ Bx W g1 #[.string ⟨#[65, 49]⟩, .string ⟨#[76, 79, 78]⟩, .bool true, .string ⟨#[]⟩, .string ⟨#[]⟩, .slice h2.b.an h2.b.nn h2.b.cn, .slice h2.b.ag h2.b.ng h2.b.cg, .slice h2.b.ap h2.b.np h2.b.cp, .int .i64 0, .int .i64 0, .int .i64 0, .string ⟨#[]⟩, .slice h2.b.ar h2.b.nr h2.b.cr, .slice h2.b.ae h2.b.ne h2.b.ce, .bool false, .int .u64 0, .slice h2.ad h2.nd h2.cd, .slice h2.al h2.nl h2.cl, .bool false, .int .i64 0] 36 ∧ OA W (g1 + 1) sB h2) ⟨below_setRow B2 z1 _, bx2.row _, o2'.rowAt (by omega) _⟩ ?_
  clear bx2 B2 o2' hz2 y1
  rintro W3 ⟨B3, bx3, o3⟩
  have y3 := bx3.lt
  go_wp2_with (refine load_ra rfl (.tmp 1) rfl rfl bx3 rfl ?_)
  refine (aw_out h2 _ _ o3.as (fun b hb => hb.2)).mono ?_
  rintro en w4 ⟨h3, rfl, hb4⟩
  have hb := below_setRow (w := w4.alloc (.cells #[.string ⟨#[]⟩, .string ⟨#[]⟩, .bool false, .string ⟨#[]⟩, .string ⟨#[]⟩, .slice none 0 0, .slice none 0 0, .slice none 0 0, .int .i64 0, .int .i64 0, .int .i64 0, .string ⟨#[]⟩, .slice none 0 0, .slice none 0 0, .bool false, .int .u64 0, .slice none 0 0, .slice none 0 0, .bool false, .int .i64 0] 36)) ((Below.refl w4.heap.size w4).alloc (Nat.le_refl _) (.cells #[.string ⟨#[]⟩, .string ⟨#[]⟩, .bool false, .string ⟨#[]⟩, .string ⟨#[]⟩, .slice none 0 0, .slice none 0 0, .slice none 0 0, .int .i64 0, .int .i64 0, .int .i64 0, .string ⟨#[]⟩, .slice none 0 0, .slice none 0 0, .bool false, .int .u64 0, .slice none 0 0, .slice none 0 0, .bool false, .int .i64 0] 36)) (Nat.le_refl _) #[.string ⟨#[]⟩, .string ⟨#[]⟩, .bool false, .string ⟨#[]⟩, .string ⟨#[]⟩, .slice h3.b.an h3.b.nn h3.b.cn, .slice h3.b.ag h3.b.ng h3.b.cg, .slice h3.b.ap h3.b.np h3.b.cp, .int .i64 0, .int .i64 0, .int .i64 0, .string ⟨#[]⟩, .slice h3.b.ar h3.b.nr h3.b.cr, .slice h3.b.ae h3.b.ne h3.b.ce, .bool false, .int .u64 0, .slice h3.ad h3.nd h3.cd, .slice h3.al h3.nl h3.cl, .bool false, .int .i64 0]
  have z4 := hb4.size
  have bx4 := (bx3.below hb4 y3).below hb (by omega)
  have o4 := (o3.keep hb4).keep hb
  have B4 := (B3.trans (hb4.mono (by omega))).trans (hb.mono (by omega))
  clear bx3 B3 o3
  go_upto_region 6 with (refine store_ra rfl (.tmp 3) (.tmp 26) rfl #[.string ⟨#[]⟩, .string ⟨#[]⟩, .bool false, .string ⟨#[]⟩, .string ⟨#[]⟩, .slice h3.b.an h3.b.nn h3.b.cn, .slice h3.b.ag h3.b.ng h3.b.cg, .slice h3.b.ap h3.b.np h3.b.cp, .int .i64 0, .int .i64 0, .int .i64 0, .string ⟨#[]⟩, .slice h3.b.ar h3.b.nr h3.b.cr, .slice h3.b.ae h3.b.ne h3.b.ce, .bool false, .int .u64 0, .slice h3.ad h3.nd h3.cd, .slice h3.al h3.nl h3.cl, .bool false, .int .i64 0] rfl rfl (Bx.new w4 #[.string ⟨#[]⟩, .string ⟨#[]⟩, .bool false, .string ⟨#[]⟩, .string ⟨#[]⟩, .slice none 0 0, .slice none 0 0, .slice none 0 0, .int .i64 0, .int .i64 0, .int .i64 0, .string ⟨#[]⟩, .slice none 0 0, .slice none 0 0, .bool false, .int .u64 0, .slice none 0 0, .slice none 0 0, .bool false, .int .i64 0] 36) rfl rfl (by simp [Value.oneCell']) ?_)
  refine wp_world (fun W => Below w.heap.size w W ∧ Bx W g1 #[.string ⟨#[65, 49]⟩, .string ⟨#[76, 79, 78]⟩, .bool true, .string ⟨#[]⟩, .string ⟨#[]⟩, .slice h2.b.an h2.b.nn h2.b.cn, .slice h2.b.ag h2.b.ng h2.b.cg, .slice h2.b.ap h2.b.np h2.b.cp, .int .i64 0, .int .i64 0, .int .i64 0, .string ⟨#[]⟩, .slice h2.b.ar h2.b.nr h2.b.cr, .slice h2.b.ae h2.b.ne h2.b.ce, .bool false, .int .u64 0, .slice h2.ad h2.nd h2.cd, .slice h2.al h2.nl h2.cl, .bool false, .int .i64 0] 36 ∧ OA W (g1 + 1) sB h2) ⟨B4, bx4, o4⟩ ?_
  clear bx4 o4 B4 hb hb4 z4 y3
  rintro W5 ⟨B5, bx5, o5⟩
  have y5 := bx5.lt
  have xl := lda_of bx5 rfl
  go_wp2_with fail
  refine (aw_pnr h2 _ _ o5.as (fun b hb => hb.2)).mono ?_
  rintro en w5 ⟨h4, rfl, hnp, hb5⟩
  have x6 := (bx5.below hb5 y5).cells
  have B6 := B5.trans (hb5.mono (by omega))
  have z6 := (bx5.below hb5 y5).lt
  obtain ⟨an, nn, cn, ag, ng, cg, ap, np, cp, ar, nr, cr, ae, ne, ce⟩ := h4
  dsimp only at hnp
  subst hnp
  clear bx5 o5 B5 hb5 xl
  have hfd := fun (u : World) => field_phones u ⟨#[]⟩ ⟨#[]⟩ an ag ap ar ae nn cn ng cg 1 cp nr cr ne ce 0 0 0 ⟨#[]⟩ false
  go_wp2
  go_ret
  exact ⟨rfl, B6⟩
end Go.Proofs.YtfbalabmidobeaaDoor
