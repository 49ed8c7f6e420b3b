/- Put together by program of: Awake19, ArPl. -/
import Derived.Test.YtpgeoahlhdifoaaGreatDoorArea6
import Derived.Test.YtpgeoahlhdifoaaGreatDoorMArD9
import Derived.Test.YtpgeoahlhdifoaaGreatDoorMArDb
import Derived.Test.YtpgeoahlhdifoaaGreatDoorArD8
namespace Go.Proofs.YtpgeoahlhdifoaaGreatDoor
set_option linter.unusedVariables false
open Go Go.RowKit
set_option maxRecDepth 100000 in
theorem field_phones (u : World) (b0 b1 : ByteArray) (E0 E1 E2 E3 E4 : Option Addr) (n0 c0 n1 c1 n2 c2 n3 c3 n4 c4 : Nat) (i0 i1 i2 : Int) (b2 : ByteArray) (q : Bool) : (Instr.field 29 (.agg #[.string b0, .string b1, .slice E0 n0 c0, .slice E1 n1 c1, .slice E2 n2 c2, .int .i64 i0, .int .i64 i1, .int .i64 i2, .string b2, .slice E3 n3 c3, .slice E4 n4 c4, .bool q]) 4).run Tryz.prog u = .ok (.slice E2 n2 c2) u := by
  rfl
attribute [local go_sem ↓] loadA_eq
def sA : Ar := { ar0 with agent := ⟨#[65, 49]⟩, off := ⟨#[76, 79, 78]⟩ }
def eP : Edit := ⟨3, ⟨⟨#[]⟩, ⟨#[]⟩⟩, ⟨⟨#[]⟩, 0, 0, 0, false⟩, ⟨0, 0, 0⟩, ⟨#[49]⟩, 0, 0, 0, 0⟩
def sB : Ar := { sA with open_ := true, edits := [eP] }
def pP : Pnr := { pnr0 with phones := [⟨#[49]⟩] }
theorem signin_A : signinF ar0 ⟨#[65, 49]⟩ ⟨#[76, 79, 78]⟩ = (sA, 0) := by kernel_rfl
theorem edit_A : editF sA eP = (sB, 0) := by kernel_rfl
theorem idle_A : idleF sB = (ar0, 53) := by kernel_rfl
theorem pnr_A : pnrF sB = pP := by kernel_rfl
theorem eP_ok : eP.ok := by simp [Edit.ok, okInt, okByte, okStr, Nam.ok, Seg.ok, Tik.ok, eP, ByteArray.size]
theorem sA_small : sA.small 1000 := ⟨⟨by simp [sA, ar0, pnr0], by simp [sA, ar0, pnr0], by simp [sA, ar0, pnr0], by simp [sA, ar0, pnr0], by simp [sA, ar0, pnr0]⟩, by simp [sA, ar0], by simp [sA, ar0]⟩
theorem sB_small : sB.small 1000 := ⟨⟨by simp [sB, sA, ar0, pnr0], by simp [sB, sA, ar0, pnr0], by simp [sB, sA, ar0, pnr0], by simp [sB, sA, ar0, pnr0], by simp [sB, sA, ar0, pnr0]⟩, by simp [sB, sA, ar0], by simp [sB, sA, ar0]⟩
theorem aw_signin (w : World) : Calls Tryz.prog 14 #[.agg #[.string ⟨#[]⟩, .string ⟨#[]⟩, .bool false, .string ⟨#[]⟩, .string ⟨#[]⟩, .slice none 0 0, .slice none 0 0, .slice none 0 0, .int .i64 0, .int .i64 0, .int .i64 0, .string ⟨#[]⟩, .slice none 0 0, .slice none 0 0, .bool false, .int .u64 0, .slice none 0 0, .slice none 0 0, .bool false, .int .i64 0], .string ⟨#[65, 49]⟩, .string ⟨#[76, 79, 78]⟩] w (fun en w' => ∃ h' : AH, en = .returned (.tuple #[.agg #[.string ⟨#[65, 49]⟩, .string ⟨#[76, 79, 78]⟩, .bool false, .string ⟨#[]⟩, .string ⟨#[]⟩, .slice h'.b.an h'.b.nn h'.b.cn, .slice h'.b.ag h'.b.ng h'.b.cg, .slice h'.b.ap h'.b.np h'.b.cp, .int .i64 0, .int .i64 0, .int .i64 0, .string ⟨#[]⟩, .slice h'.b.ar h'.b.nr h'.b.cr, .slice h'.b.ae h'.b.ne h'.b.ce, .bool false, .int .u64 0, .slice h'.ad h'.nd h'.cd, .slice h'.al h'.nl h'.cl, .bool false, .int .i64 0], .int .i64 0]) ∧ OA w' w.heap.size sA h' ∧ Below w.heap.size w w') := by
  have h := signin_any ar0 ah0 ⟨#[65, 49]⟩ ⟨#[76, 79, 78]⟩ w (by simp [okStr, ByteArray.size]) (by simp [okStr, ByteArray.size])
  rw [signin_A] at h
  exact h
theorem aw_edit (h' : AH) (w : World) (S : Nat → Prop) (hp : AS w S sA h') (hS : ∀ b, S b → b < w.heap.size) : Calls Tryz.prog 15 #[.agg #[.string ⟨#[65, 49]⟩, .string ⟨#[76, 79, 78]⟩, .bool false, .string ⟨#[]⟩, .string ⟨#[]⟩, .slice h'.b.an h'.b.nn h'.b.cn, .slice h'.b.ag h'.b.ng h'.b.cg, .slice h'.b.ap h'.b.np h'.b.cp, .int .i64 0, .int .i64 0, .int .i64 0, .string ⟨#[]⟩, .slice h'.b.ar h'.b.nr h'.b.cr, .slice h'.b.ae h'.b.ne h'.b.ce, .bool false, .int .u64 0, .slice h'.ad h'.nd h'.cd, .slice h'.al h'.nl h'.cl, .bool false, .int .i64 0], .agg #[.int .i64 3, .string ⟨#[]⟩, .string ⟨#[]⟩, .string ⟨#[]⟩, .int .i64 0, .int .i64 0, .int .u8 0, .bool false, .int .i64 0, .int .i64 0, .int .i64 0, .string ⟨#[49]⟩, .int .i64 0, .int .i64 0, .int .i64 0, .int .u8 0]] w (fun en w' => ∃ h2 : AH, en = .returned (.tuple #[.agg #[.string ⟨#[65, 49]⟩, .string ⟨#[76, 79, 78]⟩, .bool true, .string ⟨#[]⟩, .string ⟨#[]⟩, .slice h2.b.an h2.b.nn h2.b.cn, .slice h2.b.ag h2.b.ng h2.b.cg, .slice h2.b.ap h2.b.np h2.b.cp, .int .i64 0, .int .i64 0, .int .i64 0, .string ⟨#[]⟩, .slice h2.b.ar h2.b.nr h2.b.cr, .slice h2.b.ae h2.b.ne h2.b.ce, .bool false, .int .u64 0, .slice h2.ad h2.nd h2.cd, .slice h2.al h2.nl h2.cl, .bool false, .int .i64 0], .int .i64 0]) ∧ OA w' w.heap.size sB h2 ∧ Below w.heap.size w w') := by
  have h := edit_any sA h' eP w S hp hS sA_small eP_ok
  rw [edit_A] at h
  exact h
theorem aw_out (h2 : AH) (w : World) (S : Nat → Prop) (hp : AS w S sB h2) (hS : ∀ b, S b → b < w.heap.size) : Calls Tryz.prog 16 #[.agg #[.string ⟨#[65, 49]⟩, .string ⟨#[76, 79, 78]⟩, .bool true, .string ⟨#[]⟩, .string ⟨#[]⟩, .slice h2.b.an h2.b.nn h2.b.cn, .slice h2.b.ag h2.b.ng h2.b.cg, .slice h2.b.ap h2.b.np h2.b.cp, .int .i64 0, .int .i64 0, .int .i64 0, .string ⟨#[]⟩, .slice h2.b.ar h2.b.nr h2.b.cr, .slice h2.b.ae h2.b.ne h2.b.ce, .bool false, .int .u64 0, .slice h2.ad h2.nd h2.cd, .slice h2.al h2.nl h2.cl, .bool false, .int .i64 0]] w (fun en w' => ∃ h3 : AH, en = .returned (.tuple #[.agg #[.string ⟨#[]⟩, .string ⟨#[]⟩, .bool false, .string ⟨#[]⟩, .string ⟨#[]⟩, .slice h3.b.an h3.b.nn h3.b.cn, .slice h3.b.ag h3.b.ng h3.b.cg, .slice h3.b.ap h3.b.np h3.b.cp, .int .i64 0, .int .i64 0, .int .i64 0, .string ⟨#[]⟩, .slice h3.b.ar h3.b.nr h3.b.cr, .slice h3.b.ae h3.b.ne h3.b.ce, .bool false, .int .u64 0, .slice h3.ad h3.nd h3.cd, .slice h3.al h3.nl h3.cl, .bool false, .int .i64 0], .int .i64 53]) ∧ Below w.heap.size w w') := by
  have h := signout_any sB h2 w S hp hS sB_small
  rw [idle_A] at h
  exact h.mono fun en w' ⟨h3, e, _, hb⟩ => ⟨h3, e, hb⟩
theorem aw_pnr (h2 : AH) (w : World) (S : Nat → Prop) (hp : AS w S sB h2) (hS : ∀ b, S b → b < w.heap.size) : Calls Tryz.prog 11 #[.agg #[.string ⟨#[65, 49]⟩, .string ⟨#[76, 79, 78]⟩, .bool true, .string ⟨#[]⟩, .string ⟨#[]⟩, .slice h2.b.an h2.b.nn h2.b.cn, .slice h2.b.ag h2.b.ng h2.b.cg, .slice h2.b.ap h2.b.np h2.b.cp, .int .i64 0, .int .i64 0, .int .i64 0, .string ⟨#[]⟩, .slice h2.b.ar h2.b.nr h2.b.cr, .slice h2.b.ae h2.b.ne h2.b.ce, .bool false, .int .u64 0, .slice h2.ad h2.nd h2.cd, .slice h2.al h2.nl h2.cl, .bool false, .int .i64 0]] w (fun en w' => ∃ h4 : Hd, en = .returned (.agg #[.string ⟨#[]⟩, .string ⟨#[]⟩, .slice h4.an h4.nn h4.cn, .slice h4.ag h4.ng h4.cg, .slice h4.ap h4.np h4.cp, .int .i64 0, .int .i64 0, .int .i64 0, .string ⟨#[]⟩, .slice h4.ar h4.nr h4.cr, .slice h4.ae h4.ne h4.ce, .bool false]) ∧ h4.np = 1 ∧ Below w.heap.size w w') := by
  have h := apnr_any sB h2 w S hp hS sB_small pP pnr_A
  exact h.mono fun en w' ⟨h4, e, o, hb⟩ => ⟨h4, e, o.phones.sl.len.symm, hb⟩
set_option maxRecDepth 100000 in
set_option maxHeartbeats 8000000 in
theorem awake19_any (w : World) :
    Calls Tryz.prog 4 #[] w (RetB w true) := by
  go_enter Tryz.func4, Tryz.ntmps4
  go_wp2_with fail
  refine (aw_signin _).mono ?_
  rintro en w1 ⟨h', rfl, o1, hb1⟩
  have hb := below_setRow (w := w1.alloc (.cells #[.string ⟨#[]⟩, .string ⟨#[]⟩, .bool false, .string ⟨#[]⟩, .string ⟨#[]⟩, .slice none 0 0, .slice none 0 0, .slice none 0 0, .int .i64 0, .int .i64 0, .int .i64 0, .string ⟨#[]⟩, .slice none 0 0, .slice none 0 0, .bool false, .int .u64 0, .slice none 0 0, .slice none 0 0, .bool false, .int .i64 0] 53)) ((Below.refl w1.heap.size w1).alloc (Nat.le_refl _) (.cells #[.string ⟨#[]⟩, .string ⟨#[]⟩, .bool false, .string ⟨#[]⟩, .string ⟨#[]⟩, .slice none 0 0, .slice none 0 0, .slice none 0 0, .int .i64 0, .int .i64 0, .int .i64 0, .string ⟨#[]⟩, .slice none 0 0, .slice none 0 0, .bool false, .int .u64 0, .slice none 0 0, .slice none 0 0, .bool false, .int .i64 0] 53)) (Nat.le_refl _) #[.string ⟨#[65, 49]⟩, .string ⟨#[76, 79, 78]⟩, .bool false, .string ⟨#[]⟩, .string ⟨#[]⟩, .slice h'.b.an h'.b.nn h'.b.cn, .slice h'.b.ag h'.b.ng h'.b.cg, .slice h'.b.ap h'.b.np h'.b.cp, .int .i64 0, .int .i64 0, .int .i64 0, .string ⟨#[]⟩, .slice h'.b.ar h'.b.nr h'.b.cr, .slice h'.b.ae h'.b.ne h'.b.ce, .bool false, .int .u64 0, .slice h'.ad h'.nd h'.cd, .slice h'.al h'.nl h'.cl, .bool false, .int .i64 0]
  have bx1 := (Bx.new w1 #[.string ⟨#[]⟩, .string ⟨#[]⟩, .bool false, .string ⟨#[]⟩, .string ⟨#[]⟩, .slice none 0 0, .slice none 0 0, .slice none 0 0, .int .i64 0, .int .i64 0, .int .i64 0, .string ⟨#[]⟩, .slice none 0 0, .slice none 0 0, .bool false, .int .u64 0, .slice none 0 0, .slice none 0 0, .bool false, .int .i64 0] 53).row #[.string ⟨#[65, 49]⟩, .string ⟨#[76, 79, 78]⟩, .bool false, .string ⟨#[]⟩, .string ⟨#[]⟩, .slice h'.b.an h'.b.nn h'.b.cn, .slice h'.b.ag h'.b.ng h'.b.cg, .slice h'.b.ap h'.b.np h'.b.cp, .int .i64 0, .int .i64 0, .int .i64 0, .string ⟨#[]⟩, .slice h'.b.ar h'.b.nr h'.b.cr, .slice h'.b.ae h'.b.ne h'.b.ce, .bool false, .int .u64 0, .slice h'.ad h'.nd h'.cd, .slice h'.al h'.nl h'.cl, .bool false, .int .i64 0]
  have oa1 := o1.keep hb
  have B1 := hb1.trans (hb.mono hb1.size)
  have z1 := hb1.size
  go_upto_region 2 with (refine store_ra rfl (.tmp 1) (.tmp 8) rfl #[.string ⟨#[65, 49]⟩, .string ⟨#[76, 79, 78]⟩, .bool false, .string ⟨#[]⟩, .string ⟨#[]⟩, .slice h'.b.an h'.b.nn h'.b.cn, .slice h'.b.ag h'.b.ng h'.b.cg, .slice h'.b.ap h'.b.np h'.b.cp, .int .i64 0, .int .i64 0, .int .i64 0, .string ⟨#[]⟩, .slice h'.b.ar h'.b.nr h'.b.cr, .slice h'.b.ae h'.b.ne h'.b.ce, .bool false, .int .u64 0, .slice h'.ad h'.nd h'.cd, .slice h'.al h'.nl h'.cl, .bool false, .int .i64 0] rfl rfl (Bx.new w1 #[.string ⟨#[]⟩, .string ⟨#[]⟩, .bool false, .string ⟨#[]⟩, .string ⟨#[]⟩, .slice none 0 0, .slice none 0 0, .slice none 0 0, .int .i64 0, .int .i64 0, .int .i64 0, .string ⟨#[]⟩, .slice none 0 0, .slice none 0 0, .bool false, .int .u64 0, .slice none 0 0, .slice none 0 0, .bool false, .int .i64 0] 53) rfl rfl (by simp [Value.oneCell']) ?_)
  refine wp_world (fun W => Below w.heap.size w W ∧ Bx W w1.heap.size #[.string ⟨#[65, 49]⟩, .string ⟨#[76, 79, 78]⟩, .bool false, .string ⟨#[]⟩, .string ⟨#[]⟩, .slice h'.b.an h'.b.nn h'.b.cn, .slice h'.b.ag h'.b.ng h'.b.cg, .slice h'.b.ap h'.b.np h'.b.cp, .int .i64 0, .int .i64 0, .int .i64 0, .string ⟨#[]⟩, .slice h'.b.ar h'.b.nr h'.b.cr, .slice h'.b.ae h'.b.ne h'.b.ce, .bool false, .int .u64 0, .slice h'.ad h'.nd h'.cd, .slice h'.al h'.nl h'.cl, .bool false, .int .i64 0] 53 ∧ OA W w.heap.size sA h') ⟨B1, bx1, oa1⟩ ?_
  clear hb bx1 oa1 B1 o1 hb1
  generalize w1.heap.size = g1 at z1 ⊢
  rintro W ⟨B1, bx1, oa1⟩
  have x1 := bx1.cells
  have y1 := bx1.lt
  go_wp2_with (refine load_ra rfl (.tmp 1) rfl rfl bx1 rfl ?_)
  refine (aw_edit h' _ _ oa1.as (fun b hb => hb.2)).mono ?_
  rintro en w2 ⟨h2, rfl, o2, hb2⟩
  have bx2 := bx1.below hb2 y1
  have B2 := B1.trans (hb2.mono B1.size)
  have hz2 := hb2.size
  have o2' : OA w2 (g1 + 1) sB h2 := o2.more (by omega)
  clear bx1 oa1 B1 x1 hb2 o2
  go_upto_region 5 with (refine store_ra rfl (.tmp 1) (.tmp 21) rfl #[.string ⟨#[65, 49]⟩, .string ⟨#[76, 79, 78]⟩, .bool true, .string ⟨#[]⟩, .string ⟨#[]⟩, .slice h2.b.an h2.b.nn h2.b.cn, .slice h2.b.ag h2.b.ng h2.b.cg, .slice h2.b.ap h2.b.np h2.b.cp, .int .i64 0, .int .i64 0, .int .i64 0, .string ⟨#[]⟩, .slice h2.b.ar h2.b.nr h2.b.cr, .slice h2.b.ae h2.b.ne h2.b.ce, .bool false, .int .u64 0, .slice h2.ad h2.nd h2.cd, .slice h2.al h2.nl h2.cl, .bool false, .int .i64 0] rfl rfl bx2 rfl rfl (by simp [Value.oneCell']) ?_)
  refine wp_world (fun W => Below w.heap.size w W ∧ Bx W g1 #[.string ⟨#[65, 49]⟩, .string ⟨#[76, 79, 78]⟩, .bool true, .string ⟨#[]⟩, .string ⟨#[]⟩, .slice h2.b.an h2.b.nn h2.b.cn, .slice h2.b.ag h2.b.ng h2.b.cg, .slice h2.b.ap h2.b.np h2.b.cp, .int .i64 0, .int .i64 0, .int .i64 0, .string ⟨#[]⟩, .slice h2.b.ar h2.b.nr h2.b.cr, .slice h2.b.ae h2.b.ne h2.b.ce, .bool false, .int .u64 0, .slice h2.ad h2.nd h2.cd, .slice h2.al h2.nl h2.cl, .bool false, .int .i64 0] 53 ∧ OA W (g1 + 1) sB h2) ⟨below_setRow B2 z1 _, bx2.row _, o2'.rowAt (by omega) _⟩ ?_
  clear bx2 B2 o2' hz2 y1
  rintro W3 ⟨B3, bx3, o3⟩
  have y3 := bx3.lt
  go_wp2_with (refine load_ra rfl (.tmp 1) rfl rfl bx3 rfl ?_)
  refine (aw_out h2 _ _ o3.as (fun b hb => hb.2)).mono ?_
  rintro en w4 ⟨h3, rfl, hb4⟩
  have hb := below_setRow (w := w4.alloc (.cells #[.string ⟨#[]⟩, .string ⟨#[]⟩, .bool false, .string ⟨#[]⟩, .string ⟨#[]⟩, .slice none 0 0, .slice none 0 0, .slice none 0 0, .int .i64 0, .int .i64 0, .int .i64 0, .string ⟨#[]⟩, .slice none 0 0, .slice none 0 0, .bool false, .int .u64 0, .slice none 0 0, .slice none 0 0, .bool false, .int .i64 0] 53)) ((Below.refl w4.heap.size w4).alloc (Nat.le_refl _) (.cells #[.string ⟨#[]⟩, .string ⟨#[]⟩, .bool false, .string ⟨#[]⟩, .string ⟨#[]⟩, .slice none 0 0, .slice none 0 0, .slice none 0 0, .int .i64 0, .int .i64 0, .int .i64 0, .string ⟨#[]⟩, .slice none 0 0, .slice none 0 0, .bool false, .int .u64 0, .slice none 0 0, .slice none 0 0, .bool false, .int .i64 0] 53)) (Nat.le_refl _) #[.string ⟨#[]⟩, .string ⟨#[]⟩, .bool false, .string ⟨#[]⟩, .string ⟨#[]⟩, .slice h3.b.an h3.b.nn h3.b.cn, .slice h3.b.ag h3.b.ng h3.b.cg, .slice h3.b.ap h3.b.np h3.b.cp, .int .i64 0, .int .i64 0, .int .i64 0, .string ⟨#[]⟩, .slice h3.b.ar h3.b.nr h3.b.cr, .slice h3.b.ae h3.b.ne h3.b.ce, .bool false, .int .u64 0, .slice h3.ad h3.nd h3.cd, .slice h3.al h3.nl h3.cl, .bool false, .int .i64 0]
  have z4 := hb4.size
  have bx4 := (bx3.below hb4 y3).below hb (by omega)
  have o4 := (o3.keep hb4).keep hb
  have B4 := (B3.trans (hb4.mono (by omega))).trans (hb.mono (by omega))
  clear bx3 B3 o3
  go_upto_region 6 with (refine store_ra rfl (.tmp 3) (.tmp 26) rfl #[.string ⟨#[]⟩, .string ⟨#[]⟩, .bool false, .string ⟨#[]⟩, .string ⟨#[]⟩, .slice h3.b.an h3.b.nn h3.b.cn, .slice h3.b.ag h3.b.ng h3.b.cg, .slice h3.b.ap h3.b.np h3.b.cp, .int .i64 0, .int .i64 0, .int .i64 0, .string ⟨#[]⟩, .slice h3.b.ar h3.b.nr h3.b.cr, .slice h3.b.ae h3.b.ne h3.b.ce, .bool false, .int .u64 0, .slice h3.ad h3.nd h3.cd, .slice h3.al h3.nl h3.cl, .bool false, .int .i64 0] rfl rfl (Bx.new w4 #[.string ⟨#[]⟩, .string ⟨#[]⟩, .bool false, .string ⟨#[]⟩, .string ⟨#[]⟩, .slice none 0 0, .slice none 0 0, .slice none 0 0, .int .i64 0, .int .i64 0, .int .i64 0, .string ⟨#[]⟩, .slice none 0 0, .slice none 0 0, .bool false, .int .u64 0, .slice none 0 0, .slice none 0 0, .bool false, .int .i64 0] 53) rfl rfl (by simp [Value.oneCell']) ?_)
  refine wp_world (fun W => Below w.heap.size w W ∧ Bx W g1 #[.string ⟨#[65, 49]⟩, .string ⟨#[76, 79, 78]⟩, .bool true, .string ⟨#[]⟩, .string ⟨#[]⟩, .slice h2.b.an h2.b.nn h2.b.cn, .slice h2.b.ag h2.b.ng h2.b.cg, .slice h2.b.ap h2.b.np h2.b.cp, .int .i64 0, .int .i64 0, .int .i64 0, .string ⟨#[]⟩, .slice h2.b.ar h2.b.nr h2.b.cr, .slice h2.b.ae h2.b.ne h2.b.ce, .bool false, .int .u64 0, .slice h2.ad h2.nd h2.cd, .slice h2.al h2.nl h2.cl, .bool false, .int .i64 0] 53 ∧ OA W (g1 + 1) sB h2) ⟨B4, bx4, o4⟩ ?_
  clear bx4 o4 B4 hb hb4 z4 y3
  rintro W5 ⟨B5, bx5, o5⟩
  have y5 := bx5.lt
  have xl := lda_of bx5 rfl
  go_wp2_with fail
  refine (aw_pnr h2 _ _ o5.as (fun b hb => hb.2)).mono ?_
  rintro en w5 ⟨h4, rfl, hnp, hb5⟩
  have x6 := (bx5.below hb5 y5).cells
  have B6 := B5.trans (hb5.mono (by omega))
  have z6 := (bx5.below hb5 y5).lt
  obtain ⟨an, nn, cn, ag, ng, cg, ap, np, cp, ar, nr, cr, ae, ne, ce⟩ := h4
  dsimp only at hnp
  subst hnp
  clear bx5 o5 B5 hb5 xl
  have hfd := fun (u : World) => field_phones u ⟨#[]⟩ ⟨#[]⟩ an ag ap ar ae nn cn ng cg 1 cp nr cr ne ce 0 0 0 ⟨#[]⟩ false
  go_wp2
  go_ret
  exact ⟨rfl, B6⟩
end Go.Proofs.YtpgeoahlhdifoaaGreatDoor
namespace Go.Proofs.YtpgeoahlhdifoaaGreatDoor
set_option linter.unusedVariables false
open Go Go.RowKit
attribute [local go_sem ↓] loadA_eq storeA_eq loadD_eq storeD_eq loadP_eq
/-- A call of the script as a row of 34 cells. -/
def tActM : Ty ActM := ⟨fun x => [.int .i64 x.kind, .int .i64 x.n, .string x.text, .string x.off, .int .i64 x.ed.kind, .string x.ed.nam.last, .string x.ed.nam.first, .string x.ed.seg.car, .int .i64 x.ed.seg.num, .int .i64 x.ed.seg.day, .int .u8 x.ed.seg.cls, .bool x.ed.seg.live, .int .i64 x.ed.tik.kind, .int .i64 x.ed.tik.day, .int .i64 x.ed.tik.min, .string x.ed.text, .int .i64 x.ed.n, .int .i64 x.ed.pax, .int .i64 x.ed.row, .int .u8 x.ed.let_, .string x.p.loc, .string x.p.off, .slice x.h.an x.h.nn x.h.cn, .slice x.h.ag x.h.ng x.h.cg, .slice x.h.ap x.h.np x.h.cp, .int .i64 x.p.tik.kind, .int .i64 x.p.tik.day, .int .i64 x.p.tik.min, .string x.p.rc, .slice x.h.ar x.h.nr x.h.cr, .slice x.h.ae x.h.ne x.h.ce, .bool x.p.queued, .int .u64 x.ver, .slice x.al x.nl x.cl], 34, ActM.ok, fun _ => rfl, fun x u h => by simp at h; rcases h with h | h | h | h | h | h | h | h | h | h | h | h | h | h | h | h | h | h | h | h | h | h | h | h | h | h | h | h | h | h | h | h | h | h <;> subst h <;> rfl, by omega⟩
noncomputable def loadX (v : Value) : Sem Value := Instr.loadAt 52 v
theorem loadX_eq (v : Value) : Instr.loadAt 52 v = loadX v := rfl
attribute [local go_sem ↓] loadX_eq
/-- One call of the script: its cells. -/
structure XAt (W : World) (b i : Nat) (x : ActM) : Prop where
  c0 : W.cell? ⟨b, i, none⟩ = some (.int .i64 x.kind)
  c33 : W.cell? ⟨b, i + 33, none⟩ = some (.slice x.al x.nl x.cl)
  lp : (loadP (.pointer (some ⟨b, i + 20, none⟩))).run Tryz.prog W = .ok (.agg #[.string x.p.loc, .string x.p.off, .slice x.h.an x.h.nn x.h.cn, .slice x.h.ag x.h.ng x.h.cg, .slice x.h.ap x.h.np x.h.cp, .int .i64 x.p.tik.kind, .int .i64 x.p.tik.day, .int .i64 x.p.tik.min, .string x.p.rc, .slice x.h.ar x.h.nr x.h.cr, .slice x.h.ae x.h.ne x.h.ce, .bool x.p.queued]) W
  lx : (loadX (.pointer (some ⟨b, i, none⟩))).run Tryz.prog W = .ok (.agg #[.int .i64 x.kind, .int .i64 x.n, .string x.text, .string x.off, .int .i64 x.ed.kind, .string x.ed.nam.last, .string x.ed.nam.first, .string x.ed.seg.car, .int .i64 x.ed.seg.num, .int .i64 x.ed.seg.day, .int .u8 x.ed.seg.cls, .bool x.ed.seg.live, .int .i64 x.ed.tik.kind, .int .i64 x.ed.tik.day, .int .i64 x.ed.tik.min, .string x.ed.text, .int .i64 x.ed.n, .int .i64 x.ed.pax, .int .i64 x.ed.row, .int .u8 x.ed.let_, .string x.p.loc, .string x.p.off, .slice x.h.an x.h.nn x.h.cn, .slice x.h.ag x.h.ng x.h.cg, .slice x.h.ap x.h.np x.h.cp, .int .i64 x.p.tik.kind, .int .i64 x.p.tik.day, .int .i64 x.p.tik.min, .string x.p.rc, .slice x.h.ar x.h.nr x.h.cr, .slice x.h.ae x.h.ne x.h.ce, .bool x.p.queued, .int .u64 x.ver, .slice x.al x.nl x.cl]) W
theorem Sl.actm_ {w : World} {lo hi n k : Nat} {A : Option Addr} {l : List ActM} (h : Sl w lo hi tActM A n l) (hk : k < n) :
    ∃ b o x, A = some ⟨b, o, none⟩ ∧ b < hi ∧ l[k]? = some x ∧ x.ok ∧ ∀ W : World, (∀ j, W.cell? ⟨b, j, none⟩ = w.cell? ⟨b, j, none⟩) → XAt W b (o + k * 34) x := by
  obtain ⟨b, o, x, rfl, h1, h2, h3, h4, hc⟩ := h.at_ hk
  refine ⟨b, o, x, rfl, h2, h3.out, h4, fun W hW => ?_⟩
  have hg : ∀ j v, (tActM.enc x)[j]? = some v → W.cell? ⟨b, o + k * 34 + j, none⟩ = some v := fun j v hj => (hW _).trans (hc j v hj)
  refine ⟨hg 0 _ rfl, hg 33 _ rfl, ?_, ?_⟩
  · refine run_loadAt_mid W b (o + k * 34 + 20) 29 (#[.string x.p.loc, .string x.p.off, .slice x.h.an x.h.nn x.h.cn, .slice x.h.ag x.h.ng x.h.cg, .slice x.h.ap x.h.np x.h.cp, .int .i64 x.p.tik.kind, .int .i64 x.p.tik.day, .int .i64 x.p.tik.min, .string x.p.rc, .slice x.h.ar x.h.nr x.h.cr, .slice x.h.ae x.h.ne x.h.ce, .bool x.p.queued] : Array Value).toList _ (fun j v hj => ?_) Tryz.underlying29 rfl (by kernel_rfl)
    rw [show o + k * 34 + 20 + j = o + k * 34 + (20 + j) by omega]
    refine hg (20 + j) v ?_
    rw [← hj]
    match j with
    | 0 => rfl
    | 1 => rfl
    | 2 => rfl
    | 3 => rfl
    | 4 => rfl
    | 5 => rfl
    | 6 => rfl
    | 7 => rfl
    | 8 => rfl
    | 9 => rfl
    | 10 => rfl
    | 11 => rfl
    | j + 12 => cases hj
  · exact run_loadAt_mid W b (o + k * 34) 52 (tActM.enc x) _ (fun j v hj => hg j v hj) Tryz.underlying52 rfl (by kernel_rfl)
/-- The base of an area in a box. -/
theorem area_p {W : World} {g : Nat} {a : Ar} {h : AH} (hr : Bx W g #[.string a.agent, .string a.off, .bool a.open_, .string a.base.loc, .string a.base.off, .slice h.b.an h.b.nn h.b.cn, .slice h.b.ag h.b.ng h.b.cg, .slice h.b.ap h.b.np h.b.cp, .int .i64 a.base.tik.kind, .int .i64 a.base.tik.day, .int .i64 a.base.tik.min, .string a.base.rc, .slice h.b.ar h.b.nr h.b.cr, .slice h.b.ae h.b.ne h.b.ce, .bool a.base.queued, .int .u64 a.ver, .slice h.ad h.nd h.cd, .slice h.al h.nl h.cl, .bool a.working, .int .i64 a.queue] 53) : (loadP (.pointer (some ⟨g, 3, none⟩))).run Tryz.prog W = .ok (.agg #[.string a.base.loc, .string a.base.off, .slice h.b.an h.b.nn h.b.cn, .slice h.b.ag h.b.ng h.b.cg, .slice h.b.ap h.b.np h.b.cp, .int .i64 a.base.tik.kind, .int .i64 a.base.tik.day, .int .i64 a.base.tik.min, .string a.base.rc, .slice h.b.ar h.b.nr h.b.cr, .slice h.b.ae h.b.ne h.b.ce, .bool a.base.queued]) W := by
  refine run_loadAt_mid W g 3 29 (#[.string a.base.loc, .string a.base.off, .slice h.b.an h.b.nn h.b.cn, .slice h.b.ag h.b.ng h.b.cg, .slice h.b.ap h.b.np h.b.cp, .int .i64 a.base.tik.kind, .int .i64 a.base.tik.day, .int .i64 a.base.tik.min, .string a.base.rc, .slice h.b.ar h.b.nr h.b.cr, .slice h.b.ae h.b.ne h.b.ce, .bool a.base.queued] : Array Value).toList _ (fun j v hj => ?_) Tryz.underlying29 rfl (by kernel_rfl)
  refine (hr.cells (3 + j)).trans ?_
  rw [← hj]
  match j with
  | 0 => rfl
  | 1 => rfl
  | 2 => rfl
  | 3 => rfl
  | 4 => rfl
  | 5 => rfl
  | 6 => rfl
  | 7 => rfl
  | 8 => rfl
  | 9 => rfl
  | 10 => rfl
  | 11 => rfl
  | j + 12 => cases hj
/-- The document's area between two rounds. -/
structure MX (w : World) (a : Ar) (h : AH) (W : World) : Prop where
  B : Below w.heap.size w W
  b : Bx W w.heap.size (aC a h) 34
  A : AS W (fun b => b ≠ w.heap.size ∧ b < W.heap.size) a h
theorem MX.start {w : World} {a : Ar} {h : AH} (hA : AS w (fun b => b < w.heap.size) a h) : MX w a h (w.alloc (.cells (aC a h) 34)) :=
  ⟨(Below.refl _ _).alloc (Nat.le_refl _) _, Bx.new _ _ _, (hA.below ((Below.refl w.heap.size w).alloc (Nat.le_refl _) _) fun b hb => hb).mono fun b hb => ⟨by omega, by simp; omega⟩⟩
theorem MX.step {w W W1 : World} {a : Ar} {h : AH} (H : MX w a h W) (hb : Below W.heap.size W W1) : MX w a h W1 :=
  ⟨H.B.trans (hb.mono H.B.size), H.b.below hb H.b.lt, (H.A.below hb fun b hb => hb.2).mono fun b h => ⟨h.1, Nat.lt_of_lt_of_le h.2 hb.size⟩⟩
theorem MX.lt {w W : World} {a : Ar} {h : AH} (H : MX w a h W) : w.heap.size < W.heap.size := H.b.lt
theorem ActAt.mono {w : World} {S S' : Nat → Prop} {x : ActM} (H : ActAt w S x) (h : ∀ b, S b → S' b) : ActAt w S' x := ⟨H.p.mono h, H.l.mono h⟩
/-- Any call. -/
theorem play_any (a : Ar) (h hm : AH) (x : ActM) (w : World) (S : Nat → Prop) (lo c : Nat) (ha : AS w (fun b => b < w.heap.size) a h) (hm0 : AS w S a hm) (hS : ∀ b, S b → b < w.heap.size) (hs : a.small 1000) (ho : x.ok) (hps : x.p.small 1000) (hls : x.legs.length ≤ 1000) (hxs : ActAt w S x) (hbw : BW w lo c h) (hc : c ≤ w.heap.size) :
    Calls Tryz.prog 8 #[.agg #[.string a.agent, .string a.off, .bool a.open_, .string a.base.loc, .string a.base.off, .slice h.b.an h.b.nn h.b.cn, .slice h.b.ag h.b.ng h.b.cg, .slice h.b.ap h.b.np h.b.cp, .int .i64 a.base.tik.kind, .int .i64 a.base.tik.day, .int .i64 a.base.tik.min, .string a.base.rc, .slice h.b.ar h.b.nr h.b.cr, .slice h.b.ae h.b.ne h.b.ce, .bool a.base.queued, .int .u64 a.ver, .slice h.ad h.nd h.cd, .slice h.al h.nl h.cl, .bool a.working, .int .i64 a.queue], .agg #[.string a.agent, .string a.off, .bool a.open_, .string a.base.loc, .string a.base.off, .slice hm.b.an hm.b.nn hm.b.cn, .slice hm.b.ag hm.b.ng hm.b.cg, .slice hm.b.ap hm.b.np hm.b.cp, .int .i64 a.base.tik.kind, .int .i64 a.base.tik.day, .int .i64 a.base.tik.min, .string a.base.rc, .slice hm.b.ar hm.b.nr hm.b.cr, .slice hm.b.ae hm.b.ne hm.b.ce, .bool a.base.queued, .int .u64 a.ver, .slice hm.ad hm.nd hm.cd, .slice hm.al hm.nl hm.cl, .bool a.working, .int .i64 a.queue], .agg #[.int .i64 x.kind, .int .i64 x.n, .string x.text, .string x.off, .int .i64 x.ed.kind, .string x.ed.nam.last, .string x.ed.nam.first, .string x.ed.seg.car, .int .i64 x.ed.seg.num, .int .i64 x.ed.seg.day, .int .u8 x.ed.seg.cls, .bool x.ed.seg.live, .int .i64 x.ed.tik.kind, .int .i64 x.ed.tik.day, .int .i64 x.ed.tik.min, .string x.ed.text, .int .i64 x.ed.n, .int .i64 x.ed.pax, .int .i64 x.ed.row, .int .u8 x.ed.let_, .string x.p.loc, .string x.p.off, .slice x.h.an x.h.nn x.h.cn, .slice x.h.ag x.h.ng x.h.cg, .slice x.h.ap x.h.np x.h.cp, .int .i64 x.p.tik.kind, .int .i64 x.p.tik.day, .int .i64 x.p.tik.min, .string x.p.rc, .slice x.h.ar x.h.nr x.h.cr, .slice x.h.ae x.h.ne x.h.ce, .bool x.p.queued, .int .u64 x.ver, .slice x.al x.nl x.cl]] w (fun e w' => ∃ l9 D, PlayQ w l9 D S e w' ∧ (((x.kind = 6 ∨ x.kind < 0 ∨ 8 < x.kind) ∧ l9 = lo ∧ ∀ c9, D c9 → c9 = c) ∨ ((x.kind ≠ 6 ∧ 0 ≤ x.kind ∧ x.kind ≤ 8) ∧ l9 = w.heap.size ∧ ∀ c9, D c9 → w.heap.size ≤ c9))) := by
  have key : ∀ (k : Int), x.kind = k → (#[.int .i64 x.kind, .int .i64 x.n, .string x.text, .string x.off, .int .i64 x.ed.kind, .string x.ed.nam.last, .string x.ed.nam.first, .string x.ed.seg.car, .int .i64 x.ed.seg.num, .int .i64 x.ed.seg.day, .int .u8 x.ed.seg.cls, .bool x.ed.seg.live, .int .i64 x.ed.tik.kind, .int .i64 x.ed.tik.day, .int .i64 x.ed.tik.min, .string x.ed.text, .int .i64 x.ed.n, .int .i64 x.ed.pax, .int .i64 x.ed.row, .int .u8 x.ed.let_, .string x.p.loc, .string x.p.off, .slice x.h.an x.h.nn x.h.cn, .slice x.h.ag x.h.ng x.h.cg, .slice x.h.ap x.h.np x.h.cp, .int .i64 x.p.tik.kind, .int .i64 x.p.tik.day, .int .i64 x.p.tik.min, .string x.p.rc, .slice x.h.ar x.h.nr x.h.cr, .slice x.h.ae x.h.ne x.h.ce, .bool x.p.queued, .int .u64 x.ver, .slice x.al x.nl x.cl] : Array Value) = #[.int .i64 k, .int .i64 x.n, .string x.text, .string x.off, .int .i64 x.ed.kind, .string x.ed.nam.last, .string x.ed.nam.first, .string x.ed.seg.car, .int .i64 x.ed.seg.num, .int .i64 x.ed.seg.day, .int .u8 x.ed.seg.cls, .bool x.ed.seg.live, .int .i64 x.ed.tik.kind, .int .i64 x.ed.tik.day, .int .i64 x.ed.tik.min, .string x.ed.text, .int .i64 x.ed.n, .int .i64 x.ed.pax, .int .i64 x.ed.row, .int .u8 x.ed.let_, .string x.p.loc, .string x.p.off, .slice x.h.an x.h.nn x.h.cn, .slice x.h.ag x.h.ng x.h.cg, .slice x.h.ap x.h.np x.h.cp, .int .i64 x.p.tik.kind, .int .i64 x.p.tik.day, .int .i64 x.p.tik.min, .string x.p.rc, .slice x.h.ar x.h.nr x.h.cr, .slice x.h.ae x.h.ne x.h.ce, .bool x.p.queued, .int .u64 x.ver, .slice x.al x.nl x.cl] := fun k hk => by rw [hk]
  by_cases h0 : x.kind = 0
  · rw [key _ h0]; exact (play_0 a h hm x w S ha hm0 hS hs ho).mono fun e w' q => ⟨_, _, q, .inr ⟨by omega, rfl, fun c9 h => h⟩⟩
  by_cases h1 : x.kind = 1
  · rw [key _ h1]; exact (play_1 a h hm x w S ha hm0 hS hs ho).mono fun e w' q => ⟨_, _, q, .inr ⟨by omega, rfl, fun c9 h => h⟩⟩
  by_cases h2 : x.kind = 2
  · rw [key _ h2]; exact (play_2 a h hm x w S ha hm0 hS hs ho).mono fun e w' q => ⟨_, _, q, .inr ⟨by omega, rfl, fun c9 h => h⟩⟩
  by_cases h3 : x.kind = 3
  · rw [key _ h3]; exact (play_3 a h hm x w S ha hm0 hS hs ho hps hxs).mono fun e w' q => ⟨_, _, q, .inr ⟨by omega, rfl, fun c9 h => h⟩⟩
  by_cases h4 : x.kind = 4
  · rw [key _ h4]; exact (play_4 a h hm x w S ha hm0 hS hs ho).mono fun e w' q => ⟨_, _, q, .inr ⟨by omega, rfl, fun c9 h => h⟩⟩
  by_cases h5 : x.kind = 5
  · rw [key _ h5]; exact (play_5 a h hm x w S ha hm0 hS hs ho hls hxs).mono fun e w' q => ⟨_, _, q, .inr ⟨by omega, rfl, fun c9 h => h⟩⟩
  by_cases h6 : x.kind = 6
  · rw [key _ h6]; exact (play_6 a h hm x w S lo c ha hm0 hS hs ho hbw hc).mono fun e w' q => ⟨_, _, q, .inl ⟨by omega, rfl, fun c9 h => h⟩⟩
  by_cases h7 : x.kind = 7
  · rw [key _ h7]; exact (play_7 a h hm x w S ha hm0 hS hs ho).mono fun e w' q => ⟨_, _, q, .inr ⟨by omega, rfl, fun c9 h => h⟩⟩
  by_cases h8 : x.kind = 8
  · rw [key _ h8]; exact (play_8 a h hm x w S ha hm0 hS hs ho).mono fun e w' q => ⟨_, _, q, .inr ⟨by omega, rfl, fun c9 h => h⟩⟩
  exact (play_d a h hm x w S lo c ha hm0 hS hs ho hbw hc (by omega)).mono fun e w' q => ⟨_, _, q, .inl ⟨by omega, rfl, fun c9 h => h⟩⟩
/-- Ahead of region 11: the document's area, the program's. -/
structure R1 (w : World) (a : Ar) (h ha : AH) (lo c : Nat) (W : World) : Prop where
  B : Below w.heap.size w W
  bm : Bx W w.heap.size (aC a h) 34
  ba : Bx W c (aC a ha) 53
  A : AS W (fun b => lo ≤ b ∧ b < c) a ha
  bw : BW W lo c ha
  ml : AS W (fun b => b ≠ w.heap.size ∧ b < lo) a h
  hl : w.heap.size < lo
  hc : lo ≤ c
section
variable {w W W1 : World} {a : Ar} {h ha : AH} {lo c : Nat}
theorem R1.step (H : R1 w a h ha lo c W) (hb : Below W.heap.size W W1) : R1 w a h ha lo c W1 :=
  ⟨H.B.trans (hb.mono H.B.size), H.bm.below hb H.bm.lt, H.ba.below hb H.ba.lt, H.A.below hb (fun b hb => by have := H.ba.lt; omega), H.bw.step hb (by have := H.ba.lt; omega), H.ml.below hb (fun b hb => by have := H.ba.lt; have := H.hc; omega), H.hl, H.hc⟩
theorem R1.row (H : R1 w a h ha lo c W) {g : Nat} (hg : c < g) (cs : Array Value) : R1 w a h ha lo c (W.setRow g cs) := by
  have hl := H.hl
  have hc := H.hc
  exact ⟨below_setRow H.B (by omega) _, H.bm.rowOther (by omega) _, H.ba.rowOther (by omega) _, H.A.keep fun p hp => cell_setRow_other _ _ _ _ (by omega), H.bw.kr fun k _ h2 => setRow_other W g k cs (by omega), H.ml.keep fun p hp => cell_setRow_other _ _ _ _ (by omega), H.hl, H.hc⟩
theorem R1.lt (H : R1 w a h ha lo c W) : c < W.heap.size := H.ba.lt
end
/-- What play handed back: the rows [l9, c9) may be written; nothing else that is known lies there. -/
structure R3 (w : World) (lo c : Nat) (kd : Int) (g7 g8 : Nat) (q : Ar) (hb hn : AH) (l9 c9 : Nat) (W : World) : Prop where
  b7 : Bx W g7 (aC q hb) 53
  b8 : Bx W g8 (aC q hn) 34
  bw : BW W l9 c9 hb
  an : AS W (fun b => b ≠ w.heap.size ∧ b < W.heap.size ∧ (b < l9 ∨ c9 ≤ b)) q hn
  sm : q.small 2000
  hd : hb.nd ≤ 100000 ∧ hb.nl ≤ 100000 ∧ Small hb.b
  hc : c9 ≤ W.heap.size
  l1 : lo ≤ l9
  l2 : l9 ≤ W.heap.size
  p7 : g7 < l9 ∨ c9 ≤ g7
  p8 : g8 < l9 ∨ c9 ≤ g8
  p6 : c < l9 ∨ c9 ≤ c
  dok : kd ≠ 6 → 0 ≤ kd → kd ≤ 8 → c < l9
theorem R3.step {w W W1 : World} {lo c : Nat} {kd : Int} {g7 g8 : Nat} {q : Ar} {hb hn : AH} {l9 c9 : Nat} (H : R3 w lo c kd g7 g8 q hb hn l9 c9 W) (h : Below W.heap.size W W1) : R3 w lo c kd g7 g8 q hb hn l9 c9 W1 :=
  ⟨H.b7.below h H.b7.lt, H.b8.below h H.b8.lt, H.bw.step h H.hc, (H.an.below h fun b hb => hb.2.1).mono fun b hb => ⟨hb.1, Nat.lt_of_lt_of_le hb.2.1 h.size, hb.2.2⟩, H.sm, H.hd, Nat.le_trans H.hc h.size, H.l1, Nat.le_trans H.l2 h.size, H.p7, H.p8, H.p6, H.dok⟩

abbrev S12 (w : World) (a : Ar) (h ha : AH) (c6 : Nat) (W : World) : Prop := (loadA (.pointer (some ⟨c6, 0, none⟩))).run Tryz.prog W = .ok (.agg (aC a ha)) W ∧ (loadD (.pointer (some ⟨w.heap.size, 0, none⟩))).run Tryz.prog W = .ok (.agg (aC a h)) W
abbrev S11 (w : World) (a : Ar) (h ha : AH) (c6 b i : Nat) (x : ActM) (W : World) : Prop := (loadA (.pointer (some ⟨c6, 0, none⟩))).run Tryz.prog W = .ok (.agg (aC a ha)) W ∧ (loadD (.pointer (some ⟨w.heap.size, 0, none⟩))).run Tryz.prog W = .ok (.agg (aC a h)) W ∧ (loadX (.pointer (some ⟨b, i, none⟩))).run Tryz.prog W = .ok (.agg (xC x.kind x)) W
set_option maxRecDepth 100000 in
set_option maxHeartbeats 8000000 in
theorem areaPlays_any (a0 : Ar) (h0 : AH) (A : Option Addr) (n c : Nat) (l : List ActM) (w : World) (hA : AS w (fun b => b < w.heap.size) a0 h0) (hl : Sl w 0 w.heap.size tActM A n l) (hx : ∀ x ∈ l, ActAt w (fun b => b < w.heap.size) x) :
    Calls Tryz.prog 3 #[.agg #[.string a0.agent, .string a0.off, .bool a0.open_, .string a0.base.loc, .string a0.base.off, .slice h0.b.an h0.b.nn h0.b.cn, .slice h0.b.ag h0.b.ng h0.b.cg, .slice h0.b.ap h0.b.np h0.b.cp, .int .i64 a0.base.tik.kind, .int .i64 a0.base.tik.day, .int .i64 a0.base.tik.min, .string a0.base.rc, .slice h0.b.ar h0.b.nr h0.b.cr, .slice h0.b.ae h0.b.ne h0.b.ce, .bool a0.base.queued, .int .u64 a0.ver, .slice h0.ad h0.nd h0.cd, .slice h0.al h0.nl h0.cl, .bool a0.working, .int .i64 a0.queue], .slice A n c] w (RetB w true) := by
  have HL := Lib.hid hl
  have HX := Lib.hid hx
  have hM := MX.start hA
  clear hl hx hA
  go_enter Tryz.func3, Tryz.ntmps3
  go_wp2_with fail
  refine (awake19_any _).mono ?_
  rintro e w1 ⟨rfl, hb1⟩
  have hM1 := hM.step hb1
  have lm := ldaD_of hM1.b rfl
  clear hM hb1
  go_wp2_with fail
  refine (small19_any a0 h0 _).mono ?_
  rintro e w2 ⟨rfl, hb2⟩
  have hM2 := hM1.step hb2
  clear hM1 lm hb2
  generalize hq : small19B h0 = bq
  have HQ := Lib.hid hq
  clear hq
  rcases bq with _ | _
  · go_wp2
    all_goals first | (exfalso; omega) | (go_ret; exact ⟨rfl, hM2.B⟩)
  by_cases h60 : n ≤ 60
  case neg =>
    have j1 : (60 : Int) < n := by omega
    go_wp2
    all_goals first | (exfalso; omega) | (go_ret; exact ⟨rfl, hM2.B⟩)
  have j1 : ¬ (60 : Int) < n := by omega
  go_wp2
  go_loopw [5] (fun i wr => ∃ (k : Nat) (a : Ar) (h : AH), k ≤ n ∧ i = .int .i64 k ∧ small19B h = true ∧ MX w a h wr) (fun i _ => n - (intOf i).toNat)
  case atStart => exact ⟨0, a0, h0, Nat.zero_le _, rfl, HQ.out, hM2⟩
  case round =>
    clear hM2 HQ
    obtain ⟨k, a, h, hk, rfl, hsm, hM⟩ := hrel
    by_cases hlt : k < n
    case neg =>
      obtain rfl : k = n := by omega
      go_wp2
      go_ret
      exact ⟨rfl, hM.B⟩
    obtain ⟨b, o, x, rfl, hbw0, hxk, hok, hXA⟩ := HL.out.actm_ hlt
    have XA : ∀ W : World, Below w.heap.size w W → XAt W b (o + k * 34) x := fun W hB => hXA W (fun j => hB.cell hbw0)
    have HXA := Lib.hid (HX.out x (List.mem_of_getElem? hxk))
    have HOK := Lib.hid hok
    have hs200 := small19_ar hsm hM.A (fun b hb => hb.2)
    have HS1 := Lib.hid (hs200.mono (M := 1000) (by omega))
    have HS2 := Lib.hid (hs200.mono (M := 2000) (by omega))
    clear hXA hxk hok hsm hs200
    have xlp := (XA _ hM.B).lp
    have hk0 : (0 : Int) ≤ k := by omega
    have hkl : (k : Int) < n := by omega
    go_wp2_with fail
    refine (small_any x.p x.h _).mono ?_
    rintro e w3 ⟨rfl, hb3⟩
    have hM3 := hM.step hb3
    clear hM hb3 xlp
    generalize hq8 : smallB x.h = b8
    have HQ8 := Lib.hid hq8
    clear hq8
    rcases b8 with _ | _
    · go_wp2
      all_goals first | (exfalso; omega) | (go_ret; exact ⟨rfl, hM3.B⟩)
    have x33 := (XA _ hM3.B).c33
    by_cases h200 : x.nl ≤ 200
    case neg =>
      have j2 : (200 : Int) < x.nl := by omega
      go_wp2
      all_goals first | (exfalso; omega) | (go_ret; exact ⟨rfl, hM3.B⟩)
    have j2 : ¬ (200 : Int) < x.nl := by omega
    have HPS := Lib.hid ((smallB_pnr HQ8.out (HXA.out.p.at (lo := 0) (hi := w.heap.size) fun b hb => ⟨Nat.zero_le _, hb⟩)).mono (M := 1000) (by omega))
    have HLS : Hid (x.legs.length ≤ 1000) := Lib.hid (by have := HXA.out.l.len; omega)
    have lm3 := ldaD_of hM3.b rfl
    go_wp2_with fail
    refine (of_any a h w3 _ hM3.A (fun b hb => hb.2) HS1.out).mono ?_
    rintro e w4 ⟨ha, rfl, oa, hb4⟩
    clear x33 lm3
    have hst := sta_new w4 (cs := (aC a ha)) (zs := aZ) rfl rfl (aC_one _ _)
    have hb5 : Below w4.heap.size w4 (w4.alloc (.cells (aC a ha) 53)) := (Below.refl _ _).alloc (Nat.le_refl _) _
    have hM5 := (hM3.step hb4).step hb5
    have z34 := hb4.size
    have z3w := hM3.lt
    have hR : R1 w a h ha w3.heap.size w4.heap.size (w4.alloc (.cells (aC a ha) 53)) := ⟨hM5.B, hM5.b, Bx.new _ _ _, oa.as.below hb5 (fun b hb => hb.2), oa.bw.step hb5 (Nat.le_refl _), (hM3.A.below hb4 (fun b hb => hb.2)).below hb5 (fun b hb => by omega), z3w, z34⟩
    go_upto_region 11 with fail
    refine wp_world (fun W => R1 w a h ha w3.heap.size w4.heap.size W) hR ?_
    clear hst hb5 hM5 hR hM3 oa hb4
    generalize w3.heap.size = lo at z34 z3w ⊢
    generalize w4.heap.size = c6 at z34 ⊢
    intro V R
    have R_0 := R.step (below_drewN (Below.refl _ _) 1)
    replace R_0 : R1 w a h ha lo c6 V.drew := R_0
    have hz0 : V.drew.heap.size = V.heap.size := rfl
    clear R
    go_cut [7, 8, 9, 10] (fun s7 s8 s9 s10 w' => ∃ (g7 g8 : Nat) (q : Ar) (hb hn : AH) (l9 c9 : Nat) (done : Bool), s7 = .pointer (some ⟨g7, 0, none⟩) ∧ s8 = .pointer (some ⟨g8, 0, none⟩) ∧ s9 = .bool done ∧ s10 = .bool true ∧ R1 w a h ha lo c6 w' ∧ R3 w lo c6 x.kind g7 g8 q hb hn l9 c9 w')
    case first =>
      refine wp_region_held_drew (S := fun w' => S11 w a h ha c6 (b) (o + k * 34) x w') (by kernel_rfl) ⟨lda_of R_0.ba rfl, ldaD_of R_0.bm rfl, (XA _ R_0.B).lx⟩ (fun hS => ?_)
      refine tk (i := 0) (oi := { dst := some 48, op := .load 53 (.tmp 6), type := 53, pos := "law.go:116", after := #[], guard := none }) (v := ?_) ?_ hS ?_
      rotate_left
      · intro w9 hS9; have q1 := hS9.1; have q2 := hS9.2.1; have q3 := hS9.2.2; go_simp; try with_reducible rfl
      try simp only [Act.put, List.setIfInBounds_toArray, List.set_cons_zero, List.set_cons_succ]
      refine tk (i := 1) (oi := { dst := some 49, op := .load 34 (.tmp 2), type := 34, pos := "law.go:116", after := #[], guard := none }) (v := ?_) ?_ hS ?_
      rotate_left
      · intro w9 hS9; have q1 := hS9.1; have q2 := hS9.2.1; have q3 := hS9.2.2; go_simp; try with_reducible rfl
      try simp only [Act.put, List.setIfInBounds_toArray, List.set_cons_zero, List.set_cons_succ]
      refine tk (i := 2) (oi := { dst := some 50, op := .move (.tmp 1), type := 35, pos := "law.go:116", after := #[], guard := none }) (v := ?_) ?_ hS ?_
      rotate_left
      · intro w9 hS9; have q1 := hS9.1; have q2 := hS9.2.1; have q3 := hS9.2.2; go_simp; try with_reducible rfl
      try simp only [Act.put, List.setIfInBounds_toArray, List.set_cons_zero, List.set_cons_succ]
      refine tk (i := 3) (oi := { dst := some 51, op := .move (.tmp 5), type := 3, pos := "law.go:116", after := #[], guard := none }) (v := ?_) ?_ hS ?_
      rotate_left
      · intro w9 hS9; have q1 := hS9.1; have q2 := hS9.2.1; have q3 := hS9.2.2; go_simp; try with_reducible rfl
      try simp only [Act.put, List.setIfInBounds_toArray, List.set_cons_zero, List.set_cons_succ]
      refine tk (i := 4) (oi := { dst := some 52, op := .indexAddr 35 (.tmp 50) (.tmp 51), type := 0, pos := "law.go:116", after := #[⟨2, .data⟩, ⟨3, .data⟩], guard := none }) (v := ?_) ?_ hS ?_
      rotate_left
      · intro w9 hS9; have q1 := hS9.1; have q2 := hS9.2.1; have q3 := hS9.2.2; go_simp; try with_reducible rfl
      try simp only [Act.put, List.setIfInBounds_toArray, List.set_cons_zero, List.set_cons_succ]
      refine tk (i := 5) (oi := { dst := some 53, op := .load 52 (.tmp 52), type := 52, pos := "law.go:116", after := #[⟨4, .data⟩], guard := none }) (v := ?_) ?_ hS ?_
      rotate_left
      · intro w9 hS9; have q1 := hS9.1; have q2 := hS9.2.1; have q3 := hS9.2.2; go_simp; try with_reducible rfl
      try simp only [Act.put, List.setIfInBounds_toArray, List.set_cons_zero, List.set_cons_succ]
      refine wpAnyH_ready (rs := [6, 12, 13]) (by kernel_rfl) (by simp) ?_
      refine AllReadyH.cons (o := { dst := some 54, op := .call { callee := .value (.func 8), args := #[.tmp 48, .tmp 49, .tmp 53], argTypes := #[53, 34, 52] }, type := 55, pos := "law.go:116", after := #[⟨0, .data⟩, ⟨1, .data⟩, ⟨5, .data⟩], guard := none }) rfl (fun K9 hK9 => ?_) ?_
      · go_simp
        refine (play_any a ha h x V.drew (fun b => b ≠ w.heap.size ∧ b < lo) lo c6 (R_0.A.mono fun b hb => by have := R_0.lt; omega) R_0.ml (fun b hb => by have := R_0.lt; have := R_0.hc; omega) HS1.out HOK.out HPS.out HLS.out ((HXA.out.below R_0.B fun b hb => hb).mono fun b hb => by have := R_0.hl; omega) R_0.bw (by have := R_0.lt; omega)).mono ?_
        rintro e vP ⟨l9, D9, ⟨q, hb, hn, c9, done, hD9, rfl, hq, bw_1, g1, g2, g3, hc9, an_1, hbP⟩, hcond⟩
        have hlc : ((x.kind = 6 ∨ x.kind < 0 ∨ 8 < x.kind) ∧ l9 = lo ∧ c9 = c6) ∨ ((x.kind ≠ 6 ∧ 0 ≤ x.kind ∧ x.kind ≤ 8) ∧ l9 = V.drew.heap.size ∧ V.drew.heap.size ≤ c9) := by rcases hcond with ⟨y1, y2, y3⟩ | ⟨y1, y2, y3⟩; exact .inl ⟨y1, y2, y3 _ hD9⟩; exact .inr ⟨y1, y2, y3 _ hD9⟩
        have HLC := Lib.hid hlc
        clear hcond hD9 hlc
        have hz1 := hbP.size
        have R_1 := R_0.step hbP
        have hS_1 : S11 w a h ha c6 (b) (o + k * 34) x vP := ⟨lda_of R_1.ba rfl, ldaD_of R_1.bm rfl, (XA _ R_1.B).lx⟩
        refine hK9.out _ _ hS_1 (fun hS => ?_)
        clear hK9 K9
        try simp only [Act.put, List.setIfInBounds_toArray, List.set_cons_zero, List.set_cons_succ]
        refine tk (i := 7) (oi := { dst := some 47, op := .move (.tmp 54), type := 55, pos := "law.go:116", after := #[⟨6, .data⟩], guard := none }) (v := ?_) ?_ hS ?_
        rotate_left
        · intro w9 hS9; have q1 := hS9.1; have q2 := hS9.2.1; have q3 := hS9.2.2; go_simp; try with_reducible rfl
        try simp only [Act.put, List.setIfInBounds_toArray, List.set_cons_zero, List.set_cons_succ]
        refine tk (i := 8) (oi := { dst := some 55, op := .extract (.tmp 47) 0, type := 53, pos := "law.go:116", after := #[⟨7, .data⟩], guard := none }) (v := ?_) ?_ hS ?_
        rotate_left
        · intro w9 hS9; have q1 := hS9.1; have q2 := hS9.2.1; have q3 := hS9.2.2; go_simp; try with_reducible rfl
        try simp only [Act.put, List.setIfInBounds_toArray, List.set_cons_zero, List.set_cons_succ]
        refine tk (i := 9) (oi := { dst := some 56, op := .extract (.tmp 47) 1, type := 34, pos := "law.go:116", after := #[⟨7, .data⟩, ⟨14, .gcOnly .lateStores⟩], guard := none }) (v := ?_) ?_ hS ?_
        rotate_left
        · intro w9 hS9; have q1 := hS9.1; have q2 := hS9.2.1; have q3 := hS9.2.2; go_simp; try with_reducible rfl
        try simp only [Act.put, List.setIfInBounds_toArray, List.set_cons_zero, List.set_cons_succ]
        refine tk (i := 10) (oi := { dst := some 57, op := .extract (.tmp 47) 2, type := 4, pos := "law.go:116", after := #[⟨7, .data⟩, ⟨15, .gcOnly .lateStores⟩], guard := none }) (v := ?_) ?_ hS ?_
        rotate_left
        · intro w9 hS9; have q1 := hS9.1; have q2 := hS9.2.1; have q3 := hS9.2.2; go_simp; try with_reducible rfl
        try simp only [Act.put, List.setIfInBounds_toArray, List.set_cons_zero, List.set_cons_succ]
        refine tk (i := 11) (oi := { dst := some 58, op := .extract (.tmp 47) 3, type := 4, pos := "law.go:116", after := #[⟨7, .data⟩, ⟨16, .gcOnly .lateStores⟩], guard := none }) (v := ?_) ?_ hS ?_
        rotate_left
        · intro w9 hS9; have q1 := hS9.1; have q2 := hS9.2.1; have q3 := hS9.2.2; go_simp; try with_reducible rfl
        try simp only [Act.put, List.setIfInBounds_toArray, List.set_cons_zero, List.set_cons_succ]
        refine wpAnyH_ready (rs := [12, 13]) (by kernel_rfl) (by simp) ?_
        refine AllReadyH.cons (o := { dst := some 7, op := .alloc 53, type := 0, pos := "law.go:116", after := #[], guard := none }) rfl (fun K9 hK9 => ?_) ?_
        · go_simp
          have hz2 : (vP.alloc (.cells aZ 53)).heap.size = vP.heap.size + 1 := World.size_alloc _ _
          have R_2 := R_1.step ((Below.refl _ _).alloc (Nat.le_refl _) (.cells aZ 53))
          have b7_2 : Bx (vP.alloc (.cells aZ 53)) (vP.heap.size) aZ 53 := Bx.new_ rfl
          have bw_2 := bw_1.step ((Below.refl _ _).alloc (Nat.le_refl _) (.cells aZ 53)) (by omega)
          have an_2 := an_1.below ((Below.refl _ _).alloc (Nat.le_refl vP.heap.size) (.cells aZ 53)) (fun b hb => by have := R_1.lt; have := R_1.hc; rcases hb with hb | hb <;> omega)
          have hS_2 : S11 w a h ha c6 (b) (o + k * 34) x (vP.alloc (.cells aZ 53)) := ⟨lda_of R_2.ba rfl, ldaD_of R_2.bm rfl, (XA _ R_2.B).lx⟩
          refine hK9.out _ _ hS_2 (fun hS => ?_)
          clear hK9 K9
          try simp only [Act.put, List.setIfInBounds_toArray, List.set_cons_zero, List.set_cons_succ]
          refine wpAnyH_ready (rs := [13]) (by kernel_rfl) (by simp) ?_
          refine AllReadyH.cons (o := { dst := some 8, op := .alloc 34, type := 0, pos := "law.go:116", after := #[], guard := none }) rfl (fun K9 hK9 => ?_) AllReadyH.nil
          go_simp
          have hz3 : ((vP.alloc (.cells aZ 53)).alloc (.cells aZ 34)).heap.size = (vP.alloc (.cells aZ 53)).heap.size + 1 := World.size_alloc _ _
          have R_3 := R_2.step ((Below.refl _ _).alloc (Nat.le_refl _) (.cells aZ 34))
          have b8_3 : Bx ((vP.alloc (.cells aZ 53)).alloc (.cells aZ 34)) (vP.heap.size + 1) aZ 34 := Bx.new_ hz2
          have b7_3 := b7_2.alloc (.cells aZ 34)
          have bw_3 := bw_2.step ((Below.refl _ _).alloc (Nat.le_refl _) (.cells aZ 34)) (by omega)
          have an_3 := an_2.below ((Below.refl _ _).alloc (Nat.le_refl (vP.alloc (.cells aZ 53)).heap.size) (.cells aZ 34)) (fun b hb => by have := R_2.lt; have := R_2.hc; rcases hb with hb | hb <;> omega)
          have hS_3 : S11 w a h ha c6 (b) (o + k * 34) x ((vP.alloc (.cells aZ 53)).alloc (.cells aZ 34)) := ⟨lda_of R_3.ba rfl, ldaD_of R_3.bm rfl, (XA _ R_3.B).lx⟩
          refine hK9.out _ _ hS_3 (fun hS => ?_)
          clear hK9 K9
          try simp only [Act.put, List.setIfInBounds_toArray, List.set_cons_zero, List.set_cons_succ]
          refine wpAnyH_ready (rs := [14]) (by kernel_rfl) (by simp) ?_
          refine AllReadyH.cons (o := { dst := none, op := .store 53 (.tmp 7) (.tmp 55), type := 0, pos := "law.go:116", after := #[⟨12, .data⟩, ⟨8, .data⟩, ⟨6, .chain⟩, ⟨0, .phase⟩, ⟨1, .phase⟩, ⟨2, .phase⟩, ⟨3, .phase⟩, ⟨4, .phase⟩, ⟨5, .phase⟩, ⟨6, .phase⟩, ⟨7, .phase⟩, ⟨8, .phase⟩, ⟨9, .textOnly .lateStores⟩, ⟨10, .textOnly .lateStores⟩, ⟨11, .textOnly .lateStores⟩, ⟨12, .phase⟩, ⟨13, .phase⟩], guard := none }) rfl (fun K9 hK9 => ?_) AllReadyH.nil
          have hst7 := sta_of b7_3 (cs := (aC q hb)) rfl rfl (aC_one _ _)
          have hr6 : c6 < vP.heap.size := by have := R_0.lt; omega
          have R_4 := R_3.row (g := vP.heap.size) hr6 (aC q hb)
          have hz4 : (((vP.alloc (.cells aZ 53)).alloc (.cells aZ 34)).setRow (vP.heap.size) (aC q hb)).heap.size = ((vP.alloc (.cells aZ 53)).alloc (.cells aZ 34)).heap.size := by simp
          have b7_4 := b7_3.row (aC q hb)
          have b8_4 := b8_3.rowOther (g := vP.heap.size) (by omega) (aC q hb)
          have hzl : lo ≤ c6 := R_0.hc
          have hzs := R_0.lt
          have bw_4 := bw_3.kr (W1 := (((vP.alloc (.cells aZ 53)).alloc (.cells aZ 34)).setRow (vP.heap.size) (aC q hb))) (fun k h1 h2 => setRow_other ((vP.alloc (.cells aZ 53)).alloc (.cells aZ 34)) (vP.heap.size) k _ (by rcases HLC.out with ⟨_, y2, y3⟩ | ⟨_, y2, y3⟩ <;> omega))
          have an_4 := an_3.keep (w' := (((vP.alloc (.cells aZ 53)).alloc (.cells aZ 34)).setRow (vP.heap.size) (aC q hb))) (fun p hp => cell_setRow_other _ _ _ _ (by rcases hp with hp | hp <;> omega))
          go_simp
          have hS_4 : S11 w a h ha c6 (b) (o + k * 34) x (((vP.alloc (.cells aZ 53)).alloc (.cells aZ 34)).setRow (vP.heap.size) (aC q hb)) := ⟨lda_of R_4.ba rfl, ldaD_of R_4.bm rfl, (XA _ R_4.B).lx⟩
          refine hK9.out _ _ hS_4 (fun hS => ?_)
          clear hK9 K9
          try simp only [Act.put, List.setIfInBounds_toArray, List.set_cons_zero, List.set_cons_succ]
          refine wpAnyH_ready (rs := [15]) (by kernel_rfl) (by simp) ?_
          refine AllReadyH.cons (o := { dst := none, op := .store 34 (.tmp 8) (.tmp 56), type := 0, pos := "law.go:116", after := #[⟨13, .data⟩, ⟨9, .data⟩, ⟨14, .chain⟩, ⟨0, .phase⟩, ⟨1, .phase⟩, ⟨2, .phase⟩, ⟨3, .phase⟩, ⟨4, .phase⟩, ⟨5, .phase⟩, ⟨6, .phase⟩, ⟨7, .phase⟩, ⟨8, .phase⟩, ⟨9, .phase⟩, ⟨10, .textOnly .lateStores⟩, ⟨11, .textOnly .lateStores⟩, ⟨12, .phase⟩, ⟨13, .phase⟩, ⟨14, .phase⟩], guard := none }) rfl (fun K9 hK9 => ?_) AllReadyH.nil
          have hst8 := std_of b8_4 (cs := (aC q hn)) rfl rfl (aC_one _ _)
          have hr6 : c6 < vP.heap.size + 1 := by have := R_0.lt; omega
          have R_5 := R_4.row (g := vP.heap.size + 1) hr6 (aC q hn)
          have hz5 : ((((vP.alloc (.cells aZ 53)).alloc (.cells aZ 34)).setRow (vP.heap.size) (aC q hb)).setRow (vP.heap.size + 1) (aC q hn)).heap.size = (((vP.alloc (.cells aZ 53)).alloc (.cells aZ 34)).setRow (vP.heap.size) (aC q hb)).heap.size := by simp
          have b8_5 := b8_4.row (aC q hn)
          have b7_5 := b7_4.rowOther (g := vP.heap.size + 1) (by omega) (aC q hn)
          have hzl : lo ≤ c6 := R_0.hc
          have hzs := R_0.lt
          have bw_5 := bw_4.kr (W1 := ((((vP.alloc (.cells aZ 53)).alloc (.cells aZ 34)).setRow (vP.heap.size) (aC q hb)).setRow (vP.heap.size + 1) (aC q hn))) (fun k h1 h2 => setRow_other (((vP.alloc (.cells aZ 53)).alloc (.cells aZ 34)).setRow (vP.heap.size) (aC q hb)) (vP.heap.size + 1) k _ (by rcases HLC.out with ⟨_, y2, y3⟩ | ⟨_, y2, y3⟩ <;> omega))
          have an_5 := an_4.keep (w' := ((((vP.alloc (.cells aZ 53)).alloc (.cells aZ 34)).setRow (vP.heap.size) (aC q hb)).setRow (vP.heap.size + 1) (aC q hn))) (fun p hp => cell_setRow_other _ _ _ _ (by rcases hp with hp | hp <;> omega))
          go_simp
          have hS_5 : S11 w a h ha c6 (b) (o + k * 34) x ((((vP.alloc (.cells aZ 53)).alloc (.cells aZ 34)).setRow (vP.heap.size) (aC q hb)).setRow (vP.heap.size + 1) (aC q hn)) := ⟨lda_of R_5.ba rfl, ldaD_of R_5.bm rfl, (XA _ R_5.B).lx⟩
          refine hK9.out _ _ hS_5 (fun hS => ?_)
          clear hK9 K9
          try simp only [Act.put, List.setIfInBounds_toArray, List.set_cons_zero, List.set_cons_succ]
          refine tk (i := 16) (oi := { dst := some 9, op := .assign (.tmp 57), type := 4, pos := "law.go:116", after := #[⟨10, .data⟩, ⟨15, .chain⟩, ⟨0, .phase⟩, ⟨1, .phase⟩, ⟨2, .phase⟩, ⟨3, .phase⟩, ⟨4, .phase⟩, ⟨5, .phase⟩, ⟨6, .phase⟩, ⟨7, .phase⟩, ⟨8, .phase⟩, ⟨9, .phase⟩, ⟨10, .phase⟩, ⟨11, .textOnly .lateStores⟩, ⟨12, .phase⟩, ⟨13, .phase⟩, ⟨14, .phase⟩, ⟨15, .phase⟩], guard := none }) (v := ?_) ?_ hS ?_
          rotate_left
          · intro w9 hS9; have q1 := hS9.1; have q2 := hS9.2.1; have q3 := hS9.2.2; go_simp; try with_reducible rfl
          try simp only [Act.put, List.setIfInBounds_toArray, List.set_cons_zero, List.set_cons_succ]
          refine tk (i := 17) (oi := { dst := some 10, op := .assign (.tmp 58), type := 4, pos := "law.go:116", after := #[⟨11, .data⟩, ⟨16, .chain⟩, ⟨0, .phase⟩, ⟨1, .phase⟩, ⟨2, .phase⟩, ⟨3, .phase⟩, ⟨4, .phase⟩, ⟨5, .phase⟩, ⟨6, .phase⟩, ⟨7, .phase⟩, ⟨8, .phase⟩, ⟨9, .phase⟩, ⟨10, .phase⟩, ⟨11, .phase⟩, ⟨12, .phase⟩, ⟨13, .phase⟩, ⟨14, .phase⟩, ⟨15, .phase⟩, ⟨16, .phase⟩], guard := none }) (v := ?_) ?_ hS ?_
          rotate_left
          · intro w9 hS9; have q1 := hS9.1; have q2 := hS9.2.1; have q3 := hS9.2.2; go_simp; try with_reducible rfl
          try simp only [Act.put, List.setIfInBounds_toArray, List.set_cons_zero, List.set_cons_succ]
          refine wpAnyH_done (by kernel_rfl) ?_ _
          go_wp2
          go_meet
          have hzl : lo ≤ c6 := R_0.hc
          have hzs := R_0.lt
          have hzm := R_0.hl
          refine ⟨vP.heap.size, vP.heap.size + 1, q, hb, hn, l9, c9, done, rfl, rfl, rfl, rfl, R_5, ⟨b7_5, b8_5, bw_5, an_5.mono (fun b hb => ?_), hq, ⟨g1, g2, g3⟩, by omega, ?_, ?_, ?_, ?_, ?_, ?_⟩⟩
          · rcases HLC.out with ⟨_, y2, y3⟩ | ⟨_, y2, y3⟩ <;> rcases hb with hb | hb <;> (refine ⟨by omega, by omega, by omega⟩)
          all_goals (first | (rcases HLC.out with ⟨y1, y2, y3⟩ | ⟨y1, y2, y3⟩ <;> omega) | (intro m1 m2 m3; rcases HLC.out with ⟨y1, y2, y3⟩ | ⟨y1, y2, y3⟩ <;> omega))
        refine AllReadyH.cons (o := { dst := some 8, op := .alloc 34, type := 0, pos := "law.go:116", after := #[], guard := none }) rfl (fun K9 hK9 => ?_) AllReadyH.nil
        go_simp
        have hz2 : (vP.alloc (.cells aZ 34)).heap.size = vP.heap.size + 1 := World.size_alloc _ _
        have R_2 := R_1.step ((Below.refl _ _).alloc (Nat.le_refl _) (.cells aZ 34))
        have b8_2 : Bx (vP.alloc (.cells aZ 34)) (vP.heap.size) aZ 34 := Bx.new_ rfl
        have bw_2 := bw_1.step ((Below.refl _ _).alloc (Nat.le_refl _) (.cells aZ 34)) (by omega)
        have an_2 := an_1.below ((Below.refl _ _).alloc (Nat.le_refl vP.heap.size) (.cells aZ 34)) (fun b hb => by have := R_1.lt; have := R_1.hc; rcases hb with hb | hb <;> omega)
        have hS_2 : S11 w a h ha c6 (b) (o + k * 34) x (vP.alloc (.cells aZ 34)) := ⟨lda_of R_2.ba rfl, ldaD_of R_2.bm rfl, (XA _ R_2.B).lx⟩
        refine hK9.out _ _ hS_2 (fun hS => ?_)
        clear hK9 K9
        try simp only [Act.put, List.setIfInBounds_toArray, List.set_cons_zero, List.set_cons_succ]
        refine wpAnyH_ready (rs := [12]) (by kernel_rfl) (by simp) ?_
        refine AllReadyH.cons (o := { dst := some 7, op := .alloc 53, type := 0, pos := "law.go:116", after := #[], guard := none }) rfl (fun K9 hK9 => ?_) AllReadyH.nil
        go_simp
        have hz3 : ((vP.alloc (.cells aZ 34)).alloc (.cells aZ 53)).heap.size = (vP.alloc (.cells aZ 34)).heap.size + 1 := World.size_alloc _ _
        have R_3 := R_2.step ((Below.refl _ _).alloc (Nat.le_refl _) (.cells aZ 53))
        have b7_3 : Bx ((vP.alloc (.cells aZ 34)).alloc (.cells aZ 53)) (vP.heap.size + 1) aZ 53 := Bx.new_ hz2
        have b8_3 := b8_2.alloc (.cells aZ 53)
        have bw_3 := bw_2.step ((Below.refl _ _).alloc (Nat.le_refl _) (.cells aZ 53)) (by omega)
        have an_3 := an_2.below ((Below.refl _ _).alloc (Nat.le_refl (vP.alloc (.cells aZ 34)).heap.size) (.cells aZ 53)) (fun b hb => by have := R_2.lt; have := R_2.hc; rcases hb with hb | hb <;> omega)
        have hS_3 : S11 w a h ha c6 (b) (o + k * 34) x ((vP.alloc (.cells aZ 34)).alloc (.cells aZ 53)) := ⟨lda_of R_3.ba rfl, ldaD_of R_3.bm rfl, (XA _ R_3.B).lx⟩
        refine hK9.out _ _ hS_3 (fun hS => ?_)
        clear hK9 K9
        try simp only [Act.put, List.setIfInBounds_toArray, List.set_cons_zero, List.set_cons_succ]
        refine wpAnyH_ready (rs := [14]) (by kernel_rfl) (by simp) ?_
        refine AllReadyH.cons (o := { dst := none, op := .store 53 (.tmp 7) (.tmp 55), type := 0, pos := "law.go:116", after := #[⟨12, .data⟩, ⟨8, .data⟩, ⟨6, .chain⟩, ⟨0, .phase⟩, ⟨1, .phase⟩, ⟨2, .phase⟩, ⟨3, .phase⟩, ⟨4, .phase⟩, ⟨5, .phase⟩, ⟨6, .phase⟩, ⟨7, .phase⟩, ⟨8, .phase⟩, ⟨9, .textOnly .lateStores⟩, ⟨10, .textOnly .lateStores⟩, ⟨11, .textOnly .lateStores⟩, ⟨12, .phase⟩, ⟨13, .phase⟩], guard := none }) rfl (fun K9 hK9 => ?_) AllReadyH.nil
        have hst7 := sta_of b7_3 (cs := (aC q hb)) rfl rfl (aC_one _ _)
        have hr6 : c6 < vP.heap.size + 1 := by have := R_0.lt; omega
        have R_4 := R_3.row (g := vP.heap.size + 1) hr6 (aC q hb)
        have hz4 : (((vP.alloc (.cells aZ 34)).alloc (.cells aZ 53)).setRow (vP.heap.size + 1) (aC q hb)).heap.size = ((vP.alloc (.cells aZ 34)).alloc (.cells aZ 53)).heap.size := by simp
        have b7_4 := b7_3.row (aC q hb)
        have b8_4 := b8_3.rowOther (g := vP.heap.size + 1) (by omega) (aC q hb)
        have hzl : lo ≤ c6 := R_0.hc
        have hzs := R_0.lt
        have bw_4 := bw_3.kr (W1 := (((vP.alloc (.cells aZ 34)).alloc (.cells aZ 53)).setRow (vP.heap.size + 1) (aC q hb))) (fun k h1 h2 => setRow_other ((vP.alloc (.cells aZ 34)).alloc (.cells aZ 53)) (vP.heap.size + 1) k _ (by rcases HLC.out with ⟨_, y2, y3⟩ | ⟨_, y2, y3⟩ <;> omega))
        have an_4 := an_3.keep (w' := (((vP.alloc (.cells aZ 34)).alloc (.cells aZ 53)).setRow (vP.heap.size + 1) (aC q hb))) (fun p hp => cell_setRow_other _ _ _ _ (by rcases hp with hp | hp <;> omega))
        go_simp
        have hS_4 : S11 w a h ha c6 (b) (o + k * 34) x (((vP.alloc (.cells aZ 34)).alloc (.cells aZ 53)).setRow (vP.heap.size + 1) (aC q hb)) := ⟨lda_of R_4.ba rfl, ldaD_of R_4.bm rfl, (XA _ R_4.B).lx⟩
        refine hK9.out _ _ hS_4 (fun hS => ?_)
        clear hK9 K9
        try simp only [Act.put, List.setIfInBounds_toArray, List.set_cons_zero, List.set_cons_succ]
        refine wpAnyH_ready (rs := [15]) (by kernel_rfl) (by simp) ?_
        refine AllReadyH.cons (o := { dst := none, op := .store 34 (.tmp 8) (.tmp 56), type := 0, pos := "law.go:116", after := #[⟨13, .data⟩, ⟨9, .data⟩, ⟨14, .chain⟩, ⟨0, .phase⟩, ⟨1, .phase⟩, ⟨2, .phase⟩, ⟨3, .phase⟩, ⟨4, .phase⟩, ⟨5, .phase⟩, ⟨6, .phase⟩, ⟨7, .phase⟩, ⟨8, .phase⟩, ⟨9, .phase⟩, ⟨10, .textOnly .lateStores⟩, ⟨11, .textOnly .lateStores⟩, ⟨12, .phase⟩, ⟨13, .phase⟩, ⟨14, .phase⟩], guard := none }) rfl (fun K9 hK9 => ?_) AllReadyH.nil
        have hst8 := std_of b8_4 (cs := (aC q hn)) rfl rfl (aC_one _ _)
        have hr6 : c6 < vP.heap.size := by have := R_0.lt; omega
        have R_5 := R_4.row (g := vP.heap.size) hr6 (aC q hn)
        have hz5 : ((((vP.alloc (.cells aZ 34)).alloc (.cells aZ 53)).setRow (vP.heap.size + 1) (aC q hb)).setRow (vP.heap.size) (aC q hn)).heap.size = (((vP.alloc (.cells aZ 34)).alloc (.cells aZ 53)).setRow (vP.heap.size + 1) (aC q hb)).heap.size := by simp
        have b8_5 := b8_4.row (aC q hn)
        have b7_5 := b7_4.rowOther (g := vP.heap.size) (by omega) (aC q hn)
        have hzl : lo ≤ c6 := R_0.hc
        have hzs := R_0.lt
        have bw_5 := bw_4.kr (W1 := ((((vP.alloc (.cells aZ 34)).alloc (.cells aZ 53)).setRow (vP.heap.size + 1) (aC q hb)).setRow (vP.heap.size) (aC q hn))) (fun k h1 h2 => setRow_other (((vP.alloc (.cells aZ 34)).alloc (.cells aZ 53)).setRow (vP.heap.size + 1) (aC q hb)) (vP.heap.size) k _ (by rcases HLC.out with ⟨_, y2, y3⟩ | ⟨_, y2, y3⟩ <;> omega))
        have an_5 := an_4.keep (w' := ((((vP.alloc (.cells aZ 34)).alloc (.cells aZ 53)).setRow (vP.heap.size + 1) (aC q hb)).setRow (vP.heap.size) (aC q hn))) (fun p hp => cell_setRow_other _ _ _ _ (by rcases hp with hp | hp <;> omega))
        go_simp
        have hS_5 : S11 w a h ha c6 (b) (o + k * 34) x ((((vP.alloc (.cells aZ 34)).alloc (.cells aZ 53)).setRow (vP.heap.size + 1) (aC q hb)).setRow (vP.heap.size) (aC q hn)) := ⟨lda_of R_5.ba rfl, ldaD_of R_5.bm rfl, (XA _ R_5.B).lx⟩
        refine hK9.out _ _ hS_5 (fun hS => ?_)
        clear hK9 K9
        try simp only [Act.put, List.setIfInBounds_toArray, List.set_cons_zero, List.set_cons_succ]
        refine tk (i := 16) (oi := { dst := some 9, op := .assign (.tmp 57), type := 4, pos := "law.go:116", after := #[⟨10, .data⟩, ⟨15, .chain⟩, ⟨0, .phase⟩, ⟨1, .phase⟩, ⟨2, .phase⟩, ⟨3, .phase⟩, ⟨4, .phase⟩, ⟨5, .phase⟩, ⟨6, .phase⟩, ⟨7, .phase⟩, ⟨8, .phase⟩, ⟨9, .phase⟩, ⟨10, .phase⟩, ⟨11, .textOnly .lateStores⟩, ⟨12, .phase⟩, ⟨13, .phase⟩, ⟨14, .phase⟩, ⟨15, .phase⟩], guard := none }) (v := ?_) ?_ hS ?_
        rotate_left
        · intro w9 hS9; have q1 := hS9.1; have q2 := hS9.2.1; have q3 := hS9.2.2; go_simp; try with_reducible rfl
        try simp only [Act.put, List.setIfInBounds_toArray, List.set_cons_zero, List.set_cons_succ]
        refine tk (i := 17) (oi := { dst := some 10, op := .assign (.tmp 58), type := 4, pos := "law.go:116", after := #[⟨11, .data⟩, ⟨16, .chain⟩, ⟨0, .phase⟩, ⟨1, .phase⟩, ⟨2, .phase⟩, ⟨3, .phase⟩, ⟨4, .phase⟩, ⟨5, .phase⟩, ⟨6, .phase⟩, ⟨7, .phase⟩, ⟨8, .phase⟩, ⟨9, .phase⟩, ⟨10, .phase⟩, ⟨11, .phase⟩, ⟨12, .phase⟩, ⟨13, .phase⟩, ⟨14, .phase⟩, ⟨15, .phase⟩, ⟨16, .phase⟩], guard := none }) (v := ?_) ?_ hS ?_
        rotate_left
        · intro w9 hS9; have q1 := hS9.1; have q2 := hS9.2.1; have q3 := hS9.2.2; go_simp; try with_reducible rfl
        try simp only [Act.put, List.setIfInBounds_toArray, List.set_cons_zero, List.set_cons_succ]
        refine wpAnyH_done (by kernel_rfl) ?_ _
        go_wp2
        go_meet
        have hzl : lo ≤ c6 := R_0.hc
        have hzs := R_0.lt
        have hzm := R_0.hl
        refine ⟨vP.heap.size + 1, vP.heap.size, q, hb, hn, l9, c9, done, rfl, rfl, rfl, rfl, R_5, ⟨b7_5, b8_5, bw_5, an_5.mono (fun b hb => ?_), hq, ⟨g1, g2, g3⟩, by omega, ?_, ?_, ?_, ?_, ?_, ?_⟩⟩
        · rcases HLC.out with ⟨_, y2, y3⟩ | ⟨_, y2, y3⟩ <;> rcases hb with hb | hb <;> (refine ⟨by omega, by omega, by omega⟩)
        all_goals (first | (rcases HLC.out with ⟨y1, y2, y3⟩ | ⟨y1, y2, y3⟩ <;> omega) | (intro m1 m2 m3; rcases HLC.out with ⟨y1, y2, y3⟩ | ⟨y1, y2, y3⟩ <;> omega))
      refine AllReadyH.cons (o := { dst := some 7, op := .alloc 53, type := 0, pos := "law.go:116", after := #[], guard := none }) rfl (fun K9 hK9 => ?_) ?_
      · go_simp
        have hz1 : (V.drew.alloc (.cells aZ 53)).heap.size = V.drew.heap.size + 1 := World.size_alloc _ _
        have R_1 := R_0.step ((Below.refl _ _).alloc (Nat.le_refl _) (.cells aZ 53))
        have b7_1 : Bx (V.drew.alloc (.cells aZ 53)) (V.heap.size) aZ 53 := Bx.new_ rfl
        have hS_1 : S11 w a h ha c6 (b) (o + k * 34) x (V.drew.alloc (.cells aZ 53)) := ⟨lda_of R_1.ba rfl, ldaD_of R_1.bm rfl, (XA _ R_1.B).lx⟩
        refine hK9.out _ _ hS_1 (fun hS => ?_)
        clear hK9 K9
        try simp only [Act.put, List.setIfInBounds_toArray, List.set_cons_zero, List.set_cons_succ]
        refine wpAnyH_ready (rs := [6, 13]) (by kernel_rfl) (by simp) ?_
        refine AllReadyH.cons (o := { dst := some 54, op := .call { callee := .value (.func 8), args := #[.tmp 48, .tmp 49, .tmp 53], argTypes := #[53, 34, 52] }, type := 55, pos := "law.go:116", after := #[⟨0, .data⟩, ⟨1, .data⟩, ⟨5, .data⟩], guard := none }) rfl (fun K9 hK9 => ?_) ?_
        · go_simp
          refine (play_any a ha h x (V.drew.alloc (.cells aZ 53)) (fun b => b ≠ w.heap.size ∧ b < lo) lo c6 (R_1.A.mono fun b hb => by have := R_1.lt; omega) R_1.ml (fun b hb => by have := R_1.lt; have := R_1.hc; omega) HS1.out HOK.out HPS.out HLS.out ((HXA.out.below R_1.B fun b hb => hb).mono fun b hb => by have := R_1.hl; omega) R_1.bw (by have := R_1.lt; omega)).mono ?_
          rintro e vP ⟨l9, D9, ⟨q, hb, hn, c9, done, hD9, rfl, hq, bw_2, g1, g2, g3, hc9, an_2, hbP⟩, hcond⟩
          have hlc : ((x.kind = 6 ∨ x.kind < 0 ∨ 8 < x.kind) ∧ l9 = lo ∧ c9 = c6) ∨ ((x.kind ≠ 6 ∧ 0 ≤ x.kind ∧ x.kind ≤ 8) ∧ l9 = (V.drew.alloc (.cells aZ 53)).heap.size ∧ (V.drew.alloc (.cells aZ 53)).heap.size ≤ c9) := by rcases hcond with ⟨y1, y2, y3⟩ | ⟨y1, y2, y3⟩; exact .inl ⟨y1, y2, y3 _ hD9⟩; exact .inr ⟨y1, y2, y3 _ hD9⟩
          have HLC := Lib.hid hlc
          clear hcond hD9 hlc
          have hz2 := hbP.size
          have R_2 := R_1.step hbP
          have b7_2 := b7_1.below hbP b7_1.lt
          have hS_2 : S11 w a h ha c6 (b) (o + k * 34) x vP := ⟨lda_of R_2.ba rfl, ldaD_of R_2.bm rfl, (XA _ R_2.B).lx⟩
          refine hK9.out _ _ hS_2 (fun hS => ?_)
          clear hK9 K9
          try simp only [Act.put, List.setIfInBounds_toArray, List.set_cons_zero, List.set_cons_succ]
          refine tk (i := 7) (oi := { dst := some 47, op := .move (.tmp 54), type := 55, pos := "law.go:116", after := #[⟨6, .data⟩], guard := none }) (v := ?_) ?_ hS ?_
          rotate_left
          · intro w9 hS9; have q1 := hS9.1; have q2 := hS9.2.1; have q3 := hS9.2.2; go_simp; try with_reducible rfl
          try simp only [Act.put, List.setIfInBounds_toArray, List.set_cons_zero, List.set_cons_succ]
          refine tk (i := 8) (oi := { dst := some 55, op := .extract (.tmp 47) 0, type := 53, pos := "law.go:116", after := #[⟨7, .data⟩], guard := none }) (v := ?_) ?_ hS ?_
          rotate_left
          · intro w9 hS9; have q1 := hS9.1; have q2 := hS9.2.1; have q3 := hS9.2.2; go_simp; try with_reducible rfl
          try simp only [Act.put, List.setIfInBounds_toArray, List.set_cons_zero, List.set_cons_succ]
          refine tk (i := 9) (oi := { dst := some 56, op := .extract (.tmp 47) 1, type := 34, pos := "law.go:116", after := #[⟨7, .data⟩, ⟨14, .gcOnly .lateStores⟩], guard := none }) (v := ?_) ?_ hS ?_
          rotate_left
          · intro w9 hS9; have q1 := hS9.1; have q2 := hS9.2.1; have q3 := hS9.2.2; go_simp; try with_reducible rfl
          try simp only [Act.put, List.setIfInBounds_toArray, List.set_cons_zero, List.set_cons_succ]
          refine tk (i := 10) (oi := { dst := some 57, op := .extract (.tmp 47) 2, type := 4, pos := "law.go:116", after := #[⟨7, .data⟩, ⟨15, .gcOnly .lateStores⟩], guard := none }) (v := ?_) ?_ hS ?_
          rotate_left
          · intro w9 hS9; have q1 := hS9.1; have q2 := hS9.2.1; have q3 := hS9.2.2; go_simp; try with_reducible rfl
          try simp only [Act.put, List.setIfInBounds_toArray, List.set_cons_zero, List.set_cons_succ]
          refine tk (i := 11) (oi := { dst := some 58, op := .extract (.tmp 47) 3, type := 4, pos := "law.go:116", after := #[⟨7, .data⟩, ⟨16, .gcOnly .lateStores⟩], guard := none }) (v := ?_) ?_ hS ?_
          rotate_left
          · intro w9 hS9; have q1 := hS9.1; have q2 := hS9.2.1; have q3 := hS9.2.2; go_simp; try with_reducible rfl
          try simp only [Act.put, List.setIfInBounds_toArray, List.set_cons_zero, List.set_cons_succ]
          refine wpAnyH_ready (rs := [13]) (by kernel_rfl) (by simp) ?_
          refine AllReadyH.cons (o := { dst := some 8, op := .alloc 34, type := 0, pos := "law.go:116", after := #[], guard := none }) rfl (fun K9 hK9 => ?_) AllReadyH.nil
          go_simp
          have hz3 : (vP.alloc (.cells aZ 34)).heap.size = vP.heap.size + 1 := World.size_alloc _ _
          have R_3 := R_2.step ((Below.refl _ _).alloc (Nat.le_refl _) (.cells aZ 34))
          have b8_3 : Bx (vP.alloc (.cells aZ 34)) (vP.heap.size) aZ 34 := Bx.new_ rfl
          have b7_3 := b7_2.alloc (.cells aZ 34)
          have bw_3 := bw_2.step ((Below.refl _ _).alloc (Nat.le_refl _) (.cells aZ 34)) (by omega)
          have an_3 := an_2.below ((Below.refl _ _).alloc (Nat.le_refl vP.heap.size) (.cells aZ 34)) (fun b hb => by have := R_2.lt; have := R_2.hc; rcases hb with hb | hb <;> omega)
          have hS_3 : S11 w a h ha c6 (b) (o + k * 34) x (vP.alloc (.cells aZ 34)) := ⟨lda_of R_3.ba rfl, ldaD_of R_3.bm rfl, (XA _ R_3.B).lx⟩
          refine hK9.out _ _ hS_3 (fun hS => ?_)
          clear hK9 K9
          try simp only [Act.put, List.setIfInBounds_toArray, List.set_cons_zero, List.set_cons_succ]
          refine wpAnyH_ready (rs := [14]) (by kernel_rfl) (by simp) ?_
          refine AllReadyH.cons (o := { dst := none, op := .store 53 (.tmp 7) (.tmp 55), type := 0, pos := "law.go:116", after := #[⟨12, .data⟩, ⟨8, .data⟩, ⟨6, .chain⟩, ⟨0, .phase⟩, ⟨1, .phase⟩, ⟨2, .phase⟩, ⟨3, .phase⟩, ⟨4, .phase⟩, ⟨5, .phase⟩, ⟨6, .phase⟩, ⟨7, .phase⟩, ⟨8, .phase⟩, ⟨9, .textOnly .lateStores⟩, ⟨10, .textOnly .lateStores⟩, ⟨11, .textOnly .lateStores⟩, ⟨12, .phase⟩, ⟨13, .phase⟩], guard := none }) rfl (fun K9 hK9 => ?_) AllReadyH.nil
          have hst7 := sta_of b7_3 (cs := (aC q hb)) rfl rfl (aC_one _ _)
          have hr6 : c6 < V.heap.size := by have := R_0.lt; omega
          have R_4 := R_3.row (g := V.heap.size) hr6 (aC q hb)
          have hz4 : ((vP.alloc (.cells aZ 34)).setRow (V.heap.size) (aC q hb)).heap.size = (vP.alloc (.cells aZ 34)).heap.size := by simp
          have b7_4 := b7_3.row (aC q hb)
          have b8_4 := b8_3.rowOther (g := V.heap.size) (by omega) (aC q hb)
          have hzl : lo ≤ c6 := R_0.hc
          have hzs := R_0.lt
          have bw_4 := bw_3.kr (W1 := ((vP.alloc (.cells aZ 34)).setRow (V.heap.size) (aC q hb))) (fun k h1 h2 => setRow_other (vP.alloc (.cells aZ 34)) (V.heap.size) k _ (by rcases HLC.out with ⟨_, y2, y3⟩ | ⟨_, y2, y3⟩ <;> omega))
          have an_4 := an_3.keep (w' := ((vP.alloc (.cells aZ 34)).setRow (V.heap.size) (aC q hb))) (fun p hp => cell_setRow_other _ _ _ _ (by rcases hp with hp | hp <;> omega))
          go_simp
          have hS_4 : S11 w a h ha c6 (b) (o + k * 34) x ((vP.alloc (.cells aZ 34)).setRow (V.heap.size) (aC q hb)) := ⟨lda_of R_4.ba rfl, ldaD_of R_4.bm rfl, (XA _ R_4.B).lx⟩
          refine hK9.out _ _ hS_4 (fun hS => ?_)
          clear hK9 K9
          try simp only [Act.put, List.setIfInBounds_toArray, List.set_cons_zero, List.set_cons_succ]
          refine wpAnyH_ready (rs := [15]) (by kernel_rfl) (by simp) ?_
          refine AllReadyH.cons (o := { dst := none, op := .store 34 (.tmp 8) (.tmp 56), type := 0, pos := "law.go:116", after := #[⟨13, .data⟩, ⟨9, .data⟩, ⟨14, .chain⟩, ⟨0, .phase⟩, ⟨1, .phase⟩, ⟨2, .phase⟩, ⟨3, .phase⟩, ⟨4, .phase⟩, ⟨5, .phase⟩, ⟨6, .phase⟩, ⟨7, .phase⟩, ⟨8, .phase⟩, ⟨9, .phase⟩, ⟨10, .textOnly .lateStores⟩, ⟨11, .textOnly .lateStores⟩, ⟨12, .phase⟩, ⟨13, .phase⟩, ⟨14, .phase⟩], guard := none }) rfl (fun K9 hK9 => ?_) AllReadyH.nil
          have hst8 := std_of b8_4 (cs := (aC q hn)) rfl rfl (aC_one _ _)
          have hr6 : c6 < vP.heap.size := by have := R_0.lt; omega
          have R_5 := R_4.row (g := vP.heap.size) hr6 (aC q hn)
          have hz5 : (((vP.alloc (.cells aZ 34)).setRow (V.heap.size) (aC q hb)).setRow (vP.heap.size) (aC q hn)).heap.size = ((vP.alloc (.cells aZ 34)).setRow (V.heap.size) (aC q hb)).heap.size := by simp
          have b8_5 := b8_4.row (aC q hn)
          have b7_5 := b7_4.rowOther (g := vP.heap.size) (by omega) (aC q hn)
          have hzl : lo ≤ c6 := R_0.hc
          have hzs := R_0.lt
          have bw_5 := bw_4.kr (W1 := (((vP.alloc (.cells aZ 34)).setRow (V.heap.size) (aC q hb)).setRow (vP.heap.size) (aC q hn))) (fun k h1 h2 => setRow_other ((vP.alloc (.cells aZ 34)).setRow (V.heap.size) (aC q hb)) (vP.heap.size) k _ (by rcases HLC.out with ⟨_, y2, y3⟩ | ⟨_, y2, y3⟩ <;> omega))
          have an_5 := an_4.keep (w' := (((vP.alloc (.cells aZ 34)).setRow (V.heap.size) (aC q hb)).setRow (vP.heap.size) (aC q hn))) (fun p hp => cell_setRow_other _ _ _ _ (by rcases hp with hp | hp <;> omega))
          go_simp
          have hS_5 : S11 w a h ha c6 (b) (o + k * 34) x (((vP.alloc (.cells aZ 34)).setRow (V.heap.size) (aC q hb)).setRow (vP.heap.size) (aC q hn)) := ⟨lda_of R_5.ba rfl, ldaD_of R_5.bm rfl, (XA _ R_5.B).lx⟩
          refine hK9.out _ _ hS_5 (fun hS => ?_)
          clear hK9 K9
          try simp only [Act.put, List.setIfInBounds_toArray, List.set_cons_zero, List.set_cons_succ]
          refine tk (i := 16) (oi := { dst := some 9, op := .assign (.tmp 57), type := 4, pos := "law.go:116", after := #[⟨10, .data⟩, ⟨15, .chain⟩, ⟨0, .phase⟩, ⟨1, .phase⟩, ⟨2, .phase⟩, ⟨3, .phase⟩, ⟨4, .phase⟩, ⟨5, .phase⟩, ⟨6, .phase⟩, ⟨7, .phase⟩, ⟨8, .phase⟩, ⟨9, .phase⟩, ⟨10, .phase⟩, ⟨11, .textOnly .lateStores⟩, ⟨12, .phase⟩, ⟨13, .phase⟩, ⟨14, .phase⟩, ⟨15, .phase⟩], guard := none }) (v := ?_) ?_ hS ?_
          rotate_left
          · intro w9 hS9; have q1 := hS9.1; have q2 := hS9.2.1; have q3 := hS9.2.2; go_simp; try with_reducible rfl
          try simp only [Act.put, List.setIfInBounds_toArray, List.set_cons_zero, List.set_cons_succ]
          refine tk (i := 17) (oi := { dst := some 10, op := .assign (.tmp 58), type := 4, pos := "law.go:116", after := #[⟨11, .data⟩, ⟨16, .chain⟩, ⟨0, .phase⟩, ⟨1, .phase⟩, ⟨2, .phase⟩, ⟨3, .phase⟩, ⟨4, .phase⟩, ⟨5, .phase⟩, ⟨6, .phase⟩, ⟨7, .phase⟩, ⟨8, .phase⟩, ⟨9, .phase⟩, ⟨10, .phase⟩, ⟨11, .phase⟩, ⟨12, .phase⟩, ⟨13, .phase⟩, ⟨14, .phase⟩, ⟨15, .phase⟩, ⟨16, .phase⟩], guard := none }) (v := ?_) ?_ hS ?_
          rotate_left
          · intro w9 hS9; have q1 := hS9.1; have q2 := hS9.2.1; have q3 := hS9.2.2; go_simp; try with_reducible rfl
          try simp only [Act.put, List.setIfInBounds_toArray, List.set_cons_zero, List.set_cons_succ]
          refine wpAnyH_done (by kernel_rfl) ?_ _
          go_wp2
          go_meet
          have hzl : lo ≤ c6 := R_0.hc
          have hzs := R_0.lt
          have hzm := R_0.hl
          refine ⟨V.heap.size, vP.heap.size, q, hb, hn, l9, c9, done, rfl, rfl, rfl, rfl, R_5, ⟨b7_5, b8_5, bw_5, an_5.mono (fun b hb => ?_), hq, ⟨g1, g2, g3⟩, by omega, ?_, ?_, ?_, ?_, ?_, ?_⟩⟩
          · rcases HLC.out with ⟨_, y2, y3⟩ | ⟨_, y2, y3⟩ <;> rcases hb with hb | hb <;> (refine ⟨by omega, by omega, by omega⟩)
          all_goals (first | (rcases HLC.out with ⟨y1, y2, y3⟩ | ⟨y1, y2, y3⟩ <;> omega) | (intro m1 m2 m3; rcases HLC.out with ⟨y1, y2, y3⟩ | ⟨y1, y2, y3⟩ <;> omega))
        refine AllReadyH.cons (o := { dst := some 8, op := .alloc 34, type := 0, pos := "law.go:116", after := #[], guard := none }) rfl (fun K9 hK9 => ?_) AllReadyH.nil
        go_simp
        have hz2 : ((V.drew.alloc (.cells aZ 53)).alloc (.cells aZ 34)).heap.size = (V.drew.alloc (.cells aZ 53)).heap.size + 1 := World.size_alloc _ _
        have R_2 := R_1.step ((Below.refl _ _).alloc (Nat.le_refl _) (.cells aZ 34))
        have b8_2 : Bx ((V.drew.alloc (.cells aZ 53)).alloc (.cells aZ 34)) (V.heap.size + 1) aZ 34 := Bx.new_ hz1
        have b7_2 := b7_1.alloc (.cells aZ 34)
        have hS_2 : S11 w a h ha c6 (b) (o + k * 34) x ((V.drew.alloc (.cells aZ 53)).alloc (.cells aZ 34)) := ⟨lda_of R_2.ba rfl, ldaD_of R_2.bm rfl, (XA _ R_2.B).lx⟩
        refine hK9.out _ _ hS_2 (fun hS => ?_)
        clear hK9 K9
        try simp only [Act.put, List.setIfInBounds_toArray, List.set_cons_zero, List.set_cons_succ]
        refine wpAnyH_ready (rs := [6]) (by kernel_rfl) (by simp) ?_
        refine AllReadyH.cons (o := { dst := some 54, op := .call { callee := .value (.func 8), args := #[.tmp 48, .tmp 49, .tmp 53], argTypes := #[53, 34, 52] }, type := 55, pos := "law.go:116", after := #[⟨0, .data⟩, ⟨1, .data⟩, ⟨5, .data⟩], guard := none }) rfl (fun K9 hK9 => ?_) AllReadyH.nil
        go_simp
        refine (play_any a ha h x ((V.drew.alloc (.cells aZ 53)).alloc (.cells aZ 34)) (fun b => b ≠ w.heap.size ∧ b < lo) lo c6 (R_2.A.mono fun b hb => by have := R_2.lt; omega) R_2.ml (fun b hb => by have := R_2.lt; have := R_2.hc; omega) HS1.out HOK.out HPS.out HLS.out ((HXA.out.below R_2.B fun b hb => hb).mono fun b hb => by have := R_2.hl; omega) R_2.bw (by have := R_2.lt; omega)).mono ?_
        rintro e vP ⟨l9, D9, ⟨q, hb, hn, c9, done, hD9, rfl, hq, bw_3, g1, g2, g3, hc9, an_3, hbP⟩, hcond⟩
        have hlc : ((x.kind = 6 ∨ x.kind < 0 ∨ 8 < x.kind) ∧ l9 = lo ∧ c9 = c6) ∨ ((x.kind ≠ 6 ∧ 0 ≤ x.kind ∧ x.kind ≤ 8) ∧ l9 = ((V.drew.alloc (.cells aZ 53)).alloc (.cells aZ 34)).heap.size ∧ ((V.drew.alloc (.cells aZ 53)).alloc (.cells aZ 34)).heap.size ≤ c9) := by rcases hcond with ⟨y1, y2, y3⟩ | ⟨y1, y2, y3⟩; exact .inl ⟨y1, y2, y3 _ hD9⟩; exact .inr ⟨y1, y2, y3 _ hD9⟩
        have HLC := Lib.hid hlc
        clear hcond hD9 hlc
        have hz3 := hbP.size
        have R_3 := R_2.step hbP
        have b7_3 := b7_2.below hbP b7_2.lt
        have b8_3 := b8_2.below hbP b8_2.lt
        have hS_3 : S11 w a h ha c6 (b) (o + k * 34) x vP := ⟨lda_of R_3.ba rfl, ldaD_of R_3.bm rfl, (XA _ R_3.B).lx⟩
        refine hK9.out _ _ hS_3 (fun hS => ?_)
        clear hK9 K9
        try simp only [Act.put, List.setIfInBounds_toArray, List.set_cons_zero, List.set_cons_succ]
        refine tk (i := 7) (oi := { dst := some 47, op := .move (.tmp 54), type := 55, pos := "law.go:116", after := #[⟨6, .data⟩], guard := none }) (v := ?_) ?_ hS ?_
        rotate_left
        · intro w9 hS9; have q1 := hS9.1; have q2 := hS9.2.1; have q3 := hS9.2.2; go_simp; try with_reducible rfl
        try simp only [Act.put, List.setIfInBounds_toArray, List.set_cons_zero, List.set_cons_succ]
        refine tk (i := 8) (oi := { dst := some 55, op := .extract (.tmp 47) 0, type := 53, pos := "law.go:116", after := #[⟨7, .data⟩], guard := none }) (v := ?_) ?_ hS ?_
        rotate_left
        · intro w9 hS9; have q1 := hS9.1; have q2 := hS9.2.1; have q3 := hS9.2.2; go_simp; try with_reducible rfl
        try simp only [Act.put, List.setIfInBounds_toArray, List.set_cons_zero, List.set_cons_succ]
        refine tk (i := 9) (oi := { dst := some 56, op := .extract (.tmp 47) 1, type := 34, pos := "law.go:116", after := #[⟨7, .data⟩, ⟨14, .gcOnly .lateStores⟩], guard := none }) (v := ?_) ?_ hS ?_
        rotate_left
        · intro w9 hS9; have q1 := hS9.1; have q2 := hS9.2.1; have q3 := hS9.2.2; go_simp; try with_reducible rfl
        try simp only [Act.put, List.setIfInBounds_toArray, List.set_cons_zero, List.set_cons_succ]
        refine tk (i := 10) (oi := { dst := some 57, op := .extract (.tmp 47) 2, type := 4, pos := "law.go:116", after := #[⟨7, .data⟩, ⟨15, .gcOnly .lateStores⟩], guard := none }) (v := ?_) ?_ hS ?_
        rotate_left
        · intro w9 hS9; have q1 := hS9.1; have q2 := hS9.2.1; have q3 := hS9.2.2; go_simp; try with_reducible rfl
        try simp only [Act.put, List.setIfInBounds_toArray, List.set_cons_zero, List.set_cons_succ]
        refine tk (i := 11) (oi := { dst := some 58, op := .extract (.tmp 47) 3, type := 4, pos := "law.go:116", after := #[⟨7, .data⟩, ⟨16, .gcOnly .lateStores⟩], guard := none }) (v := ?_) ?_ hS ?_
        rotate_left
        · intro w9 hS9; have q1 := hS9.1; have q2 := hS9.2.1; have q3 := hS9.2.2; go_simp; try with_reducible rfl
        try simp only [Act.put, List.setIfInBounds_toArray, List.set_cons_zero, List.set_cons_succ]
        refine wpAnyH_ready (rs := [14]) (by kernel_rfl) (by simp) ?_
        refine AllReadyH.cons (o := { dst := none, op := .store 53 (.tmp 7) (.tmp 55), type := 0, pos := "law.go:116", after := #[⟨12, .data⟩, ⟨8, .data⟩, ⟨6, .chain⟩, ⟨0, .phase⟩, ⟨1, .phase⟩, ⟨2, .phase⟩, ⟨3, .phase⟩, ⟨4, .phase⟩, ⟨5, .phase⟩, ⟨6, .phase⟩, ⟨7, .phase⟩, ⟨8, .phase⟩, ⟨9, .textOnly .lateStores⟩, ⟨10, .textOnly .lateStores⟩, ⟨11, .textOnly .lateStores⟩, ⟨12, .phase⟩, ⟨13, .phase⟩], guard := none }) rfl (fun K9 hK9 => ?_) AllReadyH.nil
        have hst7 := sta_of b7_3 (cs := (aC q hb)) rfl rfl (aC_one _ _)
        have hr6 : c6 < V.heap.size := by have := R_0.lt; omega
        have R_4 := R_3.row (g := V.heap.size) hr6 (aC q hb)
        have hz4 : (vP.setRow (V.heap.size) (aC q hb)).heap.size = vP.heap.size := by simp
        have b7_4 := b7_3.row (aC q hb)
        have b8_4 := b8_3.rowOther (g := V.heap.size) (by omega) (aC q hb)
        have hzl : lo ≤ c6 := R_0.hc
        have hzs := R_0.lt
        have bw_4 := bw_3.kr (W1 := (vP.setRow (V.heap.size) (aC q hb))) (fun k h1 h2 => setRow_other vP (V.heap.size) k _ (by rcases HLC.out with ⟨_, y2, y3⟩ | ⟨_, y2, y3⟩ <;> omega))
        have an_4 := an_3.keep (w' := (vP.setRow (V.heap.size) (aC q hb))) (fun p hp => cell_setRow_other _ _ _ _ (by rcases hp with hp | hp <;> omega))
        go_simp
        have hS_4 : S11 w a h ha c6 (b) (o + k * 34) x (vP.setRow (V.heap.size) (aC q hb)) := ⟨lda_of R_4.ba rfl, ldaD_of R_4.bm rfl, (XA _ R_4.B).lx⟩
        refine hK9.out _ _ hS_4 (fun hS => ?_)
        clear hK9 K9
        try simp only [Act.put, List.setIfInBounds_toArray, List.set_cons_zero, List.set_cons_succ]
        refine wpAnyH_ready (rs := [15]) (by kernel_rfl) (by simp) ?_
        refine AllReadyH.cons (o := { dst := none, op := .store 34 (.tmp 8) (.tmp 56), type := 0, pos := "law.go:116", after := #[⟨13, .data⟩, ⟨9, .data⟩, ⟨14, .chain⟩, ⟨0, .phase⟩, ⟨1, .phase⟩, ⟨2, .phase⟩, ⟨3, .phase⟩, ⟨4, .phase⟩, ⟨5, .phase⟩, ⟨6, .phase⟩, ⟨7, .phase⟩, ⟨8, .phase⟩, ⟨9, .phase⟩, ⟨10, .textOnly .lateStores⟩, ⟨11, .textOnly .lateStores⟩, ⟨12, .phase⟩, ⟨13, .phase⟩, ⟨14, .phase⟩], guard := none }) rfl (fun K9 hK9 => ?_) AllReadyH.nil
        have hst8 := std_of b8_4 (cs := (aC q hn)) rfl rfl (aC_one _ _)
        have hr6 : c6 < V.heap.size + 1 := by have := R_0.lt; omega
        have R_5 := R_4.row (g := V.heap.size + 1) hr6 (aC q hn)
        have hz5 : ((vP.setRow (V.heap.size) (aC q hb)).setRow (V.heap.size + 1) (aC q hn)).heap.size = (vP.setRow (V.heap.size) (aC q hb)).heap.size := by simp
        have b8_5 := b8_4.row (aC q hn)
        have b7_5 := b7_4.rowOther (g := V.heap.size + 1) (by omega) (aC q hn)
        have hzl : lo ≤ c6 := R_0.hc
        have hzs := R_0.lt
        have bw_5 := bw_4.kr (W1 := ((vP.setRow (V.heap.size) (aC q hb)).setRow (V.heap.size + 1) (aC q hn))) (fun k h1 h2 => setRow_other (vP.setRow (V.heap.size) (aC q hb)) (V.heap.size + 1) k _ (by rcases HLC.out with ⟨_, y2, y3⟩ | ⟨_, y2, y3⟩ <;> omega))
        have an_5 := an_4.keep (w' := ((vP.setRow (V.heap.size) (aC q hb)).setRow (V.heap.size + 1) (aC q hn))) (fun p hp => cell_setRow_other _ _ _ _ (by rcases hp with hp | hp <;> omega))
        go_simp
        have hS_5 : S11 w a h ha c6 (b) (o + k * 34) x ((vP.setRow (V.heap.size) (aC q hb)).setRow (V.heap.size + 1) (aC q hn)) := ⟨lda_of R_5.ba rfl, ldaD_of R_5.bm rfl, (XA _ R_5.B).lx⟩
        refine hK9.out _ _ hS_5 (fun hS => ?_)
        clear hK9 K9
        try simp only [Act.put, List.setIfInBounds_toArray, List.set_cons_zero, List.set_cons_succ]
        refine tk (i := 16) (oi := { dst := some 9, op := .assign (.tmp 57), type := 4, pos := "law.go:116", after := #[⟨10, .data⟩, ⟨15, .chain⟩, ⟨0, .phase⟩, ⟨1, .phase⟩, ⟨2, .phase⟩, ⟨3, .phase⟩, ⟨4, .phase⟩, ⟨5, .phase⟩, ⟨6, .phase⟩, ⟨7, .phase⟩, ⟨8, .phase⟩, ⟨9, .phase⟩, ⟨10, .phase⟩, ⟨11, .textOnly .lateStores⟩, ⟨12, .phase⟩, ⟨13, .phase⟩, ⟨14, .phase⟩, ⟨15, .phase⟩], guard := none }) (v := ?_) ?_ hS ?_
        rotate_left
        · intro w9 hS9; have q1 := hS9.1; have q2 := hS9.2.1; have q3 := hS9.2.2; go_simp; try with_reducible rfl
        try simp only [Act.put, List.setIfInBounds_toArray, List.set_cons_zero, List.set_cons_succ]
        refine tk (i := 17) (oi := { dst := some 10, op := .assign (.tmp 58), type := 4, pos := "law.go:116", after := #[⟨11, .data⟩, ⟨16, .chain⟩, ⟨0, .phase⟩, ⟨1, .phase⟩, ⟨2, .phase⟩, ⟨3, .phase⟩, ⟨4, .phase⟩, ⟨5, .phase⟩, ⟨6, .phase⟩, ⟨7, .phase⟩, ⟨8, .phase⟩, ⟨9, .phase⟩, ⟨10, .phase⟩, ⟨11, .phase⟩, ⟨12, .phase⟩, ⟨13, .phase⟩, ⟨14, .phase⟩, ⟨15, .phase⟩, ⟨16, .phase⟩], guard := none }) (v := ?_) ?_ hS ?_
        rotate_left
        · intro w9 hS9; have q1 := hS9.1; have q2 := hS9.2.1; have q3 := hS9.2.2; go_simp; try with_reducible rfl
        try simp only [Act.put, List.setIfInBounds_toArray, List.set_cons_zero, List.set_cons_succ]
        refine wpAnyH_done (by kernel_rfl) ?_ _
        go_wp2
        go_meet
        have hzl : lo ≤ c6 := R_0.hc
        have hzs := R_0.lt
        have hzm := R_0.hl
        refine ⟨V.heap.size, V.heap.size + 1, q, hb, hn, l9, c9, done, rfl, rfl, rfl, rfl, R_5, ⟨b7_5, b8_5, bw_5, an_5.mono (fun b hb => ?_), hq, ⟨g1, g2, g3⟩, by omega, ?_, ?_, ?_, ?_, ?_, ?_⟩⟩
        · rcases HLC.out with ⟨_, y2, y3⟩ | ⟨_, y2, y3⟩ <;> rcases hb with hb | hb <;> (refine ⟨by omega, by omega, by omega⟩)
        all_goals (first | (rcases HLC.out with ⟨y1, y2, y3⟩ | ⟨y1, y2, y3⟩ <;> omega) | (intro m1 m2 m3; rcases HLC.out with ⟨y1, y2, y3⟩ | ⟨y1, y2, y3⟩ <;> omega))
      refine AllReadyH.cons (o := { dst := some 8, op := .alloc 34, type := 0, pos := "law.go:116", after := #[], guard := none }) rfl (fun K9 hK9 => ?_) AllReadyH.nil
      go_simp
      have hz1 : (V.drew.alloc (.cells aZ 34)).heap.size = V.drew.heap.size + 1 := World.size_alloc _ _
      have R_1 := R_0.step ((Below.refl _ _).alloc (Nat.le_refl _) (.cells aZ 34))
      have b8_1 : Bx (V.drew.alloc (.cells aZ 34)) (V.heap.size) aZ 34 := Bx.new_ rfl
      have hS_1 : S11 w a h ha c6 (b) (o + k * 34) x (V.drew.alloc (.cells aZ 34)) := ⟨lda_of R_1.ba rfl, ldaD_of R_1.bm rfl, (XA _ R_1.B).lx⟩
      refine hK9.out _ _ hS_1 (fun hS => ?_)
      clear hK9 K9
      try simp only [Act.put, List.setIfInBounds_toArray, List.set_cons_zero, List.set_cons_succ]
      refine wpAnyH_ready (rs := [6, 12]) (by kernel_rfl) (by simp) ?_
      refine AllReadyH.cons (o := { dst := some 54, op := .call { callee := .value (.func 8), args := #[.tmp 48, .tmp 49, .tmp 53], argTypes := #[53, 34, 52] }, type := 55, pos := "law.go:116", after := #[⟨0, .data⟩, ⟨1, .data⟩, ⟨5, .data⟩], guard := none }) rfl (fun K9 hK9 => ?_) ?_
      · go_simp
        refine (play_any a ha h x (V.drew.alloc (.cells aZ 34)) (fun b => b ≠ w.heap.size ∧ b < lo) lo c6 (R_1.A.mono fun b hb => by have := R_1.lt; omega) R_1.ml (fun b hb => by have := R_1.lt; have := R_1.hc; omega) HS1.out HOK.out HPS.out HLS.out ((HXA.out.below R_1.B fun b hb => hb).mono fun b hb => by have := R_1.hl; omega) R_1.bw (by have := R_1.lt; omega)).mono ?_
        rintro e vP ⟨l9, D9, ⟨q, hb, hn, c9, done, hD9, rfl, hq, bw_2, g1, g2, g3, hc9, an_2, hbP⟩, hcond⟩
        have hlc : ((x.kind = 6 ∨ x.kind < 0 ∨ 8 < x.kind) ∧ l9 = lo ∧ c9 = c6) ∨ ((x.kind ≠ 6 ∧ 0 ≤ x.kind ∧ x.kind ≤ 8) ∧ l9 = (V.drew.alloc (.cells aZ 34)).heap.size ∧ (V.drew.alloc (.cells aZ 34)).heap.size ≤ c9) := by rcases hcond with ⟨y1, y2, y3⟩ | ⟨y1, y2, y3⟩; exact .inl ⟨y1, y2, y3 _ hD9⟩; exact .inr ⟨y1, y2, y3 _ hD9⟩
        have HLC := Lib.hid hlc
        clear hcond hD9 hlc
        have hz2 := hbP.size
        have R_2 := R_1.step hbP
        have b8_2 := b8_1.below hbP b8_1.lt
        have hS_2 : S11 w a h ha c6 (b) (o + k * 34) x vP := ⟨lda_of R_2.ba rfl, ldaD_of R_2.bm rfl, (XA _ R_2.B).lx⟩
        refine hK9.out _ _ hS_2 (fun hS => ?_)
        clear hK9 K9
        try simp only [Act.put, List.setIfInBounds_toArray, List.set_cons_zero, List.set_cons_succ]
        refine tk (i := 7) (oi := { dst := some 47, op := .move (.tmp 54), type := 55, pos := "law.go:116", after := #[⟨6, .data⟩], guard := none }) (v := ?_) ?_ hS ?_
        rotate_left
        · intro w9 hS9; have q1 := hS9.1; have q2 := hS9.2.1; have q3 := hS9.2.2; go_simp; try with_reducible rfl
        try simp only [Act.put, List.setIfInBounds_toArray, List.set_cons_zero, List.set_cons_succ]
        refine tk (i := 8) (oi := { dst := some 55, op := .extract (.tmp 47) 0, type := 53, pos := "law.go:116", after := #[⟨7, .data⟩], guard := none }) (v := ?_) ?_ hS ?_
        rotate_left
        · intro w9 hS9; have q1 := hS9.1; have q2 := hS9.2.1; have q3 := hS9.2.2; go_simp; try with_reducible rfl
        try simp only [Act.put, List.setIfInBounds_toArray, List.set_cons_zero, List.set_cons_succ]
        refine tk (i := 9) (oi := { dst := some 56, op := .extract (.tmp 47) 1, type := 34, pos := "law.go:116", after := #[⟨7, .data⟩, ⟨14, .gcOnly .lateStores⟩], guard := none }) (v := ?_) ?_ hS ?_
        rotate_left
        · intro w9 hS9; have q1 := hS9.1; have q2 := hS9.2.1; have q3 := hS9.2.2; go_simp; try with_reducible rfl
        try simp only [Act.put, List.setIfInBounds_toArray, List.set_cons_zero, List.set_cons_succ]
        refine tk (i := 10) (oi := { dst := some 57, op := .extract (.tmp 47) 2, type := 4, pos := "law.go:116", after := #[⟨7, .data⟩, ⟨15, .gcOnly .lateStores⟩], guard := none }) (v := ?_) ?_ hS ?_
        rotate_left
        · intro w9 hS9; have q1 := hS9.1; have q2 := hS9.2.1; have q3 := hS9.2.2; go_simp; try with_reducible rfl
        try simp only [Act.put, List.setIfInBounds_toArray, List.set_cons_zero, List.set_cons_succ]
        refine tk (i := 11) (oi := { dst := some 58, op := .extract (.tmp 47) 3, type := 4, pos := "law.go:116", after := #[⟨7, .data⟩, ⟨16, .gcOnly .lateStores⟩], guard := none }) (v := ?_) ?_ hS ?_
        rotate_left
        · intro w9 hS9; have q1 := hS9.1; have q2 := hS9.2.1; have q3 := hS9.2.2; go_simp; try with_reducible rfl
        try simp only [Act.put, List.setIfInBounds_toArray, List.set_cons_zero, List.set_cons_succ]
        refine wpAnyH_ready (rs := [12]) (by kernel_rfl) (by simp) ?_
        refine AllReadyH.cons (o := { dst := some 7, op := .alloc 53, type := 0, pos := "law.go:116", after := #[], guard := none }) rfl (fun K9 hK9 => ?_) AllReadyH.nil
        go_simp
        have hz3 : (vP.alloc (.cells aZ 53)).heap.size = vP.heap.size + 1 := World.size_alloc _ _
        have R_3 := R_2.step ((Below.refl _ _).alloc (Nat.le_refl _) (.cells aZ 53))
        have b7_3 : Bx (vP.alloc (.cells aZ 53)) (vP.heap.size) aZ 53 := Bx.new_ rfl
        have b8_3 := b8_2.alloc (.cells aZ 53)
        have bw_3 := bw_2.step ((Below.refl _ _).alloc (Nat.le_refl _) (.cells aZ 53)) (by omega)
        have an_3 := an_2.below ((Below.refl _ _).alloc (Nat.le_refl vP.heap.size) (.cells aZ 53)) (fun b hb => by have := R_2.lt; have := R_2.hc; rcases hb with hb | hb <;> omega)
        have hS_3 : S11 w a h ha c6 (b) (o + k * 34) x (vP.alloc (.cells aZ 53)) := ⟨lda_of R_3.ba rfl, ldaD_of R_3.bm rfl, (XA _ R_3.B).lx⟩
        refine hK9.out _ _ hS_3 (fun hS => ?_)
        clear hK9 K9
        try simp only [Act.put, List.setIfInBounds_toArray, List.set_cons_zero, List.set_cons_succ]
        refine wpAnyH_ready (rs := [14]) (by kernel_rfl) (by simp) ?_
        refine AllReadyH.cons (o := { dst := none, op := .store 53 (.tmp 7) (.tmp 55), type := 0, pos := "law.go:116", after := #[⟨12, .data⟩, ⟨8, .data⟩, ⟨6, .chain⟩, ⟨0, .phase⟩, ⟨1, .phase⟩, ⟨2, .phase⟩, ⟨3, .phase⟩, ⟨4, .phase⟩, ⟨5, .phase⟩, ⟨6, .phase⟩, ⟨7, .phase⟩, ⟨8, .phase⟩, ⟨9, .textOnly .lateStores⟩, ⟨10, .textOnly .lateStores⟩, ⟨11, .textOnly .lateStores⟩, ⟨12, .phase⟩, ⟨13, .phase⟩], guard := none }) rfl (fun K9 hK9 => ?_) AllReadyH.nil
        have hst7 := sta_of b7_3 (cs := (aC q hb)) rfl rfl (aC_one _ _)
        have hr6 : c6 < vP.heap.size := by have := R_0.lt; omega
        have R_4 := R_3.row (g := vP.heap.size) hr6 (aC q hb)
        have hz4 : ((vP.alloc (.cells aZ 53)).setRow (vP.heap.size) (aC q hb)).heap.size = (vP.alloc (.cells aZ 53)).heap.size := by simp
        have b7_4 := b7_3.row (aC q hb)
        have b8_4 := b8_3.rowOther (g := vP.heap.size) (by omega) (aC q hb)
        have hzl : lo ≤ c6 := R_0.hc
        have hzs := R_0.lt
        have bw_4 := bw_3.kr (W1 := ((vP.alloc (.cells aZ 53)).setRow (vP.heap.size) (aC q hb))) (fun k h1 h2 => setRow_other (vP.alloc (.cells aZ 53)) (vP.heap.size) k _ (by rcases HLC.out with ⟨_, y2, y3⟩ | ⟨_, y2, y3⟩ <;> omega))
        have an_4 := an_3.keep (w' := ((vP.alloc (.cells aZ 53)).setRow (vP.heap.size) (aC q hb))) (fun p hp => cell_setRow_other _ _ _ _ (by rcases hp with hp | hp <;> omega))
        go_simp
        have hS_4 : S11 w a h ha c6 (b) (o + k * 34) x ((vP.alloc (.cells aZ 53)).setRow (vP.heap.size) (aC q hb)) := ⟨lda_of R_4.ba rfl, ldaD_of R_4.bm rfl, (XA _ R_4.B).lx⟩
        refine hK9.out _ _ hS_4 (fun hS => ?_)
        clear hK9 K9
        try simp only [Act.put, List.setIfInBounds_toArray, List.set_cons_zero, List.set_cons_succ]
        refine wpAnyH_ready (rs := [15]) (by kernel_rfl) (by simp) ?_
        refine AllReadyH.cons (o := { dst := none, op := .store 34 (.tmp 8) (.tmp 56), type := 0, pos := "law.go:116", after := #[⟨13, .data⟩, ⟨9, .data⟩, ⟨14, .chain⟩, ⟨0, .phase⟩, ⟨1, .phase⟩, ⟨2, .phase⟩, ⟨3, .phase⟩, ⟨4, .phase⟩, ⟨5, .phase⟩, ⟨6, .phase⟩, ⟨7, .phase⟩, ⟨8, .phase⟩, ⟨9, .phase⟩, ⟨10, .textOnly .lateStores⟩, ⟨11, .textOnly .lateStores⟩, ⟨12, .phase⟩, ⟨13, .phase⟩, ⟨14, .phase⟩], guard := none }) rfl (fun K9 hK9 => ?_) AllReadyH.nil
        have hst8 := std_of b8_4 (cs := (aC q hn)) rfl rfl (aC_one _ _)
        have hr6 : c6 < V.heap.size := by have := R_0.lt; omega
        have R_5 := R_4.row (g := V.heap.size) hr6 (aC q hn)
        have hz5 : (((vP.alloc (.cells aZ 53)).setRow (vP.heap.size) (aC q hb)).setRow (V.heap.size) (aC q hn)).heap.size = ((vP.alloc (.cells aZ 53)).setRow (vP.heap.size) (aC q hb)).heap.size := by simp
        have b8_5 := b8_4.row (aC q hn)
        have b7_5 := b7_4.rowOther (g := V.heap.size) (by omega) (aC q hn)
        have hzl : lo ≤ c6 := R_0.hc
        have hzs := R_0.lt
        have bw_5 := bw_4.kr (W1 := (((vP.alloc (.cells aZ 53)).setRow (vP.heap.size) (aC q hb)).setRow (V.heap.size) (aC q hn))) (fun k h1 h2 => setRow_other ((vP.alloc (.cells aZ 53)).setRow (vP.heap.size) (aC q hb)) (V.heap.size) k _ (by rcases HLC.out with ⟨_, y2, y3⟩ | ⟨_, y2, y3⟩ <;> omega))
        have an_5 := an_4.keep (w' := (((vP.alloc (.cells aZ 53)).setRow (vP.heap.size) (aC q hb)).setRow (V.heap.size) (aC q hn))) (fun p hp => cell_setRow_other _ _ _ _ (by rcases hp with hp | hp <;> omega))
        go_simp
        have hS_5 : S11 w a h ha c6 (b) (o + k * 34) x (((vP.alloc (.cells aZ 53)).setRow (vP.heap.size) (aC q hb)).setRow (V.heap.size) (aC q hn)) := ⟨lda_of R_5.ba rfl, ldaD_of R_5.bm rfl, (XA _ R_5.B).lx⟩
        refine hK9.out _ _ hS_5 (fun hS => ?_)
        clear hK9 K9
        try simp only [Act.put, List.setIfInBounds_toArray, List.set_cons_zero, List.set_cons_succ]
        refine tk (i := 16) (oi := { dst := some 9, op := .assign (.tmp 57), type := 4, pos := "law.go:116", after := #[⟨10, .data⟩, ⟨15, .chain⟩, ⟨0, .phase⟩, ⟨1, .phase⟩, ⟨2, .phase⟩, ⟨3, .phase⟩, ⟨4, .phase⟩, ⟨5, .phase⟩, ⟨6, .phase⟩, ⟨7, .phase⟩, ⟨8, .phase⟩, ⟨9, .phase⟩, ⟨10, .phase⟩, ⟨11, .textOnly .lateStores⟩, ⟨12, .phase⟩, ⟨13, .phase⟩, ⟨14, .phase⟩, ⟨15, .phase⟩], guard := none }) (v := ?_) ?_ hS ?_
        rotate_left
        · intro w9 hS9; have q1 := hS9.1; have q2 := hS9.2.1; have q3 := hS9.2.2; go_simp; try with_reducible rfl
        try simp only [Act.put, List.setIfInBounds_toArray, List.set_cons_zero, List.set_cons_succ]
        refine tk (i := 17) (oi := { dst := some 10, op := .assign (.tmp 58), type := 4, pos := "law.go:116", after := #[⟨11, .data⟩, ⟨16, .chain⟩, ⟨0, .phase⟩, ⟨1, .phase⟩, ⟨2, .phase⟩, ⟨3, .phase⟩, ⟨4, .phase⟩, ⟨5, .phase⟩, ⟨6, .phase⟩, ⟨7, .phase⟩, ⟨8, .phase⟩, ⟨9, .phase⟩, ⟨10, .phase⟩, ⟨11, .phase⟩, ⟨12, .phase⟩, ⟨13, .phase⟩, ⟨14, .phase⟩, ⟨15, .phase⟩, ⟨16, .phase⟩], guard := none }) (v := ?_) ?_ hS ?_
        rotate_left
        · intro w9 hS9; have q1 := hS9.1; have q2 := hS9.2.1; have q3 := hS9.2.2; go_simp; try with_reducible rfl
        try simp only [Act.put, List.setIfInBounds_toArray, List.set_cons_zero, List.set_cons_succ]
        refine wpAnyH_done (by kernel_rfl) ?_ _
        go_wp2
        go_meet
        have hzl : lo ≤ c6 := R_0.hc
        have hzs := R_0.lt
        have hzm := R_0.hl
        refine ⟨vP.heap.size, V.heap.size, q, hb, hn, l9, c9, done, rfl, rfl, rfl, rfl, R_5, ⟨b7_5, b8_5, bw_5, an_5.mono (fun b hb => ?_), hq, ⟨g1, g2, g3⟩, by omega, ?_, ?_, ?_, ?_, ?_, ?_⟩⟩
        · rcases HLC.out with ⟨_, y2, y3⟩ | ⟨_, y2, y3⟩ <;> rcases hb with hb | hb <;> (refine ⟨by omega, by omega, by omega⟩)
        all_goals (first | (rcases HLC.out with ⟨y1, y2, y3⟩ | ⟨y1, y2, y3⟩ <;> omega) | (intro m1 m2 m3; rcases HLC.out with ⟨y1, y2, y3⟩ | ⟨y1, y2, y3⟩ <;> omega))
      refine AllReadyH.cons (o := { dst := some 7, op := .alloc 53, type := 0, pos := "law.go:116", after := #[], guard := none }) rfl (fun K9 hK9 => ?_) AllReadyH.nil
      go_simp
      have hz2 : ((V.drew.alloc (.cells aZ 34)).alloc (.cells aZ 53)).heap.size = (V.drew.alloc (.cells aZ 34)).heap.size + 1 := World.size_alloc _ _
      have R_2 := R_1.step ((Below.refl _ _).alloc (Nat.le_refl _) (.cells aZ 53))
      have b7_2 : Bx ((V.drew.alloc (.cells aZ 34)).alloc (.cells aZ 53)) (V.heap.size + 1) aZ 53 := Bx.new_ hz1
      have b8_2 := b8_1.alloc (.cells aZ 53)
      have hS_2 : S11 w a h ha c6 (b) (o + k * 34) x ((V.drew.alloc (.cells aZ 34)).alloc (.cells aZ 53)) := ⟨lda_of R_2.ba rfl, ldaD_of R_2.bm rfl, (XA _ R_2.B).lx⟩
      refine hK9.out _ _ hS_2 (fun hS => ?_)
      clear hK9 K9
      try simp only [Act.put, List.setIfInBounds_toArray, List.set_cons_zero, List.set_cons_succ]
      refine wpAnyH_ready (rs := [6]) (by kernel_rfl) (by simp) ?_
      refine AllReadyH.cons (o := { dst := some 54, op := .call { callee := .value (.func 8), args := #[.tmp 48, .tmp 49, .tmp 53], argTypes := #[53, 34, 52] }, type := 55, pos := "law.go:116", after := #[⟨0, .data⟩, ⟨1, .data⟩, ⟨5, .data⟩], guard := none }) rfl (fun K9 hK9 => ?_) AllReadyH.nil
      go_simp
      refine (play_any a ha h x ((V.drew.alloc (.cells aZ 34)).alloc (.cells aZ 53)) (fun b => b ≠ w.heap.size ∧ b < lo) lo c6 (R_2.A.mono fun b hb => by have := R_2.lt; omega) R_2.ml (fun b hb => by have := R_2.lt; have := R_2.hc; omega) HS1.out HOK.out HPS.out HLS.out ((HXA.out.below R_2.B fun b hb => hb).mono fun b hb => by have := R_2.hl; omega) R_2.bw (by have := R_2.lt; omega)).mono ?_
      rintro e vP ⟨l9, D9, ⟨q, hb, hn, c9, done, hD9, rfl, hq, bw_3, g1, g2, g3, hc9, an_3, hbP⟩, hcond⟩
      have hlc : ((x.kind = 6 ∨ x.kind < 0 ∨ 8 < x.kind) ∧ l9 = lo ∧ c9 = c6) ∨ ((x.kind ≠ 6 ∧ 0 ≤ x.kind ∧ x.kind ≤ 8) ∧ l9 = ((V.drew.alloc (.cells aZ 34)).alloc (.cells aZ 53)).heap.size ∧ ((V.drew.alloc (.cells aZ 34)).alloc (.cells aZ 53)).heap.size ≤ c9) := by rcases hcond with ⟨y1, y2, y3⟩ | ⟨y1, y2, y3⟩; exact .inl ⟨y1, y2, y3 _ hD9⟩; exact .inr ⟨y1, y2, y3 _ hD9⟩
      have HLC := Lib.hid hlc
      clear hcond hD9 hlc
      have hz3 := hbP.size
      have R_3 := R_2.step hbP
      have b7_3 := b7_2.below hbP b7_2.lt
      have b8_3 := b8_2.below hbP b8_2.lt
      have hS_3 : S11 w a h ha c6 (b) (o + k * 34) x vP := ⟨lda_of R_3.ba rfl, ldaD_of R_3.bm rfl, (XA _ R_3.B).lx⟩
      refine hK9.out _ _ hS_3 (fun hS => ?_)
      clear hK9 K9
      try simp only [Act.put, List.setIfInBounds_toArray, List.set_cons_zero, List.set_cons_succ]
      refine tk (i := 7) (oi := { dst := some 47, op := .move (.tmp 54), type := 55, pos := "law.go:116", after := #[⟨6, .data⟩], guard := none }) (v := ?_) ?_ hS ?_
      rotate_left
      · intro w9 hS9; have q1 := hS9.1; have q2 := hS9.2.1; have q3 := hS9.2.2; go_simp; try with_reducible rfl
      try simp only [Act.put, List.setIfInBounds_toArray, List.set_cons_zero, List.set_cons_succ]
      refine tk (i := 8) (oi := { dst := some 55, op := .extract (.tmp 47) 0, type := 53, pos := "law.go:116", after := #[⟨7, .data⟩], guard := none }) (v := ?_) ?_ hS ?_
      rotate_left
      · intro w9 hS9; have q1 := hS9.1; have q2 := hS9.2.1; have q3 := hS9.2.2; go_simp; try with_reducible rfl
      try simp only [Act.put, List.setIfInBounds_toArray, List.set_cons_zero, List.set_cons_succ]
      refine tk (i := 9) (oi := { dst := some 56, op := .extract (.tmp 47) 1, type := 34, pos := "law.go:116", after := #[⟨7, .data⟩, ⟨14, .gcOnly .lateStores⟩], guard := none }) (v := ?_) ?_ hS ?_
      rotate_left
      · intro w9 hS9; have q1 := hS9.1; have q2 := hS9.2.1; have q3 := hS9.2.2; go_simp; try with_reducible rfl
      try simp only [Act.put, List.setIfInBounds_toArray, List.set_cons_zero, List.set_cons_succ]
      refine tk (i := 10) (oi := { dst := some 57, op := .extract (.tmp 47) 2, type := 4, pos := "law.go:116", after := #[⟨7, .data⟩, ⟨15, .gcOnly .lateStores⟩], guard := none }) (v := ?_) ?_ hS ?_
      rotate_left
      · intro w9 hS9; have q1 := hS9.1; have q2 := hS9.2.1; have q3 := hS9.2.2; go_simp; try with_reducible rfl
      try simp only [Act.put, List.setIfInBounds_toArray, List.set_cons_zero, List.set_cons_succ]
      refine tk (i := 11) (oi := { dst := some 58, op := .extract (.tmp 47) 3, type := 4, pos := "law.go:116", after := #[⟨7, .data⟩, ⟨16, .gcOnly .lateStores⟩], guard := none }) (v := ?_) ?_ hS ?_
      rotate_left
      · intro w9 hS9; have q1 := hS9.1; have q2 := hS9.2.1; have q3 := hS9.2.2; go_simp; try with_reducible rfl
      try simp only [Act.put, List.setIfInBounds_toArray, List.set_cons_zero, List.set_cons_succ]
      refine wpAnyH_ready (rs := [14]) (by kernel_rfl) (by simp) ?_
      refine AllReadyH.cons (o := { dst := none, op := .store 53 (.tmp 7) (.tmp 55), type := 0, pos := "law.go:116", after := #[⟨12, .data⟩, ⟨8, .data⟩, ⟨6, .chain⟩, ⟨0, .phase⟩, ⟨1, .phase⟩, ⟨2, .phase⟩, ⟨3, .phase⟩, ⟨4, .phase⟩, ⟨5, .phase⟩, ⟨6, .phase⟩, ⟨7, .phase⟩, ⟨8, .phase⟩, ⟨9, .textOnly .lateStores⟩, ⟨10, .textOnly .lateStores⟩, ⟨11, .textOnly .lateStores⟩, ⟨12, .phase⟩, ⟨13, .phase⟩], guard := none }) rfl (fun K9 hK9 => ?_) AllReadyH.nil
      have hst7 := sta_of b7_3 (cs := (aC q hb)) rfl rfl (aC_one _ _)
      have hr6 : c6 < V.heap.size + 1 := by have := R_0.lt; omega
      have R_4 := R_3.row (g := V.heap.size + 1) hr6 (aC q hb)
      have hz4 : (vP.setRow (V.heap.size + 1) (aC q hb)).heap.size = vP.heap.size := by simp
      have b7_4 := b7_3.row (aC q hb)
      have b8_4 := b8_3.rowOther (g := V.heap.size + 1) (by omega) (aC q hb)
      have hzl : lo ≤ c6 := R_0.hc
      have hzs := R_0.lt
      have bw_4 := bw_3.kr (W1 := (vP.setRow (V.heap.size + 1) (aC q hb))) (fun k h1 h2 => setRow_other vP (V.heap.size + 1) k _ (by rcases HLC.out with ⟨_, y2, y3⟩ | ⟨_, y2, y3⟩ <;> omega))
      have an_4 := an_3.keep (w' := (vP.setRow (V.heap.size + 1) (aC q hb))) (fun p hp => cell_setRow_other _ _ _ _ (by rcases hp with hp | hp <;> omega))
      go_simp
      have hS_4 : S11 w a h ha c6 (b) (o + k * 34) x (vP.setRow (V.heap.size + 1) (aC q hb)) := ⟨lda_of R_4.ba rfl, ldaD_of R_4.bm rfl, (XA _ R_4.B).lx⟩
      refine hK9.out _ _ hS_4 (fun hS => ?_)
      clear hK9 K9
      try simp only [Act.put, List.setIfInBounds_toArray, List.set_cons_zero, List.set_cons_succ]
      refine wpAnyH_ready (rs := [15]) (by kernel_rfl) (by simp) ?_
      refine AllReadyH.cons (o := { dst := none, op := .store 34 (.tmp 8) (.tmp 56), type := 0, pos := "law.go:116", after := #[⟨13, .data⟩, ⟨9, .data⟩, ⟨14, .chain⟩, ⟨0, .phase⟩, ⟨1, .phase⟩, ⟨2, .phase⟩, ⟨3, .phase⟩, ⟨4, .phase⟩, ⟨5, .phase⟩, ⟨6, .phase⟩, ⟨7, .phase⟩, ⟨8, .phase⟩, ⟨9, .phase⟩, ⟨10, .textOnly .lateStores⟩, ⟨11, .textOnly .lateStores⟩, ⟨12, .phase⟩, ⟨13, .phase⟩, ⟨14, .phase⟩], guard := none }) rfl (fun K9 hK9 => ?_) AllReadyH.nil
      have hst8 := std_of b8_4 (cs := (aC q hn)) rfl rfl (aC_one _ _)
      have hr6 : c6 < V.heap.size := by have := R_0.lt; omega
      have R_5 := R_4.row (g := V.heap.size) hr6 (aC q hn)
      have hz5 : ((vP.setRow (V.heap.size + 1) (aC q hb)).setRow (V.heap.size) (aC q hn)).heap.size = (vP.setRow (V.heap.size + 1) (aC q hb)).heap.size := by simp
      have b8_5 := b8_4.row (aC q hn)
      have b7_5 := b7_4.rowOther (g := V.heap.size) (by omega) (aC q hn)
      have hzl : lo ≤ c6 := R_0.hc
      have hzs := R_0.lt
      have bw_5 := bw_4.kr (W1 := ((vP.setRow (V.heap.size + 1) (aC q hb)).setRow (V.heap.size) (aC q hn))) (fun k h1 h2 => setRow_other (vP.setRow (V.heap.size + 1) (aC q hb)) (V.heap.size) k _ (by rcases HLC.out with ⟨_, y2, y3⟩ | ⟨_, y2, y3⟩ <;> omega))
      have an_5 := an_4.keep (w' := ((vP.setRow (V.heap.size + 1) (aC q hb)).setRow (V.heap.size) (aC q hn))) (fun p hp => cell_setRow_other _ _ _ _ (by rcases hp with hp | hp <;> omega))
      go_simp
      have hS_5 : S11 w a h ha c6 (b) (o + k * 34) x ((vP.setRow (V.heap.size + 1) (aC q hb)).setRow (V.heap.size) (aC q hn)) := ⟨lda_of R_5.ba rfl, ldaD_of R_5.bm rfl, (XA _ R_5.B).lx⟩
      refine hK9.out _ _ hS_5 (fun hS => ?_)
      clear hK9 K9
      try simp only [Act.put, List.setIfInBounds_toArray, List.set_cons_zero, List.set_cons_succ]
      refine tk (i := 16) (oi := { dst := some 9, op := .assign (.tmp 57), type := 4, pos := "law.go:116", after := #[⟨10, .data⟩, ⟨15, .chain⟩, ⟨0, .phase⟩, ⟨1, .phase⟩, ⟨2, .phase⟩, ⟨3, .phase⟩, ⟨4, .phase⟩, ⟨5, .phase⟩, ⟨6, .phase⟩, ⟨7, .phase⟩, ⟨8, .phase⟩, ⟨9, .phase⟩, ⟨10, .phase⟩, ⟨11, .textOnly .lateStores⟩, ⟨12, .phase⟩, ⟨13, .phase⟩, ⟨14, .phase⟩, ⟨15, .phase⟩], guard := none }) (v := ?_) ?_ hS ?_
      rotate_left
      · intro w9 hS9; have q1 := hS9.1; have q2 := hS9.2.1; have q3 := hS9.2.2; go_simp; try with_reducible rfl
      try simp only [Act.put, List.setIfInBounds_toArray, List.set_cons_zero, List.set_cons_succ]
      refine tk (i := 17) (oi := { dst := some 10, op := .assign (.tmp 58), type := 4, pos := "law.go:116", after := #[⟨11, .data⟩, ⟨16, .chain⟩, ⟨0, .phase⟩, ⟨1, .phase⟩, ⟨2, .phase⟩, ⟨3, .phase⟩, ⟨4, .phase⟩, ⟨5, .phase⟩, ⟨6, .phase⟩, ⟨7, .phase⟩, ⟨8, .phase⟩, ⟨9, .phase⟩, ⟨10, .phase⟩, ⟨11, .phase⟩, ⟨12, .phase⟩, ⟨13, .phase⟩, ⟨14, .phase⟩, ⟨15, .phase⟩, ⟨16, .phase⟩], guard := none }) (v := ?_) ?_ hS ?_
      rotate_left
      · intro w9 hS9; have q1 := hS9.1; have q2 := hS9.2.1; have q3 := hS9.2.2; go_simp; try with_reducible rfl
      try simp only [Act.put, List.setIfInBounds_toArray, List.set_cons_zero, List.set_cons_succ]
      refine wpAnyH_done (by kernel_rfl) ?_ _
      go_wp2
      go_meet
      have hzl : lo ≤ c6 := R_0.hc
      have hzs := R_0.lt
      have hzm := R_0.hl
      refine ⟨V.heap.size + 1, V.heap.size, q, hb, hn, l9, c9, done, rfl, rfl, rfl, rfl, R_5, ⟨b7_5, b8_5, bw_5, an_5.mono (fun b hb => ?_), hq, ⟨g1, g2, g3⟩, by omega, ?_, ?_, ?_, ?_, ?_, ?_⟩⟩
      · rcases HLC.out with ⟨_, y2, y3⟩ | ⟨_, y2, y3⟩ <;> rcases hb with hb | hb <;> (refine ⟨by omega, by omega, by omega⟩)
      all_goals (first | (rcases HLC.out with ⟨y1, y2, y3⟩ | ⟨y1, y2, y3⟩ <;> omega) | (intro m1 m2 m3; rcases HLC.out with ⟨y1, y2, y3⟩ | ⟨y1, y2, y3⟩ <;> omega))
    case rest =>
    clear R_0 hz0
    obtain ⟨g7, g8, q, hb, hn, l9, c9, done, rfl, rfl, rfl, rfl, Q2, T2⟩ := hcut
    go_upto_region 12 with fail
    refine wp_world (fun W => R1 w a h ha lo c6 W ∧ R3 w lo c6 x.kind g7 g8 q hb hn l9 c9 W) ⟨Q2, T2⟩ ?_
    clear Q2 T2
    rintro V2 ⟨Q2, T2⟩
    obtain ⟨pq, hpq⟩ : ∃ pq, pnrF a = pq := ⟨_, rfl⟩
    have HPQS : Hid (pq.small 100000) := Lib.hid (by rw [← hpq]; exact (foldF_small9 a.edits a.base 1000 HS1.out.base).mono (by have := HS1.out.edits; omega))
    have HPQ := Lib.hid hpq
    clear hpq
    have hd2 : Below V2.heap.size V2 V2.drew := (Below.refl _ _).drew
    have Q_0 := Q2.step hd2
    have R_0 := T2.step hd2
    clear Q2 T2 hd2
    refine wp_region_held_drew (S := fun w' => S12 w a h ha c6 w') (by kernel_rfl) ⟨lda_of Q_0.ba rfl, ldaD_of Q_0.bm rfl⟩ (fun hS => ?_)
    refine tk (i := 0) (oi := { dst := some 59, op := .move (.tmp 10), type := 4, pos := "law.go:117", after := #[], guard := none }) (v := ?_) ?_ hS ?_
    rotate_left
    · intro w9 hS9; have q1 := hS9.1; have q2 := hS9.2; go_simp; try with_reducible rfl
    try simp only [Act.put, List.setIfInBounds_toArray, List.set_cons_zero, List.set_cons_succ]
    refine tk (i := 1) (oi := { dst := some 60, op := .unOp .not 4 (.tmp 59), type := 4, pos := "law.go:117", after := #[⟨0, .data⟩], guard := none }) (v := ?_) ?_ hS ?_
    rotate_left
    · intro w9 hS9; have q1 := hS9.1; have q2 := hS9.2; go_simp; try with_reducible rfl
    try simp only [Act.put, List.setIfInBounds_toArray, List.set_cons_zero, List.set_cons_succ]
    refine tk (i := 2) (oi := { dst := some 61, op := .move (.tmp 60), type := 4, pos := "law.go:117", after := #[⟨1, .data⟩], guard := none }) (v := ?_) ?_ hS ?_
    rotate_left
    · intro w9 hS9; have q1 := hS9.1; have q2 := hS9.2; go_simp; try with_reducible rfl
    try simp only [Act.put, List.setIfInBounds_toArray, List.set_cons_zero, List.set_cons_succ]
    refine tk (i := 3) (oi := { dst := some 62, op := .load 53 (.tmp 6), type := 53, pos := "law.go:117", after := #[⟨2, .guard⟩], guard := some (2, false) }) (v := ?_) ?_ hS ?_
    rotate_left
    · intro w9 hS9; have q1 := hS9.1; have q2 := hS9.2; go_simp; try with_reducible rfl
    try simp only [Act.put, List.setIfInBounds_toArray, List.set_cons_zero, List.set_cons_succ]
    refine tk (i := 4) (oi := { dst := some 63, op := .load 34 (.tmp 2), type := 34, pos := "law.go:117", after := #[⟨2, .guard⟩], guard := some (2, false) }) (v := ?_) ?_ hS ?_
    rotate_left
    · intro w9 hS9; have q1 := hS9.1; have q2 := hS9.2; go_simp; try with_reducible rfl
    try simp only [Act.put, List.setIfInBounds_toArray, List.set_cons_zero, List.set_cons_succ]
    refine wpAnyH_ready (rs := [5]) (by kernel_rfl) (by simp) ?_
    refine AllReadyH.cons (o := { dst := some 64, op := .call { callee := .value (.func 9), args := #[.tmp 62, .tmp 63], argTypes := #[53, 34] }, type := 4, pos := "law.go:117", after := #[⟨3, .data⟩, ⟨4, .data⟩, ⟨2, .chain⟩, ⟨2, .guard⟩], guard := some (2, false) }) rfl (fun K9 hK9 => ?_) AllReadyH.nil
    go_simp
    refine (same19_any a ha h V2.drew _ _ Q_0.A Q_0.ml (fun b hb => by have := Q_0.lt; have := Q_0.hc; omega) (fun b hb => by have := Q_0.lt; have := Q_0.hc; omega) HS2.out).mono ?_
    rintro e v1 ⟨rfl, hb1⟩
    have Q_1 := Q_0.step hb1
    have R_1 := R_0.step hb1
    have hS_1 : S12 w a h ha c6 v1 := ⟨lda_of Q_1.ba rfl, ldaD_of Q_1.bm rfl⟩
    refine hK9.out _ _ hS_1 (fun hS => ?_)
    clear hK9 K9
    try simp only [Act.put, List.setIfInBounds_toArray, List.set_cons_zero, List.set_cons_succ]
    refine tk (i := 6) (oi := { dst := some 65, op := .unOp .not 4 (.tmp 64), type := 4, pos := "law.go:117", after := #[⟨5, .data⟩, ⟨2, .guard⟩], guard := some (2, false) }) (v := ?_) ?_ hS ?_
    rotate_left
    · intro w9 hS9; have q1 := hS9.1; have q2 := hS9.2; go_simp; try with_reducible rfl
    try simp only [Act.put, List.setIfInBounds_toArray, List.set_cons_zero, List.set_cons_succ]
    refine tk (i := 7) (oi := { dst := some 66, op := .pick (.tmp 61) (.const (.bool true)) (.tmp 65), type := 4, pos := "law.go:117", after := #[⟨2, .data⟩, ⟨6, .data⟩], guard := none }) (v := ?_) ?_ hS ?_
    rotate_left
    · intro w9 hS9; have q1 := hS9.1; have q2 := hS9.2; go_simp; try with_reducible rfl
    try simp only [Act.put, List.setIfInBounds_toArray, List.set_cons_zero, List.set_cons_succ]
    refine tk (i := 8) (oi := { dst := some 67, op := .move (.tmp 66), type := 4, pos := "law.go:117", after := #[⟨7, .data⟩, ⟨5, .chain⟩], guard := none }) (v := ?_) ?_ hS ?_
    rotate_left
    · intro w9 hS9; have q1 := hS9.1; have q2 := hS9.2; go_simp; try with_reducible rfl
    try simp only [Act.put, List.setIfInBounds_toArray, List.set_cons_zero, List.set_cons_succ]
    refine tk (i := 9) (oi := { dst := some 68, op := .load 53 (.tmp 6), type := 53, pos := "law.go:117", after := #[⟨8, .guard⟩], guard := some (8, false) }) (v := ?_) ?_ hS ?_
    rotate_left
    · intro w9 hS9; have q1 := hS9.1; have q2 := hS9.2; go_simp; try with_reducible rfl
    try simp only [Act.put, List.setIfInBounds_toArray, List.set_cons_zero, List.set_cons_succ]
    refine tk (i := 11) (oi := { dst := some 70, op := .load 34 (.tmp 2), type := 34, pos := "law.go:117", after := #[⟨8, .guard⟩], guard := some (8, false) }) (v := ?_) ?_ hS ?_
    rotate_left
    · intro w9 hS9; have q1 := hS9.1; have q2 := hS9.2; go_simp; try with_reducible rfl
    try simp only [Act.put, List.setIfInBounds_toArray, List.set_cons_zero, List.set_cons_succ]
    refine wpAnyH_ready (rs := [10]) (by kernel_rfl) (by simp) ?_
    refine AllReadyH.cons (o := { dst := some 69, op := .call { callee := .value (.func 11), args := #[.tmp 68], argTypes := #[53] }, type := 29, pos := "law.go:117", after := #[⟨9, .data⟩, ⟨8, .chain⟩, ⟨8, .guard⟩], guard := some (8, false) }) rfl (fun K9 hK9 => ?_) AllReadyH.nil
    go_simp
    refine (apnr_any a ha v1 _ Q_1.A (fun b hb => by have := Q_1.lt; have := Q_1.hc; omega) HS1.out pq HPQ.out).mono ?_
    rintro e v2 ⟨hp1, rfl, op1, hb2⟩
    have hn2 := hb2.size
    have Q_2 := Q_1.step hb2
    have R_2 := R_1.step hb2
    have hS_2 : S12 w a h ha c6 v2 := ⟨lda_of Q_2.ba rfl, ldaD_of Q_2.bm rfl⟩
    refine hK9.out _ _ hS_2 (fun hS => ?_)
    clear hK9 K9
    try simp only [Act.put, List.setIfInBounds_toArray, List.set_cons_zero, List.set_cons_succ]
    refine wpAnyH_ready (rs := [12]) (by kernel_rfl) (by simp) ?_
    refine AllReadyH.cons (o := { dst := some 71, op := .call { callee := .value (.func 12), args := #[.tmp 70], argTypes := #[34] }, type := 29, pos := "law.go:117", after := #[⟨11, .data⟩, ⟨10, .chain⟩, ⟨8, .guard⟩], guard := some (8, false) }) rfl (fun K9 hK9 => ?_) AllReadyH.nil
    go_simp
    refine (rpnr19_any a h v2 _ Q_2.ml (fun b hb => by have := Q_2.lt; have := Q_2.hc; omega) HS1.out pq HPQ.out).mono ?_
    rintro e v3 ⟨hp2, rfl, op2, hb3⟩
    have op1 := op1.keep hb3
    have hn3 := hb3.size
    have Q_3 := Q_2.step hb3
    have R_3 := R_2.step hb3
    have hS_3 : S12 w a h ha c6 v3 := ⟨lda_of Q_3.ba rfl, ldaD_of Q_3.bm rfl⟩
    refine hK9.out _ _ hS_3 (fun hS => ?_)
    clear hK9 K9
    try simp only [Act.put, List.setIfInBounds_toArray, List.set_cons_zero, List.set_cons_succ]
    refine wpAnyH_ready (rs := [13]) (by kernel_rfl) (by simp) ?_
    refine AllReadyH.cons (o := { dst := some 72, op := .call { callee := .value (.func 10), args := #[.tmp 69, .tmp 71], argTypes := #[29, 29] }, type := 4, pos := "law.go:117", after := #[⟨10, .data⟩, ⟨12, .data⟩, ⟨12, .chain⟩, ⟨8, .guard⟩], guard := some (8, false) }) rfl (fun K9 hK9 => ?_) AllReadyH.nil
    go_simp
    refine (psame pq hp1 hp2 v3 _ _ op1.ps op2 (fun b hb => hb.2) (fun b hb => by rcases hb with hb | hb; (have := Q_3.lt; have := Q_3.hc; omega); exact hb.2) HPQS.out).mono ?_
    rintro e v4 ⟨rfl, hb4⟩
    have Q_4 := Q_3.step hb4
    have R_4 := R_3.step hb4
    have hS_4 : S12 w a h ha c6 v4 := ⟨lda_of Q_4.ba rfl, ldaD_of Q_4.bm rfl⟩
    refine hK9.out _ _ hS_4 (fun hS => ?_)
    clear hK9 K9
    try simp only [Act.put, List.setIfInBounds_toArray, List.set_cons_zero, List.set_cons_succ]
    refine tk (i := 14) (oi := { dst := some 73, op := .unOp .not 4 (.tmp 72), type := 4, pos := "law.go:117", after := #[⟨13, .data⟩, ⟨8, .guard⟩], guard := some (8, false) }) (v := ?_) ?_ hS ?_
    rotate_left
    · intro w9 hS9; have q1 := hS9.1; have q2 := hS9.2; go_simp; try with_reducible rfl
    try simp only [Act.put, List.setIfInBounds_toArray, List.set_cons_zero, List.set_cons_succ]
    refine tk (i := 15) (oi := { dst := some 74, op := .pick (.tmp 67) (.const (.bool true)) (.tmp 73), type := 4, pos := "law.go:117", after := #[⟨8, .data⟩, ⟨14, .data⟩], guard := none }) (v := ?_) ?_ hS ?_
    rotate_left
    · intro w9 hS9; have q1 := hS9.1; have q2 := hS9.2; go_simp; try with_reducible rfl
    try simp only [Act.put, List.setIfInBounds_toArray, List.set_cons_zero, List.set_cons_succ]
    refine wpAnyH_done (by kernel_rfl) ?_ _
    obtain ⟨V3, hV3⟩ : ∃ V3, V3 = v4 := ⟨_, rfl⟩
    rw [← hV3] at Q_4 R_4 ⊢
    have R3_ := Q_4
    have T3 := R_4
    clear hS hS_1 hS_2 hS_3 hS_4 hV3 Q_0 R_0 Q_1 R_1 Q_2 R_2 Q_3 R_3 Q_4 R_4 hb1 hb2 hb3 hb4 hn2 hn3 op1 op2 HPQ HPQS
    have xk := (XA _ R3_.B).c0
    by_cases h6 : x.kind = 6
    · have h6e : (x.kind != 6) = false := by rw [h6]; rfl
      have m1 : (0 : Int) ≤ x.kind := by omega
      have m2 : x.kind ≤ 8 := by omega
      obtain ⟨Wd, hWd⟩ : ∃ W, W = V3 := ⟨_, rfl⟩
      rw [← hWd] at R3_ T3 xk ⊢
      have Bd := R3_.B
      have bmd := R3_.bm
      have bad := R3_.ba
      have b8d := T3.b8
      have and_ := T3.an.mono (S' := fun b => b ≠ w.heap.size ∧ b < Wd.heap.size) (fun b hb => ⟨hb.1, hb.2.1⟩)
      have mld := R3_.ml
      have Ad := R3_.A
      have h04 := R3_.lt
      have h03 := R3_.hc
      clear hWd
      have ld1 := lda_of bad rfl
      have ld2 := ldaD_of bmd rfl
      have xk := (XA _ Bd).c0
      go_wp2_with fail
      refine (same19_any a ha h Wd _ _ Ad mld (fun b hb => by have := bad.lt; omega) (fun b hb => by have := bad.lt; omega) HS2.out).mono ?_
      rintro e w7 ⟨rfl, hb7⟩
      have b8e := b8d.below hb7 b8d.lt
      have bme := bmd.below hb7 bmd.lt
      have Be := Bd.trans (hb7.mono Bd.size)
      have ane := (and_.below hb7 fun b hb => hb.2).mono (S' := fun b => b ≠ w.heap.size ∧ b < w7.heap.size) fun b hb => ⟨hb.1, Nat.lt_of_lt_of_le hb.2 hb7.size⟩
      have mle := mld.below hb7 (fun b hb => by have := bad.lt; omega)
      have zze := hb7.size
      have zzd := bad.lt
      clear ld1 ld2 xk b8d bmd Bd and_ mld Ad bad hb7
      rcases done with _ | _
      · have lme := ldaD_of bme rfl
        have bmf := bme
        have Bf := Be
        have hMf : MX w a h w7 := ⟨Bf, bmf, mle.mono fun b hb => ⟨hb.1, by omega⟩⟩
        go_wp2_with fail
        refine (small19_any a h _).mono ?_
        rintro e w8 ⟨rfl, hb8⟩
        have hM8 := hMf.step hb8
        generalize hq9 : small19B h = b9
        have HQ9 := Lib.hid hq9
        clear hq9
        rcases b9 with _ | _
        · go_wp2
          all_goals first | (exfalso; omega) | (go_ret; exact ⟨rfl, hM8.B⟩)
        · go_wp2
          all_goals first | (exfalso; omega) | (exact ⟨⟨k + 1, a, h, by omega, by go_num, HQ9.out, hM8⟩, by simp [intOf]; omega⟩)
      · have l8 := ldaD_of b8e rfl
        have hst2 := std_of bme (cs := (aC q hn)) rfl rfl (aC_one _ _)
        have bmf := bme.row (aC q hn)
        have lmf := ldaD_of bmf rfl
        have Bf := below_setRow Be (Nat.le_refl _) (aC q hn)
        have anf := ane.keep (w' := w7.setRow w.heap.size (aC q hn)) (fun p hp => cell_setRow_other _ _ _ _ hp.1)
        have hMf : MX w q hn (w7.setRow w.heap.size (aC q hn)) := ⟨Bf, bmf, anf.mono fun b hb => ⟨hb.1, by simpa using hb.2⟩⟩
        go_wp2_with fail
        refine (small19_any q hn _).mono ?_
        rintro e w8 ⟨rfl, hb8⟩
        have hM8 := hMf.step hb8
        generalize hq9 : small19B hn = b9
        have HQ9 := Lib.hid hq9
        clear hq9
        rcases b9 with _ | _
        · go_wp2
          all_goals first | (exfalso; omega) | (go_ret; exact ⟨rfl, hM8.B⟩)
        · go_wp2
          all_goals first | (exfalso; omega) | (exact ⟨⟨k + 1, q, hn, by omega, by go_num, HQ9.out, hM8⟩, by simp [intOf]; omega⟩)
    · have h6e : (x.kind != 6) = true := by rw [bne_iff_ne]; exact h6
      have hK0 := Kr.refl l9 c9 V3
      have b7c : ∀ i : Nat, V3.cell? ⟨g7, i, none⟩ = (#[.string q.agent, .string q.off, .bool q.open_, .string q.base.loc, .string q.base.off, .slice hb.b.an hb.b.nn hb.b.cn, .slice hb.b.ag hb.b.ng hb.b.cg, .slice hb.b.ap hb.b.np hb.b.cp, .int .i64 q.base.tik.kind, .int .i64 q.base.tik.day, .int .i64 q.base.tik.min, .string q.base.rc, .slice hb.b.ar hb.b.nr hb.b.cr, .slice hb.b.ae hb.b.ne hb.b.ce, .bool q.base.queued, .int .u64 q.ver, .slice hb.ad hb.nd hb.cd, .slice hb.al hb.nl hb.cl, .bool q.working, .int .i64 q.queue] : Array Value)[i]? := T3.b7.cells
      have zl7 := T3.b7.lt
      have xk := (XA _ R3_.B).c0
      go_wp2
      obtain ⟨hbb, had, hnd, hcd, hal, hnl, hcl⟩ := hb
      have hbw := T3.bw
      have ⟨hn1, hn2, hn3⟩ := T3.hd
      dsimp only at hn1 hn2 hn3 hbw
      go_loopw [11] (fun i wr => ∃ j : Nat, j ≤ hnd ∧ i = .int .i64 j ∧ Kr l9 c9 V3 wr ∧ BW wr l9 c9 (AH.mk hbb had hnd hcd hal hnl hcl)) (fun i _ => hnd - (intOf i).toNat)
      case atStart => exact ⟨0, Nat.zero_le _, rfl, hK0, hbw⟩
      case round =>
        clear hK0 hbw b7c xk
        obtain ⟨j, hj, rfl, hKr, hbw⟩ := hrel
        have b7r := hKr.bx T3.b7 T3.p7
        have b7c : ∀ i : Nat, wr.cell? ⟨g7, i, none⟩ = (#[.string q.agent, .string q.off, .bool q.open_, .string q.base.loc, .string q.base.off, .slice hbb.an hbb.nn hbb.cn, .slice hbb.ag hbb.ng hbb.cg, .slice hbb.ap hbb.np hbb.cp, .int .i64 q.base.tik.kind, .int .i64 q.base.tik.day, .int .i64 q.base.tik.min, .string q.base.rc, .slice hbb.ar hbb.nr hbb.cr, .slice hbb.ae hbb.ne hbb.ce, .bool q.base.queued, .int .u64 q.ver, .slice had hnd hcd, .slice hal hnl hcl, .bool q.working, .int .i64 q.queue] : Array Value)[i]? := b7r.cells
        have hz := b7r.lt
        have hzs := hKr.size
        by_cases hltj : j < hnd
        · obtain ⟨g, hAd, gl, gh, hc⟩ := hbw.ad (by show 0 < hnd; omega)
          dsimp only at hAd
          subst hAd
          obtain ⟨⟨u, c0⟩, f0⟩ := hc (j * 16 + 12) (by show j * 16 + 12 < hnd * 16; omega)
          clear hc
          have hj0 : (0 : Int) ≤ j := by omega
          have hjl : (j : Int) < hnd := by omega
          have hgw : g < wr.heap.size := by have := T3.hc; omega
          go_wp2
          go_roundw
          case rel => exact ⟨j + 1, by omega, by go_num, hKr.set (a := ⟨g, j * 16 + 12, none⟩) gl gh _, hbw.set _ _⟩
          case measure => simp [intOf]; omega
        · go_wp2
          go_loopw [12] (fun i wr => ∃ j : Nat, j ≤ hnl ∧ i = .int .i64 j ∧ Kr l9 c9 V3 wr ∧ BW wr l9 c9 (AH.mk hbb had hnd hcd hal hnl hcl)) (fun i _ => hnl - (intOf i).toNat)
          case atStart => exact ⟨0, Nat.zero_le _, rfl, hKr, hbw⟩
          case round =>
            clear hKr hbw b7c b7r hz hzs
            obtain ⟨j2, hj2, rfl, hKr, hbw⟩ := hrel
            have b7r := hKr.bx T3.b7 T3.p7
            have b7c : ∀ i : Nat, wr.cell? ⟨g7, i, none⟩ = (#[.string q.agent, .string q.off, .bool q.open_, .string q.base.loc, .string q.base.off, .slice hbb.an hbb.nn hbb.cn, .slice hbb.ag hbb.ng hbb.cg, .slice hbb.ap hbb.np hbb.cp, .int .i64 q.base.tik.kind, .int .i64 q.base.tik.day, .int .i64 q.base.tik.min, .string q.base.rc, .slice hbb.ar hbb.nr hbb.cr, .slice hbb.ae hbb.ne hbb.ce, .bool q.base.queued, .int .u64 q.ver, .slice had hnd hcd, .slice hal hnl hcl, .bool q.working, .int .i64 q.queue] : Array Value)[i]? := b7r.cells
            have hz := b7r.lt
            have hzs := hKr.size
            by_cases hltj2 : j2 < hnl
            · obtain ⟨g, hAd, gl, gh, hc⟩ := hbw.al (by show 0 < hnl; omega)
              dsimp only at hAd
              subst hAd
              obtain ⟨⟨u, c0⟩, f0⟩ := hc (j2 * 3 + 2) (by show j2 * 3 + 2 < hnl * 3; omega)
              clear hc
              have hj0 : (0 : Int) ≤ j2 := by omega
              have hjl : (j2 : Int) < hnl := by omega
              have hgw : g < wr.heap.size := by have := T3.hc; omega
              go_wp2
              go_roundw
              case rel => exact ⟨j2 + 1, by omega, by go_num, hKr.set (a := ⟨g, j2 * 3 + 2, none⟩) gl gh _, hbw.set _ _⟩
              case measure => simp [intOf]; omega
            · have lpb := area_p b7r
              dsimp only at lpb
              go_wp2_with fail
              refine (spoil_wr q.base hbb wr l9 c9 hbw.b (by have := T3.l2; omega) (by have := T3.hc; omega) hn3).mono ?_
              rintro e Wd ⟨rfl, hBl, hkp⟩
              have hKd := hKr.trans ⟨hBl, hkp⟩
              have h01 := R3_.hl
              have h02 := T3.l1
              have h03 := R3_.hc
              have h04 := R3_.lt
              have h05 := hKd.size
              have Bd := R3_.B.trans (hKd.B.mono (by omega))
              have bmd := hKd.bx R3_.bm (.inl (by omega))
              have bad := hKd.bx R3_.ba T3.p6
              have b8d := hKd.bx T3.b8 T3.p8
              have and_ := (hKd.as T3.an (fun b hb => hb.2)).mono (S' := fun b => b ≠ w.heap.size ∧ b < Wd.heap.size) fun b hb => ⟨hb.1, by omega⟩
              have mld := hKd.as R3_.ml (fun b hb => ⟨by omega, .inl (by omega)⟩)
              clear lpb b7c b7r hbw hKr
              by_cases hin : 0 ≤ x.kind ∧ x.kind ≤ 8
              · have m1 := hin.1
                have m2 := hin.2
                have dk := T3.dok h6 m1 m2
                have Ad := hKd.as R3_.A (fun b hb => ⟨by omega, .inl (by omega)⟩)
                have ld1 := lda_of bad rfl
                have ld2 := ldaD_of bmd rfl
                have xk := (XA _ Bd).c0
                go_wp2_with fail
                refine (same19_any a ha h Wd _ _ Ad mld (fun b hb => by have := bad.lt; omega) (fun b hb => by have := bad.lt; omega) HS2.out).mono ?_
                rintro e w7 ⟨rfl, hb7⟩
                have b8e := b8d.below hb7 b8d.lt
                have bme := bmd.below hb7 bmd.lt
                have Be := Bd.trans (hb7.mono Bd.size)
                have ane := (and_.below hb7 fun b hb => hb.2).mono (S' := fun b => b ≠ w.heap.size ∧ b < w7.heap.size) fun b hb => ⟨hb.1, Nat.lt_of_lt_of_le hb.2 hb7.size⟩
                have mle := mld.below hb7 (fun b hb => by have := bad.lt; omega)
                have zze := hb7.size
                have zzd := bad.lt
                clear ld1 ld2 xk b8d bmd Bd and_ mld Ad bad hb7
                rcases done with _ | _
                · have lme := ldaD_of bme rfl
                  have bmf := bme
                  have Bf := Be
                  have hMf : MX w a h w7 := ⟨Bf, bmf, mle.mono fun b hb => ⟨hb.1, by omega⟩⟩
                  go_wp2_with fail
                  refine (small19_any a h _).mono ?_
                  rintro e w8 ⟨rfl, hb8⟩
                  have hM8 := hMf.step hb8
                  generalize hq9 : small19B h = b9
                  have HQ9 := Lib.hid hq9
                  clear hq9
                  rcases b9 with _ | _
                  · go_wp2
                    all_goals first | (exfalso; omega) | (go_ret; exact ⟨rfl, hM8.B⟩)
                  · go_wp2
                    all_goals first | (exfalso; omega) | (exact ⟨⟨k + 1, a, h, by omega, by go_num, HQ9.out, hM8⟩, by simp [intOf]; omega⟩)
                · have l8 := ldaD_of b8e rfl
                  have hst2 := std_of bme (cs := (aC q hn)) rfl rfl (aC_one _ _)
                  have bmf := bme.row (aC q hn)
                  have lmf := ldaD_of bmf rfl
                  have Bf := below_setRow Be (Nat.le_refl _) (aC q hn)
                  have anf := ane.keep (w' := w7.setRow w.heap.size (aC q hn)) (fun p hp => cell_setRow_other _ _ _ _ hp.1)
                  have hMf : MX w q hn (w7.setRow w.heap.size (aC q hn)) := ⟨Bf, bmf, anf.mono fun b hb => ⟨hb.1, by simpa using hb.2⟩⟩
                  go_wp2_with fail
                  refine (small19_any q hn _).mono ?_
                  rintro e w8 ⟨rfl, hb8⟩
                  have hM8 := hMf.step hb8
                  generalize hq9 : small19B hn = b9
                  have HQ9 := Lib.hid hq9
                  clear hq9
                  rcases b9 with _ | _
                  · go_wp2
                    all_goals first | (exfalso; omega) | (go_ret; exact ⟨rfl, hM8.B⟩)
                  · go_wp2
                    all_goals first | (exfalso; omega) | (exact ⟨⟨k + 1, q, hn, by omega, by go_num, HQ9.out, hM8⟩, by simp [intOf]; omega⟩)
              · have m1 : x.kind < 0 ∨ (¬ x.kind < 0 ∧ 8 < x.kind) := by omega
                rcases m1 with m1 | ⟨m1, m2⟩
                · have xk := (XA _ Bd).c0
                  have b8e := b8d
                  have bme := bmd
                  have Be := Bd
                  have ane := and_
                  have mle := mld
                  have zze : Wd.heap.size ≤ Wd.heap.size := Nat.le_refl _
                  have zzd := bad.lt
                  rcases done with _ | _
                  · have lme := ldaD_of bme rfl
                    have bmf := bme
                    have Bf := Be
                    have hMf : MX w a h Wd := ⟨Bf, bmf, mle.mono fun b hb => ⟨hb.1, by omega⟩⟩
                    go_wp2_with fail
                    refine (small19_any a h _).mono ?_
                    rintro e w8 ⟨rfl, hb8⟩
                    have hM8 := hMf.step hb8
                    generalize hq9 : small19B h = b9
                    have HQ9 := Lib.hid hq9
                    clear hq9
                    rcases b9 with _ | _
                    · go_wp2
                      all_goals first | (exfalso; omega) | (go_ret; exact ⟨rfl, hM8.B⟩)
                    · go_wp2
                      all_goals first | (exfalso; omega) | (exact ⟨⟨k + 1, a, h, by omega, by go_num, HQ9.out, hM8⟩, by simp [intOf]; omega⟩)
                  · have l8 := ldaD_of b8e rfl
                    have hst2 := std_of bme (cs := (aC q hn)) rfl rfl (aC_one _ _)
                    have bmf := bme.row (aC q hn)
                    have lmf := ldaD_of bmf rfl
                    have Bf := below_setRow Be (Nat.le_refl _) (aC q hn)
                    have anf := ane.keep (w' := Wd.setRow w.heap.size (aC q hn)) (fun p hp => cell_setRow_other _ _ _ _ hp.1)
                    have hMf : MX w q hn (Wd.setRow w.heap.size (aC q hn)) := ⟨Bf, bmf, anf.mono fun b hb => ⟨hb.1, by simpa using hb.2⟩⟩
                    go_wp2_with fail
                    refine (small19_any q hn _).mono ?_
                    rintro e w8 ⟨rfl, hb8⟩
                    have hM8 := hMf.step hb8
                    generalize hq9 : small19B hn = b9
                    have HQ9 := Lib.hid hq9
                    clear hq9
                    rcases b9 with _ | _
                    · go_wp2
                      all_goals first | (exfalso; omega) | (go_ret; exact ⟨rfl, hM8.B⟩)
                    · go_wp2
                      all_goals first | (exfalso; omega) | (exact ⟨⟨k + 1, q, hn, by omega, by go_num, HQ9.out, hM8⟩, by simp [intOf]; omega⟩)
                · have xk := (XA _ Bd).c0
                  have b8e := b8d
                  have bme := bmd
                  have Be := Bd
                  have ane := and_
                  have mle := mld
                  have zze : Wd.heap.size ≤ Wd.heap.size := Nat.le_refl _
                  have zzd := bad.lt
                  rcases done with _ | _
                  · have lme := ldaD_of bme rfl
                    have bmf := bme
                    have Bf := Be
                    have hMf : MX w a h Wd := ⟨Bf, bmf, mle.mono fun b hb => ⟨hb.1, by omega⟩⟩
                    go_wp2_with fail
                    refine (small19_any a h _).mono ?_
                    rintro e w8 ⟨rfl, hb8⟩
                    have hM8 := hMf.step hb8
                    generalize hq9 : small19B h = b9
                    have HQ9 := Lib.hid hq9
                    clear hq9
                    rcases b9 with _ | _
                    · go_wp2
                      all_goals first | (exfalso; omega) | (go_ret; exact ⟨rfl, hM8.B⟩)
                    · go_wp2
                      all_goals first | (exfalso; omega) | (exact ⟨⟨k + 1, a, h, by omega, by go_num, HQ9.out, hM8⟩, by simp [intOf]; omega⟩)
                  · have l8 := ldaD_of b8e rfl
                    have hst2 := std_of bme (cs := (aC q hn)) rfl rfl (aC_one _ _)
                    have bmf := bme.row (aC q hn)
                    have lmf := ldaD_of bmf rfl
                    have Bf := below_setRow Be (Nat.le_refl _) (aC q hn)
                    have anf := ane.keep (w' := Wd.setRow w.heap.size (aC q hn)) (fun p hp => cell_setRow_other _ _ _ _ hp.1)
                    have hMf : MX w q hn (Wd.setRow w.heap.size (aC q hn)) := ⟨Bf, bmf, anf.mono fun b hb => ⟨hb.1, by simpa using hb.2⟩⟩
                    go_wp2_with fail
                    refine (small19_any q hn _).mono ?_
                    rintro e w8 ⟨rfl, hb8⟩
                    have hM8 := hMf.step hb8
                    generalize hq9 : small19B hn = b9
                    have HQ9 := Lib.hid hq9
                    clear hq9
                    rcases b9 with _ | _
                    · go_wp2
                      all_goals first | (exfalso; omega) | (go_ret; exact ⟨rfl, hM8.B⟩)
                    · go_wp2
                      all_goals first | (exfalso; omega) | (exact ⟨⟨k + 1, q, hn, by omega, by go_num, HQ9.out, hM8⟩, by simp [intOf]; omega⟩)
end Go.Proofs.YtpgeoahlhdifoaaGreatDoor
