/- The laws' awake: the two flights that it knows. -/
import Derived.Test.YtodholjbefifeaaDoorFlLaw1
namespace Go.Proofs.YtodholjbefifeaaDoor
set_option linter.unusedVariables false
open Go Go.RowKit Go.Sort
def fOne (num : Int) (fr to_ : ByteArray) (dep arr : Int) : Flt := ⟨⟨#[66, 65]⟩, num, fr, to_, 65, dep, arr, [⟨89, 9⟩], 0⟩
set_option maxRecDepth 100000 in
set_option maxHeartbeats 1000000 in
theorem one_any (num : Int) (fr to_ : ByteArray) (dep arr : Int) (w : World) :
    Calls Tryd.prog 32 #[.int .i64 num, .string fr, .string to_, .int .i64 dep, .int .i64 arr] w fun e w' =>
      e = .returned (.agg #[.string ⟨#[66, 65]⟩, .int .i64 num, .string fr, .string to_, .int .u8 65, .int .i64 dep, .int .i64 arr, .slice (some ⟨w.heap.size + 1, 0, none⟩) 1 1, .int .i64 0]) ∧ Sl w' 0 w'.heap.size tCls (some ⟨w.heap.size + 1, 0, none⟩) 1 [⟨89, 9⟩] ∧ Below w.heap.size w w' := by
  have hx := (Bx.new w zf 26).alloc (.cells #[.int .u8 89, .int .i64 9] 54)
  have hs := Sl.one (T := tCls) (w.alloc (.cells zf 26)) (⟨89, 9⟩ : Cls) (by unfold tCls Cls.ok okByte okInt; simp) #[.int .u8 89, .int .i64 9] rfl 54
  rw [World.size_alloc] at hs
  have hb : Below w.heap.size w ((w.alloc (.cells zf 26)).alloc (.cells #[.int .u8 89, .int .i64 9] 54)) := ((Below.refl _ _).alloc (Nat.le_refl _) _).alloc (by simp) _
  go_enter Tryd.func32, Tryd.ntmps32
  go_wp2_with (refine store_rf rfl (.tmp 10) (.tmp 19) rfl #[.string ⟨#[66, 65]⟩, .int .i64 num, .string fr, .string to_, .int .u8 65, .int .i64 dep, .int .i64 arr, .slice (some ⟨w.heap.size + 1, 0, none⟩) 1 1, .int .i64 0] rfl rfl hx rfl rfl (by simp [Value.oneCell']) ?_)
  refine ret_f1 Tryd.results32 (hx.row _) rfl rfl rfl ?_
  refine ⟨rfl, ?_, below_setRow hb (Nat.le_refl _) _⟩
  have h2 := hs.keep (w' := ((w.alloc (.cells zf 26)).alloc (.cells #[.int .u8 89, .int .i64 9] 54)).setRow w.heap.size #[.string ⟨#[66, 65]⟩, .int .i64 num, .string fr, .string to_, .int .u8 65, .int .i64 dep, .int .i64 arr, .slice (some ⟨w.heap.size + 1, 0, none⟩) 1 1, .int .i64 0]) fun p h1 _ => World.cell?_of_block (setRow_other _ _ _ _ (by omega))
  exact h2.more (Nat.zero_le _) (by simp)
set_option maxRecDepth 100000 in
set_option maxHeartbeats 400000 in
theorem itoa_one (w : World) : Calls Tryd.prog 40 #[.int .i64 1] w fun e w' => e = .returned (.string ⟨#[49]⟩) ∧ w' = w := by
  go_enter Tryd.func40, Tryd.ntmps40
  go_wp2_with go_in
  go_ret
  exact ⟨rfl, rfl⟩
set_option maxRecDepth 100000 in
set_option maxHeartbeats 400000 in
theorem text_one (w : World) : Calls Tryd.prog 12 #[.agg #[.string ⟨#[66, 65]⟩, .int .i64 1]] w fun e w' => e = .returned (.string ⟨#[66, 65, 49]⟩) ∧ Below w.heap.size w w' := by
  have HB := box1 w #[.string ⟨#[66, 65]⟩, .int .i64 1] 23
  go_enter Tryd.func12, Tryd.ntmps12
  go_wp2
  go_quiet ((go_at_call 40; exact Calls.quiet_of_same (itoa_one _)))
  go_wp2
  go_ret
  exact ⟨rfl, below_drewN HB.2 _⟩
def lon : ByteArray := ⟨#[76, 79, 78]⟩
def par : ByteArray := ⟨#[80, 65, 82]⟩
def rom : ByteArray := ⟨#[82, 79, 77]⟩
def f2 : Flt := fOne 2 par rom 645 700
def f1 : Flt := fOne 1 lon par 540 600
theorem new2 : newF [f2, f1] = 0 := by kernel_rfl
theorem nok2 : Nok [f2, f1] := by
  rw [nok_iff]
  exact of_decide_eq_true (by kernel_rfl)
theorem link2 : linksF [f2, f1] 6 lon rom = [(f1, f2)] := by kernel_rfl
theorem bet0 : betwF [f2, f1] 0 lon par = [f1] := by kernel_rfl
theorem bet1 : betwF [f2, f1] 1 lon par = [] := by kernel_rfl
end Go.Proofs.YtodholjbefifeaaDoor
