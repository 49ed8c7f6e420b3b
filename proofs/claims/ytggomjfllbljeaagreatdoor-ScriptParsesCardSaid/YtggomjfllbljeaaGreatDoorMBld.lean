/- Put together by program of: Bld, Ret. -/
import Derived.Shelf.Strings.Builder1
import Derived.Test.YtggomjfllbljeaaGreatDoorProg
import Derived.Test.YtggomjfllbljeaaGreatDoorScB
namespace Go.Proofs.YtggomjfllbljeaaGreatDoor
set_option linter.unusedVariables false
open Go Go.Proofs Go.Shelf Go.RowKit
def laysSt_ren : Go.Shelf.Ren := ⟨fun | 169 => 24 | n => n, fun | 70 => 56 | 9 => 9 | 0 => 0 | 72 => 59 | 37 => 57 | 127 => 109 | 3 => 3 | 5 => 5 | n => n, fun | n => n⟩
theorem laysSt : Go.Proofs.Lays.n169 Tryz.prog laysSt_ren := {
  mixed := by kernel_rfl
  f169 := Tryz.func24.trans (congrArg some (by kernel_rfl))
  t0 := Tryz.underlying0
  a0 := Tryz.isAgg0
  z0 := Tryz.sizeOf0
  v0 := Tryz.zeroValue0
  t3 := Tryz.underlying3
  a3 := Tryz.isAgg3
  z3 := Tryz.sizeOf3
  v3 := Tryz.zeroValue3
  t9 := Tryz.underlying9
  a9 := Tryz.isAgg9
  z9 := Tryz.sizeOf9
  v9 := Tryz.zeroValue9
  t37 := Tryz.underlying57
  a37 := Tryz.isAgg57
  z37 := Tryz.sizeOf57
  v37 := Tryz.zeroValue57
  t70 := Tryz.underlying56
  a70 := Tryz.isAgg56
  z70 := Tryz.sizeOf56
  v70 := Tryz.zeroValue56
  t72 := Tryz.underlying59
  a72 := Tryz.isAgg59
  z72 := Tryz.sizeOf59
  v72 := Tryz.zeroValue59
  t127 := Tryz.underlying109
  a127 := Tryz.isAgg109
  z127 := Tryz.sizeOf109
  v127 := Tryz.zeroValue109 }
def laysWs_ren : Go.Shelf.Ren := ⟨fun | 166 => 21 | 240 => 40 | 276 => 66 | n => n, fun | 0 => 0 | 3 => 3 | 4 => 4 | 5 => 5 | 9 => 9 | 20 => 20 | 37 => 57 | 70 => 56 | 72 => 59 | 75 => 61 | 80 => 69 | 164 => 147 | n => n, fun | n => n⟩
theorem laysWs : Go.Proofs.Lays.n166 Tryz.prog laysWs_ren := {
  mixed := by kernel_rfl
  f166 := Tryz.func21.trans (congrArg some (by kernel_rfl))
  f240 := Tryz.func40.trans (congrArg some (by kernel_rfl))
  f276 := Tryz.func66.trans (congrArg some (by kernel_rfl))
  t0 := Tryz.underlying0
  a0 := Tryz.isAgg0
  z0 := Tryz.sizeOf0
  v0 := Tryz.zeroValue0
  t3 := Tryz.underlying3
  a3 := Tryz.isAgg3
  z3 := Tryz.sizeOf3
  v3 := Tryz.zeroValue3
  t4 := Tryz.underlying4
  a4 := Tryz.isAgg4
  z4 := Tryz.sizeOf4
  v4 := Tryz.zeroValue4
  t9 := Tryz.underlying9
  a9 := Tryz.isAgg9
  z9 := Tryz.sizeOf9
  v9 := Tryz.zeroValue9
  t20 := Tryz.underlying20
  a20 := Tryz.isAgg20
  z20 := Tryz.sizeOf20
  v20 := Tryz.zeroValue20
  t37 := Tryz.underlying57
  a37 := Tryz.isAgg57
  z37 := Tryz.sizeOf57
  v37 := Tryz.zeroValue57
  t70 := Tryz.underlying56
  a70 := Tryz.isAgg56
  z70 := Tryz.sizeOf56
  v70 := Tryz.zeroValue56
  t72 := Tryz.underlying59
  a72 := Tryz.isAgg59
  z72 := Tryz.sizeOf59
  v72 := Tryz.zeroValue59
  t75 := Tryz.underlying61
  a75 := Tryz.isAgg61
  z75 := Tryz.sizeOf61
  v75 := Tryz.zeroValue61
  t164 := Tryz.underlying147
  a164 := Tryz.isAgg147
  z164 := Tryz.sizeOf147
  v164 := Tryz.zeroValue147 }
theorem bld_laysWs : Builder.Extra Tryz.prog laysWs_ren where
  sizeBuilder := by kernel_rfl
  liesBuilder := by kernel_rfl
  t5 := Tryz.underlying5
  a5 := Tryz.isAgg5
  z5 := Tryz.sizeOf5
  v5 := Tryz.zeroValue5
  infoByte := by kernel_rfl
  cellsByte := by kernel_rfl
  sizeByte := by kernel_rfl
  neB5 := by decide
theorem bld_laysSt : Builder.Extra Tryz.prog laysSt_ren where
  sizeBuilder := by kernel_rfl
  liesBuilder := by kernel_rfl
  t5 := Tryz.underlying5
  a5 := Tryz.isAgg5
  z5 := Tryz.sizeOf5
  v5 := Tryz.zeroValue5
  infoByte := by kernel_rfl
  cellsByte := by kernel_rfl
  sizeByte := by kernel_rfl
  neB5 := by decide
/-- A builder of the call's own, from block B on, at block b, that holds these bytes. -/
abbrev IsB (B b : Nat) (l : List UInt8) (w : World) : Prop := Lib.IsBuilder 59 5 B b (Lib.byteCells l) w
theorem bwrite (B b : Nat) (l : List UInt8) (s : ByteArray) (w : World) (h : IsB B b l w) (hl : l.length + s.size ≤ 100000) (hB : B ≤ w.heap.size) :
    Calls Tryz.prog 21 #[.pointer (some ⟨b, 0, none⟩), .string s] w fun e w' => e = .returned (.tuple #[.int .i64 s.size, .nilIface]) ∧ IsB B b (l ++ s.data.toList) w' ∧ Below B w w' :=
  (Any.Builder_WriteString laysWs bld_laysWs B b (Lib.byteCells l) s w h (by simp [Lib.byteCells]; omega) hB).mono fun e w' h => ⟨h.1, .inr (by have hq := h.2.1; simp only [Lib.byteCells, Lib.strCells, List.map_append] at hq ⊢; exact hq), h.2.2⟩
theorem bstring (B b : Nat) (l : List UInt8) (w : World) (h : IsB B b l w) (h0 : l ≠ []) : Calls Tryz.prog 24 #[.pointer (some ⟨b, 0, none⟩)] w fun e w' => e = .returned (.string ⟨l.toArray⟩) ∧ Below B w w' :=
  Any.Builder_String laysSt bld_laysSt B b l w h h0
end Go.Proofs.YtggomjfllbljeaaGreatDoor
namespace Go.Proofs.YtggomjfllbljeaaGreatDoor
set_option linter.unusedVariables false
open Go Go.RowKit
theorem load_one {w : World} {g : Nat} {v : Value} {t ty : TypeId} (ha : ∀ w, (isAgg ty).run Tryz.prog w = .ok false w) (h : Bx w g #[v] t) : (loadVar ty ⟨g, 0, none⟩).run Tryz.prog w = .ok v w := by
  have hc := h.cells 0
  simp [loadVar, Sem.run_bind, ha, Result.andThen, go_sem, hc]
theorem ret_run {fn : Func} {p q r : Tmp} (h : fn.results = #[.cell p 9, .cell q 3, .cell r 26]) {tmps : Array Value} {w : World} {g1 g2 g3 : Nat} {s : ByteArray} {i j : Int} (h1 : Bx w g1 #[.string s] 9) (h2 : Bx w g2 #[.int .i64 i] 3) (h3 : Bx w g3 #[.int .i64 j] 26)
    (hp : tmps.getD p undef = .pointer (some ⟨g1, 0, none⟩)) (hq : tmps.getD q undef = .pointer (some ⟨g2, 0, none⟩)) (hr : tmps.getD r undef = .pointer (some ⟨g3, 0, none⟩)) : (results fn tmps).run Tryz.prog w = .ok (.tuple #[.string s, .int .i64 i, .int .i64 j]) w := by
  have l1 := load_one Tryz.isAgg9 h1
  have l2 := load_one Tryz.isAgg3 h2
  have l3 := load_one Tryz.isAgg26 h3
  have hp' : tmps[p]?.getD undef = .pointer (some ⟨g1, 0, none⟩) := by simpa using hp
  have hq' : tmps[q]?.getD undef = .pointer (some ⟨g2, 0, none⟩) := by simpa using hq
  have hr' : tmps[r]?.getD undef = .pointer (some ⟨g3, 0, none⟩) := by simpa using hr
  simp [results, h, hp', hq', hr', asAddr, l1, l2, l3, Sem.run_bind, Result.andThen]
end Go.Proofs.YtggomjfllbljeaaGreatDoor
