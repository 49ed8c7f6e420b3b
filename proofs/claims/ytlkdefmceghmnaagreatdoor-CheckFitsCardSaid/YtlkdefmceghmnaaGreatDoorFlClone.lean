/- slices.Clone at classes; slices of flights in types. -/
import Derived.Test.YtlkdefmceghmnaaGreatDoorFl1
import Derived.Test.YtlkdefmceghmnaaGreatDoorProg
import Derived.WalkSpells
namespace Go.Proofs.YtlkdefmceghmnaaGreatDoor
set_option linter.unusedVariables false
open Go Go.RowKit
theorem eqlnil (t e : TypeId) (h : Tryz.prog.underlying t = some (.slice e)) (a : Addr) (n c : Nat) (u : World) : (binOp .eql t (.slice (some a) n c) (.slice none 0 0)).run Tryz.prog u = .ok (.bool false) u := by
  simp only [binOp]
  simp [Op.equal, Op.maxDepth, Lib.run_equalIn_slice_nil u 9999 t e (some a) n c 0 0 h]
theorem eqlnil0 (t e : TypeId) (h : Tryz.prog.underlying t = some (.slice e)) (n c : Nat) (u : World) : (binOp .eql t (.slice none n c) (.slice none 0 0)).run Tryz.prog u = .ok (.bool true) u := by
  simp only [binOp]
  simp [Op.equal, Op.maxDepth, Lib.run_equalIn_slice_nil u 9999 t e none n c 0 0 h]
theorem sl_cls : SlT Tryz.prog 53 99 2 := SlT.mk' (z := .agg #[.int .u8 0, .int .i64 0]) (b := 16) Tryz.underlying53 (by kernel_rfl) (by omega) rfl
set_option maxRecDepth 100000 in
set_option maxHeartbeats 1000000 in
theorem clone_cls (l : List _) (A : Option Addr) (n c : Nat) (w : World) (lo hi : Nat) (hs : Sl w lo hi tCls A n l) (hn : n ≤ 100000) (hhi : hi ≤ w.heap.size) (hc : A = none → c = 0) :
    Calls Tryz.prog 47 #[.slice A n c] w (RetOwn w 99 tCls l) := by
  have hcap := Lib.hid hc
  clear hc
  cases A with
  | none =>
    obtain rfl : c = 0 := hcap.out rfl
    have h0 : n = 0 := by
      rcases Nat.eq_zero_or_pos n with h | h
      · exact h
      · obtain ⟨b, o, hA, _⟩ := hs.cells h; cases hA
    subst h0
    have hl : l = [] := List.eq_nil_of_length_eq_zero hs.len
    subst hl
    have he := eqlnil0 _ _ Tryz.underlying53 0 0
    go_enter Tryz.func47, Tryz.ntmps47
    go_wp2
    go_ret
    exact RetOwn.mk' (Own.nil_ _ _ _ _) (by (repeat (first | with_reducible exact Below.refl _ _ | (with_reducible refine Below.drew ?_) | (with_reducible refine below_drewN ?_ _) | (with_reducible refine Below.alloc ?_ (by first | (simp; done) | omega | (simp; omega)) _) | (with_reducible refine Below.setCell ?_ (by first | (simp; done) | omega | (simp; omega)) _) | with_reducible assumption)))
  | some a =>
    have hlen := Lib.hid hs.len
    have hm : World.ownsRow (w.alloc (.cells #[] 99)) w.heap.size 99 2 (.slice (some ⟨w.heap.size, 0, none⟩) 0 0) 0 [] := World.ownsRow_made w #[] 0 (Nat.le_refl _) (by unfold maxLen; omega) rfl
    have hown : Own (w.alloc (.cells #[] 99)) w.heap.size 99 tCls (.slice (some ⟨w.heap.size, 0, none⟩) 0 0) [] := ⟨(fun _ h => absurd h List.not_mem_nil), hm⟩
    clear hm
    have he := eqlnil _ _ Tryz.underlying53 a n c
    go_enter Tryz.func47, Tryz.ntmps47
    go_wp2_with (at_builtin; refine append_law (l := []) rfl (.tmp 5) (.tmp 6) rfl sl_cls rfl hown rfl (hs.alloc hhi _) (fun h => by cases h) (by simp) (by simp; omega) ?_; intro v' w' hown' hgr hb')
    go_ret
    rw [List.nil_append] at hown'
    exact RetOwn.mk' hown' (((Below.refl _ _).alloc (Nat.le_refl _) _).grown hgr (by simp) (fun k hk => (hown.lt k hk).1))
theorem sl_flt : SlT Tryz.prog 22 55 9 := SlT.mk' (z := .agg #[.string ⟨#[]⟩, .int .i64 0, .string ⟨#[]⟩, .string ⟨#[]⟩, .int .u8 0, .int .i64 0, .int .i64 0, .slice none 0 0, .int .i64 0]) (b := 112) Tryz.underlying22 (by kernel_rfl) (by omega) rfl
theorem info_flt : (Tryz.prog.info? 55).map (·.size) = some 9 := by kernel_rfl
end Go.Proofs.YtlkdefmceghmnaaGreatDoor
