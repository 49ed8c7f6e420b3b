/- slices.Clone at edits and legs. -/
import Derived.Test.YtpgeoahlhdifoaaGreatDoorArea1
import Derived.WalkSpells
namespace Go.Proofs.YtpgeoahlhdifoaaGreatDoor
set_option linter.unusedVariables false
open Go Go.RowKit
theorem sl_edi : SlT Tryz.prog 31 50 16 := SlT.mk' (z := .agg #[.int .i64 0, .string ⟨#[]⟩, .string ⟨#[]⟩, .string ⟨#[]⟩, .int .i64 0, .int .i64 0, .int .u8 0, .bool false, .int .i64 0, .int .i64 0, .int .i64 0, .string ⟨#[]⟩, .int .i64 0, .int .i64 0, .int .i64 0, .int .u8 0]) (b := 152) Tryz.underlying31 (by kernel_rfl) (by omega) rfl
set_option maxRecDepth 100000 in
set_option maxHeartbeats 1000000 in
theorem clone_edi (l : List _) (A : Option Addr) (n c : Nat) (w : World) (lo hi : Nat) (hs : Sl w lo hi tEdit A n l) (hn : n ≤ 100000) (hhi : hi ≤ w.heap.size) (hc : A = none → c = 0) :
    Calls Tryz.prog 62 #[.slice A n c] w (RetOwn w 50 tEdit l) := by
  have hcap := Lib.hid hc
  clear hc
  cases A with
  | none =>
    obtain rfl : c = 0 := hcap.out rfl
    have h0 : n = 0 := by
      rcases Nat.eq_zero_or_pos n with h | h
      · exact h
      · obtain ⟨b, o, hA, _⟩ := hs.cells h; cases hA
    subst h0
    have hl : l = [] := List.eq_nil_of_length_eq_zero hs.len
    subst hl
    have he := eqlnil0 _ _ Tryz.underlying31 0 0
    go_enter Tryz.func62, Tryz.ntmps62
    go_wp2
    go_ret
    exact RetOwn.mk' (Own.nil_ _ _ _ _) (by (repeat (first | with_reducible exact Below.refl _ _ | (with_reducible refine Below.drew ?_) | (with_reducible refine below_drewN ?_ _) | (with_reducible refine Below.alloc ?_ (by first | (simp; done) | omega | (simp; omega)) _) | (with_reducible refine Below.setCell ?_ (by first | (simp; done) | omega | (simp; omega)) _) | with_reducible assumption)))
  | some a =>
    have hlen := Lib.hid hs.len
    have hm : World.ownsRow (w.alloc (.cells #[] 50)) w.heap.size 50 16 (.slice (some ⟨w.heap.size, 0, none⟩) 0 0) 0 [] := World.ownsRow_made w #[] 0 (Nat.le_refl _) (by unfold maxLen; omega) rfl
    have hown : Own (w.alloc (.cells #[] 50)) w.heap.size 50 tEdit (.slice (some ⟨w.heap.size, 0, none⟩) 0 0) [] := ⟨(fun _ h => absurd h List.not_mem_nil), hm⟩
    clear hm
    have he := eqlnil _ _ Tryz.underlying31 a n c
    go_enter Tryz.func62, Tryz.ntmps62
    go_wp2_with (at_builtin; refine append_law (l := []) rfl (.tmp 5) (.tmp 6) rfl sl_edi rfl hown rfl (hs.alloc hhi _) (fun h => by cases h) (by simp) (by simp; omega) ?_; intro v' w' hown' hgr hb')
    go_ret
    rw [List.nil_append] at hown'
    exact RetOwn.mk' hown' (((Below.refl _ _).alloc (Nat.le_refl _) _).grown hgr (by simp) (fun k hk => (hown.lt k hk).1))
theorem sl_leg : SlT Tryz.prog 32 44 3 := SlT.mk' (z := .agg #[.string ⟨#[]⟩, .int .i64 0, .int .i64 0]) (b := 32) Tryz.underlying32 (by kernel_rfl) (by omega) rfl
set_option maxRecDepth 100000 in
set_option maxHeartbeats 1000000 in
theorem clone_leg (l : List _) (A : Option Addr) (n c : Nat) (w : World) (lo hi : Nat) (hs : Sl w lo hi tLeg A n l) (hn : n ≤ 100000) (hhi : hi ≤ w.heap.size) (hc : A = none → c = 0) :
    Calls Tryz.prog 47 #[.slice A n c] w (RetOwn w 44 tLeg l) := by
  have hcap := Lib.hid hc
  clear hc
  cases A with
  | none =>
    obtain rfl : c = 0 := hcap.out rfl
    have h0 : n = 0 := by
      rcases Nat.eq_zero_or_pos n with h | h
      · exact h
      · obtain ⟨b, o, hA, _⟩ := hs.cells h; cases hA
    subst h0
    have hl : l = [] := List.eq_nil_of_length_eq_zero hs.len
    subst hl
    have he := eqlnil0 _ _ Tryz.underlying32 0 0
    go_enter Tryz.func47, Tryz.ntmps47
    go_wp2
    go_ret
    exact RetOwn.mk' (Own.nil_ _ _ _ _) (by (repeat (first | with_reducible exact Below.refl _ _ | (with_reducible refine Below.drew ?_) | (with_reducible refine below_drewN ?_ _) | (with_reducible refine Below.alloc ?_ (by first | (simp; done) | omega | (simp; omega)) _) | (with_reducible refine Below.setCell ?_ (by first | (simp; done) | omega | (simp; omega)) _) | with_reducible assumption)))
  | some a =>
    have hlen := Lib.hid hs.len
    have hm : World.ownsRow (w.alloc (.cells #[] 44)) w.heap.size 44 3 (.slice (some ⟨w.heap.size, 0, none⟩) 0 0) 0 [] := World.ownsRow_made w #[] 0 (Nat.le_refl _) (by unfold maxLen; omega) rfl
    have hown : Own (w.alloc (.cells #[] 44)) w.heap.size 44 tLeg (.slice (some ⟨w.heap.size, 0, none⟩) 0 0) [] := ⟨(fun _ h => absurd h List.not_mem_nil), hm⟩
    clear hm
    have he := eqlnil _ _ Tryz.underlying32 a n c
    go_enter Tryz.func47, Tryz.ntmps47
    go_wp2_with (at_builtin; refine append_law (l := []) rfl (.tmp 5) (.tmp 6) rfl sl_leg rfl hown rfl (hs.alloc hhi _) (fun h => by cases h) (by simp) (by simp; omega) ?_; intro v' w' hown' hgr hb')
    go_ret
    rw [List.nil_append] at hown'
    exact RetOwn.mk' hown' (((Below.refl _ _).alloc (Nat.le_refl _) _).grown hgr (by simp) (fun k hk => (hown.lt k hk).1))
end Go.Proofs.YtpgeoahlhdifoaaGreatDoor
