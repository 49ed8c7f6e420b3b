/- slices.Clone at the program's element types: new memory that holds the same. -/
import Derived.Test.YtpgeoahlhdifoaaGreatDoorLib2
import Derived.WalkSpells
namespace Go.Proofs.YtpgeoahlhdifoaaGreatDoor
set_option linter.unusedVariables false
open Go Go.RowKit
theorem eqlnil (t e : TypeId) (h : Tryz.prog.underlying t = some (.slice e)) (a : Addr) (n c : Nat) (u : World) : (binOp .eql t (.slice (some a) n c) (.slice none 0 0)).run Tryz.prog u = .ok (.bool false) u := by
  simp only [binOp]
  simp [Op.equal, Op.maxDepth, Lib.run_equalIn_slice_nil u 9999 t e (some a) n c 0 0 h]
theorem eqlnil0 (t e : TypeId) (h : Tryz.prog.underlying t = some (.slice e)) (n c : Nat) (u : World) : (binOp .eql t (.slice none n c) (.slice none 0 0)).run Tryz.prog u = .ok (.bool true) u := by
  simp only [binOp]
  simp [Op.equal, Op.maxDepth, Lib.run_equalIn_slice_nil u 9999 t e none n c 0 0 h]
theorem sl_nam : SlT Tryz.prog 22 40 2 := SlT.mk' (z := .agg #[.string ⟨#[]⟩, .string ⟨#[]⟩]) (b := 32) Tryz.underlying22 (by kernel_rfl) (by omega) rfl
set_option maxRecDepth 100000 in
set_option maxHeartbeats 1000000 in
theorem clone_nam (l : List _) (A : Option Addr) (n c : Nat) (w : World) (lo hi : Nat) (hs : Sl w lo hi tNam A n l) (hn : n ≤ 100000) (hhi : hi ≤ w.heap.size) (hc : A = none → c = 0) :
    Calls Tryz.prog 58 #[.slice A n c] w (RetOwn w 40 tNam l) := by
  have hcap := Lib.hid hc
  clear hc
  cases A with
  | none =>
    obtain rfl : c = 0 := hcap.out rfl
    have h0 : n = 0 := by
      rcases Nat.eq_zero_or_pos n with h | h
      · exact h
      · obtain ⟨b, o, hA, _⟩ := hs.cells h; cases hA
    subst h0
    have hl : l = [] := List.eq_nil_of_length_eq_zero hs.len
    subst hl
    have he := eqlnil0 _ _ Tryz.underlying22 0 0
    go_enter Tryz.func58, Tryz.ntmps58
    go_wp2
    go_ret
    exact RetOwn.mk' (Own.nil_ _ _ _ _) (by (repeat (first | with_reducible exact Below.refl _ _ | (with_reducible refine Below.drew ?_) | (with_reducible refine below_drewN ?_ _) | (with_reducible refine Below.alloc ?_ (by first | (simp; done) | omega | (simp; omega)) _) | (with_reducible refine Below.setCell ?_ (by first | (simp; done) | omega | (simp; omega)) _) | with_reducible assumption)))
  | some a =>
    have hlen := Lib.hid hs.len
    have hm : World.ownsRow (w.alloc (.cells #[] 40)) w.heap.size 40 2 (.slice (some ⟨w.heap.size, 0, none⟩) 0 0) 0 [] := World.ownsRow_made w #[] 0 (Nat.le_refl _) (by unfold maxLen; omega) rfl
    have hown : Own (w.alloc (.cells #[] 40)) w.heap.size 40 tNam (.slice (some ⟨w.heap.size, 0, none⟩) 0 0) [] := ⟨(fun _ h => absurd h List.not_mem_nil), hm⟩
    clear hm
    have he := eqlnil _ _ Tryz.underlying22 a n c
    go_enter Tryz.func58, Tryz.ntmps58
    go_wp2_with (at_builtin; refine append_law (l := []) rfl (.tmp 5) (.tmp 6) rfl sl_nam rfl hown rfl (hs.alloc hhi _) (fun h => by cases h) (by simp) (by simp; omega) ?_; intro v' w' hown' hgr hb')
    go_ret
    rw [List.nil_append] at hown'
    exact RetOwn.mk' hown' (((Below.refl _ _).alloc (Nat.le_refl _) _).grown hgr (by simp) (fun k hk => (hown.lt k hk).1))
theorem sl_seg : SlT Tryz.prog 23 46 5 := SlT.mk' (z := .agg #[.string ⟨#[]⟩, .int .i64 0, .int .i64 0, .int .u8 0, .bool false]) (b := 40) Tryz.underlying23 (by kernel_rfl) (by omega) rfl
set_option maxRecDepth 100000 in
set_option maxHeartbeats 1000000 in
theorem clone_seg (l : List _) (A : Option Addr) (n c : Nat) (w : World) (lo hi : Nat) (hs : Sl w lo hi tSeg A n l) (hn : n ≤ 100000) (hhi : hi ≤ w.heap.size) (hc : A = none → c = 0) :
    Calls Tryz.prog 59 #[.slice A n c] w (RetOwn w 46 tSeg l) := by
  have hcap := Lib.hid hc
  clear hc
  cases A with
  | none =>
    obtain rfl : c = 0 := hcap.out rfl
    have h0 : n = 0 := by
      rcases Nat.eq_zero_or_pos n with h | h
      · exact h
      · obtain ⟨b, o, hA, _⟩ := hs.cells h; cases hA
    subst h0
    have hl : l = [] := List.eq_nil_of_length_eq_zero hs.len
    subst hl
    have he := eqlnil0 _ _ Tryz.underlying23 0 0
    go_enter Tryz.func59, Tryz.ntmps59
    go_wp2
    go_ret
    exact RetOwn.mk' (Own.nil_ _ _ _ _) (by (repeat (first | with_reducible exact Below.refl _ _ | (with_reducible refine Below.drew ?_) | (with_reducible refine below_drewN ?_ _) | (with_reducible refine Below.alloc ?_ (by first | (simp; done) | omega | (simp; omega)) _) | (with_reducible refine Below.setCell ?_ (by first | (simp; done) | omega | (simp; omega)) _) | with_reducible assumption)))
  | some a =>
    have hlen := Lib.hid hs.len
    have hm : World.ownsRow (w.alloc (.cells #[] 46)) w.heap.size 46 5 (.slice (some ⟨w.heap.size, 0, none⟩) 0 0) 0 [] := World.ownsRow_made w #[] 0 (Nat.le_refl _) (by unfold maxLen; omega) rfl
    have hown : Own (w.alloc (.cells #[] 46)) w.heap.size 46 tSeg (.slice (some ⟨w.heap.size, 0, none⟩) 0 0) [] := ⟨(fun _ h => absurd h List.not_mem_nil), hm⟩
    clear hm
    have he := eqlnil _ _ Tryz.underlying23 a n c
    go_enter Tryz.func59, Tryz.ntmps59
    go_wp2_with (at_builtin; refine append_law (l := []) rfl (.tmp 5) (.tmp 6) rfl sl_seg rfl hown rfl (hs.alloc hhi _) (fun h => by cases h) (by simp) (by simp; omega) ?_; intro v' w' hown' hgr hb')
    go_ret
    rw [List.nil_append] at hown'
    exact RetOwn.mk' hown' (((Below.refl _ _).alloc (Nat.le_refl _) _).grown hgr (by simp) (fun k hk => (hown.lt k hk).1))
theorem sl_str : SlT Tryz.prog 24 9 1 := SlT.mk' (z := .string ⟨#[]⟩) (b := 16) Tryz.underlying24 (by kernel_rfl) (by omega) rfl
set_option maxRecDepth 100000 in
set_option maxHeartbeats 1000000 in
theorem clone_str (l : List _) (A : Option Addr) (n c : Nat) (w : World) (lo hi : Nat) (hs : Sl w lo hi tStr A n l) (hn : n ≤ 100000) (hhi : hi ≤ w.heap.size) (hc : A = none → c = 0) :
    Calls Tryz.prog 60 #[.slice A n c] w (RetOwn w 9 tStr l) := by
  have hcap := Lib.hid hc
  clear hc
  cases A with
  | none =>
    obtain rfl : c = 0 := hcap.out rfl
    have h0 : n = 0 := by
      rcases Nat.eq_zero_or_pos n with h | h
      · exact h
      · obtain ⟨b, o, hA, _⟩ := hs.cells h; cases hA
    subst h0
    have hl : l = [] := List.eq_nil_of_length_eq_zero hs.len
    subst hl
    have he := eqlnil0 _ _ Tryz.underlying24 0 0
    go_enter Tryz.func60, Tryz.ntmps60
    go_wp2
    go_ret
    exact RetOwn.mk' (Own.nil_ _ _ _ _) (by (repeat (first | with_reducible exact Below.refl _ _ | (with_reducible refine Below.drew ?_) | (with_reducible refine below_drewN ?_ _) | (with_reducible refine Below.alloc ?_ (by first | (simp; done) | omega | (simp; omega)) _) | (with_reducible refine Below.setCell ?_ (by first | (simp; done) | omega | (simp; omega)) _) | with_reducible assumption)))
  | some a =>
    have hlen := Lib.hid hs.len
    have hm : World.ownsRow (w.alloc (.cells #[] 9)) w.heap.size 9 1 (.slice (some ⟨w.heap.size, 0, none⟩) 0 0) 0 [] := World.ownsRow_made w #[] 0 (Nat.le_refl _) (by unfold maxLen; omega) rfl
    have hown : Own (w.alloc (.cells #[] 9)) w.heap.size 9 tStr (.slice (some ⟨w.heap.size, 0, none⟩) 0 0) [] := ⟨(fun _ h => absurd h List.not_mem_nil), hm⟩
    clear hm
    have he := eqlnil _ _ Tryz.underlying24 a n c
    go_enter Tryz.func60, Tryz.ntmps60
    go_wp2_with (at_builtin; refine append_law (l := []) rfl (.tmp 5) (.tmp 6) rfl sl_str rfl hown rfl (hs.alloc hhi _) (fun h => by cases h) (by simp) (by simp; omega) ?_; intro v' w' hown' hgr hb')
    go_ret
    rw [List.nil_append] at hown'
    exact RetOwn.mk' hown' (((Below.refl _ _).alloc (Nat.le_refl _) _).grown hgr (by simp) (fun k hk => (hown.lt k hk).1))
theorem sl_plc : SlT Tryz.prog 27 87 4 := SlT.mk' (z := .agg #[.int .i64 0, .int .i64 0, .int .i64 0, .int .u8 0]) (b := 32) Tryz.underlying27 (by kernel_rfl) (by omega) rfl
set_option maxRecDepth 100000 in
set_option maxHeartbeats 1000000 in
theorem clone_plc (l : List _) (A : Option Addr) (n c : Nat) (w : World) (lo hi : Nat) (hs : Sl w lo hi tPlc A n l) (hn : n ≤ 100000) (hhi : hi ≤ w.heap.size) (hc : A = none → c = 0) :
    Calls Tryz.prog 61 #[.slice A n c] w (RetOwn w 87 tPlc l) := by
  have hcap := Lib.hid hc
  clear hc
  cases A with
  | none =>
    obtain rfl : c = 0 := hcap.out rfl
    have h0 : n = 0 := by
      rcases Nat.eq_zero_or_pos n with h | h
      · exact h
      · obtain ⟨b, o, hA, _⟩ := hs.cells h; cases hA
    subst h0
    have hl : l = [] := List.eq_nil_of_length_eq_zero hs.len
    subst hl
    have he := eqlnil0 _ _ Tryz.underlying27 0 0
    go_enter Tryz.func61, Tryz.ntmps61
    go_wp2
    go_ret
    exact RetOwn.mk' (Own.nil_ _ _ _ _) (by (repeat (first | with_reducible exact Below.refl _ _ | (with_reducible refine Below.drew ?_) | (with_reducible refine below_drewN ?_ _) | (with_reducible refine Below.alloc ?_ (by first | (simp; done) | omega | (simp; omega)) _) | (with_reducible refine Below.setCell ?_ (by first | (simp; done) | omega | (simp; omega)) _) | with_reducible assumption)))
  | some a =>
    have hlen := Lib.hid hs.len
    have hm : World.ownsRow (w.alloc (.cells #[] 87)) w.heap.size 87 4 (.slice (some ⟨w.heap.size, 0, none⟩) 0 0) 0 [] := World.ownsRow_made w #[] 0 (Nat.le_refl _) (by unfold maxLen; omega) rfl
    have hown : Own (w.alloc (.cells #[] 87)) w.heap.size 87 tPlc (.slice (some ⟨w.heap.size, 0, none⟩) 0 0) [] := ⟨(fun _ h => absurd h List.not_mem_nil), hm⟩
    clear hm
    have he := eqlnil _ _ Tryz.underlying27 a n c
    go_enter Tryz.func61, Tryz.ntmps61
    go_wp2_with (at_builtin; refine append_law (l := []) rfl (.tmp 5) (.tmp 6) rfl sl_plc rfl hown rfl (hs.alloc hhi _) (fun h => by cases h) (by simp) (by simp; omega) ?_; intro v' w' hown' hgr hb')
    go_ret
    rw [List.nil_append] at hown'
    exact RetOwn.mk' hown' (((Below.refl _ _).alloc (Nat.le_refl _) _).grown hgr (by simp) (fun k hk => (hown.lt k hk).1))
end Go.Proofs.YtpgeoahlhdifoaaGreatDoor
