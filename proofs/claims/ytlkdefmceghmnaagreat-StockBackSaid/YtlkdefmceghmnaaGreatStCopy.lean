/- Stock's Copy: maps.Clone. -/
import Derived.Test.YtlkdefmceghmnaaGreatStS
import Derived.Shelf.SlMaps.Clone
import Derived.Deep.RegionHeld3
namespace Go.Proofs.YtlkdefmceghmnaaGreat
set_option linter.unusedVariables false
open Go Go.RowKit Go.Sort
set_option maxRecDepth 100000 in
set_option maxHeartbeats 2000000 in
theorem clone_any (b : Nat) (es : Array MapEntry) (clock : Nat) (w : World) (hb : w.heap[b]? = some (.map es clock)) :
    Calls Tryz.prog 50 #[.map (some b)] w fun e w' => e = .returned (.map (some w.heap.size)) ∧ w' = w.alloc (.map es clock) := by
  have hq := fun w => run_eql_map_nil_sl (P := Tryz.prog) w 103 _ _ (some b) Tryz.underlying103
  go_enter Tryz.func50, Tryz.ntmps50
  go_wp2
  rw [run_callFunc_extern Tryz.func91 (by kernel_rfl) (by kernel_rfl) (by kernel_rfl) (e := Extern.MapsClone.clone) (by kernel_rfl), run_maps_clone_sl w 103 hb]
  simp only [Result.andThen]
  rw [Oper.upon_value]
  go_wp2
  rw [run_typeAssert_map_sl _ 103 _ _ _ _ Tryz.underlying103]
  simp only [Result.andThen]
  rw [Oper.upon_value]
  go_wp2
  go_ret
  exact ⟨rfl, rfl⟩
theorem Mp.clone {w w' : World} {b b' : Nat} {g : Value → Option Value} {k : TypeId} {P : Program} {es : Array MapEntry} {clock : Nat} (C : Mq P k w b g es clock) (h : w'.heap[b']? = some (.map es clock)) : Mp P k w' b' g :=
  ⟨es, clock, h, C.keys, C.lt, C.nod, C.apart, C.val, C.dom⟩
set_option maxRecDepth 100000 in
set_option maxHeartbeats 4000000 in
theorem copy_any {W : World} {lo hi t p b : Nat} {rs : List FlR} {q : Cel → Int} (h : SK W lo hi t p b rs q) :
    Calls Tryz.prog 16 #[.pointer (some ⟨p, 0, none⟩)] W fun e w' => ∃ p' b', e = .returned (.pointer (some ⟨p', 0, none⟩)) ∧ SK w' lo hi t p' b' rs q ∧ W.heap.size ≤ p' ∧ W.heap.size ≤ b' ∧ Below W.heap.size W w' := by
  obtain ⟨g, ⟨es, clock, C⟩, hG⟩ := h.mp
  have HS := Lib.hid h
  have hx := h.box
  have cx := h.box.cells
  have hc := C.heap
  have zp := h.plt
  go_enter Tryz.func16, Tryz.ntmps16
  go_upto_region 1 with fail
  have HC := Lib.hid (fun (V : World) (hV : Below W.heap.size W V) => clone_any b es clock V ((hV.block b HS.out.blt).trans hc))
  have hxd : Bx W.drew p #[.pointer (some ⟨t, 0, none⟩), .map (some b)] 105 := hx
  have c0 := hxd.cells
  have hx1 : Bx (W.alloc (.map es clock)).drew p #[.pointer (some ⟨t, 0, none⟩), .map (some b)] 105 := hx.alloc _
  have c1 := hx1.cells
  have hx2 : Bx ((W.alloc (.map es clock)).alloc (.cells #[.pointer (some ⟨t, 0, none⟩), .map (some W.heap.size)] 105)).drew p #[.pointer (some ⟨t, 0, none⟩), .map (some b)] 105 := (hx.alloc _).alloc _
  have c2 := hx2.cells
  go_region_held3 (fun w' => ∀ i : Nat, w'.cell? ⟨p, i, none⟩ = (#[.pointer (some ⟨t, 0, none⟩), .map (some b)] : Array Value)[i]?) (first | (with_reducible exact c0) | (with_reducible exact c1) | exact c2) (first | (go_at_call 50; (with_reducible refine (HC.out _ (Below.refl _ _).drew).mono ?_); rintro e w1 ⟨rfl, rfl⟩))
  go_wp2
  have hW : Below W.heap.size W ((W.alloc (.map es clock)).alloc (.cells #[.pointer (some ⟨t, 0, none⟩), .map (some W.heap.size)] 105)).drew := (((Below.refl _ _).alloc (Nat.le_refl _) _).alloc (by simp) _).drew
  have hb : Bx ((W.alloc (.map es clock)).alloc (.cells #[.pointer (some ⟨t, 0, none⟩), .map (some W.heap.size)] 105)).drew (W.heap.size + 1) #[.pointer (some ⟨t, 0, none⟩), .map (some W.heap.size)] 105 := by
    have h5 := Bx.new (W.alloc (.map es clock)) #[.pointer (some ⟨t, 0, none⟩), .map (some W.heap.size)] 105
    rw [World.size_alloc] at h5
    exact h5
  have hK := HS.out.keep hW
  have hz := HS.out.hp
  go_ret
  exact ⟨_, W.heap.size, rfl, ⟨hK.tab, hb, ⟨g, ((Mp.clone C (heap_alloc_new W (.map es clock))).alloc _).drew, hG⟩, by omega, by omega, by omega⟩, by omega, Nat.le_refl _, hW⟩
end Go.Proofs.YtlkdefmceghmnaaGreat
