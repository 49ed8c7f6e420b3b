/- Package screen: a row. -/
import Derived.Test.YtggomjfllbljeaaGreatDoorMNx
namespace Go.Proofs.YtggomjfllbljeaaGreatDoor
set_option linter.unusedVariables false
open Go Go.RowKit
/-- A row's bytes: 64, filled up. -/
def padB (l : List UInt8) : List UInt8 := l ++ List.replicate (64 - l.length) 32
theorem padB_len {l : List UInt8} (h : l.length ≤ 64) : (padB l).length = 64 := by simp [padB]; omega
def rowC (p : List UInt8) (j : Nat) : Array Value := ((p.take j).map (fun b => Value.int .u8 b.toNat) ++ List.replicate (64 - j) (Value.int .u8 0)).toArray
theorem rowC_set {p : List UInt8} {j : Nat} (hj : j < 64) {x : UInt8} (hx : p[j]? = some x) : (rowC p j).setIfInBounds j (.int .u8 x.toNat) = rowC p (j + 1) := by
  have hl : j < p.length := (List.getElem?_eq_some_iff.1 hx).1
  apply Array.ext_getElem?
  intro k
  rw [Array.getElem?_setIfInBounds]
  have ht : (p.take j).length = j := by rw [List.length_take]; omega
  have ht2 : (p.take (j + 1)).length = j + 1 := by rw [List.length_take]; omega
  have hs : (rowC p j).size = 64 := by simp [rowC]; omega
  rw [hs]
  simp only [rowC, List.getElem?_toArray, List.getElem?_append, List.length_map, ht, ht2, List.getElem?_map, List.getElem?_take, List.getElem?_replicate]
  by_cases h1 : j = k
  · subst h1
    simp [hx, hj]
  · by_cases h2 : k < j
    · have h3 : k < j + 1 := by omega
      simp [h1, h2, h3]
    · have h3 : ¬ k < j + 1 := by omega
      simp only [h1, h2, h3, if_false]
      by_cases h4 : k < 64
      · rw [if_pos (by omega), if_pos (by omega)]
      · rw [if_neg (by omega), if_neg (by omega)]
theorem setIn_twice (c : Array Value) (j : Nat) (u v : Value) : (c.setIfInBounds j u).setIfInBounds j v = c.setIfInBounds j v := by
  apply Array.ext_getElem?
  intro k
  simp only [Array.getElem?_setIfInBounds, Array.size_setIfInBounds]
  by_cases h : j = k <;> simp [h]
theorem rowC_at {p : List UInt8} {j : Nat} (hp : p.length = 64) (hj : j < 64) : (rowC p j)[j]? = some (.int .u8 0) := by
  have ht : (p.take j).length = j := by rw [List.length_take]; omega
  simp only [rowC, List.getElem?_toArray, List.getElem?_append, List.length_map, ht, List.getElem?_replicate]
  rw [if_neg (by omega), if_pos (by omega)]
theorem sl_rowC {W : World} {b : Nat} {p : List UInt8} {t : TypeId} (hp : p.length = 64) (h : Bx W b (rowC p 64) t) : Sl W b (b + 1) tBy (some ⟨b, 0, none⟩) 64 p := by
  refine ⟨hp, fun _ _ => trivial, fun _ => ⟨b, 0, rfl, Nat.le_refl _, by omega, fun k x hx j u hu => ?_⟩⟩
  have h3 := flatMap_at tBy p k x hx j u hu
  rw [h.cells]
  have e : (0 + k * tBy.sz + j) = k * tBy.sz + j := by omega
  rw [e]
  simp only [rowC, Nat.sub_self, List.replicate_zero, List.append_nil, List.getElem?_toArray, ← hp, List.take_length, by_map]
  exact h3
set_option maxRecDepth 100000 in
set_option maxHeartbeats 4000000 in
theorem row_any {W : World} {lo hi n c : Nat} {A : Option Addr} {l : List UInt8} (hs : Sl W lo hi tBy A n l) (hn : n ≤ 64) (hh : hi ≤ W.heap.size) (hp : ∀ x ∈ l, 32 ≤ x.toNat ∧ x.toNat ≤ 126) :
    Calls Tryz.prog 149 #[.slice A n c] W fun e W' => e = .returned (.string ⟨(padB l).toArray⟩) ∧ Below W.heap.size W W' := by
  have HS := Lib.hid hs
  have hl := hs.len
  have HP := Lib.hid (padB_len (l := l) (by omega))
  clear hs
  go_enter Tryz.func149, Tryz.ntmps149
  go_upto_region 2 with fail
  refine wp_world (fun V => Bx V W.heap.size (rowC (padB l) 0) 65 ∧ Below W.heap.size W V) ⟨Bx.new _ _ _, (Below.refl _ _).alloc (Nat.le_refl _) _⟩ ?_
  rintro V ⟨hb0, hB0⟩
  go_wp2
  go_loopw [4, 5] (fun _ i wr => ∃ j : Nat, j ≤ 64 ∧ i = .int .i64 j ∧ Bx wr W.heap.size (rowC (padB l) j) 65 ∧ Below W.heap.size W wr) (fun _ i _ => 64 - (intOf i).toNat)
  case atStart => exact ⟨0, Nat.zero_le _, rfl, hb0, hB0⟩
  case round =>
    clear hb0 hB0
    obtain ⟨j, hj, rfl, hb, hB⟩ := hrel
    by_cases hlt : j < 64
    · obtain ⟨x, hx⟩ : ∃ x, (padB l)[j]? = some x := ⟨_, List.getElem?_eq_getElem (by have := HP.out; omega)⟩
      have HN := Lib.hid (rowC_set hlt hx)
      have c0 : wr.cell? ⟨W.heap.size, j, none⟩ = some (.int .u8 0) := (hb.cells j).trans (rowC_at HP.out hlt)
      have f0 := hb.free j
      have z0 := hb.lt
      by_cases hjn : j < n
      · obtain ⟨b, o, y, hA, _, _, hy, _, hc⟩ := (HS.out.below hB hh).at_ hjn
        subst hA
        have hc0 := hc 0 (.int .u8 y.toNat) rfl
        have e0 : o + j * tBy.sz + 0 = o + j := by show o + j * 1 + 0 = o + j; omega
        rw [e0] at hc0
        clear hc e0
        have hxy : x = y := by
          unfold padB at hx
          rw [List.getElem?_append_left (by omega), hy] at hx
          injection hx with h
          exact h.symm
        have HXY := Lib.hid hxy
        have hy1 := (hp y (List.mem_of_getElem? hy)).1
        have hy2 := (hp y (List.mem_of_getElem? hy)).2
        clear hx hy hxy
        go_wp2
        refine ⟨⟨j + 1, by omega, by go_num, ?_, ?_⟩, by simp [intOf]; omega⟩
        · have h := (hb.put j (.int .u8 32)).put j (.int .u8 y.toNat)
          rw [setIn_twice, ← HXY.out, HN.out] at h
          rw [← HXY.out]
          exact h
        · exact (hB.setCell (Nat.le_refl _) _).setCell (Nat.le_refl _) _
      · have hxy : x = 32 := by
          unfold padB at hx
          rw [List.getElem?_append_right (by omega), List.getElem?_replicate] at hx
          split at hx
          · injection hx with h; exact h.symm
          · cases hx
        have HXY := Lib.hid hxy
        clear hx hxy
        go_wp2
        refine ⟨⟨j + 1, by omega, by go_num, ?_, ?_⟩, by simp [intOf]; omega⟩
        · have h := hb.put j (.int .u8 32)
          have h2 := HN.out
          rw [HXY.out] at h2
          exact h2 ▸ h
        · exact hB.setCell (Nat.le_refl _) _
    · obtain rfl : j = 64 := by omega
      have hst := sl_rowC HP.out hb
      have hcv := text_of (c := 64) hst (by omega)
      have z0 := hb.lt
      clear hst
      go_wp2
      go_ret
      exact ⟨rfl, hB⟩
end Go.Proofs.YtggomjfllbljeaaGreatDoor
