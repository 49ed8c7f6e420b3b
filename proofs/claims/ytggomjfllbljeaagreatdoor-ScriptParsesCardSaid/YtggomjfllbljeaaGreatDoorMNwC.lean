/- Put together by program of: Nw3, Nw4. -/
import Derived.Test.YtggomjfllbljeaaGreatDoorMNwA
import Derived.Test.YtggomjfllbljeaaGreatDoorMpk
import Derived.Deep.MidRow
import Derived.Deep.WholeRow
namespace Go.Proofs.YtggomjfllbljeaaGreatDoor
set_option linter.unusedVariables false
open Go Go.RowKit
open Go.ChangeShapes Go.WideShapes Go.MapKept Go.ChangeMaps
open Go.Maps
/-- The cells of a disk: how many sectors, the map of those that last, what waits, and what was written since. -/
abbrev dkC (n : Int) (m : Nat) (wt : Value) (a : Int) : Array Value := #[.int .i64 n, .map (some m), wt, .bool false, .bool false, .int .i64 a]
theorem zero_sec : (Tryz.prog.info? 265).map (fun i => (i.zero, i.size)) = some (some (.agg (Array.replicate 512 (.int .u8 0))), 512) := by kernel_rfl
theorem kl_int : Keyed Tryz.prog 3 := int_keyed Tryz.underlying3
theorem key_int {n : Int} (h : okInt n) : keyOf Tryz.prog 3 (.int .i64 n) = some (.int .i64 n) :=
  keyOf_int_mk Tryz.underlying3 (by have h1 := h.1; have h2 := h.2; simp [Lit.wf]; exact ⟨by show (-9223372036854775808 : Int) ≤ n; exact h1, h2⟩)
abbrev zsec : Array Value := Array.replicate 512 (.int .u8 0)
theorem zero_run (u : World) : (zeroValue 265).run Tryz.prog u = .ok (.agg zsec) u := (zero_of_info zero_sec).1 u
/-- The map of the sectors that last. -/
abbrev MpD (W : World) (m : Nat) (g : Value → Option Value) : Prop := Mp Tryz.prog 3 W m g
set_option maxRecDepth 100000 in
set_option maxHeartbeats 4000000 in
theorem read_0 {W : World} {d m : Nat} {n a i : Int} {g : Value → Option Value} (hd : Bx W d (dkC n m (.slice none 0 0) a) 139) (hm : MpD W m g) (hg : g (.int .i64 i) = none) (h0 : 0 ≤ i) (h1 : i < n) (h2 : n ≤ 4096) :
    Calls Tryz.prog 264 #[.pointer (some ⟨d, 0, none⟩), .int .i64 i] W fun e W' => ∃ A, e = .returned (.tuple #[.slice A 512 512, .int .i64 0]) ∧ Sl W' W.heap.size W'.heap.size tBy A 512 (List.replicate 512 0) ∧ Below W.heap.size W W' := by
  have c1 := hd.cells
  have hlk := hm.lookK kl_int Tryz.underlying136 zero_run (key_int (n := i) ⟨by omega, by omega⟩) false
  rw [hg] at hlk
  simp only [Option.getD_none, Bool.false_eq_true, if_false] at hlk
  have HLK := Lib.hid hlk
  clear hlk
  have HZ : Hid (zsec.size = 512 ∧ (zsec.all fun v => v.oneCell') = true ∧ zsec.toList = (List.replicate 512 (0 : UInt8)).flatMap tBy.enc) :=
    ⟨by simp, by rw [Array.all_eq_true]; intro j hj; simp [zsec, Value.oneCell'], by rw [← by_map, List.map_replicate]; simp [zsec]⟩
  generalize zsec = z at HLK HZ
  have hlk := HLK.out
  clear HLK
  go_enter Tryz.func264, Tryz.ntmps264
  go_wp2
  go_loop [6] (fun i => i = .int .i64 (-1)) (fun _ => 0)
  case atStart => rfl
  case round =>
    obtain rfl := hrel
    go_upto_region 12 with (refine wpList_store_row rfl 265 (.tmp 8) (.tmp 59) rfl W.heap.size z rfl rfl 265 _ (Bx.new _ _ _) (by rw [HZ.out.1]; exact (zero_of_info zero_sec).2) (by rw [HZ.out.1]; rfl) HZ.out.2.1 ?_)
    have hb0 := (Bx.new W Tryz.zeroCells265 265).row z
    have hB0 : Below W.heap.size W ((W.alloc (.cells Tryz.zeroCells265 265)).setRow W.heap.size z) := below_setRow ((Below.refl _ _).alloc (Nat.le_refl _) _) (Nat.le_refl _) _
    refine wp_world (fun V => Bx V W.heap.size z 265 ∧ Below W.heap.size W V) ⟨hb0, hB0⟩ ?_
    clear hb0 hB0 hlk c1
    rintro V ⟨hb, hB⟩
    have hz := hb.lt
    have hS : Sl V W.heap.size V.heap.size tBy (some ⟨W.heap.size, 0, none⟩) 512 (List.replicate 512 0) := by
      refine ⟨List.length_replicate, fun _ _ => trivial, fun _ => ⟨W.heap.size, 0, rfl, Nat.le_refl _, hz, fun k x hx j u hu => ?_⟩⟩
      have h3 := flatMap_at tBy _ k x hx j u hu
      rw [hb.cells, ← Array.getElem?_toList, HZ.out.2.2, show 0 + k * tBy.sz + j = k * tBy.sz + j by omega]
      exact h3
    have HS := Lib.hid hS
    clear hS
    go_wp2
    go_ret2
    exact ⟨_, rfl, HS.out, hB⟩
end Go.Proofs.YtggomjfllbljeaaGreatDoor
namespace Go.Proofs.YtggomjfllbljeaaGreatDoor
set_option linter.unusedVariables false
open Go Go.RowKit
open Go.Maps
/-- An empty disk: nothing lasts, nothing waits. -/
structure Dk0 (W : World) (d m : Nat) (n a : Int) (g : Value → Option Value) : Prop where
  d : Bx W d (dkC n m (.slice none 0 0) a) 139
  m : MpD W m g
  g : ∀ i : Int, g (.int .i64 i) = none
  lo : 4 ≤ n
  hi : n ≤ 4096
theorem Dk0.below {W W' : World} {d m B : Nat} {n a : Int} {g : Value → Option Value} (h : Dk0 W d m n a g) (hb : Below B W W') (h1 : d < B) (h2 : m < B) : Dk0 W' d m n a g :=
  ⟨h.d.below hb h1, h.m.below hb h2, h.g, h.lo, h.hi⟩
theorem rep_0 {n : Nat} : ∀ i, i < n → (List.replicate n (0 : UInt8))[i]? = some 0 := fun i hi => by rw [List.getElem?_replicate, if_pos hi]
set_option maxRecDepth 100000 in
set_option maxHeartbeats 4000000 in
theorem current_0 {W : World} {d m : Nat} {n a : Int} {g : Value → Option Value} (h : Dk0 W d m n a g) :
    Calls Tryz.prog 169 #[.pointer (some ⟨d, 0, none⟩)] W fun e W' => e = .returned (.tuple #[.int .u32 0, .bool false]) ∧ Below W.heap.size W W' := by
  have hd := h.d.lt
  have hm := h.m.size
  have H := Lib.hid h
  clear h
  go_enter Tryz.func169, Tryz.ntmps169
  go_wp2
  go_loopw [4, 5, 12] (fun s t i wr => ∃ k : Nat, k ≤ 2 ∧ i = .int .i64 k ∧ s = .int .u32 0 ∧ t = .bool false ∧ Below W.heap.size W wr) (fun _ _ i _ => 2 - (intOf i).toNat)
  case atStart => exact ⟨0, by omega, rfl, rfl, rfl, Below.refl _ _⟩
  case round =>
    obtain ⟨k, hk, rfl, rfl, rfl, hb⟩ := hrel
    have H1 := Lib.hid (H.out.below hb hd hm)
    have hz := hb.size
    by_cases hlt : k < 2
    · go_wp2_with fail
      refine (read_0 (i := k) H1.out.d H1.out.m (H1.out.g _) (by omega) (by have := H1.out.lo; omega) H1.out.hi).mono ?_
      rintro e V1 ⟨A, rfl, hs, hb1⟩
      have HS := Lib.hid hs
      have hz1 := hb1.size
      have hb2 : Below W.heap.size W V1 := hb.trans (hb1.mono hz)
      clear hs hb hb1
      go_wp2_with fail
      refine (get_0 HS.out rep_0).mono ?_
      rintro e V2 ⟨rfl, rfl⟩
      by_cases hk0 : k = 0
      · subst hk0
        go_wp2_with fail
        refine (head_by V2 0 (by omega) (by omega)).mono ?_
        rintro e V3 ⟨r, hr, A3, c3, rfl, ho3, hb3⟩
        have HS3 := Lib.hid (HS.out.below hb3 (Nat.le_refl _))
        have HO3 := Lib.hid ho3.sl
        have hlen : (1 :: r : List UInt8).length = 512 := by rw [List.length_cons, hr]
        rw [hlen] at HO3 ⊢
        have hb4 : Below W.heap.size W V3 := hb2.trans (hb3.mono (by omega))
        clear ho3 hb3 hb2
        go_wp2_with fail
        refine (unlike_by HS3.out HO3.out (by omega) (by omega) (by simp)).mono ?_
        rintro e V4 ⟨rfl, rfl⟩
        go_wp2
        go_roundw
        case rel => exact ⟨1, by omega, by go_num, rfl, rfl, hb4⟩
        case measure => simp [intOf]
      · obtain rfl : k = 1 := by omega
        go_wp2
        go_roundw
        case rel => exact ⟨2, by omega, by go_num, rfl, rfl, hb2⟩
        case measure => simp [intOf]
    · go_wp2
      go_ret2
      exact ⟨rfl, hb⟩
theorem size_any {W : World} {d m : Nat} {n a : Int} {wt : Value} (h : Bx W d (dkC n m wt a) 139) :
    Calls Tryz.prog 103 #[.pointer (some ⟨d, 0, none⟩)] W fun e W' => e = .returned (.int .i64 n) ∧ W' = W := by
  have c1 := h.cells
  go_enter Tryz.func103, Tryz.ntmps103
  go_wp2
  go_ret
  exact ⟨rfl, rfl⟩
theorem down_any {W : World} {d m : Nat} {n a : Int} {wt : Value} (h : Bx W d (dkC n m wt a) 139) :
    Calls Tryz.prog 117 #[.pointer (some ⟨d, 0, none⟩)] W fun e W' => e = .returned (.bool false) ∧ W' = W := by
  have c1 := h.cells
  go_enter Tryz.func117, Tryz.ntmps117
  go_wp2
  go_ret
  exact ⟨rfl, rfl⟩
set_option maxRecDepth 100000 in
set_option maxHeartbeats 4000000 in
theorem following_0 {W : World} {d m : Nat} {n a : Int} {g : Value → Option Value} (h : Dk0 W d m n a g) :
    Calls Tryz.prog 170 #[.pointer (some ⟨d, 0, none⟩), .int .u32 0] W fun e W' => e = .returned (.int .u64 1) ∧ Below W.heap.size W W' := by
  have hd := h.d.lt
  have hm := h.m.size
  have hlo := h.lo
  have hhi := h.hi
  have H := Lib.hid h
  clear h
  obtain ⟨nn, rfl⟩ : ∃ nn : Nat, n = nn := ⟨n.toNat, by omega⟩
  go_enter Tryz.func170, Tryz.ntmps170
  go_wp2_with fail
  refine (size_any H.out.d).mono ?_
  rintro e V0 ⟨rfl, rfl⟩
  go_wp2
  go_loopw [5, 15] (fun s i wr => ∃ k : Nat, k ≤ nn ∧ i = .int .i64 k ∧ s = .int .u64 0 ∧ Below V0.heap.size V0 wr) (fun _ i _ => nn - (intOf i).toNat)
  case atStart => exact ⟨0, by omega, rfl, rfl, Below.refl _ _⟩
  case round =>
    obtain ⟨k, hk, rfl, rfl, hb⟩ := hrel
    have H1 := Lib.hid (H.out.below hb hd hm)
    have hz := hb.size
    by_cases hlt : k < nn
    · go_wp2_with fail
      refine (read_0 (i := k) H1.out.d H1.out.m (H1.out.g _) (by omega) (by omega) H1.out.hi).mono ?_
      rintro e V1 ⟨A, rfl, hs, hb1⟩
      have hz1 := hb1.size
      have hb2 : Below V0.heap.size V0 V1 := hb.trans (hb1.mono hz)
      obtain ⟨b, o, rfl, _, _, hc⟩ := hs.cells (by omega)
      have c0 := hc 0 0 (rep_0 0 (by omega)) 0 (.int .u8 0) rfl
      have e0 : o + 0 * tBy.sz + 0 = o := by omega
      rw [e0] at c0
      clear hs hb hb1 hc e0
      go_wp2
      go_roundw
      case rel => exact ⟨k + 1, by omega, by go_num, rfl, hb2⟩
      case measure => simp [intOf] <;> omega
    · go_wp2
      go_ret
      exact ⟨ret_int (by decide), hb⟩
end Go.Proofs.YtggomjfllbljeaaGreatDoor
