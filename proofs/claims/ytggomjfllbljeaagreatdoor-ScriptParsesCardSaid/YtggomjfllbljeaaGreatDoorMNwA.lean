/- Put together by program of: Nw1, Nw2. -/
import Derived.Test.YtggomjfllbljeaaGreatDoorMScH
import Derived.Laws.MakeOwn
import Derived.Lib.AppendZerosOnto
import Derived.Test.YtggomjfllbljeaaGreatDoorMMaps
namespace Go.Proofs.YtggomjfllbljeaaGreatDoor
set_option linter.unusedVariables false
open Go Go.RowKit
theorem by_of {x : Int} (h0 : 0 ≤ x) (h1 : x < 256) : ∃ y : UInt8, (y.toNat : Int) = x := ⟨UInt8.ofNat x.toNat, by
  rw [UInt8.toNat_ofNat']
  omega⟩
/-- A row of noughts. -/
def zrow (k : Nat) : Array Value := madeCells #[.int .u8 0] k
theorem zrow_size (k : Nat) : (zrow k).size = k := size_madeCells _ _
theorem mk_by (W : World) (n k : Nat) (h : n ≤ k) (hk : k ≤ 100000) : (Instr.makeSlice 57 (.int .i64 n) (.int .i64 k)).run Tryz.prog W = .ok (.slice (some ⟨W.heap.size, 0, none⟩) n k) (W.alloc (.cells (zrow k) 5)) := by
  obtain ⟨i, hi, h0, h1, h2⟩ := info_parts (show (Tryz.prog.info? 5).map (fun i => (i.zero, i.size, i.bytes)) = some (some (.int .u8 0), 1, 1) by kernel_rfl)
  have := run_makeSlice (P := Tryz.prog) W 57 5 i (.int .u8 0) Tryz.underlying57 hi h0 .i64 .i64 n k (by omega) (by omega) (by rw [h1]; omega) (by rw [h2]; omega) (by omega)
  rw [this, h1]
  simp [zrow, Value.cells]
/-- 'out := make([]byte, n, k); copy(out, b)'. -/
theorem mk_copy {W : World} {lo hi n k : Nat} {A : Option Addr} {l : List UInt8} (hs : Sl W lo hi tBy A n l) (hn : 0 < n) (hh : hi ≤ W.heap.size) (h : n ≤ k) (hk : k ≤ 100000) :
    ∃ W2, (∀ ty c, (Builtin.copy_ #[57, 57] ty #[.slice (some ⟨W.heap.size, 0, none⟩) n k, .slice A n c]).run Tryz.prog (W.alloc (.cells (zrow k) 5)) = .ok (goInt n) W2) ∧
      Own W2 W.heap.size 5 tBy (.slice (some ⟨W.heap.size, 0, none⟩) n k) l ∧ Below W.heap.size W W2 := by
  have hA := (hs.alloc hh (.cells (zrow k) 5))
  obtain ⟨b, o, rfl, _, _, hc⟩ := hA.cells hn
  have hl := hs.len
  have hg : (W.alloc (.cells (zrow k) 5)).heap[W.heap.size]? = some (.cells (zrow k) 5) := heap_alloc_new W _
  have hfl : (l.flatMap tBy.enc).length = n := by rw [by_flat_len]; exact hl
  refine ⟨_, fun ty c => run_copy_sz (P := Tryz.prog) (W.alloc (.cells (zrow k) 5)) 57 57 ty 5 1 W.heap.size 0 n k ⟨b, o, none⟩ n c (zrow k) 5 (l.flatMap tBy.enc) n Tryz.underlying57 (by kernel_rfl) hg (Nat.min_self n) (by rw [hfl]; omega) (fun j v hj => ?_) (by rw [hfl, zrow_size]; omega) (fun v hv => ?_), ?_, ?_⟩
  · rw [← by_map, List.getElem?_map] at hj
    cases hq : l[j]? with
    | none => rw [hq] at hj; cases hj
    | some x =>
      rw [hq] at hj
      have h1 := hc j x hq 0 v (by simpa [tBy] using hj)
      have e : (⟨b, o, none⟩ : Addr).add j = ⟨b, o + j, none⟩ := by unfold Addr.add; split <;> simp_all
      rw [e]
      simpa [tBy] using h1
  · obtain ⟨x, hx, hv⟩ := List.mem_flatMap.1 hv
    exact tBy.one x v hv
  · refine Own.ofRow (T := tBy) (setRow_heap _ _ _ _ _ _ hg) (Nat.le_refl _) hl h (by unfold maxLen; omega) ?_ (fun _ _ => trivial) ?_
    · show _ = k * 1
      simp [hfl, zrow_size]
      omega
    · show List.take (n * 1) _ = _
      simp only [List.take_zero, List.nil_append, Nat.mul_one]
      exact List.take_left' hfl
  · exact below_setRow ((Below.refl _ _).alloc (Nat.le_refl _) _) (Nat.le_refl _) _
set_option maxRecDepth 100000 in
set_option maxHeartbeats 4000000 in
theorem put_by {W : World} {lo hi n c : Nat} {A : Option Addr} {l : List UInt8} (v : Int) (k : Nat) (hv : 0 ≤ v) (hv2 : v < 18446744073709551616) (hk : k ≤ 8) (hs : Sl W lo hi tBy A n l) (hn : 0 < n) (hn2 : n ≤ 1000) (hh : hi ≤ W.heap.size) :
    Calls Tryz.prog 353 #[.slice A n c, .int .u64 v, .int .i64 k] W fun e W' => ∃ r : List UInt8, r.length = k ∧ RetOwn W 5 tBy (l ++ r) e W' := by
  have hmk := mk_by W n (n + 8) (by omega) (by omega)
  obtain ⟨W2, hcp, ho, hb⟩ := mk_copy hs hn hh (show n ≤ n + 8 by omega) (by omega)
  have hi8 : ((n + 8 : Nat) : Int) = n + 8 := by omega
  rw [hi8] at hmk
  go_enter Tryz.func353, Tryz.ntmps353
  have hk0 : ((0 : Int) ≤ k) := by omega
  have hk8 : ((k : Int) ≤ 8) := by omega
  go_wp2
  clear hmk hcp hi8
  go_loopw [7, 8] (fun s i wr => ∃ (j : Nat) (r : List UInt8), j ≤ k ∧ r.length = j ∧ i = .int .i64 ((k : Int) - 1 - j) ∧ Own wr W.heap.size 5 tBy s (l ++ r) ∧ Below W.heap.size W wr) (fun _ i _ => (intOf i + 1).toNat)
  case atStart => exact ⟨0, [], Nat.zero_le _, rfl, by first | rfl | (simp; done) | (simp; omega), by rw [List.append_nil]; exact ho, hb⟩
  case round =>
    obtain ⟨j, r, hj, hr, rfl, ho, hb⟩ := hrel
    by_cases hlt : j < k
    · have t0 : (0 : Int) ≤ (k : Int) - 1 - j := by omega
      obtain ⟨d, hd⟩ : ∃ d : Nat, (k : Int) - 1 - j = d := ⟨k - 1 - j, by omega⟩
      have hd7 : (d : Int) ≤ 7 := by omega
      rw [hd] at t0 ⊢
      have HD := Lib.hid hd
      clear hd
      have hl1 := hs.len
      have hl9 : (l ++ r).length < 1000000 := by rw [List.length_append]; omega
      obtain ⟨y, hy⟩ := by_of (x := v / 2 ^ (8 * d) % 256) (by omega) (by omega)
      have HY := Lib.hid hy
      clear hy
      go_wp2_with (at_builtin; refine push_rd (W := wr) rfl (.tmp 26) (.tmp 33) rfl rfl (.inl ho) y _ (by rw [show tBy.enc y = [.int .u8 y.toNat] from rfl, HY.out]) rfl hb.size hl9 ?_; intro v1 w1 ho1 hb1)
      go_roundw
      case rel => exact ⟨j + 1, r ++ [y], by omega, by rw [List.length_append, hr]; rfl, by have := HD.out; rw [show (d : Int) - 1 = (k : Int) - 1 - ((j + 1 : Nat) : Int) by omega], by rw [← List.append_assoc]; exact ho1, hb.trans (hb1.mono (Nat.le_refl _))⟩
      case measure => simp [intOf] <;> omega
    · obtain rfl : j = k := by omega
      have t0 : ¬ (0 : Int) ≤ (j : Int) - 1 - j := by omega
      go_wp2
      go_ret
      exact ⟨r, hr, RetOwn.mk' ho hb⟩
/-- A number out of a sector of noughts. -/
theorem get_0 {W : World} {lo hi : Nat} {A : Option Addr} {l : List UInt8} (hs : Sl W lo hi tBy A 512 l) (hz : ∀ i, i < 512 → l[i]? = some 0) :
    Calls Tryz.prog 265 #[.slice A 512 512, .int .i64 1, .int .i64 4] W fun e W' => e = .returned (.tuple #[.int .u64 0, .int .i64 0]) ∧ W' = W := by
  have HS := Lib.hid hs
  have HZ := Lib.hid hz
  obtain ⟨b, o, rfl, _, _, hc⟩ := hs.cells (by omega)
  have hcc : ∀ i, i < 512 → W.cell? ⟨b, o + i, none⟩ = some (.int .u8 0) := fun i hi => by
    have h := hc i 0 (hz i hi) 0 (.int .u8 0) rfl
    simpa [tBy] using h
  have HC := Lib.hid hcc
  clear hs hz hc hcc
  go_enter Tryz.func265, Tryz.ntmps265
  go_wp2
  go_loop [8, 10, 40] (fun s _ i => ∃ j : Nat, j ≤ 4 ∧ i = .int .i64 j ∧ s = .int .u64 0) (fun _ _ i => 4 - (intOf i).toNat)
  case atStart => exact ⟨0, Nat.zero_le _, rfl, rfl⟩
  case round =>
    obtain ⟨j, hj, rfl, rfl⟩ := hrel
    by_cases hlt : j < 4
    · have c0 := HC.out (1 + j) (by omega)
      rw [← Nat.add_assoc] at c0
      go_wp2
      go_round
      case rel => exact ⟨j + 1, by omega, by go_num, by first | rfl | (simp; done)⟩
      case measure => simp [intOf]; omega
    · obtain rfl : j = 4 := by omega
      go_wp2
      go_ret2
      exact ⟨rfl, rfl⟩
theorem wrap_u32 (n : Int) : 0 ≤ IntKind.u32.wrap n ∧ IntKind.u32.wrap n < 4294967296 := by
  have e : IntKind.u32.wrap n = n % 4294967296 := by simp [IntKind.wrap, IntKind.bits, IntKind.signed]
  rw [e]; omega
theorem bits_u32 (op : BinOp) (x y : Int) : 0 ≤ bits op .u32 x y ∧ bits op .u32 x y < 4294967296 := by
  unfold bits
  first | exact wrap_u32 _ | (split <;> first | exact wrap_u32 _ | omega) | trace_state
set_option maxRecDepth 100000 in
set_option maxHeartbeats 4000000 in
theorem sum_any {W : World} {lo hi n c g : Nat} {A : Option Addr} {l : List UInt8} (hs : Sl W lo hi tBy A n l) (hn : n ≤ 1000) (hg : W.cell? ⟨g, 0, none⟩ = some (.slice A n c)) :
    Calls Tryz.prog 354 #[.slice (some ⟨g, 0, none⟩) 1 1] W fun e W' => ∃ r : Int, 0 ≤ r ∧ r < 4294967296 ∧ e = .returned (.int .u32 r) ∧ W' = W := by
  have HS := Lib.hid hs
  clear hs
  go_enter Tryz.func354, Tryz.ntmps354
  go_wp2
  go_loop [3, 5, 7, 10] (fun s _ _ i => ∃ (j : Nat) (r : Int), j ≤ 1 ∧ i = .int .i64 j ∧ s = .int .u32 r ∧ 0 ≤ r ∧ r < 4294967296) (fun _ _ _ i => 1 - (intOf i).toNat)
  case atStart => exact ⟨0, _, Nat.zero_le _, rfl, rfl, by omega, by omega⟩
  case round =>
    obtain ⟨j, r, hj, rfl, rfl, hr0, hr1⟩ := hrel
    by_cases hlt : j < 1
    · obtain rfl : j = 0 := by omega
      go_wp2
      go_loop [3, 7, 16] (fun s _ i => ∃ (j : Nat) (r : Int), j ≤ n ∧ i = .int .i64 j ∧ s = .int .u32 r ∧ 0 ≤ r ∧ r < 4294967296) (fun _ _ i => n - (intOf i).toNat)
      case atStart => exact ⟨0, _, Nat.zero_le _, rfl, rfl, by omega, by omega⟩
      case round =>
        clear hr0 hr1
        obtain ⟨j, r, hj, rfl, rfl, hr0, hr1⟩ := hrel
        by_cases hlt : j < n
        · obtain ⟨b, o, x, hA, _, _, hx, _, hc⟩ := HS.out.at_ hlt
          subst hA
          have hc0 := hc 0 (.int .u8 x.toNat) rfl
          have e0 : o + j * tBy.sz + 0 = o + j := by show o + j * 1 + 0 = o + j; omega
          rw [e0] at hc0
          clear hc e0
          have hx1 : (0 : Int) ≤ x.toNat := by omega
          have hx2 : (x.toNat : Int) < 256 := by have := x.toNat_lt; omega
          go_wp2
          go_loop [3, 24] (fun s i => ∃ (j : Nat) (r : Int), j ≤ 8 ∧ i = .int .i64 j ∧ s = .int .u32 r ∧ 0 ≤ r ∧ r < 4294967296) (fun _ i => 8 - (intOf i).toNat)
          case atStart =>
            exact ⟨0, _, Nat.zero_le _, rfl, rfl, (bits_u32 _ _ _).1, (bits_u32 _ _ _).2⟩
          case round =>
            obtain ⟨j2, r2, hj2, rfl, rfl, hr2, hr3⟩ := hrel
            by_cases hlt2 : j2 < 8
            · go_wp2
              go_round
              case rel =>
                exact ⟨j2 + 1, _, by omega, by go_num, rfl, (bits_u32 _ _ _).1, (bits_u32 _ _ _).2⟩
              case measure => simp [intOf] <;> omega
            · go_wp2
              go_round
              case rel => exact ⟨j + 1, r2, by omega, by go_num, rfl, hr2, hr3⟩
              case measure => simp [intOf] <;> omega
        · go_wp2
          go_round
          case rel => exact ⟨1, r, by omega, by go_num, rfl, hr0, hr1⟩
          case measure => simp [intOf] <;> omega
    · go_wp2
      go_ret
      exact ⟨_, (bits_u32 _ _ _).1, (bits_u32 _ _ _).2, rfl, rfl⟩
end Go.Proofs.YtggomjfllbljeaaGreatDoor
namespace Go.Proofs.YtggomjfllbljeaaGreatDoor
set_option linter.unusedVariables false
open Go Go.RowKit
theorem zrow_list (k : Nat) : (zrow k).toList = (List.replicate k (0 : UInt8)).flatMap tBy.enc := by
  rw [← by_map]
  apply List.ext_getElem?
  intro i
  simp only [zrow, madeCells, List.map_replicate]
  by_cases h : i < k
  · have e1 : i % 1 = 0 := Nat.mod_one i
    simp [h, e1]
  · simp [h]
/-- 'out := make([]byte, d); copy(out, b)', of a shorter b. -/
theorem mk_copy2 {W : World} {lo hi n d : Nat} {A : Option Addr} {l : List UInt8} (hs : Sl W lo hi tBy A n l) (hn : 0 < n) (hh : hi ≤ W.heap.size) (h : n ≤ d) (hk : d ≤ 100000) :
    ∃ W2, (∀ ty c, (Builtin.copy_ #[57, 57] ty #[.slice (some ⟨W.heap.size, 0, none⟩) d d, .slice A n c]).run Tryz.prog (W.alloc (.cells (zrow d) 5)) = .ok (goInt n) W2) ∧
      Own W2 W.heap.size 5 tBy (.slice (some ⟨W.heap.size, 0, none⟩) d d) (l ++ List.replicate (d - n) 0) ∧ Below W.heap.size W W2 ∧ W.heap.size < W2.heap.size := by
  have hA := (hs.alloc hh (.cells (zrow d) 5))
  obtain ⟨b, o, rfl, _, _, hc⟩ := hA.cells hn
  have hl := hs.len
  have hg : (W.alloc (.cells (zrow d) 5)).heap[W.heap.size]? = some (.cells (zrow d) 5) := heap_alloc_new W _
  have hfl : (l.flatMap tBy.enc).length = n := by rw [by_flat_len]; exact hl
  refine ⟨_, fun ty c => run_copy_sz (P := Tryz.prog) (W.alloc (.cells (zrow d) 5)) 57 57 ty 5 1 W.heap.size 0 d d ⟨b, o, none⟩ n c (zrow d) 5 (l.flatMap tBy.enc) n Tryz.underlying57 (by kernel_rfl) hg (Nat.min_eq_left h) (by rw [hfl]; omega) (fun j v hj => ?_) (by rw [hfl, zrow_size]; omega) (fun v hv => ?_), ?_, ?_, ?_⟩
  · rw [← by_map, List.getElem?_map] at hj
    cases hq : l[j]? with
    | none => rw [hq] at hj; cases hj
    | some x =>
      rw [hq] at hj
      have h1 := hc j x hq 0 v (by simpa [tBy] using hj)
      have e : (⟨b, o, none⟩ : Addr).add j = ⟨b, o + j, none⟩ := by unfold Addr.add; split <;> simp_all
      rw [e]
      simpa [tBy] using h1
  · obtain ⟨x, hx, hv⟩ := List.mem_flatMap.1 hv
    exact tBy.one x v hv
  · refine Own.ofRow (T := tBy) (setRow_heap _ _ _ _ _ _ hg) (Nat.le_refl _) (by rw [List.length_append, List.length_replicate]; omega) (Nat.le_refl _) (by unfold maxLen; omega) ?_ (fun _ _ => trivial) ?_
    · show _ = d * 1
      simp [hfl, zrow_size]
      omega
    · show List.take (d * 1) _ = _
      have hz : (zrow d).toList.drop (l.flatMap tBy.enc).length = (List.replicate (d - n) (0 : UInt8)).flatMap tBy.enc := by
        rw [zrow_list, hfl, ← by_map, ← by_map, List.map_replicate, List.map_replicate, List.drop_replicate]
      simp only [List.take_zero, List.nil_append, Nat.mul_one, Nat.zero_add, hz]
      rw [List.flatMap_append]
      refine List.take_of_length_le ?_
      rw [List.length_append, by_flat_len, by_flat_len, List.length_replicate]
      omega
  · exact below_setRow ((Below.refl _ _).alloc (Nat.le_refl _) _) (Nat.le_refl _) _
  · simp
set_option maxRecDepth 100000 in
set_option maxHeartbeats 4000000 in
theorem sealed_by {W : World} {lo hi n c : Nat} {A : Option Addr} {l : List UInt8} (hs : Sl W lo hi tBy A n l) (hn : 0 < n) (hn2 : n ≤ 508) (hh : hi ≤ W.heap.size) :
    Calls Tryz.prog 268 #[.slice A n c] W fun e W' => ∃ r : List UInt8, r.length = 512 - n ∧ RetOwn W 5 tBy (l ++ r) e W' := by
  have hmk : (Instr.makeSlice 57 (.int .i64 508) (.int .i64 508)).run Tryz.prog W = .ok (.slice (some ⟨W.heap.size, 0, none⟩) 508 508) (W.alloc (.cells (zrow 508) 5)) := mk_by W 508 508 (by omega) (by omega)
  obtain ⟨W2, hcp, ho, hb, hz⟩ := mk_copy2 hs hn hh hn2 (by omega)
  have hl := hs.len
  have HO := Lib.hid ho
  clear ho
  go_enter Tryz.func268, Tryz.ntmps268
  go_upto_region 3 with fail
  clear hmk hcp
  refine wp_world (fun V => Own V W.heap.size 5 tBy (.slice (some ⟨W.heap.size, 0, none⟩) 508 508) (l ++ List.replicate (508 - n) 0) ∧ Below W.heap.size W V ∧ W.heap.size < V.heap.size) ⟨HO.out, hb, hz⟩ ?_
  clear HO hb hz
  rintro V ⟨ho, hb, hz⟩
  have hs1 := (ho.alloc (.cells #[.slice (some ⟨W.heap.size, 0, none⟩) 508 508] 57)).sl
  have hcl : (V.alloc (.cells #[.slice (some ⟨W.heap.size, 0, none⟩) 508 508] 57)).cell? ⟨V.heap.size, 0, none⟩ = some (.slice (some ⟨W.heap.size, 0, none⟩) 508 508) := (Bx.new _ _ _).cells 0
  have HS := Lib.hid hs1
  have HC := Lib.hid hcl
  have HB := Lib.hid ((hb.alloc (by omega) (.cells #[.slice (some ⟨W.heap.size, 0, none⟩) 508 508] 57)))
  clear hs1 hcl ho
  go_wp2_with fail
  refine (sum_any HS.out (by omega) HC.out).mono ?_
  rintro e V2 ⟨r, hr0, hr1, rfl, rfl⟩
  go_wp2_with fail
  refine (put_by r 4 hr0 (by omega) (by omega) HS.out (by omega) (by omega) (Nat.le_refl _)).mono ?_
  rintro e V3 ⟨q, hq, A9, c9, rfl, ho9, hb9⟩
  have hz9 := HB.out.size
  have hlen : (l ++ List.replicate (508 - n) 0 ++ q).length = 512 := by rw [List.length_append, List.length_append, List.length_replicate, hq, hl]; omega
  rw [hlen] at ho9 ⊢
  have HO := Lib.hid ho9
  clear ho9
  go_wp2
  go_ret
  refine ⟨List.replicate (508 - n) 0 ++ q, by rw [List.length_append, List.length_replicate, hq]; omega, A9, c9, by rw [← List.append_assoc, hlen]; rfl, ?_, HB.out.trans (hb9.mono hz9)⟩
  rw [← List.append_assoc, hlen]
  exact HO.out.more hz9
set_option maxRecDepth 100000 in
set_option maxHeartbeats 4000000 in
theorem head_by (W : World) (g : Int) (h0 : 0 ≤ g) (h1 : g < 4294967296) :
    Calls Tryz.prog 267 #[.int .u32 g] W fun e W' => ∃ r : List UInt8, r.length = 511 ∧ RetOwn W 5 tBy (1 :: r) e W' := by
  have hs : Sl (W.alloc (.cells #[.int .u8 1] 5)) W.heap.size (W.heap.size + 1) tBy (some ⟨W.heap.size, 0, none⟩) 1 [1] := by
    refine ⟨rfl, fun _ _ => trivial, fun _ => ⟨W.heap.size, 0, rfl, Nat.le_refl _, by omega, fun k x hx j u hu => ?_⟩⟩
    have hg : (W.alloc (.cells #[.int .u8 1] 5)).heap[W.heap.size]? = some (.cells #[.int .u8 1] 5) := heap_alloc_new W _
    have h3 := flatMap_at tBy [1] k x hx j u hu
    rw [cell_of_row _ W.heap.size _ _ 5 (0, 0) hg]
    have e : (0 + k * tBy.sz + j) = k * tBy.sz + j := by omega
    rw [e]
    simpa [tBy] using h3
  have HS := Lib.hid hs
  have HB := Lib.hid ((Below.refl W.heap.size W).alloc (Nat.le_refl _) (.cells #[.int .u8 1] 5))
  clear hs
  go_enter Tryz.func267, Tryz.ntmps267
  go_wp2_with fail
  refine (put_by g 4 h0 (by omega) (by omega) HS.out (by omega) (by omega) (by simp)).mono ?_
  rintro e V3 ⟨q, hq, A9, c9, rfl, ho9, hb9⟩
  have hlen : ([1] ++ q).length = 5 := by rw [List.length_append, hq]; rfl
  rw [hlen] at ho9 ⊢
  have HO := Lib.hid ho9
  have hz9 := HB.out.size
  clear ho9
  go_wp2_with fail
  refine (sealed_by HO.out.sl (by omega) (by omega) (Nat.le_refl _)).mono ?_
  rintro e V4 ⟨r, hr, A8, c8, rfl, ho8, hb8⟩
  have hlen2 : ([1] ++ q ++ r).length = 512 := by rw [List.length_append, hlen, hr]
  rw [hlen2] at ho8 ⊢
  have HO8 := Lib.hid ho8
  have hz8 := hb9.size
  clear ho8
  go_wp2
  go_ret
  have e9 : (1 :: (q ++ r) : List UInt8) = [1] ++ q ++ r := by simp
  refine ⟨q ++ r, by rw [List.length_append, hq, hr], A8, c8, ?_, ?_, (HB.out.trans (hb9.mono hz9)).trans (hb8.mono (by omega))⟩
  · rw [e9, hlen2]; rfl
  · rw [e9, hlen2]; exact HO8.out.more (by omega)
/-- Rows of bytes that begin with unlike ones. -/
theorem unlike_by {W : World} {lo hi lo2 hi2 n n2 c c2 : Nat} {A A2 : Option Addr} {l l2 : List UInt8} (hs : Sl W lo hi tBy A n l) (hs2 : Sl W lo2 hi2 tBy A2 n2 l2) (hn : 0 < n) (hn2 : 0 < n2) (hne : l[0]? ≠ l2[0]?) :
    Calls Tryz.prog 266 #[.slice A n c, .slice A2 n2 c2] W fun e W' => e = .returned (.bool false) ∧ W' = W := by
  have h1 := text_of (c := c) hs hn
  have h2 := text_of (c := c2) hs2 hn2
  have hl : l ≠ l2 := fun h => hne (by rw [h])
  have h3 : (⟨l.toArray⟩ : ByteArray).toList ≠ (⟨l2.toArray⟩ : ByteArray).toList := fun h => hl (by rw [ByteArray.toList_eq, ByteArray.toList_eq] at h; exact h)
  clear hs hs2 hl hne
  generalize (⟨l.toArray⟩ : ByteArray) = x at h1 h3
  generalize (⟨l2.toArray⟩ : ByteArray) = y at h2 h3
  go_enter Tryz.func266, Tryz.ntmps266
  go_wp2
  go_ret
  exact ⟨ret_bool (by simp [h3]), rfl⟩
end Go.Proofs.YtggomjfllbljeaaGreatDoor
