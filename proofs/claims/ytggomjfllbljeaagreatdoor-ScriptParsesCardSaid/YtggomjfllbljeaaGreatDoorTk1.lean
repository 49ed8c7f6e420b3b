/- Package word: a number below 128 is one byte. Package codec: the bytes of a count. -/
import Derived.Test.YtggomjfllbljeaaGreatDoorMNwA
import Derived.Test.YtggomjfllbljeaaGreatDoorMEnA
namespace Go.Proofs.YtggomjfllbljeaaGreatDoor
set_option linter.unusedVariables false
open Go Go.RowKit
/-- 'out := make([]byte, n, k); copy(out, b)': how it comes out. -/
def Cop (W : World) (A : Option Addr) (n c k : Nat) (l : List UInt8) : Prop :=
  ∃ W2, (∀ ty, (Builtin.copy_ #[57, 57] ty #[.slice (some ⟨W.heap.size, 0, none⟩) n k, .slice A n c]).run Tryz.prog (W.alloc (.cells (zrow k) 5)) = .ok (goInt n) W2) ∧
    Own W2 W.heap.size 5 tBy (.slice (some ⟨W.heap.size, 0, none⟩) n k) l ∧ Below W.heap.size W W2
theorem Cop.of {W : World} {lo hi n k : Nat} (c : Nat) {A : Option Addr} {l : List UInt8} (hs : Sl W lo hi tBy A n l) (hn : 0 < n) (hh : hi ≤ W.heap.size) (h : n ≤ k) (hk : k ≤ 100000) : Cop W A n c k l := by
  obtain ⟨W2, h1, h2, h3⟩ := mk_copy hs hn hh h hk
  exact ⟨W2, fun ty => h1 ty c, h2, h3⟩
theorem Cop.none (W : World) {k : Nat} (hk : k ≤ 100000) : Cop W none 0 0 k [] := by
  refine ⟨W.alloc (.cells (zrow k) 5), fun ty => ?_, ?_, (Below.refl _ _).alloc (Nat.le_refl _) _⟩
  · simp [Builtin.copy_, goInt, Builtin.lenOf, Builtin.firstCells, storeCells]
  · refine Own.ofRow (T := tBy) (heap_alloc_new W _) (Nat.le_refl _) rfl (Nat.zero_le _) (by unfold maxLen; omega) ?_ (fun _ h => absurd h List.not_mem_nil) ?_
    · show _ = k * 1
      rw [zrow_size]; omega
    · rfl
set_option maxRecDepth 100000 in
set_option maxHeartbeats 4000000 in
theorem var_any {W : World} {n c : Nat} {A : Option Addr} {l : List UInt8} (v : Int) (hv : 0 ≤ v) (hv2 : v ≤ 127) (hl : l.length = n) (hn2 : n ≤ 10000) (hC : Cop W A n c (n + 10) l) :
    Calls Tryz.prog 335 #[.slice A n c, .int .u64 v] W fun e W' => ∃ y : UInt8, RetOwn W 5 tBy (l ++ [y]) e W' := by
  have hmk := mk_by W n (n + 10) (by omega) (by omega)
  obtain ⟨W2, hcp, ho, hb⟩ := hC
  have hi8 : ((n + 10 : Nat) : Int) = n + 10 := by omega
  rw [hi8] at hmk
  have h127 : ¬ (127 : Int) < v := by omega
  obtain ⟨y, hy⟩ := by_of (x := v) (by omega) (by omega)
  have HY := Lib.hid hy
  clear hy
  go_enter Tryz.func335, Tryz.ntmps335
  go_wp2
  clear hmk hcp hi8
  go_loop [1, 5] (fun s t => s = .int .u64 v ∧ t = .slice (some ⟨W.heap.size, 0, none⟩) n (n + 10)) (fun _ _ => 0)
  case atStart => exact ⟨rfl, rfl⟩
  case round =>
    obtain ⟨rfl, rfl⟩ := hrel
    have hl9 : l.length < 1000000 := by omega
    go_wp2_with (at_builtin; refine push_rd (W := W2) rfl (.tmp 25) (.tmp 28) rfl rfl (.inl ho) y _ (by rw [show tBy.enc y = [.int .u8 y.toNat] from rfl, HY.out]) rfl hb.size hl9 ?_; intro v1 w1 ho1 hb1)
    go_ret
    exact ⟨y, RetOwn.mk' ho1 (hb.trans (hb1.mono (Nat.le_refl _)))⟩
/-- A number behind a writer's bytes. -/
theorem number_w {W : World} {b B n c : Nat} {A : Option Addr} {l : List UInt8} (v : Int) (hv : 0 ≤ v) (hv2 : v ≤ 127) (hb : Bx W b #[.slice A n c] 393) (hs : Sl W B W.heap.size tBy A n l) (hn : 0 < n) (hn2 : n ≤ 10000) :
    Calls Tryz.prog 238 #[.pointer (some ⟨b, 0, none⟩), .int .i64 v] W fun e W' => ∃ (y : UInt8) (A' : Option Addr) (c' : Nat), e = .returned (.tuple #[]) ∧ Bx W' b #[.slice A' (n + 1) c'] 393 ∧ Sl W' W.heap.size W'.heap.size tBy A' (n + 1) (l ++ [y]) ∧ Kp (Ob b) W W' := by
  have c1 := hb.cells
  have z1 := hb.lt
  have hC := Lib.hid (Cop.of c hs hn (Nat.le_refl _) (show n ≤ n + 10 by omega) (by omega))
  have hl := hs.len
  clear hs
  go_enter Tryz.func238, Tryz.ntmps238
  go_wp2_with fail
  refine (var_any v hv hv2 hl hn2 hC.out).mono ?_
  rintro e V ⟨y, A', c', rfl, ho, hb1⟩
  have hlen : (l ++ [y]).length = n + 1 := by rw [List.length_append, hl]; rfl
  rw [hlen] at ho ⊢
  have b2 := hb.below hb1 z1
  have HB := Lib.hid (b2.put 0 (.slice A' (n + 1) c'))
  have HO := Lib.hid ((ho.setCell (p := ⟨b, 0, none⟩) z1 (.slice A' (n + 1) c')).sl)
  have HK := Lib.hid ((Kp.of hb1 : Kp (Ob b) W V).set (p := ⟨b, 0, none⟩) rfl (.slice A' (n + 1) c'))
  have c2 := b2.cells
  have f2 := b2.free
  clear ho hb1 hb c1
  go_wp2
  first | refine bodyPost_ret (results_none rfl _ _ _) rfl ?_ | refine bodyPost_end (results_none rfl _ _ _) rfl ?_
  exact ⟨y, A', c', rfl, HB.out, by simpa using HO.out, HK.out⟩
end Go.Proofs.YtggomjfllbljeaaGreatDoor
