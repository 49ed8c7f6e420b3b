/- Package codec: the bytes of the count (0, 5). Package store: an empty index. Package settle: a write of a key that is not there. -/
import Derived.Test.YtggomjfllbljeaaGreatDoorTk1
import Derived.Test.YtggomjfllbljeaaGreatDoorMNx
import Derived.OwnWalk
namespace Go.Proofs.YtggomjfllbljeaaGreatDoor
set_option linter.unusedVariables false
open Go Go.RowKit
set_option maxRecDepth 100000 in
theorem split_5 (W : World) : Calls Tryz.prog 77 #[.int .i64 5] W fun e W' => e = .returned (.tuple #[.int .i64 0, .int .i64 5, .int .i64 0]) ∧ W = W' := by
  go_enter Tryz.func77, Tryz.ntmps77
  go_wp2
  go_ret3
  exact ⟨rfl, rfl⟩
/-- What hands back n bytes in new memory, and no error. -/
def RetBs (W : World) (n : Nat) (e : Ending) (W' : World) : Prop :=
  ∃ (l : List UInt8) (A : Option Addr) (c : Nat), l.length = n ∧ e = .returned (.tuple #[.slice A n c, .int .i64 0]) ∧ Sl W' W.heap.size W'.heap.size tBy A n l ∧ Below W.heap.size W W'
set_option maxRecDepth 100000 in
set_option maxHeartbeats 4000000 in
theorem ofcount_5 (W : World) : Calls Tryz.prog 136 #[.agg #[.int .i64 0, .int .i64 5]] W (RetBs W 3) := by
  have q1 := Sl.one (T := tBy) (W.alloc (.cells #[.int .i64 0, .int .i64 5] 185)) 67 trivial #[.int .u8 67] rfl 5
  have q2 := Bx.new ((W.alloc (.cells #[.int .i64 0, .int .i64 5] 185)).alloc (.cells #[.int .u8 67] 5)) #[.slice (some ⟨W.heap.size + 1, 0, none⟩) 1 1] 393
  rw [World.size_alloc] at q1
  rw [World.size_alloc, World.size_alloc] at q2
  have HQ := Lib.hid (And.intro (((Bx.new W #[.int .i64 0, .int .i64 5] 185).alloc (.cells #[.int .u8 67] 5)).alloc (.cells #[.slice (some ⟨W.heap.size + 1, 0, none⟩) 1 1] 393)) (And.intro q2 (And.intro (q1.alloc (by simp) (.cells #[.slice (some ⟨W.heap.size + 1, 0, none⟩) 1 1] 393)) ((((Below.refl W.heap.size W).alloc (Nat.le_refl _) (.cells #[.int .i64 0, .int .i64 5] 185)).alloc (by simp) (.cells #[.int .u8 67] 5)).alloc (by simp; omega) (.cells #[.slice (some ⟨W.heap.size + 1, 0, none⟩) 1 1] 393)))))
  clear q1 q2
  go_enter Tryz.func136, Tryz.ntmps136
  go_wp2_with fail
  refine (split_5 _).mono ?_
  rintro e V0 ⟨rfl, rfl⟩
  go_upto_region 5 with fail
  refine wp_world (fun V => Bx V W.heap.size #[.int .i64 0, .int .i64 5] 185 ∧ Bx V (W.heap.size + 1 + 1) #[.slice (some ⟨W.heap.size + 1, 0, none⟩) 1 1] 393 ∧ Sl V (W.heap.size + 1) (W.heap.size + 1 + 1) tBy (some ⟨W.heap.size + 1, 0, none⟩) 1 [67] ∧ Below W.heap.size W V) HQ.out ?_
  clear HQ
  rintro V ⟨b0, b2, hs, hb⟩
  have z2 := b2.lt
  have x0 := b0.cells
  go_wp2_with fail
  refine (number_w 0 (by omega) (by omega) b2 (hs.more (Nat.le_refl _) (show W.heap.size + 1 + 1 ≤ V.heap.size by omega)) (by omega) (by omega)).mono ?_
  rintro e V1 ⟨y, A1, c1, rfl, b3, hs1, hK1⟩
  have b01 := hK1.bx b0 (by unfold Ob; omega)
  have hz1 := hK1.size
  clear x0 b0 b2 hs
  have x0 := b01.cells
  go_wp2_with fail
  refine (number_w 5 (by omega) (by omega) b3 (hs1.more (Nat.le_refl _) (Nat.le_refl _)) (by omega) (by omega)).mono ?_
  rintro e V2 ⟨y2, A2, c2, rfl, b4, hs2, hK2⟩
  have hK := ((Kp.of hb : Kp (fun k => k = W.heap.size + 1 + 1) W V).trans (S' := Ob (W.heap.size + 1 + 1)) hK1 (fun _ _ e => e)).trans (S' := Ob (W.heap.size + 1 + 1)) hK2 (fun _ _ e => e)
  have hb9 := hK.below (Below.refl W.heap.size W) (Nat.le_refl _) (fun b _ e => by omega)
  have hz0 := hb.size
  have HS := Lib.hid (hs2.more (lo' := W.heap.size) (by omega) (Nat.le_refl _))
  clear x0 b01 hs1 b3 hs2 hK
  have x4 := b4.cells
  go_wp2
  go_ret2
  exact ⟨_, _, _, rfl, rfl, HS.out, hb9⟩
set_option maxRecDepth 100000 in
theorem find_0 (W : World) (s : ByteArray) : Calls Tryz.prog 177 #[.slice none 0 0, .string s] W fun e W' => e = .returned (.tuple #[.int .i64 0, .int .i64 0, .bool false]) ∧ Below W.heap.size W W' := by
  have hB := ((Below.refl W.heap.size W).alloc (Nat.le_refl _) (.cells #[.slice none 0 0] 211)).alloc (by simp) (.cells #[.string s] 9)
  go_enter Tryz.func177, Tryz.ntmps177
  go_wp2
  go_ret3
  exact ⟨rfl, hB⟩
set_option maxRecDepth 100000 in
theorem get_e {W : World} {s l : Nat} {ar : Int} (hs : Bx W s (stC ar l) 215) (k : ByteArray) : Calls Tryz.prog 244 #[.pointer (some ⟨s, 0, none⟩), .string k] W fun e W' => e = .returned (.tuple #[.slice none 0 0, .int .u64 0, .bool false]) ∧ Below W.heap.size W W' := by
  have c1 := hs.cells
  have z1 := hs.lt
  go_enter Tryz.func244, Tryz.ntmps244
  go_wp2_with fail
  refine (find_0 _ _).mono ?_
  rintro e V ⟨rfl, hb⟩
  have c2 := (hs.below hb z1).cells
  clear c1
  go_wp2
  go_ret3
  exact ⟨rfl, hb⟩
/-- The cells of a write. -/
abbrev wrC (k : ByteArray) (A : Option Addr) (n c : Nat) : Array Value := #[.string k, .slice A n c, .bool false, .int .u64 0]
theorem info_wr : (Tryz.prog.info? 259).map (·.size) = some 4 := by kernel_rfl
theorem ret_row {fn : Func} {p : Tmp} {t : TypeId} {d : TypeDesc} {k : Nat} (h : fn.results = #[.cell p t]) (hu : Tryz.prog.underlying t = some d) (hd : d.isRow = true) (hi : (Tryz.prog.info? t).map (·.size) = some k) {R : Ending → World → Prop} {a : Act} {w : World} {g : Nat} {cs : Array Value}
    (hr : Bx w g cs t) (hs : cs.size = k) (hp : a.tmps.getD p undef = .pointer (some ⟨g, 0, none⟩)) (hdf : a.defers = []) (hR : R (.returned (.agg cs)) w) : bodyPost Tryz.prog fn R .ret a w := by
  exact bodyPost_ret (v := .agg cs) (results_cell_row h _ w g _ cs (0, 0) _ hp hr hu (by cases d <;> first | rfl | cases hd) (by rw [hi, hs])) hdf hR
set_option maxRecDepth 100000 in
set_option maxHeartbeats 4000000 in
theorem write_e {W : World} {x s l pn qs du : Nat} {q bk : Value} {now ar : Int} (hx : Bx W x (xC s pn qs q bk now du) 231) (hs : Bx W s (stC ar l) 215) (k : ByteArray) {A : Option Addr} {n c : Nat} (hn : 0 < n) :
    Calls Tryz.prog 138 #[.pointer (some ⟨x, 0, none⟩), .string k, .slice A n c] W fun e W' => e = .returned (.agg (wrC k A n c)) ∧ Below W.heap.size W W' := by
  have hn0 : ¬ n = 0 := by omega
  have hn1 : ((n : Int) == 0) = false := by simp; omega
  go_enter Tryz.func138, Tryz.ntmps138
  go_upto_region 1 with fail
  refine wp_world (fun V => Bx V W.heap.size #[.string ⟨#[]⟩, .slice none 0 0, .bool false, .int .u64 0] 259 ∧ Bx V x (xC s pn qs q bk now du) 231 ∧ Bx V s (stC ar l) 215 ∧ Below W.heap.size W V) ⟨by exact Bx.new _ _ _, hx.alloc _, hs.alloc _, (Below.refl _ _).alloc (Nat.le_refl _) _⟩ ?_
  rintro V ⟨b0, bx, bs, hb⟩
  have x1 := bx.cells
  have z1 := bx.lt
  clear hx hs
  go_wp2_with fail
  refine (get_e bs k).mono ?_
  rintro e V2 ⟨rfl, hb2⟩
  have b3 := b0.below hb2 b0.lt
  have hb9 := below_setRow (hb.trans (hb2.mono hb.size)) (Nat.le_refl _) (wrC k A n c)
  have r3 := b3.row (wrC k A n c)
  clear x1 bx bs b0 hb hb2
  go_wp2_with (refine wpList_store_row rfl 259 (.tmp 6) (.tmp 26) rfl W.heap.size (wrC k A n c) rfl rfl 259 _ b3 info_wr rfl (by simp [Value.oneCell']) ?_)
  exact ret_row rfl Tryz.underlying259 rfl info_wr r3 rfl rfl rfl ⟨rfl, hb9⟩
end Go.Proofs.YtggomjfllbljeaaGreatDoor
