/- Put together by program of: Ho1, Ho2, Ho3, Ho4. -/
import Derived.Test.YtggomjfllbljeaaGreatDoorMEnC
import Derived.Test.YtggomjfllbljeaaGreatDoorMSwB
namespace Go.Proofs.YtggomjfllbljeaaGreatDoor
set_option linter.unusedVariables false
open Go Go.RowKit
abbrev sAG : ByteArray := ⟨#[65, 71, 49]⟩
abbrev sLN : ByteArray := ⟨#[76, 79, 78]⟩
/-- The cells of the area of AG1 in LON. -/
abbrev arS : Array Value := #[.string sAG, .string sLN, .bool false, .string ⟨#[]⟩, .string ⟨#[]⟩, .slice none 0 0, .slice none 0 0, .slice none 0 0, .int .i64 0, .int .i64 0, .int .i64 0, .string ⟨#[]⟩, .slice none 0 0, .slice none 0 0, .bool false, .int .u64 0, .slice none 0 0, .slice none 0 0, .bool false, .int .i64 0]
theorem wpList_val {P : Program} {ops : Array Oper} {rest : List Oper} {o : Oper} {a : Act} {w w' : World} {Q : Exit → Act → World → Prop} {v : Value} (hgd : o.guard = none) (hr : (execOp a.eval o).run P w = .ok (.value v) w') (h : wpList P ops Q rest (a.put o.dst v) w') : wpList P ops Q (o :: rest) a w := by
  refine wpList_plain hgd fun K hK => ?_
  unfold Oper.wp
  rw [hr]
  exact hK _ _ h
theorem info_ar : (Tryz.prog.info? 177).map (·.size) = some 20 := by kernel_rfl
theorem ret_area {fn : Func} {p u : Tmp} (h : fn.results = #[.cell p 177, .tmp u]) {R : Ending → World → Prop} {a : Act} {w : World} {g : Nat} {cs : Array Value} {v : Value}
    (hr : Bx w g cs 177) (hs : cs.size = 20) (hp : a.tmps.getD p undef = .pointer (some ⟨g, 0, none⟩)) (hv : a.tmps.getD u undef = v) (hd : a.defers = []) (hR : R (.returned (.tuple #[.agg cs, v])) w) : bodyPost Tryz.prog fn R .ret a w := by
  refine bodyPost_ret (v := .tuple #[.agg cs, v]) ?_ hd hR
  rw [results_cell_tmp h, hp]
  have hl := run_loadVar_row (P := Tryz.prog) w g 177 177 cs (0, 0) _ hr Tryz.underlying177 rfl (by rw [hs]; exact info_ar)
  simp [asAddr, hl, hv, Result.andThen]
set_option maxRecDepth 100000 in
set_option maxHeartbeats 4000000 in
theorem signin_si (W : World) : Calls Tryz.prog 123 #[.agg arZ, .string sAG, .string sLN] W fun e W' => e = .returned (.tuple #[.agg arS, .int .i64 0]) ∧ Below W.heap.size W W' := by
  have hag : agentB sAG = true := by decide
  have hct : wordB sLN 3 3 = true := by decide
  unfold arZ
  go_enter Tryz.func123, Tryz.ntmps123
  go_upto_region 1 with fail
  have q2 := Bx.new (W.alloc (.cells arZ 177)) arZ 177
  rw [World.size_alloc] at q2
  refine wp_world (fun V => Bx V W.heap.size arZ 177 ∧ Bx V (W.heap.size + 1) arZ 177 ∧ Below W.heap.size W V) ⟨(Bx.new W arZ 177).alloc _, q2, ((Below.refl _ _).alloc (Nat.le_refl _) _).alloc (by simp) _⟩ ?_
  clear q2
  rintro V1 ⟨b1, b2, hb⟩
  go_wp2_with fail
  refine (agent_any _ _ (by decide)).mono ?_
  rintro e V2 ⟨rfl, hb2⟩
  rw [hag]
  have c1 := b1.below hb2 b1.lt
  have c2 := b2.below hb2 b2.lt
  have hb3 : Below W.heap.size W V2 := hb.trans (hb2.mono hb.size)
  clear b1 b2 hb hb2
  go_wp2_with fail
  refine (city_any _ _ (by decide)).mono ?_
  rintro e V3 ⟨rfl, hb4⟩
  rw [hct]
  have d1 := c1.below hb4 c1.lt
  have d2 := c2.below hb4 c2.lt
  have hb5 : Below W.heap.size W V3 := hb3.trans (hb4.mono hb3.size)
  clear c1 c2 hb3 hb4
  have x1 : V3.cell? ⟨W.heap.size, 0, none⟩ = some (.string ⟨#[]⟩) := d1.cells 0
  have H := d2.row arS
  have hb9 := below_setRow hb5 (show W.heap.size ≤ W.heap.size + 1 by omega) arS
  have xl := d1.lt
  go_upto_region 5 with fail
  refine wp_region_lit ?_
  refine wpList_val rfl (v := .string sAG) (w' := V3) (by kernel_rfl) ?_
  refine wpList_val rfl (v := .string sLN) (w' := V3) (by kernel_rfl) ?_
  refine wpList_val rfl (v := .agg arS) (w' := V3) (by kernel_rfl) ?_
  refine wpList_store_row rfl 177 (.tmp 6) (.tmp 25) rfl (W.heap.size + 1) arS (by kernel_rfl) (by kernel_rfl) 177 arZ d2 info_ar (by kernel_rfl) (by kernel_rfl) ?_
  go_wp2
  exact ret_area rfl H rfl rfl rfl rfl ⟨rfl, hb9⟩
end Go.Proofs.YtggomjfllbljeaaGreatDoor
namespace Go.Proofs.YtggomjfllbljeaaGreatDoor
set_option linter.unusedVariables false
open Go Go.RowKit
/-- What say hands back. -/
def RetSay (W : World) (s : ByteArray) (e : Ending) (W' : World) : Prop :=
  ∃ g, e = .returned (.tuple #[.agg arS, .slice (some ⟨g, 0, none⟩) 1 1, .int .i64 0]) ∧ Bx W' g #[.string s] 9 ∧ W.heap.size ≤ g ∧ Below W.heap.size W W'
theorem ret_area3 {fn : Func} {p u v : Tmp} (h : fn.results = #[.cell p 177, .tmp u, .tmp v]) {R : Ending → World → Prop} {a : Act} {w : World} {g : Nat} {cs : Array Value} {x y : Value}
    (hr : Bx w g cs 177) (hs : cs.size = 20) (hp : a.tmps.getD p undef = .pointer (some ⟨g, 0, none⟩)) (hx : a.tmps.getD u undef = x) (hy : a.tmps.getD v undef = y) (hd : a.defers = []) (hR : R (.returned (.tuple #[.agg cs, x, y])) w) : bodyPost Tryz.prog fn R .ret a w := by
  refine bodyPost_ret (v := .tuple #[.agg cs, x, y]) ?_ hd hR
  have hl := run_loadVar_row (P := Tryz.prog) w g 177 177 cs (0, 0) _ hr Tryz.underlying177 rfl (by rw [hs]; exact info_ar)
  have hp' : a.tmps[p]?.getD undef = .pointer (some ⟨g, 0, none⟩) := by simpa using hp
  have hx' : a.tmps[u]?.getD undef = x := by simpa using hx
  have hy' : a.tmps[v]?.getD undef = y := by simpa using hy
  simp [results, h, hp', hx', hy', asAddr, hl, Result.andThen]
set_option maxRecDepth 100000 in
set_option maxHeartbeats 4000000 in
theorem say_any (W : World) (s : ByteArray) : Calls Tryz.prog 124 #[.agg arS, .int .i64 0, .string s] W (RetSay W s) := by
  go_enter Tryz.func124, Tryz.ntmps124
  go_upto_region 1 with fail
  have q2 := Bx.new (W.alloc (.cells arS 177)) arZ 177
  rw [World.size_alloc] at q2
  refine wp_world (fun V => Bx V W.heap.size arS 177 ∧ Bx V (W.heap.size + 1) arZ 177 ∧ Below W.heap.size W V) ⟨(Bx.new W arS 177).alloc _, q2, ((Below.refl _ _).alloc (Nat.le_refl _) _).alloc (by simp) _⟩ ?_
  clear q2
  rintro V ⟨b1, b2, hb⟩
  have H2 := (b2.alloc (.cells #[.string s] 9)).row arS
  have HG := (Bx.new V #[.string s] 9).rowOther (g := W.heap.size + 1) (by have := b2.lt; omega) arS
  have hb9 := below_setRow (hb.alloc hb.size (.cells #[.string s] 9)) (show W.heap.size ≤ W.heap.size + 1 by omega) arS
  refine wp_region_lit ?_
  refine wpList_load_row rfl 177 (.tmp 3) rfl W.heap.size (by kernel_rfl) 177 arS (0, 0) _ b1 Tryz.underlying177 rfl info_ar ?_
  refine wpList_val rfl (v := .string s) (w' := V) (by kernel_rfl) ?_
  refine wpList_val rfl (v := .slice (some ⟨V.heap.size, 0, none⟩) 1 1) (w' := V.alloc (.cells #[.string s] 9)) (by kernel_rfl) ?_
  refine wpList_val rfl (v := .int .i64 0) (w' := V.alloc (.cells #[.string s] 9)) (by kernel_rfl) ?_
  refine wpList_store_row rfl 177 (.tmp 6) (.tmp 9) rfl (W.heap.size + 1) arS (by kernel_rfl) (by kernel_rfl) 177 arZ (b2.alloc _) info_ar (by kernel_rfl) (by kernel_rfl) ?_
  go_wp2
  exact ret_area3 rfl H2 rfl rfl rfl rfl rfl ⟨_, rfl, HG, hb.size, hb9⟩
end Go.Proofs.YtggomjfllbljeaaGreatDoor
namespace Go.Proofs.YtggomjfllbljeaaGreatDoor
set_option linter.unusedVariables false
open Go Go.RowKit
abbrev sSI : ByteArray := ⟨#[83, 73, 71, 78, 69, 68, 32, 73, 78, 32, 65, 71, 49, 32, 76, 79, 78]⟩
set_option maxRecDepth 100000 in
set_option maxHeartbeats 4000000 in
theorem command_si (W : World) (h : Value) : Calls Tryz.prog 75 #[h, .agg arZ, .agg (cmC 1 sAG sLN)] W (RetSay W sSI) := by
  have hcat : (⟨#[83, 73, 71, 78, 69, 68, 32, 73, 78, 32]⟩ : ByteArray) ++ sAG ++ ⟨#[32]⟩ ++ sLN = sSI := by rfl
  unfold arZ
  go_enter Tryz.func75, Tryz.ntmps75
  go_upto_region 1 with fail
  have q1 := Bx.new (W.alloc (.cells arZ 177)) (cmC 1 sAG sLN) 159
  have q2 := Bx.new ((W.alloc (.cells arZ 177)).alloc (.cells (cmC 1 sAG sLN) 159)) arZ 177
  rw [World.size_alloc] at q1
  rw [World.size_alloc, World.size_alloc] at q2
  refine wp_world (fun V => Bx V W.heap.size arZ 177 ∧ Bx V (W.heap.size + 1) (cmC 1 sAG sLN) 159 ∧ Bx V (W.heap.size + 1 + 1) arZ 177 ∧ Below W.heap.size W V) ⟨((Bx.new W arZ 177).alloc _).alloc _, q1.alloc _, q2, (((Below.refl _ _).alloc (Nat.le_refl _) _).alloc (by simp) _).alloc (by simp; omega) _⟩ ?_
  clear q1 q2
  rintro V ⟨b1, b2, b3, hb⟩
  have x2 := b2.cells
  have z2 := b2.lt
  go_upto_region 2 with fail
  refine wp_region_lit ?_
  refine wpList_load_row rfl 177 (.tmp 4) rfl W.heap.size (by kernel_rfl) 177 arZ (0, 0) _ b1 Tryz.underlying177 rfl info_ar ?_
  go_wp2_with fail
  refine (signin_si _).mono ?_
  rintro e V2 ⟨rfl, hb2⟩
  rename_i hK
  refine hK _ _ ?_
  have y2 := b2.below hb2 b2.lt
  have y3 := b3.below hb2 b3.lt
  have hb3 : Below W.heap.size W V2 := hb.trans (hb2.mono hb.size)
  clear x2 z2 b1 b2 b3 hb hb2
  have z3 := y3.lt
  have r2 := (y2.alloc (.cells arZ 177)).rowOther (g := V2.heap.size) (by omega) arS
  have r3 := (y3.alloc (.cells arZ 177)).rowOther (g := V2.heap.size) (by omega) arS
  have r9 := (Bx.new V2 arZ 177).row arS
  have rb := below_setRow (hb3.alloc hb3.size (.cells arZ 177)) hb3.size arS
  refine wpList_val rfl (v := .tuple #[.agg arS, .int .i64 0]) (w' := V2) (by kernel_rfl) ?_
  refine wpList_val rfl (v := .agg arS) (w' := V2) (by kernel_rfl) ?_
  refine wpList_val rfl (v := .int .i64 0) (w' := V2) (by kernel_rfl) ?_
  refine wpList_val rfl (v := .pointer (some ⟨V2.heap.size, 0, none⟩)) (w' := V2.alloc (.cells arZ 177)) (by kernel_rfl) ?_
  refine wpList_store_row rfl 177 (.tmp 9) (.tmp 23) rfl V2.heap.size arS (by kernel_rfl) (by kernel_rfl) 177 arZ (Bx.new _ _ _) info_ar (by kernel_rfl) (by kernel_rfl) ?_
  go_upto_region 3 with fail
  refine wp_world (fun V => Bx V V2.heap.size arS 177 ∧ Bx V (W.heap.size + 1) (cmC 1 sAG sLN) 159 ∧ Bx V (W.heap.size + 1 + 1) arZ 177 ∧ Below W.heap.size W V) ⟨r9, r2, r3, rb⟩ ?_
  clear r2 r3 r9 rb y2 y3 hb3 z3
  rintro V3 ⟨b9, b2, b3, hb⟩
  have x2 := b2.cells
  have z2 := b2.lt
  refine wp_region_lit ?_
  refine wpList_load_row rfl 177 (.tmp 9) rfl V2.heap.size (by kernel_rfl) 177 arS (0, 0) _ b9 Tryz.underlying177 rfl info_ar ?_
  go_wp2_with fail
  refine (say_any _ sSI).mono ?_
  rintro e V4 ⟨g, rfl, hg, hg0, hb4⟩
  rename_i hK
  refine hK _ _ ?_
  have y3 := b3.below hb4 b3.lt
  have hb5 : Below W.heap.size W V4 := hb.trans (hb4.mono hb.size)
  have z3 := b3.lt
  have r3 := y3.row arS
  have rg := hg.rowOther (g := W.heap.size + 1 + 1) (by omega) arS
  have rb := below_setRow hb5 (show W.heap.size ≤ W.heap.size + 1 + 1 by omega) arS
  refine wpList_val rfl (v := .agg arS) (w' := V4) (by kernel_rfl) ?_
  refine wpList_val rfl (v := .slice (some ⟨g, 0, none⟩) 1 1) (w' := V4) (by kernel_rfl) ?_
  refine wpList_val rfl (v := .int .i64 0) (w' := V4) (by kernel_rfl) ?_
  refine wpList_store_row rfl 177 (.tmp 6) (.tmp 35) rfl (W.heap.size + 1 + 1) arS (by kernel_rfl) (by kernel_rfl) 177 arZ y3 info_ar (by kernel_rfl) (by kernel_rfl) ?_
  go_wp2
  exact ret_area3 rfl r3 rfl rfl rfl rfl rfl ⟨_, rfl, rg, by have := hb.size; omega, rb⟩
end Go.Proofs.YtggomjfllbljeaaGreatDoor
namespace Go.Proofs.YtggomjfllbljeaaGreatDoor
set_option linter.unusedVariables false
open Go Go.RowKit
set_option maxRecDepth 100000 in
set_option maxHeartbeats 2000000 in
theorem hdown_0 {W : World} {h d m s l x du st : Nat} {a : Int} (H : HW W h d m s l x du st a) : Calls Tryz.prog 71 #[.pointer (some ⟨h, 0, none⟩)] W fun e W' => e = .returned (.bool false) ∧ W = W' := by
  obtain ⟨t, hb⟩ := H.hb
  have c1 := hb.cells
  have z1 := hb.lt
  have d1 := H.dk.bd
  go_enter Tryz.func71, Tryz.ntmps71
  go_wp2_with fail
  refine (down_any d1).mono ?_
  rintro e V ⟨rfl, rfl⟩
  go_wp2
  go_ret
  exact ⟨rfl, rfl⟩
end Go.Proofs.YtggomjfllbljeaaGreatDoor
