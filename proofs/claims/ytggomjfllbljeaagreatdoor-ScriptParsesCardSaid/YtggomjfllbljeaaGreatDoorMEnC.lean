/- Put together by program of: En7, En8. -/
import Derived.Test.YtggomjfllbljeaaGreatDoorMEnB
import Derived.Defers
import Derived.Recover
namespace Go.Proofs.YtggomjfllbljeaaGreatDoor
set_option linter.unusedVariables false
open Go Go.RowKit
section
variable {P : Program} {ops : Array Oper} {Q : Exit → Act → List Frame → World → Prop} {rest : List Nat} {a : Act} {cs : List Frame} {w : World} {i : Nat} {o : Oper}
theorem opsS_wp (ho : ops[i]? = some o) (hgd : o.guard = none) (h : o.wp P a w (fun a' w' => wpOpsS P ops Q rest a' cs w') (fun e a' w' => Q e a' cs w')) : wpOpsS P ops Q (i :: rest) a cs w := by
  have hw : Region.wanted o (yielded ops a.tmps) = true := by simp [Region.wanted, hgd]
  unfold wpOpsS
  rw [ho]
  simp only [hw, if_true]
  unfold Oper.wp at h
  split
  · rename_i w' hr
    rw [hr] at h
    simp [Oper.upon] at h
  · exact h
theorem opsS_val {v : Value} {w' : World} (ho : ops[i]? = some o) (hgd : o.guard = none) (hr : (execOp a.eval o).run P w = .ok (.value v) w') (h : wpOpsS P ops Q rest (a.put o.dst v) cs w') : wpOpsS P ops Q (i :: rest) a cs w := by
  refine opsS_wp ho hgd ?_
  unfold Oper.wp
  rw [hr]
  exact h
theorem opsS_rec {w' : World} (ho : ops[i]? = some o) (hgd : o.guard = none) (hr : (execOp a.eval o).run P w = .ok .recover w') (hc : recoverD cs = none) (h : wpOpsS P ops Q rest (a.put o.dst .nilIface) cs w') : wpOpsS P ops Q (i :: rest) a cs w := by
  have hw : Region.wanted o (yielded ops a.tmps) = true := by simp [Region.wanted, hgd]
  unfold wpOpsS
  rw [ho]
  simp only [hw, if_true, hr, hc]
  exact h
theorem opsS_store {ty : TypeId} {x y : Operand} {g : Nat} {cells old : Array Value} (ho : ops[i]? = some o) (hgd : o.guard = none) (hop : o.op = .store ty x y) (hx : a.eval x = .pointer (some ⟨g, 0, none⟩)) (hy : a.eval y = .agg cells) (hb : Bx w g old ty) (hi : (P.info? ty).map (·.size) = some cells.size) (hold : old.size = cells.size) (h1 : cells.all (·.oneCell') = true)
    (h : wpOpsS P ops Q rest (a.put o.dst undef) cs (w.setRow g cells)) : wpOpsS P ops Q (i :: rest) a cs w :=
  opsS_wp ho hgd (wp_store_row ty x y hop g cells hx hy ty old hb hi hold h1 h)
theorem opsS_nil (h : Q .normal a cs w) : wpOpsS P ops Q [] a cs w := h
end
attribute [local irreducible] wpOpsS
theorem info_fl : (Tryz.prog.info? 161).map (·.size) = some 2 := by kernel_rfl
set_option maxRecDepth 100000 in
set_option maxHeartbeats 200000 in
theorem catch_idle (p q : Addr) (w : World) :
    CallsD Tryz.prog 118 #[.pointer (some p), .pointer (some q)] .returning w fun e u' w' => e = .returned (.tuple #[]) ∧ u' = .returning ∧ Below w.heap.size w w' := by
  refine callsD_of_wpS Tryz.func118 rfl fun c₀ cs hu => ?_
  apply wpS_seq
  apply wpS_region
  simp only [Tryz.ntmps118]
  show wpOpsS _ _ _ [0, 1, 2, 3, 4, 5, 6, 7] _ _ _
  refine opsS_rec (w' := w) rfl rfl (by kernel_rfl) (by simp [recoverD, hu]) ?_
  refine opsS_val rfl rfl (v := .tuple #[.agg #[.int .i64 0, .int .i64 0], .bool false]) (w' := w) (by kernel_rfl) ?_
  refine opsS_val rfl rfl (v := .tuple #[.agg #[.int .i64 0, .int .i64 0], .bool false]) (w' := w) (by kernel_rfl) ?_
  refine opsS_val rfl rfl (v := .agg #[.int .i64 0, .int .i64 0]) (w' := w) (by kernel_rfl) ?_
  refine opsS_val rfl rfl (v := .bool false) (w' := w) (by kernel_rfl) ?_
  refine opsS_val rfl rfl (v := .pointer (some ⟨w.heap.size, 0, none⟩)) (w' := w.alloc (.cells #[.int .i64 0, .int .i64 0] 161)) (by kernel_rfl) ?_
  have hb := Bx.new w #[.int .i64 0, .int .i64 0] 161
  have hr := hb.row #[.int .i64 0, .int .i64 0]
  have hB := below_setRow ((Below.refl w.heap.size w).alloc (Nat.le_refl _) (.cells #[.int .i64 0, .int .i64 0] 161)) (Nat.le_refl _) #[.int .i64 0, .int .i64 0]
  refine opsS_store rfl rfl rfl (g := w.heap.size) (cells := #[.int .i64 0, .int .i64 0]) (old := #[.int .i64 0, .int .i64 0]) (by kernel_rfl) (by kernel_rfl) hb info_fl (by kernel_rfl) (by kernel_rfl) ?_
  refine opsS_val rfl rfl (v := .bool false) (w' := (w.alloc (.cells #[.int .i64 0, .int .i64 0] 161)).setRow w.heap.size #[.int .i64 0, .int .i64 0]) (by kernel_rfl) ?_
  refine opsS_nil ?_
  generalize ((w.alloc (.cells #[.int .i64 0, .int .i64 0] 161)).setRow w.heap.size #[.int .i64 0, .int .i64 0]) = V at hB
  show Code.wpS _ _ _ _ _ _
  apply wpS_seq
  apply wpS_region
  show wpOpsS _ _ _ [0] _ _ _
  refine opsS_val rfl rfl (v := .bool false) (w' := V) (by kernel_rfl) ?_
  refine opsS_nil ?_
  show Code.wpS _ _ _ _ _ _
  refine wpS_cond (t := false) (by kernel_rfl) ?_
  simp only [Bool.false_eq_true, if_false]
  refine wpS_of_wp (wp_skip ?_)
  exact ⟨by kernel_rfl, .returning, by cases c₀; simp_all, .tuple #[], by kernel_rfl, rfl, rfl, hB⟩
end Go.Proofs.YtggomjfllbljeaaGreatDoor
namespace Go.Proofs.YtggomjfllbljeaaGreatDoor
set_option linter.unusedVariables false
open Go Go.RowKit
abbrev flC : Array Value := #[.int .i64 0, .int .i64 0]
/-- What Parse tells of 'SI*AG1/LON'. -/
def RetEn (W : World) (e : Ending) (W' : World) : Prop := e = .returned (.tuple #[.agg (cmC 1 ⟨#[65, 71, 49]⟩ ⟨#[76, 79, 78]⟩), .agg flC]) ∧ Below W.heap.size W W'
theorem bx_drew {w : World} {b : Nat} {cs : Array Value} {t : TypeId} (h : Bx w b cs t) : Bx w.drew b cs t := h
theorem info_cm : (Tryz.prog.info? 159).map (·.size) = some 15 := by kernel_rfl
theorem res_two {fn : Func} {p q : Tmp} (h : fn.results = #[.cell p 159, .cell q 161]) {tmps : Array Value} {w : World} {g k : Nat} {cs ds : Array Value}
    (hg : Bx w g cs 159) (hk : Bx w k ds 161) (hc : cs.size = 15) (hd : ds.size = 2) (hp : tmps.getD p undef = .pointer (some ⟨g, 0, none⟩)) (hq : tmps.getD q undef = .pointer (some ⟨k, 0, none⟩)) :
    (results fn tmps).run Tryz.prog w = .ok (.tuple #[.agg cs, .agg ds]) w := by
  have l1 := run_loadVar_row (P := Tryz.prog) w g 159 159 cs (0, 0) _ hg Tryz.underlying159 rfl (by rw [hc]; exact info_cm)
  have l2 := run_loadVar_row (P := Tryz.prog) w k 161 161 ds (0, 0) _ hk Tryz.underlying161 rfl (by rw [hd]; exact info_fl)
  have hp' : tmps[p]?.getD undef = .pointer (some ⟨g, 0, none⟩) := by simpa using hp
  have hq' : tmps[q]?.getD undef = .pointer (some ⟨k, 0, none⟩) := by simpa using hq
  simp [results, h, hp', hq', asAddr, l1, l2, Sem.run_bind, Result.andThen]
set_option maxRecDepth 100000 in
set_option maxHeartbeats 900000 in
theorem parse_si (W : World) : Calls Tryz.prog 72 #[.string eT] W (RetEn W) := by
  have hmf : ∀ (fn : Fn) (first cap : Array Value) (w : World), (Instr.makeFunc fn first cap).run Tryz.prog w = .ok (.func fn first cap) w := fun _ _ _ _ => rfl
  go_enter_defers Tryz.func72, Tryz.ntmps72
  go_upto_region 4 with fail
  have q1 := ((Bx.new W (cmC 0 ⟨#[]⟩ ⟨#[]⟩) 159).alloc (.cells flC 161)).alloc (.cells (prC eT 0 0 ⟨#[]⟩ ⟨#[]⟩) 240)
  have q2 := (Bx.new (W.alloc (.cells (cmC 0 ⟨#[]⟩ ⟨#[]⟩) 159)) flC 161).alloc (.cells (prC eT 0 0 ⟨#[]⟩ ⟨#[]⟩) 240)
  have q3 := Bx.new ((W.alloc (.cells (cmC 0 ⟨#[]⟩ ⟨#[]⟩) 159)).alloc (.cells flC 161)) (prC eT 0 0 ⟨#[]⟩ ⟨#[]⟩) 240
  rw [World.size_alloc] at q2
  rw [World.size_alloc, World.size_alloc] at q3
  have q4 := (((Below.refl W.heap.size W).alloc (Nat.le_refl _) (.cells (cmC 0 ⟨#[]⟩ ⟨#[]⟩) 159)).alloc (by simp) (.cells flC 161)).alloc (by simp; omega) (.cells (prC eT 0 0 ⟨#[]⟩ ⟨#[]⟩) 240)
  refine wp_world (fun V => Bx V W.heap.size (cmC 0 ⟨#[]⟩ ⟨#[]⟩) 159 ∧ Bx V (W.heap.size + 1) flC 161 ∧ PR V (W.heap.size + 1 + 1) eT 0 0 ⟨#[]⟩ ⟨#[]⟩ ∧ Below W.heap.size W V) ⟨q1, q2, q3, q4⟩ ?_
  clear q1 q2 q3 q4
  rintro V1 ⟨bc, bf, bp, hb1⟩
  go_wp2_with fail
  refine (begin_b bp).mono ?_
  rintro e V2 ⟨rfl, p2, k2⟩
  have c2 := k2.bx bc (by show ¬ _ = _; omega)
  have f2 := k2.bx bf (by show ¬ _ = _; omega)
  go_wp2_with fail
  refine (parts_b p2).mono ?_
  rintro e V3 ⟨rfl, p3, k3⟩
  have c3 := k3.bx c2 (by show ¬ _ = _; omega)
  have f3 := k3.bx f2 (by show ¬ _ = _; omega)
  go_wp2_with fail
  refine (end_b (a := 10) p3 (by decide) (by decide)).mono ?_
  rintro e V4 ⟨rfl, p4, k4⟩
  have c4 := k4.bx c3 (by show ¬ _ = _; omega)
  have f4 := k4.bx f3 (by show ¬ _ = _; omega)
  have hk : Kp (Ob (W.heap.size + 1 + 1)) V1 V4 := (k2.trans (S' := Ob (W.heap.size + 1 + 1)) k3 (fun _ _ e => e)).trans (S' := Ob (W.heap.size + 1 + 1)) k4 (fun _ _ e => e)
  have hb4 : Below W.heap.size W V4 := hk.below hb1 (Nat.le_refl _) (fun b _ e => by have e' : b = W.heap.size + 1 + 1 := e; omega)
  clear bc bf bp hb1 p2 k2 c2 f2 p3 k3 c3 f3 k4 hk hmf
  go_upto_region 9 with fail
  have x1 := c4.cells
  have x2 := c4.free
  have x3 := f4.cells
  have x4 := f4.free
  have x5 := p4.cells
  have x6 := p4.lt
  go_region
  have H := Lib.hid (bx_drew <| ((((((((((((((((c4.put 0 (.int .i64 1)).put 1 (.string ⟨#[65, 71, 49]⟩)).put 2 (.string ⟨#[76, 79, 78]⟩)).put 3 (.int .i64 0)).put 4 (.string ⟨#[]⟩)).put 5 (.string ⟨#[]⟩)).put 6 (.int .i64 0)).put 7 (.string ⟨#[]⟩)).put 8 (.string ⟨#[]⟩)).put 9 (.int .i64 0)).put 10 (.int .i64 0)).put 11 (.int .u8 0)).put 12 (.int .i64 0)).put 13 (.int .i64 0)).put 14 (.int .u8 0)).other (p := ⟨W.heap.size + 1, 0, none⟩) (by simp) (.int .i64 0)).other (p := ⟨W.heap.size + 1, 1, none⟩) (by simp) (.int .i64 0))
  have F := Lib.hid (bx_drew <| ((((((((((((((((f4.other (p := ⟨W.heap.size, 0, none⟩) (by simp) (.int .i64 1)).other (p := ⟨W.heap.size, 1, none⟩) (by simp) (.string ⟨#[65, 71, 49]⟩)).other (p := ⟨W.heap.size, 2, none⟩) (by simp) (.string ⟨#[76, 79, 78]⟩)).other (p := ⟨W.heap.size, 3, none⟩) (by simp) (.int .i64 0)).other (p := ⟨W.heap.size, 4, none⟩) (by simp) (.string ⟨#[]⟩)).other (p := ⟨W.heap.size, 5, none⟩) (by simp) (.string ⟨#[]⟩)).other (p := ⟨W.heap.size, 6, none⟩) (by simp) (.int .i64 0)).other (p := ⟨W.heap.size, 7, none⟩) (by simp) (.string ⟨#[]⟩)).other (p := ⟨W.heap.size, 8, none⟩) (by simp) (.string ⟨#[]⟩)).other (p := ⟨W.heap.size, 9, none⟩) (by simp) (.int .i64 0)).other (p := ⟨W.heap.size, 10, none⟩) (by simp) (.int .i64 0)).other (p := ⟨W.heap.size, 11, none⟩) (by simp) (.int .u8 0)).other (p := ⟨W.heap.size, 12, none⟩) (by simp) (.int .i64 0)).other (p := ⟨W.heap.size, 13, none⟩) (by simp) (.int .i64 0)).other (p := ⟨W.heap.size, 14, none⟩) (by simp) (.int .u8 0)).put 0 (.int .i64 0)).put 1 (.int .i64 0))
  have B := Lib.hid ((((((((((((((((((hb4.setCell (p := ⟨W.heap.size, 0, none⟩) (Nat.le_refl _) (.int .i64 1)).setCell (p := ⟨W.heap.size, 1, none⟩) (Nat.le_refl _) (.string ⟨#[65, 71, 49]⟩)).setCell (p := ⟨W.heap.size, 2, none⟩) (Nat.le_refl _) (.string ⟨#[76, 79, 78]⟩)).setCell (p := ⟨W.heap.size, 3, none⟩) (Nat.le_refl _) (.int .i64 0)).setCell (p := ⟨W.heap.size, 4, none⟩) (Nat.le_refl _) (.string ⟨#[]⟩)).setCell (p := ⟨W.heap.size, 5, none⟩) (Nat.le_refl _) (.string ⟨#[]⟩)).setCell (p := ⟨W.heap.size, 6, none⟩) (Nat.le_refl _) (.int .i64 0)).setCell (p := ⟨W.heap.size, 7, none⟩) (Nat.le_refl _) (.string ⟨#[]⟩)).setCell (p := ⟨W.heap.size, 8, none⟩) (Nat.le_refl _) (.string ⟨#[]⟩)).setCell (p := ⟨W.heap.size, 9, none⟩) (Nat.le_refl _) (.int .i64 0)).setCell (p := ⟨W.heap.size, 10, none⟩) (Nat.le_refl _) (.int .i64 0)).setCell (p := ⟨W.heap.size, 11, none⟩) (Nat.le_refl _) (.int .u8 0)).setCell (p := ⟨W.heap.size, 12, none⟩) (Nat.le_refl _) (.int .i64 0)).setCell (p := ⟨W.heap.size, 13, none⟩) (Nat.le_refl _) (.int .i64 0)).setCell (p := ⟨W.heap.size, 14, none⟩) (Nat.le_refl _) (.int .u8 0)).setCell (p := ⟨W.heap.size + 1, 0, none⟩) (by simp) (.int .i64 0)).setCell (p := ⟨W.heap.size + 1, 1, none⟩) (by simp) (.int .i64 0)).drew)
  go_wp2
  clear x1 x2 x3 x4 x5
  refine leaves_cons (f := 118) (args := #[.pointer (some ⟨W.heap.size, 0, none⟩), .pointer (some ⟨W.heap.size + 1, 0, none⟩)]) (by simp) (by simp [go_sem]) ?_
  refine (catch_idle ⟨W.heap.size, 0, none⟩ ⟨W.heap.size + 1, 0, none⟩ _).mono ?_
  rintro e u' w9 ⟨rfl, rfl, hB9⟩
  have H9 := H.out.below hB9 (by have := H.out.lt; exact this)
  have F9 := F.out.below hB9 (by have := F.out.lt; exact this)
  have B9 : Below W.heap.size W w9 := B.out.trans (hB9.mono B.out.size)
  exact ⟨_, res_two rfl H9 F9 rfl rfl (by kernel_rfl) (by kernel_rfl), rfl, B9⟩
end Go.Proofs.YtggomjfllbljeaaGreatDoor
