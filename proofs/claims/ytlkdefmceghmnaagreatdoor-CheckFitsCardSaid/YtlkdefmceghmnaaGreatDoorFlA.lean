/- Package flight: a flight's copy; does it fly on a day. -/
import Derived.Test.YtlkdefmceghmnaaGreatDoorFlCmp
namespace Go.Proofs.YtlkdefmceghmnaaGreatDoor
set_option linter.unusedVariables false
open Go Go.RowKit Go.Sort
/-- A copy of a flight: its classes in new memory. -/
def RetC (w : World) (r : FlR) (e : Ending) (w' : World) : Prop :=
  ∃ A c, e = .returned (.agg #[.string r.f.car, .int .i64 r.f.num, .string r.f.frm, .string r.f.to_, .int .u8 r.f.days, .int .i64 r.f.dep, .int .i64 r.f.arr, .slice A r.n c, .int .i64 r.f.pln]) ∧ (FlR.mk r.f A r.n c).ok ∧ ClOwn w' 99 w.heap.size (FlR.mk r.f A r.n c) ∧ Below w.heap.size w w'
theorem res_cell1 {fn : Func} {p : Tmp} {ty : TypeId} (h : fn.results = #[.cell p ty]) (tmps : Array Value) (P : Program) (w : World) :
    (results fn tmps).run P w = ((asAddr (tmps.getD p undef)).run P w).andThen fun a w₁ => (loadVar ty a).run P w₁ := by
  simp only [results, h]
  simp [Sem.run_bind, Result.andThen]
theorem ret_f1 {fn : Func} {p : Tmp} (h : fn.results = #[.cell p 55]) {R : Ending → World → Prop} {a : Act} {w : World} {g : Nat} {cs : Array Value}
    (hr : Bx w g cs 55) (hs : cs.size = 9) (hp : a.tmps.getD p undef = .pointer (some ⟨g, 0, none⟩)) (hd : a.defers = []) (hR : R (.returned (.agg cs)) w) : bodyPost Tryz.prog fn R .ret a w := by
  refine bodyPost_ret (v := .agg cs) ?_ hd hR
  rw [res_cell1 h, hp]
  have hl := run_loadVar_row (P := Tryz.prog) w g 55 55 cs (0, 0) _ hr Tryz.underlying55 rfl (by rw [hs]; exact info_flt)
  simp [asAddr, hl, Result.andThen]
theorem ret_fb {fn : Func} {p u : Tmp} (h : fn.results = #[.cell p 55, .tmp u]) {R : Ending → World → Prop} {a : Act} {w : World} {g : Nat} {cs : Array Value} {v : Value}
    (hr : Bx w g cs 55) (hs : cs.size = 9) (hp : a.tmps.getD p undef = .pointer (some ⟨g, 0, none⟩)) (hv : a.tmps.getD u undef = v) (hd : a.defers = []) (hR : R (.returned (.tuple #[.agg cs, v])) w) : bodyPost Tryz.prog fn R .ret a w := by
  refine bodyPost_ret (v := .tuple #[.agg cs, v]) ?_ hd hR
  rw [results_cell_tmp h, hp]
  have hl := run_loadVar_row (P := Tryz.prog) w g 55 55 cs (0, 0) _ hr Tryz.underlying55 rfl (by rw [hs]; exact info_flt)
  simp [asAddr, hl, hv, Result.andThen]
/-- A whole flight is stored, is loaded. -/
theorem store_rf {ops : Array Oper} {rest : List Oper} {o : Oper} {a : Act} {W : World} {Q : Exit → Act → World → Prop} (hgd : o.guard = none) (x y : Operand) (ho : o.op = .store 55 x y) {g : Nat} (cells : Array Value) {old : Array Value}
    (hx : a.eval x = .pointer (some ⟨g, 0, none⟩)) (hy : a.eval y = .agg cells) (hr : Bx W g old 55) (h12 : cells.size = 9) (ho12 : old.size = 9) (h1 : (cells.all fun v => v.oneCell') = true)
    (h : wpList Tryz.prog ops Q rest (a.put o.dst undef) (W.setRow g cells)) : wpList Tryz.prog ops Q (o :: rest) a W :=
  wpList_store_row hgd _ x y ho g cells hx hy _ old hr (by rw [h12]; exact info_flt) (by rw [ho12, h12]) h1 h
theorem load_rf {ops : Array Oper} {rest : List Oper} {o : Oper} {a : Act} {W : World} {Q : Exit → Act → World → Prop} (hgd : o.guard = none) (x : Operand) (ho : o.op = .load 55 x) {g : Nat} {cs : Array Value}
    (hx : a.eval x = .pointer (some ⟨g, 0, none⟩)) (hr : Bx W g cs 55) (h20 : cs.size = 9)
    (h : wpList Tryz.prog ops Q rest (a.put o.dst (.agg cs)) W) : wpList Tryz.prog ops Q (o :: rest) a W :=
  wpList_load_row hgd _ x ho g hx _ cs _ _ hr Tryz.underlying55 rfl (by rw [h20]; exact info_flt) h
theorem one_fw (f : Flt) (A : Option Addr) (n c : Nat) : ((#[.string f.car, .int .i64 f.num, .string f.frm, .string f.to_, .int .u8 f.days, .int .i64 f.dep, .int .i64 f.arr, .slice A n c, .int .i64 f.pln] : Array Value).all fun v => v.oneCell') = true := by simp [Value.oneCell']
/-- The cells of no flight. -/
def zf : Array Value := #[.string ⟨#[]⟩, .int .i64 0, .string ⟨#[]⟩, .string ⟨#[]⟩, .int .u8 0, .int .i64 0, .int .i64 0, .slice none 0 0, .int .i64 0]
theorem one_box (w : World) (A : Array Value) (t : TypeId) (A' : Array Value) (t' : TypeId) : Bx ((w.alloc (.cells A t)).alloc (.cells A' t')) w.heap.size A t ∧ Bx ((w.alloc (.cells A t)).alloc (.cells A' t')) (w.heap.size + 1) A' t' ∧ Below w.heap.size w ((w.alloc (.cells A t)).alloc (.cells A' t')) :=
  ⟨(two_boxes w A A' t t').1, (two_boxes w A A' t t').2.1, (two_boxes w A A' t t').2.2.below⟩
/-- What a slice of one's own looks like as a row's. -/
theorem ok_of_own {w : World} {E : TypeId} {B : Nat} {f : Flt} {A : Option Addr} {n c : Nat} (hf : f.ok) (h : Own w B E tCls (.slice A n c) f.cls) : (FlR.mk f A n c).ok := by
  obtain ⟨A', c', e⟩ := h.form
  injection e with _ e2 _
  refine ⟨hf, e2.symm, ?_, ?_⟩
  · intro hA
    have hA' : A = none := hA
    subst hA'
    rcases h.row.2 with ⟨h1, _⟩ | ⟨g, cap, cur, h1, _⟩
    · injection h1
    · injection h1 with hA
      cases hA
  · show n ≤ c
    rcases h.row.2 with ⟨h1, h2⟩ | ⟨g, cap, cur, h1, hb, hg, hnc, _⟩
    · rw [e2, h2]; exact Nat.zero_le _
    · injection h1 with _ h5 h6
      omega
set_option maxRecDepth 100000 in
set_option maxHeartbeats 1000000 in
theorem copied_any (r : FlR) (w : World) (lo hi : Nat) (hr : r.ok) (hc : ClAt w lo hi r) (hn : r.n ≤ 100000) (hhi : hi ≤ w.heap.size) :
    Calls Tryz.prog 18 #[.agg #[.string r.f.car, .int .i64 r.f.num, .string r.f.frm, .string r.f.to_, .int .u8 r.f.days, .int .i64 r.f.dep, .int .i64 r.f.arr, .slice r.A r.n r.c, .int .i64 r.f.pln]] w (RetC w r) := by
  have HR := Lib.hid hr
  have HC := Lib.hid hc
  have HB := one_box w #[.string r.f.car, .int .i64 r.f.num, .string r.f.frm, .string r.f.to_, .int .u8 r.f.days, .int .i64 r.f.dep, .int .i64 r.f.arr, .slice r.A r.n r.c, .int .i64 r.f.pln] 55 zf 55
  clear hr hc
  go_enter Tryz.func18, Tryz.ntmps18
  go_upto_region 1 with fail
  refine wp_world (fun W => Bx W w.heap.size #[.string r.f.car, .int .i64 r.f.num, .string r.f.frm, .string r.f.to_, .int .u8 r.f.days, .int .i64 r.f.dep, .int .i64 r.f.arr, .slice r.A r.n r.c, .int .i64 r.f.pln] 55 ∧ Bx W (w.heap.size + 1) zf 55 ∧ Below w.heap.size w W) HB ?_
  clear HB
  rintro W ⟨b1, b2, hb⟩
  have c1 := b1.cells
  have z2 := b2.lt
  go_wp2_with fail
  refine (clone_cls r.f.cls r.A r.n r.c _ lo hi (Sl.below HC.out hb hhi) hn (by have := hb.size; omega) HR.out.nil).mono ?_
  rintro e w1 ⟨A, c, rfl, ho, h1⟩
  have e1 := b1.below h1 b1.lt
  have e2 := b2.below h1 b2.lt
  have hb1 := hb.trans (h1.mono hb.size)
  have y1 := e1.cells
  have y2 := e1.free
  clear c1
  go_upto_region 2 with fail
  refine wp_world (fun V => Bx V w.heap.size #[.string r.f.car, .int .i64 r.f.num, .string r.f.frm, .string r.f.to_, .int .u8 r.f.days, .int .i64 r.f.dep, .int .i64 r.f.arr, .slice A r.f.cls.length c, .int .i64 r.f.pln] 55 ∧ Bx V (w.heap.size + 1) zf 55 ∧ Below w.heap.size w V ∧ Own V W.heap.size 99 tCls (.slice A r.f.cls.length c) r.f.cls) ⟨e1.put 7 (.slice A r.f.cls.length c), e2.other (by simp) _, hb1.setCell (by simp) _, ho.setCell (by simp; omega) _⟩ ?_
  clear e1 e2 hb1 y1 y2 h1 ho
  rintro V ⟨e1, e2, hb1, ho⟩
  go_wp2_with (first | (refine load_rf rfl (.tmp 1) rfl rfl e1 rfl ?_) | ((refine store_rf rfl (.tmp 2) (.tmp 7) rfl #[.string r.f.car, .int .i64 r.f.num, .string r.f.frm, .string r.f.to_, .int .u8 r.f.days, .int .i64 r.f.dep, .int .i64 r.f.arr, .slice A r.f.cls.length c, .int .i64 r.f.pln] rfl rfl e2 rfl rfl (one_fw _ _ _ _) ?_)))
  refine ret_f1 Tryz.results18 (e2.row _) rfl rfl rfl ?_
  rw [HR.out.len] at ho ⊢
  have ho2 := Own.setRow (g := w.heap.size + 1) (ho.more (B' := w.heap.size + 1 + 1) (by omega)) (by omega) #[.string r.f.car, .int .i64 r.f.num, .string r.f.frm, .string r.f.to_, .int .u8 r.f.days, .int .i64 r.f.dep, .int .i64 r.f.arr, .slice A r.n c, .int .i64 r.f.pln]
  exact ⟨A, c, rfl, ok_of_own HR.out.f ho2, Own.more ho2 (by omega), below_setRow hb1 (by omega) _⟩
end Go.Proofs.YtlkdefmceghmnaaGreatDoor
