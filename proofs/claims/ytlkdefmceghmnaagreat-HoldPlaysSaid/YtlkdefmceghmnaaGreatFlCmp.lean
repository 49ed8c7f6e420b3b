/- Package flight: the orders by which flights, and links, are sorted. -/
import Derived.Test.YtlkdefmceghmnaaGreatFlClone
import Derived.Test.YtlkdefmceghmnaaGreatFl3
import Derived.Test.YtlkdefmceghmnaaGreatCmp
import Derived.Deep.RegionHeld3
import Derived.Sort.Grow
namespace Go.Proofs.YtlkdefmceghmnaaGreat
set_option linter.unusedVariables false
open Go Go.RowKit Go.Sort
/-- Some draws, and new blocks. -/
def Gr (w w' : World) : Prop := ∃ q os, w' = grow (w.drewN q) os
theorem Gr.refl (w : World) : Gr w w := ⟨0, #[], by rw [grow_empty]; rfl⟩
theorem Gr.drewN {w w' : World} (h : Gr w w') (n : Nat) : Gr w (w'.drewN n) := by
  obtain ⟨q, os, rfl⟩ := h
  exact ⟨q + n, os, by simp only [World.drewN, grow]; congr 1; first | rfl | omega⟩
theorem Gr.drew {w w' : World} (h : Gr w w') : Gr w w'.drew := h.drewN 1
theorem Gr.alloc {w w' : World} (h : Gr w w') (o : Obj) : Gr w (w'.alloc o) := by
  obtain ⟨q, os, rfl⟩ := h
  exact ⟨q, os ++ #[o], by rw [alloc_eq_grow, grow_grow]⟩
theorem Gr.trans {w w1 w2 : World} (h : Gr w w1) (h2 : Gr w1 w2) : Gr w w2 := by
  obtain ⟨q, os, rfl⟩ := h
  obtain ⟨q2, os2, rfl⟩ := h2
  have := Gr.drewN (w := w) ⟨q, os, rfl⟩ q2
  obtain ⟨q3, os3, e⟩ := this
  rw [e, grow_grow]
  exact ⟨q3, os3 ++ os2, rfl⟩
theorem Gr.below {w w' : World} (h : Gr w w') : Below w.heap.size w w' := by
  obtain ⟨q, os, rfl⟩ := h
  exact ⟨rfl, rfl, rfl, by simp [grow], fun k hk => by
    show (w.heap ++ os)[k]? = _
    rw [Array.getElem?_append_left hk]⟩
def cmpF : Flt → Flt → Int := cmpY (·.car) (cmpX (·.num) fun _ _ => 0)
def cmpT : Flt → Flt → Int := cmpX (·.dep) cmpF
def cmpP (x y : Flt × Flt) : Int := if cmpT x.1 y.1 ≠ 0 then cmpT x.1 y.1 else cmpT x.2 y.2
theorem cmpF_lt (a b : Flt) : decide (cmpF a b < 0) = ltF a b := cmpY_lt (cmpX_lt (fun _ _ => rfl) _) _ _ _
theorem cmpT_lt (a b : Flt) : decide (cmpT a b < 0) = ltT a b := cmpX_lt cmpF_lt _ _ _
theorem or_cmpF (a b : Flt) : orF [cmpS a.car b.car, cmpN a.num b.num] = cmpF a b := by
  unfold cmpF cmpY cmpX orF orF orF
  by_cases h : cmpS a.car b.car = 0 <;> by_cases h2 : cmpN a.num b.num = 0 <;> simp [h, h2]
theorem or_cmpT (a b : Flt) : orF [cmpN a.dep b.dep, cmpF a b] = cmpT a b := by
  unfold cmpT cmpX orF orF orF
  by_cases h : cmpN a.dep b.dep = 0 <;> by_cases h2 : cmpF a b = 0 <;> simp [h, h2]
theorem or_cmpP (x y : Flt × Flt) : orF [cmpT x.1 y.1, cmpT x.2 y.2] = cmpP x y := by
  unfold cmpP orF orF orF
  by_cases h : cmpT x.1 y.1 = 0 <;> by_cases h2 : cmpT x.2 y.2 = 0 <;> simp [h, h2]
theorem cmpS_anti (a b : ByteArray) : cmpS b a = - cmpS a b := by
  unfold cmpS
  cases h1 : ltS a b <;> cases h2 : ltS b a <;> simp
  rw [ltS_asym h1] at h2; cases h2
theorem cmpN_anti (a b : Int) : cmpN b a = - cmpN a b := by
  unfold cmpN
  by_cases h1 : a < b <;> by_cases h2 : b < a <;> simp [h1, h2]
  omega
theorem cmpT_anti (a b : Flt) : cmpT b a = - cmpT a b := by
  have h1 := cmpS_anti a.car b.car
  have h2 := cmpN_anti a.num b.num
  have h3 := cmpN_anti a.dep b.dep
  unfold cmpT cmpF cmpX cmpY
  simp only [h1, h2, h3]
  by_cases h : cmpN a.dep b.dep = 0 <;> by_cases h' : cmpS a.car b.car = 0 <;> by_cases h'' : cmpN a.num b.num = 0 <;> simp [h, h', h'']
theorem cmpP_lt (x y : Flt × Flt) : decide (cmpP x y < 0) = ltP x y := by
  unfold cmpP ltP lexL
  dsimp only
  rw [← cmpT_lt, ← cmpT_lt, ← cmpT_lt]
  have := cmpT_anti x.1 y.1
  rw [this]
  generalize cmpT x.1 y.1 = u
  generalize cmpT x.2 y.2 = v
  rw [Bool.eq_iff_iff]
  by_cases h : u = 0
  · simp [h]
  · simp [h]; omega
/-- Two parameters in boxes. -/
theorem two_boxes (w : World) (A B : Array Value) (s t : TypeId) : Bx ((w.alloc (.cells A s)).alloc (.cells B t)) w.heap.size A s ∧ Bx ((w.alloc (.cells A s)).alloc (.cells B t)) (w.heap.size + 1) B t ∧ Gr w ((w.alloc (.cells A s)).alloc (.cells B t)) :=
  ⟨(Bx.new _ _ _).alloc _, by have := Bx.new (w.alloc (.cells A s)) B t; rw [World.size_alloc] at this; exact this, ((Gr.refl w).alloc _).alloc _⟩
set_option maxRecDepth 100000 in
theorem order_any (r s : FlR) (w : World) :
    Calls Tryz.prog 89 #[.agg #[.string r.f.car, .int .i64 r.f.num, .string r.f.frm, .string r.f.to_, .int .u8 r.f.days, .int .i64 r.f.dep, .int .i64 r.f.arr, .slice r.A r.n r.c, .int .i64 r.f.pln], .agg #[.string s.f.car, .int .i64 s.f.num, .string s.f.frm, .string s.f.to_, .int .u8 s.f.days, .int .i64 s.f.dep, .int .i64 s.f.arr, .slice s.A s.n s.c, .int .i64 s.f.pln]] w fun e w' => e = .returned (.int .i64 (cmpF r.f s.f)) ∧ Gr w w' := by
  have H := Lib.hid (or_cmpF r.f s.f)
  have HB := two_boxes w #[.string r.f.car, .int .i64 r.f.num, .string r.f.frm, .string r.f.to_, .int .u8 r.f.days, .int .i64 r.f.dep, .int .i64 r.f.arr, .slice r.A r.n r.c, .int .i64 r.f.pln] #[.string s.f.car, .int .i64 s.f.num, .string s.f.frm, .string s.f.to_, .int .u8 s.f.days, .int .i64 s.f.dep, .int .i64 s.f.arr, .slice s.A s.n s.c, .int .i64 s.f.pln] 96 96
  go_enter Tryz.func89, Tryz.ntmps89
  go_wp2_with fail
  refine wp_world (fun W => Bx W w.heap.size #[.string r.f.car, .int .i64 r.f.num, .string r.f.frm, .string r.f.to_, .int .u8 r.f.days, .int .i64 r.f.dep, .int .i64 r.f.arr, .slice r.A r.n r.c, .int .i64 r.f.pln] 96 ∧ Bx W (w.heap.size + 1) #[.string s.f.car, .int .i64 s.f.num, .string s.f.frm, .string s.f.to_, .int .u8 s.f.days, .int .i64 s.f.dep, .int .i64 s.f.arr, .slice s.A s.n s.c, .int .i64 s.f.pln] 96 ∧ Gr w W) HB ?_
  clear HB
  rintro W ⟨b1, b2, hg⟩
  have c1 := b1.cells
  have c2 := b2.cells
  have z1 := b1.lt
  have z2 := b2.lt
  go_region_held3 (fun w' => (∀ i : Nat, w'.cell? ⟨w.heap.size, i, none⟩ = (#[.string r.f.car, .int .i64 r.f.num, .string r.f.frm, .string r.f.to_, .int .u8 r.f.days, .int .i64 r.f.dep, .int .i64 r.f.arr, .slice r.A r.n r.c, .int .i64 r.f.pln] : Array Value)[i]?) ∧ (∀ i : Nat, w'.cell? ⟨w.heap.size + 1, i, none⟩ = (#[.string s.f.car, .int .i64 s.f.num, .string s.f.frm, .string s.f.to_, .int .u8 s.f.days, .int .i64 s.f.dep, .int .i64 s.f.arr, .slice s.A s.n s.c, .int .i64 s.f.pln] : Array Value)[i]?)) (refine ⟨?_, ?_⟩ <;> (repeat (first | (with_reducible assumption) | (with_reducible exact boxed_new _ _ _) | (with_reducible refine boxed_drew ?_) | (with_reducible refine boxed_drewN ?_ _) | (with_reducible refine boxed_alloc ?_ (by first | (simp; done) | omega | (simp; omega)) _) | (with_reducible refine boxed_set ?_ _ (by first | (simp; done) | omega | (simp; omega)) _))))
    (first
      | (go_at_call 79; refine (compare_int _ _ _).mono ?_; rintro e w' ⟨rfl, rfl⟩)
      | (go_at_call 84; refine (compare_str _ _ _).mono ?_; rintro e w' ⟨rfl, rfl⟩)
      | (go_at_call 78; refine (or2 _ _ _ _ (boxed_drew (boxed_new _ _ _))).mono ?_; rintro e w' ⟨rfl, rfl⟩))
  go_wp2
  go_ret
  exact ⟨ret_int H.out, hg.drew.alloc _⟩
set_option maxRecDepth 100000 in
theorem byTime_any (r s : FlR) (w : World) :
    Calls Tryz.prog 97 #[.agg #[.string r.f.car, .int .i64 r.f.num, .string r.f.frm, .string r.f.to_, .int .u8 r.f.days, .int .i64 r.f.dep, .int .i64 r.f.arr, .slice r.A r.n r.c, .int .i64 r.f.pln], .agg #[.string s.f.car, .int .i64 s.f.num, .string s.f.frm, .string s.f.to_, .int .u8 s.f.days, .int .i64 s.f.dep, .int .i64 s.f.arr, .slice s.A s.n s.c, .int .i64 s.f.pln]] w fun e w' => e = .returned (.int .i64 (cmpT r.f s.f)) ∧ Gr w w' := by
  have H := Lib.hid (or_cmpT r.f s.f)
  have HB := two_boxes w #[.string r.f.car, .int .i64 r.f.num, .string r.f.frm, .string r.f.to_, .int .u8 r.f.days, .int .i64 r.f.dep, .int .i64 r.f.arr, .slice r.A r.n r.c, .int .i64 r.f.pln] #[.string s.f.car, .int .i64 s.f.num, .string s.f.frm, .string s.f.to_, .int .u8 s.f.days, .int .i64 s.f.dep, .int .i64 s.f.arr, .slice s.A s.n s.c, .int .i64 s.f.pln] 96 96
  go_enter Tryz.func97, Tryz.ntmps97
  go_wp2_with fail
  refine wp_world (fun W => Bx W w.heap.size #[.string r.f.car, .int .i64 r.f.num, .string r.f.frm, .string r.f.to_, .int .u8 r.f.days, .int .i64 r.f.dep, .int .i64 r.f.arr, .slice r.A r.n r.c, .int .i64 r.f.pln] 96 ∧ Bx W (w.heap.size + 1) #[.string s.f.car, .int .i64 s.f.num, .string s.f.frm, .string s.f.to_, .int .u8 s.f.days, .int .i64 s.f.dep, .int .i64 s.f.arr, .slice s.A s.n s.c, .int .i64 s.f.pln] 96 ∧ Gr w W) HB ?_
  clear HB
  rintro W ⟨b1, b2, hg⟩
  have c1 := b1.cells
  have c2 := b2.cells
  have z1 := b1.lt
  have z2 := b2.lt
  go_region_held3 (fun w' => (∀ i : Nat, w'.cell? ⟨w.heap.size, i, none⟩ = (#[.string r.f.car, .int .i64 r.f.num, .string r.f.frm, .string r.f.to_, .int .u8 r.f.days, .int .i64 r.f.dep, .int .i64 r.f.arr, .slice r.A r.n r.c, .int .i64 r.f.pln] : Array Value)[i]?) ∧ (∀ i : Nat, w'.cell? ⟨w.heap.size + 1, i, none⟩ = (#[.string s.f.car, .int .i64 s.f.num, .string s.f.frm, .string s.f.to_, .int .u8 s.f.days, .int .i64 s.f.dep, .int .i64 s.f.arr, .slice s.A s.n s.c, .int .i64 s.f.pln] : Array Value)[i]?)) (first | (refine ⟨?_, ?_⟩ <;> ((repeat (first | (with_reducible assumption) | (with_reducible exact boxed_new _ _ _) | (with_reducible refine boxed_drew ?_) | (with_reducible refine boxed_drewN ?_ _) | (with_reducible refine boxed_alloc ?_ (by first | (simp; done) | omega | (simp; omega)) _) | (with_reducible refine boxed_set ?_ _ (by first | (simp; done) | omega | (simp; omega)) _))); done)) | (refine ⟨?_, ?_⟩ <;> ((repeat (first | (with_reducible assumption) | (with_reducible exact boxed_new _ _ _) | (with_reducible refine boxed_drew ?_) | (with_reducible refine boxed_drewN ?_ _) | (with_reducible refine boxed_alloc ?_ (by first | (simp; done) | omega | (simp; omega)) _) | (with_reducible refine boxed_set ?_ _ (by first | (simp; done) | omega | (simp; omega)) _) | (with_reducible refine boxed_below ?_ hz.below (by first | (simp; done) | omega | (simp; omega))))); done)))
    (first
      | (go_at_call 79; refine (compare_int _ _ _).mono ?_; rintro e w' ⟨rfl, rfl⟩)
      | (go_at_call 89; refine (order_any r s _).mono ?_; rintro e w' ⟨rfl, hz⟩; have y0 : W.heap.size ≤ w'.heap.size := hz.below.size; have y1 : w.heap.size < w'.heap.size := (by omega); have y2 : w.heap.size + 1 < w'.heap.size := (by omega))
      | (go_at_call 78; refine (or2 _ _ _ _ (by first | exact boxed_drew (boxed_new _ _ _) | exact boxed_new _ _ _)).mono ?_; rintro e w' ⟨rfl, rfl⟩))
  all_goals (go_wp2; go_ret)
  all_goals exact ⟨ret_int H.out, by first | exact (hg.drew.trans hz).alloc _ | exact ((hg.drew).trans hz).alloc _⟩
/-- A pair of rows, as an array of two. -/
def tPar : Ty (FlR × FlR) := ⟨fun x => tFl.enc x.1 ++ tFl.enc x.2, 18, fun x => x.1.ok ∧ x.2.ok, fun x => rfl, fun x u h => by
  rcases List.mem_append.1 h with h | h
  · exact tFl.one _ _ h
  · exact tFl.one _ _ h, by omega⟩
set_option maxRecDepth 100000 in
set_option maxHeartbeats 1000000 in
theorem lclos_any (x y : FlR × FlR) (w : World) :
    Calls Tryz.prog 99 #[.agg #[.string x.1.f.car, .int .i64 x.1.f.num, .string x.1.f.frm, .string x.1.f.to_, .int .u8 x.1.f.days, .int .i64 x.1.f.dep, .int .i64 x.1.f.arr, .slice x.1.A x.1.n x.1.c, .int .i64 x.1.f.pln, .string x.2.f.car, .int .i64 x.2.f.num, .string x.2.f.frm, .string x.2.f.to_, .int .u8 x.2.f.days, .int .i64 x.2.f.dep, .int .i64 x.2.f.arr, .slice x.2.A x.2.n x.2.c, .int .i64 x.2.f.pln], .agg #[.string y.1.f.car, .int .i64 y.1.f.num, .string y.1.f.frm, .string y.1.f.to_, .int .u8 y.1.f.days, .int .i64 y.1.f.dep, .int .i64 y.1.f.arr, .slice y.1.A y.1.n y.1.c, .int .i64 y.1.f.pln, .string y.2.f.car, .int .i64 y.2.f.num, .string y.2.f.frm, .string y.2.f.to_, .int .u8 y.2.f.days, .int .i64 y.2.f.dep, .int .i64 y.2.f.arr, .slice y.2.A y.2.n y.2.c, .int .i64 y.2.f.pln]] w fun e w' => e = .returned (.int .i64 (cmpP (x.1.f, x.2.f) (y.1.f, y.2.f))) ∧ Gr w w' := by
  obtain ⟨x, x'⟩ := x
  obtain ⟨y, y'⟩ := y
  dsimp only
  have H := Lib.hid (or_cmpP (x.f, x'.f) (y.f, y'.f))
  have HB := two_boxes w #[.string x.f.car, .int .i64 x.f.num, .string x.f.frm, .string x.f.to_, .int .u8 x.f.days, .int .i64 x.f.dep, .int .i64 x.f.arr, .slice x.A x.n x.c, .int .i64 x.f.pln, .string x'.f.car, .int .i64 x'.f.num, .string x'.f.frm, .string x'.f.to_, .int .u8 x'.f.days, .int .i64 x'.f.dep, .int .i64 x'.f.arr, .slice x'.A x'.n x'.c, .int .i64 x'.f.pln] #[.string y.f.car, .int .i64 y.f.num, .string y.f.frm, .string y.f.to_, .int .u8 y.f.days, .int .i64 y.f.dep, .int .i64 y.f.arr, .slice y.A y.n y.c, .int .i64 y.f.pln, .string y'.f.car, .int .i64 y'.f.num, .string y'.f.frm, .string y'.f.to_, .int .u8 y'.f.days, .int .i64 y'.f.dep, .int .i64 y'.f.arr, .slice y'.A y'.n y'.c, .int .i64 y'.f.pln] 133 133
  go_enter Tryz.func99, Tryz.ntmps99
  go_wp2_with fail
  refine wp_world (fun W => Bx W w.heap.size #[.string x.f.car, .int .i64 x.f.num, .string x.f.frm, .string x.f.to_, .int .u8 x.f.days, .int .i64 x.f.dep, .int .i64 x.f.arr, .slice x.A x.n x.c, .int .i64 x.f.pln, .string x'.f.car, .int .i64 x'.f.num, .string x'.f.frm, .string x'.f.to_, .int .u8 x'.f.days, .int .i64 x'.f.dep, .int .i64 x'.f.arr, .slice x'.A x'.n x'.c, .int .i64 x'.f.pln] 133 ∧ Bx W (w.heap.size + 1) #[.string y.f.car, .int .i64 y.f.num, .string y.f.frm, .string y.f.to_, .int .u8 y.f.days, .int .i64 y.f.dep, .int .i64 y.f.arr, .slice y.A y.n y.c, .int .i64 y.f.pln, .string y'.f.car, .int .i64 y'.f.num, .string y'.f.frm, .string y'.f.to_, .int .u8 y'.f.days, .int .i64 y'.f.dep, .int .i64 y'.f.arr, .slice y'.A y'.n y'.c, .int .i64 y'.f.pln] 133 ∧ Gr w W) HB ?_
  clear HB
  rintro W ⟨b1, b2, hg⟩
  have c1 := b1.cells
  have c2 := b2.cells
  have z1 := b1.lt
  have z2 := b2.lt
  clear b1 b2
  go_region_held3 (fun w' => (∀ i : Nat, w'.cell? ⟨w.heap.size, i, none⟩ = (#[.string x.f.car, .int .i64 x.f.num, .string x.f.frm, .string x.f.to_, .int .u8 x.f.days, .int .i64 x.f.dep, .int .i64 x.f.arr, .slice x.A x.n x.c, .int .i64 x.f.pln, .string x'.f.car, .int .i64 x'.f.num, .string x'.f.frm, .string x'.f.to_, .int .u8 x'.f.days, .int .i64 x'.f.dep, .int .i64 x'.f.arr, .slice x'.A x'.n x'.c, .int .i64 x'.f.pln] : Array Value)[i]?) ∧ (∀ i : Nat, w'.cell? ⟨w.heap.size + 1, i, none⟩ = (#[.string y.f.car, .int .i64 y.f.num, .string y.f.frm, .string y.f.to_, .int .u8 y.f.days, .int .i64 y.f.dep, .int .i64 y.f.arr, .slice y.A y.n y.c, .int .i64 y.f.pln, .string y'.f.car, .int .i64 y'.f.num, .string y'.f.frm, .string y'.f.to_, .int .u8 y'.f.days, .int .i64 y'.f.dep, .int .i64 y'.f.arr, .slice y'.A y'.n y'.c, .int .i64 y'.f.pln] : Array Value)[i]?)) (first | (refine ⟨?_, ?_⟩ <;> ((repeat (first | (with_reducible assumption) | (with_reducible exact boxed_new _ _ _) | (with_reducible refine boxed_drew ?_) | (with_reducible refine boxed_drewN ?_ _) | (with_reducible refine boxed_alloc ?_ (by first | (simp; done) | omega | (simp; omega)) _) | (with_reducible refine boxed_set ?_ _ (by first | (simp; done) | omega | (simp; omega)) _))); done)) | (refine ⟨?_, ?_⟩ <;> ((repeat (first | (with_reducible assumption) | (with_reducible exact boxed_new _ _ _) | (with_reducible refine boxed_drew ?_) | (with_reducible refine boxed_drewN ?_ _) | (with_reducible refine boxed_alloc ?_ (by first | (simp; done) | omega | (simp; omega)) _) | (with_reducible refine boxed_set ?_ _ (by first | (simp; done) | omega | (simp; omega)) _) | (with_reducible refine boxed_below ?_ hz.below (by first | (simp; done) | omega | (simp; omega))))); done)) | (refine ⟨?_, ?_⟩ <;> ((repeat (first | (with_reducible assumption) | (with_reducible exact boxed_new _ _ _) | (with_reducible refine boxed_drew ?_) | (with_reducible refine boxed_drewN ?_ _) | (with_reducible refine boxed_alloc ?_ (by first | (simp; done) | omega | (simp; omega)) _) | (with_reducible refine boxed_set ?_ _ (by first | (simp; done) | omega | (simp; omega)) _) | (with_reducible refine boxed_below ?_ hy.below (by first | (simp; done) | omega | (simp; omega))))); done)) | (refine ⟨?_, ?_⟩ <;> ((repeat (first | (with_reducible assumption) | (with_reducible exact boxed_new _ _ _) | (with_reducible refine boxed_drew ?_) | (with_reducible refine boxed_drewN ?_ _) | (with_reducible refine boxed_alloc ?_ (by first | (simp; done) | omega | (simp; omega)) _) | (with_reducible refine boxed_set ?_ _ (by first | (simp; done) | omega | (simp; omega)) _) | (with_reducible refine boxed_below ?_ hz.below (by first | (simp; done) | omega | (simp; omega))) | (with_reducible refine boxed_below ?_ hy.below (by first | (simp; done) | omega | (simp; omega))))); done)))
    (first
      | (go_at_call 97; (with_reducible refine (byTime_any x y _).mono ?_); rintro e w' ⟨rfl, hz⟩; have y0 := hz.below.size; try simp at y0; have y1 : w.heap.size < w'.heap.size := (by omega); have y2 : w.heap.size + 1 < w'.heap.size := (by omega))
      | (go_at_call 97; (with_reducible refine (byTime_any x' y' _).mono ?_); rintro e w' ⟨rfl, hy⟩; have u0 := hy.below.size; try simp at u0; have u1 : w.heap.size < w'.heap.size := (by omega); have u2 : w.heap.size + 1 < w'.heap.size := (by omega))
      | (go_at_call 78; refine (or2 _ _ _ _ (by first | exact boxed_drew (boxed_new _ _ _) | exact boxed_new _ _ _)).mono ?_; rintro e w' ⟨rfl, rfl⟩))
  all_goals (go_wp2; go_ret)
  all_goals exact ⟨ret_int H.out, by first | exact ((hg.drew.trans hz).trans hy).alloc _ | exact ((hg.drew.trans hy).trans hz).alloc _⟩
end Go.Proofs.YtlkdefmceghmnaaGreat
