/- Package flight: the orders by which flights, and links, are sorted. -/
import Derived.Test.YtlkdefmceghmnaaGreatDoorFlClone
import Derived.Test.YtlkdefmceghmnaaGreatDoorFl3
import Derived.Test.YtlkdefmceghmnaaGreatDoorCmp
import Derived.Deep.RegionHeld3
import Derived.Sort.Grow
namespace Go.Proofs.YtlkdefmceghmnaaGreatDoor
set_option linter.unusedVariables false
open Go Go.RowKit Go.Sort
/-- Some draws, and new blocks. -/
def Gr (w w' : World) : Prop := ∃ q os, w' = grow (w.drewN q) os
theorem Gr.refl (w : World) : Gr w w := ⟨0, #[], by rw [grow_empty]; rfl⟩
theorem Gr.drewN {w w' : World} (h : Gr w w') (n : Nat) : Gr w (w'.drewN n) := by
  obtain ⟨q, os, rfl⟩ := h
  exact ⟨q + n, os, by simp only [World.drewN, grow]; congr 1; first | rfl | omega⟩
theorem Gr.drew {w w' : World} (h : Gr w w') : Gr w w'.drew := h.drewN 1
theorem Gr.alloc {w w' : World} (h : Gr w w') (o : Obj) : Gr w (w'.alloc o) := by
  obtain ⟨q, os, rfl⟩ := h
  exact ⟨q, os ++ #[o], by rw [alloc_eq_grow, grow_grow]⟩
theorem Gr.trans {w w1 w2 : World} (h : Gr w w1) (h2 : Gr w1 w2) : Gr w w2 := by
  obtain ⟨q, os, rfl⟩ := h
  obtain ⟨q2, os2, rfl⟩ := h2
  have := Gr.drewN (w := w) ⟨q, os, rfl⟩ q2
  obtain ⟨q3, os3, e⟩ := this
  rw [e, grow_grow]
  exact ⟨q3, os3 ++ os2, rfl⟩
theorem Gr.below {w w' : World} (h : Gr w w') : Below w.heap.size w w' := by
  obtain ⟨q, os, rfl⟩ := h
  exact ⟨rfl, rfl, rfl, by simp [grow], fun k hk => by
    show (w.heap ++ os)[k]? = _
    rw [Array.getElem?_append_left hk]⟩
def cmpF : Flt → Flt → Int := cmpY (·.car) (cmpX (·.num) fun _ _ => 0)
def cmpT : Flt → Flt → Int := cmpX (·.dep) cmpF
def cmpP (x y : Flt × Flt) : Int := if cmpT x.1 y.1 ≠ 0 then cmpT x.1 y.1 else cmpT x.2 y.2
theorem cmpF_lt (a b : Flt) : decide (cmpF a b < 0) = ltF a b := cmpY_lt (cmpX_lt (fun _ _ => rfl) _) _ _ _
theorem cmpT_lt (a b : Flt) : decide (cmpT a b < 0) = ltT a b := cmpX_lt cmpF_lt _ _ _
theorem or_cmpF (a b : Flt) : orF [cmpS a.car b.car, cmpN a.num b.num] = cmpF a b := by
  unfold cmpF cmpY cmpX orF orF orF
  by_cases h : cmpS a.car b.car = 0 <;> by_cases h2 : cmpN a.num b.num = 0 <;> simp [h, h2]
theorem or_cmpT (a b : Flt) : orF [cmpN a.dep b.dep, cmpF a b] = cmpT a b := by
  unfold cmpT cmpX orF orF orF
  by_cases h : cmpN a.dep b.dep = 0 <;> by_cases h2 : cmpF a b = 0 <;> simp [h, h2]
theorem or_cmpP (x y : Flt × Flt) : orF [cmpT x.1 y.1, cmpT x.2 y.2] = cmpP x y := by
  unfold cmpP orF orF orF
  by_cases h : cmpT x.1 y.1 = 0 <;> by_cases h2 : cmpT x.2 y.2 = 0 <;> simp [h, h2]
theorem cmpS_anti (a b : ByteArray) : cmpS b a = - cmpS a b := by
  unfold cmpS
  cases h1 : ltS a b <;> cases h2 : ltS b a <;> simp
  rw [ltS_asym h1] at h2; cases h2
theorem cmpN_anti (a b : Int) : cmpN b a = - cmpN a b := by
  unfold cmpN
  by_cases h1 : a < b <;> by_cases h2 : b < a <;> simp [h1, h2]
  omega
theorem cmpT_anti (a b : Flt) : cmpT b a = - cmpT a b := by
  have h1 := cmpS_anti a.car b.car
  have h2 := cmpN_anti a.num b.num
  have h3 := cmpN_anti a.dep b.dep
  unfold cmpT cmpF cmpX cmpY
  simp only [h1, h2, h3]
  by_cases h : cmpN a.dep b.dep = 0 <;> by_cases h' : cmpS a.car b.car = 0 <;> by_cases h'' : cmpN a.num b.num = 0 <;> simp [h, h', h'']
theorem cmpP_lt (x y : Flt × Flt) : decide (cmpP x y < 0) = ltP x y := by
  unfold cmpP ltP lexL
  dsimp only
  rw [← cmpT_lt, ← cmpT_lt, ← cmpT_lt]
  have := cmpT_anti x.1 y.1
  rw [this]
  generalize cmpT x.1 y.1 = u
  generalize cmpT x.2 y.2 = v
  rw [Bool.eq_iff_iff]
  by_cases h : u = 0
  · simp [h]
  · simp [h]; omega
/-- Two parameters in boxes. -/
theorem two_boxes (w : World) (A B : Array Value) (s t : TypeId) : Bx ((w.alloc (.cells A s)).alloc (.cells B t)) w.heap.size A s ∧ Bx ((w.alloc (.cells A s)).alloc (.cells B t)) (w.heap.size + 1) B t ∧ Gr w ((w.alloc (.cells A s)).alloc (.cells B t)) :=
  ⟨(Bx.new _ _ _).alloc _, by have := Bx.new (w.alloc (.cells A s)) B t; rw [World.size_alloc] at this; exact this, ((Gr.refl w).alloc _).alloc _⟩
set_option maxRecDepth 100000 in
theorem order_any (r s : FlR) (w : World) :
    Calls Tryz.prog 20 #[.agg #[.string r.f.car, .int .i64 r.f.num, .string r.f.frm, .string r.f.to_, .int .u8 r.f.days, .int .i64 r.f.dep, .int .i64 r.f.arr, .slice r.A r.n r.c, .int .i64 r.f.pln], .agg #[.string s.f.car, .int .i64 s.f.num, .string s.f.frm, .string s.f.to_, .int .u8 s.f.days, .int .i64 s.f.dep, .int .i64 s.f.arr, .slice s.A s.n s.c, .int .i64 s.f.pln]] w fun e w' => e = .returned (.int .i64 (cmpF r.f s.f)) ∧ Gr w w' := by
  have H := Lib.hid (or_cmpF r.f s.f)
  have HB := two_boxes w #[.string r.f.car, .int .i64 r.f.num, .string r.f.frm, .string r.f.to_, .int .u8 r.f.days, .int .i64 r.f.dep, .int .i64 r.f.arr, .slice r.A r.n r.c, .int .i64 r.f.pln] #[.string s.f.car, .int .i64 s.f.num, .string s.f.frm, .string s.f.to_, .int .u8 s.f.days, .int .i64 s.f.dep, .int .i64 s.f.arr, .slice s.A s.n s.c, .int .i64 s.f.pln] 55 55
  go_enter Tryz.func20, Tryz.ntmps20
  go_wp2_with fail
  refine wp_world (fun W => Bx W w.heap.size #[.string r.f.car, .int .i64 r.f.num, .string r.f.frm, .string r.f.to_, .int .u8 r.f.days, .int .i64 r.f.dep, .int .i64 r.f.arr, .slice r.A r.n r.c, .int .i64 r.f.pln] 55 ∧ Bx W (w.heap.size + 1) #[.string s.f.car, .int .i64 s.f.num, .string s.f.frm, .string s.f.to_, .int .u8 s.f.days, .int .i64 s.f.dep, .int .i64 s.f.arr, .slice s.A s.n s.c, .int .i64 s.f.pln] 55 ∧ Gr w W) HB ?_
  clear HB
  rintro W ⟨b1, b2, hg⟩
  have c1 := b1.cells
  have c2 := b2.cells
  have z1 := b1.lt
  have z2 := b2.lt
  go_region_held3 (fun w' => (∀ i : Nat, w'.cell? ⟨w.heap.size, i, none⟩ = (#[.string r.f.car, .int .i64 r.f.num, .string r.f.frm, .string r.f.to_, .int .u8 r.f.days, .int .i64 r.f.dep, .int .i64 r.f.arr, .slice r.A r.n r.c, .int .i64 r.f.pln] : Array Value)[i]?) ∧ (∀ i : Nat, w'.cell? ⟨w.heap.size + 1, i, none⟩ = (#[.string s.f.car, .int .i64 s.f.num, .string s.f.frm, .string s.f.to_, .int .u8 s.f.days, .int .i64 s.f.dep, .int .i64 s.f.arr, .slice s.A s.n s.c, .int .i64 s.f.pln] : Array Value)[i]?)) (refine ⟨?_, ?_⟩ <;> (repeat (first | (with_reducible assumption) | (with_reducible exact boxed_new _ _ _) | (with_reducible refine boxed_drew ?_) | (with_reducible refine boxed_drewN ?_ _) | (with_reducible refine boxed_alloc ?_ (by first | (simp; done) | omega | (simp; omega)) _) | (with_reducible refine boxed_set ?_ _ (by first | (simp; done) | omega | (simp; omega)) _))))
    (first
      | (go_at_call 52; refine (compare_int _ _ _).mono ?_; rintro e w' ⟨rfl, rfl⟩)
      | (go_at_call 51; refine (compare_str _ _ _).mono ?_; rintro e w' ⟨rfl, rfl⟩)
      | (go_at_call 50; refine (or2 _ _ _ _ (boxed_drew (boxed_new _ _ _))).mono ?_; rintro e w' ⟨rfl, rfl⟩))
  go_wp2
  go_ret
  exact ⟨ret_int H.out, hg.drew.alloc _⟩
/-- A pair of rows, as an array of two. -/
def tPar : Ty (FlR × FlR) := ⟨fun x => tFl.enc x.1 ++ tFl.enc x.2, 18, fun x => x.1.ok ∧ x.2.ok, fun x => rfl, fun x u h => by
  rcases List.mem_append.1 h with h | h
  · exact tFl.one _ _ h
  · exact tFl.one _ _ h, by omega⟩
end Go.Proofs.YtlkdefmceghmnaaGreatDoor
