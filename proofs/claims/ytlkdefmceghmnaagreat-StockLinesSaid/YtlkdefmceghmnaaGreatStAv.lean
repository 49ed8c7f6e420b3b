/- Avail, where no link is told: how many lines there are. -/
import Derived.Test.YtlkdefmceghmnaaGreatStS
import Derived.Test.YtlkdefmceghmnaaGreatFlLinks
import Derived.BigRegion
import Derived.Deep.RegionLaw
namespace Go.Proofs.YtlkdefmceghmnaaGreat
set_option linter.unusedVariables false
open Go Go.RowKit Go.Sort
theorem level_le {l : List Flt} (hr : ∀ f ∈ l, rightB f = true) (g : Leg) (c : Int) : 0 ≤ (levelF l g c).1 ∧ (levelF l g c).1 ≤ 400 := by
  unfold levelF
  split
  · cases hf : findF l g.key with
    | none => exact ⟨Int.le_refl _, (show (0 : Int) ≤ 400 by decide)⟩
    | some f =>
      have h1 := hr f (findF_some hf).1
      show 0 ≤ (lvF f.cls c).1 ∧ (lvF f.cls c).1 ≤ 400
      unfold lvF
      cases hx : f.cls.find? fun x => decide (x.let_ = c) with
      | none => exact ⟨Int.le_refl _, (show (0 : Int) ≤ 400 by decide)⟩
      | some x =>
        obtain ⟨i, hi⟩ := List.mem_iff_getElem?.1 (List.mem_of_find?_eq_some hx)
        unfold rightB at h1
        simp only [Bool.and_eq_true] at h1
        have h2 := allP_at _ (List.getElem?_eq_some_iff.1 hi).1 h1.2.2.2.2
        unfold clI at h2
        rw [hi] at h2
        simp only [Bool.and_eq_true, decide_eq_true_eq] at h2
        exact ⟨h2.2.1, h2.2.2.1⟩
  · exact ⟨Int.le_refl _, (show (0 : Int) ≤ 400 by decide)⟩
/-- A line: its flight, and its own row of what is left. -/
structure Ln where
  f : Flt
  lk : Bool
  A : Option Addr
  n : Nat
  c : Nat
  left : List Cls
def tLn : Ty Ln := ⟨fun x => [.string x.f.car, .int .i64 x.f.num, .string x.f.frm, .string x.f.to_, .int .i64 x.f.dep, .int .i64 x.f.arr, .bool x.lk, .slice x.A x.n x.c], 8, fun _ => True, fun _ => rfl, fun x u h => by simp at h; rcases h with h | h | h | h | h | h | h | h <;> subst h <;> rfl, by omega⟩
def tSld : Ty Cls := { tCls with wf := fun _ => True }
theorem sl_ln : SlT Tryz.prog 53 127 8 := SlT.mk' (z := .agg #[.string ⟨#[]⟩, .int .i64 0, .string ⟨#[]⟩, .string ⟨#[]⟩, .int .i64 0, .int .i64 0, .bool false, .slice none 0 0]) (b := 104) Tryz.underlying53 (by kernel_rfl) (by omega) rfl
theorem sl_sld : SlT Tryz.prog 123 185 2 := SlT.mk' (z := .agg #[.int .u8 0, .int .i64 0]) (b := 16) Tryz.underlying123 (by kernel_rfl) (by omega) rfl
theorem info_ln : (Tryz.prog.info? 127).map (·.size) = some 8 := by kernel_rfl
theorem ret_ln {fn : Func} {p : Tmp} (h : fn.results = #[.cell p 127]) {R : Ending → World → Prop} {a : Act} {w : World} {g : Nat} {cs : Array Value}
    (hr : Bx w g cs 127) (hs : cs.size = 8) (hp : a.tmps.getD p undef = .pointer (some ⟨g, 0, none⟩)) (hd : a.defers = []) (hR : R (.returned (.agg cs)) w) : bodyPost Tryz.prog fn R .ret a w := by
  refine bodyPost_ret (v := .agg cs) ?_ hd hR
  rw [res_cell1 h, hp]
  have hl := run_loadVar_row (P := Tryz.prog) w g 127 127 cs (0, 0) _ hr Tryz.underlying127 rfl (by rw [hs]; exact info_ln)
  simp [asAddr, hl, Result.andThen]
theorem store_ln {ops : Array Oper} {rest : List Oper} {o : Oper} {a : Act} {W : World} {Q : Exit → Act → World → Prop} (hgd : o.guard = none) (x y : Operand) (ho : o.op = .store 127 x y) {g : Nat} (cells : Array Value) {old : Array Value}
    (hx : a.eval x = .pointer (some ⟨g, 0, none⟩)) (hy : a.eval y = .agg cells) (hr : Bx W g old 127) (h12 : cells.size = 8) (ho12 : old.size = 8) (h1 : (cells.all fun v => v.oneCell') = true)
    (h : wpList Tryz.prog ops Q rest (a.put o.dst undef) (W.setRow g cells)) : wpList Tryz.prog ops Q (o :: rest) a W :=
  wpList_store_row hgd _ x y ho g cells hx hy _ old hr (by rw [h12]; exact info_ln) (by rw [ho12, h12]) h1 h
/-- What a line tells of a class. -/
def soldAt (fs : List Flt) (q : Cel → Int) (f : Flt) (d : Int) (x : Cls) : Cls := ⟨x.let_, min 9 ((levelF fs ⟨⟨f.car, f.num⟩, d⟩ x.let_).1 - q ⟨⟨⟨f.car, f.num⟩, d⟩, x.let_⟩)⟩
def solF (fs : List Flt) (q : Cel → Int) (f : Flt) (d : Int) : List Cls := f.cls.map (soldAt fs q f d)
def SoldTo (fs : List Flt) (q : Cel → Int) (f : Flt) (d : Int) (k : Nat) (l : List Cls) : Prop := l = (f.cls.take k).map (soldAt fs q f d)
theorem SoldTo.zero (fs : List Flt) (q : Cel → Int) (f : Flt) (d : Int) : SoldTo fs q f d 0 [] := rfl
theorem SoldTo.len {fs : List Flt} {q : Cel → Int} {f : Flt} {d : Int} {k : Nat} {l : List Cls} (h : SoldTo fs q f d k l) : l.length ≤ k := by
  rw [h, List.length_map]
  exact List.length_take_le _ _
theorem SoldTo.step {fs : List Flt} {q : Cel → Int} {f : Flt} {d : Int} {k : Nat} {l : List Cls} {x y : Cls} (h : SoldTo fs q f d k l) (hx : f.cls[k]? = some x) (hy : soldAt fs q f d x = y) : SoldTo fs q f d (k + 1) (l ++ [y]) := by
  unfold SoldTo
  rw [List.take_add_one, hx, List.map_append, ← h, ← hy]; rfl
theorem SoldTo.all {fs : List Flt} {q : Cel → Int} {f : Flt} {d : Int} {k : Nat} {l : List Cls} (h : SoldTo fs q f d k l) (hk : f.cls.length ≤ k) : l = solF fs q f d := by
  rw [h, List.take_of_length_le hk]; rfl
set_option maxRecDepth 100000 in
set_option maxHeartbeats 8000000 in
theorem line_any {W : World} {lo hi t p b : Nat} {rs : List FlR} {q : Cel → Int} (h : SK W lo hi t p b rs q) (hq : QB q) (hright : ∀ f ∈ rs.map (·.f), rightB f = true) (r : FlR) (d : Int) (lk : Bool) (lo' hi' : Nat) (hr : r.ok) (hcl : ClAt W lo' hi' r) (hhi : hi' ≤ W.heap.size) (hn : r.n ≤ 1000) (hd : okInt d) :
    Calls Tryz.prog 63 #[.pointer (some ⟨p, 0, none⟩), .agg #[.string r.f.car, .int .i64 r.f.num, .string r.f.frm, .string r.f.to_, .int .u8 r.f.days, .int .i64 r.f.dep, .int .i64 r.f.arr, .slice r.A r.n r.c, .int .i64 r.f.pln], .int .i64 d, .bool lk] W fun e w' => ∃ A n c, e = .returned (.agg #[.string r.f.car, .int .i64 r.f.num, .string r.f.frm, .string r.f.to_, .int .i64 r.f.dep, .int .i64 r.f.arr, .bool lk, .slice A n c]) ∧ Own w' (W.heap.size + 1 + 1 + 1) 185 tSld (.slice A n c) (solF (rs.map (·.f)) q r.f d) ∧ Below W.heap.size W w' := by
  have HQ := Lib.hid hq
  have HR := Lib.hid hright
  have HOK := Lib.hid hr
  have HD := Lib.hid hd
  have HCL := Lib.hid hcl
  have HS := Lib.hid h
  have zp := h.plt
  clear h hq hright hr hcl hd
  go_enter Tryz.func63, Tryz.ntmps63
  go_upto_region 2 with fail
  refine wp_world (fun V => (Bx V W.heap.size #[.string r.f.car, .int .i64 r.f.num, .string r.f.frm, .string r.f.to_, .int .u8 r.f.days, .int .i64 r.f.dep, .int .i64 r.f.arr, .slice r.A r.n r.c, .int .i64 r.f.pln] 96 ∧ Bx V (W.heap.size + 1) #[.string ⟨#[]⟩, .int .i64 0, .string ⟨#[]⟩, .string ⟨#[]⟩, .int .i64 0, .int .i64 0, .bool false, .slice none 0 0] 127 ∧ Bx V (W.heap.size + 1 + 1) #[.string r.f.car, .int .i64 r.f.num, .string r.f.frm, .string r.f.to_, .int .i64 r.f.dep, .int .i64 r.f.arr, .bool lk, .slice none 0 0] 127) ∧ Below W.heap.size W V)
    ⟨⟨((Bx.new W #[.string r.f.car, .int .i64 r.f.num, .string r.f.frm, .string r.f.to_, .int .u8 r.f.days, .int .i64 r.f.dep, .int .i64 r.f.arr, .slice r.A r.n r.c, .int .i64 r.f.pln] 96).alloc _).alloc _, by have h := (Bx.new (W.alloc (.cells #[.string r.f.car, .int .i64 r.f.num, .string r.f.frm, .string r.f.to_, .int .u8 r.f.days, .int .i64 r.f.dep, .int .i64 r.f.arr, .slice r.A r.n r.c, .int .i64 r.f.pln] 96)) #[.string ⟨#[]⟩, .int .i64 0, .string ⟨#[]⟩, .string ⟨#[]⟩, .int .i64 0, .int .i64 0, .bool false, .slice none 0 0] 127).alloc (.cells #[.string r.f.car, .int .i64 r.f.num, .string r.f.frm, .string r.f.to_, .int .i64 r.f.dep, .int .i64 r.f.arr, .bool lk, .slice none 0 0] 127); rw [World.size_alloc] at h; exact h,
      by have h := Bx.new ((W.alloc (.cells #[.string r.f.car, .int .i64 r.f.num, .string r.f.frm, .string r.f.to_, .int .u8 r.f.days, .int .i64 r.f.dep, .int .i64 r.f.arr, .slice r.A r.n r.c, .int .i64 r.f.pln] 96)).alloc (.cells #[.string ⟨#[]⟩, .int .i64 0, .string ⟨#[]⟩, .string ⟨#[]⟩, .int .i64 0, .int .i64 0, .bool false, .slice none 0 0] 127)) #[.string r.f.car, .int .i64 r.f.num, .string r.f.frm, .string r.f.to_, .int .i64 r.f.dep, .int .i64 r.f.arr, .bool lk, .slice none 0 0] 127; rw [World.size_alloc, World.size_alloc] at h; exact h⟩, (((Below.refl _ _).alloc (Nat.le_refl _) _).alloc (by simp) _).alloc (by simp; omega) _⟩ ?_
  rintro V ⟨⟨bF, bZ, bL⟩, hb⟩
  have c1 := bF.cells
  have z1 := bL.lt
  go_wp2
  clear c1
  go_loopw [27, 11] (fun i _ wr => ∃ k : Nat, k ≤ r.n ∧ i = .int .i64 k ∧ (∃ A n c l, Bx wr (W.heap.size + 1 + 1) #[.string r.f.car, .int .i64 r.f.num, .string r.f.frm, .string r.f.to_, .int .i64 r.f.dep, .int .i64 r.f.arr, .bool lk, .slice A n c] 127 ∧ Own wr (W.heap.size + 1 + 1 + 1) 185 tSld (.slice A n c) l ∧ SoldTo (rs.map (·.f)) q r.f d k l) ∧ Bx wr W.heap.size #[.string r.f.car, .int .i64 r.f.num, .string r.f.frm, .string r.f.to_, .int .u8 r.f.days, .int .i64 r.f.dep, .int .i64 r.f.arr, .slice r.A r.n r.c, .int .i64 r.f.pln] 96 ∧ Bx wr (W.heap.size + 1) #[.string ⟨#[]⟩, .int .i64 0, .string ⟨#[]⟩, .string ⟨#[]⟩, .int .i64 0, .int .i64 0, .bool false, .slice none 0 0] 127 ∧ Below W.heap.size W wr) (fun i _ _ => r.n - (intOf i).toNat)
  case atStart => exact ⟨0, Nat.zero_le _, rfl, ⟨none, 0, 0, [], bL, Own.nil_ _ _ _ _, SoldTo.zero (rs.map (·.f)) q r.f d⟩, bF, bZ, hb⟩
  case round =>
    clear bF bZ bL hb z1
    obtain ⟨k, hk, rfl, ⟨A, n, c, l, bL, ho, hst⟩, bF, bZ, hb⟩ := hrel
    have HST := Lib.hid hst
    have hll := hst.len
    clear hst
    by_cases hlt : k < r.n
    · obtain ⟨b0, o0, x, hA, _, hb0, hx, hxok, d0, d1⟩ := Sl.cls_ (HCL.out.below hb hhi) hlt
      have i0 : (0 : Int) ≤ k := by omega
      have i1 : (k : Int) < r.n := by omega
      have t1 : decide ((k : Int) < r.n) = true := by simp; omega
      have c1 := bF.cells
      have hz := hb.size
      have hAA := Lib.hid hA
      have hgA : Hid (∀ p, (Value.slice A n c).ownBlock = some p → W.heap.size + 1 + 1 + 1 ≤ p ∧ p < wr.heap.size) := fun p hp => ho.lt p hp
      have y1 := bL.lt
      have zg : wr.heap.size ≠ W.heap.size + 1 + 1 := by omega
      have HY : Hid (soldAt (rs.map (·.f)) q r.f d x = ⟨x.let_, min 9 ((levelF (rs.map (·.f)) ⟨⟨r.f.car, r.f.num⟩, d⟩ x.let_).1 - q ⟨⟨⟨r.f.car, r.f.num⟩, d⟩, x.let_⟩)⟩) := rfl
      generalize hra : r.A = ra at hA
      have HRA := Lib.hid hra
      rw [hra] at bF c1
      subst hA
      have HLf := Lib.hid (fun V (hV : Below W.heap.size W V) => left_any (HS.out.keep hV) ⟨⟨r.f.car, r.f.num⟩, d⟩ x.let_ ⟨⟨HOK.out.f.car, HOK.out.f.num⟩, HD.out⟩ hxok.1 HQ.out (level_le HR.out _ _))
      have hlev := level_le HR.out ⟨⟨r.f.car, r.f.num⟩, d⟩ x.let_
      have hqb := HQ.out ⟨⟨⟨r.f.car, r.f.num⟩, d⟩, x.let_⟩
      generalize (levelF (rs.map (·.f)) ⟨⟨r.f.car, r.f.num⟩, d⟩ x.let_).1 = lv at HLf hlev HY
      generalize q ⟨⟨⟨r.f.car, r.f.num⟩, d⟩, x.let_⟩ = sv at HLf hqb HY
      have HST9 := Lib.hid (HST.out.step hx.out HY.out)
      clear hx
      have HO := Lib.hid ho
      obtain ⟨l0, l1⟩ := hlev
      obtain ⟨q0, q1⟩ := hqb
      go_upto_region 5 with fail
      refine wp_world (fun V => (Bx V wr.heap.size #[.int .u8 x.let_, .int .i64 x.lev] 93 ∧ Bx V (W.heap.size + 1 + 1) #[.string r.f.car, .int .i64 r.f.num, .string r.f.frm, .string r.f.to_, .int .i64 r.f.dep, .int .i64 r.f.arr, .bool lk, .slice A n c] 127 ∧ Bx V W.heap.size #[.string r.f.car, .int .i64 r.f.num, .string r.f.frm, .string r.f.to_, .int .u8 r.f.days, .int .i64 r.f.dep, .int .i64 r.f.arr, .slice (some ⟨b0, o0, none⟩) r.n r.c, .int .i64 r.f.pln] 96 ∧ Bx V (W.heap.size + 1) #[.string ⟨#[]⟩, .int .i64 0, .string ⟨#[]⟩, .string ⟨#[]⟩, .int .i64 0, .int .i64 0, .bool false, .slice none 0 0] 127) ∧ Own V (W.heap.size + 1 + 1 + 1) 185 tSld (.slice A n c) l ∧ Below W.heap.size W V)
        ⟨⟨Bx.new _ _ _, bL.alloc _, bF.alloc _, bZ.alloc _⟩, ho.alloc _, hb.alloc hz _⟩ ?_
      clear bL bF bZ ho hb c1 d0 d1 HO
      rintro V ⟨⟨bC, bL, bF, bZ⟩, ho, hb⟩
      have zC := bC.lt
      have zL := bL.lt
      have zF := bF.lt
      have hvz := hb.size
      have hlen : l.length ≤ 100000 := by omega
      have hz0 : V.heap.size = V.drew.heap.size := rfl
      clear hxok
      have HFIN : Hid (∀ (w3 : World) (A3 : Option Addr) (k3 : Nat), Bx w3 (W.heap.size + 1 + 1) #[.string r.f.car, .int .i64 r.f.num, .string r.f.frm, .string r.f.to_, .int .i64 r.f.dep, .int .i64 r.f.arr, .bool lk, .slice A n c] 127 → Bx w3 (W.heap.size + 1) #[.string ⟨#[]⟩, .int .i64 0, .string ⟨#[]⟩, .string ⟨#[]⟩, .int .i64 0, .int .i64 0, .bool false, .slice none 0 0] 127 → Own w3 (W.heap.size + 1 + 1 + 1) 185 tSld (.slice A3 (l ++ [(⟨x.let_, min 9 (lv - sv)⟩ : Cls)]).length k3) (l ++ [(⟨x.let_, min 9 (lv - sv)⟩ : Cls)]) → Below W.heap.size W w3 →
          (∃ A n c l9, Bx (w3.setCell ⟨W.heap.size + 1 + 1, 7, none⟩ (.slice A3 (l.length + 1) k3)) (W.heap.size + 1 + 1) #[.string r.f.car, .int .i64 r.f.num, .string r.f.frm, .string r.f.to_, .int .i64 r.f.dep, .int .i64 r.f.arr, .bool lk, .slice A n c] 127 ∧ Own (w3.setCell ⟨W.heap.size + 1 + 1, 7, none⟩ (.slice A3 (l.length + 1) k3)) (W.heap.size + 1 + 1 + 1) 185 tSld (.slice A n c) l9 ∧ SoldTo (rs.map (·.f)) q r.f d (k + 1) l9) ∧ Bx (w3.setCell ⟨W.heap.size + 1 + 1, 7, none⟩ (.slice A3 (l.length + 1) k3)) (W.heap.size + 1) #[.string ⟨#[]⟩, .int .i64 0, .string ⟨#[]⟩, .string ⟨#[]⟩, .int .i64 0, .int .i64 0, .bool false, .slice none 0 0] 127 ∧ Below W.heap.size W (w3.setCell ⟨W.heap.size + 1 + 1, 7, none⟩ (.slice A3 (l.length + 1) k3))) := by
        intro w3 A3 k3 q1 q2 q3 q4
        refine ⟨⟨A3, (l.length + 1), k3, l ++ [(⟨x.let_, min 9 (lv - sv)⟩ : Cls)], q1.put 7 _, ?_, HST9.out⟩, q2.other (by simp) _, q4.setCell (by simp; omega) _⟩
        have q5 := q3.setCell (p := ⟨W.heap.size + 1 + 1, 7, none⟩) (by simp) (.slice A3 (l.length + 1) k3)
        simpa using q5
      have hv : Below W.heap.size W V.drew := hb.drew
      replace bL : Bx V.drew _ _ _ := bL
      replace bZ : Bx V.drew _ _ _ := bZ
      replace ho : Own V.drew _ _ _ _ _ := ho.drew
      have cL := bL.cells
-- REGION
      refine wp_region_held_drew (S := fun w9 => Bx w9 wr.heap.size #[.int .u8 x.let_, .int .i64 x.lev] 93 ∧ Bx w9 W.heap.size #[.string r.f.car, .int .i64 r.f.num, .string r.f.frm, .string r.f.to_, .int .u8 r.f.days, .int .i64 r.f.dep, .int .i64 r.f.arr, .slice (some ⟨b0, o0, none⟩) r.n r.c, .int .i64 r.f.pln] 96) (by kernel_rfl) ⟨bC, bF⟩ (fun hS => ?_)
      refine wpAnyH_take (i := 0) (oi := { dst := some 31, op := Op.fieldAddr 127 (Operand.tmp 9) 6, type := 0, pos := "stock.go:124", after := #[], guard := none }) (v := ?_) rfl (by kernel_rfl) (by kernel_rfl) (by kernel_rfl) (fun _ _ _ h => h) (Or.inl ⟨by rfl, ?_⟩) hS ?_
      rotate_left
      · intro w9 hS9; have q1 := hS9.1.cells; have q2 := hS9.2.cells; go_simp; try with_reducible rfl
      try simp only [Act.put]
      try simp only [List.setIfInBounds_toArray]
      try simp only [List.set_cons_zero]
      try simp only [List.set_cons_succ, List.set_cons_zero]
      refine wpAnyH_take (i := 2) (oi := { dst := some 33, op := Op.fieldAddr 93 (Operand.tmp 11) 0, type := 0, pos := "stock.go:124", after := #[], guard := none }) (v := ?_) rfl (by kernel_rfl) (by kernel_rfl) (by kernel_rfl) (fun _ _ _ h => h) (Or.inl ⟨by rfl, ?_⟩) hS ?_
      rotate_left
      · intro w9 hS9; have q1 := hS9.1.cells; have q2 := hS9.2.cells; go_simp; try with_reducible rfl
      try simp only [Act.put]
      try simp only [List.setIfInBounds_toArray]
      try simp only [List.set_cons_zero]
      try simp only [List.set_cons_succ, List.set_cons_zero]
      refine wpAnyH_take (i := 3) (oi := { dst := some 34, op := Op.load 5 (Operand.tmp 33), type := 5, pos := "stock.go:124", after := #[{ on := 2, ground := Ground.data }], guard := none }) (v := ?_) rfl (by kernel_rfl) (by kernel_rfl) (by kernel_rfl) (fun _ _ _ h => h) (Or.inl ⟨by rfl, ?_⟩) hS ?_
      rotate_left
      · intro w9 hS9; have q1 := hS9.1.cells; have q2 := hS9.2.cells; go_simp; try with_reducible rfl
      try simp only [Act.put]
      try simp only [List.setIfInBounds_toArray]
      try simp only [List.set_cons_zero]
      try simp only [List.set_cons_succ, List.set_cons_zero]
      refine wpAnyH_take (i := 4) (oi := { dst := some 35, op := Op.move (Operand.tmp 0), type := 31, pos := "stock.go:124", after := #[], guard := none }) (v := ?_) rfl (by kernel_rfl) (by kernel_rfl) (by kernel_rfl) (fun _ _ _ h => h) (Or.inl ⟨by rfl, ?_⟩) hS ?_
      rotate_left
      · intro w9 hS9; have q1 := hS9.1.cells; have q2 := hS9.2.cells; go_simp; try with_reducible rfl
      try simp only [Act.put]
      try simp only [List.setIfInBounds_toArray]
      try simp only [List.set_cons_zero]
      try simp only [List.set_cons_succ, List.set_cons_zero]
      refine wpAnyH_take (i := 5) (oi := { dst := some 36, op := Op.fieldAddr 96 (Operand.tmp 5) 0, type := 0, pos := "stock.go:124", after := #[], guard := none }) (v := ?_) rfl (by kernel_rfl) (by kernel_rfl) (by kernel_rfl) (fun _ _ _ h => h) (Or.inl ⟨by rfl, ?_⟩) hS ?_
      rotate_left
      · intro w9 hS9; have q1 := hS9.1.cells; have q2 := hS9.2.cells; go_simp; try with_reducible rfl
      try simp only [Act.put]
      try simp only [List.setIfInBounds_toArray]
      try simp only [List.set_cons_zero]
      try simp only [List.set_cons_succ, List.set_cons_zero]
      refine wpAnyH_take (i := 6) (oi := { dst := some 37, op := Op.load 25 (Operand.tmp 36), type := 25, pos := "stock.go:124", after := #[{ on := 5, ground := Ground.data }], guard := none }) (v := ?_) rfl (by kernel_rfl) (by kernel_rfl) (by kernel_rfl) (fun _ _ _ h => h) (Or.inl ⟨by rfl, ?_⟩) hS ?_
      rotate_left
      · intro w9 hS9; have q1 := hS9.1.cells; have q2 := hS9.2.cells; go_simp; try with_reducible rfl
      try simp only [Act.put]
      try simp only [List.setIfInBounds_toArray]
      try simp only [List.set_cons_zero]
      try simp only [List.set_cons_succ, List.set_cons_zero]
      refine wpAnyH_take (i := 7) (oi := { dst := some 38, op := Op.move (Operand.tmp 2), type := 3, pos := "stock.go:124", after := #[], guard := none }) (v := ?_) rfl (by kernel_rfl) (by kernel_rfl) (by kernel_rfl) (fun _ _ _ h => h) (Or.inl ⟨by rfl, ?_⟩) hS ?_
      rotate_left
      · intro w9 hS9; have q1 := hS9.1.cells; have q2 := hS9.2.cells; go_simp; try with_reducible rfl
      try simp only [Act.put]
      try simp only [List.setIfInBounds_toArray]
      try simp only [List.set_cons_zero]
      try simp only [List.set_cons_succ, List.set_cons_zero]
      refine wpAnyH_take (i := 8) (oi := { dst := some 39, op := Op.build 27 #[(0, Operand.tmp 37), (1, Operand.tmp 38)], type := 27, pos := "stock.go:124", after := #[{ on := 6, ground := Ground.data }, { on := 7, ground := Ground.data }], guard := none }) (v := ?_) rfl (by kernel_rfl) (by kernel_rfl) (by kernel_rfl) (fun _ _ _ h => h) (Or.inl ⟨by rfl, ?_⟩) hS ?_
      rotate_left
      · intro w9 hS9; have q1 := hS9.1.cells; have q2 := hS9.2.cells; go_simp; try with_reducible rfl
      try simp only [Act.put]
      try simp only [List.setIfInBounds_toArray]
      try simp only [List.set_cons_zero]
      try simp only [List.set_cons_succ, List.set_cons_zero]
      refine wpAnyH_take (i := 9) (oi := { dst := some 40, op := Op.fieldAddr 93 (Operand.tmp 11) 0, type := 0, pos := "stock.go:124", after := #[], guard := none }) (v := ?_) rfl (by kernel_rfl) (by kernel_rfl) (by kernel_rfl) (fun _ _ _ h => h) (Or.inl ⟨by rfl, ?_⟩) hS ?_
      rotate_left
      · intro w9 hS9; have q1 := hS9.1.cells; have q2 := hS9.2.cells; go_simp; try with_reducible rfl
      try simp only [Act.put]
      try simp only [List.setIfInBounds_toArray]
      try simp only [List.set_cons_zero]
      try simp only [List.set_cons_succ, List.set_cons_zero]
      refine wpAnyH_take (i := 10) (oi := { dst := some 41, op := Op.load 5 (Operand.tmp 40), type := 5, pos := "stock.go:124", after := #[{ on := 9, ground := Ground.data }], guard := none }) (v := ?_) rfl (by kernel_rfl) (by kernel_rfl) (by kernel_rfl) (fun _ _ _ h => h) (Or.inl ⟨by rfl, ?_⟩) hS ?_
      rotate_left
      · intro w9 hS9; have q1 := hS9.1.cells; have q2 := hS9.2.cells; go_simp; try with_reducible rfl
      try simp only [Act.put]
      try simp only [List.setIfInBounds_toArray]
      try simp only [List.set_cons_zero]
      try simp only [List.set_cons_succ, List.set_cons_zero]
      refine wpAnyH_ready (rs := [1, 11]) (by kernel_rfl) (by simp) ?_
      refine AllReadyH.cons (o := { dst := some 32, op := Op.load 123 (Operand.tmp 31), type := 123, pos := "stock.go:124", after := #[{ on := 0, ground := Ground.data }], guard := none }) rfl (fun K9 hK9 => ?_) ?_
      · go_simp
        refine hK9.out _ _ hS (fun hS => ?_)
        clear hK9 K9
        try simp only [Act.put]
        try simp only [List.setIfInBounds_toArray]
        try simp only [List.set_cons_zero]
        try simp only [List.set_cons_succ, List.set_cons_zero]
        refine wpAnyH_ready (rs := [11]) (by kernel_rfl) (by simp) ?_
        refine AllReadyH.cons (o := { dst := some 42, op := Op.call { callee := Callee.value (Operand.func 20), args := #[Operand.tmp 35, Operand.tmp 39, Operand.tmp 41], argTypes := #[31, 27, 5] }, type := 3, pos := "stock.go:124", after := #[{ on := 4, ground := Ground.data }, { on := 8, ground := Ground.data }, { on := 10, ground := Ground.data }], guard := none }) rfl (fun K9 hK9 => ?_) AllReadyH.nil
        go_simp
        with_reducible refine (HLf.out _ hv).mono ?_
        rintro e w1 ⟨rfl, h1⟩
        have hS1 := And.intro (hS.1.below h1 hS.1.lt) (hS.2.below h1 hS.2.lt)
        replace bL := bL.below h1 bL.lt
        replace bZ := bZ.below h1 bZ.lt
        replace ho := ho.keep h1
        replace hv := hv.trans (h1.mono hv.size)
        have cL := bL.cells
        clear h1
        refine hK9.out _ _ hS1 (fun hS => ?_)
        clear hK9 K9
        try simp only [Act.put]
        try simp only [List.setIfInBounds_toArray]
        try simp only [List.set_cons_zero]
        try simp only [List.set_cons_succ, List.set_cons_zero]
        refine wpAnyH_take (i := 12) (oi := { dst := some 43, op := Op.call { callee := Callee.builtin Builtin.min, args := #[Operand.const (Value.int IntKind.i64 9), Operand.tmp 42], argTypes := #[3, 3] }, type := 3, pos := "stock.go:124", after := #[{ on := 11, ground := Ground.data }], guard := none }) (v := ?_) rfl (by kernel_rfl) (by kernel_rfl) (by kernel_rfl) (fun _ _ _ h => h) (Or.inl ⟨by rfl, ?_⟩) hS ?_
        rotate_left
        · intro w9 hS9; have q1 := hS9.1.cells; have q2 := hS9.2.cells; go_simp; try with_reducible rfl
        try simp only [Act.put]
        try simp only [List.setIfInBounds_toArray]
        try simp only [List.set_cons_zero]
        try simp only [List.set_cons_succ, List.set_cons_zero]
        refine wpAnyH_take (i := 13) (oi := { dst := some 44, op := Op.build 185 #[(0, Operand.tmp 34), (1, Operand.tmp 43)], type := 185, pos := "stock.go:124", after := #[{ on := 3, ground := Ground.data }, { on := 12, ground := Ground.data }], guard := none }) (v := ?_) rfl (by kernel_rfl) (by kernel_rfl) (by kernel_rfl) (fun _ _ _ h => h) (Or.inl ⟨by rfl, ?_⟩) hS ?_
        rotate_left
        · intro w9 hS9; have q1 := hS9.1.cells; have q2 := hS9.2.cells; go_simp; try with_reducible rfl
        try simp only [Act.put]
        try simp only [List.setIfInBounds_toArray]
        try simp only [List.set_cons_zero]
        try simp only [List.set_cons_succ, List.set_cons_zero]
        refine wpAnyH_ready (rs := [14]) (by kernel_rfl) (by simp) ?_
        refine AllReadyH.cons (o := { dst := some 45, op := Op.buildSlice 123 1 #[(0, Operand.tmp 44)], type := 123, pos := "stock.go:124", after := #[{ on := 13, ground := Ground.data }], guard := none }) rfl (fun K9 hK9 => ?_) AllReadyH.nil
        have hS1 := And.intro (hS.1.alloc (.cells #[.int .u8 x.let_, .int .i64 (min 9 (lv - sv))] 185)) (hS.2.alloc (.cells #[.int .u8 x.let_, .int .i64 (min 9 (lv - sv))] 185))
        go_simp
        refine hK9.out _ _ hS1 (fun hS => ?_)
        clear hK9 K9
        try simp only [Act.put]
        try simp only [List.setIfInBounds_toArray]
        try simp only [List.set_cons_zero]
        try simp only [List.set_cons_succ, List.set_cons_zero]
        replace bL := bL.alloc (.cells #[.int .u8 x.let_, .int .i64 (min 9 (lv - sv))] 185)
        replace bZ := bZ.alloc (.cells #[.int .u8 x.let_, .int .i64 (min 9 (lv - sv))] 185)
        replace ho := ho.alloc (.cells #[.int .u8 x.let_, .int .i64 (min 9 (lv - sv))] 185)
        have hn := heap_alloc_new w1 (.cells #[.int .u8 x.let_, .int .i64 (min 9 (lv - sv))] 185)
        replace hv := hv.alloc hv.size (.cells #[.int .u8 x.let_, .int .i64 (min 9 (lv - sv))] 185)
        replace cL := bL.cells
        refine wpAnyH_ready (rs := [15]) (by kernel_rfl) (by simp) ?_
        refine AllReadyH.cons (o := { dst := some 46, op := Op.call { callee := Callee.builtin Builtin.append, args := #[Operand.tmp 32, Operand.tmp 45], argTypes := #[123, 123] }, type := 123, pos := "stock.go:124", after := #[{ on := 1, ground := Ground.data }, { on := 14, ground := Ground.data }, { on := 11, ground := Ground.chain }], guard := none }) rfl (fun K9 hK9 => ?_) AllReadyH.nil
        refine step_push (T := tSld) rfl (.tmp 32) (.tmp 45) (by rfl) sl_sld (by rfl) ho (⟨x.let_, min 9 (lv - sv)⟩ : Cls) trivial hn (by rfl) (by rfl) (by have q5 := hS.1.lt; omega) (by omega) ?_
        intro v' w3 hown' hgr hb'
        obtain ⟨A3, k3, rfl⟩ := hown'.form
        have hS1 := And.intro (hS.1.grown hgr (fun e => by have q5 := hgA.out _ e; omega)) (hS.2.grown hgr (fun e => by have q5 := hgA.out _ e; omega))
        replace bL := bL.grown hgr (fun e => by have q5 := hgA.out _ e; omega)
        replace bZ := bZ.grown hgr (fun e => by have q5 := hgA.out _ e; omega)
        replace hv := hv.grown hgr (by have q5 := hS.1.lt; omega) (fun p hp => by have q5 := hgA.out _ hp; omega)
        replace cL := bL.cells
        have fL := bL.free
        refine hK9.out _ _ hS1 (fun hS => ?_)
        clear hK9 K9
        try simp only [Act.put]
        try simp only [List.setIfInBounds_toArray]
        try simp only [List.set_cons_zero]
        try simp only [List.set_cons_succ, List.set_cons_zero]
        refine wpAnyH_take (i := 16) (oi := { dst := some 47, op := Op.fieldAddr 127 (Operand.tmp 9) 6, type := 0, pos := "stock.go:124", after := #[{ on := 0, ground := Ground.phase }, { on := 1, ground := Ground.phase }, { on := 2, ground := Ground.phase }, { on := 3, ground := Ground.phase }, { on := 4, ground := Ground.phase }, { on := 5, ground := Ground.phase }, { on := 6, ground := Ground.phase }, { on := 7, ground := Ground.phase }, { on := 8, ground := Ground.phase }, { on := 9, ground := Ground.phase }, { on := 10, ground := Ground.phase }, { on := 11, ground := Ground.phase }, { on := 12, ground := Ground.phase }, { on := 13, ground := Ground.phase }, { on := 14, ground := Ground.phase }, { on := 15, ground := Ground.phase }], guard := none }) (v := ?_) rfl (by kernel_rfl) (by kernel_rfl) (by kernel_rfl) (fun _ _ _ h => h) (Or.inl ⟨by rfl, ?_⟩) hS ?_
        rotate_left
        · intro w9 hS9; have q1 := hS9.1.cells; have q2 := hS9.2.cells; go_simp; try with_reducible rfl
        try simp only [Act.put]
        try simp only [List.setIfInBounds_toArray]
        try simp only [List.set_cons_zero]
        try simp only [List.set_cons_succ, List.set_cons_zero]
        refine wpAnyH_ready (rs := [17]) (by kernel_rfl) (by simp) ?_
        refine AllReadyH.cons (o := { dst := none, op := Op.store 123 (Operand.tmp 47) (Operand.tmp 46), type := 0, pos := "stock.go:124", after := #[{ on := 16, ground := Ground.data }, { on := 15, ground := Ground.data }, { on := 15, ground := Ground.chain }, { on := 0, ground := Ground.phase }, { on := 1, ground := Ground.phase }, { on := 2, ground := Ground.phase }, { on := 3, ground := Ground.phase }, { on := 4, ground := Ground.phase }, { on := 5, ground := Ground.phase }, { on := 6, ground := Ground.phase }, { on := 7, ground := Ground.phase }, { on := 8, ground := Ground.phase }, { on := 9, ground := Ground.phase }, { on := 10, ground := Ground.phase }, { on := 11, ground := Ground.phase }, { on := 12, ground := Ground.phase }, { on := 13, ground := Ground.phase }, { on := 14, ground := Ground.phase }, { on := 15, ground := Ground.phase }], guard := none }) rfl (fun K9 hK9 => ?_) AllReadyH.nil
        have hS1 := And.intro (hS.1.other (p := ⟨W.heap.size + 1 + 1, 7, none⟩) (by simp; omega) (.slice A3 (l.length + 1) k3)) (hS.2.other (p := ⟨W.heap.size + 1 + 1, 7, none⟩) (by simp; omega) (.slice A3 (l.length + 1) k3))
        go_simp
        refine hK9.out _ _ hS1 (fun hS => ?_)
        clear hK9 K9
        try simp only [Act.put]
        try simp only [List.setIfInBounds_toArray]
        try simp only [List.set_cons_zero]
        try simp only [List.set_cons_succ, List.set_cons_zero]
        refine wpAnyH_done (by kernel_rfl) ?_ _
        go_wp2
        have hF := HFIN.out _ _ _ bL bZ hown' hv
        exact ⟨⟨k + 1, by omega, by go_num, hF.1, hS.2, hF.2.1, hF.2.2⟩, by simp [intOf]; omega⟩
      refine AllReadyH.cons (o := { dst := some 42, op := Op.call { callee := Callee.value (Operand.func 20), args := #[Operand.tmp 35, Operand.tmp 39, Operand.tmp 41], argTypes := #[31, 27, 5] }, type := 3, pos := "stock.go:124", after := #[{ on := 4, ground := Ground.data }, { on := 8, ground := Ground.data }, { on := 10, ground := Ground.data }], guard := none }) rfl (fun K9 hK9 => ?_) AllReadyH.nil
      go_simp
      with_reducible refine (HLf.out _ hv).mono ?_
      rintro e w1 ⟨rfl, h1⟩
      have hS1 := And.intro (hS.1.below h1 hS.1.lt) (hS.2.below h1 hS.2.lt)
      replace bL := bL.below h1 bL.lt
      replace bZ := bZ.below h1 bZ.lt
      replace ho := ho.keep h1
      replace hv := hv.trans (h1.mono hv.size)
      have cL := bL.cells
      clear h1
      refine hK9.out _ _ hS1 (fun hS => ?_)
      clear hK9 K9
      try simp only [Act.put]
      try simp only [List.setIfInBounds_toArray]
      try simp only [List.set_cons_zero]
      try simp only [List.set_cons_succ, List.set_cons_zero]
      refine wpAnyH_take (i := 12) (oi := { dst := some 43, op := Op.call { callee := Callee.builtin Builtin.min, args := #[Operand.const (Value.int IntKind.i64 9), Operand.tmp 42], argTypes := #[3, 3] }, type := 3, pos := "stock.go:124", after := #[{ on := 11, ground := Ground.data }], guard := none }) (v := ?_) rfl (by kernel_rfl) (by kernel_rfl) (by kernel_rfl) (fun _ _ _ h => h) (Or.inl ⟨by rfl, ?_⟩) hS ?_
      rotate_left
      · intro w9 hS9; have q1 := hS9.1.cells; have q2 := hS9.2.cells; go_simp; try with_reducible rfl
      try simp only [Act.put]
      try simp only [List.setIfInBounds_toArray]
      try simp only [List.set_cons_zero]
      try simp only [List.set_cons_succ, List.set_cons_zero]
      refine wpAnyH_take (i := 13) (oi := { dst := some 44, op := Op.build 185 #[(0, Operand.tmp 34), (1, Operand.tmp 43)], type := 185, pos := "stock.go:124", after := #[{ on := 3, ground := Ground.data }, { on := 12, ground := Ground.data }], guard := none }) (v := ?_) rfl (by kernel_rfl) (by kernel_rfl) (by kernel_rfl) (fun _ _ _ h => h) (Or.inl ⟨by rfl, ?_⟩) hS ?_
      rotate_left
      · intro w9 hS9; have q1 := hS9.1.cells; have q2 := hS9.2.cells; go_simp; try with_reducible rfl
      try simp only [Act.put]
      try simp only [List.setIfInBounds_toArray]
      try simp only [List.set_cons_zero]
      try simp only [List.set_cons_succ, List.set_cons_zero]
      refine wpAnyH_ready (rs := [1, 14]) (by kernel_rfl) (by simp) ?_
      refine AllReadyH.cons (o := { dst := some 32, op := Op.load 123 (Operand.tmp 31), type := 123, pos := "stock.go:124", after := #[{ on := 0, ground := Ground.data }], guard := none }) rfl (fun K9 hK9 => ?_) ?_
      · go_simp
        refine hK9.out _ _ hS (fun hS => ?_)
        clear hK9 K9
        try simp only [Act.put]
        try simp only [List.setIfInBounds_toArray]
        try simp only [List.set_cons_zero]
        try simp only [List.set_cons_succ, List.set_cons_zero]
        refine wpAnyH_ready (rs := [14]) (by kernel_rfl) (by simp) ?_
        refine AllReadyH.cons (o := { dst := some 45, op := Op.buildSlice 123 1 #[(0, Operand.tmp 44)], type := 123, pos := "stock.go:124", after := #[{ on := 13, ground := Ground.data }], guard := none }) rfl (fun K9 hK9 => ?_) AllReadyH.nil
        have hS1 := And.intro (hS.1.alloc (.cells #[.int .u8 x.let_, .int .i64 (min 9 (lv - sv))] 185)) (hS.2.alloc (.cells #[.int .u8 x.let_, .int .i64 (min 9 (lv - sv))] 185))
        go_simp
        refine hK9.out _ _ hS1 (fun hS => ?_)
        clear hK9 K9
        try simp only [Act.put]
        try simp only [List.setIfInBounds_toArray]
        try simp only [List.set_cons_zero]
        try simp only [List.set_cons_succ, List.set_cons_zero]
        replace bL := bL.alloc (.cells #[.int .u8 x.let_, .int .i64 (min 9 (lv - sv))] 185)
        replace bZ := bZ.alloc (.cells #[.int .u8 x.let_, .int .i64 (min 9 (lv - sv))] 185)
        replace ho := ho.alloc (.cells #[.int .u8 x.let_, .int .i64 (min 9 (lv - sv))] 185)
        have hn := heap_alloc_new w1 (.cells #[.int .u8 x.let_, .int .i64 (min 9 (lv - sv))] 185)
        replace hv := hv.alloc hv.size (.cells #[.int .u8 x.let_, .int .i64 (min 9 (lv - sv))] 185)
        replace cL := bL.cells
        refine wpAnyH_ready (rs := [15]) (by kernel_rfl) (by simp) ?_
        refine AllReadyH.cons (o := { dst := some 46, op := Op.call { callee := Callee.builtin Builtin.append, args := #[Operand.tmp 32, Operand.tmp 45], argTypes := #[123, 123] }, type := 123, pos := "stock.go:124", after := #[{ on := 1, ground := Ground.data }, { on := 14, ground := Ground.data }, { on := 11, ground := Ground.chain }], guard := none }) rfl (fun K9 hK9 => ?_) AllReadyH.nil
        refine step_push (T := tSld) rfl (.tmp 32) (.tmp 45) (by rfl) sl_sld (by rfl) ho (⟨x.let_, min 9 (lv - sv)⟩ : Cls) trivial hn (by rfl) (by rfl) (by have q5 := hS.1.lt; omega) (by omega) ?_
        intro v' w3 hown' hgr hb'
        obtain ⟨A3, k3, rfl⟩ := hown'.form
        have hS1 := And.intro (hS.1.grown hgr (fun e => by have q5 := hgA.out _ e; omega)) (hS.2.grown hgr (fun e => by have q5 := hgA.out _ e; omega))
        replace bL := bL.grown hgr (fun e => by have q5 := hgA.out _ e; omega)
        replace bZ := bZ.grown hgr (fun e => by have q5 := hgA.out _ e; omega)
        replace hv := hv.grown hgr (by have q5 := hS.1.lt; omega) (fun p hp => by have q5 := hgA.out _ hp; omega)
        replace cL := bL.cells
        have fL := bL.free
        refine hK9.out _ _ hS1 (fun hS => ?_)
        clear hK9 K9
        try simp only [Act.put]
        try simp only [List.setIfInBounds_toArray]
        try simp only [List.set_cons_zero]
        try simp only [List.set_cons_succ, List.set_cons_zero]
        refine wpAnyH_take (i := 16) (oi := { dst := some 47, op := Op.fieldAddr 127 (Operand.tmp 9) 6, type := 0, pos := "stock.go:124", after := #[{ on := 0, ground := Ground.phase }, { on := 1, ground := Ground.phase }, { on := 2, ground := Ground.phase }, { on := 3, ground := Ground.phase }, { on := 4, ground := Ground.phase }, { on := 5, ground := Ground.phase }, { on := 6, ground := Ground.phase }, { on := 7, ground := Ground.phase }, { on := 8, ground := Ground.phase }, { on := 9, ground := Ground.phase }, { on := 10, ground := Ground.phase }, { on := 11, ground := Ground.phase }, { on := 12, ground := Ground.phase }, { on := 13, ground := Ground.phase }, { on := 14, ground := Ground.phase }, { on := 15, ground := Ground.phase }], guard := none }) (v := ?_) rfl (by kernel_rfl) (by kernel_rfl) (by kernel_rfl) (fun _ _ _ h => h) (Or.inl ⟨by rfl, ?_⟩) hS ?_
        rotate_left
        · intro w9 hS9; have q1 := hS9.1.cells; have q2 := hS9.2.cells; go_simp; try with_reducible rfl
        try simp only [Act.put]
        try simp only [List.setIfInBounds_toArray]
        try simp only [List.set_cons_zero]
        try simp only [List.set_cons_succ, List.set_cons_zero]
        refine wpAnyH_ready (rs := [17]) (by kernel_rfl) (by simp) ?_
        refine AllReadyH.cons (o := { dst := none, op := Op.store 123 (Operand.tmp 47) (Operand.tmp 46), type := 0, pos := "stock.go:124", after := #[{ on := 16, ground := Ground.data }, { on := 15, ground := Ground.data }, { on := 15, ground := Ground.chain }, { on := 0, ground := Ground.phase }, { on := 1, ground := Ground.phase }, { on := 2, ground := Ground.phase }, { on := 3, ground := Ground.phase }, { on := 4, ground := Ground.phase }, { on := 5, ground := Ground.phase }, { on := 6, ground := Ground.phase }, { on := 7, ground := Ground.phase }, { on := 8, ground := Ground.phase }, { on := 9, ground := Ground.phase }, { on := 10, ground := Ground.phase }, { on := 11, ground := Ground.phase }, { on := 12, ground := Ground.phase }, { on := 13, ground := Ground.phase }, { on := 14, ground := Ground.phase }, { on := 15, ground := Ground.phase }], guard := none }) rfl (fun K9 hK9 => ?_) AllReadyH.nil
        have hS1 := And.intro (hS.1.other (p := ⟨W.heap.size + 1 + 1, 7, none⟩) (by simp; omega) (.slice A3 (l.length + 1) k3)) (hS.2.other (p := ⟨W.heap.size + 1 + 1, 7, none⟩) (by simp; omega) (.slice A3 (l.length + 1) k3))
        go_simp
        refine hK9.out _ _ hS1 (fun hS => ?_)
        clear hK9 K9
        try simp only [Act.put]
        try simp only [List.setIfInBounds_toArray]
        try simp only [List.set_cons_zero]
        try simp only [List.set_cons_succ, List.set_cons_zero]
        refine wpAnyH_done (by kernel_rfl) ?_ _
        go_wp2
        have hF := HFIN.out _ _ _ bL bZ hown' hv
        exact ⟨⟨k + 1, by omega, by go_num, hF.1, hS.2, hF.2.1, hF.2.2⟩, by simp [intOf]; omega⟩
      refine AllReadyH.cons (o := { dst := some 45, op := Op.buildSlice 123 1 #[(0, Operand.tmp 44)], type := 123, pos := "stock.go:124", after := #[{ on := 13, ground := Ground.data }], guard := none }) rfl (fun K9 hK9 => ?_) AllReadyH.nil
      have hS1 := And.intro (hS.1.alloc (.cells #[.int .u8 x.let_, .int .i64 (min 9 (lv - sv))] 185)) (hS.2.alloc (.cells #[.int .u8 x.let_, .int .i64 (min 9 (lv - sv))] 185))
      go_simp
      refine hK9.out _ _ hS1 (fun hS => ?_)
      clear hK9 K9
      try simp only [Act.put]
      try simp only [List.setIfInBounds_toArray]
      try simp only [List.set_cons_zero]
      try simp only [List.set_cons_succ, List.set_cons_zero]
      replace bL := bL.alloc (.cells #[.int .u8 x.let_, .int .i64 (min 9 (lv - sv))] 185)
      replace bZ := bZ.alloc (.cells #[.int .u8 x.let_, .int .i64 (min 9 (lv - sv))] 185)
      replace ho := ho.alloc (.cells #[.int .u8 x.let_, .int .i64 (min 9 (lv - sv))] 185)
      have hn := heap_alloc_new w1 (.cells #[.int .u8 x.let_, .int .i64 (min 9 (lv - sv))] 185)
      replace hv := hv.alloc hv.size (.cells #[.int .u8 x.let_, .int .i64 (min 9 (lv - sv))] 185)
      replace cL := bL.cells
      refine wpAnyH_ready (rs := [1]) (by kernel_rfl) (by simp) ?_
      refine AllReadyH.cons (o := { dst := some 32, op := Op.load 123 (Operand.tmp 31), type := 123, pos := "stock.go:124", after := #[{ on := 0, ground := Ground.data }], guard := none }) rfl (fun K9 hK9 => ?_) AllReadyH.nil
      go_simp
      refine hK9.out _ _ hS (fun hS => ?_)
      clear hK9 K9
      try simp only [Act.put]
      try simp only [List.setIfInBounds_toArray]
      try simp only [List.set_cons_zero]
      try simp only [List.set_cons_succ, List.set_cons_zero]
      refine wpAnyH_ready (rs := [15]) (by kernel_rfl) (by simp) ?_
      refine AllReadyH.cons (o := { dst := some 46, op := Op.call { callee := Callee.builtin Builtin.append, args := #[Operand.tmp 32, Operand.tmp 45], argTypes := #[123, 123] }, type := 123, pos := "stock.go:124", after := #[{ on := 1, ground := Ground.data }, { on := 14, ground := Ground.data }, { on := 11, ground := Ground.chain }], guard := none }) rfl (fun K9 hK9 => ?_) AllReadyH.nil
      refine step_push (T := tSld) rfl (.tmp 32) (.tmp 45) (by rfl) sl_sld (by rfl) ho (⟨x.let_, min 9 (lv - sv)⟩ : Cls) trivial hn (by rfl) (by rfl) (by have q5 := hS.1.lt; omega) (by omega) ?_
      intro v' w3 hown' hgr hb'
      obtain ⟨A3, k3, rfl⟩ := hown'.form
      have hS1 := And.intro (hS.1.grown hgr (fun e => by have q5 := hgA.out _ e; omega)) (hS.2.grown hgr (fun e => by have q5 := hgA.out _ e; omega))
      replace bL := bL.grown hgr (fun e => by have q5 := hgA.out _ e; omega)
      replace bZ := bZ.grown hgr (fun e => by have q5 := hgA.out _ e; omega)
      replace hv := hv.grown hgr (by have q5 := hS.1.lt; omega) (fun p hp => by have q5 := hgA.out _ hp; omega)
      replace cL := bL.cells
      have fL := bL.free
      refine hK9.out _ _ hS1 (fun hS => ?_)
      clear hK9 K9
      try simp only [Act.put]
      try simp only [List.setIfInBounds_toArray]
      try simp only [List.set_cons_zero]
      try simp only [List.set_cons_succ, List.set_cons_zero]
      refine wpAnyH_take (i := 16) (oi := { dst := some 47, op := Op.fieldAddr 127 (Operand.tmp 9) 6, type := 0, pos := "stock.go:124", after := #[{ on := 0, ground := Ground.phase }, { on := 1, ground := Ground.phase }, { on := 2, ground := Ground.phase }, { on := 3, ground := Ground.phase }, { on := 4, ground := Ground.phase }, { on := 5, ground := Ground.phase }, { on := 6, ground := Ground.phase }, { on := 7, ground := Ground.phase }, { on := 8, ground := Ground.phase }, { on := 9, ground := Ground.phase }, { on := 10, ground := Ground.phase }, { on := 11, ground := Ground.phase }, { on := 12, ground := Ground.phase }, { on := 13, ground := Ground.phase }, { on := 14, ground := Ground.phase }, { on := 15, ground := Ground.phase }], guard := none }) (v := ?_) rfl (by kernel_rfl) (by kernel_rfl) (by kernel_rfl) (fun _ _ _ h => h) (Or.inl ⟨by rfl, ?_⟩) hS ?_
      rotate_left
      · intro w9 hS9; have q1 := hS9.1.cells; have q2 := hS9.2.cells; go_simp; try with_reducible rfl
      try simp only [Act.put]
      try simp only [List.setIfInBounds_toArray]
      try simp only [List.set_cons_zero]
      try simp only [List.set_cons_succ, List.set_cons_zero]
      refine wpAnyH_ready (rs := [17]) (by kernel_rfl) (by simp) ?_
      refine AllReadyH.cons (o := { dst := none, op := Op.store 123 (Operand.tmp 47) (Operand.tmp 46), type := 0, pos := "stock.go:124", after := #[{ on := 16, ground := Ground.data }, { on := 15, ground := Ground.data }, { on := 15, ground := Ground.chain }, { on := 0, ground := Ground.phase }, { on := 1, ground := Ground.phase }, { on := 2, ground := Ground.phase }, { on := 3, ground := Ground.phase }, { on := 4, ground := Ground.phase }, { on := 5, ground := Ground.phase }, { on := 6, ground := Ground.phase }, { on := 7, ground := Ground.phase }, { on := 8, ground := Ground.phase }, { on := 9, ground := Ground.phase }, { on := 10, ground := Ground.phase }, { on := 11, ground := Ground.phase }, { on := 12, ground := Ground.phase }, { on := 13, ground := Ground.phase }, { on := 14, ground := Ground.phase }, { on := 15, ground := Ground.phase }], guard := none }) rfl (fun K9 hK9 => ?_) AllReadyH.nil
      have hS1 := And.intro (hS.1.other (p := ⟨W.heap.size + 1 + 1, 7, none⟩) (by simp; omega) (.slice A3 (l.length + 1) k3)) (hS.2.other (p := ⟨W.heap.size + 1 + 1, 7, none⟩) (by simp; omega) (.slice A3 (l.length + 1) k3))
      go_simp
      refine hK9.out _ _ hS1 (fun hS => ?_)
      clear hK9 K9
      try simp only [Act.put]
      try simp only [List.setIfInBounds_toArray]
      try simp only [List.set_cons_zero]
      try simp only [List.set_cons_succ, List.set_cons_zero]
      refine wpAnyH_done (by kernel_rfl) ?_ _
      go_wp2
      have hF := HFIN.out _ _ _ bL bZ hown' hv
      exact ⟨⟨k + 1, by omega, by go_num, hF.1, hS.2, hF.2.1, hF.2.2⟩, by simp [intOf]; omega⟩
-- END
    · obtain rfl : r.n = k := by omega
      have t1 : decide ((r.n : Int) < r.n) = false := by simp
      have c1 := bL.cells
      have c2 := bZ.cells
      have f2 := bZ.free
      have z2 := bZ.lt
      go_wp2_with (refine store_ln rfl (.tmp 8) (.tmp 49) rfl #[.string r.f.car, .int .i64 r.f.num, .string r.f.frm, .string r.f.to_, .int .i64 r.f.dep, .int .i64 r.f.arr, .bool lk, .slice A n c] rfl rfl bZ rfl rfl (by simp [Value.oneCell']) ?_)
      refine ret_ln Tryz.results63 (bZ.row _) rfl rfl rfl ?_
      have hl : l = solF (rs.map (·.f)) q r.f d := HST.out.all (by have := HCL.out.len; omega)
      exact ⟨A, n, c, rfl, hl ▸ ho.setRow (by omega) _, below_setRow hb (by omega) _⟩
end Go.Proofs.YtlkdefmceghmnaaGreat
