/- Put together by program of: Run, Aw24. -/
import Derived.Test.YtggomjfllbljeaaGreatDoorRf2
import Derived.Test.YtggomjfllbljeaaGreatDoorMScP
import Derived.Test.YtggomjfllbljeaaGreatDoorMTkD
import Derived.Sort.CutIn
import Derived.Test.YtggomjfllbljeaaGreatDoorMBld
import Derived.Test.YtggomjfllbljeaaGreatDoorMScH
namespace Go.Proofs.YtggomjfllbljeaaGreatDoor
set_option linter.unusedVariables false
open Go Go.RowKit Go.Shelf
attribute [local go_sem] Oper.semAt_some
abbrev sL0 : ByteArray := ⟨#[35, 32, 120]⟩
abbrev sL1 : ByteArray := ⟨#[48, 32, 83, 73, 42, 65, 71, 49, 47, 76, 79, 78]⟩
abbrev sL2 : ByteArray := ⟨#[]⟩
abbrev sL3 : ByteArray := ⟨#[116, 105, 99, 107, 32, 53]⟩
abbrev sTX : ByteArray := ⟨#[35, 32, 120, 10, 48, 32, 83, 73, 42, 65, 71, 49, 47, 76, 79, 78, 10, 10, 116, 105, 99, 107, 32, 53]⟩
abbrev sR1 : ByteArray := ⟨#[48, 32, 83, 73, 42, 65, 71, 49, 47, 76, 79, 78, 10, 10, 116, 105, 99, 107, 32, 53]⟩
abbrev sR2 : ByteArray := ⟨#[10, 116, 105, 99, 107, 32, 53]⟩
theorem spl_cut {s a r : ByteArray} {l : List ByteArray} (i : Nat) (h : atI s 10 = i) (ha : s.extract 0 i = a) (hr : s.extract (i + 1) s.size = r) (hl : Spl r l) : Spl s (a :: l) := by
  subst ha hr
  exact .cut i h hl
theorem spl_tx : Spl sTX [sL0, sL1, sL2, sL3] :=
  spl_cut (r := sR1) 3 (by decide +kernel) (by rfl) (by rfl) (spl_cut (r := sR2) 12 (by decide +kernel) (by rfl) (by rfl) (spl_cut (r := sL3) 0 (by decide +kernel) (by rfl) (by rfl) (.last (by decide +kernel))))
theorem parse_l1 : parseF sL1 = some ⟨1, 0, eT, 0, []⟩ := by decide +kernel
theorem parse_l3 : parseF sL3 = some ⟨2, 0, ⟨#[]⟩, 5, []⟩ := by decide +kernel
theorem wpIn_world {F : Fence} {n : Nat} {P : Program} {c : Code} {Q : Exit → Act → World → Prop} {a : Act} {w : World} (R : World → Prop) (h : R w) (k : ∀ w', R w' → c.wpIn F n P Q a w') : c.wpIn F n P Q a w := k w h
/-- The lines that are kept when k have come. -/
def linF : Nat → List ByteArray
  | 0 => [] | 1 => [] | 2 => [sL1] | 3 => [sL1] | _ => [sL1, sL3]
/-- The world while the lines come. -/
structure RI (W0 : World) (bn bl base h d m s l x du st : Nat) (k : Nat) (ls : List ByteArray) (v : Value) (W : World) : Prop where
  r1 : Bx W (W0.heap.size + 1) #[.string ⟨#[]⟩] 9
  r2 : Bx W (W0.heap.size + 1 + 1) #[.int .i64 0] 3
  r3 : Bx W (W0.heap.size + 1 + 1 + 1) #[.int .i64 0] 26
  bn : Bx W bn #[.int .i64 k] 3
  bl : Bx W bl #[v] 52
  own : Own W base 9 tStr v ls
  hw : HW W h d m s l x du st (-3)
  b : Below W0.heap.size W0 W
theorem RI.keep {S : Nat → Prop} {W0 : World} {bn bl base h d m s l x du st : Nat} {k : Nat} {ls : List ByteArray} {v : Value} {W W' : World} (H : RI W0 bn bl base h d m s l x du st k ls v W) (hk : Kp S W W') (h1 : ∀ j ∈ [W0.heap.size + 1, W0.heap.size + 1 + 1, W0.heap.size + 1 + 1 + 1, bn, bl], ¬ S j) (h2 : ∀ j ∈ [h, d, m, s, l, x, du, st], ¬ S j) (h3 : ∀ j, base ≤ j → ¬ S j) (h4 : ∀ j, S j → W0.heap.size ≤ j) : RI W0 bn bl base h d m s l x du st k ls v W' :=
  ⟨hk.bx H.r1 (h1 _ (by simp)), hk.bx H.r2 (h1 _ (by simp)), hk.bx H.r3 (h1 _ (by simp)), hk.bx H.bn (h1 _ (by simp)), hk.bx H.bl (h1 _ (by simp)), H.own.kp hk h3, H.hw.keep hk h2, hk.below H.b (Nat.le_refl _) (fun b _ e => h4 b e)⟩
theorem RI.below {W0 : World} {bn bl base h d m s l x du st : Nat} {k : Nat} {ls : List ByteArray} {v : Value} {W W' : World} (H : RI W0 bn bl base h d m s l x du st k ls v W) (hb : Below W.heap.size W W') : RI W0 bn bl base h d m s l x du st k ls v W' :=
  H.keep (S := fun _ => False) (Kp.of hb) (fun _ _ h => h) (fun _ _ h => h) (fun _ _ h => h) (fun _ h => h.elim)
theorem RI.tick {W0 : World} {bn bl base h d m s l x du st : Nat} {k : Nat} {ls : List ByteArray} {v : Value} {W : World} (H : RI W0 bn bl base h d m s l x du st k ls v W) (h1 : W0.heap.size + 1 + 1 + 1 < bn) (h2 : bn < bl) (h3 : bl < base) (h4 : ∀ j ∈ [h, d, m, s, l, x, du, st], j < bn) : RI W0 bn bl base h d m s l x du st (k + 1) ls v (W.setCell ⟨bn, 0, none⟩ (.int .i64 ((k + 1 : Nat) : Int))) :=
  ⟨H.r1.other (by show W0.heap.size + 1 ≠ bn; omega) _, H.r2.other (by show W0.heap.size + 1 + 1 ≠ bn; omega) _, H.r3.other (by show W0.heap.size + 1 + 1 + 1 ≠ bn; omega) _, H.bn.put 0 _, H.bl.other (by show bl ≠ bn; omega) _, H.own.setCell (by show bn < base; omega) _, H.hw.keep ((Kp.refl (fun b => b = bn) W).set (p := ⟨bn, 0, none⟩) rfl _) (fun j hj e => by have := h4 j hj; omega), H.b.setCell (by show W0.heap.size ≤ bn; omega) _⟩
theorem RI.push {W0 : World} {bn bl base h d m s l x du st : Nat} {k : Nat} {ls ls' : List ByteArray} {v v' : Value} {W W' : World} (H : RI W0 bn bl base h d m s l x du st k ls v W) (h1 : W0.heap.size + 1 + 1 + 1 < bn) (h2 : bn < bl) (h3 : bl < base) (h4 : ∀ j ∈ [h, d, m, s, l, x, du, st], j < bn) (h5 : base ≤ W.heap.size) (hb : Below base W W') (ho : Own W' base 9 tStr v' ls') : RI W0 bn bl base h d m s l x du st k ls' v' (W'.setCell ⟨bl, 0, none⟩ v') := by
  have hk : Kp (fun b => b = bl ∨ base ≤ b) W (W'.setCell ⟨bl, 0, none⟩ v') := (show Kp (fun b => b = bl ∨ base ≤ b) W W' from ⟨hb.os, hb.tape, hb.output, hb.size, fun b hb1 hb2 => hb.block b (by omega)⟩).set (p := ⟨bl, 0, none⟩) (.inl rfl) _
  exact ⟨hk.bx H.r1 (by omega), hk.bx H.r2 (by omega), hk.bx H.r3 (by omega), hk.bx H.bn (by omega), (H.bl.below hb h3).put 0 _, ho.setCell (by show bl < base; omega) _, H.hw.keep hk (fun j hj e => by have := h4 j hj; omega), hk.below H.b (Nat.le_refl _) (fun b _ e => by omega)⟩
theorem push_in {F : Fence} {n : Nat} {P : Program} {α : Type} {T : Ty α} {t e : TypeId} {B : Nat} {v : Value} {l : List α} {ops : Array Oper} {rest : List Oper} {o : Oper} {a : Act} {Q : Exit → Act → World → Prop} (hgd : o.guard = none) (s x : Operand)
    (ho : o.op = .call { callee := .builtin .append, args := #[s, x], argTypes := #[t, t] }) (S : SlT P t e T.sz) {W : World} (hs : a.eval s = v) (hown : Own W B e T v l) (y : α) (hy : T.wf y) (news : Array Value) (hn : news.toList = T.enc y)
    (hx : a.eval x = .slice (some ⟨W.heap.size, 0, none⟩) 1 1) (hB : B ≤ W.heap.size) (hl : l.length < 2147483648)
    (h : ∀ v' w', Own w' B e T v' (l ++ [y]) → Below B W w' → wpListIn F n P ops Q rest (a.put o.dst v') w') : wpListIn F n P ops Q (o :: rest) a (W.alloc (.cells news e)) := by
  obtain ⟨i, z, b, hi, h0, h1, h2, hb, hz⟩ := S.hi
  refine wpListIn_append_own (W.alloc (.cells news e)) hgd s x t ho B e i z T.sz b S.ht hi h0 h1 h2 hz T.pos v l.length (l.flatMap T.enc) hs (hown.alloc _).row ⟨W.heap.size, 0, none⟩ 1 1 (T.enc y) hx (by rw [T.len]; omega) ?_ (fun u hu => T.one y u hu) (by unfold maxLen; omega) ?_ (by simp; omega) ?_
  · intro j u hu
    have hadd : (⟨W.heap.size, 0, none⟩ : Addr).add j = ⟨W.heap.size, j, none⟩ := by unfold Addr.add; split <;> simp_all
    rw [hadd, cell_of_row _ _ j news e (0, 0) (heap_alloc_new W _), ← hu, ← hn]
    simp
  · exact Nat.le_trans (Nat.mul_le_mul (show l.length + 1 ≤ 2147483648 by omega) hb) (by omega)
  · intro v' w' hown' hgrow _
    refine h v' w' ⟨fun x hx => ?_, ?_⟩ (((Below.refl B W).alloc hB _).grown hgrow (by simp; omega) (fun k hk => (World.ownsRow.lt hown.row k hk).1))
    · rcases List.mem_append.1 hx with h' | h'
      · exact hown.wf x h'
      · rw [List.mem_singleton.1 h']; exact hy
    · rw [List.flatMap_append, List.length_append]
      simpa using hown'
/-- What Parse makes of the two lines. -/
def RetP1 (W : World) (k n : Int) (en : ByteArray) (e : Ending) (W' : World) : Prop := ∃ (A : Option Addr) (c : Nat), e = .returned (.tuple #[.agg (evC k 0 en n (.slice A 0 c)), .int .i64 0]) ∧ Below W.heap.size W W'
theorem parse1 (W : World) : Calls Tryz.prog 5 #[.string sL1] W (RetP1 W 1 0 eT) :=
  (parse_any sL1 (by decide) W).mono fun e W' h => by rw [parse_l1] at h; obtain ⟨A, c, he, _, hb⟩ := h; exact ⟨A, c, he, hb⟩
theorem parse3 (W : World) : Calls Tryz.prog 5 #[.string sL3] W (RetP1 W 2 5 ⟨#[]⟩) :=
  (parse_any sL3 (by decide) W).mono fun e W' h => by rw [parse_l3] at h; obtain ⟨A, c, he, _, hb⟩ := h; exact ⟨A, c, he, hb⟩
theorem isB_kp {S : Nat → Prop} {W W' : World} {B b : Nat} {l : List UInt8} (h : IsB B b l W) (hk : Kp S W W') (hS : ∀ j, S j → j < B) : IsB B b l W' := by
  have key : ∀ p, Lib.BuilderAt 59 5 B b p (Lib.byteCells l) W → Lib.BuilderAt 59 5 B b p (Lib.byteCells l) W' := by
    rintro p ⟨hB, v, hb, ho, hne⟩
    refine ⟨hB, v, (hk.block b (Array.getElem?_eq_some_iff.1 hb).1 (fun e => by have := hS b e; omega)).trans hb, ⟨ho.1, ?_⟩, hne⟩
    rcases ho.2 with hn | ⟨g, cap, cur, hv, h1, hg, r⟩
    · exact .inl hn
    · exact .inr ⟨g, cap, cur, hv, h1, (hk.block g (Array.getElem?_eq_some_iff.1 hg).1 (fun e => by have := hS g e; omega)).trans hg, r⟩
  exact h.elim (fun h => .inl (key _ h)) (fun h => .inr (key _ h))
/-- The world while the events are done: N is where the builder lies. -/
structure RJ (W0 : World) (M D N ga oa : Nat) (l : List UInt8) (W : World) : Prop where
  r1 : Bx W (W0.heap.size + 1) #[.string ⟨#[]⟩] 9
  r2 : Bx W (W0.heap.size + 1 + 1) #[.int .i64 0] 3
  r3 : Bx W (W0.heap.size + 1 + 1 + 1) #[.int .i64 0] 26
  d : W.heap[D]? = some (.deferred (some []))
  e1 : W.cell? ⟨ga, oa, none⟩ = some (.string sL1)
  e2 : W.cell? ⟨ga, oa + 1, none⟩ = some (.string sL3)
  isb : IsB N N l W
  b : Below W0.heap.size W0 W
  sz : N < W.heap.size
  o : W0.heap.size + 1 + 1 + 1 < M ∧ M ≤ D ∧ D < N ∧ M ≤ ga ∧ ga < N
theorem RJ.keep {S : Nat → Prop} {W0 : World} {M D N ga oa : Nat} {l : List UInt8} {W W' : World} (H : RJ W0 M D N ga oa l W) (hk : Kp S W W') (hS : ∀ j, S j → W0.heap.size + 1 + 1 + 1 < j ∧ j < M) : RJ W0 M D N ga oa l W' := by
  have ho := H.o
  have hc : ∀ k, W'.cell? ⟨ga, k, none⟩ = W.cell? ⟨ga, k, none⟩ := fun k => World.cell?_of_block (a := ⟨ga, k, none⟩) (hk.block ga (by have := H.sz; omega) (fun e => by have := hS _ e; omega))
  exact ⟨hk.bx H.r1 (fun e => by have := hS _ e; omega), hk.bx H.r2 (fun e => by have := hS _ e; omega), hk.bx H.r3 (fun e => by have := hS _ e; omega), (hk.block D (by have := H.sz; omega) (fun e => by have := hS _ e; omega)).trans H.d, (hc _).trans H.e1, (hc _).trans H.e2, isB_kp H.isb hk (fun j e => by have := hS j e; omega), hk.below H.b (Nat.le_refl _) (fun b _ e => by have := hS b e; omega), Nat.lt_of_lt_of_le H.sz hk.size, ho⟩
theorem RJ.below {W0 : World} {M D N ga oa : Nat} {l : List UInt8} {W W' : World} (H : RJ W0 M D N ga oa l W) (hb : Below W.heap.size W W') : RJ W0 M D N ga oa l W' := H.keep (S := fun _ => False) (Kp.of hb) (fun _ e => e.elim)
/-- Behind a write into the builder. -/
theorem RJ.wrote {W0 : World} {M D N ga oa : Nat} {l l' : List UInt8} {W W' : World} (H : RJ W0 M D N ga oa l W) (hb : Below N W W') (hi : IsB N N l' W') : RJ W0 M D N ga oa l' W' := by
  have ho := H.o
  have hc : ∀ k, W'.cell? ⟨ga, k, none⟩ = W.cell? ⟨ga, k, none⟩ := fun k => World.cell?_of_block (a := ⟨ga, k, none⟩) (hb.block ga (by omega))
  exact ⟨H.r1.below hb (by omega), H.r2.below hb (by omega), H.r3.below hb (by omega), (hb.block D (by omega)).trans H.d, (hc _).trans H.e1, (hc _).trans H.e2, hi, H.b.trans (hb.mono (by omega)), Nat.lt_of_lt_of_le H.sz hb.size, ho⟩
abbrev sOUT : ByteArray := ⟨#[62, 32, 48, 32, 83, 73, 42, 65, 71, 49, 47, 76, 79, 78, 10, 83, 73, 71, 78, 69, 68, 32, 73, 78, 32, 65, 71, 49, 32, 76, 79, 78, 10, 62, 32, 116, 105, 99, 107, 32, 53, 10, 84, 73, 77, 69, 32, 48, 49, 74, 65, 78, 47, 48, 48, 48, 53, 10]⟩
abbrev sP1 : ByteArray := ⟨#[62, 32, 48, 32, 83, 73, 42, 65, 71, 49, 47, 76, 79, 78, 10, 83, 73, 71, 78, 69, 68, 32, 73, 78, 32, 65, 71, 49, 32, 76, 79, 78, 10]⟩
abbrev sP2 : ByteArray := ⟨#[62, 32, 116, 105, 99, 107, 32, 53, 10, 84, 73, 77, 69, 32, 48, 49, 74, 65, 78, 47, 48, 48, 48, 53, 10]⟩
set_option maxRecDepth 100000 in
set_option maxHeartbeats 8000000 in
theorem run_24 {W : World} (hT : Tab12 W) : Calls Tryz.prog 10 #[.agg cfC, .string sTX] W fun e W' => e = .returned (.tuple #[.string sOUT, .int .i64 0, .int .i64 0]) ∧ Below W.heap.size W W' := by
  refine (callsIn_wide (n := 4)).1 ?_
  refine callsIn_of_wp_marks Tryz.func10 rfl trivial ?_ rfl
  simp only [Tryz.ntmps10, List.size_toArray, List.length_cons, List.length_nil, Nat.reduceAdd, Nat.reduceSub, Array.replicate_succ, Array.replicate_zero, List.push_toArray, List.append_toArray, List.nil_append, List.cons_append]
  have q0 := (((Bx.new W cfC 40).alloc (.cells #[.string ⟨#[]⟩] 9)).alloc (.cells #[.int .i64 0] 3)).alloc (.cells #[.int .i64 0] 26)
  have q1 := ((Bx.new (W.alloc (.cells cfC 40)) #[.string ⟨#[]⟩] 9).alloc (.cells #[.int .i64 0] 3)).alloc (.cells #[.int .i64 0] 26)
  have q2 := (Bx.new ((W.alloc (.cells cfC 40)).alloc (.cells #[.string ⟨#[]⟩] 9)) #[.int .i64 0] 3).alloc (.cells #[.int .i64 0] 26)
  have q3 := Bx.new (((W.alloc (.cells cfC 40)).alloc (.cells #[.string ⟨#[]⟩] 9)).alloc (.cells #[.int .i64 0] 3)) #[.int .i64 0] 26
  rw [World.size_alloc] at q1
  rw [World.size_alloc, World.size_alloc] at q2
  rw [World.size_alloc, World.size_alloc, World.size_alloc] at q3
  have q4 := (Kp.refl (fun b => W.heap.size ≤ b) W).alloc (.cells cfC 40) |>.alloc (.cells #[.string ⟨#[]⟩] 9) |>.alloc (.cells #[.int .i64 0] 3) |>.alloc (.cells #[.int .i64 0] 26)
  gi_upto_region 1 with fail
  refine wpIn_world (fun V => Bx V W.heap.size cfC 40 ∧ Bx V (W.heap.size + 1) #[.string ⟨#[]⟩] 9 ∧ Bx V (W.heap.size + 1 + 1) #[.int .i64 0] 3 ∧ Bx V (W.heap.size + 1 + 1 + 1) #[.int .i64 0] 26 ∧ Below W.heap.size W V) ⟨q0, q1, q2, q3, q4.below (Below.refl _ _) (Nat.le_refl _) (fun _ _ e => e)⟩ ?_
  clear q0 q1 q2 q3 q4
  rintro V0 ⟨b0, b1, b2, b3, hb0⟩
  have x0 := b0.cells
  have z3 := b3.lt
  gi_wp2_with fail
  refine ⟨trivial, (callsIn_wide.2 (hostnew_0 V0)).mono ?_⟩
  rintro e V1 ⟨h, d, m, s, l, x, du, st, rfl, HH, hge, hb1⟩
  have c1 := b1.below hb1 b1.lt
  have c2 := b2.below hb1 b2.lt
  have c3 := b3.below hb1 b3.lt
  have x3 := c3.cells
  have f3 := c3.free
  have HG := Lib.hid (fun j hj => Nat.lt_of_lt_of_le z3 (hge j hj))
  have HHH := Lib.hid HH
  have hz01 := hb1.size
  have hb2 : Below W.heap.size W V1 := hb0.trans (hb1.mono hb0.size)
  clear b0 b1 b2 b3 x0 hb0 hb1 hge HH
  have HW1 : HW (V1.setCell ⟨W.heap.size + 1 + 1 + 1, 0, none⟩ (.int .i64 0)) h d m s l x du st (-3) := HHH.out.keep ((Kp.refl (fun k => k = W.heap.size + 1 + 1 + 1) V1).set (p := ⟨W.heap.size + 1 + 1 + 1, 0, none⟩) rfl _) (fun j hj e => by have := HG.out j hj; omega)
  have q1 := ((c1.other (p := ⟨W.heap.size + 1 + 1 + 1, 0, none⟩) (by show W.heap.size + 1 ≠ W.heap.size + 1 + 1 + 1; omega) (.int .i64 0)).alloc (.cells #[.int .i64 0] 3)).alloc (.cells #[.slice none 0 0] 52)
  have q2 := ((c2.other (p := ⟨W.heap.size + 1 + 1 + 1, 0, none⟩) (by show W.heap.size + 1 + 1 ≠ W.heap.size + 1 + 1 + 1; omega) (.int .i64 0)).alloc (.cells #[.int .i64 0] 3)).alloc (.cells #[.slice none 0 0] 52)
  have q3 := ((c3.put 0 (.int .i64 0)).alloc (.cells #[.int .i64 0] 3)).alloc (.cells #[.slice none 0 0] 52)
  have q4 := (Bx.new (V1.setCell ⟨W.heap.size + 1 + 1 + 1, 0, none⟩ (.int .i64 0)) #[.int .i64 0] 3).alloc (.cells #[.slice none 0 0] 52)
  have q5 := Bx.new ((V1.setCell ⟨W.heap.size + 1 + 1 + 1, 0, none⟩ (.int .i64 0)).alloc (.cells #[.int .i64 0] 3)) #[.slice none 0 0] 52
  rw [World.size_alloc] at q5
  have hsz1 : (V1.setCell ⟨W.heap.size + 1 + 1 + 1, 0, none⟩ (.int .i64 0)).heap.size = V1.heap.size := by simp
  rw [hsz1] at q4 q5
  have q6 := ((hb2.setCell (p := ⟨W.heap.size + 1 + 1 + 1, 0, none⟩) (by show W.heap.size ≤ W.heap.size + 1 + 1 + 1; omega) (.int .i64 0)).alloc (by rw [hsz1]; exact hb2.size) (.cells #[.int .i64 0] 3)).alloc (by simp; have := hb2.size; omega) (.cells #[.slice none 0 0] 52)
  have q7 := (HW1.below ((Below.refl _ _).alloc (Nat.le_refl _) (.cells #[.int .i64 0] 3))).below ((Below.refl _ _).alloc (Nat.le_refl _) (.cells #[.slice none 0 0] 52))
  have hst1 := HHH.out.tb.lt
  have HLT : Hid (∀ j ∈ [h, d, m, s, l, x, du, st], j < V1.heap.size) := by
    intro j hj
    have hx9 : x < V1.heap.size := by obtain ⟨_, _, _, _, hq⟩ := HHH.out.xb; exact hq.lt
    have hh9 : h < V1.heap.size := by obtain ⟨_, hq⟩ := HHH.out.hb; exact hq.lt
    have hu9 : du < V1.heap.size := by obtain ⟨_, hq⟩ := HHH.out.db; exact hq.lt
    have hm9 : m < V1.heap.size := by obtain ⟨_, hq⟩ := HHH.out.dk.bm; exact hq.size
    have hd9 := HHH.out.dk.bd.lt
    have hs9 := HHH.out.sb.lt
    have hl9 := HHH.out.lb.lt
    simp only [List.mem_cons, List.mem_nil_iff, or_false] at hj
    omega
  gi_upto_region 8 with fail
  refine wpIn_world (fun V => Bx V (W.heap.size + 1) #[.string ⟨#[]⟩] 9 ∧ Bx V (W.heap.size + 1 + 1) #[.int .i64 0] 3 ∧ Bx V (W.heap.size + 1 + 1 + 1) #[.int .i64 0] 26 ∧ Bx V V1.heap.size #[.int .i64 0] 3 ∧ Bx V (V1.heap.size + 1) #[.slice none 0 0] 52 ∧ HW V h d m s l x du st (-3) ∧ Below W.heap.size W V) ⟨q1, q2, q3, q4, q5, q7, q6⟩ ?_
  clear q1 q2 q3 q4 q5 q6 q7 HW1 hsz1 x3 f3 c1 c2 c3 HHH
  rintro V2 ⟨r1, r2, r3, bn, bl, H2, hb3⟩
  gi_wp2_with fail
  refine ⟨trivial, (callsIn_wide.2 (splitseq_any V2 sTX)).mono ?_⟩
  rintro e V3 ⟨rfl, i0, i1, i2, hb4⟩
  have z2 := bl.lt
  have z12 := hb2.size
  have z33 := i2.lt
  have HI0 : Hid (RI W V1.heap.size (V1.heap.size + 1) (V3.heap.size + 2) h d m s l x du st 0 (linF 0) (.slice none 0 0) V3) := ⟨r1.below hb4 r1.lt, r2.below hb4 r2.lt, r3.below hb4 r3.lt, bn.below hb4 bn.lt, bl.below hb4 bl.lt, Own.nil_ _ _ _ _, H2.below hb4, hb3.trans (hb4.mono hb3.size)⟩
  clear r1 r2 r3 bn bl H2 hb3 hb4
  gi_wp2
  have HN1 : Hid (W.heap.size + 1 + 1 + 1 < V1.heap.size) := by show _ < _; omega
  refine range_iter (α := ByteArray) (n := 4) rfl (by omega) rfl trivial (enters_of Tryz.func63 (by kernel_rfl) rfl) (encs := fun x : ByteArray => #[.string x]) (fun _ => rfl) (bs := V2.heap.size) (bk := [V2.heap.size + 1, V2.heap.size, V2.heap.size + 2]) (xs := [sL0, sL1, sL2, sL3]) (split_iter i1 i0 i2 (by omega) (by omega) spl_tx (by decide)) ?hbk (by omega) (fun k W' => ∃ v, RI W V1.heap.size (V1.heap.size + 1) (V3.heap.size + 2) h d m s l x du st k (linF k) v W') ?hI ⟨_, HI0.out⟩ ?round ?done
  case hbk =>
    intro b hb
    simp only [List.mem_cons, List.mem_nil_iff, or_false] at hb
    omega
  case hI =>
    rintro k A B ⟨v, H⟩ hk
    refine ⟨v, H.keep hk (fun j hj e => ?_) (fun j hj e => ?_) (fun j hj e => ?_) (fun j e => ?_)⟩
    · have := HN1.out
      simp only [List.mem_cons, List.mem_nil_iff, or_false] at hj
      omega
    · have := HLT.out j hj
      omega
    · omega
    · omega
  case round =>
    intro l0 k x0 A hx0
    gi_wp2
    refine ⟨trivial, fun V => ?_⟩
    rintro ⟨v, H⟩ hz
    have hnl : V1.heap.size < V1.heap.size + 1 := by omega
    have hlb : V1.heap.size + 1 < V3.heap.size + 2 := by omega
    have HT1 := H.tick HN1.out hnl hlb HLT.out
    have KB1 : Hid (∀ b, b ∈ [V2.heap.size + 1, V2.heap.size, V2.heap.size + 2] ∨ b = V3.heap.size ∨ b = V3.heap.size + 1 → (V.setCell ⟨V1.heap.size, 0, none⟩ (.int .i64 ((k + 1 : Nat) : Int))).heap[b]? = V.heap[b]?) := fun b hb => Below.heap_setCell V _ _ b (by
      show b ≠ V1.heap.size
      simp only [List.mem_cons, List.mem_nil_iff, or_false] at hb
      omega)
    have c1 := H.bn.cells
    have f1 := H.bn.free
    have HTH := Lib.hid HT1
    clear H HT1
    rcases k with _ | _ | _ | _ | k
    · obtain rfl : x0 = sL0 := by simpa using hx0.symm
      gi_wp2
      exact ⟨⟨v, HTH.out⟩, KB1.out⟩
    · obtain rfl : x0 = sL1 := by simpa using hx0.symm
      gi_wp2_with fail
      refine ⟨trivial, (CallsIn.inRound l0 (callsIn_wide.2 (parse1 _))).mono ?_⟩
      rintro e V5 ⟨Ak, ck, rfl, hb5⟩
      have HT2 := HTH.out
      rw [show ((0 + 1 + 1 : Nat) : Int) = 2 from rfl] at HT2 KB1
      have H5 := (HT2.below hb5).below ((Below.refl V5.heap.size V5).alloc (Nat.le_refl _) (.cells (evC 1 0 eT 0 (.slice Ak 0 ck)) 24))
      have e5 := (HT2.below hb5).bl.cells
      have z5b := (HT2.below hb5).bl.lt
      have z5 : V.heap.size ≤ V5.heap.size := by have := hb5.size; simpa using this
      have OW := H5.own
      have BL := H5.bl
      have hB5 : V3.heap.size + 2 ≤ (V5.alloc (.cells (evC 1 0 eT 0 (.slice Ak 0 ck)) 24)).heap.size := by simp; omega
      have HH5 := Lib.hid H5
      have HB5 := Lib.hid hb5
      clear HT2 H5 hb5 HTH c1 f1
      have hy1 : tStr.wf sL1 := by show (sL1 : ByteArray).size ≤ 9223372036854775807; decide
      have hl1 : (linF (0 + 1)).length < 2147483648 := by decide
      gi_wp2_with (gi_at_builtin; refine push_in rfl (.tmp 50) (.tmp 52) rfl sl_strs rfl OW sL1 hy1 #[.string sL1] rfl (by rw [World.size_alloc]; rfl) hB5 hl1 ?_; intro v6 V6 ho6 hb6; obtain ⟨A6, c6, rfl⟩ := ho6.form; have e6 := (BL.below hb6 hlb).cells; have g6 := (BL.below hb6 hlb).free)
      gi_wp2
      refine ⟨⟨_, HH5.out.push HN1.out hnl hlb HLT.out hB5 hb6 ho6⟩, fun b hb => ?_⟩
      have hbb := hb
      simp only [List.mem_cons, List.mem_nil_iff, or_false] at hbb
      have hb2 : b < V3.heap.size + 2 := by omega
      have hb3 : b ≠ V1.heap.size + 1 := by omega
      exact (Below.heap_setCell V6 _ _ b hb3).trans ((hb6.block b hb2).trans ((heap_alloc_old V5 _ (by omega)).trans ((HB5.out.block b (by simp; omega)).trans (KB1.out b hb))))
    · obtain rfl : x0 = sL2 := by simpa using hx0.symm
      gi_wp2
      exact ⟨⟨v, HTH.out⟩, KB1.out⟩
    · obtain rfl : x0 = sL3 := by simpa using hx0.symm
      gi_wp2_with fail
      refine ⟨trivial, (CallsIn.inRound l0 (callsIn_wide.2 (parse3 _))).mono ?_⟩
      rintro e V5 ⟨Ak, ck, rfl, hb5⟩
      have HT2 := HTH.out
      rw [show ((0 + 1 + 1 + 1 + 1 : Nat) : Int) = 4 from rfl] at HT2 KB1
      have H5 := (HT2.below hb5).below ((Below.refl V5.heap.size V5).alloc (Nat.le_refl _) (.cells (evC 2 0 ⟨#[]⟩ 5 (.slice Ak 0 ck)) 24))
      have e5 := (HT2.below hb5).bl.cells
      have z5b := (HT2.below hb5).bl.lt
      have z5 : V.heap.size ≤ V5.heap.size := by have := hb5.size; simpa using this
      have OW := H5.own
      have BL := H5.bl
      have hB5 : V3.heap.size + 2 ≤ (V5.alloc (.cells (evC 2 0 ⟨#[]⟩ 5 (.slice Ak 0 ck)) 24)).heap.size := by simp; omega
      have HH5 := Lib.hid H5
      have HB5 := Lib.hid hb5
      clear HT2 H5 hb5 HTH c1 f1
      have hy1 : tStr.wf sL3 := by show (sL3 : ByteArray).size ≤ 9223372036854775807; decide
      have hl1 : (linF (0 + 1 + 1 + 1)).length < 2147483648 := by decide
      gi_wp2_with (gi_at_builtin; refine push_in rfl (.tmp 50) (.tmp 52) rfl sl_strs rfl OW sL3 hy1 #[.string sL3] rfl (by rw [World.size_alloc]; rfl) hB5 hl1 ?_; intro v6 V6 ho6 hb6; obtain ⟨A6, c6, rfl⟩ := ho6.form; have e6 := (BL.below hb6 hlb).cells; have g6 := (BL.below hb6 hlb).free)
      gi_wp2
      refine ⟨⟨_, HH5.out.push HN1.out hnl hlb HLT.out hB5 hb6 ho6⟩, fun b hb => ?_⟩
      have hbb := hb
      simp only [List.mem_cons, List.mem_nil_iff, or_false] at hbb
      have hb2 : b < V3.heap.size + 2 := by omega
      have hb3 : b ≠ V1.heap.size + 1 := by omega
      exact (Below.heap_setCell V6 _ _ b hb3).trans ((hb6.block b hb2).trans ((heap_alloc_old V5 _ (by omega)).trans ((HB5.out.block b (by simp; omega)).trans (KB1.out b hb))))
    · simp at hx0
  case done =>
    rintro V ⟨v, H⟩ hD
    have hD5 := Lib.hid (show V.heap[V3.heap.size]? = some (.deferred (some [])) from hD)
    have hl4 : linF 4 = [sL1, sL3] := rfl
    have OW : Own V (V3.heap.size + 2) 9 tStr v [sL1, sL3] := H.own
    obtain ⟨A9, c9, rfl⟩ := OW.form
    have HV := Lib.hid H
    have BL := H.bl
    have y1 := BL.cells
    have y2 := BL.lt
    have OS := OW.sl
    obtain ⟨ga, oa, rfl, hga1, hga2, hcc⟩ := OS.cells (by decide)
    have e1 : V.cell? ⟨ga, oa, none⟩ = some (.string sL1) := by have := hcc 0 sL1 rfl 0 (.string sL1) rfl; simpa using this
    have e2 : V.cell? ⟨ga, oa + 1, none⟩ = some (.string sL3) := by have := hcc 1 sL3 rfl 0 (.string sL3) rfl; simpa [tStr] using this
    have HE := Lib.hid (And.intro e1 e2)
    clear H OW OS hcc e1 e2 hD
    have ho : W.heap.size + 1 + 1 + 1 < V1.heap.size ∧ V1.heap.size ≤ V3.heap.size ∧ V3.heap.size < V.heap.size ∧ V1.heap.size ≤ ga ∧ ga < V.heap.size := ⟨HN1.out, by omega, (Array.getElem?_eq_some_iff.1 hD5.out).1, by omega, hga2⟩
    have hB9 : Below V.heap.size V (V.alloc (.cells #[.pointer none, .slice none 0 0] 59)) := (Below.refl _ _).alloc (Nat.le_refl _) _
    have hJ0 : RJ W V1.heap.size V3.heap.size V.heap.size ga oa [] (V.alloc (.cells #[.pointer none, .slice none 0 0] 59)) :=
      ⟨HV.out.r1.alloc _, HV.out.r2.alloc _, HV.out.r3.alloc _, (hB9.block _ ho.2.2.1).trans hD5.out, (World.cell?_of_block (a := ⟨ga, oa, none⟩) (hB9.block ga hga2)).trans HE.out.1, (World.cell?_of_block (a := ⟨ga, oa + 1, none⟩) (hB9.block ga hga2)).trans HE.out.2,
        .inl ⟨Nat.le_refl _, .slice none 0 0, heap_alloc_new V _, World.ownsRow_nil _ _ _ _, by simp [Value.ownBlock]⟩, HV.out.b.trans (hB9.mono HV.out.b.size), by simp, ho⟩
    have HJ0 := Lib.hid (And.intro hJ0 (HV.out.hw.below hB9))
    have hcat1 : (⟨#[62, 32]⟩ : ByteArray) ++ sL1 ++ ⟨#[10]⟩ ++ (sSI ++ ⟨#[10]⟩) = sP1 := by rfl
    have hcat2 : (⟨#[62, 32]⟩ : ByteArray) ++ sL3 ++ ⟨#[10]⟩ ++ (sTM ++ ⟨#[10]⟩) = sP2 := by rfl
    have hlt1 := (show ∀ j ∈ [h, d, m, s, l, x, du, st], W.heap.size + 1 + 1 + 1 < j ∧ j < V1.heap.size from fun j hj => ⟨HG.out j hj, HLT.out j hj⟩)
    have HL := Lib.hid hlt1
    clear hJ0 hB9 HE hlt1 HV hD5
    gi_upto_region 17 with fail
    gi_wp2
    gi_loopw [56] (fun i wr => (i = .int .i64 0 ∧ Hid (RJ W V1.heap.size V3.heap.size V.heap.size ga oa [] wr ∧ HW wr h d m s l x du st (-3))) ∨ (i = .int .i64 1 ∧ Hid (RJ W V1.heap.size V3.heap.size V.heap.size ga oa sP1.data.toList wr ∧ HV wr h d m s l x du st (-3))) ∨ (i = .int .i64 2 ∧ Hid (RJ W V1.heap.size V3.heap.size V.heap.size ga oa (sP1.data.toList ++ sP2.data.toList) wr))) (fun i _ => 2 - (intOf i).toNat)
    case atStart => exact .inl ⟨rfl, HJ0⟩
    case round =>
      clear HJ0 BL y1 y2
      rcases hrel with ⟨rfl, HJ⟩ | ⟨rfl, HJ⟩ | ⟨rfl, HJ⟩
      · have y3 := HJ.out.1.e1
        gi_wp2_with fail
        refine ⟨trivial, (callsIn_wide.2 (parse1 _)).mono ?_⟩
        rintro e V5 ⟨Ak, ck, rfl, hb5⟩
        have hb6 := hb5.alloc hb5.size (.cells (evC 1 0 eT 0 (.slice Ak 0 ck)) 24)
        have HJ6 := Lib.hid (And.intro (HJ.out.1.below hb6) (HJ.out.2.below hb6))
        clear y3 HJ hb5 hb6
        gi_wp2_with fail
        refine ⟨trivial, (callsIn_wide.2 (do_si HJ6.out.2)).mono ?_⟩
        rintro e V7 ⟨rfl, hK⟩
        have HJ7 := Lib.hid (And.intro (HJ6.out.1.keep hK (fun j e => by rw [show j = st from e]; exact HL.out st (by simp))) (HJ6.out.2.hv.keep hK (fun j hj e => by
          have hn := HJ6.out.2.nod
          simp only [List.nodup_cons, List.mem_cons, List.mem_nil_iff, or_false, not_or, List.nodup_nil, and_true, not_false_eq_true] at hn
          simp only [List.mem_cons, List.mem_nil_iff, or_false] at hj
          have e' : j = st := e
          omega)))
        clear HJ6 hK
        gi_wp2_with fail
        refine ⟨trivial, (callsIn_wide.2 (text_scr V7 (s := sSI) (by decide) (by decide) (by decide))).mono ?_⟩
        rintro e V8 ⟨rfl, hb8⟩
        have HJ8 := Lib.hid (And.intro (HJ7.out.1.below hb8) (HJ7.out.2.below hb8))
        clear HJ7 hb8
        gi_wp2_with fail
        refine ⟨trivial, (callsIn_wide.2 (bwrite V.heap.size V.heap.size [] sP1 V8 HJ8.out.1.isb (by decide) (Nat.le_of_lt HJ8.out.1.sz))).mono ?_⟩
        rintro e V9 ⟨rfl, hi9, hb9⟩
        have HJ9 := Lib.hid (And.intro (HJ8.out.1.wrote (l' := sP1.data.toList) hb9 hi9) (HJ8.out.2.keep (S := fun j => V.heap.size ≤ j) ⟨hb9.os, hb9.tape, hb9.output, hb9.size, fun k _ hk => hb9.block k (by omega)⟩ (fun j hj e => by have := (HL.out j (by simp only [List.mem_cons, List.mem_nil_iff, or_false] at hj ⊢; omega)).2; omega)))
        clear HJ8 hi9 hb9
        gi_wp2
        exact ⟨.inr (.inl ⟨by go_num, HJ9⟩), by simp [intOf]⟩
      · have y3 := HJ.out.1.e2
        gi_wp2_with fail
        refine ⟨trivial, (callsIn_wide.2 (parse3 _)).mono ?_⟩
        rintro e V5 ⟨Ak, ck, rfl, hb5⟩
        have hb6 := hb5.alloc hb5.size (.cells (evC 2 0 ⟨#[]⟩ 5 (.slice Ak 0 ck)) 24)
        have HJ6 := Lib.hid (And.intro (HJ.out.1.below hb6) (HJ.out.2.below hb6))
        clear y3 HJ hb5 hb6
        gi_wp2_with fail
        refine ⟨trivial, (callsIn_wide.2 (do_tick HJ6.out.2 (by omega) (by omega) (fun U hU => hT.keep (hU.below HJ6.out.1.b (Nat.le_refl _) (fun j _ e => by
          have h1 := (HL.out x (by simp)).1
          have h2 := (HL.out s (by simp)).1
          have h3 := (HL.out d (by simp)).1
          have h4 := (HL.out m (by simp)).1
          have h5 := (HL.out l (by simp)).1
          rcases e with e | e | e | e | e <;> omega))))).mono ?_⟩
        rintro e V7 ⟨rfl, hK⟩
        have HJ7 := Lib.hid (HJ6.out.1.keep hK (fun j e => by
          have h1 := HL.out x (by simp)
          have h2 := HL.out s (by simp)
          have h3 := HL.out d (by simp)
          have h4 := HL.out m (by simp)
          have h5 := HL.out l (by simp)
          rcases e with e | e | e | e | e <;> (subst e; assumption)))
        clear HJ6 hK
        gi_wp2_with fail
        refine ⟨trivial, (callsIn_wide.2 (text_scr V7 (s := sTM) (by decide) (by decide) (by decide))).mono ?_⟩
        rintro e V8 ⟨rfl, hb8⟩
        have HJ8 := Lib.hid (HJ7.out.below hb8)
        clear HJ7 hb8
        gi_wp2_with fail
        refine ⟨trivial, (callsIn_wide.2 (bwrite V.heap.size V.heap.size sP1.data.toList sP2 V8 HJ8.out.isb (by decide) (Nat.le_of_lt HJ8.out.sz))).mono ?_⟩
        rintro e V9 ⟨rfl, hi9, hb9⟩
        have HJ9 := Lib.hid (HJ8.out.wrote (l' := sP1.data.toList ++ sP2.data.toList) hb9 hi9)
        clear HJ8 hi9 hb9
        gi_wp2
        exact ⟨.inr (.inr ⟨by go_num, HJ9⟩), by simp [intOf]⟩
      · gi_wp2_with fail
        refine ⟨trivial, (callsIn_wide.2 (bstring V.heap.size V.heap.size _ wr HJ.out.isb (by simp))).mono ?_⟩
        rintro e V5 ⟨rfl, hb5⟩
        have ho := HJ.out.o
        have r1 := HJ.out.r1.below hb5 (by omega)
        have r2 := HJ.out.r2.below hb5 (by omega)
        have r3 := HJ.out.r3.below hb5 (by omega)
        have x1 := r1.cells
        have x2 := r2.cells
        have x3 := r3.cells
        have f1 := r1.free
        have f2 := r2.free
        have f3 := r3.free
        have hd5 : V5.heap[V3.heap.size]? = some (.deferred (some [])) := (hb5.block _ (by omega)).trans HJ.out.d
        have q1 := ((r1.put 0 (.string sOUT)).other (p := ⟨W.heap.size + 1 + 1, 0, none⟩) (by show W.heap.size + 1 ≠ W.heap.size + 1 + 1; omega) (.int .i64 0)).other (p := ⟨W.heap.size + 1 + 1 + 1, 0, none⟩) (by show W.heap.size + 1 ≠ W.heap.size + 1 + 1 + 1; omega) (.int .i64 0)
        have q2 := ((r2.other (p := ⟨W.heap.size + 1, 0, none⟩) (by show W.heap.size + 1 + 1 ≠ W.heap.size + 1; omega) (.string sOUT)).put 0 (.int .i64 0)).other (p := ⟨W.heap.size + 1 + 1 + 1, 0, none⟩) (by show W.heap.size + 1 + 1 ≠ W.heap.size + 1 + 1 + 1; omega) (.int .i64 0)
        have q3 := ((r3.other (p := ⟨W.heap.size + 1, 0, none⟩) (by show W.heap.size + 1 + 1 + 1 ≠ W.heap.size + 1; omega) (.string sOUT)).other (p := ⟨W.heap.size + 1 + 1, 0, none⟩) (by show W.heap.size + 1 + 1 + 1 ≠ W.heap.size + 1 + 1; omega) (.int .i64 0)).put 0 (.int .i64 0)
        have hd9 := (Below.heap_setCell _ ⟨W.heap.size + 1 + 1 + 1, 0, none⟩ (.int .i64 0) V3.heap.size (by show V3.heap.size ≠ W.heap.size + 1 + 1 + 1; omega)).trans ((Below.heap_setCell _ ⟨W.heap.size + 1 + 1, 0, none⟩ (.int .i64 0) V3.heap.size (by show V3.heap.size ≠ W.heap.size + 1 + 1; omega)).trans ((Below.heap_setCell V5 ⟨W.heap.size + 1, 0, none⟩ (.string sOUT) V3.heap.size (by show V3.heap.size ≠ W.heap.size + 1; omega)).trans hd5))
        have hB9 := (((HJ.out.b.trans (hb5.mono (by omega))).setCell (p := ⟨W.heap.size + 1, 0, none⟩) (by show W.heap.size ≤ W.heap.size + 1; omega) (.string sOUT)).setCell (p := ⟨W.heap.size + 1 + 1, 0, none⟩) (by show W.heap.size ≤ W.heap.size + 1 + 1; omega) (.int .i64 0)).setCell (p := ⟨W.heap.size + 1 + 1 + 1, 0, none⟩) (by show W.heap.size ≤ W.heap.size + 1 + 1 + 1; omega) (.int .i64 0)
        have hKD := kp_putObj (S := fun b => b = V3.heap.size) (((V5.setCell ⟨W.heap.size + 1, 0, none⟩ (.string sOUT)).setCell ⟨W.heap.size + 1 + 1, 0, none⟩ (.int .i64 0)).setCell ⟨W.heap.size + 1 + 1 + 1, 0, none⟩ (.int .i64 0)) (.deferred none) rfl
        have k1 := hKD.bx q1 (by omega)
        have k2 := hKD.bx q2 (by omega)
        have k3 := hKD.bx q3 (by omega)
        have kb := hKD.below hB9 (Nat.le_refl _) (fun b _ e => by omega)
        clear q1 q2 q3 hB9 hKD
        gi_wp2
        refine ⟨by simp, .inl ⟨_, _, rfl, run_takeDeferred hd9, ?_⟩⟩
        exact ⟨_, ret_run rfl k1 k2 k3 rfl rfl rfl, rfl, kb⟩
end Go.Proofs.YtggomjfllbljeaaGreatDoor
namespace Go.Proofs.YtggomjfllbljeaaGreatDoor
set_option linter.unusedVariables false
open Go Go.RowKit
abbrev sCr : ByteArray := ⟨#[99, 114, 97, 115, 104, 32, 48, 49, 49, 32, 51]⟩
theorem parse_cr : parseF sCr = some ⟨3, 0, ⟨#[]⟩, 3, [false, true, true]⟩ := by decide +kernel
theorem print_t5 : printF textF ⟨2, 0, ⟨#[]⟩, 5, []⟩ = some sL3 := by decide +kernel
set_option maxRecDepth 100000 in
set_option maxHeartbeats 8000000 in
theorem awake24_any {W : World} (h10 : Tab10 W) (h12 : Tab12 W) : Calls Tryz.prog 4 #[] W fun e W' => e = .returned (.bool true) ∧ Below W.heap.size W W' := by
  go_enter Tryz.func4, Tryz.ntmps4
  go_wp2_with fail
  refine (parse_any sCr (by decide) W).mono ?_
  rintro e V1 h1
  rw [parse_cr] at h1
  obtain ⟨A, c, rfl, ho, hb1⟩ := h1
  have b1 := Bx.new V1 (evC 3 0 ⟨#[]⟩ 3 (.slice A 3 c)) 24
  have hs1 : Sl V1 W.heap.size V1.heap.size tBool A 3 [false, true, true] := ho.sl
  have hB := hb1.alloc hb1.size (.cells (evC 3 0 ⟨#[]⟩ 3 (.slice A 3 c)) 24)
  have HI := Lib.hid (And.intro b1 (And.intro (hs1.alloc (Nat.le_refl _) (.cells (evC 3 0 ⟨#[]⟩ 3 (.slice A 3 c)) 24)) hB))
  have hz1 := hs1.len
  clear b1 hs1 hB hb1 ho
  go_upto_region 2 with fail
  refine wp_world (fun V => Bx V V1.heap.size (evC 3 0 ⟨#[]⟩ 3 (.slice A 3 c)) 24 ∧ Sl V W.heap.size V1.heap.size tBool A 3 [false, true, true] ∧ Below W.heap.size W V) HI.out ?_
  clear HI
  rintro V2 ⟨b1, hs1, hb2⟩
  go_wp2_with fail
  refine (print_any ⟨2, 0, ⟨#[]⟩, 5, []⟩ (W := V2) (lo := 0) (hi := 0) (A := none) (m := 0) (c := 0) (Sl.nil_ none) (Nat.zero_le _) (by omega) ⟨by decide, by decide⟩ ⟨by decide, by decide⟩ (by decide) (h10.keep hb2)).mono ?_
  rintro e V3 h3
  rw [print_t5] at h3
  obtain ⟨rfl, hb3⟩ := h3
  have b3 := b1.below hb3 b1.lt
  have hs3 := hs1.below hb3 (Nat.le_of_lt b1.lt)
  have hb4 := hb2.trans (hb3.mono hb2.size)
  clear b1 hs1 hb2 hb3
  have q1 := Bx.new V3 cfC 40
  have HI := Lib.hid (And.intro (b3.alloc (.cells cfC 40)) (And.intro (hs3.alloc (Nat.le_of_lt b3.lt) (.cells cfC 40)) (And.intro (hb4.alloc hb4.size (.cells cfC 40)) q1)))
  have z3 := b3.lt
  clear b3 hs3 hb4 q1
  go_upto_region 4 with fail
  refine wp_world (fun V => Bx V V1.heap.size (evC 3 0 ⟨#[]⟩ 3 (.slice A 3 c)) 24 ∧ Sl V W.heap.size V1.heap.size tBool A 3 [false, true, true] ∧ Below W.heap.size W V ∧ Bx V V3.heap.size cfC 40) HI.out ?_
  clear HI
  rintro V4 ⟨b4, hs4, hb4, bc⟩
  have x4 := bc.cells
  go_wp2_with fail
  refine (run_24 (h12.keep hb4)).mono ?_
  rintro e V5 ⟨rfl, hb5⟩
  have b5 := b4.below hb5 b4.lt
  have hs5 := hs4.below hb5 (Nat.le_of_lt b4.lt)
  have HB := Lib.hid (hb4.trans (hb5.mono hb4.size))
  obtain ⟨ga, oa, rfl, _, _, hc⟩ := hs5.cells (by omega)
  have e2 : V5.cell? ⟨ga, oa + 2, none⟩ = some (.bool true) := by have := hc 2 true rfl 0 (.bool true) rfl; simpa [tBool] using this
  have x5 := b5.cells
  clear b4 hs4 hb4 bc x4 hb5 hs5 hc
  go_wp2
  go_ret
  exact ⟨by first | rfl | (simp; done), HB.out⟩
end Go.Proofs.YtggomjfllbljeaaGreatDoor
