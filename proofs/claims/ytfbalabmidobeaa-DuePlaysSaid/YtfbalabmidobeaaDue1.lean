/- Package due: things in a heap; their order; the row's methods Len, Less, Swap. -/
import Derived.Test.YtfbalabmidobeaaCmp
import Derived.Test.YtfbalabmidobeaaMp
import Derived.Deep.RegionHeld3
import Derived.Deep.QuietTactic
import Derived.BigQuiet
import Derived.BigRegion
import Derived.StillTailTactics
import Derived.Sort.Grow
namespace Go.Proofs.Ytfbalabmidobeaa
set_option linter.unusedVariables false
open Go Go.RowKit Go.Sort
/-- A thing, and the block in which it lies. -/
structure Nd where
  blk : Nat
  it : It
instance : Inhabited Nd := ⟨⟨0, ⟨⟨#[]⟩, 0⟩⟩⟩
/-- Blocks beside S lie as they lay. -/
structure Kp (S : Nat → Prop) (W W' : World) : Prop where
  os : W'.os = W.os
  tape : W'.tape = W.tape
  output : W'.output = W.output
  size : W.heap.size ≤ W'.heap.size
  block : ∀ k, k < W.heap.size → ¬ S k → W'.heap[k]? = W.heap[k]?
section
variable {S S' : Nat → Prop} {W W1 W2 : World} {B : Nat} {a : World}
theorem Kp.refl (S : Nat → Prop) (W : World) : Kp S W W := ⟨rfl, rfl, rfl, Nat.le_refl _, fun _ _ _ => rfl⟩
theorem Kp.of (h : Below W.heap.size W W1) : Kp S W W1 := ⟨h.os, h.tape, h.output, h.size, fun k hk _ => h.block k hk⟩
theorem Kp.trans (h : Kp S W W1) (h2 : Kp S' W1 W2) (hS : ∀ b, b < W.heap.size → S' b → S b) : Kp S W W2 :=
  ⟨h2.os.trans h.os, h2.tape.trans h.tape, h2.output.trans h.output, Nat.le_trans h.size h2.size, fun k hk hn => (h2.block k (Nat.lt_of_lt_of_le hk h.size) fun e => hn (hS k hk e)).trans (h.block k hk hn)⟩
theorem Kp.mono (h : Kp S W W1) (hS : ∀ b, S b → S' b) : Kp S' W W1 := ⟨h.os, h.tape, h.output, h.size, fun k hk hn => h.block k hk fun e => hn (hS k e)⟩
theorem Kp.below (h : Kp S W W1) (hb : Below B a W) (h0 : B ≤ a.heap.size) (hB : ∀ b, b < W.heap.size → S b → B ≤ b) : Below B a W1 :=
  hb.trans ⟨h.os, h.tape, h.output, by have := hb.size; have := h.size; omega, fun k hk => h.block k (by have := hb.size; omega) fun e => by have := hB k (by have := hb.size; omega) e; omega⟩
theorem Kp.bx (h : Kp S W W1) {b : Nat} {cs : Array Value} {t : TypeId} (hx : Bx W b cs t) (hn : ¬ S b) : Bx W1 b cs t := (h.block b hx.lt hn).trans hx
theorem Kp.set (h : Kp S W W1) {p : Addr} (hp : S p.block) (u : Value) : Kp S W (W1.setCell p u) :=
  ⟨h.os, h.tape, h.output, by simpa using h.size, fun k hk hn => (Below.heap_setCell W1 p u k (fun e => hn (by rw [e]; exact hp))).trans (h.block k hk hn)⟩
theorem Kp.grown {row : Option Nat} (h : Kp S W W1) (hg : W1.grownBy W2 row) (hr : ∀ k, row = some k → S k) : Kp S W W2 :=
  ⟨hg.os.trans h.os, hg.tape.trans h.tape, hg.output.trans h.output, Nat.le_trans h.size hg.size, fun k hk hn => (hg.block k (Nat.lt_of_lt_of_le hk h.size) fun e => hn (hr k e.symm)).trans (h.block k hk hn)⟩
theorem Kp.drew (h : Kp S W W1) : Kp S W W1.drew := ⟨h.os, h.tape, h.output, h.size, h.block⟩
theorem Kp.drewN (h : Kp S W W1) (n : Nat) : Kp S W (W1.drewN n) := ⟨h.os, h.tape, h.output, h.size, h.block⟩
theorem Kp.alloc (h : Kp S W W1) (o : Obj) : Kp S W (W1.alloc o) := h.trans (S' := S) (Kp.of ((Below.refl _ _).alloc (Nat.le_refl _) o)) fun _ _ e => e
end
/-- The heap's items as they lie: the header's block D, the array's R, each item in a block of its own. -/
structure HR (W : World) (D : Nat) (m : Value) (R c n : Nat) (f : Nat → Nd) : Prop where
  d : Bx W D #[.slice (some ⟨R, 0, none⟩) n c, m] 55
  r : ∃ cs, Bx W R cs 56 ∧ cs.size = c ∧ ∀ i, i < n → cs[i]? = some (.pointer (some ⟨(f i).blk, 0, none⟩))
  it : ∀ i, i < n → Bx W (f i).blk #[.string (f i).it.name, .int .i64 (f i).it.mom, .int .i64 i] 61
  inj : ∀ i j, i < n → j < n → (f i).blk = (f j).blk → i = j
  dr : D ≠ R
  ne : ∀ i, i < n → (f i).blk ≠ D ∧ (f i).blk ≠ R
  nc : n ≤ c
  cm : c ≤ maxLen
/-- The blocks of the array and of the items. -/
def HS (R n : Nat) (f : Nat → Nd) : Nat → Prop := fun b => b = R ∨ ∃ i, i < n ∧ (f i).blk = b
section
variable {W W1 : World} {D R c n : Nat} {m : Value} {f : Nat → Nd}
theorem HR.cell (h : HR W D m R c n f) {i : Nat} (hi : i < n) : W.cell? ⟨R, i, none⟩ = some (.pointer (some ⟨(f i).blk, 0, none⟩)) := by
  obtain ⟨cs, hx, _, hc⟩ := h.r
  rw [hx.cells i, hc i hi]
theorem HR.free (h : HR W D m R c n f) (i : Nat) : W.frozen? ⟨R, i, none⟩ = false := by
  obtain ⟨cs, hx, _, _⟩ := h.r
  exact hx.free i
theorem HR.below {B : Nat} (h : HR W D m R c n f) (hb : Below B W W1) (hD : D < B) (hR : R < B) (hI : ∀ i, i < n → (f i).blk < B) : HR W1 D m R c n f := by
  obtain ⟨cs, hx, h1, h2⟩ := h.r
  exact ⟨h.d.below hb hD, ⟨cs, hx.below hb hR, h1, h2⟩, fun i hi => (h.it i hi).below hb (hI i hi), h.inj, h.dr, h.ne, h.nc, h.cm⟩
theorem HR.step (h : HR W D m R c n f) (hb : Below W.heap.size W W1) : HR W1 D m R c n f := by
  obtain ⟨cs, hx, h1, h2⟩ := h.r
  exact h.below hb h.d.lt hx.lt fun i hi => (h.it i hi).lt
theorem HR.same (h : HR W D m R c n f) (e : W1.heap = W.heap) : HR W1 D m R c n f := by
  obtain ⟨cs, hx, h1, h2⟩ := h.r
  have k : ∀ (b : Nat) (cs : Array Value) (t : TypeId), Bx W b cs t → Bx W1 b cs t := fun b cs t hx => by unfold Bx; rw [e]; exact hx
  exact ⟨k _ _ _ h.d, ⟨cs, k _ _ _ hx, h1, h2⟩, fun i hi => k _ _ _ (h.it i hi), h.inj, h.dr, h.ne, h.nc, h.cm⟩
theorem HR.swap (h : HR W D m R c n f) {i j : Nat} (hi : i < n) (hj : j < n) (hij : i ≠ j) :
    HR ((((W.setCell ⟨R, i, none⟩ (.pointer (some ⟨(f j).blk, 0, none⟩))).setCell ⟨R, j, none⟩ (.pointer (some ⟨(f i).blk, 0, none⟩))).setCell ⟨(f j).blk, 2, none⟩ (.int .i64 i)).setCell ⟨(f i).blk, 2, none⟩ (.int .i64 j)) D m R c n (swapF f i j) := by
  obtain ⟨cs, hx, h1, h2⟩ := h.r
  have nij : (f i).blk ≠ (f j).blk := fun e => hij (h.inj i j hi hj e)
  have ni := h.ne i hi
  have nj := h.ne j hj
  refine ⟨(((h.d.other (p := ⟨R, i, none⟩) h.dr _).other (p := ⟨R, j, none⟩) h.dr _).other (p := ⟨(f j).blk, 2, none⟩) nj.1.symm _).other (p := ⟨(f i).blk, 2, none⟩) ni.1.symm _, ⟨_, (((hx.put i _).put j _).other (p := ⟨(f j).blk, 2, none⟩) nj.2.symm _).other (p := ⟨(f i).blk, 2, none⟩) ni.2.symm _, by simp [h1], ?_⟩, ?_, ?_, h.dr, ?_, h.nc, h.cm⟩
  · intro k hk
    have hkc : k < cs.size := by have := h.nc; omega
    rw [Array.getElem?_setIfInBounds, Array.getElem?_setIfInBounds]
    simp only [Array.size_setIfInBounds]
    by_cases e1 : j = k
    · subst e1
      rw [if_pos rfl, if_pos hkc, swapF_j]
    · rw [if_neg e1]
      by_cases e2 : i = k
      · subst e2
        rw [if_pos rfl, if_pos hkc, swapF_i]
      · rw [if_neg e2, swapF_o f i j (Ne.symm e2) (Ne.symm e1)]
        exact h2 k hk
  · intro k hk
    by_cases e1 : k = j
    · subst e1
      rw [swapF_j]
      have q := (((h.it i hi).other (p := ⟨R, i, none⟩) ni.2 (.pointer (some ⟨(f k).blk, 0, none⟩))).other (p := ⟨R, k, none⟩) ni.2 (.pointer (some ⟨(f i).blk, 0, none⟩))).other (p := ⟨(f k).blk, 2, none⟩) nij (.int .i64 i)
      exact q.put 2 (.int .i64 k)
    · by_cases e2 : k = i
      · subst e2
        rw [swapF_i]
        have q := (((h.it j hj).other (p := ⟨R, k, none⟩) nj.2 (.pointer (some ⟨(f j).blk, 0, none⟩))).other (p := ⟨R, j, none⟩) nj.2 (.pointer (some ⟨(f k).blk, 0, none⟩))).put 2 (.int .i64 k)
        exact q.other (p := ⟨(f k).blk, 2, none⟩) nij.symm _
      · rw [swapF_o f i j e2 e1]
        have nk := h.ne k hk
        exact ((((h.it k hk).other (p := ⟨R, i, none⟩) nk.2 _).other (p := ⟨R, j, none⟩) nk.2 _).other (p := ⟨(f j).blk, 2, none⟩) (fun e => e1 (h.inj k j hk hj e)) _).other (p := ⟨(f i).blk, 2, none⟩) (fun e => e2 (h.inj k i hk hi e)) _
  · have hs : ∀ k, k < n → ∃ k', k' < n ∧ swapF f i j k = f k' ∧ (k = i → k' = j) ∧ (k = j → k' = i) ∧ (k ≠ i → k ≠ j → k' = k) := fun k hk => by
      by_cases e2 : k = i
      · subst e2; exact ⟨j, hj, swapF_i f k j, fun _ => rfl, fun e => absurd e hij, fun e => absurd rfl e⟩
      · by_cases e1 : k = j
        · subst e1; exact ⟨i, hi, swapF_j f i k, fun e => absurd e e2, fun _ => rfl, fun _ e => absurd rfl e⟩
        · exact ⟨k, hk, swapF_o f i j e2 e1, fun e => absurd e e2, fun e => absurd e e1, fun _ _ => rfl⟩
    intro x y hx' hy' e
    obtain ⟨x', hx1, ex, a1, a2, a3⟩ := hs x hx'
    obtain ⟨y', hy1, ey, b1, b2, b3⟩ := hs y hy'
    rw [ex, ey] at e
    have e3 := h.inj x' y' hx1 hy1 e
    by_cases c1 : x = i <;> by_cases c2 : x = j <;> by_cases c3 : y = i <;> by_cases c4 : y = j <;> simp_all
  · intro k hk
    by_cases e2 : k = i
    · rw [e2, swapF_i]; exact nj
    · by_cases e1 : k = j
      · rw [e1, swapF_j]; exact ni
      · rw [swapF_o f i j e2 e1]; exact h.ne k hk
end
theorem row_len (A : Option Addr) (n c : Nat) (w : World) : Calls Try.prog 69 #[.slice A n c] w fun e w' => e = .returned (.int .i64 n) ∧ w = w' := by
  go_enter Try.func69, Try.ntmps69
  go_wp2
  go_ret
  exact ⟨rfl, rfl⟩
theorem or_cmpI (x y : It) : orF [cmpN x.mom y.mom, cmpS x.name y.name] = cmpI x y := by
  unfold orF cmpI
  split
  · rfl
  · unfold orF
    split
    · rfl
    · rename_i h
      show 0 = _
      exact (Classical.not_not.1 h).symm
set_option maxRecDepth 100000 in
theorem order_any (a b : Nat) (x y : It) (ka kb : Int) (w : World) (ha : Bx w a #[.string x.name, .int .i64 x.mom, .int .i64 ka] 61) (hb : Bx w b #[.string y.name, .int .i64 y.mom, .int .i64 kb] 61) :
    Calls Try.prog 26 #[.pointer (some ⟨a, 0, none⟩), .pointer (some ⟨b, 0, none⟩)] w fun e w' => e = .returned (.int .i64 (cmpI x y)) ∧ ∃ q os, w' = grow (w.drewN q) os := by
  have c1 := ha.cells
  have c2 := hb.cells
  go_enter Try.func26, Try.ntmps26
  go_wp2_with fail
  have z1 := ha.lt
  have z2 := hb.lt
  go_region_held3 (fun w' => (∀ i : Nat, w'.cell? ⟨a, i, none⟩ = (#[.string x.name, .int .i64 x.mom, .int .i64 ka] : Array Value)[i]?) ∧ (∀ i : Nat, w'.cell? ⟨b, i, none⟩ = (#[.string y.name, .int .i64 y.mom, .int .i64 kb] : Array Value)[i]?)) (refine ⟨?_, ?_⟩ <;> (repeat (first | (with_reducible assumption) | (with_reducible exact boxed_new _ _ _) | (with_reducible refine boxed_drew ?_) | (with_reducible refine boxed_drewN ?_ _) | (with_reducible refine boxed_alloc ?_ (by first | (simp; done) | omega | (simp; omega)) _) | (with_reducible refine boxed_set ?_ _ (by first | (simp; done) | omega | (simp; omega)) _))))
    (first
      | (go_at_call 32; refine (compare_int _ _ _).mono ?_; rintro e w' ⟨rfl, rfl⟩)
      | (go_at_call 33; refine (compare_str _ _ _).mono ?_; rintro e w' ⟨rfl, rfl⟩)
      | (go_at_call 31; refine (or2 _ _ _ _ (boxed_drew (boxed_new _ _ _))).mono ?_; rintro e w' ⟨rfl, rfl⟩))
  go_wp2
  go_ret
  exact ⟨ret_int (or_cmpI x y), 1, _, by rw [alloc_eq_grow]; rfl⟩
theorem grown_below {w w' : World} (h : ∃ q os, w' = grow (w.drewN q) os) : Below w.heap.size w w' := by
  obtain ⟨q, os, rfl⟩ := h
  exact ⟨rfl, rfl, rfl, by simp [grow], fun k hk => by
    show (w.heap ++ os)[k]? = _
    rw [Array.getElem?_append_left hk]⟩
set_option maxRecDepth 100000 in
theorem row_less {W : World} {D R c n : Nat} {m : Value} {f : Nat → Nd} (h : HR W D m R c n f) {i j : Nat} (hi : i < n) (hj : j < n) (hn : n ≤ 1000000) :
    Calls Try.prog 70 #[.slice (some ⟨R, 0, none⟩) n c, .int .i64 i, .int .i64 j] W fun e w' => e = .returned (.bool (ltI (f i).it (f j).it)) ∧ Below W.heap.size W w' := by
  have k1 := h.cell hi
  have k2 := h.cell hj
  have HI := Lib.hid (h.it i hi)
  have HJ := Lib.hid (h.it j hj)
  have hl := Lib.hid (cmpI_lt (f i).it (f j).it)
  have zR : R < W.heap.size := by obtain ⟨cs, hx, _⟩ := h.r; exact hx.lt
  clear h
  generalize f i = x at k1 HI hl ⊢
  generalize f j = y at k2 HJ hl ⊢
  have i1 : (0 : Int) ≤ i := by omega
  have i2 : (i : Int) < n := by omega
  have j1 : (0 : Int) ≤ j := by omega
  have j2 : (j : Int) < n := by omega
  go_enter Try.func70, Try.ntmps70
  go_wp2_with fail
  go_region_held3 (fun w' => w'.cell? ⟨R, i, none⟩ = some (.pointer (some ⟨x.blk, 0, none⟩)) ∧ w'.cell? ⟨R, j, none⟩ = some (.pointer (some ⟨y.blk, 0, none⟩))) (first | (with_reducible exact ⟨q1, q2⟩) | (exact ⟨k1, k2⟩))
    (first | (go_at_call 26; refine (order_any x.blk y.blk x.it y.it _ _ W.drew HI.out HJ.out).mono ?_; rintro e w' ⟨rfl, hg⟩; have hw := ((Below.refl _ _).drew).trans (grown_below hg); have q1 := (hw.cell (p := ⟨R, i, none⟩) zR).trans k1; have q2 := (hw.cell (p := ⟨R, j, none⟩) zR).trans k2))
  go_wp2
  go_ret
  exact ⟨ret_bool hl.out, hw⟩
set_option maxRecDepth 100000 in
theorem row_swap {W : World} {D R c n : Nat} {m : Value} {f : Nat → Nd} (h : HR W D m R c n f) {i j : Nat} (hi : i < n) (hj : j < n) (hij : i ≠ j) (hn : n ≤ 1000000) :
    Calls Try.prog 71 #[.slice (some ⟨R, 0, none⟩) n c, .int .i64 i, .int .i64 j] W fun e w' => e = .returned (.tuple #[]) ∧ HR w' D m R c n (swapF f i j) ∧ Kp (HS R n f) W w' := by
  have k1 := h.cell hi
  have k2 := h.cell hj
  have f1 := h.free i
  have f2 := h.free j
  have HH := Lib.hid h
  have i1 : (0 : Int) ≤ i := by omega
  have i2 : (i : Int) < n := by omega
  have j1 : (0 : Int) ≤ j := by omega
  have j2 : (j : Int) < n := by omega
  clear h
  go_enter Try.func71, Try.ntmps71
  go_wp2
  go_region
  all_goals
    have h2 := HH.out
    have nij : (f i).blk ≠ (f j).blk := fun e => hij (h2.inj i j hi hj e)
    have ni := h2.ne i hi
    have nj := h2.ne j hj
    have bi := ((h2.it i hi).other (p := ⟨R, i, none⟩) ni.2 (.pointer (some ⟨(f j).blk, 0, none⟩))).other (p := ⟨R, j, none⟩) ni.2 (.pointer (some ⟨(f i).blk, 0, none⟩))
    have bj := ((h2.it j hj).other (p := ⟨R, i, none⟩) nj.2 (.pointer (some ⟨(f j).blk, 0, none⟩))).other (p := ⟨R, j, none⟩) nj.2 (.pointer (some ⟨(f i).blk, 0, none⟩))
    have hr : ∃ cs, Bx ((W.setCell ⟨R, i, none⟩ (.pointer (some ⟨(f j).blk, 0, none⟩))).setCell ⟨R, j, none⟩ (.pointer (some ⟨(f i).blk, 0, none⟩))) R cs 56 ∧ cs[i]? = some (.pointer (some ⟨(f j).blk, 0, none⟩)) ∧ cs[j]? = some (.pointer (some ⟨(f i).blk, 0, none⟩)) := by
      obtain ⟨cs, hx, h3, h4⟩ := h2.r
      have hnc := h2.nc
      refine ⟨_, (hx.put i _).put j _, ?_, ?_⟩
      · rw [Array.getElem?_setIfInBounds, if_neg (Ne.symm hij), Array.getElem?_setIfInBounds, if_pos rfl, if_pos (by omega)]
      · rw [Array.getElem?_setIfInBounds, if_pos rfl, if_pos (by simp; omega)]
    have HE := Lib.hid (h2.swap hi hj hij)
    have KE := Lib.hid ((((Kp.refl (HS R n f) W).set (p := ⟨R, i, none⟩) (.inl rfl) (.pointer (some ⟨(f j).blk, 0, none⟩))).set (p := ⟨R, j, none⟩) (.inl rfl) (.pointer (some ⟨(f i).blk, 0, none⟩))))
    clear k1 k2 f1 f2
    generalize ((W.setCell ⟨R, i, none⟩ (.pointer (some ⟨(f j).blk, 0, none⟩))).setCell ⟨R, j, none⟩ (.pointer (some ⟨(f i).blk, 0, none⟩))) = V at bi bj hr HE KE ⊢
    obtain ⟨cs, hr, h3, h4⟩ := hr
    have k1 : V.drew.cell? ⟨R, i, none⟩ = some (.pointer (some ⟨(f j).blk, 0, none⟩)) := (hr.cells i).trans h3
    have k2 : V.drew.cell? ⟨R, j, none⟩ = some (.pointer (some ⟨(f i).blk, 0, none⟩)) := (hr.cells j).trans h4
    have c3 : V.drew.cell? ⟨(f i).blk, 2, none⟩ = some (.int .i64 i) := (bi.cells 2)
    have c4 : V.drew.cell? ⟨(f j).blk, 2, none⟩ = some (.int .i64 j) := (bj.cells 2)
    have f3 : V.drew.frozen? ⟨(f i).blk, 2, none⟩ = false := bi.free 2
    have f4 : V.drew.frozen? ⟨(f j).blk, 2, none⟩ = false := bj.free 2
    clear bi bj hr h3 h4 h2 ni nj HH
    generalize hV : V.drew = V2 at k1 k2 c3 c4 f3 f4 ⊢
    replace hV := Lib.hid hV
    go_wp2
    go_region
    all_goals
      go_end0
      have KV : Kp (HS R n f) W V2 := by rw [← hV.out]; exact KE.out.drew
      exact ⟨rfl, HE.out.same (by rw [← hV.out]; rfl), ((KV.set (p := ⟨(f j).blk, 2, none⟩) (.inr ⟨j, hj, rfl⟩) _).set (p := ⟨(f i).blk, 2, none⟩) (.inr ⟨i, hi, rfl⟩) _).drew⟩
end Go.Proofs.Ytfbalabmidobeaa
