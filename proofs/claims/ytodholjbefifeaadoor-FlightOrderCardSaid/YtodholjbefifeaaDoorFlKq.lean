/- What lies beside the classes that the law's Same writes over; the rows of a list of pairs. -/
import Derived.Test.YtodholjbefifeaaDoorFlLawS
import Derived.Test.YtodholjbefifeaaDoorFlPar
namespace Go.Proofs.YtodholjbefifeaaDoor
set_option linter.unusedVariables false
open Go Go.RowKit Go.Sort
theorem Kq.trans {S S' : Nat → Prop} {W W1 W2 : World} (h : Kq S W W1) (h2 : Kq S' W1 W2) (hS : ∀ b, S' b → S b) : Kq S W W2 :=
  ⟨h2.os.trans h.os, h2.tape.trans h.tape, h2.output.trans h.output, Nat.le_trans h.size h2.size, fun k hk hn => (h2.block k (Nat.lt_of_lt_of_le hk h.size) fun e => hn (hS k e)).trans (h.block k hk hn)⟩
theorem RowW.kq {S : Nat → Prop} {w W : World} {B X : Nat} {r : FlR} (h : RowW w B X r) (hK : Kq S w W) (hX : X ≤ w.heap.size) (hS : ∀ g, r.blk = some g → ¬ S g) : RowW W B X r :=
  ⟨Sl.keepA h.cl fun b o j _ hbA _ hbX => hK.cell (by omega) (hS b (FlR.blk_eq hbA)), fun hpos => by
    obtain ⟨g, h1, h2, h3, h4⟩ := h.wr hpos
    have hng := hS g (FlR.blk_eq h1)
    exact ⟨g, h1, h2, h3, h4.keep (fun j => hK.cell (by omega) hng) (fun j => hK.frozen (by omega) hng)⟩⟩
theorem flatP_get {x y : FlR} : ∀ {l : List Par} {k : Nat}, l[k]? = some (x, y) → (flatP l)[2 * k]? = some x ∧ (flatP l)[2 * k + 1]? = some y
  | [], k, h => by cases k <;> cases h
  | p :: l, 0, h => by
    injection h with h
    subst h
    exact ⟨rfl, rfl⟩
  | p :: l, k + 1, h => by
    have ih := flatP_get (l := l) (k := k) h
    have e : flatP (p :: l) = p.1 :: p.2 :: flatP l := by simp [flatP]
    rw [e, show 2 * (k + 1) = 2 * k + 1 + 1 from by omega]
    exact ih
theorem Tch.two {l : List Par} {x y : FlR} {k b : Nat} (hx : l[k]? = some (x, y)) (h : Tch [x, y] 2 b) : Tch (flatP l) (2 * (k + 1)) b := by
  obtain ⟨h1, h2⟩ := flatP_get hx
  obtain ⟨i, r, hi, hr, hn, hb⟩ := h
  rcases i with _ | _ | i
  · injection hr with hr
    subst hr
    exact ⟨2 * k, x, by omega, h1, hn, hb⟩
  · injection hr with hr
    subst hr
    exact ⟨2 * k + 1, y, by omega, h2, hn, hb⟩
  · omega
theorem Tch.le {al : List FlR} {k m b : Nat} (h : Tch al k b) (hm : k ≤ m) : Tch al m b := by
  obtain ⟨i, r, h1, h2⟩ := h
  exact ⟨i, r, by omega, h2⟩
theorem par_apt {l : List Par} {x y : FlR} {k : Nat} (h : Apt (flatP l)) (hx : l[k]? = some (x, y)) : Apt [x, y] := by
  obtain ⟨h1, h2⟩ := flatP_get hx
  obtain ⟨i1, e1⟩ := List.getElem?_eq_some_iff.1 h1
  obtain ⟨i2, e2⟩ := List.getElem?_eq_some_iff.1 h2
  have := List.pairwise_iff_getElem.1 h (2 * k) (2 * k + 1) i1 i2 (by omega)
  rw [e1, e2] at this
  refine List.pairwise_cons.2 ⟨fun t ht => ?_, List.pairwise_singleton _ _⟩
  rw [List.mem_singleton.1 ht]
  exact this
theorem par_mem {l : List Par} {x y : FlR} {k : Nat} (hx : l[k]? = some (x, y)) : x ∈ flatP l ∧ y ∈ flatP l := ⟨List.mem_of_getElem? (flatP_get hx).1, List.mem_of_getElem? (flatP_get hx).2⟩
/-- The k-th pair, told of by the law's Same: it is that of the other list. -/
theorem same_par {got want : List Par} {A A' : Option Addr} {n c n' c' k : Nat} {b o b' o' : Nat} {x y x' y' : FlR} {V w5 W : World} {B : Nat} {E' : TypeId} (ho : OwnP V B (.slice A n c) got) (hb : Below V.heap.size V w5)
    (hw : Own w5 V.heap.size E' tPar (.slice A' n' c') want) (hwc : ∀ r ∈ flatP want, ClAt w5 0 B r) (hK : Kq (Tch (flatP got) (2 * k)) w5 W) (hBV : B ≤ V.heap.size)
    (hA : A = some ⟨b, o, none⟩) (hA' : A' = some ⟨b', o', none⟩) (hk : k < n) (hk' : k < n') (hx : got[k]? = some (x, y)) (hx' : want[k]? = some (x', y')) (heq : parF (x, y) = parF (x', y'))
    (hsm : ∀ r ∈ flatP got, r.n ≤ 100000) :
    Calls Tryd.prog 18 #[.slice (some ⟨b, o + k * 18, none⟩) 2 2, .slice (some ⟨b', o' + k * 18, none⟩) 2 2] W fun e w' => e = .returned (.bool true) ∧ Kq (Tch (flatP got) (2 * (k + 1))) w5 w' := by
  have hrw5 : ∀ r ∈ flatP got, RowW w5 B V.heap.size r := fun r hr => (ClOwn.roww (ho.cl r hr) (Nat.le_refl _)).below hb (Nat.le_refl _)
  have hin : ∀ g, Tch (flatP got) (2 * k) g → B ≤ g ∧ g < V.heap.size := fun g h => Tch.in_ hrw5 h
  obtain ⟨mx, my⟩ := par_mem hx
  obtain ⟨mx', my'⟩ := par_mem hx'
  obtain ⟨g1, g2⟩ := flatP_get hx
  have z5 := hb.size
  have z6 := hK.size
  have hx2 : ∀ r ∈ [x, y], RowW W B V.heap.size r := fun r hr => by
    rcases List.mem_cons.1 hr with rfl | hr
    · exact (hrw5 _ mx).kq hK z5 fun g hg => Tch.apt ho.apt g1 hg
    · rw [List.mem_singleton.1 hr]
      exact (hrw5 _ my).kq hK z5 fun g hg h => Tch.apt ho.apt g2 hg (h.le (by omega))
  have hgot : Sl W B V.heap.size tPar A n got := Sl.keepA (ho.own.sl.below hb (Nat.le_refl _)) fun b1 o1 j hn hbA _ hbX => hK.cell (by omega) fun h => by
    obtain ⟨i, r, _, hr, _, hrb⟩ := h
    exact ho.off r (List.mem_of_getElem? hr) b1 (by subst hbA; rfl) hrb
  have hwant : Sl W V.heap.size w5.heap.size tPar A' n' want := Sl.keepA hw.sl fun b1 o1 j hn hbA hlo hbX => hK.cell hbX fun h => by have := hin _ h; omega
  have hwx : ∀ r ∈ [x', y'], ClAt W 0 B r := fun r hr => by
    have hm : r ∈ flatP want := by
      rcases List.mem_cons.1 hr with rfl | hr
      · exact mx'
      · rw [List.mem_singleton.1 hr]; exact my'
    exact Sl.keepA (hwc r hm) fun b1 o1 j _ _ _ hbX => hK.cell (by omega) fun h => by have := hin _ h; omega
  have hl := hgot.two hk hA hx
  have hl' := hwant.two hk' hA' hx'
  have hsm1 : ∀ r ∈ [x, y], r.n ≤ 100000 := fun r hr => by
    rcases List.mem_cons.1 hr with rfl | hr
    · exact hsm _ mx
    · rw [List.mem_singleton.1 hr]; exact hsm _ my
  have e1 : x.f = x'.f := congrArg Prod.fst heq
  have e2 : y.f = y'.f := congrArg Prod.snd heq
  have hsm2 : ∀ r ∈ [x', y'], r.n ≤ 100000 := fun r hr => by
    rcases List.mem_cons.1 hr with rfl | hr
    · have h1 := (hl.wf x (by simp)).len
      have h2 := (hl'.wf r (by simp)).len
      rw [e1, h2] at h1
      rw [h1]
      exact hsm _ mx
    · rw [List.mem_singleton.1 hr]
      have h1 := (hl.wf y (by simp)).len
      have h2 := (hl'.wf y' (by simp)).len
      rw [e2, h2] at h1
      rw [h1]
      exact hsm _ my
  refine (same_kq [x, y] [x', y'] _ _ 2 2 2 2 W B V.heap.size B V.heap.size V.heap.size w5.heap.size 0 B hl hl' hwx (.inr (Nat.le_refl _)) (.inl (Nat.le_refl _)) hx2 ?_ (par_apt ho.apt hx) (by omega) (by omega) hsm1 hsm2 (by omega) z6 (by omega) (by omega) (by omega)).mono ?_
  · intro r hr a ha
    injection ha with ha
    subst ha
    have hm : r ∈ flatP got := by
      rcases List.mem_cons.1 hr with rfl | hr
      · exact mx
      · rw [List.mem_singleton.1 hr]; exact my
    exact ho.off r hm b (by subst hA; rfl)
  · rintro e w' ⟨h1, h2⟩
    rw [decide_eq_true (show [x, y].map (·.f) = [x', y'].map (·.f) by simp [e1, e2])] at h1
    exact ⟨h1, (hK.mono fun g h => h.le (by omega)).trans h2 fun g h => Tch.two hx h⟩
end Go.Proofs.YtodholjbefifeaaDoor
