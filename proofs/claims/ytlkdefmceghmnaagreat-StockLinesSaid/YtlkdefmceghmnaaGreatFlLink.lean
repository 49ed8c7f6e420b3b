/- Links in memory: pairs of flights that are collected; the plain law of their order. -/
import Derived.Test.YtlkdefmceghmnaaGreatFlBet
import Derived.Test.YtlkdefmceghmnaaGreatFlPar0
namespace Go.Proofs.YtlkdefmceghmnaaGreat
set_option linter.unusedVariables false
open Go Go.RowKit Go.Sort
/-- Pairs that a call hands back. -/
structure OwnP (w : World) (B : Nat) (v : Value) (l : List Par) : Prop where
  own : Own w B 133 tPar v l
  cl : ∀ r ∈ flatP l, ClOwn w 93 B r
  apt : Apt (flatP l)
  off : ∀ r ∈ flatP l, ∀ k, v.ownBlock = some k → r.blk ≠ some k
section
variable {w W V V' : World} {B : Nat} {v v' : Value} {l : List Par}
theorem OwnP.nil_ (w : World) (B : Nat) : OwnP w B (.slice none 0 0) [] := ⟨Own.nil_ _ _ _ _, by simp [flatP], List.Pairwise.nil, by simp [flatP]⟩
theorem OwnP.keep (h : OwnP w B v l) (hb : Below w.heap.size w W) : OwnP W B v l := ⟨h.own.keep hb, fun r hr => Own.keep (h.cl r hr) hb, h.apt, h.off⟩
theorem OwnP.push {x : Par} (h : OwnP W B v l) (hk : Below W.heap.size W V) (h1 : ClOwn V 93 W.heap.size x.1) (h2 : ClOwn V 93 W.heap.size x.2) (hne : ∀ k, x.1.blk = some k → x.2.blk ≠ some k) (hB : B ≤ W.heap.size)
    (ho : Own V' B 133 tPar v' (l ++ [x])) (hg : V.grownBy V' v.ownBlock) (hv : v'.ownBlock = v.ownBlock ∨ ∀ k, v'.ownBlock = some k → V.heap.size ≤ k) : OwnP V' B v' (l ++ [x]) := by
  have hV := h.keep hk
  have hnew : ∀ r, r = x.1 ∨ r = x.2 → ClOwn V 93 W.heap.size r := fun r hr => by rcases hr with rfl | rfl <;> assumption
  have hfl : flatP (l ++ [x]) = flatP l ++ [x.1, x.2] := by rw [flatP_append]; rfl
  refine ⟨ho, fun r hr => ?_, ?_, fun r hr k hk' => ?_⟩
  · rw [hfl] at hr
    rcases List.mem_append.1 hr with h3 | h3
    · exact Own.kept (hV.cl r h3) hg fun k hk2 hv2 => h.off r h3 k hv2 hk2
    · refine Own.kept (Own.more (hnew r (by simpa using h3)) hB) hg fun k hk2 hv2 => ?_
      have := (h.own.lt k hv2).2
      have := ((hnew r (by simpa using h3)).lt k hk2).1
      omega
  · rw [hfl]
    refine List.pairwise_append.2 ⟨h.apt, ?_, fun r hr t ht k h3 h4 => ?_⟩
    · refine List.pairwise_cons.2 ⟨fun t ht => ?_, List.pairwise_singleton _ _⟩
      rw [List.mem_singleton.1 ht]
      exact hne
    · have := ((h.cl r hr).lt k h3).2
      have := ((hnew t (by simpa using ht)).lt k h4).1
      omega
  · rw [hfl] at hr
    rcases hv with hv | hv
    · rw [hv] at hk'
      rcases List.mem_append.1 hr with h3 | h3
      · exact h.off r h3 k hk'
      · intro e
        have := (h.own.lt k hk').2
        have := ((hnew r (by simpa using h3)).lt k e).1
        omega
    · have hk' := hv k hk'
      intro e
      rcases List.mem_append.1 hr with h3 | h3
      · have := ((h.cl r h3).lt k e).2
        have := hk.size
        omega
      · have := ((hnew r (by simpa using h3)).lt k e).2
        omega
end
/-- Pairs that are collected. -/
structure Colp (w : World) (l : List Par) (v : Value) (W : World) : Prop where
  out : ∃ out, OwnP W w.heap.size v out ∧ out.map parF = l.map parF
  B : Below w.heap.size w W
theorem Colp.zero (w : World) : Colp w [] (.slice none 0 0) w := ⟨⟨[], OwnP.nil_ _ _, rfl⟩, Below.refl _ _⟩
theorem Colp.step {w W W1 : World} {l : List Par} {v : Value} (h : Colp w l v W) (hb : Below W.heap.size W W1) : Colp w l v W1 := by
  obtain ⟨out, h1, h2⟩ := h.out
  exact ⟨⟨out, h1.keep hb, h2⟩, h.B.trans (hb.mono h.B.size)⟩
/-- The first flight of a link; the second one. -/
def cA (d : Int) (fr : ByteArray) (a : Flt) : Bool := onB a d && (eqTx a.frm fr && decide (a.dep ≤ a.arr))
def cB (d : Int) (to_ : ByteArray) (a b : Flt) : Bool := onB b d && (eqTx b.frm a.to_ && (eqTx b.to_ to_ && decide (a.arr + 45 ≤ b.dep)))
/-- The pairs as they are collected. -/
def rowP (rl : List FlR) (d : Int) (to_ : ByteArray) (a : FlR) : List Par := (rl.filter fun b => cB d to_ a.f b.f).map fun b => (a, b)
def allP2 (rl l : List FlR) (d : Int) (fr to_ : ByteArray) : List Par := l.flatMap fun a => if cA d fr a.f then rowP rl d to_ a else []
theorem allP2_snoc (rl l : List FlR) (d : Int) (fr to_ : ByteArray) (a : FlR) : allP2 rl (l ++ [a]) d fr to_ = allP2 rl l d fr to_ ++ if cA d fr a.f then rowP rl d to_ a else [] := by simp [allP2]
theorem rowP_len (rl : List FlR) (d : Int) (to_ : ByteArray) (a : FlR) : (rowP rl d to_ a).length ≤ rl.length := by
  unfold rowP
  rw [List.length_map]
  exact List.length_filter_le _ _
theorem allP2_len (rl : List FlR) (d : Int) (fr to_ : ByteArray) : ∀ l : List FlR, (allP2 rl l d fr to_).length ≤ l.length * rl.length
  | [] => by simp [allP2]
  | a :: l => by
    have ih := allP2_len rl d fr to_ l
    have h1 := rowP_len rl d to_ a
    unfold allP2 at ih ⊢
    have h2 : (if cA d fr a.f = true then rowP rl d to_ a else []).length ≤ rl.length := by
      by_cases h : cA d fr a.f = true
      · rw [if_pos h]; exact h1
      · rw [if_neg h]; exact Nat.zero_le _
    rw [List.flatMap_cons, List.length_append, List.length_cons, Nat.add_mul, Nat.one_mul]
    exact Nat.le_trans (Nat.add_le_add h2 ih) (by rw [Nat.add_comm]; exact Nat.le_refl _)
theorem flatMap_filter {α β : Type} (p : α → Bool) (g : α → List β) : ∀ l : List α, (l.filter p).flatMap g = l.flatMap fun x => if p x then g x else []
  | [] => rfl
  | a :: l => by
    rw [List.filter_cons, List.flatMap_cons]
    by_cases h : p a = true
    · rw [if_pos h, if_pos h, List.flatMap_cons, flatMap_filter p g l]
    · rw [if_neg h, if_neg h, flatMap_filter p g l]; rfl
theorem allP2_f (rl : List FlR) (d : Int) (fr to_ : ByteArray) : (allP2 rl rl d fr to_).map parF = prL (rl.map (·.f)) d fr to_ := by
  unfold prL pairsF
  rw [flatMap_filter, List.flatMap_map]
  unfold allP2
  rw [List.map_flatMap]
  congr 1
  funext a
  unfold cA
  cases h0 : onB a.f d with
  | false => rfl
  | true =>
    rw [Bool.true_and, if_pos rfl, List.filter_filter]
    by_cases h1 : (eqTx a.f.frm fr && decide (a.f.dep ≤ a.f.arr)) = true
    · rw [if_pos h1]
      unfold rowP
      rw [List.map_map, List.filter_map, List.map_map]
      simp only [Bool.and_eq_true, decide_eq_true_eq] at h1
      have : (fun b : FlR => cB d to_ a.f b.f) = ((fun b : Flt => linkB fr to_ a.f b && onB b d) ∘ fun r : FlR => r.f) := by
        funext b
        show cB d to_ a.f b.f = _
        unfold cB linkB
        have e1 : decide (a.f.frm = fr) = true := h1.1
        have e2 : eqTx b.f.frm a.f.to_ = decide (a.f.to_ = b.f.frm) := by unfold eqTx; rw [Bool.eq_iff_iff]; simp [eq_comm]
        have e3 : decide (a.f.dep ≤ a.f.arr) = true := by simpa using h1.2
        have e4 : decide (a.f.arr + 45 ≤ b.f.dep) = decide (45 ≤ b.f.dep - a.f.arr) := by rw [Bool.eq_iff_iff]; simp; omega
        simp only [Function.comp, e1, e2, e3, e4, Bool.true_and]
        unfold eqTx
        cases onB b.f d <;> simp
      rw [this]
      rfl
    · rw [if_neg h1, List.filter_eq_nil_iff.2]
      · rfl
      · intro b _ hb
        apply h1
        simp only [Bool.and_eq_true] at hb ⊢
        obtain ⟨hb, _⟩ := hb
        unfold linkB at hb
        simp only [Bool.and_eq_true, decide_eq_true_eq] at hb
        exact ⟨decide_eq_true hb.1, decide_eq_true hb.2.2.2.1⟩
end Go.Proofs.YtlkdefmceghmnaaGreat
