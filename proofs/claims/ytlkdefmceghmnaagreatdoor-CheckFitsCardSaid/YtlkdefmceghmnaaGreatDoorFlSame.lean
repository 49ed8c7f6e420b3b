/- Same: two flights are alike: the document's. -/
import Derived.Test.YtlkdefmceghmnaaGreatDoorFlEq
namespace Go.Proofs.YtlkdefmceghmnaaGreatDoor
set_option linter.unusedVariables false
open Go Go.RowKit Go.Sort
def clsI (l m : List Cls) (i : Nat) : Bool := decide (l[i]? = m[i]?)
/-- All but the classes. -/
def headB (a b : Flt) : Bool := decide ((⟨a.car, a.num⟩ : Key) = ⟨b.car, b.num⟩) && (eqTx a.frm b.frm && (eqTx a.to_ b.to_ && (decide (a.days = b.days) && (decide (a.dep = b.dep) && (decide (a.arr = b.arr) && decide (a.pln = b.pln))))))
theorem same_eq (a b : Flt) {n m : Nat} (hn : a.cls.length = n) (hm : b.cls.length = m) : decide (a = b) = (headB a b && (decide (n = m) && allP (clsI a.cls b.cls) n)) := by
  have h1 : (decide (n = m) && allP (clsI a.cls b.cls) n) = decide (a.cls = b.cls) := by
    subst hn hm
    by_cases h : a.cls.length = b.cls.length
    · rw [decide_eq_true h, Bool.true_and]
      cases e : allP (clsI a.cls b.cls) a.cls.length with
      | true =>
        symm
        refine decide_eq_true (List.ext_getElem? fun i => ?_)
        by_cases hi : i < a.cls.length
        · have := allP_at (k := i) _ hi e
          simpa [clsI] using this
        · rw [List.getElem?_eq_none (by omega), List.getElem?_eq_none (by omega)]
      | false =>
        symm
        refine decide_eq_false fun e2 => ?_
        rw [e2] at e
        have : ∀ k, allP (clsI b.cls b.cls) k = true := fun k => by
          induction k with
          | zero => rfl
          | succ k ih => exact allP_step ih (by simp [clsI])
        rw [this] at e; cases e
    · rw [decide_eq_false h, Bool.false_and]
      exact (decide_eq_false fun e => h (by rw [e])).symm
  rw [h1]
  unfold headB eqTx
  obtain ⟨a0, a1, a2, a3, a4, a5, a6, a7, a8⟩ := a
  obtain ⟨b0, b1, b2, b3, b4, b5, b6, b7, b8⟩ := b
  rw [Bool.eq_iff_iff]
  simp
  constructor
  · rintro ⟨h0, h1, h2, h3, h4, h5, h6, h7, h8⟩
    exact ⟨⟨⟨h0, h1⟩, h2, h3, h4, h5, h6, h8⟩, h7⟩
  · rintro ⟨⟨⟨h0, h1⟩, h2, h3, h4, h5, h6, h8⟩, h7⟩
    exact ⟨h0, h1, h2, h3, h4, h5, h6, h7, h8⟩
/-- Two flights' boxes. -/
structure FB2 (w : World) (r s : FlR) (W : World) : Prop where
  x : Bx W w.heap.size #[.string r.f.car, .int .i64 r.f.num, .string r.f.frm, .string r.f.to_, .int .u8 r.f.days, .int .i64 r.f.dep, .int .i64 r.f.arr, .slice r.A r.n r.c, .int .i64 r.f.pln] 55
  y : Bx W (w.heap.size + 1) #[.string s.f.car, .int .i64 s.f.num, .string s.f.frm, .string s.f.to_, .int .u8 s.f.days, .int .i64 s.f.dep, .int .i64 s.f.arr, .slice s.A s.n s.c, .int .i64 s.f.pln] 55
  B : Below w.heap.size w W
section
variable {w W W1 : World} {r s : FlR}
theorem FB2.start (w : World) (r s : FlR) : FB2 w r s ((w.alloc (.cells #[.string r.f.car, .int .i64 r.f.num, .string r.f.frm, .string r.f.to_, .int .u8 r.f.days, .int .i64 r.f.dep, .int .i64 r.f.arr, .slice r.A r.n r.c, .int .i64 r.f.pln] 55)).alloc (.cells #[.string s.f.car, .int .i64 s.f.num, .string s.f.frm, .string s.f.to_, .int .u8 s.f.days, .int .i64 s.f.dep, .int .i64 s.f.arr, .slice s.A s.n s.c, .int .i64 s.f.pln] 55)) :=
  ⟨(two_boxes w _ _ _ _).1, (two_boxes w _ _ _ _).2.1, (two_boxes w _ _ _ _).2.2.below⟩
theorem FB2.step (h : FB2 w r s W) (hb : Below W.heap.size W W1) : FB2 w r s W1 := ⟨h.x.below hb h.x.lt, h.y.below hb h.y.lt, h.B.trans (hb.mono h.B.size)⟩
theorem FB2.drewN (h : FB2 w r s W) (n : Nat) : FB2 w r s (W.drewN n) := ⟨h.x.drewN n, h.y.drewN n, below_drewN h.B n⟩
end
end Go.Proofs.YtlkdefmceghmnaaGreatDoor
