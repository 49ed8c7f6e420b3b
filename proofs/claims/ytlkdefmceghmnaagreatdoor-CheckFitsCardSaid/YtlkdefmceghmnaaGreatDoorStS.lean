/- A stock in memory: what is sold of it; put, Sell, Cancel, Sold, Left. -/
import Derived.Test.YtlkdefmceghmnaaGreatDoorStG
import Derived.Test.YtlkdefmceghmnaaGreatDoorMFlTab
import Derived.Test.YtlkdefmceghmnaaGreatDoorQuietB
import Derived.StillTailTactics
namespace Go.Proofs.YtlkdefmceghmnaaGreatDoor
set_option linter.unusedVariables false
open Go Go.RowKit Go.Sort
open Go.WideMaps (KeyLaw)
/-- The map's values are what is sold; no cell without any. -/
structure GQ (g : Value → Option Value) (q : Cel → Int) : Prop where
  at_ : ∀ c : Cel, c.ok → g (cellV c) = if q c = 0 then none else some (.int .i64 (q c))
  dom : ∀ v u, g v = some u → ∃ c : Cel, c.ok ∧ v = cellV c
noncomputable def updQ (q : Cel → Int) (c : Cel) (n : Int) : Cel → Int := fun d => by classical exact if d = c then n else q d
theorem updQ_same (q : Cel → Int) (c : Cel) (n : Int) : updQ q c n c = n := by simp [updQ]
theorem updQ_other (q : Cel → Int) (c : Cel) (n : Int) {d : Cel} (h : d ≠ c) : updQ q c n d = q d := by simp [updQ, h]
theorem GQ.none_ : GQ (fun _ => none) (fun _ => 0) := ⟨fun c _ => by simp, fun v u h => by cases h⟩
theorem GQ.put {g : Value → Option Value} {q : Cel → Int} (h : GQ g q) {c : Cel} (hc : c.ok) {n : Int} (hn : n ≠ 0) : GQ (updK g (cellV c) (some (.int .i64 n))) (updQ q c n) := by
  refine ⟨fun d hd => ?_, fun v u hv => ?_⟩
  · by_cases e : d = c
    · subst e
      rw [updK_same, updQ_same, if_neg hn]
    · rw [updK_other _ _ _ (fun h2 => e (cellV_inj h2)), updQ_other _ _ _ e]
      exact h.at_ d hd
  · by_cases e : v = cellV c
    · exact ⟨c, hc, e⟩
    · rw [updK_other _ _ _ e] at hv
      exact h.dom v u hv
theorem GQ.del {g : Value → Option Value} {q : Cel → Int} (h : GQ g q) {c : Cel} : GQ (updK g (cellV c) none) (updQ q c 0) := by
  refine ⟨fun d hd => ?_, fun v u hv => ?_⟩
  · by_cases e : d = c
    · subst e
      rw [updK_same, updQ_same, if_pos rfl]
    · rw [updK_other _ _ _ (fun h2 => e (cellV_inj h2)), updQ_other _ _ _ e]
      exact h.at_ d hd
  · by_cases e : v = cellV c
    · rw [e, updK_same] at hv; cases hv
    · rw [updK_other _ _ _ e] at hv
      exact h.dom v u hv
/-- Block b alone may have turned among the old ones. -/
structure Kb (b : Nat) (W W' : World) : Prop where
  os : W'.os = W.os
  tape : W'.tape = W.tape
  output : W'.output = W.output
  size : W.heap.size ≤ W'.heap.size
  block : ∀ k, k < W.heap.size → k ≠ b → W'.heap[k]? = W.heap[k]?
section
variable {b : Nat} {W W1 W2 : World}
theorem Kb.refl (b : Nat) (W : World) : Kb b W W := ⟨rfl, rfl, rfl, Nat.le_refl _, fun _ _ _ => rfl⟩
theorem Kb.of_below (h : Below W.heap.size W W1) : Kb b W W1 := ⟨h.os, h.tape, h.output, h.size, fun k hk _ => h.block k hk⟩
theorem Kb.trans (h : Kb b W W1) (h2 : Kb b W1 W2) : Kb b W W2 :=
  ⟨h2.os.trans h.os, h2.tape.trans h.tape, h2.output.trans h.output, Nat.le_trans h.size h2.size, fun k hk hn => (h2.block k (Nat.lt_of_lt_of_le hk h.size) hn).trans (h.block k hk hn)⟩
theorem Kb.wr (h : Kb b W W1) (hw : Wr b W1 W2) : Kb b W W2 := by
  refine h.trans ⟨?_, ?_, ?_, Nat.le_of_eq hw.size.symm, fun k _ hn => hw.block hn⟩
  · obtain ⟨o, rfl⟩ := hw; rfl
  · obtain ⟨o, rfl⟩ := hw; rfl
  · obtain ⟨o, rfl⟩ := hw; rfl
theorem Kb.below {B : Nat} {a : World} (h : Kb b W W1) (ha : Below B a W) (hB : B ≤ b) (hW : B ≤ W.heap.size) : Below B a W1 :=
  ha.trans ⟨h.os, h.tape, h.output, h.size, fun k hk => h.block k (by omega) (by omega)⟩
end
section
variable {W W' : World} {lo hi t p b : Nat} {rs : List FlR} {q : Cel → Int}
end
/-- What is sold is few. -/
def QB (q : Cel → Int) : Prop := ∀ c, 0 ≤ q c ∧ q c ≤ 400
theorem QB.upd {q : Cel → Int} (h : QB q) (c : Cel) {n : Int} (h0 : 0 ≤ n) (h1 : n ≤ 400) : QB (updQ q c n) := fun d => by
  by_cases e : d = c
  · rw [e, updQ_same]; exact ⟨h0, h1⟩
  · rw [updQ_other _ _ _ e]; exact h d
theorem updQ_self (q : Cel → Int) (c : Cel) : updQ q c (q c) = q := by
  funext d
  by_cases e : d = c
  · rw [e, updQ_same]
  · rw [updQ_other _ _ _ e]
theorem tlevel_is {rs : List FlR} {t lo : Nat} {g : Leg} {cl l1 l2 : Int} {W : World} (hlv : levelF (rs.map (·.f)) g cl = (l1, l2)) (ht : TB W lo t rs) (hg : g.ok) :
    Calls Tryz.prog 22 #[.pointer (some ⟨t, 0, none⟩), .agg #[.string g.key.car, .int .i64 g.key.num, .int .i64 g.day], .int .u8 cl] W fun e w' => e = .returned (.tuple #[.int .i64 l1, .int .i64 l2]) ∧ Below W.heap.size W w' := by
  have h := tlevel_any rs t lo g cl W ht hg
  rw [hlv] at h
  exact h
/-- What Sell answers, and how many are sold then; Cancel. -/
def sellF (lv : Int × Int) (z n : Int) : Int × Int := if n < 1 ∨ n > 9 then (1, z) else if lv.2 ≠ 0 then (lv.2, z) else if z + n > lv.1 then (13, z) else (0, z + n)
def cancF (lv : Int × Int) (z n : Int) : Int × Int := if n < 1 ∨ n > 9 then (1, z) else if lv.2 ≠ 0 then (lv.2, z) else if z < n then (7, z) else (0, z - n)
theorem sellF_is {lv : Int × Int} {z n : Int} : (n < 1 ∨ n > 9 → sellF lv z n = (1, z)) ∧ (1 ≤ n → n ≤ 9 → lv.2 ≠ 0 → sellF lv z n = (lv.2, z)) ∧ (1 ≤ n → n ≤ 9 → lv.2 = 0 → z + n > lv.1 → sellF lv z n = (13, z)) ∧ (1 ≤ n → n ≤ 9 → lv.2 = 0 → ¬ z + n > lv.1 → sellF lv z n = (0, z + n)) := by
  unfold sellF
  refine ⟨fun h => if_pos h, fun h1 h2 h3 => ?_, fun h1 h2 h3 h4 => ?_, fun h1 h2 h3 h4 => ?_⟩
  · rw [if_neg (by omega), if_pos h3]
  · rw [if_neg (by omega), if_neg (by omega), if_pos h4]
  · rw [if_neg (by omega), if_neg (by omega), if_neg h4]
theorem cancF_is {lv : Int × Int} {z n : Int} : (n < 1 ∨ n > 9 → cancF lv z n = (1, z)) ∧ (1 ≤ n → n ≤ 9 → lv.2 ≠ 0 → cancF lv z n = (lv.2, z)) ∧ (1 ≤ n → n ≤ 9 → lv.2 = 0 → z < n → cancF lv z n = (7, z)) ∧ (1 ≤ n → n ≤ 9 → lv.2 = 0 → ¬ z < n → cancF lv z n = (0, z - n)) := by
  unfold cancF
  refine ⟨fun h => if_pos h, fun h1 h2 h3 => ?_, fun h1 h2 h3 h4 => ?_, fun h1 h2 h3 h4 => ?_⟩
  · rw [if_neg (by omega), if_pos h3]
  · rw [if_neg (by omega), if_neg (by omega), if_pos h4]
  · rw [if_neg (by omega), if_neg (by omega), if_neg h4]
/-- delete, in a region that draws its order. -/
theorem step_del {P : Program} {ops : Array Oper} {o : Oper} {a : Act} {K : Act → World → Prop} {Q : Exit → Act → World → Prop} {E : Prop} {W W' : World} {t t2 : TypeId} {mv xv v : Value} (hgd : o.guard = none) (m x : Operand)
    (ho : o.op = .call { callee := .builtin .delete, args := #[m, x], argTypes := #[t, t2] }) (hm : a.eval m = mv) (hx : a.eval x = xv) (hrun : (Builtin.delete_ #[t, t2] o.type #[mv, xv]).run P W = .ok v W') (h : K (a.put o.dst v) W') :
    if Region.wanted o (yielded ops a.tmps) = true then Oper.wp P o a W K Q else E := by
  have hw : Region.wanted o (yielded ops a.tmps) = true := by simp [Region.wanted, hgd]
  rw [if_pos hw]
  unfold Oper.wp
  simp only [execOp, ho, resolve, invoke, builtin, Sem.run_bind, Sem.run_pure, Result.andThen_ok, List.map_toArray, List.map_cons, List.map_nil, hm, hx, hrun]
  exact h
end Go.Proofs.YtlkdefmceghmnaaGreatDoor
