/- Package due: the row's methods Push and Pop; heap.Push and heap.Remove over it. -/
import Derived.Test.YtfbalabmidobeaaDue2
import Derived.Test.YtfbalabmidobeaaGen
namespace Go.Proofs.Ytfbalabmidobeaa
set_option linter.unusedVariables false
open Go Go.RowKit Go.Sort
/-- A pointer to a thing. -/
def tPt : Ty Nat := ⟨fun b => [.pointer (some ⟨b, 0, none⟩)], 1, fun _ => True, fun _ => rfl, fun x u h => by simp at h; subst h; rfl, by omega⟩
theorem sl_row : SlT Try.prog 53 56 1 := SlT.mk' (z := .pointer none) (b := 8) (by kernel_rfl) (by kernel_rfl) (by omega) rfl
def blks (n : Nat) (f : Nat → Nd) : List Nat := (List.range n).map fun i => (f i).blk
theorem blks_len (n : Nat) (f : Nat → Nd) : (blks n f).length = n := by simp [blks]
theorem blks_at {n i : Nat} (f : Nat → Nd) (h : i < n) : (blks n f)[i]? = some (f i).blk := by
  unfold blks
  rw [List.getElem?_map, List.getElem?_range h]
  rfl
theorem enc_at (l : List Nat) (i : Nat) : (l.flatMap tPt.enc)[i]? = (l[i]?).map fun b => .pointer (some ⟨b, 0, none⟩) := by
  have : l.flatMap tPt.enc = l.map fun b => Value.pointer (some ⟨b, 0, none⟩) := by
    induction l with
    | nil => rfl
    | cons x t ih => rw [List.flatMap_cons, ih]; rfl
  rw [this, List.getElem?_map]
theorem HR.own {W : World} {D R c n : Nat} {m : Value} {f : Nat → Nd} (h : HR W D m R c n f) : Own W R 56 tPt (.slice (some ⟨R, 0, none⟩) n c) (blks n f) := by
  obtain ⟨cs, hx, h1, h2⟩ := h.r
  refine Own.ofRow hx (Nat.le_refl _) (blks_len n f) h.nc h.cm (by rw [h1]; exact (Nat.mul_one c).symm) (fun _ _ => trivial) ?_
  refine List.ext_getElem? fun i => ?_
  rw [enc_at, List.getElem?_take]
  show (if i < n * 1 then _ else _) = _
  rw [Nat.mul_one]
  split
  · rename_i hi
    rw [blks_at f hi, Array.getElem?_toList, h2 i hi]
    rfl
  · rename_i hi
    rw [List.getElem?_eq_none (by rw [blks_len]; omega)]
    rfl
theorem own_row {W : World} {B n : Nat} {v : Value} {f : Nat → Nd} (h : Own W B 56 tPt v (blks n f)) (hn : 0 < n) :
    ∃ R c cs, v = .slice (some ⟨R, 0, none⟩) n c ∧ B ≤ R ∧ n ≤ c ∧ c ≤ maxLen ∧ Bx W R cs 56 ∧ cs.size = c ∧ ∀ i, i < n → cs[i]? = some (.pointer (some ⟨(f i).blk, 0, none⟩)) := by
  obtain ⟨A, c, rfl⟩ := h.form
  rw [blks_len] at h
  cases A with
  | none =>
    rcases h.row.2 with ⟨_, h1⟩ | ⟨g, cap, cur, h1, _⟩
    · rw [blks_len] at h1; omega
    · cases h1
  | some a =>
    obtain ⟨g, cur, rfl, _, h2, h3, h4, h5, h6, h7⟩ := h.open_
    refine ⟨g, c, cur, by rw [blks_len], h2, h3, h4, h5, by rw [h6]; exact Nat.mul_one c, fun i hi => ?_⟩
    have h8 := congrArg (fun l : List Value => l[i]?) h7
    simp only [enc_at, blks_at f hi, List.getElem?_take] at h8
    rw [if_pos (show i < n * tPt.sz by show i < n * 1; omega)] at h8
    rw [← Array.getElem?_toList]
    exact h8
/-- One thing more, at the end. -/
def addF (n : Nat) (f : Nat → Nd) (x : Nd) : Nat → Nd := fun k => if k = n then x else f k
theorem addF_n (n : Nat) (f : Nat → Nd) (x : Nd) : addF n f x n = x := by simp [addF]
theorem addF_o {n k : Nat} (f : Nat → Nd) (x : Nd) (h : k < n) : addF n f x k = f k := by unfold addF; rw [if_neg (by omega)]
theorem blks_add (n : Nat) (f : Nat → Nd) (x : Nd) : blks (n + 1) (addF n f x) = blks n f ++ [x.blk] := by
  unfold blks
  rw [List.range_succ, List.map_append]
  congr 1
  · exact List.map_congr_left fun i hi => by rw [addF_o f x (List.mem_range.1 hi)]
  · simp [addF_n]
/-- The things as they lie, ahead of a push: the row may be nil. -/
structure HO (W : World) (D : Nat) (m rv : Value) (n : Nat) (f : Nat → Nd) : Prop where
  d : Bx W D #[rv, m] 55
  own : Own W 0 56 tPt rv (blks n f)
  it : ∀ i, i < n → Bx W (f i).blk #[.string (f i).it.name, .int .i64 (f i).it.mom, .int .i64 i] 61
  inj : ∀ i j, i < n → j < n → (f i).blk = (f j).blk → i = j
  dr : rv.ownBlock ≠ some D
  ne : ∀ i, i < n → (f i).blk ≠ D ∧ rv.ownBlock ≠ some (f i).blk
theorem HR.ho {W : World} {D R c n : Nat} {m : Value} {f : Nat → Nd} (h : HR W D m R c n f) : HO W D m (.slice (some ⟨R, 0, none⟩) n c) n f :=
  ⟨h.d, h.own.more (Nat.zero_le _), h.it, h.inj, fun e => h.dr (by simpa [Value.ownBlock] using e.symm), fun i hi => ⟨(h.ne i hi).1, fun e => (h.ne i hi).2 (by simpa [Value.ownBlock] using e.symm)⟩⟩
theorem HO.nil_ {W : World} {D : Nat} {m : Value} {f : Nat → Nd} (h : Bx W D #[.slice none 0 0, m] 55) : HO W D m (.slice none 0 0) 0 f :=
  ⟨h, Own.nil_ W 0 _ tPt, fun i hi => by omega, fun i j hi => by omega, by simp [Value.ownBlock], fun i hi => by omega⟩
/-- What Push turns. -/
def PuS (D b : Nat) (rv : Value) : Nat → Prop := fun k => k = D ∨ k = b ∨ rv.ownBlock = some k
set_option maxRecDepth 100000 in
theorem row_push {W : World} {D n b : Nat} {m rv : Value} {f : Nat → Nd} {x : It} {a0 : Int} (h : HO W D m rv n f) (hb : Bx W b #[.string x.name, .int .i64 x.mom, .int .i64 a0] 61)
    (hbD : b ≠ D) (hbR : rv.ownBlock ≠ some b) (hbf : ∀ i, i < n → (f i).blk ≠ b) (hn : n ≤ 100000) :
    Calls Try.prog 73 #[.pointer (some ⟨D, 0, none⟩), .iface 56 (.pointer (some ⟨b, 0, none⟩))] W fun e w' => e = .returned (.tuple #[]) ∧ ∃ R c, HR w' D m R c (n + 1) (addF n f ⟨b, x⟩) ∧ (rv.ownBlock = some R ∨ W.heap.size ≤ R) ∧ Kp (PuS D b rv) W w' := by
  have HH := Lib.hid h
  have HB := Lib.hid hb
  have c1 := h.d.cells
  have c2 := hb.cells
  have f2 := hb.free
  obtain ⟨A, c, hv⟩ := h.own.form
  rw [blks_len] at hv
  subst hv
  have O1 := Lib.hid (h.own.setOther (p := ⟨b, 2, none⟩) hbR (.int .i64 n))
  have D1 := Lib.hid (h.d.other (p := ⟨b, 2, none⟩) (Ne.symm hbD) (.int .i64 n))
  have hlen := blks_len n f
  have hn0 : (0 : Int) ≤ n := by omega
  have zD := h.d.lt
  have zb := hb.lt
  have hn2 : (blks n f).length < 2147483640 := by omega
  clear h hb hlen
  have ht : ∀ (a : Addr) (w : World), (Instr.typeAssert (.iface 56 (.pointer (some a))) 20 56 false).run Try.prog w = .ok (.pointer (some a)) w := fun _ _ => by kernel_rfl
  have hd2 : b ≠ D := hbD
  go_enter Try.func73, Try.ntmps73
  go_wp2_with (at_builtin; (refine push_told rfl (.tmp 17) (.tmp 19) rfl sl_row rfl O1.out b trivial #[.pointer (some ⟨b, 0, none⟩)] rfl (by simp [Act.eval]) (Nat.zero_le _) hn2 ?_); intro v' w1 ho hg hor; rw [show blks n f ++ [b] = blks (n + 1) (addF n f ⟨b, x⟩) from (blks_add n f ⟨b, x⟩).symm] at ho; obtain ⟨R', c', cs, rfl, _, h4, h5, h6, h7, h8⟩ := own_row ho (by omega); have D2 := Lib.hid (D1.out.grown hg HH.out.dr); have c5 := D2.out.cells; have f5 := D2.out.free; replace h4 := Lib.hid h4; replace h5 := Lib.hid h5; replace h6 := Lib.hid h6; replace h7 := Lib.hid h7; replace h8 := Lib.hid h8; replace hg := Lib.hid hg; replace hor := Lib.hid hor; clear ho)
  have HG : Hid ((W.setCell ⟨b, 2, none⟩ (.int .i64 n)).grownBy w1 (Value.slice A n c).ownBlock) := hg
  have HOR : Hid ((Value.slice (some ⟨R', 0, none⟩) (n + 1) c').ownBlock = (Value.slice A n c).ownBlock ∨ W.heap.size ≤ R') := by
    rcases hor.out with e | e
    · exact .inl e
    · exact .inr (by have := e R' (by simp [Value.ownBlock]); simpa using this)
  clear hg hor
  go_end0
  have own1 : (Value.slice (some ⟨R', 0, none⟩) (n + 1) c').ownBlock = some R' := by simp [Value.ownBlock]
  have hRD : D ≠ R' := by
    rcases HOR.out with e | e
    · intro e2; exact HH.out.dr (by rw [← e, own1, e2])
    · omega
  have hbR' : b ≠ R' := by
    rcases HOR.out with e | e
    · intro e2; exact hbR (by rw [← e, own1, e2])
    · omega
  have hit : ∀ i, i < n → Bx (w1.setCell ⟨D, 0, none⟩ (.slice (some ⟨R', 0, none⟩) (n + 1) c')) (f i).blk #[.string (f i).it.name, .int .i64 (f i).it.mom, .int .i64 i] 61 := fun i hi =>
    (((HH.out.it i hi).other (p := ⟨b, 2, none⟩) (hbf i hi) _).grown HG.out (HH.out.ne i hi).2).other (p := ⟨D, 0, none⟩) (HH.out.ne i hi).1 _
  refine ⟨rfl, R', c', ⟨D2.out.put 0 _, ⟨cs, h6.out.other (p := ⟨D, 0, none⟩) (Ne.symm hRD) _, h7.out, h8.out⟩, ?_, ?_, hRD, ?_, h4.out, h5.out⟩, HOR.out.imp (fun e => by rw [← e, own1]) id, ?_⟩
  · intro i hi
    by_cases e : i = n
    · subst e
      rw [addF_n]
      exact ((HB.out.put 2 (.int .i64 i)).grown HG.out hbR).other (p := ⟨D, 0, none⟩) hbD _
    · rw [addF_o f _ (by omega)]
      exact hit i (by omega)
  · intro i j hi hj e
    by_cases e1 : i = n
    · subst e1
      by_cases e2 : j = i
      · exact e2.symm
      · rw [addF_n, addF_o f _ (by omega)] at e
        exact absurd e.symm (hbf j (by omega))
    · by_cases e2 : j = n
      · subst e2
        rw [addF_n, addF_o f _ (by omega)] at e
        exact absurd e (hbf i (by omega))
      · rw [addF_o f _ (by omega), addF_o f _ (by omega)] at e
        exact HH.out.inj i j (by omega) (by omega) e
  · intro i hi
    by_cases e : i = n
    · subst e; rw [addF_n]; exact ⟨hbD, hbR'⟩
    · rw [addF_o f _ (by omega)]
      refine ⟨(HH.out.ne i (by omega)).1, ?_⟩
      rcases HOR.out with e1 | e1
      · intro e2; exact (HH.out.ne i (by omega)).2 (by rw [← e1, own1, e2])
      · have := (HH.out.it i (by omega)).lt; omega
  · exact ((((Kp.refl (PuS D b (.slice A n c)) W).set (p := ⟨b, 2, none⟩) (.inr (.inl rfl)) _).grown HG.out fun k hk => .inr (.inr hk)).set (p := ⟨D, 0, none⟩) (.inl rfl) _)
end Go.Proofs.Ytfbalabmidobeaa
