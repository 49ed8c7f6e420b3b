/- Same: two flights are alike: the document's. -/
import Derived.Test.YtodholjbefifeaaDoorFlEq
namespace Go.Proofs.YtodholjbefifeaaDoor
set_option linter.unusedVariables false
open Go Go.RowKit Go.Sort
def clsI (l m : List Cls) (i : Nat) : Bool := decide (l[i]? = m[i]?)
/-- All but the classes. -/
def headB (a b : Flt) : Bool := decide ((⟨a.car, a.num⟩ : Key) = ⟨b.car, b.num⟩) && (eqTx a.frm b.frm && (eqTx a.to_ b.to_ && (decide (a.days = b.days) && (decide (a.dep = b.dep) && (decide (a.arr = b.arr) && decide (a.pln = b.pln))))))
theorem same_eq (a b : Flt) {n m : Nat} (hn : a.cls.length = n) (hm : b.cls.length = m) : decide (a = b) = (headB a b && (decide (n = m) && allP (clsI a.cls b.cls) n)) := by
  have h1 : (decide (n = m) && allP (clsI a.cls b.cls) n) = decide (a.cls = b.cls) := by
    subst hn hm
    by_cases h : a.cls.length = b.cls.length
    · rw [decide_eq_true h, Bool.true_and]
      cases e : allP (clsI a.cls b.cls) a.cls.length with
      | true =>
        symm
        refine decide_eq_true (List.ext_getElem? fun i => ?_)
        by_cases hi : i < a.cls.length
        · have := allP_at (k := i) _ hi e
          simpa [clsI] using this
        · rw [List.getElem?_eq_none (by omega), List.getElem?_eq_none (by omega)]
      | false =>
        symm
        refine decide_eq_false fun e2 => ?_
        rw [e2] at e
        have : ∀ k, allP (clsI b.cls b.cls) k = true := fun k => by
          induction k with
          | zero => rfl
          | succ k ih => exact allP_step ih (by simp [clsI])
        rw [this] at e; cases e
    · rw [decide_eq_false h, Bool.false_and]
      exact (decide_eq_false fun e => h (by rw [e])).symm
  rw [h1]
  unfold headB eqTx
  obtain ⟨a0, a1, a2, a3, a4, a5, a6, a7, a8⟩ := a
  obtain ⟨b0, b1, b2, b3, b4, b5, b6, b7, b8⟩ := b
  rw [Bool.eq_iff_iff]
  simp
  constructor
  · rintro ⟨h0, h1, h2, h3, h4, h5, h6, h7, h8⟩
    exact ⟨⟨⟨h0, h1⟩, h2, h3, h4, h5, h6, h8⟩, h7⟩
  · rintro ⟨⟨⟨h0, h1⟩, h2, h3, h4, h5, h6, h8⟩, h7⟩
    exact ⟨h0, h1, h2, h3, h4, h5, h6, h7, h8⟩
/-- Two flights' boxes. -/
structure FB2 (w : World) (r s : FlR) (W : World) : Prop where
  x : Bx W w.heap.size #[.string r.f.car, .int .i64 r.f.num, .string r.f.frm, .string r.f.to_, .int .u8 r.f.days, .int .i64 r.f.dep, .int .i64 r.f.arr, .slice r.A r.n r.c, .int .i64 r.f.pln] 26
  y : Bx W (w.heap.size + 1) #[.string s.f.car, .int .i64 s.f.num, .string s.f.frm, .string s.f.to_, .int .u8 s.f.days, .int .i64 s.f.dep, .int .i64 s.f.arr, .slice s.A s.n s.c, .int .i64 s.f.pln] 26
  B : Below w.heap.size w W
section
variable {w W W1 : World} {r s : FlR}
theorem FB2.start (w : World) (r s : FlR) : FB2 w r s ((w.alloc (.cells #[.string r.f.car, .int .i64 r.f.num, .string r.f.frm, .string r.f.to_, .int .u8 r.f.days, .int .i64 r.f.dep, .int .i64 r.f.arr, .slice r.A r.n r.c, .int .i64 r.f.pln] 26)).alloc (.cells #[.string s.f.car, .int .i64 s.f.num, .string s.f.frm, .string s.f.to_, .int .u8 s.f.days, .int .i64 s.f.dep, .int .i64 s.f.arr, .slice s.A s.n s.c, .int .i64 s.f.pln] 26)) :=
  ⟨(two_boxes w _ _ _ _).1, (two_boxes w _ _ _ _).2.1, (two_boxes w _ _ _ _).2.2.below⟩
theorem FB2.step (h : FB2 w r s W) (hb : Below W.heap.size W W1) : FB2 w r s W1 := ⟨h.x.below hb h.x.lt, h.y.below hb h.y.lt, h.B.trans (hb.mono h.B.size)⟩
theorem FB2.drewN (h : FB2 w r s W) (n : Nat) : FB2 w r s (W.drewN n) := ⟨h.x.drewN n, h.y.drewN n, below_drewN h.B n⟩
end
set_option maxRecDepth 100000 in
set_option maxHeartbeats 4000000 in
theorem rsame_any' (f g : Flt) (A A' : Option Addr) (n c n' c' : Nat) (w : World) (lo hi lo' hi' : Nat) (hf : f.cls.length = n) (hg : g.cls.length = n') (hc : Sl w lo hi tCls A n f.cls) (hc' : Sl w lo' hi' tCls A' n' g.cls) (hn : n ≤ 100000) (hn' : n' ≤ 100000) (hhi : hi ≤ w.heap.size) (hhi' : hi' ≤ w.heap.size) :
    Calls Tryd.prog 45 #[.agg #[.string f.car, .int .i64 f.num, .string f.frm, .string f.to_, .int .u8 f.days, .int .i64 f.dep, .int .i64 f.arr, .slice A n c, .int .i64 f.pln], .agg #[.string g.car, .int .i64 g.num, .string g.frm, .string g.to_, .int .u8 g.days, .int .i64 g.dep, .int .i64 g.arr, .slice A' n' c', .int .i64 g.pln]] w (RetB w (decide (f = g))) := by
  have HC := Lib.hid hc
  have HC' := Lib.hid hc'
  have HE := Lib.hid (same_eq f g hf hg)
  have HB := FB2.start w (FlR.mk f A n c) (FlR.mk g A' n' c')
  clear hc hc' hf hg
  have hk := fun u => neq_key f.car g.car f.num g.num u
  have hdec : (decide (f.car = g.car) && (decide (f.num = g.num))) = decide ((⟨f.car, f.num⟩ : Key) = ⟨g.car, g.num⟩) := by rw [Bool.eq_iff_iff]; simp
  rw [hdec] at hk
  clear hdec
  have e1 := eqTx_l f.frm g.frm
  have e2 := eqTx_l f.to_ g.to_
  unfold headB at HE
  generalize decide ((⟨f.car, f.num⟩ : Key) = ⟨g.car, g.num⟩) = q0 at hk HE
  generalize eqTx f.frm g.frm = q1 at e1 HE
  generalize eqTx f.to_ g.to_ = q2 at e2 HE
  go_enter Tryd.func45, Tryd.ntmps45
  go_upto_region 1 with fail
  refine wp_world (FB2 w (FlR.mk f A n c) (FlR.mk g A' n' c')) HB ?_
  clear HB
  intro W hF
  have c1 : ∀ i, W.cell? ⟨w.heap.size, i, none⟩ = (#[.string f.car, .int .i64 f.num, .string f.frm, .string f.to_, .int .u8 f.days, .int .i64 f.dep, .int .i64 f.arr, .slice A n c, .int .i64 f.pln] : Array Value)[i]? := hF.x.cells
  have c2 : ∀ i, W.cell? ⟨w.heap.size + 1, i, none⟩ = (#[.string g.car, .int .i64 g.num, .string g.frm, .string g.to_, .int .u8 g.days, .int .i64 g.dep, .int .i64 g.arr, .slice A' n' c', .int .i64 g.pln] : Array Value)[i]? := hF.y.cells
  by_cases t : q0 = true ∧ q1 = true ∧ q2 = true ∧ f.days = g.days ∧ f.dep = g.dep ∧ f.arr = g.arr ∧ f.pln = g.pln ∧ n = n'
  case neg =>
    have hno := Lib.hid (show decide (f = g) = false by
      rw [HE.out]
      rw [← Bool.not_eq_true]
      intro h
      simp only [Bool.and_eq_true, decide_eq_true_eq] at h
      exact t ⟨h.1.1, h.1.2.1, h.1.2.2.1, h.1.2.2.2.1, h.1.2.2.2.2.1, h.1.2.2.2.2.2.1, h.1.2.2.2.2.2.2, h.2.1⟩)
    have T := Lib.hid t
    clear t
    go_wp2
    all_goals first
      | (go_ret; exact ⟨ret_bool hno.out.symm, hF.B⟩)
      | skip
    exfalso
    apply T.out
    have hnn : ((n : Int) != (n' : Int)) = false := by assumption
    rw [bne_eq_false_iff_eq] at hnn
    refine ⟨by assumption, by assumption, by assumption, by assumption, by assumption, by assumption, by assumption, by omega⟩
  obtain ⟨rfl, rfl, rfl, t3, t4, t5, t6, rfl⟩ := t
  have HE2 := Lib.hid (show decide (f = g) = allP (clsI f.cls g.cls) n by rw [HE.out, decide_eq_true t3, decide_eq_true t4, decide_eq_true t5, decide_eq_true t6, decide_eq_true rfl]; rfl)
  have T3 : (f.days != g.days) = false := by rw [t3]; simp
  have T4 : (f.dep != g.dep) = false := by rw [t4]; simp
  have T5 : (f.arr != g.arr) = false := by rw [t5]; simp
  have T6 : (f.pln != g.pln) = false := by rw [t6]; simp
  have T7 : ((n : Int) != (n : Int)) = false := by simp
  clear t3 t4 t5 t6 HE
  go_wp2
  clear T3 T4 T5 T6 T7 c1 c2 hk e1 e2
  go_loopw [5] (fun i wr => ∃ k : Nat, k ≤ n ∧ i = .int .i64 k ∧ Hid (allP (clsI f.cls g.cls) k = true) ∧ FB2 w (FlR.mk f A n c) (FlR.mk g A' n c') wr) (fun i _ => n - (intOf i).toNat)
  case atStart => exact ⟨0, by omega, rfl, rfl, hF⟩
  case round =>
    obtain ⟨k, hk, rfl, hall, hG⟩ := hrel
    clear hF
    have c1 : ∀ i, wr.cell? ⟨w.heap.size, i, none⟩ = (#[.string f.car, .int .i64 f.num, .string f.frm, .string f.to_, .int .u8 f.days, .int .i64 f.dep, .int .i64 f.arr, .slice A n c, .int .i64 f.pln] : Array Value)[i]? := hG.x.cells
    have c2 : ∀ i, wr.cell? ⟨w.heap.size + 1, i, none⟩ = (#[.string g.car, .int .i64 g.num, .string g.frm, .string g.to_, .int .u8 g.days, .int .i64 g.dep, .int .i64 g.arr, .slice A' n c', .int .i64 g.pln] : Array Value)[i]? := hG.y.cells
    by_cases hlt : k < n
    · obtain ⟨b0, o0, ⟨x, y⟩, hA, _, _, hx, hok, d0, d1⟩ := (Sl.below HC.out hG.B hhi).cls_ hlt
      obtain ⟨b1, o1, ⟨x', y'⟩, hA', _, _, hx', hok', e0, e1⟩ := (Sl.below HC'.out hG.B hhi').cls_ hlt
      subst hA hA'
      dsimp only at d0 d1 e0 e1
      have i0 : (0 : Int) ≤ k := by omega
      have i1 : (k : Int) < n := by omega
      have hci : clsI f.cls g.cls k = (decide (x = x') && (decide (y = y'))) := by unfold clsI; rw [hx.out, hx'.out, Bool.eq_iff_iff]; simp
      have hne := fun u => neq_class x x' y y' u
      rw [← hci] at hne
      clear hci
      generalize hq : clsI f.cls g.cls k = q at hne
      have HQ := Lib.hid hq
      clear hq
      rcases q with _ | _
      · go_wp2
        go_quiet (fail)
        go_wp2
        go_ret
        exact ⟨ret_bool (by rw [HE2.out]; exact (allP_no n hlt HQ.out).symm), below_drewN hG.B _⟩
      · have hs := Lib.hid (allP_step hall.out HQ.out)
        go_wp2
        go_quiet (fail)
        go_wp2
        go_roundw
        case rel => exact ⟨k + 1, by omega, by go_num, hs, hG.drewN _⟩
        case measure => simp [intOf]; omega
    · obtain rfl : n = k := by omega
      go_wp2
      go_ret
      exact ⟨ret_bool (by rw [HE2.out, hall.out]), hG.B⟩
theorem rsame_fl (r s : FlR) (w : World) (lo hi lo' hi' : Nat) (hr : r.ok) (hs : s.ok) (hc : ClAt w lo hi r) (hc' : ClAt w lo' hi' s) (hn : r.n ≤ 100000) (hn' : s.n ≤ 100000) (hhi : hi ≤ w.heap.size) (hhi' : hi' ≤ w.heap.size) :
    Calls Tryd.prog 45 #[.agg #[.string r.f.car, .int .i64 r.f.num, .string r.f.frm, .string r.f.to_, .int .u8 r.f.days, .int .i64 r.f.dep, .int .i64 r.f.arr, .slice r.A r.n r.c, .int .i64 r.f.pln], .agg #[.string s.f.car, .int .i64 s.f.num, .string s.f.frm, .string s.f.to_, .int .u8 s.f.days, .int .i64 s.f.dep, .int .i64 s.f.arr, .slice s.A s.n s.c, .int .i64 s.f.pln]] w (RetB w (decide (r.f = s.f))) :=
  rsame_any' r.f s.f r.A s.A r.n r.c s.n s.c w lo hi lo' hi' hr.len hs.len hc hc' hn hn' hhi hhi'
end Go.Proofs.YtodholjbefifeaaDoor
