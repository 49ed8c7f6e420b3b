/- Put together by program of: Hd9, Hd10, Hd11. -/
import Derived.Test.YtlkdefmceghmnaaGreatMHb
import Derived.BigGuardPart
namespace Go.Proofs.YtlkdefmceghmnaaGreat
set_option linter.unusedVariables false
open Go Go.RowKit Go.Sort
/-- What is somebody's may be somebody's. -/
def QW (rs : List FlR) (ps : List PlM) (q : Hpl → Option Hol) : Prop := ∀ d, q d ≠ none → wrongB rs ps d = 0
theorem QW.none_ (rs : List FlR) (ps : List PlM) : QW rs ps (fun _ => none) := fun d h => absurd rfl h
theorem QW.upd {rs : List FlR} {ps : List PlM} {q : Hpl → Option Hol} (h : QW rs ps q) {c : Hpl} {o : Option Hol} (ho : o ≠ none → wrongB rs ps c = 0) : QW rs ps (updH q c o) := fun d hd => by
  by_cases e : d = c
  · subst e
    rw [updH_same] at hd
    exact ho hd
  · rw [updH_other _ _ _ e] at hd
    exact h d hd
theorem wrongB_cases (rs : List FlR) (ps : List PlM) (c : Hpl) : wrongB rs ps c = 0 ∧ hasB rs ps c = true ∨ (wrongB rs ps c = 9 ∨ wrongB rs ps c = 15) ∧ hasB rs ps c = false := by
  cases h : hasB rs ps c with
  | true => exact .inl ⟨wrong_no h, rfl⟩
  | false =>
    refine .inr ⟨?_, rfl⟩
    unfold wrongB
    rw [h]
    cases fliesF (rs.map (·.f)) c.leg <;> simp
/-- What Take may come to. -/
theorem take_facts (wr : Int) (o : Option Hol) (x : Hol) : (wr ≠ 0 ∧ takeF wr o x = (wr, o)) ∨ (wr = 0 ∧ o = none ∧ takeF wr o x = (0, some x)) ∨ (wr = 0 ∧ o = some x ∧ takeF wr o x = (8, some x)) ∨ (wr = 0 ∧ ∃ y, y ≠ x ∧ o = some y ∧ takeF wr o x = (14, some y)) := by
  unfold takeF
  by_cases h : wr = 0
  · rw [if_neg (fun e => e h)]
    cases o with
    | none => exact .inr (.inl ⟨h, rfl, rfl⟩)
    | some y =>
      by_cases e : y = x
      · exact .inr (.inr (.inl ⟨h, by rw [e], by simp [e]⟩))
      · exact .inr (.inr (.inr ⟨h, y, e, rfl, by simp [e]⟩))
  · exact .inl ⟨h, by rw [if_pos h]⟩
theorem free_facts (wr : Int) (o : Option Hol) (x : Hol) : (wr ≠ 0 ∧ freeF wr o x = (wr, o)) ∨ (wr = 0 ∧ o = some x ∧ freeF wr o x = (0, none)) ∨ (wr = 0 ∧ o = none ∧ freeF wr o x = (7, none)) ∨ (wr = 0 ∧ ∃ y, y ≠ x ∧ o = some y ∧ freeF wr o x = (7, some y)) := by
  unfold freeF
  by_cases h : wr = 0
  · rw [if_neg (fun e => e h)]
    cases o with
    | none => exact .inr (.inr (.inl ⟨h, rfl, rfl⟩))
    | some y =>
      by_cases e : y = x
      · exact .inr (.inl ⟨h, by rw [e], by simp [e]⟩)
      · exact .inr (.inr (.inr ⟨h, y, e, rfl, by simp [e]⟩))
  · exact .inl ⟨h, by rw [if_pos h]⟩
theorem take_some {wr : Int} {o : Option Hol} {x : Hol} (h : (takeF wr o x).2 ≠ none) : o ≠ none ∨ wr = 0 := by
  rcases take_facts wr o x with ⟨_, e⟩ | ⟨h0, _⟩ | ⟨h0, _⟩ | ⟨h0, _⟩
  · rw [e] at h
    exact .inl h
  · exact .inr h0
  · exact .inr h0
  · exact .inr h0
theorem free_some {wr : Int} {o : Option Hol} {x : Hol} (h : (freeF wr o x).2 ≠ none) : o ≠ none := by
  rcases free_facts wr o x with ⟨_, e⟩ | ⟨_, _, e⟩ | ⟨_, _, e⟩ | ⟨_, y, _, h1, _⟩
  · rw [e] at h
    exact h
  · rw [e] at h
    exact absurd rfl h
  · rw [e] at h
    exact absurd rfl h
  · rw [h1]
    simp
theorem QW.take {rs : List FlR} {ps : List PlM} {q : Hpl → Option Hol} (h : QW rs ps q) (c : Hpl) (x : Hol) : QW rs ps (updH q c (takeF (wrongB rs ps c) (q c) x).2) := h.upd fun ho => by
  rcases take_some ho with h1 | h1
  · exact h c h1
  · exact h1
theorem QW.free {rs : List FlR} {ps : List PlM} {q : Hpl → Option Hol} (h : QW rs ps q) (c : Hpl) (x : Hol) : QW rs ps (updH q c (freeF (wrongB rs ps c) (q c) x).2) := h.upd fun ho => h c (free_some ho)
/-- The boxes of a law's world, its leg, its seat and its owner. -/
structure H5 (W : World) (kw gx gs go : Nat) (wc : Array Value) (x : Leg) (s : Sit) (y : Hol) : Prop where
  bw : Bx W kw wc 60
  bx : Bx W gx #[.string x.key.car, .int .i64 x.key.num, .int .i64 x.day] 27
  bs : Bx W gs #[.int .i64 s.row, .int .u8 s.let_] 67
  bo : Bx W go #[.string y.loc, .int .i64 y.pax] 69
section
variable {W W' : World} {kw gx gs go : Nat} {wc : Array Value} {x : Leg} {s : Sit} {y : Hol}
theorem H5.below (h : H5 W kw gx gs go wc x s y) (hb : Below W.heap.size W W') : H5 W' kw gx gs go wc x s y := ⟨h.bw.below hb h.bw.lt, h.bx.below hb h.bx.lt, h.bs.below hb h.bs.lt, h.bo.below hb h.bo.lt⟩
theorem H5.own (h : H5 W kw gx gs go wc x s y) (h1 : kw < go) (h2 : gx < go) (h3 : gs < go) (z : Hol) : H5 ((W.setCell ⟨go, 0, none⟩ (.string z.loc)).setCell ⟨go, 1, none⟩ (.int .i64 z.pax)) kw gx gs go wc x s z :=
  ⟨(h.bw.other (by simp; omega) _).other (by simp; omega) _, (h.bx.other (by simp; omega) _).other (by simp; omega) _, (h.bs.other (by simp; omega) _).other (by simp; omega) _, (h.bo.put 0 _).put 1 _⟩
theorem Kb.cell (b : Nat) (W : World) (i : Nat) (u : Value) : Kb b W (W.setCell ⟨b, i, none⟩ u) := ⟨rfl, rfl, rfl, by simp, fun k _ hn => Below.heap_setCell W _ u k hn⟩
theorem H5.kb {b : Nat} (h : H5 W kw gx gs go wc x s y) (hk : Kb b W W') (h1 : kw < b) (h2 : b < gx) (h3 : b < gs) (h4 : b < go) : H5 W' kw gx gs go wc x s y := ⟨h.bw.kb hk (by omega), h.bx.kb hk (by omega), h.bs.kb hk (by omega), h.bo.kb hk (by omega)⟩
end
end Go.Proofs.YtlkdefmceghmnaaGreat
namespace Go.Proofs.YtlkdefmceghmnaaGreat
set_option linter.unusedVariables false
open Go Go.RowKit Go.Sort
/-- The cells that are somebody's. -/
structure En (q : Hpl → Option Hol) (E : List Hpl) : Prop where
  nod : E.Nodup
  mem : ∀ c, q c ≠ none ↔ c ∈ E
theorem En.zero : En (fun _ => none) [] := ⟨List.nodup_nil, fun c => by simp⟩
theorem En.cons {q : Hpl → Option Hol} {E : List Hpl} (h : En q E) {c : Hpl} (hc : q c = none) (x : Hol) : En (updH q c (some x)) (c :: E) := by
  refine ⟨List.nodup_cons.2 ⟨fun hm => (h.mem c).2 hm hc, h.nod⟩, fun d => ?_⟩
  by_cases e : d = c
  · subst e
    rw [updH_same]
    simp
  · rw [updH_other _ _ _ e, h.mem d]
    simp [e]
theorem En.erase {q : Hpl → Option Hol} {E : List Hpl} (h : En q E) (c : Hpl) : En (updH q c none) (E.filter fun d => !decide (d = c)) := by
  refine ⟨h.nod.filter _, fun d => ?_⟩
  by_cases e : d = c
  · subst e
    rw [updH_same]
    simp
  · rw [updH_other _ _ _ e, h.mem d]
    simp [e]
theorem len_filter_ne (c : Hpl) : ∀ {E : List Hpl}, E.Nodup → c ∈ E → (E.filter fun d => !decide (d = c)).length + 1 = E.length
  | d :: E, hn, hc => by
    obtain ⟨h1, h2⟩ := List.nodup_cons.1 hn
    by_cases e : d = c
    · subst e
      rw [List.filter_cons_of_neg (by simp), List.filter_eq_self.2 (fun x hx => by
        have : x ≠ d := fun e => h1 (e ▸ hx)
        simp [this])]
      rfl
    · rw [List.filter_cons_of_pos (by simp [e]), List.length_cons, len_filter_ne c h2 ((List.mem_cons.1 hc).resolve_left (fun e2 => e e2.symm)), List.length_cons]
/-- How many cells are on none of the first i legs. -/
def remH (E : List Hpl) (out : List Leg) (i : Nat) : Nat := (E.filter fun c => decide (c.leg ∉ out.take i)).length
theorem remH_zero (E : List Hpl) (out : List Leg) : remH E out 0 = E.length := by
  unfold remH
  rw [List.filter_eq_self.2 (fun c _ => by simp)]
theorem remH_all {E : List Hpl} {out : List Leg} (h : ∀ c ∈ E, c.leg ∈ out) : remH E out out.length = 0 := by
  unfold remH
  rw [List.length_eq_zero_iff, List.filter_eq_nil_iff]
  intro c hc
  rw [List.take_length]
  simp [h c hc]
theorem remH_step {out : List Leg} {i : Nat} {g : Leg} (hn : out.Nodup) (hg : out[i]? = some g) : ∀ E : List Hpl, remH E out i = remH E out (i + 1) + (E.filter fun c => decide (c.leg = g)).length
  | [] => rfl
  | c :: E => by
    have ih := remH_step hn hg E
    have ht : out.take (i + 1) = out.take i ++ [g] := by rw [List.take_add_one, hg]; rfl
    have hgi : g ∉ out.take i := fun hm => by
      have h1 : (out.take (i + 1)).Nodup := hn.sublist (List.take_sublist _ _)
      rw [ht, List.nodup_append] at h1
      exact h1.2.2 g hm g (by simp) rfl
    unfold remH at ih ⊢
    by_cases e : c.leg = g
    · have h1 : c.leg ∉ out.take i := by rw [e]; exact hgi
      have h2 : c.leg ∈ out.take (i + 1) := by rw [ht, e]; simp
      rw [List.filter_cons_of_pos (by simp [h1]), List.filter_cons_of_neg (by simp [h2]), List.filter_cons_of_pos (by simp [e]), List.length_cons, List.length_cons]
      omega
    · by_cases h1 : c.leg ∈ out.take i
      · have h2 : c.leg ∈ out.take (i + 1) := by rw [ht]; simp [h1]
        rw [List.filter_cons_of_neg (by simp [h1]), List.filter_cons_of_neg (by simp [h2]), List.filter_cons_of_neg (by simp [e])]
        exact ih
      · have h2 : c.leg ∉ out.take (i + 1) := by rw [ht]; simp [h1, e]
        rw [List.filter_cons_of_pos (by simp [h1]), List.filter_cons_of_pos (by simp [h2]), List.filter_cons_of_neg (by simp [e]), List.length_cons, List.length_cons]
        omega
theorem ltHd_cases {a b : Hld} (h : ltHd a b = true) : a.seat.row < b.seat.row ∨ (a.seat.row = b.seat.row ∧ a.seat.let_ < b.seat.let_) := by
  unfold ltHd ltX ltNo at h
  simp only [Bool.or_eq_true, Bool.and_eq_true, decide_eq_true_eq, Bool.and_false, Bool.or_false] at h
  omega
theorem ltHd_ne {a b : Hld} (h : ltHd a b = true) : a.seat ≠ b.seat := by
  intro e
  have h2 := ltHd_cases h
  rw [e] at h2
  omega
theorem on_len {q : Hpl → Option Hol} {E : List Hpl} {g : Leg} {out : List Hld} (h : En q E) (hr : RisL ltHd out) (hm : ∀ x, x ∈ out ↔ q ⟨g, x.seat⟩ = some x.hol) : out.length = (E.filter fun c => decide (c.leg = g)).length := by
  have h1 : (out.map fun x => (⟨g, x.seat⟩ : Hpl)).Nodup := List.pairwise_map.2 (hr.imp fun {a b} hl (e : (⟨g, a.seat⟩ : Hpl) = ⟨g, b.seat⟩) => ltHd_ne hl (congrArg Hpl.seat e))
  have h2 : (out.map fun x => (⟨g, x.seat⟩ : Hpl)).length ≤ (E.filter fun c => decide (c.leg = g)).length := nodup_le h1 fun c hc => by
    obtain ⟨x, hx, rfl⟩ := List.mem_map.1 hc
    exact List.mem_filter.2 ⟨(h.mem _).1 (by rw [(hm x).1 hx]; simp), by simp⟩
  have h3 : (E.filter fun c => decide (c.leg = g)).length ≤ (out.map fun x => (⟨g, x.seat⟩ : Hpl)).length := nodup_le (h.nod.filter _) fun c hc => by
    obtain ⟨hc1, hc2⟩ := List.mem_filter.1 hc
    have hg : c.leg = g := of_decide_eq_true hc2
    cases e : q c with
    | none => exact absurd e ((h.mem c).2 hc1)
    | some y =>
      subst hg
      exact List.mem_map.2 ⟨⟨c.seat, y⟩, (hm _).2 e, rfl⟩
  rw [List.length_map] at h2 h3
  omega
theorem RisL.nodup_g {l : List Leg} (h : RisL ltG l) : l.Nodup := h.imp fun hl e => by
  subst e
  rw [lts_g.irr] at hl
  cases hl
/-- Take: the seat is now the holder's, or nothing has changed. -/
theorem take_is {W : World} {lo hi t p b : Nat} {rs : List FlR} {ps : List PlM} {q : Hpl → Option Hol} (h : HK W lo hi t p b rs ps q) (hr : ∀ r ∈ rs, rightB r.f = true) (g : Leg) (s : Sit) (x : Hol) (hg : g.ok) (hs : s.ok) (hxo : x.ok) :
    Calls Tryz.prog 33 #[.pointer (some ⟨p, 0, none⟩), .agg #[.string g.key.car, .int .i64 g.key.num, .int .i64 g.day], .agg #[.int .i64 s.row, .int .u8 s.let_], .agg #[.string x.loc, .int .i64 x.pax]] W fun e w' => ∃ k q', e = .returned (.int .i64 k) ∧ HK w' lo hi t p b rs ps q' ∧ Kb b W w' ∧ Hid ((k = 0 ∧ wrongB rs ps ⟨g, s⟩ = 0 ∧ q ⟨g, s⟩ = none ∧ q' = updH q ⟨g, s⟩ (some x)) ∨ (k ≠ 0 ∧ q' = q)) :=
  (take_any h hr g s x hg hs hxo).mono fun e w' h1 => by
    obtain ⟨h2, h3, h4⟩ := h1
    refine ⟨_, _, h2, h3, h4, ?_⟩
    rcases take_facts (wrongB rs ps ⟨g, s⟩) (q ⟨g, s⟩) x with ⟨hw, e⟩ | ⟨hw, ho, e⟩ | ⟨hw, ho, e⟩ | ⟨hw, y, hy, ho, e⟩
    · rw [e]
      exact .inr ⟨hw, updH_self _ _⟩
    · rw [e]
      exact .inl ⟨rfl, hw, ho, rfl⟩
    · rw [e, ← ho]
      exact .inr ⟨(fun h => by cases h), updH_self _ _⟩
    · rw [e, ← ho]
      exact .inr ⟨(fun h => by cases h), updH_self _ _⟩
theorem free_is {W : World} {lo hi t p b : Nat} {rs : List FlR} {ps : List PlM} {q : Hpl → Option Hol} (h : HK W lo hi t p b rs ps q) (hr : ∀ r ∈ rs, rightB r.f = true) (g : Leg) (s : Sit) (x : Hol) (hg : g.ok) (hs : s.ok) (hxo : x.ok) :
    Calls Tryz.prog 35 #[.pointer (some ⟨p, 0, none⟩), .agg #[.string g.key.car, .int .i64 g.key.num, .int .i64 g.day], .agg #[.int .i64 s.row, .int .u8 s.let_], .agg #[.string x.loc, .int .i64 x.pax]] W fun e w' => ∃ k q', e = .returned (.int .i64 k) ∧ HK w' lo hi t p b rs ps q' ∧ Kb b W w' ∧ Hid ((k = 0 ∧ wrongB rs ps ⟨g, s⟩ = 0 ∧ q ⟨g, s⟩ = some x ∧ q' = updH q ⟨g, s⟩ none) ∨ (k ≠ 0 ∧ q' = q)) :=
  (free_any h hr g s x hg hs hxo).mono fun e w' h1 => by
    obtain ⟨h2, h3, h4⟩ := h1
    refine ⟨_, _, h2, h3, h4, ?_⟩
    rcases free_facts (wrongB rs ps ⟨g, s⟩) (q ⟨g, s⟩) x with ⟨hw, e⟩ | ⟨hw, ho, e⟩ | ⟨hw, ho, e⟩ | ⟨hw, y, hy, ho, e⟩
    · rw [e]
      exact .inr ⟨hw, updH_self _ _⟩
    · rw [e]
      exact .inl ⟨rfl, hw, ho, rfl⟩
    · rw [e, ← ho]
      exact .inr ⟨(fun h => by cases h), updH_self _ _⟩
    · rw [e, ← ho]
      exact .inr ⟨(fun h => by cases h), updH_self _ _⟩
theorem hasB_of {rs : List FlR} {ps : List PlM} {c : Hpl} (h : wrongB rs ps c = 0) : hasB rs ps c = true := by
  rcases wrongB_cases rs ps c with ⟨_, h2⟩ | ⟨h1 | h1, _⟩
  · exact h2
  all_goals (rw [h1] at h; cases h)
end Go.Proofs.YtlkdefmceghmnaaGreat
namespace Go.Proofs.YtlkdefmceghmnaaGreat
set_option linter.unusedVariables false
open Go Go.RowKit Go.Sort
theorem Sl.hld_ {w : World} {lo hi n k : Nat} {A : Option Addr} {l : List Hld} (h : Sl w lo hi tHld A n l) (hk : k < n) :
    ∃ b o x, A = some ⟨b, o, none⟩ ∧ lo ≤ b ∧ b < hi ∧ Hid (l[k]? = some x) ∧ Hld.ok x ∧ w.cell? ⟨b, o + k * 4, none⟩ = some (.int .i64 x.seat.row) ∧ w.cell? ⟨b, o + k * 4 + 1, none⟩ = some (.int .u8 x.seat.let_) ∧ w.cell? ⟨b, o + k * 4 + 2, none⟩ = some (.string x.hol.loc) ∧ w.cell? ⟨b, o + k * 4 + 3, none⟩ = some (.int .i64 x.hol.pax) := by
  obtain ⟨b, o, x, h1, h2, h3, h4, h5, hc⟩ := h.at_ hk
  exact ⟨b, o, x, h1, h2, h3, h4, h5, by simpa [tHld] using hc 0 _ rfl, hc 1 _ rfl, hc 2 _ rfl, hc 3 _ rfl⟩
instance : DecidableEq Hld := fun a b => decidable_of_iff (a.seat = b.seat ∧ a.hol = b.hol) (by cases a; cases b; simp)
set_option maxHeartbeats 1000000 in
theorem eqi_hld (d : Nat) (a0 b0 a1 b1 : Int) (a2 b2 : ByteArray) (a3 b3 : Int) (u : World) : (Op.equalIn (d + 3) 89 (.agg #[.int .i64 a0, .int .u8 a1, .string a2, .int .i64 a3]) (.agg #[.int .i64 b0, .int .u8 b1, .string b2, .int .i64 b3])).run Tryz.prog u = .ok ((decide (a0 = b0) && decide (a1 = b1)) && (decide (a2 = b2) && decide (a3 = b3))) u := by
  have hS : Tryz.prog.underlying 89 = some (.struct (Tryz.prog.fieldsOf 89)) := by kernel_rfl
  have hp : Tryz.prog.stoodInHeld 89 = false := by kernel_rfl
  rw [run_equalIn_agg u (d + 2) _ _ _ hS hp]
  have e0 := fun u => eqi_sit d a0 b0 a1 b1 u
  have e1 := fun u => eqi_hol d a2 b2 a3 b3 u
  have z0 := Tryz.sizeOf67
  have y0 := Tryz.isAgg67
  have z1 := Tryz.sizeOf69
  have y1 := Tryz.isAgg69
  simp only [Program.fieldsOf, Tryz.underlying89]
  go_simp
  try simp only [toL]
  by_cases h0 : a0 = b0 <;> by_cases h1 : a1 = b1 <;> by_cases h2 : a2 = b2 <;> by_cases h3 : a3 = b3 <;> simp [h0, h1, h2, h3]
theorem neq_hld (x : Hld) (u : World) : (binOp .neq 89 (.agg #[.int .i64 x.seat.row, .int .u8 x.seat.let_, .string x.hol.loc, .int .i64 x.hol.pax]) (.agg #[.int .i64 x.seat.row, .int .u8 x.seat.let_, .string x.hol.loc, .int .i64 x.hol.pax])).run Tryz.prog u = .ok (.bool false) u := by
  rw [run_neq_struct, show (10000 : Nat) = 9997 + 3 from rfl, eqi_hld]
  simp
theorem neq_hlds (x y : Hld) (u : World) : (binOp .neq 89 (.agg #[.int .i64 x.seat.row, .int .u8 x.seat.let_, .string x.hol.loc, .int .i64 x.hol.pax]) (.agg #[.int .i64 y.seat.row, .int .u8 y.seat.let_, .string y.hol.loc, .int .i64 y.hol.pax])).run Tryz.prog u = .ok (.bool (!decide (x = y))) u := by
  rw [run_neq_struct, show (10000 : Nat) = 9997 + 3 from rfl, eqi_hld]
  have h : ((decide (x.seat.row = y.seat.row) && decide (x.seat.let_ = y.seat.let_)) && (decide (x.hol.loc = y.hol.loc) && decide (x.hol.pax = y.hol.pax))) = decide (x = y) := by
    obtain ⟨⟨x0, x1⟩, ⟨x2, x3⟩⟩ := x
    obtain ⟨⟨y0, y1⟩, ⟨y2, y3⟩⟩ := y
    rw [Bool.eq_iff_iff]
    simp
  rw [h]
  rfl
set_option maxRecDepth 100000 in
set_option maxHeartbeats 4000000 in
theorem hsame_any (l : List Hld) (A1 : Option Addr) (n c1 : Nat) (A2 : Option Addr) (c2 : Nat) (w : World) (lo1 hi1 lo2 hi2 : Nat) (h1 : Sl w lo1 hi1 tHld A1 n l) (h2 : Sl w lo2 hi2 tHld A2 n l) (hh1 : hi1 ≤ w.heap.size) (hh2 : hi2 ≤ w.heap.size) (hn : n ≤ 100000) :
    Calls Tryz.prog 39 #[.slice A1 n c1, .slice A2 n c2] w (RetB w true) := by
  have H1 := Lib.hid h1
  have H2 := Lib.hid h2
  clear h1 h2
  go_enter Tryz.func39, Tryz.ntmps39
  go_wp2
  go_loopw [5] (fun i wr => ∃ k : Nat, k ≤ n ∧ i = .int .i64 k ∧ Below w.heap.size w wr) (fun i _ => n - (intOf i).toNat)
  case atStart => exact ⟨0, Nat.zero_le _, rfl, Below.refl _ _⟩
  case round =>
    obtain ⟨k, hk, rfl, hb⟩ := hrel
    by_cases hlt : k < n
    · obtain ⟨b1, o1, x, hA1, _, hb1, hx1, hxok, d0, d1, d2, d3⟩ := (Sl.below H1.out hb hh1).hld_ hlt
      obtain ⟨b2, o2, y, hA2, _, hb2, hx2, hyok, e0, e1, e2, e3⟩ := (Sl.below H2.out hb hh2).hld_ hlt
      obtain rfl : x = y := Option.some.inj (hx1.out.symm.trans hx2.out)
      subst hA1
      subst hA2
      have i0 : (0 : Int) ≤ k := by omega
      have i1 : (k : Int) < n := by omega
      have hz := hb.size
      have hb1w : b1 < wr.heap.size := by omega
      have hb2w : b2 < wr.heap.size := by omega
      have hne := fun u => neq_hld x u
      have HB := Lib.hid hb
      clear hx1 hx2 hxok hyok hb
      go_upto_region 6 with fail
      refine wp_region_below (by kernel_rfl) (by kernel_rfl) ?_
      intro q9
      repeat
        (refine QH.step (fun K9 hK9 => ?_)
         go_simp
         first
         | (refine hK9 _ ?_; clear hK9 K9)
         | (apply Exists.intro
            refine ⟨fun _ => ?_, hK9 _ ?_⟩
            · first | fail
            clear hK9 K9))
      refine QH.nil_ ?_
      clear q9
      rintro ⟨V9, hV9⟩
      dsimp only
      have HB9 := Lib.hid (HB.out.trans (hV9.mono hz))
      go_wp2
      go_roundw
      case rel => exact ⟨k + 1, by omega, by go_num, HB9.out⟩
      case measure => simp [intOf]; omega
    · obtain rfl : n = k := by omega
      have HB := Lib.hid hb
      clear hb
      go_wp2
      go_ret
      exact ⟨rfl, HB.out⟩
/-- The boxes of HoldApart behind its legs: two acts, two legs. -/
structure H4 (W : World) (ka ko gx gy : Nat) (a o : HAct) (x y : Leg) : Prop where
  ba : Bx W ka #[.int .i64 a.kind, .int .i64 a.fl, .string a.leg.key.car, .int .i64 a.leg.key.num, .int .i64 a.leg.day, .int .i64 a.seat.row, .int .u8 a.seat.let_, .string a.hol.loc, .int .i64 a.hol.pax] 71
  bo : Bx W ko #[.int .i64 o.kind, .int .i64 o.fl, .string o.leg.key.car, .int .i64 o.leg.key.num, .int .i64 o.leg.day, .int .i64 o.seat.row, .int .u8 o.seat.let_, .string o.hol.loc, .int .i64 o.hol.pax] 71
  bx : Bx W gx #[.string x.key.car, .int .i64 x.key.num, .int .i64 x.day] 27
  by_ : Bx W gy #[.string y.key.car, .int .i64 y.key.num, .int .i64 y.day] 27
section
variable {W W' : World} {ka ko gx gy : Nat} {a o : HAct} {x y : Leg}
theorem H4.below (h : H4 W ka ko gx gy a o x y) (hb : Below W.heap.size W W') : H4 W' ka ko gx gy a o x y := ⟨h.ba.below hb h.ba.lt, h.bo.below hb h.bo.lt, h.bx.below hb h.bx.lt, h.by_.below hb h.by_.lt⟩
theorem H4.kb {b : Nat} (h : H4 W ka ko gx gy a o x y) (hk : Kb b W W') (h1 : ka ≠ b) (h2 : ko ≠ b) (h3 : gx ≠ b) (h4 : gy ≠ b) : H4 W' ka ko gx gy a o x y := ⟨h.ba.kb hk h1, h.bo.kb hk h2, h.bx.kb hk h3, h.by_.kb hk h4⟩
theorem Sl.kb {α : Type} {T : Ty α} {lo hi n b : Nat} {A : Option Addr} {l : List α} (h : Sl W lo hi T A n l) (hk : Kb b W W') (h1 : b < lo) (h2 : hi ≤ W.heap.size) : Sl W' lo hi T A n l :=
  Sl.keep h fun p hp1 hp2 => World.cell?_of_block (hk.block p.block (by omega) (by omega))
theorem Sl.kbx {α : Type} {T : Ty α} {lo hi n b : Nat} {A : Option Addr} {l : List α} (h : Sl W lo hi T A n l) (hk : Kb b W W') (h1 : hi ≤ b) (h2 : hi ≤ W.heap.size) : Sl W' lo hi T A n l :=
  Sl.keep h fun p hp1 hp2 => World.cell?_of_block (hk.block p.block (by omega) (by omega))
end
theorem on_eq {q : Hpl → Option Hol} {g : Leg} {l m : List Hld} (h1 : RisL ltHd l) (h2 : RisL ltHd m) (hl : ∀ x, x ∈ l ↔ q ⟨g, x.seat⟩ = some x.hol) (hm : ∀ x, x ∈ m ↔ q ⟨g, x.seat⟩ = some x.hol) : m = l :=
  RisL.eq lts_hd h2 h1 fun x => by rw [hl x, hm x]
theorem updH_back (q : Hpl → Option Hol) (c : Hpl) (x : Hol) (h : q c = none) : updH (updH q c (some x)) c none = q := by
  funext d
  by_cases e : d = c
  · subst e
    rw [updH_same, h]
  · rw [updH_other _ _ _ e, updH_other _ _ _ e]
end Go.Proofs.YtlkdefmceghmnaaGreat
