/- The document's rows of what is sold, and its list of legs: in plain. Go's '==' at legs. -/
import Derived.Test.YtlkdefmceghmnaaGreatFlEq
import Derived.Test.YtlkdefmceghmnaaGreatStG
import Derived.Test.YtlkdefmceghmnaaGreatStPl
namespace Go.Proofs.YtlkdefmceghmnaaGreat
set_option linter.unusedVariables false
open Go Go.RowKit Go.Sort
set_option maxHeartbeats 1000000 in
theorem eqi_leg (d : Nat) (a0 b0 : ByteArray) (a1 b1 : Int) (a2 b2 : Int) (u : World) : (Op.equalIn (d + 3) 27 (.agg #[.string a0, .int .i64 a1, .int .i64 a2]) (.agg #[.string b0, .int .i64 b1, .int .i64 b2])).run Tryz.prog u = .ok (decide (a0 = b0) && (decide (a1 = b1) && (decide (a2 = b2)))) u := by
  have uint := Tryz.underlying3
  have hS : Tryz.prog.underlying 27 = some (.struct (Tryz.prog.fieldsOf 27)) := by kernel_rfl
  have hp : Tryz.prog.stoodInHeld 27 = false := by kernel_rfl
  rw [run_equalIn_agg u (d + 2) _ _ _ hS hp]
  have e0 := fun u => eqi_key (d + 0) a0 b0 a1 b1 u
  have z0 := Tryz.sizeOf25
  have y0 := Tryz.isAgg25
  simp only [Program.fieldsOf, Tryz.underlying27]
  go_simp
  try simp only [toL]
  by_cases h0 : a0 = b0 <;> by_cases h1 : a1 = b1 <;> by_cases h2 : a2 = b2 <;> simp [h0, h1, h2]
theorem eql_leg (a0 b0 : ByteArray) (a1 b1 : Int) (a2 b2 : Int) (u : World) : (binOp .eql 27 (.agg #[.string a0, .int .i64 a1, .int .i64 a2]) (.agg #[.string b0, .int .i64 b1, .int .i64 b2])).run Tryz.prog u = .ok (.bool ((decide (a0 = b0) && (decide (a1 = b1) && (decide (a2 = b2)))))) u := by
  rw [run_eql_struct, show (10000 : Nat) = 9997 + 3 from rfl, eqi_leg]
  rfl
theorem neq_leg (a0 b0 : ByteArray) (a1 b1 : Int) (a2 b2 : Int) (u : World) : (binOp .neq 27 (.agg #[.string a0, .int .i64 a1, .int .i64 a2]) (.agg #[.string b0, .int .i64 b1, .int .i64 b2])).run Tryz.prog u = .ok (.bool (!(decide (a0 = b0) && (decide (a1 = b1) && (decide (a2 = b2)))))) u := by
  rw [run_neq_struct, show (10000 : Nat) = 9997 + 3 from rfl, eqi_leg]
  rfl
theorem dec_leg (a0 b0 : ByteArray) (a1 b1 a2 b2 : Int) : (decide (a0 = b0) && (decide (a1 = b1) && (decide (a2 = b2)))) = decide ((⟨⟨a0, a1⟩, a2⟩ : Leg) = ⟨⟨b0, b1⟩, b2⟩) := by
  rw [Bool.eq_iff_iff]
  simp [and_assoc]
theorem eql_lg (a b : Leg) (u : World) : (binOp .eql 27 (.agg #[.string a.key.car, .int .i64 a.key.num, .int .i64 a.day]) (.agg #[.string b.key.car, .int .i64 b.key.num, .int .i64 b.day])).run Tryz.prog u = .ok (.bool (decide (a = b))) u := by
  rw [eql_leg, dec_leg]
theorem neq_lg (a b : Leg) (u : World) : (binOp .neq 27 (.agg #[.string a.key.car, .int .i64 a.key.num, .int .i64 a.day]) (.agg #[.string b.key.car, .int .i64 b.key.num, .int .i64 b.day])).run Tryz.prog u = .ok (.bool (!decide (a = b))) u := by
  rw [neq_leg, dec_leg]
instance : DecidableEq Cel := fun a b => decidable_of_iff (a.leg = b.leg ∧ a.cl = b.cl) (by cases a; cases b; simp)
/-- A row: a class of a leg, and how many are sold. -/
structure Row10 where
  c : Cel
  n : Int
def Row10.ok (r : Row10) : Prop := r.c.ok ∧ okInt r.n
def tRow : Ty Row10 := ⟨fun r => [.string r.c.leg.key.car, .int .i64 r.c.leg.key.num, .int .i64 r.c.leg.day, .int .u8 r.c.cl, .int .i64 r.n], 5, Row10.ok, fun _ => rfl, fun x u h => by simp at h; rcases h with h | h | h | h | h <;> subst h <;> rfl, by omega⟩
theorem sl_row : SlT Tryz.prog 44 122 5 := SlT.mk' (z := .agg #[.string ⟨#[]⟩, .int .i64 0, .int .i64 0, .int .u8 0, .int .i64 0]) (b := 48) (by kernel_rfl) (by kernel_rfl) (by omega) rfl
theorem sl_leg : SlT Tryz.prog 48 27 3 := SlT.mk' (z := .agg #[.string ⟨#[]⟩, .int .i64 0, .int .i64 0]) (b := 32) (by kernel_rfl) (by kernel_rfl) (by omega) rfl
theorem Sl.row_ {w : World} {lo hi k n : Nat} {A : Option Addr} {l : List Row10} (h : Sl w lo hi tRow A n l) (hk : k < n) :
    ∃ b o x, A = some ⟨b, o, none⟩ ∧ lo ≤ b ∧ b < hi ∧ Hid (l[k]? = some x) ∧ Row10.ok x ∧ w.cell? ⟨b, o + k * 5, none⟩ = some (.string x.c.leg.key.car) ∧ w.cell? ⟨b, o + k * 5 + 1, none⟩ = some (.int .i64 x.c.leg.key.num) ∧ w.cell? ⟨b, o + k * 5 + 2, none⟩ = some (.int .i64 x.c.leg.day) ∧ w.cell? ⟨b, o + k * 5 + 3, none⟩ = some (.int .u8 x.c.cl) ∧ w.cell? ⟨b, o + k * 5 + 4, none⟩ = some (.int .i64 x.n) := by
  obtain ⟨b, o, x, h1, h2, h3, h4, h5, hc⟩ := h.at_ hk
  exact ⟨b, o, x, h1, h2, h3, h4, h5, by simpa [tRow] using hc 0 _ rfl, hc 1 _ rfl, hc 2 _ rfl, hc 3 _ rfl, hc 4 _ rfl⟩
theorem Sl.leg_ {w : World} {lo hi k n : Nat} {A : Option Addr} {l : List Leg} (h : Sl w lo hi tLeg A n l) (hk : k < n) :
    ∃ b o x, A = some ⟨b, o, none⟩ ∧ lo ≤ b ∧ b < hi ∧ Hid (l[k]? = some x) ∧ Leg.ok x ∧ w.cell? ⟨b, o + k * 3, none⟩ = some (.string x.key.car) ∧ w.cell? ⟨b, o + k * 3 + 1, none⟩ = some (.int .i64 x.key.num) ∧ w.cell? ⟨b, o + k * 3 + 2, none⟩ = some (.int .i64 x.day) := by
  obtain ⟨b, o, x, h1, h2, h3, h4, h5, hc⟩ := h.at_ hk
  exact ⟨b, o, x, h1, h2, h3, h4, h5, by simpa [tLeg] using hc 0 _ rfl, hc 1 _ rfl, hc 2 _ rfl⟩
/-- How many are sold, of rows; rows with one more. -/
def soldR (m : List Row10) (c : Cel) : Int := match m.find? (fun r => decide (r.c = c)) with | some r => r.n | none => 0
def keepR (m : List Row10) (c : Cel) : List Row10 := m.filter fun r => decide (r.c ≠ c)
def putR (m : List Row10) (c : Cel) (n : Int) : List Row10 := keepR m c ++ if 0 < n then [⟨c, n⟩] else []
def noC (m : List Row10) (c : Cel) (n : Nat) : Prop := ∀ j r, j < n → m[j]? = some r → r.c ≠ c
theorem noC.next {m : List Row10} {c : Cel} {n : Nat} {r : Row10} (h : noC m c n) (hx : m[n]? = some r) (hr : r.c ≠ c) : noC m c (n + 1) := fun i s hi hs => by
  rcases Nat.lt_succ_iff_lt_or_eq.1 hi with h2 | rfl
  · exact h i s h2 hs
  · rw [hx] at hs
    injection hs with hs
    exact hs ▸ hr
theorem soldR_at {m : List Row10} {c : Cel} {n : Nat} {r : Row10} (h : noC m c n) (hx : m[n]? = some r) (hr : r.c = c) : soldR m c = r.n := by
  have : m.find? (fun r => decide (r.c = c)) = some r := by
    induction n generalizing m with
    | zero =>
      cases m with
      | nil => cases hx
      | cons a t =>
        simp only [List.getElem?_cons_zero, Option.some.injEq] at hx
        subst hx
        rw [List.find?_cons, decide_eq_true hr]
    | succ n ih =>
      cases m with
      | nil => cases hx
      | cons a t =>
        rw [List.find?_cons, decide_eq_false (h 0 a (by omega) rfl)]
        exact ih (fun j s hj hs => h (j + 1) s (by omega) (by simpa using hs)) (by simpa using hx)
  unfold soldR
  rw [this]
theorem soldR_no {m : List Row10} {c : Cel} (h : noC m c m.length) : soldR m c = 0 := by
  have : m.find? (fun r => decide (r.c = c)) = none := by
    rw [List.find?_eq_none]
    intro r hr
    obtain ⟨j, hj⟩ := List.mem_iff_getElem?.1 hr
    simpa using h j r (List.getElem?_eq_some_iff.1 hj).1 hj
  unfold soldR
  rw [this]
theorem keepR_next {m : List Row10} {k : Nat} {x : Row10} {c : Cel} (h : m[k]? = some x) : keepR (m.take (k + 1)) c = keepR (m.take k) c ++ (if x.c = c then [] else [x]) := by
  rw [List.take_add_one, h]
  unfold keepR
  rw [List.filter_append]
  by_cases e : x.c = c <;> simp [e]
theorem keepR_len (m : List Row10) (c : Cel) : (keepR m c).length ≤ m.length := List.length_filter_le _ _
theorem putR_len (m : List Row10) (c : Cel) (n : Int) : (putR m c n).length ≤ m.length + 1 := by
  have h := keepR_len m c
  unfold putR
  split <;> simp <;> omega
/-- Rows tell what is sold. -/
structure RQ (m : List Row10) (q : Cel → Int) : Prop where
  at_ : ∀ r ∈ m, q r.c = r.n
  no : ∀ c, (∀ r ∈ m, r.c ≠ c) → q c = 0
  pos : ∀ r ∈ m, 0 < r.n
theorem RQ.nil_ : RQ [] (fun _ => 0) := ⟨by simp, fun _ _ => rfl, by simp⟩
theorem RQ.sold {m : List Row10} {q : Cel → Int} (h : RQ m q) (c : Cel) : soldR m c = q c := by
  unfold soldR
  cases hf : m.find? (fun r => decide (r.c = c)) with
  | none =>
    rw [List.find?_eq_none] at hf
    exact (h.no c fun r hr => by simpa using hf r hr).symm
  | some r =>
    have h1 := List.mem_of_find?_eq_some hf
    have h2 : r.c = c := by simpa using List.find?_some hf
    rw [← h2]
    exact (h.at_ r h1).symm
theorem RQ.put {m : List Row10} {q : Cel → Int} (h : RQ m q) (c : Cel) {n : Int} (hn : 0 ≤ n) : RQ (putR m c n) (updQ q c n) := by
  have hm : ∀ r, r ∈ putR m c n ↔ (r ∈ m ∧ r.c ≠ c) ∨ (0 < n ∧ r = ⟨c, n⟩) := fun r => by
    unfold putR keepR
    by_cases h0 : 0 < n <;> simp [h0]
  refine ⟨fun r hr => ?_, fun d hd => ?_, fun r hr => ?_⟩
  · rcases (hm r).1 hr with ⟨h1, h2⟩ | ⟨h1, rfl⟩
    · rw [updQ_other _ _ _ h2]; exact h.at_ r h1
    · rw [updQ_same]
  · by_cases e : d = c
    · subst e
      rw [updQ_same]
      refine Classical.byContradiction fun h0 => ?_
      exact hd ⟨d, n⟩ ((hm _).2 (.inr ⟨by omega, rfl⟩)) rfl
    · rw [updQ_other _ _ _ e]
      refine h.no d fun r hr e2 => hd r ((hm r).2 (.inl ⟨hr, fun e3 => e (e2.symm.trans e3)⟩)) e2
  · rcases (hm r).1 hr with ⟨h1, _⟩ | ⟨h1, rfl⟩
    · exact h.pos r h1
    · exact h1
/-- A rising list of legs with a leg: as the rounds make it. -/
def stG (x : Leg) (p : List Leg × Bool) (y : Leg) : List Leg × Bool :=
  let r := if p.2 = false ∧ ltG y x = false then (p.1 ++ [x], true) else p
  if y = x then r else (r.1 ++ [y], r.2)
def foG (x : Leg) (l : List Leg) : List Leg × Bool := l.foldl (stG x) ([], false)
def puG (x : Leg) (l : List Leg) : List Leg := if (foG x l).2 then (foG x l).1 else (foG x l).1 ++ [x]
theorem foG_snoc (x : Leg) (l : List Leg) (y : Leg) : foG x (l ++ [y]) = stG x (foG x l) y := by unfold foG; rw [List.foldl_append]; rfl
def insG (x : Leg) : List Leg → List Leg
  | [] => [x]
  | y :: t => if ltG y x then y :: insG x t else x :: (y :: t).filter fun z => decide (z ≠ x)
theorem foG_true (x : Leg) : ∀ (l acc : List Leg), l.foldl (stG x) (acc, true) = (acc ++ l.filter (fun z => decide (z ≠ x)), true)
  | [], acc => by simp
  | y :: l, acc => by
    rw [List.foldl_cons]
    by_cases e : y = x
    · rw [show stG x (acc, true) y = (acc, true) by simp [stG, e], foG_true x l]
      simp [e]
    · rw [show stG x (acc, true) y = (acc ++ [y], true) by simp [stG, e], foG_true x l]
      simp [e]
theorem foG_fin (x : Leg) : ∀ (l acc : List Leg), (let p := l.foldl (stG x) (acc, false); if p.2 then p.1 else p.1 ++ [x]) = acc ++ insG x l
  | [], acc => by simp [insG]
  | y :: l, acc => by
    rw [List.foldl_cons]
    unfold insG
    by_cases h : ltG y x = true
    · have e : y ≠ x := fun e => by rw [e, lts_g.irr] at h; cases h
      rw [show stG x (acc, false) y = (acc ++ [y], false) by simp [stG, h, e], if_pos h]
      have := foG_fin x l (acc ++ [y])
      rw [this]
      simp
    · have h' : ltG y x = false := by simpa using h
      rw [if_neg h]
      by_cases e : y = x
      · rw [show stG x (acc, false) y = (acc ++ [x], true) by simp [stG, e, lts_g.irr], foG_true]
        simp [e]
      · rw [show stG x (acc, false) y = (acc ++ [x] ++ [y], true) by simp [stG, h', e], foG_true]
        simp [e]
theorem puG_is (x : Leg) (l : List Leg) : puG x l = insG x l := by
  have := foG_fin x l []
  unfold puG foG
  simpa using this
theorem mem_insG (x g : Leg) : ∀ l : List Leg, g ∈ insG x l ↔ g = x ∨ g ∈ l
  | [] => by simp [insG]
  | y :: l => by
    unfold insG
    split
    · simp only [List.mem_cons, mem_insG x g l]
      constructor
      · rintro (h | h | h) <;> simp [h]
      · rintro (h | h | h) <;> simp [h]
    · simp only [List.mem_cons, List.mem_filter, decide_eq_true_eq]
      constructor
      · rintro (h | ⟨h, _⟩)
        · exact .inl h
        · exact .inr h
      · intro h
        by_cases e : g = x
        · exact .inl e
        · rcases h with h | h
          · exact absurd h e
          · exact .inr ⟨h, e⟩
theorem RisL.insG {x : Leg} : ∀ {l : List Leg}, RisL ltG l → RisL ltG (insG x l)
  | [], _ => List.pairwise_singleton _ _
  | y :: l, h => by
    obtain ⟨h1, h2⟩ := List.pairwise_cons.1 h
    unfold Go.Proofs.YtlkdefmceghmnaaGreat.insG
    split
    · rename_i hlt
      refine List.pairwise_cons.2 ⟨fun z hz => ?_, RisL.insG h2⟩
      rcases (mem_insG x z l).1 hz with rfl | hz
      · exact hlt
      · exact h1 z hz
    · rename_i hlt
      refine List.pairwise_cons.2 ⟨fun z hz => ?_, List.Pairwise.filter _ h⟩
      rw [List.mem_filter, decide_eq_true_eq] at hz
      obtain ⟨hz, hne⟩ := hz
      rcases ltG_or hne with h3 | h3
      · exfalso
        rcases List.mem_cons.1 hz with rfl | hz
        · exact hlt h3
        · exact hlt (lts_g.tr _ _ _ (h1 z hz) h3)
      · exact h3
/-- The legs of rows. -/
def legsR (m : List Row10) : List Leg := m.foldl (fun acc r => puG r.c.leg acc) []
theorem legsR_next {m : List Row10} {k : Nat} {x : Row10} (h : m[k]? = some x) : legsR (m.take (k + 1)) = puG x.c.leg (legsR (m.take k)) := by
  rw [List.take_add_one, h]
  unfold legsR
  rw [List.foldl_append]
  rfl
theorem legsR_facts : ∀ (m : List Row10) (acc : List Leg), RisL ltG acc → RisL ltG (m.foldl (fun acc r => puG r.c.leg acc) acc) ∧ ∀ g, g ∈ m.foldl (fun acc r => puG r.c.leg acc) acc ↔ g ∈ acc ∨ ∃ r ∈ m, r.c.leg = g
  | [], acc, h => ⟨h, by simp⟩
  | r :: m, acc, h => by
    rw [List.foldl_cons, puG_is]
    obtain ⟨h1, h2⟩ := legsR_facts m (insG r.c.leg acc) h.insG
    refine ⟨h1, fun g => ?_⟩
    rw [h2, mem_insG]
    simp only [List.mem_cons, exists_eq_or_imp]
    constructor
    · rintro ((h | h) | h)
      · exact .inr (.inl h.symm)
      · exact .inl h
      · exact .inr (.inr h)
    · rintro (h | h | h)
      · exact .inl (.inr h)
      · exact .inl (.inl h.symm)
      · exact .inr h
theorem legsR_len : ∀ (m : List Row10) (acc : List Leg), (m.foldl (fun acc r => puG r.c.leg acc) acc).length ≤ acc.length + m.length
  | [], acc => by simp
  | r :: m, acc => by
    rw [List.foldl_cons, puG_is]
    have h1 := legsR_len m (insG r.c.leg acc)
    have h2 : ∀ (x : Leg) (l : List Leg), (insG x l).length ≤ l.length + 1 := by
      intro x l
      induction l with
      | nil => simp [insG]
      | cons y t ih =>
        unfold insG
        split
        · simp; omega
        · have := List.length_filter_le (fun z => decide (z ≠ x)) (y :: t)
          simp only [List.length_cons] at this ⊢
          omega
    have h3 := h2 r.c.leg acc
    simp only [List.length_cons]
    omega
theorem foG_len (x : Leg) : ∀ (l acc : List Leg) (d : Bool), (l.foldl (stG x) (acc, d)).1.length ≤ acc.length + l.length + 1 ∧ (d = true → (l.foldl (stG x) (acc, d)).1.length ≤ acc.length + l.length)
  | [], acc, d => by simp
  | y :: l, acc, d => by
    rw [List.foldl_cons]
    have h1 := foG_len x l (stG x (acc, d) y).1 (stG x (acc, d) y).2
    have h2 : (stG x (acc, d) y).1.length ≤ acc.length + 2 ∧ ((stG x (acc, d) y).2 = false → (stG x (acc, d) y).1.length ≤ acc.length + 1) ∧ (d = true → (stG x (acc, d) y).2 = true ∧ (stG x (acc, d) y).1.length ≤ acc.length + 1) := by
      unfold stG
      cases d <;> by_cases e : y = x <;> by_cases e2 : ltG y x = false <;> (subst_vars; simp [*]; try (split <;> simp))
    simp only [List.length_cons]
    obtain ⟨h3, h4⟩ := h1
    obtain ⟨h5, h6, h7⟩ := h2
    refine ⟨?_, fun hd => ?_⟩
    · cases h8 : (stG x (acc, d) y).2 with
      | true => have := h4 h8; simp only [Prod.eta] at *; omega
      | false => have := h6 h8; simp only [Prod.eta] at *; omega
    · obtain ⟨h8, h9⟩ := h7 hd
      have := h4 h8
      simp only [Prod.eta] at *
      omega
/-- The stock's list of legs is the rows'. -/
theorem RQ.legs {m : List Row10} {q : Cel → Int} (h : RQ m q) (hok : ∀ r ∈ m, r.ok) {out : List Leg} (h1 : RisL ltG out) (h2 : ∀ g, g ∈ out ↔ ∃ c : Cel, c.ok ∧ q c ≠ 0 ∧ c.leg = g) : out = legsR m := by
  obtain ⟨h3, h4⟩ := legsR_facts m [] List.Pairwise.nil
  refine RisL.eq lts_g h1 h3 fun g => ?_
  show _ ↔ g ∈ m.foldl (fun acc r => puG r.c.leg acc) []
  rw [h2, h4]
  constructor
  · rintro ⟨c, hc, hq, rfl⟩
    refine .inr (Classical.byContradiction fun hno => hq (h.no c fun r hr e => hno ⟨r, hr, by rw [e]⟩))
  · rintro (h | ⟨r, hr, rfl⟩)
    · cases h
    · have h5 := h.at_ r hr
      have h6 := h.pos r hr
      exact ⟨r.c, (hok r hr).1, by omega, rfl⟩
theorem RQ.cells {m : List Row10} {q : Cel → Int} (h : RQ m q) (c : Cel) (hq : q c ≠ 0) : c ∈ m.map (·.c) := by
  refine Classical.byContradiction fun hno => hq (h.no c fun r hr e => hno (List.mem_map.2 ⟨r, hr, e⟩))
end Go.Proofs.YtlkdefmceghmnaaGreat
