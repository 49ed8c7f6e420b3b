/- Strings in their order; things that are due, in theirs; rising lists. No program. -/
import Derived.Sort.Walk0
import Derived.Test.YtlkdefmceghmnaaGreatDoorHeapL
namespace Go.Proofs.YtlkdefmceghmnaaGreatDoor
set_option linter.unusedVariables false
open Go
/-- Which of two texts comes first. -/
def ltS (a b : ByteArray) : Bool := Op.bytesLess a.toList b.toList
theorem ltS_iff (a b : ByteArray) : ltS a b = true ↔ a.toList < b.toList := by unfold ltS; rw [bytesLess_eq]; simp
theorem ltS_irr (a : ByteArray) : ltS a a = false := by
  cases h : ltS a a with
  | false => rfl
  | true => exact absurd ((ltS_iff a a).1 h) (List.lt_irrefl _)
theorem ltS_tr {a b c : ByteArray} (h1 : ltS a b = true) (h2 : ltS b c = true) : ltS a c = true := (ltS_iff a c).2 (List.lt_trans ((ltS_iff a b).1 h1) ((ltS_iff b c).1 h2))
theorem toList_inj {a b : ByteArray} (h : a.toList = b.toList) : a = b := by
  rw [ByteArray.toList_eq, ByteArray.toList_eq] at h
  obtain ⟨a⟩ := a
  obtain ⟨b⟩ := b
  exact congrArg ByteArray.mk (Array.ext' h)
theorem ltS_eq {a b : ByteArray} (h1 : ltS a b = false) (h2 : ltS b a = false) : a = b := by
  have g1 : ¬ a.toList < b.toList := fun h => by rw [(ltS_iff a b).2 h] at h1; cases h1
  have g2 : ¬ b.toList < a.toList := fun h => by rw [(ltS_iff b a).2 h] at h2; cases h2
  exact toList_inj (List.le_antisymm (List.not_lt.1 g2) (List.not_lt.1 g1))
theorem ltS_asym {a b : ByteArray} (h : ltS a b = true) : ltS b a = false := by
  cases e : ltS b a with
  | false => rfl
  | true => have := ltS_tr h e; rw [ltS_irr] at this; cases this
theorem ltS_ntr {a b c : ByteArray} (h1 : ltS a b = false) (h2 : ltS b c = false) : ltS a c = false := by
  cases e : ltS a c with
  | false => rfl
  | true =>
    cases e2 : ltS b a with
    | true => rw [ltS_tr e2 e] at h2; cases h2
    | false => rw [ltS_eq h1 e2] at e; rw [e] at h2; cases h2
/-- A name, and when it is due. -/
structure It where
  name : ByteArray
  mom : Int
/-- Which of two is due first. -/
def ltI (a b : It) : Bool := decide (a.mom < b.mom) || (decide (a.mom = b.mom) && ltS a.name b.name)
theorem ltI_iff (a b : It) : ltI a b = true ↔ a.mom < b.mom ∨ (a.mom = b.mom ∧ ltS a.name b.name = true) := by simp [ltI]
theorem ltI_no (a b : It) : ltI a b = false ↔ b.mom < a.mom ∨ (a.mom = b.mom ∧ ltS a.name b.name = false) := by
  rw [← Bool.not_eq_true, ltI_iff]
  constructor
  · intro h
    by_cases e : b.mom < a.mom
    · exact .inl e
    · refine .inr ⟨by have : ¬ a.mom < b.mom := fun x => h (.inl x); omega, ?_⟩
      rw [← Bool.not_eq_true]
      exact fun x => h (.inr ⟨by have : ¬ a.mom < b.mom := fun x => h (.inl x); omega, x⟩)
  · rintro (h | ⟨h, h2⟩) (h3 | ⟨h3, h4⟩)
    · omega
    · omega
    · omega
    · rw [h2] at h4; cases h4
theorem lts_it : Lts ltI where
  irr x := (ltI_no x x).2 (.inr ⟨rfl, ltS_irr _⟩)
  tr x y z h1 h2 := by
    rw [ltI_iff] at *
    rcases h1 with h1 | ⟨h1, g1⟩ <;> rcases h2 with h2 | ⟨h2, g2⟩
    · exact .inl (by omega)
    · exact .inl (by omega)
    · exact .inl (by omega)
    · exact .inr ⟨by omega, ltS_tr g1 g2⟩
  ntr x y z h1 h2 := by
    rw [ltI_no] at *
    rcases h1 with h1 | ⟨h1, g1⟩ <;> rcases h2 with h2 | ⟨h2, g2⟩
    · exact .inl (by omega)
    · exact .inl (by omega)
    · exact .inl (by omega)
    · exact .inr ⟨by omega, ltS_ntr g1 g2⟩
theorem ltI_eq {a b : It} (h1 : ltI a b = false) (h2 : ltI b a = false) : a = b := by
  rw [ltI_no] at h1 h2
  rcases h1 with h1 | ⟨h1, g1⟩ <;> rcases h2 with h2 | ⟨h2, g2⟩ <;> try omega
  obtain ⟨n, m⟩ := a
  obtain ⟨n', m'⟩ := b
  simp only at *
  rw [h1, ltS_eq g1 g2]
/-- What cmp.Compare tells of two texts, of two numbers; what order tells of two things. -/
def cmpS (a b : ByteArray) : Int := if ltS a b then -1 else if ltS b a then 1 else 0
def cmpN (a b : Int) : Int := if a < b then -1 else if b < a then 1 else 0
def cmpI (a b : It) : Int := if cmpN a.mom b.mom ≠ 0 then cmpN a.mom b.mom else cmpS a.name b.name
theorem cmpI_lt (a b : It) : decide (cmpI a b < 0) = ltI a b := by
  unfold cmpI cmpN cmpS ltI
  by_cases h1 : a.mom < b.mom
  · simp [h1]
  · by_cases h2 : b.mom < a.mom
    · simp [h1, h2]; omega
    · have h3 : a.mom = b.mom := by omega
      by_cases h4 : ltS a.name b.name = true
      · simp [h3, h4]
      · by_cases h5 : ltS b.name a.name = true <;> simp [h3, h4, h5]
/-- A list that rises strictly. -/
def Ris (l : List It) : Prop := l.Pairwise fun a b => ltI a b = true
theorem Ris.nodup {l : List It} (h : Ris l) : l.Nodup := h.imp fun {a b} hab e => by subst e; rw [lts_it.irr] at hab; cases hab
/-- Two rising lists of the same things are one. -/
theorem Ris.eq {l : List It} : ∀ {m : List It}, Ris l → Ris m → (∀ x, x ∈ l ↔ x ∈ m) → l = m := by
  induction l with
  | nil =>
    intro m _ _ h
    cases m with
    | nil => rfl
    | cons x t => exact absurd ((h x).2 List.mem_cons_self) List.not_mem_nil
  | cons a l ih =>
    intro m h1 h2 h
    cases m with
    | nil => exact absurd ((h a).1 List.mem_cons_self) List.not_mem_nil
    | cons b m =>
      obtain ⟨p1, p2⟩ := List.pairwise_cons.1 h1
      obtain ⟨q1, q2⟩ := List.pairwise_cons.1 h2
      have e : a = b := by
        rcases List.mem_cons.1 ((h a).1 List.mem_cons_self) with e | e
        · exact e
        · rcases List.mem_cons.1 ((h b).2 List.mem_cons_self) with e' | e'
          · exact e'.symm
          · have x1 := q1 a e
            rw [lts_it.asym (p1 b e')] at x1
            cases x1
      subst e
      refine congrArg _ (ih p2 q2 fun x => ?_)
      constructor
      · intro hx
        rcases List.mem_cons.1 ((h x).1 (List.mem_cons_of_mem _ hx)) with e | e
        · subst e; have := p1 x hx; rw [lts_it.irr] at this; cases this
        · exact e
      · intro hx
        rcases List.mem_cons.1 ((h x).2 (List.mem_cons_of_mem _ hx)) with e | e
        · subst e; have := q1 x hx; rw [lts_it.irr] at this; cases this
        · exact e
/-- The document's list: without a name; with a name at a moment; what is ripe. -/
def dropF (l : List It) (s : ByteArray) : List It := l.filter fun x => !(decide (x.name = s))
def hasF (l : List It) (s : ByteArray) : Bool := l.any fun x => decide (x.name = s)
def atF (l : List It) (s : ByteArray) : Option It := l.find? fun x => decide (x.name = s)
def insF (x : It) : List It → List It
  | [] => [x]
  | y :: l => if ltI x y then x :: y :: l else y :: insF x l
def setF (l : List It) (s : ByteArray) (m : Int) : List It := insF ⟨s, m⟩ (dropF l s)
def ripeF (l : List It) (now : Int) : List It := l.takeWhile fun x => decide (x.mom ≤ now)
def restF (l : List It) (now : Int) : List It := l.dropWhile fun x => decide (x.mom ≤ now)
/-- No name twice. -/
def Once (l : List It) : Prop := (l.map (·.name)).Nodup
theorem mem_insF (x y : It) : ∀ l, y ∈ insF x l ↔ y = x ∨ y ∈ l := by
  intro l
  induction l with
  | nil => simp [insF]
  | cons a l ih =>
    unfold insF
    split
    · simp
    · simp only [List.mem_cons, ih]
      constructor
      · rintro (h | h | h)
        · exact .inr (.inl h)
        · exact .inl h
        · exact .inr (.inr h)
      · rintro (h | h | h)
        · exact .inr (.inl h)
        · exact .inl h
        · exact .inr (.inr h)
theorem length_insF (x : It) : ∀ l, (insF x l).length = l.length + 1 := by
  intro l
  induction l with
  | nil => rfl
  | cons a l ih =>
    unfold insF
    split
    · rfl
    · simp [ih]
theorem Ris.ins {x : It} : ∀ {l : List It}, Ris l → (∀ y ∈ l, y.name ≠ x.name) → Ris (insF x l) := by
  intro l
  induction l with
  | nil => intro _ _; exact List.pairwise_singleton _ _
  | cons a l ih =>
    intro h hn
    obtain ⟨h1, h2⟩ := List.pairwise_cons.1 h
    unfold insF
    split
    · rename_i hlt
      refine List.pairwise_cons.2 ⟨fun y hy => ?_, h⟩
      rcases List.mem_cons.1 hy with rfl | hy
      · exact hlt
      · exact lts_it.tr _ _ _ hlt (h1 y hy)
    · rename_i hlt
      refine List.pairwise_cons.2 ⟨fun y hy => ?_, ih h2 fun y hy => hn y (List.mem_cons_of_mem _ hy)⟩
      rcases (mem_insF x y l).1 hy with rfl | hy
      · cases e : ltI a y with
        | true => rfl
        | false => exact absurd (congrArg It.name (ltI_eq e (by simpa using hlt))) (hn a List.mem_cons_self)
      · exact h1 y hy
theorem Ris.drop {l : List It} (h : Ris l) (s : ByteArray) : Ris (dropF l s) := h.sublist List.filter_sublist
theorem Ris.set {l : List It} (h : Ris l) (s : ByteArray) (m : Int) : Ris (setF l s m) :=
  (h.drop s).ins fun y hy => by simpa [dropF] using (List.mem_filter.1 hy).2
theorem Once.drop {l : List It} (h : Once l) (s : ByteArray) : Once (dropF l s) := h.sublist (List.filter_sublist.map _)
theorem Once.inj {l : List It} (h : Once l) {x y : It} (hx : x ∈ l) (hy : y ∈ l) (e : x.name = y.name) : x = y := by
  obtain ⟨i, hi⟩ := List.mem_iff_getElem?.1 hx
  obtain ⟨j, hj⟩ := List.mem_iff_getElem?.1 hy
  have g1 : (l.map (·.name))[i]? = some x.name := by rw [List.getElem?_map, hi]; rfl
  have g2 : (l.map (·.name))[j]? = some x.name := by rw [List.getElem?_map, hj, e]; rfl
  have := (List.getElem?_inj (List.getElem?_eq_some_iff.1 g1).1 h).1 (g1.trans g2.symm)
  subst this
  exact Option.some.inj (hi.symm.trans hj)
theorem mem_dropF {l : List It} {s : ByteArray} {x : It} : x ∈ dropF l s ↔ x ∈ l ∧ x.name ≠ s := by simp [dropF]
theorem mem_setF {l : List It} {s : ByteArray} {m : Int} {x : It} : x ∈ setF l s m ↔ x = ⟨s, m⟩ ∨ (x ∈ l ∧ x.name ≠ s) := by
  unfold setF
  rw [mem_insF, mem_dropF]
theorem dropF_none {l : List It} {s : ByteArray} (h : hasF l s = false) : dropF l s = l := by
  unfold dropF
  rw [List.filter_eq_self]
  intro x hx
  have := (List.any_eq_false.1 h) x hx
  simpa using this
theorem length_dropF {l : List It} {s : ByteArray} (ho : Once l) (h : hasF l s = true) : (dropF l s).length + 1 = l.length := by
  induction l with
  | nil => cases h
  | cons a l ih =>
    have ho2 : Once l := (List.nodup_cons.1 ho).2
    have hn := (List.nodup_cons.1 ho).1
    by_cases e : a.name = s
    · have h2 : hasF l s = false := by
        rw [← Bool.not_eq_true]
        intro h3
        obtain ⟨x, hx, h4⟩ := List.any_eq_true.1 h3
        exact hn (List.mem_map.2 ⟨x, hx, (show x.name = a.name by rw [e]; simpa using h4)⟩)
      have : dropF (a :: l) s = dropF l s := by simp [dropF, e]
      rw [this, dropF_none h2]
      rfl
    · have : dropF (a :: l) s = a :: dropF l s := by simp [dropF, e]
      rw [this]
      have h3 : hasF l s = true := by simpa [hasF, e] using h
      simp [ih ho2 h3]
theorem Once.set {l : List It} (h : Once l) (s : ByteArray) (m : Int) : Once (setF l s m) := by
  have hd := h.drop s
  have hn : ∀ y ∈ dropF l s, y.name ≠ s := fun y hy => (mem_dropF.1 hy).2
  unfold setF
  generalize dropF l s = d at hd hn
  induction d with
  | nil => unfold insF Once; simp
  | cons a d ih =>
    unfold insF
    have h1 := List.nodup_cons.1 hd
    split
    · refine List.nodup_cons.2 ⟨?_, hd⟩
      intro hm
      obtain ⟨y, hy, e⟩ := List.mem_map.1 hm
      exact hn y hy e
    · refine List.nodup_cons.2 ⟨?_, ih h1.2 fun y hy => hn y (List.mem_cons_of_mem _ hy)⟩
      intro hm
      obtain ⟨y, hy, e⟩ := List.mem_map.1 hm
      rcases (mem_insF _ _ _).1 hy with rfl | hy
      · exact hn a List.mem_cons_self e.symm
      · exact h1.1 (List.mem_map.2 ⟨y, hy, e⟩)
/-- In a rising list, what is due by now stands first. -/
theorem ripeF_filter {l : List It} (h : Ris l) (now : Int) : ripeF l now = l.filter fun x => decide (x.mom ≤ now) := by
  induction l with
  | nil => rfl
  | cons a l ih =>
    obtain ⟨h1, h2⟩ := List.pairwise_cons.1 h
    unfold ripeF at *
    rw [List.takeWhile_cons, List.filter_cons]
    split
    · rw [ih h2]
    · rename_i e
      symm
      rw [List.filter_eq_nil_iff]
      intro x hx
      have := (ltI_iff a x).1 (h1 x hx)
      simp at e ⊢
      rcases this with h | h <;> omega
theorem ripe_rest (l : List It) (now : Int) : ripeF l now ++ restF l now = l := List.takeWhile_append_dropWhile
end Go.Proofs.YtlkdefmceghmnaaGreatDoor
