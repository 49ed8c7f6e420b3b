/- Flights: the plain laws: what a sorted table tells is what the document tells of the list; links rise. No program walked. -/
import Derived.Test.YtlkdefmceghmnaaGreatDoorFl2
namespace Go.Proofs.YtlkdefmceghmnaaGreatDoor
set_option linter.unusedVariables false
open Go Go.RowKit
/-- By one order, then by another. -/
def lexL {α : Type} (p q : α → α → Bool) (a b : α) : Bool := p a b || (!(p b a) && q a b)
theorem lexL_iff {α : Type} (p q : α → α → Bool) (a b : α) : lexL p q a b = true ↔ p a b = true ∨ (p b a = false ∧ q a b = true) := by simp [lexL]
theorem lexL_no {α : Type} {p q : α → α → Bool} (H : Lts p) (a b : α) : lexL p q a b = false ↔ p b a = true ∨ (p a b = false ∧ p b a = false ∧ q a b = false) := by
  unfold lexL
  cases h1 : p a b with
  | true => simp [H.asym h1]
  | false => cases h2 : p b a <;> simp
theorem lts_lex {α : Type} {p q : α → α → Bool} (H : Lts p) (G : Lts q) : Lts (lexL p q) where
  irr x := by simp [lexL, H.irr, G.irr]
  tr x y z h1 h2 := by
    rw [lexL_iff] at *
    rcases h1 with h1 | ⟨h1, g1⟩ <;> rcases h2 with h2 | ⟨h2, g2⟩
    · exact .inl (H.tr _ _ _ h1 h2)
    · cases e : p x z with
      | true => exact .inl rfl
      | false => have := H.ntr _ _ _ e h2; rw [this] at h1; cases h1
    · cases e : p x z with
      | true => exact .inl rfl
      | false => have := H.ntr _ _ _ h1 e; rw [this] at h2; cases h2
    · cases e : p x z with
      | true => exact .inl rfl
      | false => exact .inr ⟨H.ntr _ _ _ h2 h1, G.tr _ _ _ g1 g2⟩
  ntr x y z h1 h2 := by
    rw [lexL_no H] at *
    rcases h1 with h1 | ⟨h1, h3, g1⟩ <;> rcases h2 with h2 | ⟨h2, h4, g2⟩
    · exact .inl (H.tr _ _ _ h2 h1)
    · cases e : p z x with
      | true => exact .inl rfl
      | false => have := H.ntr _ _ _ h2 e; rw [this] at h1; cases h1
    · cases e : p z x with
      | true => exact .inl rfl
      | false => have := H.ntr _ _ _ e h1; rw [this] at h2; cases h2
    · cases e : p z x with
      | true => exact .inl rfl
      | false => exact .inr ⟨H.ntr _ _ _ h1 h2, rfl, G.ntr _ _ _ g1 g2⟩
def ltP : Flt × Flt → Flt × Flt → Bool := lexL (fun x y => ltT x.1 y.1) (fun x y => ltT x.2 y.2)
theorem lts_pull {α β : Type} {lt : β → β → Bool} (H : Lts lt) (f : α → β) : Lts fun x y => lt (f x) (f y) := ⟨fun x => H.irr _, fun x y z => H.tr _ _ _, fun x y z => H.ntr _ _ _⟩
theorem lts_p : Lts ltP := lts_lex (lts_pull lts_t (Prod.fst : Flt × Flt → Flt)) (lts_pull lts_t (Prod.snd : Flt × Flt → Flt))
theorem ltT_key {a b : Flt} (h1 : ltT a b = false) (h2 : ltT b a = false) : a.key = b.key := by
  by_cases h : a.key = b.key
  · exact h
  · rcases ltT_or h with g | g
    · rw [g] at h1; cases h1
    · rw [g] at h2; cases h2
/-- No key twice, in both lists: the pairs of a rising list with one rise. -/
theorem pairs_ris {l m : List Flt} (h1 : RisL ltT l) (h2 : RisL ltT m) (p : Flt → Flt → Bool) : RisL ltP (pairsF l m p) := by
  unfold pairsF RisL
  induction l with
  | nil => exact List.Pairwise.nil
  | cons a l ih =>
    obtain ⟨g1, g2⟩ := List.pairwise_cons.1 h1
    rw [List.flatMap_cons]
    refine List.pairwise_append.2 ⟨?_, ih g2, ?_⟩
    · rw [List.pairwise_map]
      refine (h2.sublist List.filter_sublist).imp fun {x y} hxy => ?_
      show ltP (a, x) (a, y) = true
      unfold ltP
      rw [lexL_iff]
      exact .inr ⟨lts_t.irr _, hxy⟩
    · intro x hx y hy
      obtain ⟨x', _, rfl⟩ := List.mem_map.1 hx
      obtain ⟨z, hz, hy⟩ := List.mem_flatMap.1 hy
      obtain ⟨y', _, rfl⟩ := List.mem_map.1 hy
      unfold ltP
      rw [lexL_iff]
      exact .inl (g1 z hz)
theorem mem_pairs {l m : List Flt} {p : Flt → Flt → Bool} {x : Flt × Flt} : x ∈ pairsF l m p ↔ x.1 ∈ l ∧ x.2 ∈ m ∧ p x.1 x.2 = true := by
  unfold pairsF
  rw [List.mem_flatMap]
  constructor
  · rintro ⟨a, ha, hx⟩
    obtain ⟨b, hb, rfl⟩ := List.mem_map.1 hx
    obtain ⟨h1, h2⟩ := List.mem_filter.1 hb
    exact ⟨ha, h1, h2⟩
  · rintro ⟨h1, h2, h3⟩
    exact ⟨x.1, h1, List.mem_map.2 ⟨x.2, List.mem_filter.2 ⟨h2, h3⟩, rfl⟩⟩
/-- No two flights of one key. -/
def Nok (l : List Flt) : Prop := l.Pairwise fun a b => a.key ≠ b.key
theorem nok_iff (l : List Flt) : Nok l ↔ (l.map Flt.key).Nodup := by
  unfold Nok List.Nodup
  rw [List.pairwise_map]
theorem Nok.sub {l m : List Flt} (h : Nok m) (hs : l.Sublist m) : Nok l := List.Pairwise.sublist hs h
theorem Nok.perm {l m : List Flt} (h : Nok m) (hp : l.Perm m) : Nok l := (hp.pairwise_iff fun h => Ne.symm h).2 h
theorem Nok.of_ris {l : List Flt} (h : RisL ltF l) : Nok l := h.imp fun {a b} hab e => by rw [ltF_key e] at hab; cases hab
theorem Nok.all {l : List Flt} (h : Nok l) : RisL ltT (allL ltT l) ∧ ∀ x, x ∈ allL ltT l ↔ x ∈ l := by
  have := allL_facts lts_t l [] List.Pairwise.nil (by rw [List.nil_append]; exact List.Pairwise.imp (fun hab => ltT_or hab) h)
  refine ⟨this.1, fun x => ?_⟩
  show x ∈ l.foldl (fun acc x => insL ltT x acc) [] ↔ _
  rw [this.2]
  simp
theorem Nok.allF {l : List Flt} (h : Nok l) : RisL ltF (allL ltF l) ∧ ∀ x, x ∈ allL ltF l ↔ x ∈ l := by
  have := allL_facts lts_f l [] List.Pairwise.nil (by rw [List.nil_append]; exact List.Pairwise.imp (fun hab => ltF_or hab) h)
  refine ⟨this.1, fun x => ?_⟩
  show x ∈ l.foldl (fun acc x => insL ltF x acc) [] ↔ _
  rw [this.2]
  simp
theorem Nok.inj {l : List Flt} (h : Nok l) {a b : Flt} (ha : a ∈ l) (hb : b ∈ l) (e : a.key = b.key) : a = b := by
  obtain ⟨i, hi, rfl⟩ := List.mem_iff_getElem.1 ha
  obtain ⟨j, hj, rfl⟩ := List.mem_iff_getElem.1 hb
  rcases Nat.lt_trichotomy i j with h1 | rfl | h1
  · exact absurd e (List.pairwise_iff_getElem.1 h i j hi hj h1)
  · rfl
  · exact absurd e.symm (List.pairwise_iff_getElem.1 h j i hj hi h1)
theorem findF_some {l : List Flt} {k : Key} {f : Flt} (h : findF l k = some f) : f ∈ l ∧ f.key = k := by
  unfold findF at h
  exact ⟨List.mem_of_find?_eq_some h, by simpa using List.find?_some h⟩
theorem findF_none {l : List Flt} {k : Key} (h : findF l k = none) : ∀ f ∈ l, f.key ≠ k := by
  unfold findF at h
  intro f hf
  simpa using (List.find?_eq_none.1 h) f hf
theorem Nok.find {l : List Flt} (h : Nok l) {f : Flt} (hf : f ∈ l) : findF l f.key = some f := by
  cases e : findF l f.key with
  | none => exact absurd rfl (findF_none e f hf)
  | some g => rw [h.inj (findF_some e).1 hf (findF_some e).2]
theorem Nok.find_eq {l m : List Flt} (h : Nok l) (hm : Nok m) (he : ∀ x, x ∈ l ↔ x ∈ m) (k : Key) : findF l k = findF m k := by
  cases e : findF l k with
  | none =>
    cases e2 : findF m k with
    | none => rfl
    | some f => exact absurd (findF_some e2).2 (findF_none e f ((he f).2 (findF_some e2).1))
  | some f =>
    obtain ⟨h1, h2⟩ := findF_some e
    rw [← h2]
    exact (hm.find ((he f).1 h1)).symm
theorem Tab.nok {l L : List Flt} (T : Tab l L) : Nok l := (nok_iff l).2 T.nod
theorem Tab.nokL {l L : List Flt} (T : Tab l L) : Nok L := Nok.of_ris T.ris
theorem Tab.mem {l L : List Flt} (T : Tab l L) (x : Flt) : x ∈ L ↔ x ∈ l := T.perm.mem_iff
theorem Tab.find {l L : List Flt} (T : Tab l L) (k : Key) : findF L k = findF l k := T.nokL.find_eq T.nok T.mem k
theorem Tab.flies {l L : List Flt} (T : Tab l L) (g : Leg) : fliesF L g = fliesF l g := by unfold fliesF; rw [T.find]
theorem Tab.level {l L : List Flt} (T : Tab l L) (g : Leg) (c : Int) : levelF L g c = levelF l g c := by unfold levelF; rw [T.find, T.flies]
theorem Tab.all {l L : List Flt} (T : Tab l L) : allL ltF l = L := RisL.eq lts_f T.nok.allF.1 T.ris fun x => by rw [T.nok.allF.2, T.mem]
theorem Tab.new {l L : List Flt} (T : Tab l L) : newF l = 0 := by
  unfold newF
  rw [if_neg (by have := T.most; omega), if_pos (List.all_eq_true.2 T.right), if_pos T.nod]
theorem Nok.filter {l : List Flt} (h : Nok l) (p : Flt → Bool) : Nok (l.filter p) := h.sub List.filter_sublist
/-- What was sorted by time is what the document tells. -/
theorem betw_eq {L R : List Flt} (h : Nok L) {d : Int} {a b : ByteArray} (hp : R.Perm (L.filter (wayB d a b))) (hs : R.Pairwise fun x y => ltT y x = false) : R = betwF L d a b := by
  have hn := h.filter (wayB d a b)
  refine RisL.eq lts_t (RisL.of_sorted hs ((hn.perm hp).imp fun h => ltT_or h)) hn.all.1 fun x => ?_
  unfold betwF
  rw [hn.all.2, hp.mem_iff]
theorem betw_same {l L : List Flt} (h : Nok l) (h2 : Nok L) (he : ∀ x, x ∈ L ↔ x ∈ l) (d : Int) (a b : ByteArray) : betwF L d a b = betwF l d a b := by
  refine RisL.eq lts_t (h2.filter _).all.1 (h.filter _).all.1 fun x => ?_
  unfold betwF
  rw [(h2.filter _).all.2, (h.filter _).all.2, List.mem_filter, List.mem_filter, he]
theorem links_ris {l : List Flt} (h : Nok l) (d : Int) (a b : ByteArray) : RisL ltP (linksF l d a b) := pairs_ris (h.filter _).all.1 (h.filter _).all.1 _
theorem mem_links {l : List Flt} (h : Nok l) {d : Int} {a b : ByteArray} {x : Flt × Flt} : x ∈ linksF l d a b ↔ (x.1 ∈ l ∧ onB x.1 d = true) ∧ (x.2 ∈ l ∧ onB x.2 d = true) ∧ linkB a b x.1 x.2 = true := by
  unfold linksF
  rw [mem_pairs, (h.filter _).all.2, (h.filter _).all.2, List.mem_filter, List.mem_filter]
theorem links_same {l L : List Flt} (h : Nok l) (h2 : Nok L) (he : ∀ x, x ∈ L ↔ x ∈ l) (d : Int) (a b : ByteArray) : linksF L d a b = linksF l d a b := by
  refine RisL.eq lts_p (links_ris h2 d a b) (links_ris h d a b) fun x => ?_
  rw [mem_links h2, mem_links h, he, he]
/-- The pairs as the program makes them, in the table's order. -/
def prL (L : List Flt) (d : Int) (a b : ByteArray) : List (Flt × Flt) := pairsF (L.filter fun f => onB f d) (L.filter fun f => onB f d) (linkB a b)
theorem pairs_nok {l m : List Flt} (h : Nok l) (h2 : Nok m) (p : Flt → Flt → Bool) : (pairsF l m p).Pairwise fun x y => ltP x y = true ∨ ltP y x = true := by
  unfold pairsF
  induction l with
  | nil => exact List.Pairwise.nil
  | cons a l ih =>
    obtain ⟨g1, g2⟩ := List.pairwise_cons.1 h
    rw [List.flatMap_cons]
    refine List.pairwise_append.2 ⟨?_, ih g2, ?_⟩
    · rw [List.pairwise_map]
      refine ((h2.filter (p a)) : List.Pairwise _ _).imp fun {x y} hxy => ?_
      unfold ltP
      simp only [lexL_iff]
      rcases ltT_or hxy with g | g
      · exact .inl (.inr ⟨lts_t.irr _, g⟩)
      · exact .inr (.inr ⟨lts_t.irr _, g⟩)
    · intro x hx y hy
      obtain ⟨x', _, rfl⟩ := List.mem_map.1 hx
      obtain ⟨z, hz, hy⟩ := List.mem_flatMap.1 hy
      obtain ⟨y', _, rfl⟩ := List.mem_map.1 hy
      unfold ltP
      simp only [lexL_iff]
      rcases ltT_or (g1 z hz) with g | g
      · exact .inl (.inl g)
      · exact .inr (.inl g)
theorem links_eq {L : List Flt} {R : List (Flt × Flt)} (h : Nok L) {d : Int} {a b : ByteArray} (hp : R.Perm (prL L d a b)) (hs : R.Pairwise fun x y => ltP y x = false) : R = linksF L d a b := by
  have hn : (prL L d a b).Pairwise fun x y => ltP x y = true ∨ ltP y x = true := pairs_nok (h.filter _) (h.filter _) _
  refine RisL.eq lts_p (RisL.of_sorted hs ((hp.pairwise_iff fun h => h.symm).2 hn)) (links_ris h d a b) fun x => ?_
  rw [mem_links h, hp.mem_iff, prL, mem_pairs, List.mem_filter, List.mem_filter]
/-- A table out of a list that was put in order. -/
theorem tab_of {l L : List Flt} (hp : L.Perm l) (hs : L.Pairwise fun x y => ltF y x = false) (hr : l.all rightB = true) (hn : (l.map Flt.key).Nodup) (hm : l.length ≤ 64) : Tab l L :=
  ⟨hp, RisL.of_sorted hs ((((nok_iff l).2 hn).perm hp).imp fun h => ltF_or h), List.all_eq_true.1 hr, hn, hm⟩
end Go.Proofs.YtlkdefmceghmnaaGreatDoor
