/- Law 16: what is due, in its order; two dues side by side. -/
import Derived.Test.YtfbalabmidobeaaDueB
namespace Go.Proofs.Ytfbalabmidobeaa
set_option linter.unusedVariables false
open Go Go.RowKit Go.Sort Go.Shelf
theorem insF_end {x : It} : ∀ {l : List It}, (∀ y ∈ l, ltI x y = false) → insF x l = l ++ [x] := by
  intro l
  induction l with
  | nil => intro _; rfl
  | cons a l ih =>
    intro h
    unfold insF
    rw [if_neg (by rw [h a List.mem_cons_self]; simp), ih fun y hy => h y (List.mem_cons_of_mem _ hy)]
    rfl
theorem Ris.before {L : List It} (h : Ris L) {k : Nat} {x : It} (hx : L[k]? = some x) {y : It} (hy : y ∈ L.take k) : ltI y x = true := by
  obtain ⟨hk, hxx⟩ := List.getElem?_eq_some_iff.1 hx
  have h1 : L = L.take k ++ L.drop k := (List.take_append_drop k L).symm
  rw [h1] at h
  exact (List.pairwise_append.1 h).2.2 y hy x (by rw [List.drop_eq_getElem_cons hk, hxx]; exact List.mem_cons_self)
theorem stF_take {L : List It} (h : Ris L) (ho : Once L) {k : Nat} {x : It} (hx : L[k]? = some x) (hm : isMom x.mom = true) : stF (L.take k) x.name x.mom = L.take (k + 1) := by
  have hn : ∀ y ∈ L.take k, y.name ≠ x.name := fun y hy e => by
    have h1 := h.before hx hy
    rw [ho.inj ((List.take_sublist _ _).subset hy) (List.mem_of_getElem? hx) e, lts_it.irr] at h1
    cases h1
  unfold stF
  rw [if_pos hm]
  unfold setF
  rw [dropF_none (has_no hn), insF_end fun y hy => lts_it.asym (h.before hx hy), List.take_add_one, hx]
  rfl
theorem at_mem {L : List It} (ho : Once L) {x : It} (hx : x ∈ L) : atF L x.name = some x := by
  unfold atF
  cases hf : L.find? fun y => decide (y.name = x.name) with
  | none => exact absurd (List.find?_eq_none.1 hf _ hx) (by simp)
  | some y =>
    have h1 := List.find?_some hf
    have h2 := List.mem_of_find?_eq_some hf
    exact congrArg some (ho.inj h2 hx (by simpa using h1))
/-- x comes after what was told last. -/
def Aft (m : Int) (s : ByteArray) (x : It) : Prop := m < x.mom ∨ (m = x.mom ∧ ltS s x.name = true)
theorem aft_first {x : It} (h : isMom x.mom = true) : Aft (-1) ⟨#[]⟩ x := by
  have h1 : 0 ≤ x.mom ∧ x.mom ≤ 527039 := by simpa [isMom] using h
  exact .inl (by omega)
theorem aft_next {L : List It} (h : Ris L) {k : Nat} {x : It} (hx : L[k]? = some x) : ∀ y ∈ L.drop (k + 1), Aft x.mom x.name y := fun y hy => by
  obtain ⟨hk, hxx⟩ := List.getElem?_eq_some_iff.1 hx
  have h1 : L = L.take k ++ L.drop k := (List.take_append_drop k L).symm
  rw [h1] at h
  have h2 := (List.pairwise_append.1 h).2.1
  rw [List.drop_eq_getElem_cons hk, hxx] at h2
  exact (ltI_iff _ _).1 ((List.pairwise_cons.1 h2).1 y hy)
theorem ripe_at {L : List It} {now : Int} {k : Nat} {x : It} (hx : (ripeF L now)[k]? = some x) : L[k]? = some x ∧ x.mom ≤ now := by
  constructor
  · have h := ripe_rest L now
    rw [← h, List.getElem?_append_left (List.getElem?_eq_some_iff.1 hx).1]
    exact hx
  · have h1 := List.mem_of_getElem? hx
    have : ∀ l : List It, x ∈ ripeF l now → x.mom ≤ now := by
      intro l
      induction l with
      | nil => intro h; cases h
      | cons a l ih =>
        intro h
        by_cases e : a.mom ≤ now
        · rw [((restF_cons a l now).1 e).1] at h
          rcases List.mem_cons.1 h with rfl | h
          · exact e
          · exact ih h
        · rw [((restF_cons a l now).2 e).1] at h
          cases h
    exact this L h1
theorem rest_drop (L : List It) (now : Int) : restF L now = L.drop (ripeF L now).length := by
  have h := ripe_rest L now
  generalize restF L now = r at h ⊢
  generalize ripeF L now = p at h ⊢
  subst h
  rw [List.drop_left]
theorem Sl.kp {α : Type} {T : Ty α} {W W1 : World} {S : Nat → Prop} {lo hi n : Nat} {A : Option Addr} {l : List α} (h : Sl W lo hi T A n l) (hk : Kp S W W1) (hz : hi ≤ W.heap.size) (hS : ∀ b, lo ≤ b → b < hi → ¬ S b) : Sl W1 lo hi T A n l := by
  refine ⟨h.len, h.wf, fun h0 => ?_⟩
  obtain ⟨b, o, e, h1, h2, h3⟩ := h.cells h0
  refine ⟨b, o, e, h1, h2, fun j x hx i u hu => ?_⟩
  have h4 := h3 j x hx i u hu
  have hb := hk.block b (by omega) (hS b h1 h2)
  unfold World.cell? at h4 ⊢
  simp only at h4 ⊢
  rw [hb]
  exact h4
/-- The second due's blocks, beside a row that lies in P..Q. -/
structure Two (W0 W : World) (Z P : Nat) (M : Nat) (L : List It) : Prop where
  d : ∃ S, DW W S M L ∧ (∀ b, S b → Z ≤ b ∧ b < W.heap.size ∧ (b < P ∨ W0.heap.size ≤ b))
  k : Kp (fun b => Z ≤ b ∧ b < P) W0 W
theorem two_set {W0 W : World} {Z P M : Nat} {L : List It} (h : Two W0 W Z P M L) (hn : L.length ≤ 99999) (s : ByteArray) (hs : okStr s) (m : Int) (hm : isMom m = true) {L1 : List It} (hl : stF L s m = L1) :
    Calls Try.prog 10 #[.pointer (some ⟨M, 0, none⟩), .string s, .int .i64 m] W fun e w' => e = .returned (.int .i64 0) ∧ Two W0 w' Z P M L1 := by
  subst hl
  obtain ⟨S, hd, hS⟩ := h.d
  have hz := h.k.size
  have h6 : Z ≤ W.heap.size := by
    obtain ⟨D, hD⟩ : ∃ b, S b := (by obtain ⟨_, _, _, _, _, h⟩ := hd; exact ⟨_, h.sD⟩)
    have := hS D hD
    omega
  refine (set_any (c := 0) hd (fun b hb => (hS b hb).2.1) hn s hs m (by simp [hm])).mono ?_
  rintro e w' ⟨h1, h2, h3⟩
  have hz2 := h3.size
  refine ⟨h1, ⟨_, h2, fun b hb => ?_⟩, h.k.trans h3 fun b hb hs => ?_⟩
  · rcases hb with hb | hb
    · have := hS b hb; omega
    · have h4 : W.heap.size ≤ b := hb.1
      have h5 : b < w'.heap.size := hb.2
      omega
  · have := hS b hs; omega
end Go.Proofs.Ytfbalabmidobeaa
