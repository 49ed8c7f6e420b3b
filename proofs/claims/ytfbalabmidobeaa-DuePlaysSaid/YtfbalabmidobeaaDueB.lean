/- Law 16: in; what a name that is set again, or dropped, leaves. -/
import Derived.Test.YtfbalabmidobeaaDueA
namespace Go.Proofs.Ytfbalabmidobeaa
set_option linter.unusedVariables false
open Go Go.RowKit Go.Sort Go.Shelf
/-- Is a text among some? -/
def inF (l : List ByteArray) (s : ByteArray) : Bool := l.any fun x => decide (x = s)
theorem inF_iff (l : List ByteArray) (s : ByteArray) : inF l s = true ↔ s ∈ l := by
  unfold inF
  rw [List.any_eq_true]
  constructor
  · rintro ⟨x, hx, h⟩
    have : x = s := by simpa using h
    rw [← this]; exact hx
  · intro h
    exact ⟨s, h, by simp⟩
theorem inF_no (l : List ByteArray) (s : ByteArray) : inF l s = false ↔ s ∉ l := by rw [← Bool.not_eq_true, inF_iff]
theorem in_any (l : List ByteArray) (A : Option Addr) (n c : Nat) (s : ByteArray) (w : World) (lo hi : Nat) (hs : Sl w lo hi tStr A n l) (hn : n ≤ 100000) {b : Bool} (hb : inF l s = b) :
    Calls Try.prog 21 #[.slice A n c, .string s] w fun e w' => e = .returned (.bool b) ∧ w = w' := by
  have HS := Lib.hid hs
  have HB := Lib.hid hb
  clear hs hb
  go_enter Try.func21, Try.ntmps21
  go_wp2
  go_loop [5] (fun i => ∃ k : Nat, k ≤ n ∧ i = .int .i64 k ∧ Hid (s ∉ l.take k)) (fun i => n - (intOf i).toNat)
  case atStart => exact ⟨0, Nat.zero_le _, rfl, by show s ∉ _; simp⟩
  case round =>
    obtain ⟨k, hk, rfl, HN⟩ := hrel
    by_cases hlt : k < n
    · obtain ⟨b', o, x, rfl, _, _, hx, _, c0⟩ := HS.out.str_ hlt
      have hk0 : (0 : Int) ≤ k := by omega
      have hk1 : (k : Int) < n := by omega
      have HT : Hid (l.take (k + 1) = l.take k ++ [x]) := by show _ = _; rw [List.take_add_one, hx.out]; rfl
      by_cases h : x = s
      · have HM : Hid (inF l s = true) := by show _ = _; rw [inF_iff, ← h]; exact List.mem_of_getElem? hx.out
        subst h
        go_wp2
        go_ret
        exact ⟨ret_bool (HM.out.symm.trans HB.out), rfl⟩
      · have heq : (x.toList == s.toList) = false := by rw [eqL, decide_eq_false h]
        have HM : Hid (s ∉ l.take (k + 1)) := by
          show _ ∉ _
          rw [HT.out, List.mem_append, List.mem_singleton]
          rintro (h1 | h1)
          · exact HN.out h1
          · exact h h1.symm
        clear h
        go_wp2
        exact ⟨⟨k + 1, by omega, by go_num, HM⟩, by simp [intOf]; omega⟩
    · obtain rfl : n = k := by omega
      have HM : Hid (inF l s = false) := by
        show _ = _
        have h := HN.out
        rw [List.take_of_length_le (by rw [HS.out.len]; exact Nat.le_refl _)] at h
        exact (inF_no _ _).2 h
      go_wp2
      go_ret
      exact ⟨ret_bool (HM.out.symm.trans HB.out), rfl⟩
theorem dropF_ins (s : ByteArray) (m : Int) : ∀ l : List It, (∀ y ∈ l, y.name ≠ s) → dropF (insF ⟨s, m⟩ l) s = l := by
  intro l
  induction l with
  | nil => intro _; simp [insF, dropF]
  | cons x t ih =>
    intro h
    have h1 := h x List.mem_cons_self
    have ht := ih fun y hy => h y (List.mem_cons_of_mem _ hy)
    have hf : dropF t s = t := dropF_none (by
      rw [← Bool.not_eq_true]
      intro h3
      obtain ⟨y, hy, h4⟩ := List.any_eq_true.1 h3
      exact h y (List.mem_cons_of_mem _ hy) (by simpa using h4))
    unfold insF
    split
    · have : dropF (⟨s, m⟩ :: x :: t) s = x :: dropF t s := by simp [dropF, h1]
      rw [this, hf]
    · have : dropF (x :: insF ⟨s, m⟩ t) s = x :: dropF (insF ⟨s, m⟩ t) s := by simp [dropF, h1]
      rw [this, ht]
theorem no_name {L : List It} {s : ByteArray} : ∀ y ∈ dropF L s, y.name ≠ s := fun y hy => (mem_dropF.1 hy).2
theorem has_no {L : List It} {s : ByteArray} (h : ∀ y ∈ L, y.name ≠ s) : hasF L s = false := by
  rw [← Bool.not_eq_true]
  intro h3
  obtain ⟨y, hy, h4⟩ := List.any_eq_true.1 h3
  exact h y hy (by simpa using h4)
/-- A name that was not there, set at a moment. -/
structure OnceQ (L1 : List It) (s : ByteArray) (m : Int) (L : List It) : Prop where
  e : L = insF ⟨s, m⟩ L1
  no : ∀ y ∈ L1, y.name ≠ s
  ris : Ris L1
  mo : isMom m = true
theorem OnceQ.at {L1 L : List It} {s : ByteArray} {m : Int} (h : OnceQ L1 s m L) : atF L s = some ⟨s, m⟩ := by
  have hm : (⟨s, m⟩ : It) ∈ L := by rw [h.e]; exact (mem_insF _ _ _).2 (.inl rfl)
  unfold atF
  cases hf : L.find? fun y => decide (y.name = s) with
  | none => exact absurd (List.find?_eq_none.1 hf _ hm) (by simp)
  | some y =>
    have h1 := List.find?_some hf
    have h2 := List.mem_of_find?_eq_some hf
    rw [h.e] at h2
    rcases (mem_insF _ _ _).1 h2 with rfl | h2
    · rfl
    · exact absurd (by simpa using h1) (h.no y h2)
theorem OnceQ.len {L1 L : List It} {s : ByteArray} {m : Int} (h : OnceQ L1 s m L) : L.length = L1.length + 1 := by rw [h.e, length_insF]
theorem OnceQ.drop {L1 L : List It} {s : ByteArray} {m : Int} (h : OnceQ L1 s m L) : dropF L s = L1 := by rw [h.e]; exact dropF_ins s m L1 h.no
theorem OnceQ.has {L1 L : List It} {s : ByteArray} {m : Int} (h : OnceQ L1 s m L) : hasF L s = true := by rw [hasF_at, h.at]; rfl
theorem OnceQ.before {L1 L : List It} {s : ByteArray} {m : Int} (h : OnceQ L1 s m L) : inF ((ripeF L (m - 1)).map (·.name)) s = false := by
  have hr : Ris L := by rw [h.e]; exact h.ris.ins h.no
  rw [ripeF_filter hr, inF_no]
  intro hm
  obtain ⟨y, hy, e⟩ := List.mem_map.1 hm
  obtain ⟨h1, h2⟩ := List.mem_filter.1 hy
  rw [h.e] at h1
  rcases (mem_insF _ _ _).1 h1 with rfl | h1
  · simp at h2; omega
  · exact h.no y h1 e
theorem OnceQ.then_ {L1 L : List It} {s : ByteArray} {m : Int} (h : OnceQ L1 s m L) : inF ((ripeF L m).map (·.name)) s = true := by
  have hr : Ris L := by rw [h.e]; exact h.ris.ins h.no
  rw [ripeF_filter hr, inF_iff]
  exact List.mem_map.2 ⟨⟨s, m⟩, List.mem_filter.2 ⟨by rw [h.e]; exact (mem_insF _ _ _).2 (.inl rfl), by simp⟩, rfl⟩
theorem OnceQ.after {L1 : List It} {s : ByteArray} (no : ∀ y ∈ L1, y.name ≠ s) (now : Int) : inF ((ripeF L1 now).map (·.name)) s = false := by
  rw [inF_no]
  intro hm
  obtain ⟨y, hy, e⟩ := List.mem_map.1 hm
  exact no y ((List.takeWhile_sublist _).subset hy) e
theorem drop_again {L1 : List It} {s : ByteArray} (no : ∀ y ∈ L1, y.name ≠ s) : dropF L1 s = L1 := dropF_none (has_no no)
theorem once_b {L1 : List It} {s : ByteArray} {a b : Int} (no : ∀ y ∈ L1, y.name ≠ s) (hr : Ris L1) (hb : isMom b = true) : OnceQ L1 s b (stF (stF L1 s a) s b) := by
  refine ⟨?_, no, hr, hb⟩
  unfold stF
  rw [if_pos hb]
  unfold setF
  split
  · rw [drop_again no, dropF_ins s a L1 no]
  · rw [drop_again no]
theorem once_a {L1 : List It} {s : ByteArray} {a b : Int} (no : ∀ y ∈ L1, y.name ≠ s) (hr : Ris L1) (ha : isMom a = true) (hb : isMom b = false) : OnceQ L1 s a (stF (stF L1 s a) s b) := by
  refine ⟨?_, no, hr, ha⟩
  have h1 : stF (stF L1 s a) s b = stF L1 s a := by unfold stF; rw [if_neg (by rw [hb]; simp)]
  rw [h1]
  unfold stF setF
  rw [if_pos ha, drop_again no]
theorem ripe_db {w W : World} {D : Nat} {L : List It} (h : DB w D L W) (hn : L.length ≤ 100000) (hok : ∀ x ∈ L, okStr x.name) (now : Int) :
    Calls Try.prog 11 #[.pointer (some ⟨D, 0, none⟩), .int .i64 now] W fun e w' => ∃ A n c, n ≤ 100000 ∧ e = .returned (.slice A n c) ∧ Sl w' W.heap.size w'.heap.size tStr A n ((ripeF L now).map (·.name)) ∧ DB w D L w' := by
  refine (ripe_n h.d SB.lt hn hok now rfl rfl).mono ?_
  rintro e w' ⟨A, c, rfl, h1, h2⟩
  exact ⟨A, _, c, Nat.le_trans (List.takeWhile_sublist _).length_le hn, rfl, h1.sl, h.step h2⟩
theorem at_db {w W : World} {D : Nat} {L : List It} (h : DB w D L W) (s : ByteArray) (hs : okStr s) {o : Option It} (ho : atF L s = o) :
    Calls Try.prog 19 #[.pointer (some ⟨D, 0, none⟩), .string s] W fun e w' => e = .returned (.tuple #[.int .i64 (momF o), .bool o.isSome]) ∧ W = w' := by
  subst ho
  exact at_any h.d s hs
theorem drop_dbn {w W : World} {D : Nat} {L : List It} (h : DB w D L W) (hn : L.length ≤ 100000) (s : ByteArray) (hs : okStr s) {b : Bool} (hb : hasF L s = b) {L1 : List It} (hl : dropF L s = L1) :
    Calls Try.prog 9 #[.pointer (some ⟨D, 0, none⟩), .string s] W fun e w' => e = .returned (.bool b) ∧ DB w D L1 w' := by
  subst hb hl
  exact drop_db h hn s hs
end Go.Proofs.Ytfbalabmidobeaa
