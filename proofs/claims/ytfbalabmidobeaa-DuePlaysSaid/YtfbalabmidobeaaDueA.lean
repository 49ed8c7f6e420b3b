/- Law 16's acts; texts that are cut. -/
import Derived.Test.YtfbalabmidobeaaDue9
import Derived.Deep.RegionHeld3
namespace Go.Proofs.Ytfbalabmidobeaa
set_option linter.unusedVariables false
open Go Go.RowKit Go.Sort Go.Shelf
structure DAct where
  kind : Int
  mom : Int
  name : ByteArray
def DAct.ok (a : DAct) : Prop := okInt a.kind ∧ okInt a.mom ∧ okStr a.name
def tDAct : Ty DAct := ⟨fun a => [.int .i64 a.kind, .int .i64 a.mom, .string a.name], 3, DAct.ok, fun _ => rfl, fun x u h => by simp at h; rcases h with h | h | h <;> subst h <;> rfl, by omega⟩
section
variable {α : Type} {w : World} {lo hi n : Nat} {T : Ty α} {A : Option Addr} {l : List α}
theorem Sl.dact {l : List DAct} (h : Sl w lo hi tDAct A n l) {k : Nat} (hk : k < n) :
    ∃ b o x, A = some ⟨b, o, none⟩ ∧ lo ≤ b ∧ b < hi ∧ Hid (l[k]? = some x) ∧ DAct.ok x ∧ w.cell? ⟨b, o + k * 3, none⟩ = some (.int .i64 x.kind) ∧ w.cell? ⟨b, o + k * 3 + 1, none⟩ = some (.int .i64 x.mom) ∧ w.cell? ⟨b, o + k * 3 + 2, none⟩ = some (.string x.name) := by
  obtain ⟨b, o, x, h1, h2, h3, h4, h5, hc⟩ := h.at_ hk
  exact ⟨b, o, x, h1, h2, h3, h4, h5, by simpa [tDAct] using hc 0 _ rfl, by simpa [tDAct] using hc 1 _ rfl, by simpa [tDAct] using hc 2 _ rfl⟩
theorem Sl.take_ (h : Sl w lo hi T A n l) {k : Nat} (hk : k ≤ n) : Sl w lo hi T A k (l.take k) := by
  refine ⟨by rw [List.length_take, h.len]; omega, fun x hx => h.wf x ((List.take_sublist _ _).subset hx), fun h0 => ?_⟩
  obtain ⟨b, o, e, h1, h2, h3⟩ := h.cells (by omega)
  refine ⟨b, o, e, h1, h2, fun j x hx => h3 j x ?_⟩
  rw [List.getElem?_take] at hx
  split at hx
  · exact hx
  · cases hx
theorem Sl.drop_ {b o : Nat} (h : Sl w lo hi T (some ⟨b, o, none⟩) n l) {k : Nat} (hk : k ≤ n) : Sl w lo hi T (some ⟨b, o + k * T.sz, none⟩) (n - k) (l.drop k) := by
  refine ⟨by rw [List.length_drop, h.len], fun x hx => h.wf x ((List.drop_sublist _ _).subset hx), fun h0 => ?_⟩
  obtain ⟨b', o', e, h1, h2, h3⟩ := h.cells (by omega)
  obtain ⟨rfl, rfl⟩ : b = b' ∧ o = o' := by injection e with e; injection e with e1 e2; exact ⟨e1, e2⟩
  refine ⟨b, _, rfl, h1, h2, fun j x hx i u hu => ?_⟩
  rw [List.getElem?_drop] at hx
  have := h3 (k + j) x hx i u hu
  rw [show o + k * T.sz + j * T.sz + i = o + (k + j) * T.sz + i by rw [Nat.add_mul]; omega]
  exact this
end
theorem own_le {α : Type} {T : Ty α} {W : World} {B : Nat} {e : TypeId} {A : Option Addr} {n c : Nat} {l : List α} (h : Own W B e T (.slice A n c) l) : n ≤ c ∧ c ≤ maxLen ∧ (A = none → c = 0) ∧ l.length = n := by
  have hn : l.length = n := by
    obtain ⟨A', c', h'⟩ := h.form
    injection h' with _ h2 _
    exact h2.symm
  cases A with
  | none =>
    rcases h.row.2 with ⟨h1, _⟩ | ⟨g, cap, cur, h1, _⟩
    · injection h1 with _ h2 h3
      subst h2 h3
      exact ⟨Nat.le_refl _, Nat.zero_le _, fun _ => rfl, hn⟩
    · cases h1
  | some a =>
    obtain ⟨g, cur, rfl, _, _, h1, h2, _⟩ := h.open_
    exact ⟨h1, h2, fun h => (by cases h), hn⟩
theorem texts_same {W : World} {lo hi lo' hi' : Nat} {A B : Option Addr} {n c c' : Nat} {l : List ByteArray} (hs : Sl W lo hi tStr A n l) (hs' : Sl W lo' hi' tStr B n l) (hn : n ≤ 100000) (hhi : hi ≤ W.heap.size) (hhi' : hi' ≤ W.heap.size) :
    Calls Try.prog 13 #[.slice A n c, .slice B n c'] W (RetB W true) := by
  have h := equal_rtx l l A B n c n c' W lo hi lo' hi' hs hs' hn hn hhi hhi'
  rw [show decide (l = l) = true from decide_eq_true rfl] at h
  exact h
theorem next_n {W : World} {S : Nat → Prop} {D : Nat} {L : List It} (h : DW W S D L) (hn : L.length ≤ 100000) {m : Int} {b : Bool} (h1 : (L.headD ⟨⟨#[]⟩, 0⟩).mom = m) (h2 : decide (0 < L.length) = b) : Calls Try.prog 15 #[.pointer (some ⟨D, 0, none⟩)] W fun e w' => e = .returned (.tuple #[.int .i64 m, .bool b]) ∧ W = w' := by
  subst h1 h2
  exact next_any h hn
theorem len_n {W : World} {S : Nat → Prop} {D : Nat} {L : List It} (h : DW W S D L) (hn : L.length ≤ 100000) {n : Nat} (h1 : L.length = n) : Calls Try.prog 12 #[.pointer (some ⟨D, 0, none⟩)] W fun e w' => e = .returned (.int .i64 n) ∧ W = w' := by
  subst h1
  exact len_any h hn
theorem ripe_n {W : World} {S : Nat → Prop} {D : Nat} {L : List It} (h : DW W S D L) (hS : ∀ b, S b → b < W.heap.size) (hn : L.length ≤ 100000) (hok : ∀ x ∈ L, okStr x.name) (now : Int) {r : List It} (hr : ripeF L now = r) {n : Nat} (hl : r.length = n) :
    Calls Try.prog 11 #[.pointer (some ⟨D, 0, none⟩), .int .i64 now] W fun e w' => ∃ A c, e = .returned (.slice A n c) ∧ Own w' W.heap.size 9 tStr (.slice A n c) (r.map (·.name)) ∧ Below W.heap.size W w' := by
  subst hr hl
  refine (ripe_any h hS hn hok now).mono ?_
  rintro e w' ⟨A, c, rfl, h1, h2⟩
  rw [List.length_map] at h1 ⊢
  exact ⟨A, c, rfl, h1, h2⟩
theorem take_n {W : World} {S : Nat → Prop} {D : Nat} {L : List It} (h : DW W S D L) (hS : ∀ b, S b → b < W.heap.size) (hn : L.length ≤ 100000) (hok : ∀ x ∈ L, okStr x.name) (now : Int) {r t : List It} (hr : ripeF L now = r) (ht : restF L now = t) {n : Nat} (hl : r.length = n) :
    Calls Try.prog 14 #[.pointer (some ⟨D, 0, none⟩), .int .i64 now] W fun e w' => ∃ A c, e = .returned (.slice A n c) ∧ Own w' W.heap.size 9 tStr (.slice A n c) (r.map (·.name)) ∧ DW w' S D t ∧ Kp S W w' := by
  subst hr ht hl
  refine (take_any h hS hn hok now).mono ?_
  rintro e w' ⟨v, rfl, h1, h2, h3⟩
  obtain ⟨A, c, rfl⟩ := h1.form
  rw [List.length_map] at h1 ⊢
  exact ⟨A, c, rfl, h1, h2, h3⟩
theorem rest_facts (now : Int) : ∀ L : List It, ripeF (restF L now) now = [] ∧ (restF L now = [] ∨ now < ((restF L now).headD ⟨⟨#[]⟩, 0⟩).mom) := by
  intro L
  induction L with
  | nil => exact ⟨rfl, .inl rfl⟩
  | cons x t ih =>
    by_cases h : x.mom ≤ now
    · rw [((restF_cons x t now).1 h).2]; exact ih
    · rw [((restF_cons x t now).2 h).2]
      exact ⟨((restF_cons x t now).2 h).1, .inr (by show now < x.mom; omega)⟩
theorem ripe_all {L : List It} (h : ∀ x ∈ L, isMom x.mom = true) : ripeF L 527039 = L := by
  obtain ⟨h1, _⟩ := ripe_app 527039 [] L fun x hx => by have := h x hx; simp [isMom] at this; exact this.2
  rw [List.append_nil] at h1
  exact h1.trans (List.append_nil L)
theorem mem_stF {L : List It} {s : ByteArray} {m : Int} {y : It} (h : y ∈ stF L s m) (hs : okStr s) (hL : ∀ x ∈ L, okStr x.name ∧ isMom x.mom = true) : okStr y.name ∧ isMom y.mom = true := by
  unfold stF at h
  split at h
  · rename_i hm
    rcases mem_setF.1 h with rfl | h
    · exact ⟨hs, hm⟩
    · exact hL y h.1
  · exact hL y h
theorem RetB.step {w W W1 : World} (hb : Below w.heap.size w W) (h : Below W.heap.size W W1) : Below w.heap.size w W1 := hb.trans (h.mono hb.size)
end Go.Proofs.Ytfbalabmidobeaa
