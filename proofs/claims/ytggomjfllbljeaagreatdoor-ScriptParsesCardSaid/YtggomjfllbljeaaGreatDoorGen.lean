/- What speaks of no PNR: elements of slices, slices in blocks that a predicate tells, the append whose row is told, copies. By program out of other texts. -/
import Derived.Test.YtggomjfllbljeaaGreatDoorMLib
import Derived.Laws.AppendOwnNone
import Derived.Deep.AppendLies
import Derived.Laws.CopyRow
import Derived.Lib.AppendZerosOnto
import Derived.Lib.Overlaps
namespace Go.Proofs.YtggomjfllbljeaaGreatDoor
set_option linter.unusedVariables false
open Go Go.RowKit
def okStr (s : ByteArray) : Prop := s.size ≤ 9223372036854775807
def okInt (n : Int) : Prop := -9223372036854775808 ≤ n ∧ n ≤ 9223372036854775807
def okByte (n : Int) : Prop := 0 ≤ n ∧ n ≤ 255

def tInt : Ty Int := ⟨fun x => [.int .i64 x], 1, okInt, fun _ => rfl, fun x u h => by simp at h; subst h; rfl, by omega⟩
def tStr : Ty ByteArray := ⟨fun x => [.string x], 1, okStr, fun _ => rfl, fun x u h => by simp at h; subst h; rfl, by omega⟩
section
variable {w : World} {lo hi n : Nat} {A : Option Addr} {k : Nat}
theorem Sl.int_ {l : List Int} (h : Sl w lo hi tInt A n l) (hk : k < n) :
    ∃ b o x, A = some ⟨b, o, none⟩ ∧ lo ≤ b ∧ b < hi ∧ Hid (l[k]? = some x) ∧ okInt x ∧ w.cell? ⟨b, o + k, none⟩ = some (.int .i64 x) := by
  obtain ⟨b, o, x, h1, h2, h3, h4, h5, hc⟩ := h.at_ hk
  exact ⟨b, o, x, h1, h2, h3, h4, h5, by simpa [tInt] using hc 0 _ rfl⟩
theorem Sl.str_ {l : List ByteArray} (h : Sl w lo hi tStr A n l) (hk : k < n) :
    ∃ b o x, A = some ⟨b, o, none⟩ ∧ lo ≤ b ∧ b < hi ∧ Hid (l[k]? = some x) ∧ okStr x ∧ w.cell? ⟨b, o + k, none⟩ = some (.string x) := by
  obtain ⟨b, o, x, h1, h2, h3, h4, h5, hc⟩ := h.at_ hk
  exact ⟨b, o, x, h1, h2, h3, h4, h5, by simpa [tStr] using hc 0 _ rfl⟩
end


/-- A slice reads as a list; it lies in blocks of which S holds. -/
structure SlS {α : Type} (w : World) (S : Nat → Prop) (T : Ty α) (A : Option Addr) (n c : Nat) (l : List α) : Prop where
  len : l.length = n
  wf : ∀ x, x ∈ l → T.wf x
  nil : A = none → c = 0
  cells : 0 < n → ∃ b o, A = some ⟨b, o, none⟩ ∧ S b ∧ ∀ k x, l[k]? = some x → ∀ j u, (T.enc x)[j]? = some u → w.cell? ⟨b, o + k * T.sz + j, none⟩ = some u
section
variable {α : Type} {w w' : World} {S S' : Nat → Prop} {T : Ty α} {A : Option Addr} {n c : Nat} {l : List α} {lo hi : Nat}
theorem SlS.nil_ (w : World) (S : Nat → Prop) (T : Ty α) : SlS w S T none 0 0 [] := ⟨rfl, (fun _ h => absurd h List.not_mem_nil), fun _ => rfl, fun h => absurd h (by omega)⟩
theorem SlS.sl (h : SlS w S T A n c l) (hS : ∀ b, S b → lo ≤ b ∧ b < hi) : Sl w lo hi T A n l :=
  ⟨h.len, h.wf, fun hn => by
    obtain ⟨b, o, e, h1, h2⟩ := h.cells hn
    exact ⟨b, o, e, (hS b h1).1, (hS b h1).2, h2⟩⟩
theorem Sl.sls (h : Sl w lo hi T A n l) (hc : A = none → c = 0) : SlS w (fun b => lo ≤ b ∧ b < hi) T A n c l :=
  ⟨h.len, h.wf, hc, fun hn => by
    obtain ⟨b, o, e, h1, h2, h3⟩ := h.cells hn
    exact ⟨b, o, e, ⟨h1, h2⟩, h3⟩⟩
theorem SlS.mono (h : SlS w S T A n c l) (hS : ∀ b, S b → S' b) : SlS w S' T A n c l :=
  ⟨h.len, h.wf, h.nil, fun hn => by
    obtain ⟨b, o, e, h1, h2⟩ := h.cells hn
    exact ⟨b, o, e, hS b h1, h2⟩⟩
theorem SlS.keep (h : SlS w S T A n c l) (hk : ∀ p : Addr, S p.block → w'.cell? p = w.cell? p) : SlS w' S T A n c l :=
  ⟨h.len, h.wf, h.nil, fun hn => by
    obtain ⟨b, o, e, h1, h2⟩ := h.cells hn
    exact ⟨b, o, e, h1, fun k x hx j u hu => (hk _ h1).trans (h2 k x hx j u hu)⟩⟩
theorem SlS.below {B : Nat} (h : SlS w S T A n c l) (hb : Below B w w') (hS : ∀ b, S b → b < B) : SlS w' S T A n c l := h.keep fun _ hp => hb.cell (hS _ hp)
theorem SlS.drewN (h : SlS w S T A n c l) (k : Nat) : SlS (w.drewN k) S T A n c l := ⟨h.len, h.wf, h.nil, h.cells⟩
end

/-- Two slice values whose own blocks are not one. -/
def Dif (u v : Value) : Prop := ∀ k, u.ownBlock = some k → v.ownBlock ≠ some k
theorem Dif.symm {u v : Value} (h : Dif u v) : Dif v u := fun k h1 h2 => h k h2 h1

section
variable {α : Type} {w w' : World} {lo hi n : Nat} {T : Ty α} {A : Option Addr} {l : List α} {B : Nat} {e : TypeId} {v : Value}

theorem Own.kept (h : Own w B e T v l) {row : Option Nat} (hg : w.grownBy w' row) (hne : ∀ k, v.ownBlock = some k → row ≠ some k) : Own w' B e T v l :=
  ⟨h.wf, h.row.kept hg (by
    cases hv : v.ownBlock with
    | none => exact .inl rfl
    | some k => exact .inr fun e => hne k hv e.symm)⟩
theorem Own.lt (h : Own w B e T v l) : ∀ k, v.ownBlock = some k → B ≤ k ∧ k < w.heap.size := h.row.lt
/-- A store into a block that is not its own. -/
theorem Own.setOther (h : Own w B e T v l) {p : Addr} (hp : v.ownBlock ≠ some p.block) (u : Value) : Own (w.setCell p u) B e T v l := by
  refine h.kept (row := some p.block) ⟨rfl, rfl, rfl, by simp, fun k hk hne => Below.heap_setCell w p u k (fun e => hne (by rw [e]))⟩ (fun k hk e => hp (by rw [hk, e]))
theorem Own.dif_lt {β : Type} {T' : Ty β} {e' : TypeId} {v' : Value} {l' : List β} {m : Nat} (h : Own w B e T v l) (hm : ∀ k, v'.ownBlock = some k → k < m) (hB : m ≤ B) : Dif v' v := by
  intro k h1 h2
  have := hm k h1
  have := (h.lt k h2).1
  omega
theorem Own.atBase {B' : Nat} (h : Own w B e T v l) (hb : ∀ k, v.ownBlock = some k → B' ≤ k) : Own w B' e T v l := by
  refine ⟨h.wf, h.row.1, ?_⟩
  rcases h.row.2 with hn | ⟨g, cap, cur, rfl, h1, hg, r⟩
  · exact .inl hn
  · exact .inr ⟨g, cap, cur, rfl, hb g rfl, hg, r⟩

theorem flatMap_len (T : Ty α) : ∀ l : List α, (l.flatMap T.enc).length = l.length * T.sz
  | [] => by simp
  | x :: t => by rw [List.flatMap_cons, List.length_append, T.len, flatMap_len T t, List.length_cons, Nat.add_mul]; omega
/-- 'append' of what a slice holds onto an own row, as a run: the row's block is told. -/
theorem run_append_told {P : Program} (w : World) (t ty : TypeId) (S : SlT P t e T.sz) (hown : Own w B e T v l) {A : Option Addr} {m c : Nat} {ys : List α} {lo hi : Nat} (hs : Sl w lo hi T A m ys) (hB : B ≤ w.heap.size)
    (hbig : l.length + m < 2147483648) (hnil : A = none → c = 0) :
    ∃ v' w', (Builtin.append_ #[t, t] ty #[v, .slice A m c]).run P w = .ok v' w' ∧ Own w' B e T v' (l ++ ys) ∧ w.grownBy w' v.ownBlock ∧ (v'.ownBlock = v.ownBlock ∨ v'.ownBlock = some w.heap.size) := by
  obtain ⟨i, z, b, hi, h0, h1, h2, hb, hz⟩ := S.hi
  have hwf : ∀ x, x ∈ l ++ ys → T.wf x := fun x hx => by
    rcases List.mem_append.1 hx with h' | h'
    · exact hown.wf x h'
    · exact hs.wf x h'
  by_cases hm : m = 0
  · subst hm
    have hy : ys = [] := List.eq_nil_of_length_eq_zero hs.len
    subst hy
    cases A with
    | none =>
      have hc := hnil rfl
      subst hc
      have hr := run_append_owned_none (P := P) (w := w) B t ty e i T.sz S.ht hi v l.length _ hown.row
      exact ⟨v, w, hr, by rw [List.append_nil]; exact hown, ⟨rfl, rfl, rfl, Nat.le_refl _, fun _ _ _ => rfl⟩, .inl rfl⟩
    | some a =>
      rcases hown.row.2 with ⟨rfl, hn⟩ | ⟨g, cap, cur, rfl, hbg, hg, hnc, hcm, hcs, htake⟩
      · have hr := run_append_own (P := P) w B t ty e i z T.sz b S.ht hi h0 h1 h2 hz T.pos _ l.length (l.flatMap T.enc) hown.row a 0 c [] (by simp) (by simp) (by simp) (by unfold maxLen; omega) (by rw [hn]; omega) hB
        obtain ⟨v', w', hrun, hrow, hgr, hiff⟩ := hr
        have hv := hiff.2 ⟨rfl, rfl⟩
        subst hv
        refine ⟨_, w', hrun, ⟨hwf, ?_⟩, hgr, .inl rfl⟩
        rw [List.append_nil] at hrow ⊢
        exact hrow
      · have hr := run_append_room (P := P) w t ty e i S.ht hi g l.length cap cur hg a 0 c [] (by simp) (by simp) (by simp) (by omega) (by rw [h1, hcs]; simp; exact Nat.mul_le_mul_right _ hnc)
        refine ⟨_, _, hr, ⟨hwf, ?_, .inr ⟨g, cap, _, by simp, hbg, setRow_heap w g cur _ e _ hg, by simpa using hnc, hcm, ?_, ?_⟩⟩, ⟨rfl, rfl, rfl, by simp, fun k _ hk => setRow_other w g k _ (fun e => hk (by simp [Value.ownBlock, e]))⟩, .inl rfl⟩
        · simpa using hown.row.1
        · simp; exact hcs
        · simp; exact htake
  · obtain ⟨ba, oa, rfl, h3, h4, hc⟩ := hs.cells (by omega)
    have hlen : (ys.flatMap T.enc).length = m * T.sz := by rw [flatMap_len, hs.len]
    have hnews : ∀ j u, (ys.flatMap T.enc)[j]? = some u → w.cell? ((⟨ba, oa, none⟩ : Addr).add j) = some u := by
      intro j u hu
      have hj : j < (ys.flatMap T.enc).length := (List.getElem?_eq_some_iff.1 hu).1
      have hadd : (⟨ba, oa, none⟩ : Addr).add j = ⟨ba, oa + j, none⟩ := by unfold Addr.add; split <;> simp_all
      rw [hadd]
      have hT := T.pos
      have hk : j / T.sz < ys.length := by rw [hs.len]; rw [hlen] at hj; exact Nat.div_lt_of_lt_mul (by rw [Nat.mul_comm]; exact hj)
      have hx := List.getElem?_eq_getElem hk
      have hmod : j % T.sz < (T.enc ys[j / T.sz]).length := by rw [T.len]; exact Nat.mod_lt _ hT
      have hu2 := flatMap_at T ys (j / T.sz) _ hx (j % T.sz) _ (List.getElem?_eq_getElem hmod)
      have hdm : j / T.sz * T.sz + j % T.sz = j := by rw [Nat.mul_comm]; exact Nat.div_add_mod j T.sz
      rw [hdm, hu] at hu2
      have := hc (j / T.sz) _ hx (j % T.sz) _ (List.getElem?_eq_getElem hmod)
      rw [Nat.add_assoc, hdm, ← hu2] at this
      exact this
    have hone : ∀ u ∈ ys.flatMap T.enc, u.oneCell' = true := fun u hu => by
      obtain ⟨x, _, hx⟩ := List.mem_flatMap.1 hu
      exact T.one x u hx
    have hbytes : (l.length + m) * b ≤ 140737488355328 := Nat.le_trans (Nat.mul_le_mul (show l.length + m ≤ 2147483648 by omega) hb) (by omega)
    rcases hown.row.2 with ⟨rfl, hn⟩ | ⟨g, cap, cur, rfl, hbg, hg, hnc, hcm, hcs, htake⟩
    · obtain ⟨v', w', hrun, hrow, hgr, hiff⟩ := run_append_own (P := P) w w.heap.size t ty e i z T.sz b S.ht hi h0 h1 h2 hz T.pos (.slice none 0 0) l.length (l.flatMap T.enc) ⟨hown.row.1, .inl ⟨rfl, hn⟩⟩ ⟨ba, oa, none⟩ m c _ hlen hnews hone (by unfold maxLen; omega) hbytes (Nat.le_refl _)
      have hnew := run_append_nil (P := P) w t ty e i z S.ht hi h0 ⟨ba, oa, none⟩ m c _ (by rw [h1]; exact hlen) hnews (by omega) (by omega) (by rw [h2]; refine Nat.le_trans (Nat.mul_le_mul (show m ≤ 2147483648 by omega) hb) (by omega))
      rw [hnew] at hrun
      injection hrun with hv hw'
      refine ⟨v', w', by rw [hnew, hv, hw'], ⟨hwf, ?_⟩, hgr, .inr (by rw [← hv]; rfl)⟩
      rw [List.flatMap_append, List.length_append, hs.len]
      refine ⟨hrow.1, ?_⟩
      rcases hrow.2 with hx | ⟨g, cap, cur, r1, r2, r3⟩
      · exact .inl hx
      · exact .inr ⟨g, cap, cur, r1, by omega, r3⟩
    · by_cases hroom : l.length + m ≤ cap
      · have hfit : l.length * i.size + (ys.flatMap T.enc).length ≤ cur.size := by rw [hlen, hcs, h1, ← Nat.add_mul]; exact Nat.mul_le_mul_right _ hroom
        have hr := run_append_room (P := P) w t ty e i S.ht hi g l.length cap cur hg ⟨ba, oa, none⟩ m c _ (by rw [h1]; exact hlen) hnews hone hroom hfit
        have hlx := hown.row.1
        rw [h1] at hr
        refine ⟨_, _, hr, ⟨hwf, ?_, .inr ⟨g, cap, _, by rw [List.length_append, hs.len], hbg, setRow_heap w g cur _ e _ hg, by rw [List.length_append, hs.len]; exact hroom, hcm, ?_, ?_⟩⟩, ⟨rfl, rfl, rfl, by simp, fun k _ hk => setRow_other w g k _ (fun e => hk (by simp [Value.ownBlock, e]))⟩, .inl rfl⟩
        · rw [List.flatMap_append, List.length_append, List.length_append, hlx, hlen, hs.len, Nat.add_mul]
        · simp only [List.size_toArray, List.length_append, List.length_take, List.length_drop, Array.length_toList]
          rw [h1] at hfit
          omega
        · rw [htake, List.flatMap_append, List.length_append, hs.len, Nat.add_mul, ← hlx, ← hlen, ← List.length_append]
          exact List.take_left
      · have holds : ∀ j u, (l.flatMap T.enc)[j]? = some u → w.cell? ((⟨g, 0, none⟩ : Addr).add j) = some u := hown.row.cells (g := g) rfl
        have hr := run_append_grow (P := P) w t ty e i z S.ht hi h0 ⟨g, 0, none⟩ l.length cap _ (by rw [h1]; exact hown.row.1) holds ⟨ba, oa, none⟩ m c _ (by rw [h1]; exact hlen) hnews (by omega) (by omega) (by rw [h2]; exact growslice_fits (by omega) hbytes)
        obtain ⟨v', w', hrun, hrow, hgr, hiff⟩ := run_append_own (P := P) w B t ty e i z T.sz b S.ht hi h0 h1 h2 hz T.pos _ l.length (l.flatMap T.enc) hown.row ⟨ba, oa, none⟩ m c _ hlen hnews hone (by unfold maxLen; omega) hbytes hB
        rw [hr] at hrun
        injection hrun with hv hw'
        refine ⟨v', w', by rw [hr, hv, hw'], ⟨hwf, ?_⟩, hgr, .inr (by rw [← hv]; rfl)⟩
        rw [List.flatMap_append, List.length_append, hs.len]
        exact hrow

theorem append_law {P : Program} {t : TypeId} {ops : Array Oper} {rest : List Oper} {o : Oper} {a : Act} {Q : Exit → Act → World → Prop} (hgd : o.guard = none) (s x : Operand)
    (ho : o.op = .call { callee := .builtin .append, args := #[s, x], argTypes := #[t, t] }) (S : SlT P t e T.sz)
    {W : World} (hs : a.eval s = v) (hown : Own W B e T v l) {m c : Nat} {ys : List α} (hx : a.eval x = .slice A m c) (hsl : Sl W lo hi T A m ys) (hnil : A = none → c = 0) (hB : B ≤ W.heap.size) (hbig : l.length + m < 2147483648)
    (h : ∀ v' w', Own w' B e T v' (l ++ ys) → W.grownBy w' v.ownBlock → (v'.ownBlock = v.ownBlock ∨ v'.ownBlock = some W.heap.size) → wpList P ops Q rest (a.put o.dst v') w') : wpList P ops Q (o :: rest) a W := by
  obtain ⟨v', w', hrun, h1, h2, h3⟩ := run_append_told (P := P) W t o.type S hown hsl hB hbig hnil (c := c)
  refine wpList_plain hgd fun K hK => ?_
  unfold Oper.wp
  simp only [execOp, ho, resolve, invoke, builtin, Sem.run_bind, Sem.run_pure, Result.andThen_ok, List.map_toArray, List.map_cons, List.map_nil, hs, hx, hrun]
  exact hK _ _ (h v' w' h1 h2 h3)
/-- One element, in a block of its own. -/
theorem Sl.one (W : World) (y : α) (hy : T.wf y) (news : Array Value) (hn : news.toList = T.enc y) (t : TypeId) : Sl (W.alloc (.cells news t)) W.heap.size (W.heap.size + 1) T (some ⟨W.heap.size, 0, none⟩) 1 [y] := by
  refine ⟨rfl, fun x hx => by rw [List.mem_singleton.1 hx]; exact hy, fun _ => ⟨W.heap.size, 0, rfl, Nat.le_refl _, by omega, fun k x hx j u hu => ?_⟩⟩
  rcases k with _ | k
  · simp only [List.getElem?_cons_zero, Option.some.injEq] at hx
    subst hx
    rw [cell_of_row _ _ _ news t (0, 0) (heap_alloc_new W _), ← hu, ← hn]
    simp
  · simp at hx
theorem push_told {P : Program} {t : TypeId} {ops : Array Oper} {rest : List Oper} {o : Oper} {a : Act} {Q : Exit → Act → World → Prop} (hgd : o.guard = none) (s x : Operand)
    (ho : o.op = .call { callee := .builtin .append, args := #[s, x], argTypes := #[t, t] }) (S : SlT P t e T.sz)
    {W : World} (hs : a.eval s = v) (hown : Own W B e T v l) (y : α) (hy : T.wf y) (news : Array Value) (hn : news.toList = T.enc y)
    (hx : a.eval x = .slice (some ⟨W.heap.size, 0, none⟩) 1 1) (hB : B ≤ W.heap.size) (hl : l.length < 2147483640)
    (h : ∀ v' w', Own w' B e T v' (l ++ [y]) → W.grownBy w' v.ownBlock → (v'.ownBlock = v.ownBlock ∨ ∀ k, v'.ownBlock = some k → W.heap.size ≤ k) → wpList P ops Q rest (a.put o.dst v') w') : wpList P ops Q (o :: rest) a (W.alloc (.cells news e)) := by
  refine append_law hgd s x ho S hs (hown.alloc _) hx (Sl.one W y hy news hn e) (fun h => by cases h) (by simp; omega) (by omega) fun v' w' h1 h2 h3 => h v' w' h1 ?_ ?_
  · refine ⟨h2.os, h2.tape, h2.output, Nat.le_trans (by simp) h2.size, fun k hk hne => (h2.block k (by simp; omega) hne).trans (heap_alloc_old W _ hk)⟩
  · rcases h3 with h3 | h3
    · exact .inl h3
    · refine .inr fun k hk => ?_
      rw [h3] at hk
      injection hk with hk
      simp at hk
      omega
end

section
variable {α : Type} {w w' : World} {lo hi n : Nat} {T : Ty α} {A : Option Addr} {l : List α} {B : Nat} {e : TypeId} {v : Value}
theorem wp_append_told {P : Program} {t : TypeId} {o : Oper} {a : Act} {K : Act → World → Prop} {Q : Exit → Act → World → Prop} (s x : Operand)
    (ho : o.op = .call { callee := .builtin .append, args := #[s, x], argTypes := #[t, t] }) (S : SlT P t e T.sz)
    {W : World} (hs : a.eval s = v) (hown : Own W B e T v l) {m c : Nat} {ys : List α} (hx : a.eval x = .slice A m c) (hsl : Sl W lo hi T A m ys) (hnil : A = none → c = 0) (hB : B ≤ W.heap.size) (hbig : l.length + m < 2147483648)
    (h : ∀ v' w', Own w' B e T v' (l ++ ys) → W.grownBy w' v.ownBlock → (v'.ownBlock = v.ownBlock ∨ v'.ownBlock = some W.heap.size) → K (a.put o.dst v') w') : o.wp P a W K Q := by
  obtain ⟨v', w', hrun, h1, h2, h3⟩ := run_append_told (P := P) W t o.type S hown hsl hB hbig hnil (c := c)
  unfold Oper.wp execOp
  simp only [ho, resolve, invoke, builtin, Sem.run_bind, Sem.run_pure, Result.andThen_ok, List.map_toArray, List.map_cons, List.map_nil, hs, hx, hrun]
  exact h v' w' h1 h2 h3
theorem step_append_told {P : Program} {t : TypeId} {ops : Array Oper} {o : Oper} {a : Act} {K : Act → World → Prop} {Q : Exit → Act → World → Prop} {E : Prop} (hgd : o.guard = none) (s x : Operand)
    (ho : o.op = .call { callee := .builtin .append, args := #[s, x], argTypes := #[t, t] }) (S : SlT P t e T.sz)
    {W : World} (hs : a.eval s = v) (hown : Own W B e T v l) {m c : Nat} {ys : List α} (hx : a.eval x = .slice A m c) (hsl : Sl W lo hi T A m ys) (hnil : A = none → c = 0) (hB : B ≤ W.heap.size) (hbig : l.length + m < 2147483648)
    (h : ∀ v' w', Own w' B e T v' (l ++ ys) → W.grownBy w' v.ownBlock → (v'.ownBlock = v.ownBlock ∨ v'.ownBlock = some W.heap.size) → K (a.put o.dst v') w') :
    if Region.wanted o (yielded ops a.tmps) = true then Oper.wp P o a W K Q else E := by
  have hw : Region.wanted o (yielded ops a.tmps) = true := by simp [Region.wanted, hgd]
  rw [if_pos hw]
  exact wp_append_told s x ho S hs hown hx hsl hnil hB hbig h
/-- One element, out of a block known whole. -/
theorem Sl.row {W : World} {g : Nat} {news : Array Value} {t : TypeId} {fr : Nat × Nat} (hg : W.heap[g]? = some (.cells news t fr)) (y : α) (hy : T.wf y) (hn : news.toList = T.enc y) : Sl W g (g + 1) T (some ⟨g, 0, none⟩) 1 [y] := by
  refine ⟨rfl, fun x hx => by rw [List.mem_singleton.1 hx]; exact hy, fun _ => ⟨g, 0, rfl, Nat.le_refl _, by omega, fun k x hx j u hu => ?_⟩⟩
  rcases k with _ | k
  · simp only [List.getElem?_cons_zero, Option.some.injEq] at hx
    subst hx
    rw [cell_of_row _ _ _ news t fr hg, ← hu, ← hn]
    simp
  · simp at hx
theorem step_push {P : Program} {t : TypeId} {ops : Array Oper} {o : Oper} {a : Act} {K : Act → World → Prop} {Q : Exit → Act → World → Prop} {E : Prop} (hgd : o.guard = none) (s x : Operand)
    (ho : o.op = .call { callee := .builtin .append, args := #[s, x], argTypes := #[t, t] }) (S : SlT P t e T.sz)
    {W : World} (hs : a.eval s = v) (hown : Own W B e T v l) (y : α) (hy : T.wf y) {g : Nat} {news : Array Value} {tt : TypeId} {fr : Nat × Nat} (hg : W.heap[g]? = some (.cells news tt fr)) (hn : news.toList = T.enc y)
    (hx : a.eval x = .slice (some ⟨g, 0, none⟩) 1 1) (hB : B ≤ W.heap.size) (hl : l.length < 2147483640)
    (h : ∀ v' w', Own w' B e T v' (l ++ [y]) → W.grownBy w' v.ownBlock → (v'.ownBlock = v.ownBlock ∨ v'.ownBlock = some W.heap.size) → K (a.put o.dst v') w') :
    if Region.wanted o (yielded ops a.tmps) = true then Oper.wp P o a W K Q else E :=
  step_append_told hgd s x ho S hs hown hx (Sl.row hg y hy hn) (fun h => by cases h) hB (by omega) h
/-- What an append leaves, off its row. -/
theorem Sl.grown {W W' : World} {row : Option Nat} (h : Sl W lo hi T A n l) (hg : W.grownBy W' row) (hr : ∀ k, row = some k → ¬ (lo ≤ k ∧ k < hi)) (hh : hi ≤ W.heap.size) : Sl W' lo hi T A n l :=
  h.keep fun p h1 h2 => World.cell?_of_block (hg.block p.block (by omega) (fun e => hr _ e.symm ⟨h1, h2⟩))
theorem Sl.setOther {W : World} (h : Sl W lo hi T A n l) {p : Addr} (hp : p.block < lo ∨ hi ≤ p.block) (u : Value) : Sl (W.setCell p u) lo hi T A n l :=
  h.keep fun q h1 h2 => World.cell?_of_block (Below.heap_setCell W p u q.block (by omega))
theorem Own.setRow (h : Own w B e T v l) {g : Nat} (hg : g < B) (cs : Array Value) : Own (w.setRow g cs) B e T v l :=
  h.kept (row := some g) ⟨rfl, rfl, rfl, by simp, fun k _ hne => setRow_other w g k cs (fun e => hne (by rw [e]))⟩ fun k hk he => by
    have := (h.lt k hk).1
    injection he with he
    omega
theorem Own.sls {A : Option Addr} {n c : Nat} (h : Own w B e T (.slice A n c) l) : SlS w (fun b => B ≤ b ∧ b < w.heap.size) T A n c l :=
  h.sl.sls fun hA => by
    subst hA
    rcases h.row.2 with ⟨h1, _⟩ | ⟨g, cap, cur, h1, _⟩
    · injection h1
    · injection h1 with hA
      cases hA
end

section
variable {α : Type} {w w' : World} {T : Ty α} {l : List α} {B : Nat} {e : TypeId} {g n c : Nat}
theorem Own.open_ {a : Addr} (h : Own w B e T (.slice (some a) n c) l) : ∃ g cur, a = ⟨g, 0, none⟩ ∧ l.length = n ∧ B ≤ g ∧ n ≤ c ∧ c ≤ maxLen ∧ w.heap[g]? = some (.cells cur e (0, 0)) ∧ cur.size = c * T.sz ∧ cur.toList.take (n * T.sz) = l.flatMap T.enc := by
  have hn : l.length = n := by
    obtain ⟨A', c', h'⟩ := h.form
    injection h' with _ h2 _
    exact h2.symm
  rcases h.row.2 with ⟨h1, _⟩ | ⟨g, cap, cur, h1, hb, hg, hnc, hcm, hcs, htake⟩
  · cases h1
  · injection h1 with hA _ hc
    injection hA with hA
    subst hA hc
    exact ⟨g, cur, rfl, hn, hb, by omega, hcm, hg, hcs, by rw [← hn]; exact htake⟩
theorem Own.ofRow {cur : Array Value} (hg : w.heap[g]? = some (.cells cur e (0, 0))) (hB : B ≤ g) (hl : l.length = n) (hn : n ≤ c) (hc : c ≤ maxLen) (hs : cur.size = c * T.sz) (hwf : ∀ x, x ∈ l → T.wf x) (ht : cur.toList.take (n * T.sz) = l.flatMap T.enc) :
    Own w B e T (.slice (some ⟨g, 0, none⟩) n c) l := by
  subst hl
  exact ⟨hwf, by rw [flatMap_len], .inr ⟨g, c, cur, rfl, hB, hg, hn, hc, hs, ht⟩⟩
theorem flat_take (T : Ty α) : ∀ (l : List α) (k : Nat), (l.take k).flatMap T.enc = (l.flatMap T.enc).take (k * T.sz)
  | [], k => by simp
  | x :: t, 0 => by simp
  | x :: t, k + 1 => by
    have e : (k + 1) * T.sz = (T.enc x).length + k * T.sz := by rw [T.len, Nat.add_mul]; omega
    simp only [List.take_succ_cons, List.flatMap_cons]
    rw [flat_take T t k, e, List.take_length_add_append]
theorem flat_drop (T : Ty α) : ∀ (l : List α) (k : Nat), (l.drop k).flatMap T.enc = (l.flatMap T.enc).drop (k * T.sz)
  | [], k => by simp
  | x :: t, 0 => by simp
  | x :: t, k + 1 => by
    have e : (k + 1) * T.sz = (T.enc x).length + k * T.sz := by rw [T.len, Nat.add_mul]; omega
    simp only [List.drop_succ_cons, List.flatMap_cons]
    rw [flat_drop T t k, e, List.drop_length_add_append]
/-- 'copy(d, s)' at elements of sz cells, onto a row known whole. -/
theorem run_copy_sz {P : Program} (w : World) (dT sT ty elem : TypeId) (sz : Nat) (g o dLen dCap : Nat) (a : Addr) (sLen sCap : Nat) (cur : Array Value) (t : TypeId) (cs : List Value) (n : Nat)
    (hu : P.underlying dT = some (.slice elem)) (hs : (P.info? elem).map (·.size) = some sz)
    (hg : w.heap[g]? = some (.cells cur t (0, 0))) (hn : Nat.min sLen dLen = n) (hcl : cs.length = n * sz)
    (hsrc : ∀ j v, cs[j]? = some v → w.cell? (a.add j) = some v) (hfit : o + cs.length ≤ cur.size) (h1 : ∀ v ∈ cs, v.oneCell' = true) :
    (Builtin.copy_ #[dT, sT] ty #[.slice (some ⟨g, o, none⟩) dLen dCap, .slice (some a) sLen sCap]).run P w =
      .ok (goInt n) (w.setRow g (cur.toList.take o ++ cs ++ cur.toList.drop (o + cs.length)).toArray) := by
  have hl := run_loadCells_list (P := P) w a cs hsrc
  have hst := run_storeCells_at P g o t cs 0 cur w hg (by simpa using hfit) h1
  rw [hcl] at hl
  cases hq : P.info? elem with
  | none => simp [hq] at hs
  | some i =>
    have hi : i.size = sz := by simpa [hq] using hs
    simp [Builtin.copy_, run_underlying hu, Builtin.lenOf, Builtin.firstCells, sizeOf, typeInfo, hq, hi, hn, hl, hst]
/-- 'clear(s)' at elements of sz cells, of a row known whole. -/
theorem run_clear_sz {P : Program} (w : World) (t e ty : TypeId) (z : Value) (ht : P.underlying t = some (.slice e)) (hv : (zeroValue e).run P w = .ok z w) (g o n c : Nat) (hn : 0 < n) (cur : Array Value) (t' : TypeId)
    (hg : w.heap[g]? = some (.cells cur t' (0, 0))) (zs : List Value) (hz : (Builtin.zeroCells z.cells n).toList = zs) (hfit : o + zs.length ≤ cur.size) (h1 : ∀ v ∈ zs, v.oneCell' = true) :
    (Builtin.clear_ #[t] ty #[.slice (some ⟨g, o, none⟩) n c]).run P w = .ok (.tuple #[]) (w.setRow g (cur.toList.take o ++ zs ++ cur.toList.drop (o + zs.length)).toArray) := by
  have hst := run_storeCells_at P g o t' zs 0 cur w hg (by simpa using hfit) h1
  obtain ⟨n, rfl⟩ : ∃ m, n = m + 1 := ⟨n - 1, by omega⟩
  simp [Builtin.clear_, run_underlying ht, hv, hz, hst]
end

end Go.Proofs.YtggomjfllbljeaaGreatDoor
