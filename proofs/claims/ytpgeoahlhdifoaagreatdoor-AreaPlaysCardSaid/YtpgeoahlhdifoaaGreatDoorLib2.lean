/- More words for memory: an append whose row is told (its own old block, or a new one), rows that are apart, PNRs in blocks told by a predicate. -/
import Derived.Test.YtpgeoahlhdifoaaGreatDoorLive
import Derived.Test.YtpgeoahlhdifoaaGreatDoorMLib
import Derived.Laws.AppendOwnNone
namespace Go.Proofs.YtpgeoahlhdifoaaGreatDoor
set_option linter.unusedVariables false
open Go Go.RowKit

/-- Two slice values whose own blocks are not one. -/
def Dif (u v : Value) : Prop := ∀ k, u.ownBlock = some k → v.ownBlock ≠ some k
theorem Dif.symm {u v : Value} (h : Dif u v) : Dif v u := fun k h1 h2 => h k h2 h1

section
variable {α : Type} {w w' : World} {lo hi n : Nat} {T : Ty α} {A : Option Addr} {l : List α} {B : Nat} {e : TypeId} {v : Value}

theorem Own.kept (h : Own w B e T v l) {row : Option Nat} (hg : w.grownBy w' row) (hne : ∀ k, v.ownBlock = some k → row ≠ some k) : Own w' B e T v l :=
  ⟨h.wf, h.row.kept hg (by
    cases hv : v.ownBlock with
    | none => exact .inl rfl
    | some k => exact .inr fun e => hne k hv e.symm)⟩
theorem Own.lt (h : Own w B e T v l) : ∀ k, v.ownBlock = some k → B ≤ k ∧ k < w.heap.size := h.row.lt
/-- A store into a block that is not its own. -/
theorem Own.setOther (h : Own w B e T v l) {p : Addr} (hp : v.ownBlock ≠ some p.block) (u : Value) : Own (w.setCell p u) B e T v l := by
  refine h.kept (row := some p.block) ⟨rfl, rfl, rfl, by simp, fun k hk hne => Below.heap_setCell w p u k (fun e => hne (by rw [e]))⟩ (fun k hk e => hp (by rw [hk, e]))
theorem Own.dif_lt {β : Type} {T' : Ty β} {e' : TypeId} {v' : Value} {l' : List β} {m : Nat} (h : Own w B e T v l) (hm : ∀ k, v'.ownBlock = some k → k < m) (hB : m ≤ B) : Dif v' v := by
  intro k h1 h2
  have := hm k h1
  have := (h.lt k h2).1
  omega
theorem Own.atBase {B' : Nat} (h : Own w B e T v l) (hb : ∀ k, v.ownBlock = some k → B' ≤ k) : Own w B' e T v l := by
  refine ⟨h.wf, h.row.1, ?_⟩
  rcases h.row.2 with hn | ⟨g, cap, cur, rfl, h1, hg, r⟩
  · exact .inl hn
  · exact .inr ⟨g, cap, cur, rfl, hb g rfl, hg, r⟩

theorem flatMap_len (T : Ty α) : ∀ l : List α, (l.flatMap T.enc).length = l.length * T.sz
  | [] => by simp
  | x :: t => by rw [List.flatMap_cons, List.length_append, T.len, flatMap_len T t, List.length_cons, Nat.add_mul]; omega
/-- 'append' of what a slice holds onto an own row, as a run: the row's block is told. -/
theorem run_append_told {P : Program} (w : World) (t ty : TypeId) (S : SlT P t e T.sz) (hown : Own w B e T v l) {A : Option Addr} {m c : Nat} {ys : List α} {lo hi : Nat} (hs : Sl w lo hi T A m ys) (hB : B ≤ w.heap.size)
    (hbig : l.length + m < 2147483648) (hnil : A = none → c = 0) :
    ∃ v' w', (Builtin.append_ #[t, t] ty #[v, .slice A m c]).run P w = .ok v' w' ∧ Own w' B e T v' (l ++ ys) ∧ w.grownBy w' v.ownBlock ∧ (v'.ownBlock = v.ownBlock ∨ v'.ownBlock = some w.heap.size) := by
  obtain ⟨i, z, b, hi, h0, h1, h2, hb, hz⟩ := S.hi
  have hwf : ∀ x, x ∈ l ++ ys → T.wf x := fun x hx => by
    rcases List.mem_append.1 hx with h' | h'
    · exact hown.wf x h'
    · exact hs.wf x h'
  by_cases hm : m = 0
  · subst hm
    have hy : ys = [] := List.eq_nil_of_length_eq_zero hs.len
    subst hy
    cases A with
    | none =>
      have hc := hnil rfl
      subst hc
      have hr := run_append_owned_none (P := P) (w := w) B t ty e i T.sz S.ht hi v l.length _ hown.row
      exact ⟨v, w, hr, by rw [List.append_nil]; exact hown, ⟨rfl, rfl, rfl, Nat.le_refl _, fun _ _ _ => rfl⟩, .inl rfl⟩
    | some a =>
      rcases hown.row.2 with ⟨rfl, hn⟩ | ⟨g, cap, cur, rfl, hbg, hg, hnc, hcm, hcs, htake⟩
      · have hr := run_append_own (P := P) w B t ty e i z T.sz b S.ht hi h0 h1 h2 hz T.pos _ l.length (l.flatMap T.enc) hown.row a 0 c [] (by simp) (by simp) (by simp) (by unfold maxLen; omega) (by rw [hn]; omega) hB
        obtain ⟨v', w', hrun, hrow, hgr, hiff⟩ := hr
        have hv := hiff.2 ⟨rfl, rfl⟩
        subst hv
        refine ⟨_, w', hrun, ⟨hwf, ?_⟩, hgr, .inl rfl⟩
        rw [List.append_nil] at hrow ⊢
        exact hrow
      · have hr := run_append_room (P := P) w t ty e i S.ht hi g l.length cap cur hg a 0 c [] (by simp) (by simp) (by simp) (by omega) (by rw [h1, hcs]; simp; exact Nat.mul_le_mul_right _ hnc)
        refine ⟨_, _, hr, ⟨hwf, ?_, .inr ⟨g, cap, _, by simp, hbg, setRow_heap w g cur _ e _ hg, by simpa using hnc, hcm, ?_, ?_⟩⟩, ⟨rfl, rfl, rfl, by simp, fun k _ hk => setRow_other w g k _ (fun e => hk (by simp [Value.ownBlock, e]))⟩, .inl rfl⟩
        · simpa using hown.row.1
        · simp; exact hcs
        · simp; exact htake
  · obtain ⟨ba, oa, rfl, h3, h4, hc⟩ := hs.cells (by omega)
    have hlen : (ys.flatMap T.enc).length = m * T.sz := by rw [flatMap_len, hs.len]
    have hnews : ∀ j u, (ys.flatMap T.enc)[j]? = some u → w.cell? ((⟨ba, oa, none⟩ : Addr).add j) = some u := by
      intro j u hu
      have hj : j < (ys.flatMap T.enc).length := (List.getElem?_eq_some_iff.1 hu).1
      have hadd : (⟨ba, oa, none⟩ : Addr).add j = ⟨ba, oa + j, none⟩ := by unfold Addr.add; split <;> simp_all
      rw [hadd]
      have hT := T.pos
      have hk : j / T.sz < ys.length := by rw [hs.len]; rw [hlen] at hj; exact Nat.div_lt_of_lt_mul (by rw [Nat.mul_comm]; exact hj)
      have hx := List.getElem?_eq_getElem hk
      have hmod : j % T.sz < (T.enc ys[j / T.sz]).length := by rw [T.len]; exact Nat.mod_lt _ hT
      have hu2 := flatMap_at T ys (j / T.sz) _ hx (j % T.sz) _ (List.getElem?_eq_getElem hmod)
      have hdm : j / T.sz * T.sz + j % T.sz = j := by rw [Nat.mul_comm]; exact Nat.div_add_mod j T.sz
      rw [hdm, hu] at hu2
      have := hc (j / T.sz) _ hx (j % T.sz) _ (List.getElem?_eq_getElem hmod)
      rw [Nat.add_assoc, hdm, ← hu2] at this
      exact this
    have hone : ∀ u ∈ ys.flatMap T.enc, u.oneCell' = true := fun u hu => by
      obtain ⟨x, _, hx⟩ := List.mem_flatMap.1 hu
      exact T.one x u hx
    have hbytes : (l.length + m) * b ≤ 140737488355328 := Nat.le_trans (Nat.mul_le_mul (show l.length + m ≤ 2147483648 by omega) hb) (by omega)
    rcases hown.row.2 with ⟨rfl, hn⟩ | ⟨g, cap, cur, rfl, hbg, hg, hnc, hcm, hcs, htake⟩
    · obtain ⟨v', w', hrun, hrow, hgr, hiff⟩ := run_append_own (P := P) w w.heap.size t ty e i z T.sz b S.ht hi h0 h1 h2 hz T.pos (.slice none 0 0) l.length (l.flatMap T.enc) ⟨hown.row.1, .inl ⟨rfl, hn⟩⟩ ⟨ba, oa, none⟩ m c _ hlen hnews hone (by unfold maxLen; omega) hbytes (Nat.le_refl _)
      have hnew := run_append_nil (P := P) w t ty e i z S.ht hi h0 ⟨ba, oa, none⟩ m c _ (by rw [h1]; exact hlen) hnews (by omega) (by omega) (by rw [h2]; refine Nat.le_trans (Nat.mul_le_mul (show m ≤ 2147483648 by omega) hb) (by omega))
      rw [hnew] at hrun
      injection hrun with hv hw'
      refine ⟨v', w', by rw [hnew, hv, hw'], ⟨hwf, ?_⟩, hgr, .inr (by rw [← hv]; rfl)⟩
      rw [List.flatMap_append, List.length_append, hs.len]
      refine ⟨hrow.1, ?_⟩
      rcases hrow.2 with hx | ⟨g, cap, cur, r1, r2, r3⟩
      · exact .inl hx
      · exact .inr ⟨g, cap, cur, r1, by omega, r3⟩
    · by_cases hroom : l.length + m ≤ cap
      · have hfit : l.length * i.size + (ys.flatMap T.enc).length ≤ cur.size := by rw [hlen, hcs, h1, ← Nat.add_mul]; exact Nat.mul_le_mul_right _ hroom
        have hr := run_append_room (P := P) w t ty e i S.ht hi g l.length cap cur hg ⟨ba, oa, none⟩ m c _ (by rw [h1]; exact hlen) hnews hone hroom hfit
        have hlx := hown.row.1
        rw [h1] at hr
        refine ⟨_, _, hr, ⟨hwf, ?_, .inr ⟨g, cap, _, by rw [List.length_append, hs.len], hbg, setRow_heap w g cur _ e _ hg, by rw [List.length_append, hs.len]; exact hroom, hcm, ?_, ?_⟩⟩, ⟨rfl, rfl, rfl, by simp, fun k _ hk => setRow_other w g k _ (fun e => hk (by simp [Value.ownBlock, e]))⟩, .inl rfl⟩
        · rw [List.flatMap_append, List.length_append, List.length_append, hlx, hlen, hs.len, Nat.add_mul]
        · simp only [List.size_toArray, List.length_append, List.length_take, List.length_drop, Array.length_toList]
          rw [h1] at hfit
          omega
        · rw [htake, List.flatMap_append, List.length_append, hs.len, Nat.add_mul, ← hlx, ← hlen, ← List.length_append]
          exact List.take_left
      · have holds : ∀ j u, (l.flatMap T.enc)[j]? = some u → w.cell? ((⟨g, 0, none⟩ : Addr).add j) = some u := hown.row.cells (g := g) rfl
        have hr := run_append_grow (P := P) w t ty e i z S.ht hi h0 ⟨g, 0, none⟩ l.length cap _ (by rw [h1]; exact hown.row.1) holds ⟨ba, oa, none⟩ m c _ (by rw [h1]; exact hlen) hnews (by omega) (by omega) (by rw [h2]; exact growslice_fits (by omega) hbytes)
        obtain ⟨v', w', hrun, hrow, hgr, hiff⟩ := run_append_own (P := P) w B t ty e i z T.sz b S.ht hi h0 h1 h2 hz T.pos _ l.length (l.flatMap T.enc) hown.row ⟨ba, oa, none⟩ m c _ hlen hnews hone (by unfold maxLen; omega) hbytes hB
        rw [hr] at hrun
        injection hrun with hv hw'
        refine ⟨v', w', by rw [hr, hv, hw'], ⟨hwf, ?_⟩, hgr, .inr (by rw [← hv]; rfl)⟩
        rw [List.flatMap_append, List.length_append, hs.len]
        exact hrow

theorem append_law {P : Program} {t : TypeId} {ops : Array Oper} {rest : List Oper} {o : Oper} {a : Act} {Q : Exit → Act → World → Prop} (hgd : o.guard = none) (s x : Operand)
    (ho : o.op = .call { callee := .builtin .append, args := #[s, x], argTypes := #[t, t] }) (S : SlT P t e T.sz)
    {W : World} (hs : a.eval s = v) (hown : Own W B e T v l) {m c : Nat} {ys : List α} (hx : a.eval x = .slice A m c) (hsl : Sl W lo hi T A m ys) (hnil : A = none → c = 0) (hB : B ≤ W.heap.size) (hbig : l.length + m < 2147483648)
    (h : ∀ v' w', Own w' B e T v' (l ++ ys) → W.grownBy w' v.ownBlock → (v'.ownBlock = v.ownBlock ∨ v'.ownBlock = some W.heap.size) → wpList P ops Q rest (a.put o.dst v') w') : wpList P ops Q (o :: rest) a W := by
  obtain ⟨v', w', hrun, h1, h2, h3⟩ := run_append_told (P := P) W t o.type S hown hsl hB hbig hnil (c := c)
  refine wpList_plain hgd fun K hK => ?_
  unfold Oper.wp
  simp only [execOp, ho, resolve, invoke, builtin, Sem.run_bind, Sem.run_pure, Result.andThen_ok, List.map_toArray, List.map_cons, List.map_nil, hs, hx, hrun]
  exact hK _ _ (h v' w' h1 h2 h3)
/-- One element, in a block of its own. -/
theorem Sl.one (W : World) (y : α) (hy : T.wf y) (news : Array Value) (hn : news.toList = T.enc y) (t : TypeId) : Sl (W.alloc (.cells news t)) W.heap.size (W.heap.size + 1) T (some ⟨W.heap.size, 0, none⟩) 1 [y] := by
  refine ⟨rfl, fun x hx => by rw [List.mem_singleton.1 hx]; exact hy, fun _ => ⟨W.heap.size, 0, rfl, Nat.le_refl _, by omega, fun k x hx j u hu => ?_⟩⟩
  rcases k with _ | k
  · simp only [List.getElem?_cons_zero, Option.some.injEq] at hx
    subst hx
    rw [cell_of_row _ _ _ news t (0, 0) (heap_alloc_new W _), ← hu, ← hn]
    simp
  · simp at hx
theorem push_told {P : Program} {t : TypeId} {ops : Array Oper} {rest : List Oper} {o : Oper} {a : Act} {Q : Exit → Act → World → Prop} (hgd : o.guard = none) (s x : Operand)
    (ho : o.op = .call { callee := .builtin .append, args := #[s, x], argTypes := #[t, t] }) (S : SlT P t e T.sz)
    {W : World} (hs : a.eval s = v) (hown : Own W B e T v l) (y : α) (hy : T.wf y) (news : Array Value) (hn : news.toList = T.enc y)
    (hx : a.eval x = .slice (some ⟨W.heap.size, 0, none⟩) 1 1) (hB : B ≤ W.heap.size) (hl : l.length < 2147483640)
    (h : ∀ v' w', Own w' B e T v' (l ++ [y]) → W.grownBy w' v.ownBlock → (v'.ownBlock = v.ownBlock ∨ ∀ k, v'.ownBlock = some k → W.heap.size ≤ k) → wpList P ops Q rest (a.put o.dst v') w') : wpList P ops Q (o :: rest) a (W.alloc (.cells news e)) := by
  refine append_law hgd s x ho S hs (hown.alloc _) hx (Sl.one W y hy news hn e) (fun h => by cases h) (by simp; omega) (by omega) fun v' w' h1 h2 h3 => h v' w' h1 ?_ ?_
  · refine ⟨h2.os, h2.tape, h2.output, Nat.le_trans (by simp) h2.size, fun k hk hne => (h2.block k (by simp; omega) hne).trans (heap_alloc_old W _ hk)⟩
  · rcases h3 with h3 | h3
    · exact .inl h3
    · refine .inr fun k hk => ?_
      rw [h3] at hk
      injection hk with hk
      simp at hk
      omega
end
end Go.Proofs.YtpgeoahlhdifoaaGreatDoor
