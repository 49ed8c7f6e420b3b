/- Rows of one's own, sorted: slices.SortFunc at elements of any size; at flights, at pairs of them. -/
import Derived.Test.YtlkdefmceghmnaaGreatDoorSortFz
import Derived.Test.YtlkdefmceghmnaaGreatDoorFlRef3
namespace Go.Proofs.YtlkdefmceghmnaaGreatDoor
set_option linter.unusedVariables false
open Go Go.RowKit Go.Sort Go.Shelf Go.Proofs
/-- What a sort leaves: the row, its things in order; no other block. -/
structure Sorted {α : Type} (lt : α → α → Bool) (W W' : World) (B : Nat) (E : TypeId) (T : Ty α) (v : Value) (l l' : List α) : Prop where
  perm : l'.Perm l
  ris : l'.Pairwise fun x y => lt y x = false
  own : Own W' B E T v l'
  gr : W.grownBy W' v.ownBlock
theorem sorted_nil {α : Type} {lt : α → α → Bool} {W : World} {B : Nat} {E : TypeId} {T : Ty α} {v : Value} (h : Own W B E T v []) : Sorted lt W W B E T v [] [] :=
  ⟨List.Perm.refl _, List.Pairwise.nil, h, ⟨rfl, rfl, rfl, Nat.le_refl _, fun _ _ _ => rfl⟩⟩
section
variable {α : Type} [Inhabited α]
theorem putCells_size (F cur : Array Value) : (putCells id 0 F cur).size = cur.size := by simp [putCells]
theorem putCells_take (T : Ty α) (d : Array α) (cur : Array Value) (n : Nat) (hd : d.size = n) (hn : n * T.sz ≤ cur.size) : (putCells id 0 (flatK T.enc T.sz d) cur).toList.take (n * T.sz) = d.toList.flatMap T.enc := by
  have hT := T.pos
  apply List.ext_getElem?
  intro j
  rw [List.getElem?_take]
  by_cases hj : j < n * T.sz
  · rw [if_pos hj]
    have hq : j / T.sz < n := Nat.div_lt_of_lt_mul (by rw [Nat.mul_comm]; exact hj)
    have hq' : j / T.sz < d.toList.length := by simpa [hd] using hq
    have hr : j % T.sz < (T.enc (d.toList[j / T.sz])).length := by rw [T.len]; exact Nat.mod_lt _ hT
    have h1 := flatMap_at T d.toList (j / T.sz) _ (List.getElem?_eq_getElem hq') (j % T.sz) _ (List.getElem?_eq_getElem hr)
    have hdm : j / T.sz * T.sz + j % T.sz = j := by rw [Nat.mul_comm]; exact Nat.div_add_mod j T.sz
    rw [hdm] at h1
    rw [h1]
    have hjc : j < cur.size := by omega
    have hsz : j < 0 + (flatK T.enc T.sz d).size := by rw [size_flatK, hd]; omega
    rw [Array.getElem?_toList]
    unfold putCells
    rw [Array.getElem?_mapIdx, Array.getElem?_eq_getElem hjc, Option.map_some, if_pos ⟨Nat.zero_le _, hsz⟩, Nat.sub_zero]
    show some (id (flatK T.enc T.sz d)[j]!) = _
    rw [id, get_flatK _ _ _ _ (by rw [hd]; exact hj)]
    have g1 : d[j / T.sz]! = d.toList[j / T.sz] := by rw [getElem!_pos d _ (by rw [hd]; exact hq)]; simp
    rw [g1, List.getElem!_eq_getElem?_getD, List.getElem?_eq_getElem hr]
    rfl
  · rw [if_neg hj, List.getElem?_eq_none (by rw [flatMap_len]; simp [hd]; omega)]
theorem sort_own {P : Program} {ρ : Ren} (L : SlLaysF0.n6 P ρ) (T : Ty α) (aE : ∀ w, (isAgg (ρ.t 24)).run P w = .ok true w) (zE : ∀ w, (Go.sizeOf (ρ.t 24)).run P w = .ok T.sz w) {lt : α → α → Bool} {cf : α → α → Int} (hlt : ∀ x y, decide (cf x y < 0) = lt x y) (hO : Lts lt) (g : Nat)
    (eg : ∀ args w, (callFunc g args).run P w = .ok (.enter g args) w) (hcmp : ∀ x y w, Calls P g #[.agg (T.enc x).toArray, .agg (T.enc y).toArray] w fun e w' => e = .returned (.int .i64 (cf x y)) ∧ Gr w w')
    {W : World} {B : Nat} {E : TypeId} {A : Option Addr} {n c : Nat} {l : List α} (h : Own W B E T (.slice A n c) l) (hn : n ≤ 1000000) :
    Calls P (ρ.f 6) #[.slice A n c, .func (.func g) #[] #[]] W fun e w' => e = .returned (.tuple #[]) ∧ ∃ l', Sorted lt W w' B E T (.slice A n c) l l' := by
  have hl : ltOf cf = lt := by funext x y; exact hlt x y
  have hS : SWO (ltOf cf) := by rw [hl]; exact ⟨hO.irr, hO.tr, hO.ntr⟩
  rcases Nat.eq_zero_or_pos n with h0 | hpos
  · subst h0
    have hl0 : l = [] := List.eq_nil_of_length_eq_zero h.sl.len
    subst hl0
    refine (AnyF.slices_SortFunc_none L A c (.func (.func g) #[] #[]) W).mono ?_
    rintro e w' ⟨rfl, rfl⟩
    exact ⟨rfl, [], sorted_nil h⟩
  · obtain ⟨b0, o0, hA, _⟩ := h.sl.cells hpos
    subst hA
    obtain ⟨R, cur, e, hlen, hB, hnc, hcm, hg, hcs, ht⟩ := h.open_
    injection e with e1 e2
    subst e1 e2
    have hT := T.pos
    have hRl : b0 < W.heap.size := (Array.getElem?_eq_some_iff.1 hg).1
    have hd : l.toArray.size = n := by simpa using hlen
    have hfit : n * T.sz ≤ cur.size := by rw [hcs]; exact Nat.mul_le_mul_right _ hnc
    have hH : HoldsK T.enc T.sz W b0 0 l.toArray := by
      intro j hj
      rw [size_flatK, hd] at hj
      rw [Nat.zero_add]
      refine ⟨?_, by simp [World.frozen?, hg]⟩
      rw [cell_of_row W b0 j cur _ (0, 0) hg]
      have h8 := congrArg (fun l : List Value => l[j]?) (ht.trans (putCells_take T l.toArray cur n hd hfit).symm)
      simp only [List.getElem?_take, if_pos hj, Array.getElem?_toList] at h8
      rw [h8]
      unfold putCells
      rw [Array.getElem?_mapIdx, Array.getElem?_eq_getElem (show j < cur.size by omega), Option.map_some, if_pos ⟨Nat.zero_le _, by rw [size_flatK, hd]; omega⟩, Nat.sub_zero]
    have hc1 : CmpLays P g #[] T.enc T.sz cf b0 0 l.toArray.size W := fun m os dk hs x y => (hcmp x y _).mono fun e w' ⟨h1, h2⟩ => ⟨h1, h2⟩
    have hcon := AnyQ.slices_SortFunc L T.sz aE zE T.enc T.len (fun x v hv => T.one x v hv) cf hS g #[] b0 0 c l.toArray W eg hc1 hH hRl (by rw [hd]; omega)
    rw [hd] at hcon
    refine hcon.mono ?_
    rintro e w' ⟨rfl, d', m, os, hp, hs, rfl⟩
    obtain ⟨p1, p2, p3⟩ := hp
    rw [hd] at p1
    have hheap : (sortWorldK T.enc T.sz W b0 0 m d' os).heap[b0]? = some (.cells (putCells id 0 (flatK T.enc T.sz d') cur) E (0, 0)) := by
      unfold sortWorldK putRowK putRow mapBlock
      rw [heap_grow_old _ _ (by simpa using hRl)]
      simp only [heap_ahead, Array.getElem?_modify, if_pos, hg, Option.map_some]
      rfl
    refine ⟨rfl, d'.toList, ⟨?_, ?_, ?_, ?_⟩⟩
    · have e1 : d'.extract 0 n = d' := by rw [← p1]; simp
      have e2 : l.toArray.extract 0 n = l.toArray := by rw [← hd]; simp
      rw [e1, e2] at p3
      simpa using p3
    · rw [List.pairwise_iff_getElem]
      intro i j hi hj hij
      have hi' : i < d'.size := by simpa using hi
      have hj' : j < d'.size := by simpa using hj
      have := hs i j (Nat.zero_le _) hij (by rw [← p1]; exact hj')
      rw [hl, getElem!_pos d' j hj', getElem!_pos d' i hi'] at this
      simpa using this
    · refine Own.ofRow hheap hB (by simpa using p1) hnc hcm (by rw [putCells_size]; exact hcs) (fun x hx => ?_) (putCells_take T d' cur n p1 hfit)
      have e1 : d'.extract 0 n = d' := by rw [← p1]; simp
      have e2 : l.toArray.extract 0 n = l.toArray := by rw [← hd]; simp
      rw [e1, e2] at p3
      exact h.wf x (by simpa using (p3.mem_iff).1 hx)
    · refine ⟨rfl, rfl, rfl, by unfold sortWorldK putRowK putRow mapBlock; simp [grow], fun k hk hne => ?_⟩
      have hkb : k ≠ b0 := fun e => hne (by rw [e]; rfl)
      unfold sortWorldK putRowK putRow mapBlock
      rw [heap_grow_old _ _ (by simpa using hk)]
      simp only [heap_ahead, Array.getElem?_modify]
      rw [if_neg (Ne.symm hkb)]
end
/-- Flights that are sorted. -/
structure SortedF (lt : Flt → Flt → Bool) (W W' : World) (EF EC : TypeId) (B : Nat) (v : Value) (rl rl' : List FlR) : Prop where
  perm : rl'.Perm rl
  ris : rl'.Pairwise fun x y => lt y.f x.f = false
  own : OwnF W' EF EC B v rl'
  gr : W.grownBy W' v.ownBlock
theorem SortedF.of {lt : Flt → Flt → Bool} {W W' : World} {EF EC : TypeId} {B : Nat} {v : Value} {rl rl' : List FlR} (h : OwnF W EF EC B v rl) (s : Sorted (byF lt) W W' B EF tFl v rl rl') : SortedF lt W W' EF EC B v rl rl' :=
  ⟨s.perm, s.ris, ⟨s.own, fun r hr => Own.kept (h.cl r (s.perm.mem_iff.1 hr)) s.gr fun k hk hv => h.off r (s.perm.mem_iff.1 hr) k hv hk,
    (s.perm.pairwise_iff fun {x y} h k h1 h2 => h k h2 h1).2 h.apt, fun r hr => h.off r (s.perm.mem_iff.1 hr)⟩, s.gr⟩
theorem lts_by {lt : Flt → Flt → Bool} (H : Lts lt) : Lts (byF lt) := ⟨fun _ => H.irr _, fun _ _ _ => H.tr _ _ _, fun _ _ _ => H.ntr _ _ _⟩
theorem sortF_order {W : World} {B : Nat} {A : Option Addr} {n c : Nat} {rl : List FlR} (h : OwnF W 55 99 B (.slice A n c) rl) (hn : n ≤ 1000000) :
    Calls Tryz.prog 19 #[.slice A n c, .func (.func 20) #[] #[]] W fun e w' => e = .returned (.tuple #[]) ∧ ∃ rl', SortedF ltF W w' 55 99 B (.slice A n c) rl rl' :=
  (sort_own sortFl tFl Tryz.isAgg55 Tryz.sizeOf55 (lt := byF ltF) (cf := fun x y => cmpF x.f y.f) (fun x y => cmpF_lt x.f y.f) (lts_by lts_f) 20 (enters_of Tryz.func20 (by kernel_rfl) rfl) (fun x y w => order_any x y w) h.own hn).mono fun e w' ⟨he, l', hs⟩ => ⟨he, l', SortedF.of h hs⟩
end Go.Proofs.YtlkdefmceghmnaaGreatDoor
