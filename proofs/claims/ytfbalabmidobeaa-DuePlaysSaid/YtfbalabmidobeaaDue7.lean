/- Package due: what is ripe, sorted: slices.SortFunc over pointers. -/
import Derived.Test.YtfbalabmidobeaaDue6
import Derived.Test.YtfbalabmidobeaaSortIt
namespace Go.Proofs.Ytfbalabmidobeaa
set_option linter.unusedVariables false
open Go Go.RowKit Go.Sort Go.Shelf
/-- The places of those that are ripe, among the first k. -/
def ripeI (f : Nat → Nd) (now : Int) (k : Nat) : List Nat := (List.range k).filter fun i => decide ((f i).it.mom ≤ now)
theorem ripeI_lt {f : Nat → Nd} {now : Int} {k : Nat} : ∀ i ∈ ripeI f now k, i < k := fun i h => List.mem_range.1 (List.mem_filter.1 h).1
theorem ripeI_succ (f : Nat → Nd) (now : Int) (k : Nat) : ripeI f now (k + 1) = ripeI f now k ++ if (f k).it.mom ≤ now then [k] else [] := by
  unfold ripeI
  rw [List.range_succ, List.filter_append]
  congr 1
  by_cases h : (f k).it.mom ≤ now <;> simp [h]
def ripeB (f : Nat → Nd) (now : Int) (k : Nat) : List Nat := (ripeI f now k).map fun i => (f i).blk
/-- They as places below n. -/
def ripeN (f : Nat → Nd) (now : Int) (n : Nat) : List (Fin n) := (ripeI f now n).pmap (fun i h => ⟨i, h⟩) ripeI_lt
theorem ripeN_len (f : Nat → Nd) (now : Int) (n : Nat) : (ripeN f now n).length = (ripeB f now n).length := by simp [ripeN, ripeB]
theorem ripeN_mem (f : Nat → Nd) (now : Int) (n : Nat) (i : Fin n) : i ∈ ripeN f now n ↔ (f i).it.mom ≤ now := by
  unfold ripeN
  rw [List.mem_pmap]
  constructor
  · rintro ⟨a, ha, rfl⟩
    simpa using (List.mem_filter.1 ha).2
  · intro h
    exact ⟨i, List.mem_filter.2 ⟨List.mem_range.2 i.2, by simpa using h⟩, rfl⟩
theorem ripeN_val (f : Nat → Nd) (now : Int) (n : Nat) : (ripeN f now n).map (fun i : Fin n => (i : Nat)) = ripeI f now n := by
  unfold ripeN
  rw [List.map_pmap]
  simp
theorem ripeN_nodup (f : Nat → Nd) (now : Int) (n : Nat) : (ripeN f now n).Nodup := by
  have h : (ripeI f now n).Nodup := List.nodup_range.sublist List.filter_sublist
  rw [← ripeN_val, List.nodup_iff_pairwise_ne, List.pairwise_map] at h
  rw [List.nodup_iff_pairwise_ne]
  exact h.imp fun {a b} hab e => hab (by rw [e])
theorem ripeN_at (f : Nat → Nd) (now : Int) (n j : Nat) : (ripeB f now n)[j]? = ((ripeN f now n)[j]?).map fun i : Fin n => (f i).blk := by
  unfold ripeB
  rw [← ripeN_val, List.map_map, List.getElem?_map]
  rfl
/-- What order tells of two places. -/
def cfN (f : Nat → Nd) (n : Nat) (x y : Fin n) : Int := cmpI (f x).it (f y).it
theorem ltOf_N (f : Nat → Nd) (n : Nat) (x y : Fin n) : ltOf (cfN f n) x y = ltI (f x).it (f y).it := cmpI_lt _ _
theorem swo_N (f : Nat → Nd) (n : Nat) : SWO (ltOf (cfN f n)) where
  irrefl x := by rw [ltOf_N]; exact lts_it.irr _
  trans x y z h1 h2 := by rw [ltOf_N] at *; exact lts_it.tr _ _ _ h1 h2
  ntrans x y z h1 h2 := by rw [ltOf_N] at *; exact lts_it.ntr _ _ _ h1 h2
def sortN (f : Nat → Nd) (now : Int) (n : Nat) : List (Fin n) := (ripeN f now n).mergeSort fun x y => !ltOf (cfN f n) y x
theorem sortN_its {W : World} {S : Nat → Prop} {D : Nat} {L : List It} {M : Nat} {rv : Value} {n : Nat} {f : Nat → Nd} {g : Value → Option Value} (h : DI W S D L M rv n f g) (now : Int) : (sortN f now n).map (fun i : Fin n => (f i).it) = ripeF L now := by
  have hp : (sortN f now n).Perm (ripeN f now n) := List.mergeSort_perm _ _
  have hnd : (sortN f now n).Nodup := hp.nodup_iff.2 (ripeN_nodup f now n)
  have hs : (sortN f now n).Pairwise fun x y => (!ltOf (cfN f n) y x) = true := by
    refine List.pairwise_mergeSort ?_ ?_ _
    · intro a b c h1 h2
      simp only [Bool.not_eq_true', ltOf_N] at *
      exact lts_it.ntr _ _ _ h2 h1
    · intro a b
      simp only [ltOf_N, Bool.or_eq_true, Bool.not_eq_true']
      cases e : ltI (f b).it (f a).it with
      | false => exact .inl rfl
      | true => exact .inr (lts_it.asym e)
  refine Ris.eq ?_ ?_ ?_
  · unfold Ris
    rw [List.pairwise_map]
    refine (hs.and hnd).imp fun {a b} ⟨h1, h2⟩ => ?_
    simp only [Bool.not_eq_true', ltOf_N] at h1
    cases e : ltI (f a).it (f b).it with
    | true => rfl
    | false => exact absurd (Fin.ext (h.inj a.2 b.2 (congrArg It.name (ltI_eq e h1)))) h2
  · rw [ripeF_filter h.ris]
    exact h.ris.sublist List.filter_sublist
  · intro x
    rw [ripeF_filter h.ris, List.mem_filter, List.mem_map, h.mem]
    constructor
    · rintro ⟨i, hi, rfl⟩
      exact ⟨⟨i, i.2, rfl⟩, by simpa using (ripeN_mem f now n i).1 (hp.mem_iff.1 hi)⟩
    · rintro ⟨⟨i, hi, rfl⟩, hm⟩
      exact ⟨⟨i, hi⟩, hp.mem_iff.2 ((ripeN_mem f now n ⟨i, hi⟩).2 (by simpa using hm)), rfl⟩
theorem sortWorld_block {α : Type} [Inhabited α] (enc : α → Value) (w : World) (blk off m : Nat) (dk : Array α) (os : Array Obj) {k : Nat} (hk : k ≠ blk) (hz : k < w.heap.size) : (sortWorld enc w blk off m dk os).heap[k]? = w.heap[k]? := by
  unfold sortWorld putRow mapBlock
  rw [heap_grow_old _ _ (by simpa using hz)]
  simp only [heap_ahead, Array.getElem?_modify]
  rw [if_neg (Ne.symm hk)]
theorem sortWorld_below {α : Type} [Inhabited α] (enc : α → Value) (w : World) (blk off m : Nat) (dk : Array α) (os : Array Obj) {B : Nat} {a : World} (h : Below B a w) (hB : B ≤ blk) (hB0 : B ≤ a.heap.size) : Below B a (sortWorld enc w blk off m dk os) :=
  h.trans ⟨rfl, rfl, rfl, by unfold sortWorld putRow mapBlock; simp [grow], fun k hk => sortWorld_block enc w blk off m dk os (by omega) (by have := h.size; omega)⟩
theorem sortWorld_cell {α : Type} [Inhabited α] (enc : α → Value) (w : World) (blk m : Nat) (d dk : Array α) (os : Array Obj) (h : Holds enc w blk 0 d) (hb : blk < w.heap.size) (hs : dk.size = d.size) {j : Nat} (hj : j < dk.size) : (sortWorld enc w blk 0 m dk os).cell? ⟨blk, j, none⟩ = some (enc dk[j]!) := by
  unfold sortWorld
  rw [cell?_grow _ _ _ (by simpa using hb)]
  have := cell?_putRow enc (Sort.ahead w m) blk 0 d dk (holds_ahead enc w m blk 0 d h) hs j hj
  rw [Nat.zero_add] at this
  exact this
def encN (f : Nat → Nd) (n : Nat) (i : Fin n) : Value := .pointer (some ⟨(f i).blk, 0, none⟩)
/-- slices.SortFunc over those that are ripe. -/
theorem sort_ripe {W w1 : World} {S : Nat → Prop} {D : Nat} {L : List It} {M : Nat} {rv : Value} {n : Nat} {f : Nat → Nd} {g : Value → Option Value} (h : DI W S D L M rv n f g) (hS : ∀ b, S b → b < W.heap.size) (hn : 0 < n) (hn2 : n ≤ 100000) (now : Int)
    {R c : Nat} (hb : Below W.heap.size W w1) (ho : Own w1 W.heap.size 56 tPt (.slice (some ⟨R, 0, none⟩) (ripeB f now n).length c) (ripeB f now n)) :
    Calls Try.prog 25 #[.slice (some ⟨R, 0, none⟩) (ripeB f now n).length c, .func (.func 26) #[] #[]] w1 fun e w' => e = .returned (.tuple #[]) ∧ Below W.heap.size W w' ∧
      ∀ j x, ((ripeF L now).map (·.name))[j]? = some x → ∃ b, w'.cell? ⟨R, j, none⟩ = some (.pointer (some ⟨b, 0, none⟩)) ∧ W.cell? ⟨b, 0, none⟩ = some (.string x) ∧ b < W.heap.size := by
  haveI : Inhabited (Fin n) := ⟨⟨0, hn⟩⟩
  obtain ⟨g', cur, e, _, hBR, hnc, hcm, hg, hcs, ht⟩ := ho.open_
  obtain rfl : R = g' := by injection e
  have hlt : ∀ i, i < n → (f i).blk < W.heap.size := fun i hi => hS _ (h.sI i hi)
  have hz := hb.size
  have hRl : R < w1.heap.size := (Array.getElem?_eq_some_iff.1 hg).1
  have hH : Holds (encN f n) w1 R 0 (ripeN f now n).toArray := by
    intro j hj
    rw [Nat.zero_add]
    have hj' : j < (ripeN f now n).length := by simpa using hj
    refine ⟨?_, by simp [World.frozen?, hg]⟩
    rw [cell_of_row w1 R j cur _ (0, 0) hg]
    have h8 := congrArg (fun l : List Value => l[j]?) ht
    simp only [enc_at, ripeN_at, List.getElem?_take] at h8
    rw [if_pos (show j < (ripeB f now n).length * tPt.sz by show j < _ * 1; rw [← ripeN_len]; omega), List.getElem?_eq_getElem hj'] at h8
    rw [← Array.getElem?_toList, h8]
    rw [getElem!_pos _ j (by simpa using hj')]
    rfl
  have hcmp : CmpLays1 Try.prog 26 #[] (encN f n) (cfN f n) R 0 (ripeN f now n).toArray.size w1 := fun m os dk hs x y =>
    order_any (f x).blk (f y).blk (f x).it (f y).it x y _
      ((sortWorld_block (encN f n) w1 R 0 m dk os (by have := hlt x x.2; omega) (by have := hlt x x.2; omega)).trans ((h.ho.it x x.2).below hb (hlt x x.2)))
      ((sortWorld_block (encN f n) w1 R 0 m dk os (by have := hlt y y.2; omega) (by have := hlt y y.2; omega)).trans ((h.ho.it y y.2).below hb (hlt y y.2)))
  have eg : ∀ args w, (callFunc 26 args).run Try.prog w = .ok (.enter 26 args) w := enters_of Try.func26 (by kernel_rfl) rfl
  have hcon := Any.slices_SortFunc_total sortIt (encN f n) (fun _ => rfl) (cfN f n) (swo_N f n) 26 #[] R 0 c (ripeN f now n).toArray w1 eg hcmp hH hRl (by
    have h5 : (ripeN f now n).length ≤ n := by rw [ripeN_len]; unfold ripeB ripeI; rw [List.length_map]; exact Nat.le_trans (List.length_filter_le _ _) (by simp)
    simp; omega) (fun x y h1 h2 => by
    rw [ltOf_N] at h1 h2
    exact Fin.ext (h.inj x.2 y.2 (congrArg It.name (ltI_eq h1 h2))))
  rw [show (ripeN f now n).toArray.size = (ripeB f now n).length by simp [ripeN_len]] at hcon
  refine hcon.mono ?_
  rintro e w' ⟨rfl, m, os, rfl⟩
  refine ⟨rfl, sortWorld_below _ _ _ _ _ _ _ hb hBR (Nat.le_refl _), fun j x hx => ?_⟩
  rw [← sortN_its h now, List.map_map, List.getElem?_map] at hx
  obtain ⟨i, hi, e2⟩ := Option.map_eq_some_iff.1 hx
  have hj : j < (sortN f now n).length := (List.getElem?_eq_some_iff.1 hi).1
  have hsz : (sortN f now n).toArray.size = (ripeN f now n).toArray.size := by simp [sortN]
  refine ⟨(f i).blk, ?_, ?_, hlt i i.2⟩
  · have h7 := sortWorld_cell (encN f n) w1 R m (ripeN f now n).toArray (sortN f now n).toArray os hH hRl hsz (j := j) (by simpa using hj)
    rw [getElem!_pos _ j (by simpa using hj)] at h7
    have h9 : (sortN f now n).toArray[j]'(by simpa using hj) = i := by
      simpa [List.getElem?_eq_getElem hj] using hi
    rw [h9] at h7
    exact h7
  · rw [← e2]
    exact (h.ho.it i i.2).cells 0
end Go.Proofs.Ytfbalabmidobeaa
