/- A map of the call's own from keys to counts: what is known of it, and what a look-up, an entry and a store into the entry do. Over any program. -/
import Derived.Test.YtlkdefmceghmnaaGreatDoorLib
import Derived.WideKeyEntry
import Derived.DeepKeys4
import Derived.Maps.OwnOps
namespace Go.Proofs.YtlkdefmceghmnaaGreatDoor
set_option linter.unusedVariables false
open Go Go.RowKit
open Go.ChangeShapes Go.WideShapes Go.MapKept Go.ChangeMaps
open Go.WideMaps (KeyLaw)
/-- The map at block b tells the count f of each key. -/
structure Cnt (P : Program) (k : TypeId) (w : World) (b : Nat) (f : Value → Int) (es : Array MapEntry) (clock : Nat) : Prop where
  heap : w.heap[b]? = some (.map es clock)
  keys : ∀ x ∈ es.toList, ∃ l, keyOf P k x.key = some l
  lt : ∀ x ∈ es.toList, x.born < clock
  nod : (es.toList.map (·.born)).Nodup
  apart : (es.toList.map (·.key)).Nodup
  val : ∀ x ∈ es.toList, x.val = .int .i64 (f x.key)
  zero : ∀ v, (∀ x ∈ es.toList, x.key ≠ v) → f v = 0
def MapCnt (P : Program) (k : TypeId) (w : World) (b : Nat) (f : Value → Int) : Prop := ∃ es clock, Cnt P k w b f es clock
section
variable {P : Program} {k e t : TypeId} {w w' : World} {b : Nat} {f : Value → Int} {es : Array MapEntry} {clock : Nat}
theorem MapCnt.size (h : MapCnt P k w b f) : b < w.heap.size := by
  obtain ⟨es, c, C⟩ := h
  exact (Array.getElem?_eq_some_iff.1 C.heap).1
theorem MapCnt.keep (h : MapCnt P k w b f) (hk : w'.heap[b]? = w.heap[b]?) : MapCnt P k w' b f := by
  obtain ⟨es, c, C⟩ := h
  exact ⟨es, c, hk.trans C.heap, C.keys, C.lt, C.nod, C.apart, C.val, C.zero⟩
theorem MapCnt.alloc (h : MapCnt P k w b f) (o : Obj) : MapCnt P k (w.alloc o) b f := h.keep (Below.heap_alloc w o b h.size)
theorem MapCnt.drew (h : MapCnt P k w b f) : MapCnt P k w.drew b f := h.keep rfl
theorem MapCnt.drewN (h : MapCnt P k w b f) (n : Nat) : MapCnt P k (w.drewN n) b f := h.keep rfl
theorem MapCnt.below {B : Nat} (h : MapCnt P k w b f) (hb : Below B w w') (hB : b < B) : MapCnt P k w' b f := h.keep (hb.block b hB)
theorem MapCnt.made (w : World) : MapCnt P k (w.alloc (.map #[] 0)) w.heap.size (fun _ => 0) :=
  ⟨#[], 0, heap_alloc_new w _, by simp, by simp, by simp, by simp, by simp, by simp⟩
theorem MapCnt.setCell (h : MapCnt P k w b f) (p : Addr) (hne : p.block ≠ b) (u : Value) : MapCnt P k (w.setCell p u) b f := by
  exact h.keep (Below.heap_setCell w p u b (fun e => hne e.symm))
theorem Cnt.look {key : Value} {kl : Lit} (C : Cnt P k w b f es clock) (K : KeyLaw P k) (ht : P.underlying t = some (.map k e)) (hz : ∀ u : World, (zeroValue e).run P u = .ok (.int .i64 0) u) (hkey : keyOf P k key = some kl) :
    (Instr.lookup t (.map (some b)) key false).run P w = .ok (.int .i64 (f key)) w := by
  rcases K.find w hkey es.toList C.keys with ⟨h1, h2⟩ | ⟨j, e0, h1, h2, h3⟩
  · rw [C.zero key h2]
    simp [Instr.lookup, run_underlying ht, MapKept.run_getObj_map C.heap, K.check w _ hkey, h1, hz, Result.andThen]
  · have hv := C.val e0 (List.mem_of_getElem? h2)
    rw [h3] at hv
    simp [Instr.lookup, run_underlying ht, MapKept.run_getObj_map C.heap, K.check w _ hkey, h1, Result.andThen, hv]
theorem Cnt.entry {key : Value} {kl : Lit} (C : Cnt P k w b f es clock) (K : KeyLaw P k) (ht : P.underlying t = some (.map k e)) (hz : ∀ u : World, (zeroValue e).run P u = .ok (.int .i64 0) u) (hkey : keyOf P k key = some kl) :
    ∃ (st : Nat) (es1 : Array MapEntry) (c1 : Nat), (Instr.mapEntry t (.map (some b)) key).run P w = .ok (.tuple #[.int .i64 (f key), goInt st]) (setBlock w b (.map es1 c1)) ∧
      Cnt P k (setBlock w b (.map es1 c1)) b f es1 c1 ∧
      ∀ (w2 : World) (n : Int) (g : Value → Int), w2.heap[b]? = some (.map es1 c1) → g key = n → (∀ v, v ≠ key → g v = f v) →
        ∃ es2, (Instr.entryStore t (.map (some b)) (goInt st) (.int .i64 n)).run P w2 = .ok () (setBlock w2 b (.map es2 c1)) ∧ Cnt P k (setBlock w2 b (.map es2 c1)) b g es2 c1 := by
  rcases K.find w hkey es.toList C.keys with ⟨h1, h2⟩ | ⟨j, e0, h1, h2, h3⟩
  · have hidx : (es.push ⟨key, .int .i64 0, clock⟩).findIdx? (fun e => ((e.born : Nat) : Int) == ((clock : Nat) : Int)) = some es.size := by
      rw [WideElems.findIdx_arr]
      have := WideElems.findIdx_born (l := (es.push ⟨key, .int .i64 0, clock⟩).toList) (j := es.size) (e0 := ⟨key, .int .i64 0, clock⟩) (by
        simp only [Array.toList_push, List.map_append, List.map_cons, List.map_nil]
        refine List.nodup_append.2 ⟨C.nod, by simp, fun a ha c hc e1 => ?_⟩
        simp only [List.mem_singleton] at hc
        obtain ⟨x, hx, rfl⟩ := List.mem_map.1 ha
        have := C.lt x hx
        omega) (by simp)
      exact this
    have hnod : ((es.push ⟨key, .int .i64 0, clock⟩).toList.map (·.born)).Nodup := by
      simp only [Array.toList_push, List.map_append, List.map_cons, List.map_nil]
      refine List.nodup_append.2 ⟨C.nod, by simp, fun a ha c hc e1 => ?_⟩
      simp only [List.mem_singleton] at hc
      obtain ⟨x, hx, rfl⟩ := List.mem_map.1 ha
      have := C.lt x hx
      omega
    have hapart : ((es.push ⟨key, .int .i64 0, clock⟩).toList.map (·.key)).Nodup := by
      simp only [Array.toList_push, List.map_append, List.map_cons, List.map_nil]
      refine List.nodup_append.2 ⟨C.apart, by simp, fun a ha c hc e1 => ?_⟩
      simp only [List.mem_singleton] at hc
      obtain ⟨x, hx, rfl⟩ := List.mem_map.1 ha
      exact h2 x hx (e1.trans hc)
    refine ⟨clock, es.push ⟨key, .int .i64 0, clock⟩, clock + 1, ?_, ⟨heap_setBlock_same C.heap _, ?_, ?_, hnod, hapart, ?_, ?_⟩, fun w2 n g hw2 hg hgo => ⟨es.push ⟨key, .int .i64 n, clock⟩, ?_, ⟨heap_setBlock_same hw2 _, ?_, ?_, ?_, ?_, ?_, ?_⟩⟩⟩
    · rw [C.zero key h2]
      simp [Instr.mapEntry, run_underlying ht, MapKept.run_getObj_map C.heap, K.check w false hkey, h1, hz, MapKept.run_setObj_map _ C.heap, Result.andThen, setBlock]
    · intro x hx
      simp only [Array.toList_push, List.mem_append, List.mem_singleton] at hx
      rcases hx with hx | rfl
      · exact C.keys x hx
      · exact ⟨kl, hkey⟩
    · intro x hx
      simp only [Array.toList_push, List.mem_append, List.mem_singleton] at hx
      rcases hx with hx | rfl
      · exact Nat.lt_succ_of_lt (C.lt x hx)
      · exact Nat.lt_succ_self _
    · intro x hx
      simp only [Array.toList_push, List.mem_append, List.mem_singleton] at hx
      rcases hx with hx | rfl
      · exact C.val x hx
      · rw [C.zero key h2]
    · exact fun v hv => C.zero v fun x hx => hv x (by simp only [Array.toList_push, List.mem_append, List.mem_singleton]; exact .inl hx)
    · have hmod : (es.push ⟨key, .int .i64 0, clock⟩).modify es.size (fun e => { e with val := .int .i64 n }) = es.push ⟨key, .int .i64 n, clock⟩ := by
        apply Array.ext'
        rw [Array.toList_modify, Array.toList_push, Array.toList_push, ← Array.length_toList, WideElems.modify_last]
      simp [Instr.entryStore, MapKept.run_getObj_map hw2, asInt, asIntOf, goInt, hidx, hmod, MapKept.run_setObj_map _ hw2, Result.andThen, setBlock]
    · intro x hx
      simp only [Array.toList_push, List.mem_append, List.mem_singleton] at hx
      rcases hx with hx | rfl
      · exact C.keys x hx
      · exact ⟨kl, hkey⟩
    · intro x hx
      simp only [Array.toList_push, List.mem_append, List.mem_singleton] at hx
      rcases hx with hx | rfl
      · exact Nat.lt_succ_of_lt (C.lt x hx)
      · exact Nat.lt_succ_self _
    · simpa using hnod
    · simpa using hapart
    · intro x hx
      simp only [Array.toList_push, List.mem_append, List.mem_singleton] at hx
      rcases hx with hx | rfl
      · rw [hgo _ (h2 x hx)]; exact C.val x hx
      · rw [hg]
    · intro v hv
      rw [hgo v (fun e1 => hv ⟨key, .int .i64 n, clock⟩ (by simp) e1.symm)]
      exact C.zero v fun x hx => hv x (by simp only [Array.toList_push, List.mem_append, List.mem_singleton]; exact .inl hx)
  · have hm0 := List.mem_of_getElem? h2
    have hj : es[j]? = some e0 := by simpa using h2
    have hv := C.val e0 hm0
    rw [h3] at hv
    have hsame : es.modify j (fun e => { e with key := key }) = es := by
      apply Array.ext'
      rw [Array.toList_modify, modify_eq_set _ _ _ _ h2]
      have : ({ e0 with key := key } : MapEntry) = e0 := by rw [← h3]
      rw [this]
      exact WideElems.set_self _ _ _ h2
    have hS : setBlock w b (.map es clock) = setBlock w b (.map es clock) := rfl
    refine ⟨e0.born, es, clock, ?_, ⟨heap_setBlock_same C.heap _, C.keys, C.lt, C.nod, C.apart, C.val, C.zero⟩, fun w2 n g hw2 hg hgo => ?_⟩
    · simp [Instr.mapEntry, run_underlying ht, MapKept.run_getObj_map C.heap, K.check w false hkey, h1, hj, h3, hv, K.stays w hkey, hsame, MapKept.run_setObj_map _ C.heap, Result.andThen, setBlock]
    · have hidx : es.findIdx? (fun e => ((e.born : Nat) : Int) == ((e0.born : Nat) : Int)) = some j := by
        rw [WideElems.findIdx_arr]
        exact WideElems.findIdx_born C.nod h2
      have hset : (es.modify j fun e => { e with val := .int .i64 n }).toList = es.toList.set j { e0 with val := .int .i64 n } := by
        rw [Array.toList_modify, modify_eq_set _ _ _ _ h2]
      have hat : ∀ x ∈ es.toList.set j { e0 with val := .int .i64 n }, x = { e0 with val := .int .i64 n } ∨ (x ∈ es.toList ∧ x.key ≠ key) := by
        intro x hx
        obtain ⟨i, hi⟩ := List.mem_iff_getElem?.1 hx
        rw [List.getElem?_set] at hi
        by_cases hij : j = i
        · subst hij
          have hjl : j < es.toList.length := (List.getElem?_eq_some_iff.1 h2).1
          simp only [if_true, hjl] at hi
          exact .inl (Option.some.inj hi).symm
        · rw [if_neg hij] at hi
          refine .inr ⟨List.mem_of_getElem? hi, fun e1 => hij ?_⟩
          have g1 : (es.toList.map (·.key))[i]? = some key := by rw [List.getElem?_map, hi, ← e1]; rfl
          have g2 : (es.toList.map (·.key))[j]? = some key := by rw [List.getElem?_map, h2, ← h3]; rfl
          exact ((List.getElem?_inj (List.getElem?_eq_some_iff.1 g2).1 C.apart).1 (g2.trans g1.symm))
      refine ⟨es.modify j fun e => { e with val := .int .i64 n }, ?_, ⟨heap_setBlock_same hw2 _, ?_, ?_, ?_, ?_, ?_, ?_⟩⟩
      · simp [Instr.entryStore, MapKept.run_getObj_map hw2, asInt, asIntOf, goInt, hidx, MapKept.run_setObj_map _ hw2, Result.andThen, setBlock]
      · rw [hset]
        intro x hx
        rcases hat x hx with rfl | ⟨h, _⟩
        · exact C.keys e0 hm0
        · exact C.keys x h
      · rw [hset]
        intro x hx
        rcases hat x hx with rfl | ⟨h, _⟩
        · exact C.lt e0 hm0
        · exact C.lt x h
      · rw [hset, List.map_set]
        rw [WideElems.set_self _ _ _ (by rw [List.getElem?_map, h2]; rfl)]
        exact C.nod
      · rw [hset, List.map_set]
        rw [WideElems.set_self _ _ _ (by rw [List.getElem?_map, h2]; rfl)]
        exact C.apart
      · rw [hset]
        intro x hx
        rcases hat x hx with rfl | ⟨h, hk⟩
        · show Value.int .i64 n = .int .i64 (g e0.key)
          rw [h3, hg]
        · rw [hgo _ hk]; exact C.val x h
      · rw [hset]
        intro v hv
        have hne : v ≠ key := fun e1 => hv { e0 with val := .int .i64 n } (List.mem_iff_getElem?.2 ⟨j, by rw [List.getElem?_set, if_pos rfl, if_pos (List.getElem?_eq_some_iff.1 h2).1]⟩) (h3.trans e1.symm)
        rw [hgo v hne]
        refine C.zero v fun x hx e1 => ?_
        obtain ⟨i, hi⟩ := List.mem_iff_getElem?.1 hx
        by_cases hij : j = i
        · subst hij
          rw [h2] at hi
          exact hne (by rw [← e1, ← Option.some.inj hi, h3])
        · exact hv x (List.mem_iff_getElem?.2 ⟨i, by rw [List.getElem?_set, if_neg hij]; exact hi⟩) e1
/-- A block that is not old is set. -/
theorem below_setBlock {B : Nat} {a : World} (h : Below B a w) (hB : B ≤ b) (o : Obj) : Below B a (setBlock w b o) :=
  ⟨h.os, h.tape, h.output, by have := h.size; simpa [setBlock] using this, fun k hk => by
    have : (setBlock w b o).heap[k]? = w.heap[k]? := by simp [setBlock, Array.getElem?_setIfInBounds]; omega
    exact this.trans (h.block k hk)⟩
theorem cell_setBlock {p : Addr} (hne : p.block ≠ b) (o : Obj) : (setBlock w b o).cell? p = w.cell? p := by
  have : (setBlock w b o).heap[p.block]? = w.heap[p.block]? := by simp [setBlock, Array.getElem?_setIfInBounds]; omega
  simp only [World.cell?, this]
/-- What a key counts, put to another number. -/
noncomputable def putK (f : Value → Int) (key : Value) (n : Int) : Value → Int := fun v => by classical exact if v = key then n else f v
theorem putK_same (f : Value → Int) (key : Value) (n : Int) : putK f key n key = n := by simp [putK]
theorem putK_other (f : Value → Int) (key : Value) (n : Int) {v : Value} (h : v ≠ key) : putK f key n v = f v := by simp [putK, h]
/-- 'm[key]++', its parts in either order. -/
theorem MapCnt.inc {key : Value} {kl : Lit} (h : MapCnt P k w b f) (K : KeyLaw P k) (ht : P.underlying t = some (.map k e)) (hz : ∀ u : World, (zeroValue e).run P u = .ok (.int .i64 0) u) (hkey : keyOf P k key = some kl) :
    ∃ (st : Nat) (W1 W2 : World),
      (Instr.lookup t (.map (some b)) key false).run P w = .ok (.int .i64 (f key)) w ∧
      (Instr.mapEntry t (.map (some b)) key).run P w = .ok (.tuple #[.int .i64 (f key), goInt st]) W1 ∧
      (Instr.lookup t (.map (some b)) key false).run P W1 = .ok (.int .i64 (f key)) W1 ∧
      (Instr.entryStore t (.map (some b)) (goInt st) (.int .i64 (f key + 1))).run P W1 = .ok () W2 ∧
      MapCnt P k W2 b (putK f key (f key + 1)) ∧ (∀ B a, B ≤ b → Below B a w → Below B a W2) ∧ (∀ p : Addr, p.block ≠ b → W1.cell? p = w.cell? p ∧ W2.cell? p = w.cell? p) ∧ w.heap.size ≤ W2.heap.size := by
  obtain ⟨es, c, C⟩ := h
  obtain ⟨st, es1, c1, h1, C1, h2⟩ := C.entry K ht hz hkey
  obtain ⟨es2, h3, C2⟩ := h2 _ (f key + 1) (putK f key (f key + 1)) C1.heap (putK_same _ _ _) (fun v hv => putK_other _ _ _ hv)
  exact ⟨st, _, _, C.look K ht hz hkey, h1, C1.look K ht hz hkey, h3, ⟨_, _, C2⟩, fun B a hB hb => below_setBlock (below_setBlock hb hB _) hB _, fun p hp => ⟨cell_setBlock hp _, (cell_setBlock hp _).trans (cell_setBlock hp _)⟩, by simp [setBlock]⟩
theorem MapCnt.look {key : Value} {kl : Lit} (h : MapCnt P k w b f) (K : KeyLaw P k) (ht : P.underlying t = some (.map k e)) (hz : ∀ u : World, (zeroValue e).run P u = .ok (.int .i64 0) u) (hkey : keyOf P k key = some kl) :
    (Instr.lookup t (.map (some b)) key false).run P w = .ok (.int .i64 (f key)) w := by
  obtain ⟨es, c, C⟩ := h
  exact C.look K ht hz hkey
end
end Go.Proofs.YtlkdefmceghmnaaGreatDoor
