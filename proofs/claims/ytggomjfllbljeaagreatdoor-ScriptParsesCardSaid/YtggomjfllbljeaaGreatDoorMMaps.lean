/- Put together by program of: Maps, Mp. -/
import Derived.Test.YtggomjfllbljeaaGreatDoorMLib
import Derived.WideKeyEntry
import Derived.DeepKeys4
import Derived.Maps.OwnOps
namespace Go.Proofs.YtggomjfllbljeaaGreatDoor
set_option linter.unusedVariables false
open Go Go.RowKit
open Go.ChangeShapes Go.WideShapes Go.MapKept Go.ChangeMaps
open Go.WideMaps (KeyLaw)
/-- The map at block b tells the count f of each key. -/
structure Cnt (P : Program) (k : TypeId) (w : World) (b : Nat) (f : Value → Int) (es : Array MapEntry) (clock : Nat) : Prop where
  heap : w.heap[b]? = some (.map es clock)
  keys : ∀ x ∈ es.toList, ∃ l, keyOf P k x.key = some l
  lt : ∀ x ∈ es.toList, x.born < clock
  nod : (es.toList.map (·.born)).Nodup
  apart : (es.toList.map (·.key)).Nodup
  val : ∀ x ∈ es.toList, x.val = .int .i64 (f x.key)
  zero : ∀ v, (∀ x ∈ es.toList, x.key ≠ v) → f v = 0
def MapCnt (P : Program) (k : TypeId) (w : World) (b : Nat) (f : Value → Int) : Prop := ∃ es clock, Cnt P k w b f es clock
section
variable {P : Program} {k e t : TypeId} {w w' : World} {b : Nat} {f : Value → Int} {es : Array MapEntry} {clock : Nat}
theorem MapCnt.size (h : MapCnt P k w b f) : b < w.heap.size := by
  obtain ⟨es, c, C⟩ := h
  exact (Array.getElem?_eq_some_iff.1 C.heap).1
theorem MapCnt.keep (h : MapCnt P k w b f) (hk : w'.heap[b]? = w.heap[b]?) : MapCnt P k w' b f := by
  obtain ⟨es, c, C⟩ := h
  exact ⟨es, c, hk.trans C.heap, C.keys, C.lt, C.nod, C.apart, C.val, C.zero⟩
theorem MapCnt.alloc (h : MapCnt P k w b f) (o : Obj) : MapCnt P k (w.alloc o) b f := h.keep (Below.heap_alloc w o b h.size)
theorem MapCnt.drew (h : MapCnt P k w b f) : MapCnt P k w.drew b f := h.keep rfl
theorem MapCnt.drewN (h : MapCnt P k w b f) (n : Nat) : MapCnt P k (w.drewN n) b f := h.keep rfl
theorem MapCnt.below {B : Nat} (h : MapCnt P k w b f) (hb : Below B w w') (hB : b < B) : MapCnt P k w' b f := h.keep (hb.block b hB)
theorem MapCnt.made (w : World) : MapCnt P k (w.alloc (.map #[] 0)) w.heap.size (fun _ => 0) :=
  ⟨#[], 0, heap_alloc_new w _, by simp, by simp, by simp, by simp, by simp, by simp⟩
theorem MapCnt.setCell (h : MapCnt P k w b f) (p : Addr) (hne : p.block ≠ b) (u : Value) : MapCnt P k (w.setCell p u) b f := by
  exact h.keep (Below.heap_setCell w p u b (fun e => hne e.symm))
theorem Cnt.look {key : Value} {kl : Lit} (C : Cnt P k w b f es clock) (K : KeyLaw P k) (ht : P.underlying t = some (.map k e)) (hz : ∀ u : World, (zeroValue e).run P u = .ok (.int .i64 0) u) (hkey : keyOf P k key = some kl) :
    (Instr.lookup t (.map (some b)) key false).run P w = .ok (.int .i64 (f key)) w := by
  rcases K.find w hkey es.toList C.keys with ⟨h1, h2⟩ | ⟨j, e0, h1, h2, h3⟩
  · rw [C.zero key h2]
    simp [Instr.lookup, run_underlying ht, MapKept.run_getObj_map C.heap, K.check w _ hkey, h1, hz, Result.andThen]
  · have hv := C.val e0 (List.mem_of_getElem? h2)
    rw [h3] at hv
    simp [Instr.lookup, run_underlying ht, MapKept.run_getObj_map C.heap, K.check w _ hkey, h1, Result.andThen, hv]
theorem Cnt.entry {key : Value} {kl : Lit} (C : Cnt P k w b f es clock) (K : KeyLaw P k) (ht : P.underlying t = some (.map k e)) (hz : ∀ u : World, (zeroValue e).run P u = .ok (.int .i64 0) u) (hkey : keyOf P k key = some kl) :
    ∃ (st : Nat) (es1 : Array MapEntry) (c1 : Nat), (Instr.mapEntry t (.map (some b)) key).run P w = .ok (.tuple #[.int .i64 (f key), goInt st]) (setBlock w b (.map es1 c1)) ∧
      Cnt P k (setBlock w b (.map es1 c1)) b f es1 c1 ∧
      ∀ (w2 : World) (n : Int) (g : Value → Int), w2.heap[b]? = some (.map es1 c1) → g key = n → (∀ v, v ≠ key → g v = f v) →
        ∃ es2, (Instr.entryStore t (.map (some b)) (goInt st) (.int .i64 n)).run P w2 = .ok () (setBlock w2 b (.map es2 c1)) ∧ Cnt P k (setBlock w2 b (.map es2 c1)) b g es2 c1 := by
  rcases K.find w hkey es.toList C.keys with ⟨h1, h2⟩ | ⟨j, e0, h1, h2, h3⟩
  · have hidx : (es.push ⟨key, .int .i64 0, clock⟩).findIdx? (fun e => ((e.born : Nat) : Int) == ((clock : Nat) : Int)) = some es.size := by
      rw [WideElems.findIdx_arr]
      have := WideElems.findIdx_born (l := (es.push ⟨key, .int .i64 0, clock⟩).toList) (j := es.size) (e0 := ⟨key, .int .i64 0, clock⟩) (by
        simp only [Array.toList_push, List.map_append, List.map_cons, List.map_nil]
        refine List.nodup_append.2 ⟨C.nod, by simp, fun a ha c hc e1 => ?_⟩
        simp only [List.mem_singleton] at hc
        obtain ⟨x, hx, rfl⟩ := List.mem_map.1 ha
        have := C.lt x hx
        omega) (by simp)
      exact this
    have hnod : ((es.push ⟨key, .int .i64 0, clock⟩).toList.map (·.born)).Nodup := by
      simp only [Array.toList_push, List.map_append, List.map_cons, List.map_nil]
      refine List.nodup_append.2 ⟨C.nod, by simp, fun a ha c hc e1 => ?_⟩
      simp only [List.mem_singleton] at hc
      obtain ⟨x, hx, rfl⟩ := List.mem_map.1 ha
      have := C.lt x hx
      omega
    have hapart : ((es.push ⟨key, .int .i64 0, clock⟩).toList.map (·.key)).Nodup := by
      simp only [Array.toList_push, List.map_append, List.map_cons, List.map_nil]
      refine List.nodup_append.2 ⟨C.apart, by simp, fun a ha c hc e1 => ?_⟩
      simp only [List.mem_singleton] at hc
      obtain ⟨x, hx, rfl⟩ := List.mem_map.1 ha
      exact h2 x hx (e1.trans hc)
    refine ⟨clock, es.push ⟨key, .int .i64 0, clock⟩, clock + 1, ?_, ⟨heap_setBlock_same C.heap _, ?_, ?_, hnod, hapart, ?_, ?_⟩, fun w2 n g hw2 hg hgo => ⟨es.push ⟨key, .int .i64 n, clock⟩, ?_, ⟨heap_setBlock_same hw2 _, ?_, ?_, ?_, ?_, ?_, ?_⟩⟩⟩
    · rw [C.zero key h2]
      simp [Instr.mapEntry, run_underlying ht, MapKept.run_getObj_map C.heap, K.check w false hkey, h1, hz, MapKept.run_setObj_map _ C.heap, Result.andThen, setBlock]
    · intro x hx
      simp only [Array.toList_push, List.mem_append, List.mem_singleton] at hx
      rcases hx with hx | rfl
      · exact C.keys x hx
      · exact ⟨kl, hkey⟩
    · intro x hx
      simp only [Array.toList_push, List.mem_append, List.mem_singleton] at hx
      rcases hx with hx | rfl
      · exact Nat.lt_succ_of_lt (C.lt x hx)
      · exact Nat.lt_succ_self _
    · intro x hx
      simp only [Array.toList_push, List.mem_append, List.mem_singleton] at hx
      rcases hx with hx | rfl
      · exact C.val x hx
      · rw [C.zero key h2]
    · exact fun v hv => C.zero v fun x hx => hv x (by simp only [Array.toList_push, List.mem_append, List.mem_singleton]; exact .inl hx)
    · have hmod : (es.push ⟨key, .int .i64 0, clock⟩).modify es.size (fun e => { e with val := .int .i64 n }) = es.push ⟨key, .int .i64 n, clock⟩ := by
        apply Array.ext'
        rw [Array.toList_modify, Array.toList_push, Array.toList_push, ← Array.length_toList, WideElems.modify_last]
      simp [Instr.entryStore, MapKept.run_getObj_map hw2, asInt, asIntOf, goInt, hidx, hmod, MapKept.run_setObj_map _ hw2, Result.andThen, setBlock]
    · intro x hx
      simp only [Array.toList_push, List.mem_append, List.mem_singleton] at hx
      rcases hx with hx | rfl
      · exact C.keys x hx
      · exact ⟨kl, hkey⟩
    · intro x hx
      simp only [Array.toList_push, List.mem_append, List.mem_singleton] at hx
      rcases hx with hx | rfl
      · exact Nat.lt_succ_of_lt (C.lt x hx)
      · exact Nat.lt_succ_self _
    · simpa using hnod
    · simpa using hapart
    · intro x hx
      simp only [Array.toList_push, List.mem_append, List.mem_singleton] at hx
      rcases hx with hx | rfl
      · rw [hgo _ (h2 x hx)]; exact C.val x hx
      · rw [hg]
    · intro v hv
      rw [hgo v (fun e1 => hv ⟨key, .int .i64 n, clock⟩ (by simp) e1.symm)]
      exact C.zero v fun x hx => hv x (by simp only [Array.toList_push, List.mem_append, List.mem_singleton]; exact .inl hx)
  · have hm0 := List.mem_of_getElem? h2
    have hj : es[j]? = some e0 := by simpa using h2
    have hv := C.val e0 hm0
    rw [h3] at hv
    have hsame : es.modify j (fun e => { e with key := key }) = es := by
      apply Array.ext'
      rw [Array.toList_modify, modify_eq_set _ _ _ _ h2]
      have : ({ e0 with key := key } : MapEntry) = e0 := by rw [← h3]
      rw [this]
      exact WideElems.set_self _ _ _ h2
    have hS : setBlock w b (.map es clock) = setBlock w b (.map es clock) := rfl
    refine ⟨e0.born, es, clock, ?_, ⟨heap_setBlock_same C.heap _, C.keys, C.lt, C.nod, C.apart, C.val, C.zero⟩, fun w2 n g hw2 hg hgo => ?_⟩
    · simp [Instr.mapEntry, run_underlying ht, MapKept.run_getObj_map C.heap, K.check w false hkey, h1, hj, h3, hv, K.stays w hkey, hsame, MapKept.run_setObj_map _ C.heap, Result.andThen, setBlock]
    · have hidx : es.findIdx? (fun e => ((e.born : Nat) : Int) == ((e0.born : Nat) : Int)) = some j := by
        rw [WideElems.findIdx_arr]
        exact WideElems.findIdx_born C.nod h2
      have hset : (es.modify j fun e => { e with val := .int .i64 n }).toList = es.toList.set j { e0 with val := .int .i64 n } := by
        rw [Array.toList_modify, modify_eq_set _ _ _ _ h2]
      have hat : ∀ x ∈ es.toList.set j { e0 with val := .int .i64 n }, x = { e0 with val := .int .i64 n } ∨ (x ∈ es.toList ∧ x.key ≠ key) := by
        intro x hx
        obtain ⟨i, hi⟩ := List.mem_iff_getElem?.1 hx
        rw [List.getElem?_set] at hi
        by_cases hij : j = i
        · subst hij
          have hjl : j < es.toList.length := (List.getElem?_eq_some_iff.1 h2).1
          simp only [if_true, hjl] at hi
          exact .inl (Option.some.inj hi).symm
        · rw [if_neg hij] at hi
          refine .inr ⟨List.mem_of_getElem? hi, fun e1 => hij ?_⟩
          have g1 : (es.toList.map (·.key))[i]? = some key := by rw [List.getElem?_map, hi, ← e1]; rfl
          have g2 : (es.toList.map (·.key))[j]? = some key := by rw [List.getElem?_map, h2, ← h3]; rfl
          exact ((List.getElem?_inj (List.getElem?_eq_some_iff.1 g2).1 C.apart).1 (g2.trans g1.symm))
      refine ⟨es.modify j fun e => { e with val := .int .i64 n }, ?_, ⟨heap_setBlock_same hw2 _, ?_, ?_, ?_, ?_, ?_, ?_⟩⟩
      · simp [Instr.entryStore, MapKept.run_getObj_map hw2, asInt, asIntOf, goInt, hidx, MapKept.run_setObj_map _ hw2, Result.andThen, setBlock]
      · rw [hset]
        intro x hx
        rcases hat x hx with rfl | ⟨h, _⟩
        · exact C.keys e0 hm0
        · exact C.keys x h
      · rw [hset]
        intro x hx
        rcases hat x hx with rfl | ⟨h, _⟩
        · exact C.lt e0 hm0
        · exact C.lt x h
      · rw [hset, List.map_set]
        rw [WideElems.set_self _ _ _ (by rw [List.getElem?_map, h2]; rfl)]
        exact C.nod
      · rw [hset, List.map_set]
        rw [WideElems.set_self _ _ _ (by rw [List.getElem?_map, h2]; rfl)]
        exact C.apart
      · rw [hset]
        intro x hx
        rcases hat x hx with rfl | ⟨h, hk⟩
        · show Value.int .i64 n = .int .i64 (g e0.key)
          rw [h3, hg]
        · rw [hgo _ hk]; exact C.val x h
      · rw [hset]
        intro v hv
        have hne : v ≠ key := fun e1 => hv { e0 with val := .int .i64 n } (List.mem_iff_getElem?.2 ⟨j, by rw [List.getElem?_set, if_pos rfl, if_pos (List.getElem?_eq_some_iff.1 h2).1]⟩) (h3.trans e1.symm)
        rw [hgo v hne]
        refine C.zero v fun x hx e1 => ?_
        obtain ⟨i, hi⟩ := List.mem_iff_getElem?.1 hx
        by_cases hij : j = i
        · subst hij
          rw [h2] at hi
          exact hne (by rw [← e1, ← Option.some.inj hi, h3])
        · exact hv x (List.mem_iff_getElem?.2 ⟨i, by rw [List.getElem?_set, if_neg hij]; exact hi⟩) e1
/-- A block that is not old is set. -/
theorem below_setBlock {B : Nat} {a : World} (h : Below B a w) (hB : B ≤ b) (o : Obj) : Below B a (setBlock w b o) :=
  ⟨h.os, h.tape, h.output, by have := h.size; simpa [setBlock] using this, fun k hk => by
    have : (setBlock w b o).heap[k]? = w.heap[k]? := by simp [setBlock, Array.getElem?_setIfInBounds]; omega
    exact this.trans (h.block k hk)⟩
theorem cell_setBlock {p : Addr} (hne : p.block ≠ b) (o : Obj) : (setBlock w b o).cell? p = w.cell? p := by
  have : (setBlock w b o).heap[p.block]? = w.heap[p.block]? := by simp [setBlock, Array.getElem?_setIfInBounds]; omega
  simp only [World.cell?, this]
/-- What a key counts, put to another number. -/
noncomputable def putK (f : Value → Int) (key : Value) (n : Int) : Value → Int := fun v => by classical exact if v = key then n else f v
theorem putK_same (f : Value → Int) (key : Value) (n : Int) : putK f key n key = n := by simp [putK]
theorem putK_other (f : Value → Int) (key : Value) (n : Int) {v : Value} (h : v ≠ key) : putK f key n v = f v := by simp [putK, h]
/-- 'm[key]++', its parts in either order. -/
theorem MapCnt.inc {key : Value} {kl : Lit} (h : MapCnt P k w b f) (K : KeyLaw P k) (ht : P.underlying t = some (.map k e)) (hz : ∀ u : World, (zeroValue e).run P u = .ok (.int .i64 0) u) (hkey : keyOf P k key = some kl) :
    ∃ (st : Nat) (W1 W2 : World),
      (Instr.lookup t (.map (some b)) key false).run P w = .ok (.int .i64 (f key)) w ∧
      (Instr.mapEntry t (.map (some b)) key).run P w = .ok (.tuple #[.int .i64 (f key), goInt st]) W1 ∧
      (Instr.lookup t (.map (some b)) key false).run P W1 = .ok (.int .i64 (f key)) W1 ∧
      (Instr.entryStore t (.map (some b)) (goInt st) (.int .i64 (f key + 1))).run P W1 = .ok () W2 ∧
      MapCnt P k W2 b (putK f key (f key + 1)) ∧ (∀ B a, B ≤ b → Below B a w → Below B a W2) ∧ (∀ p : Addr, p.block ≠ b → W1.cell? p = w.cell? p ∧ W2.cell? p = w.cell? p) ∧ w.heap.size ≤ W2.heap.size := by
  obtain ⟨es, c, C⟩ := h
  obtain ⟨st, es1, c1, h1, C1, h2⟩ := C.entry K ht hz hkey
  obtain ⟨es2, h3, C2⟩ := h2 _ (f key + 1) (putK f key (f key + 1)) C1.heap (putK_same _ _ _) (fun v hv => putK_other _ _ _ hv)
  exact ⟨st, _, _, C.look K ht hz hkey, h1, C1.look K ht hz hkey, h3, ⟨_, _, C2⟩, fun B a hB hb => below_setBlock (below_setBlock hb hB _) hB _, fun p hp => ⟨cell_setBlock hp _, (cell_setBlock hp _).trans (cell_setBlock hp _)⟩, by simp [setBlock]⟩
theorem MapCnt.look {key : Value} {kl : Lit} (h : MapCnt P k w b f) (K : KeyLaw P k) (ht : P.underlying t = some (.map k e)) (hz : ∀ u : World, (zeroValue e).run P u = .ok (.int .i64 0) u) (hkey : keyOf P k key = some kl) :
    (Instr.lookup t (.map (some b)) key false).run P w = .ok (.int .i64 (f key)) w := by
  obtain ⟨es, c, C⟩ := h
  exact C.look K ht hz hkey
end
end Go.Proofs.YtggomjfllbljeaaGreatDoor
namespace Go.Proofs.YtggomjfllbljeaaGreatDoor
set_option linter.unusedVariables false
open Go Go.RowKit
open Go.ChangeShapes Go.WideShapes Go.MapKept Go.ChangeMaps
open Go.WideMaps (KeyLaw)
/-- The map at block b tells the value g of each key, by these entries. -/
structure Mq (P : Program) (k : TypeId) (w : World) (b : Nat) (g : Value → Option Value) (es : Array MapEntry) (clock : Nat) : Prop where
  heap : w.heap[b]? = some (.map es clock)
  keys : ∀ x ∈ es.toList, ∃ l, keyOf P k x.key = some l
  lt : ∀ x ∈ es.toList, x.born < clock
  nod : (es.toList.map (·.born)).Nodup
  apart : (es.toList.map (·.key)).Nodup
  val : ∀ x ∈ es.toList, g x.key = some x.val
  dom : ∀ v u, g v = some u → ∃ x ∈ es.toList, x.key = v
def Mp (P : Program) (k : TypeId) (w : World) (b : Nat) (g : Value → Option Value) : Prop := ∃ es clock, Mq P k w b g es clock
/-- A key's value is another one. -/
noncomputable def updK (g : Value → Option Value) (key : Value) (u : Option Value) : Value → Option Value := fun v => by classical exact if v = key then u else g v
theorem updK_same (g : Value → Option Value) (key : Value) (u : Option Value) : updK g key u key = u := by simp [updK]
theorem updK_other (g : Value → Option Value) (key : Value) (u : Option Value) {v : Value} (h : v ≠ key) : updK g key u v = g v := by simp [updK, h]
/-- Block b alone is another one. -/
def Wr (b : Nat) (w w' : World) : Prop := ∃ o, w' = setBlock w b o
section
variable {P : Program} {k e t : TypeId} {w w' : World} {b : Nat} {g : Value → Option Value} {es : Array MapEntry} {clock : Nat}
theorem Wr.size (h : Wr b w w') : w'.heap.size = w.heap.size := by obtain ⟨o, rfl⟩ := h; simp [setBlock]
theorem Wr.block (h : Wr b w w') {j : Nat} (hj : j ≠ b) : w'.heap[j]? = w.heap[j]? := by
  obtain ⟨o, rfl⟩ := h
  simp [setBlock, Array.getElem?_setIfInBounds]
  omega
theorem Wr.cell (h : Wr b w w') {p : Addr} (hp : p.block ≠ b) : w'.cell? p = w.cell? p := by
  simp only [World.cell?, h.block hp]
theorem Wr.frozen (h : Wr b w w') {p : Addr} (hp : p.block ≠ b) : w'.frozen? p = w.frozen? p := by
  simp only [World.frozen?, h.block hp]
theorem Wr.below {B : Nat} {a : World} (h : Wr b w w') (hb : Below B a w) (hB : B ≤ b) : Below B a w' := by
  obtain ⟨o, rfl⟩ := h
  exact below_setBlock hb hB o
theorem Bx.wr {j : Nat} {cs : Array Value} {ty : TypeId} (hx : Bx w j cs ty) (h : Wr b w w') (hj : j ≠ b) : Bx w' j cs ty := (h.block hj).trans hx
theorem Mp.size (h : Mp P k w b g) : b < w.heap.size := by
  obtain ⟨es, c, C⟩ := h
  exact (Array.getElem?_eq_some_iff.1 C.heap).1
theorem Mp.keep (h : Mp P k w b g) (hk : w'.heap[b]? = w.heap[b]?) : Mp P k w' b g := by
  obtain ⟨es, c, C⟩ := h
  exact ⟨es, c, hk.trans C.heap, C.keys, C.lt, C.nod, C.apart, C.val, C.dom⟩
theorem Mp.alloc (h : Mp P k w b g) (o : Obj) : Mp P k (w.alloc o) b g := h.keep (Below.heap_alloc w o b h.size)
theorem Mp.drew (h : Mp P k w b g) : Mp P k w.drew b g := h.keep rfl
theorem Mp.drewN (h : Mp P k w b g) (n : Nat) : Mp P k (w.drewN n) b g := h.keep rfl
theorem Mp.below {B : Nat} (h : Mp P k w b g) (hb : Below B w w') (hB : b < B) : Mp P k w' b g := h.keep (hb.block b hB)
theorem Mp.made (w : World) : Mp P k (w.alloc (.map #[] 0)) w.heap.size (fun _ => none) :=
  ⟨#[], 0, heap_alloc_new w _, by simp, by simp, by simp, by simp, by simp, by simp⟩
theorem Mp.setCell (h : Mp P k w b g) (p : Addr) (hne : p.block ≠ b) (u : Value) : Mp P k (w.setCell p u) b g :=
  h.keep (Below.heap_setCell w p u b (fun e => hne e.symm))
theorem Mp.setRow (h : Mp P k w b g) {j : Nat} (hne : b ≠ j) (cs : Array Value) : Mp P k (w.setRow j cs) b g := h.keep (setRow_other w j b cs hne)
theorem Mp.wr (h : Mp P k w b g) {j : Nat} (hw : Wr j w w') (hj : b ≠ j) : Mp P k w' b g := h.keep (hw.block hj)
theorem Mp.ext {g' : Value → Option Value} (h : Mp P k w b g) (hg : ∀ v, g v = g' v) : Mp P k w b g' := by rw [← funext hg]; exact h
/-- m[key], and whether it is there. -/
theorem Mp.look {key z : Value} {kl : Lit} (h : Mp P k w b g) (K : KeyLaw P k) (ht : P.underlying t = some (.map k e)) (hz : ∀ u : World, (zeroValue e).run P u = .ok z u) (hkey : keyOf P k key = some kl) (ok : Bool) :
    (Instr.lookup t (.map (some b)) key ok).run P w = .ok (if ok then .tuple #[(g key).getD z, .bool (g key).isSome] else (g key).getD z) w := by
  obtain ⟨es, c, C⟩ := h
  rcases K.find w hkey es.toList C.keys with ⟨h1, h2⟩ | ⟨j, e0, h1, h2, h3⟩
  · have h0 : g key = none := by
      cases hg : g key with
      | none => rfl
      | some u => obtain ⟨x, hx, h4⟩ := C.dom key u hg; exact absurd h4 (h2 x hx)
    rw [h0]
    cases ok <;> simp [Instr.lookup, run_underlying ht, MapKept.run_getObj_map C.heap, K.check w _ hkey, h1, hz, Result.andThen]
  · have hv := C.val e0 (List.mem_of_getElem? h2)
    rw [h3] at hv
    rw [hv]
    cases ok <;> simp [Instr.lookup, run_underlying ht, MapKept.run_getObj_map C.heap, K.check w _ hkey, h1, Result.andThen]
/-- m[key] = v. -/
theorem Mp.put {key v : Value} {kl : Lit} (h : Mp P k w b g) (K : KeyLaw P k) (ht : P.underlying t = some (.map k e)) (hkey : keyOf P k key = some kl) :
    ∃ w', (Instr.mapUpdate t (.map (some b)) key v).run P w = .ok () w' ∧ Mp P k w' b (updK g key (some v)) ∧ Wr b w w' := by
  obtain ⟨es, c, C⟩ := h
  rcases K.find w hkey es.toList C.keys with ⟨h1, h2⟩ | ⟨j, e0, h1, h2, h3⟩
  · refine ⟨setBlock w b (.map (es.push ⟨key, v, c⟩) (c + 1)), ?_, ⟨es.push ⟨key, v, c⟩, c + 1, heap_setBlock_same C.heap _, ?_, ?_, ?_, ?_, ?_, ?_⟩, _, rfl⟩
    · simp [Instr.mapUpdate, run_underlying ht, MapKept.run_getObj_map C.heap, K.check w false hkey, h1, MapKept.run_setObj_map _ C.heap, Result.andThen, setBlock]
    · intro x hx
      simp only [Array.toList_push, List.mem_append, List.mem_singleton] at hx
      rcases hx with hx | rfl
      · exact C.keys x hx
      · exact ⟨kl, hkey⟩
    · intro x hx
      simp only [Array.toList_push, List.mem_append, List.mem_singleton] at hx
      rcases hx with hx | rfl
      · exact Nat.lt_succ_of_lt (C.lt x hx)
      · exact Nat.lt_succ_self _
    · simp only [Array.toList_push, List.map_append, List.map_cons, List.map_nil]
      refine List.nodup_append.2 ⟨C.nod, by simp, fun a ha d hd e1 => ?_⟩
      simp only [List.mem_singleton] at hd
      obtain ⟨x, hx, rfl⟩ := List.mem_map.1 ha
      have := C.lt x hx
      omega
    · simp only [Array.toList_push, List.map_append, List.map_cons, List.map_nil]
      refine List.nodup_append.2 ⟨C.apart, by simp, fun a ha d hd e1 => ?_⟩
      simp only [List.mem_singleton] at hd
      obtain ⟨x, hx, rfl⟩ := List.mem_map.1 ha
      exact h2 x hx (e1.trans hd)
    · intro x hx
      simp only [Array.toList_push, List.mem_append, List.mem_singleton] at hx
      rcases hx with hx | rfl
      · rw [updK_other _ _ _ (h2 x hx)]; exact C.val x hx
      · rw [updK_same]
    · intro a u ha
      by_cases hne : a = key
      · exact ⟨⟨key, v, c⟩, by simp, hne.symm⟩
      · rw [updK_other _ _ _ hne] at ha
        obtain ⟨x, hx, h4⟩ := C.dom a u ha
        exact ⟨x, by simp only [Array.toList_push, List.mem_append, List.mem_singleton]; exact .inl hx, h4⟩
  · have hj : es[j]? = some e0 := by simpa using h2
    have hmod : (es.modify j fun x => { x with key := key, val := v }).toList = es.toList.set j { e0 with val := v } := by
      rw [Array.toList_modify, modify_eq_set _ _ _ _ h2]
      rw [← h3]
    have hjl : j < es.toList.length := (List.getElem?_eq_some_iff.1 h2).1
    have hat : ∀ x ∈ es.toList.set j { e0 with val := v }, x = { e0 with val := v } ∨ (x ∈ es.toList ∧ x.key ≠ key) := by
      intro x hx
      obtain ⟨i, hi⟩ := List.mem_iff_getElem?.1 hx
      rw [List.getElem?_set] at hi
      by_cases hij : j = i
      · subst hij
        simp only [if_true, hjl] at hi
        exact .inl (Option.some.inj hi).symm
      · rw [if_neg hij] at hi
        refine .inr ⟨List.mem_of_getElem? hi, fun e1 => hij ?_⟩
        have g1 : (es.toList.map (·.key))[i]? = some key := by rw [List.getElem?_map, hi, ← e1]; rfl
        have g2 : (es.toList.map (·.key))[j]? = some key := by rw [List.getElem?_map, h2, ← h3]; rfl
        exact ((List.getElem?_inj (List.getElem?_eq_some_iff.1 g2).1 C.apart).1 (g2.trans g1.symm))
    refine ⟨setBlock w b (.map (es.modify j fun x => { x with key := key, val := v }) c), ?_, ⟨es.modify j fun x => { x with key := key, val := v }, c, heap_setBlock_same C.heap _, ?_, ?_, ?_, ?_, ?_, ?_⟩, _, rfl⟩
    · simp [Instr.mapUpdate, run_underlying ht, MapKept.run_getObj_map C.heap, K.check w false hkey, h1, hj, h3, K.stays w hkey, MapKept.run_setObj_map _ C.heap, Result.andThen, setBlock]
    · rw [hmod]
      intro x hx
      rcases hat x hx with rfl | ⟨h, _⟩
      · exact C.keys e0 (List.mem_of_getElem? h2)
      · exact C.keys x h
    · rw [hmod]
      intro x hx
      rcases hat x hx with rfl | ⟨h, _⟩
      · exact C.lt e0 (List.mem_of_getElem? h2)
      · exact C.lt x h
    · rw [hmod, List.map_set]
      rw [WideElems.set_self _ _ _ (by rw [List.getElem?_map, h2]; rfl)]
      exact C.nod
    · rw [hmod, List.map_set]
      rw [WideElems.set_self _ _ _ (by rw [List.getElem?_map, h2]; rfl)]
      exact C.apart
    · rw [hmod]
      intro x hx
      rcases hat x hx with rfl | ⟨h, hk⟩
      · show updK g key (some v) e0.key = some v
        rw [h3, updK_same]
      · rw [updK_other _ _ _ hk]; exact C.val x h
    · rw [hmod]
      intro a u ha
      by_cases hne : a = key
      · exact ⟨{ e0 with val := v }, List.mem_iff_getElem?.2 ⟨j, by rw [List.getElem?_set, if_pos rfl, if_pos hjl]⟩, h3.trans hne.symm⟩
      · rw [updK_other _ _ _ hne] at ha
        obtain ⟨x, hx, h4⟩ := C.dom a u ha
        obtain ⟨i, hi⟩ := List.mem_iff_getElem?.1 hx
        by_cases hij : j = i
        · subst hij
          rw [h2] at hi
          exact absurd (by rw [← h4, ← Option.some.inj hi, h3]) hne
        · exact ⟨x, List.mem_iff_getElem?.2 ⟨i, by rw [List.getElem?_set, if_neg hij]; exact hi⟩, h4⟩
/-- delete(m, key). -/
theorem Mp.del {key : Value} {kl : Lit} (h : Mp P k w b g) (K : KeyLaw P k) (ht : P.underlying t = some (.map k e)) (hkey : keyOf P k key = some kl) (t2 ty : TypeId) :
    ∃ w', (Builtin.delete_ #[t, t2] ty #[.map (some b), key]).run P w = .ok (.tuple #[]) w' ∧ Mp P k w' b (updK g key none) ∧ Wr b w w' := by
  obtain ⟨es, c, C⟩ := h
  rcases K.find w hkey es.toList C.keys with ⟨h1, h2⟩ | ⟨j, e0, h1, h2, h3⟩
  · refine ⟨setBlock w b (.map es c), ?_, ⟨es, c, heap_setBlock_same C.heap _, C.keys, C.lt, C.nod, C.apart, ?_, ?_⟩, _, rfl⟩
    · simp [Builtin.delete_, run_underlying ht, MapKept.run_getObj_map C.heap, K.check w _ hkey, h1, MapKept.run_setObj_map _ C.heap, Result.andThen, setBlock]
    · intro x hx
      rw [updK_other _ _ _ (h2 x hx)]; exact C.val x hx
    · intro a u ha
      by_cases hne : a = key
      · rw [hne, updK_same] at ha; cases ha
      · rw [updK_other _ _ _ hne] at ha; exact C.dom a u ha
  · have hjl : j < es.toList.length := (List.getElem?_eq_some_iff.1 h2).1
    have hmod : (es.eraseIdxIfInBounds j).toList = es.toList.eraseIdx j := by
      unfold Array.eraseIdxIfInBounds
      rw [dif_pos (by simpa using hjl)]
      simp
    have hsub : (es.toList.eraseIdx j).Sublist es.toList := List.eraseIdx_sublist _ _
    have hno : ∀ x ∈ es.toList.eraseIdx j, x.key ≠ key := by
      intro x hx e1
      obtain ⟨i, hi⟩ := List.mem_iff_getElem?.1 hx
      rw [List.getElem?_eraseIdx] at hi
      have g2 : (es.toList.map (·.key))[j]? = some key := by rw [List.getElem?_map, h2, ← h3]; rfl
      by_cases hij : i < j
      · rw [if_pos hij] at hi
        have g1 : (es.toList.map (·.key))[i]? = some key := by rw [List.getElem?_map, hi, ← e1]; rfl
        have := (List.getElem?_inj (List.getElem?_eq_some_iff.1 g2).1 C.apart).1 (g2.trans g1.symm)
        omega
      · rw [if_neg hij] at hi
        have g1 : (es.toList.map (·.key))[i + 1]? = some key := by rw [List.getElem?_map, hi, ← e1]; rfl
        have := (List.getElem?_inj (List.getElem?_eq_some_iff.1 g2).1 C.apart).1 (g2.trans g1.symm)
        omega
    refine ⟨setBlock w b (.map (es.eraseIdxIfInBounds j) c), ?_, ⟨es.eraseIdxIfInBounds j, c, heap_setBlock_same C.heap _, ?_, ?_, ?_, ?_, ?_, ?_⟩, _, rfl⟩
    · simp [Builtin.delete_, run_underlying ht, MapKept.run_getObj_map C.heap, K.check w _ hkey, h1, MapKept.run_setObj_map _ C.heap, Result.andThen, setBlock]
    · rw [hmod]; exact fun x hx => C.keys x (hsub.subset hx)
    · rw [hmod]; exact fun x hx => C.lt x (hsub.subset hx)
    · rw [hmod]; exact C.nod.sublist (hsub.map _)
    · rw [hmod]; exact C.apart.sublist (hsub.map _)
    · rw [hmod]; intro x hx
      rw [updK_other _ _ _ (hno x hx)]; exact C.val x (hsub.subset hx)
    · rw [hmod]
      intro a u ha
      by_cases hne : a = key
      · rw [hne, updK_same] at ha; cases ha
      · rw [updK_other _ _ _ hne] at ha
        obtain ⟨x, hx, h4⟩ := C.dom a u ha
        obtain ⟨i, hi⟩ := List.mem_iff_getElem?.1 hx
        have hij : i ≠ j := by
          rintro rfl
          rw [h2] at hi
          exact hne (by rw [← h4, ← Option.some.inj hi, h3])
        refine ⟨x, List.mem_iff_getElem?.2 ?_, h4⟩
        by_cases hlt : i < j
        · exact ⟨i, by rw [List.getElem?_eraseIdx, if_pos hlt]; exact hi⟩
        · exact ⟨i - 1, by rw [List.getElem?_eraseIdx, if_neg (by omega), show i - 1 + 1 = i by omega]; exact hi⟩
end
end Go.Proofs.YtggomjfllbljeaaGreatDoor
