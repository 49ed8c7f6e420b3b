/- Put together by program of: Lib, Base. -/
import Derived.WalkKit
import Derived.WalkSpells
import Derived.WalkLawsBesides
import Derived.Deep.AppendLies
import Derived.Deep.LoopGhost
import Derived.Lib.Hide
import Derived.Laws.ResultCell
import Derived.Laws.Tables
namespace Go.Proofs.YtggomjfllbljeaaGreatDoor
set_option linter.unusedVariables false
open Go Go.RowKit

/-- How an element of a slice lies in cells. -/
structure Ty (α : Type) where
  enc : α → List Value
  sz : Nat
  wf : α → Prop
  len : ∀ x, (enc x).length = sz
  one : ∀ x u, u ∈ enc x → u.oneCell' = true
  pos : 0 < sz

/-- A slice (its address A, its length n) reads as the list l; it lies in blocks from lo on, below hi. -/
structure Sl {α : Type} (w : World) (lo hi : Nat) (T : Ty α) (A : Option Addr) (n : Nat) (l : List α) : Prop where
  len : l.length = n
  wf : ∀ x, x ∈ l → T.wf x
  cells : 0 < n → ∃ b o, A = some ⟨b, o, none⟩ ∧ lo ≤ b ∧ b < hi ∧ ∀ k x, l[k]? = some x → ∀ j u, (T.enc x)[j]? = some u → w.cell? ⟨b, o + k * T.sz + j, none⟩ = some u

/-- A slice value that owns a row of the call's own, from block B on, and reads as l. -/
structure Own {α : Type} (w : World) (B : Nat) (e : TypeId) (T : Ty α) (v : Value) (l : List α) : Prop where
  wf : ∀ x, x ∈ l → T.wf x
  row : w.ownsRow B e T.sz v l.length (l.flatMap T.enc)

/-- What a program says of a slice type. -/
structure SlT (P : Program) (t e : TypeId) (sz : Nat) : Prop where
  ht : P.underlying t = some (.slice e)
  hi : ∃ i z b, P.info? e = some i ∧ i.zero = some z ∧ i.size = sz ∧ i.bytes = b ∧ b ≤ 4096 ∧ z.cells.size = sz

theorem SlT.mk' {P : Program} {t e : TypeId} {z : Value} {sz b : Nat} (ht : P.underlying t = some (.slice e)) (h : (P.info? e).map (fun i => (i.zero, i.size, i.bytes)) = some (some z, sz, b)) (hb : b ≤ 4096) (hz : z.cells.size = sz) : SlT P t e sz := by
  obtain ⟨i, hi, h0, h1, h2⟩ := info_parts h
  exact ⟨ht, i, z, b, hi, h0, h1, h2, hb, hz⟩

section
variable {α : Type} {w w' : World} {lo hi n : Nat} {T : Ty α} {A : Option Addr} {l : List α} {B : Nat} {e : TypeId} {v : Value}

theorem Sl.nil_ (A : Option Addr) : Sl w lo hi T A 0 [] := ⟨rfl, (fun _ h => absurd h List.not_mem_nil), fun h => absurd h (by omega)⟩

theorem Sl.keep (h : Sl w lo hi T A n l) (hk : ∀ p : Addr, lo ≤ p.block → p.block < hi → w'.cell? p = w.cell? p) : Sl w' lo hi T A n l :=
  ⟨h.len, h.wf, fun hn => by
    obtain ⟨b, o, e, h1, h2, hc⟩ := h.cells hn
    exact ⟨b, o, e, h1, h2, fun k x hx j u hu => (hk _ h1 h2).trans (hc k x hx j u hu)⟩⟩
theorem Sl.below (h : Sl w lo hi T A n l) (hb : Below B w w') (hB : hi ≤ B) : Sl w' lo hi T A n l := h.keep fun _ _ hp => hb.cell (by omega)
theorem Sl.more {lo' hi' : Nat} (h : Sl w lo hi T A n l) (h1 : lo' ≤ lo) (h2 : hi ≤ hi') : Sl w lo' hi' T A n l :=
  ⟨h.len, h.wf, fun hn => by
    obtain ⟨b, o, e, h3, h4, hc⟩ := h.cells hn
    exact ⟨b, o, e, by omega, by omega, hc⟩⟩
theorem Sl.alloc (h : Sl w lo hi T A n l) (hB : hi ≤ w.heap.size) (ob : Obj) : Sl (w.alloc ob) lo hi T A n l :=
  h.keep fun p _ hp => World.cell?_alloc_lt w ob p (by omega)
theorem Sl.drew (h : Sl w lo hi T A n l) : Sl w.drew lo hi T A n l := ⟨h.len, h.wf, h.cells⟩
theorem Sl.drewN (h : Sl w lo hi T A n l) (k : Nat) : Sl (w.drewN k) lo hi T A n l := ⟨h.len, h.wf, h.cells⟩
theorem Sl.at_ (h : Sl w lo hi T A n l) {k : Nat} (hk : k < n) :
    ∃ b o x, A = some ⟨b, o, none⟩ ∧ lo ≤ b ∧ b < hi ∧ Hid (l[k]? = some x) ∧ T.wf x ∧ ∀ j u, (T.enc x)[j]? = some u → w.cell? ⟨b, o + k * T.sz + j, none⟩ = some u := by
  obtain ⟨b, o, e, h1, h2, hc⟩ := h.cells (by omega)
  have hl : k < l.length := by have := h.len; omega
  exact ⟨b, o, l[k], e, h1, h2, List.getElem?_eq_getElem hl, h.wf _ (List.getElem_mem hl), hc k _ (List.getElem?_eq_getElem hl)⟩

theorem Own.nil_ (w : World) (B : Nat) (e : TypeId) (T : Ty α) : Own w B e T (.slice none 0 0) [] :=
  ⟨(fun _ h => absurd h List.not_mem_nil), World.ownsRow_nil w B e T.sz⟩
theorem Own.keep (h : Own w B e T v l) (hb : Below w.heap.size w w') : Own w' B e T v l := by
  refine ⟨h.wf, h.row.1, ?_⟩
  rcases h.row.2 with hn | ⟨g, cap, cur, rfl, h1, hg, r⟩
  · exact .inl hn
  · exact .inr ⟨g, cap, cur, rfl, h1, (hb.block g (Array.getElem?_eq_some_iff.1 hg).1).trans hg, r⟩
theorem Own.alloc (h : Own w B e T v l) (ob : Obj) : Own (w.alloc ob) B e T v l := h.keep ((Below.refl _ _).alloc (Nat.le_refl _) ob)
theorem Own.drew (h : Own w B e T v l) : Own w.drew B e T v l := ⟨h.wf, h.row⟩
theorem Own.drewN (h : Own w B e T v l) (k : Nat) : Own (w.drewN k) B e T v l := ⟨h.wf, h.row⟩
theorem Own.more {B' : Nat} (h : Own w B e T v l) (hB : B' ≤ B) : Own w B' e T v l := by
  refine ⟨h.wf, h.row.1, ?_⟩
  rcases h.row.2 with hn | ⟨g, cap, cur, rfl, h1, hg, r⟩
  · exact .inl hn
  · exact .inr ⟨g, cap, cur, rfl, by omega, hg, r⟩
/-- A store into another block than those from B on. -/
theorem Own.setCell (h : Own w B e T v l) {p : Addr} (hp : p.block < B) (u : Value) : Own (w.setCell p u) B e T v l :=
  ⟨h.wf, ownsRow_setCell_below h.row hp u⟩
theorem Own.form (h : Own w B e T v l) : ∃ A c, v = .slice A l.length c := by
  rcases h.row.2 with ⟨h1, h2⟩ | ⟨g, cap, cur, h1, _⟩
  · exact ⟨none, 0, by rw [h1, h2]⟩
  · exact ⟨_, _, h1⟩

theorem flatMap_at (T : Ty α) : ∀ (l : List α) (k : Nat) (x : α), l[k]? = some x → ∀ j u, (T.enc x)[j]? = some u → (l.flatMap T.enc)[k * T.sz + j]? = some u
  | [], k, x, h => by simp at h
  | y :: l, 0, x, h => by
    intro j u hu
    simp only [List.getElem?_cons_zero, Option.some.injEq] at h
    subst h
    have hj : j < (T.enc y).length := (List.getElem?_eq_some_iff.1 hu).1
    simp only [List.flatMap_cons, Nat.zero_mul, Nat.zero_add]
    rw [List.getElem?_append_left hj]
    exact hu
  | y :: l, k + 1, x, h => by
    intro j u hu
    simp only [List.getElem?_cons_succ] at h
    have := flatMap_at T l k x h j u hu
    simp only [List.flatMap_cons]
    rw [List.getElem?_append_right (by rw [T.len, Nat.add_mul]; omega), T.len, ← this]
    congr 1
    rw [Nat.add_mul]; omega

theorem Own.sl {A : Option Addr} {n c : Nat} (h : Own w B e T (.slice A n c) l) : Sl w B w.heap.size T A n l := by
  have hn : l.length = n := by
    obtain ⟨A', c', h'⟩ := h.form
    injection h' with _ h2 _
    exact h2.symm
  refine ⟨hn, h.wf, fun hpos => ?_⟩
  rcases h.row.2 with ⟨h1, h2⟩ | ⟨g, cap, cur, h1, hb, hg, _, _, _, htake⟩
  · omega
  · injection h1 with hA _ _
    refine ⟨g, 0, hA, hb, (Array.getElem?_eq_some_iff.1 hg).1, fun k x hx j u hu => ?_⟩
    have h3 := flatMap_at T l k x hx j u hu
    rw [cell_of_row w g _ cur e (0, 0) hg]
    rw [← htake, List.getElem?_take] at h3
    split at h3
    · simpa using h3
    · cases h3

/-- The cells of what is owned can be written. -/
theorem Own.unfrozen {A : Option Addr} {n c b o : Nat} (h : Own w B e T (.slice A n c) l) (hA : A = some ⟨b, o, none⟩) (i : Nat) : w.frozen? ⟨b, i, none⟩ = false := by
  subst hA
  rcases h.row.2 with ⟨h1, h2⟩ | ⟨g, cap, cur, h1, hb, hg, _, _, _, htake⟩
  · simp at h1
  · injection h1 with hA _ _
    injection hA with hA
    injection hA with hA _ _
    subst hA
    simp [World.frozen?, hg]

/-- 'append(out, x)' at a plain region's list of operations. -/
theorem push_law {P : Program} {t : TypeId} {ops : Array Oper} {rest : List Oper} {o : Oper} {a : Act} {Q : Exit → Act → World → Prop} (hgd : o.guard = none) (s x : Operand)
    (ho : o.op = .call { callee := .builtin .append, args := #[s, x], argTypes := #[t, t] }) (S : SlT P t e T.sz)
    {W : World} (hs : a.eval s = v) (hown : Own W B e T v l) (y : α) (hy : T.wf y) (news : Array Value) (hn : news.toList = T.enc y)
    (hx : a.eval x = .slice (some ⟨W.heap.size, 0, none⟩) 1 1) (hB : B ≤ W.heap.size) (hl : l.length < 2147483648)
    (h : ∀ v' w', Own w' B e T v' (l ++ [y]) → Below B W w' → wpList P ops Q rest (a.put o.dst v') w') : wpList P ops Q (o :: rest) a (W.alloc (.cells news e)) := by
  obtain ⟨i, z, b, hi, h0, h1, h2, hb, hz⟩ := S.hi
  refine wpList_append_own (W.alloc (.cells news e)) hgd s x t ho B e i z T.sz b S.ht hi h0 h1 h2 hz T.pos v l.length (l.flatMap T.enc) hs (hown.alloc _).row ⟨W.heap.size, 0, none⟩ 1 1 (T.enc y) hx (by rw [T.len]; omega) ?_ (fun u hu => T.one y u hu) (by unfold maxLen; omega) ?_ (by simp; omega) ?_
  · intro j u hu
    have hadd : (⟨W.heap.size, 0, none⟩ : Addr).add j = ⟨W.heap.size, j, none⟩ := by unfold Addr.add; split <;> simp_all
    rw [hadd, cell_of_row _ _ j news e (0, 0) (heap_alloc_new W _), ← hu, ← hn]
    simp
  · exact Nat.le_trans (Nat.mul_le_mul (show l.length + 1 ≤ 2147483648 by omega) hb) (by omega)
  · intro v' w' hown' hgrow _
    refine h v' w' ⟨fun x hx => ?_, ?_⟩ ?_
    · rcases List.mem_append.1 hx with h' | h'
      · exact hown.wf x h'
      · rw [List.mem_singleton.1 h']; exact hy
    · rw [List.flatMap_append, List.length_append]
      simpa using hown'
    · exact ((Below.refl B W).alloc hB _).grown hgrow (by simp; omega) (fun k hk => (World.ownsRow.lt hown.row k hk).1)
end

theorem below_drewN {B : Nat} {a w : World} (h : Below B a w) (n : Nat) : Below B a (w.drewN n) := ⟨h.os, h.tape, h.output, h.size, h.block⟩
theorem boxed_drewN {w : World} {b : Nat} {cs : Array Value} (h : ∀ i, w.cell? ⟨b, i, none⟩ = cs[i]?) (n : Nat) : ∀ i, (w.drewN n).cell? ⟨b, i, none⟩ = cs[i]? := h

/-- The world under a name: of it only R is known from here on. -/
theorem wp_world {P : Program} {c : Code} {Q : Exit → Act → World → Prop} {a : Act} {w : World} (R : World → Prop) (h : R w) (k : ∀ w', R w' → c.wp P Q a w') : c.wp P Q a w := k w h

/-! A block that is known whole (a boxed parameter, a local): its cells as one rule. -/
section
variable {w w1 : World} {b : Nat} {cs : Array Value}
theorem boxed_new (w : World) (cs : Array Value) (t : TypeId) : ∀ i, (w.alloc (.cells cs t)).cell? ⟨w.heap.size, i, none⟩ = cs[i]? := fun i => by simp
theorem boxed_alloc (h : ∀ i, w.cell? ⟨b, i, none⟩ = cs[i]?) (hlt : b < w.heap.size) (o : Obj) : ∀ i, (w.alloc o).cell? ⟨b, i, none⟩ = cs[i]? :=
  fun i => (World.cell?_alloc_lt w o _ hlt).trans (h i)
theorem boxed_set (h : ∀ i, w.cell? ⟨b, i, none⟩ = cs[i]?) (p : Addr) (hne : b ≠ p.block) (u : Value) : ∀ i, (w.setCell p u).cell? ⟨b, i, none⟩ = cs[i]? :=
  fun i => (World.cell?_setCell_other w p _ u (fun e => hne (by rw [e]))).trans (h i)
theorem boxed_below {W : World} (h : ∀ i, W.cell? ⟨b, i, none⟩ = cs[i]?) (hb : Below W.heap.size W w1) (hlt : b < W.heap.size) : ∀ i, w1.cell? ⟨b, i, none⟩ = cs[i]? :=
  fun i => (hb.cell hlt).trans (h i)
theorem boxed_drew (h : ∀ i, w.cell? ⟨b, i, none⟩ = cs[i]?) : ∀ i, w.drew.cell? ⟨b, i, none⟩ = cs[i]? := h
end

/-- What a call hands back that makes a slice: it owns a row among the new blocks, which reads as l; nothing old has turned. -/
def RetOwn {α : Type} (W : World) (E : TypeId) (T : Ty α) (l : List α) (e : Ending) (w' : World) : Prop :=
  ∃ A c, e = .returned (.slice A l.length c) ∧ Own w' W.heap.size E T (.slice A l.length c) l ∧ Below W.heap.size W w'
theorem RetOwn.mk' {α : Type} {W w' : World} {E : TypeId} {T : Ty α} {l : List α} {v : Value} (h : Own w' W.heap.size E T v l) (hb : Below W.heap.size W w') : RetOwn W E T l (.returned v) w' := by
  obtain ⟨A, c, rfl⟩ := h.form
  exact ⟨A, c, rfl, h, hb⟩

/-- What is known behind a call that leaves all old memory as it was, as rules for the walk. -/
theorem bcell {W w1 : World} (hb : Below W.heap.size W w1) : (∀ b o, b < W.heap.size → w1.cell? ⟨b, o, none⟩ = W.cell? ⟨b, o, none⟩) ∧ (∀ b o, b < W.heap.size → w1.frozen? ⟨b, o, none⟩ = W.frozen? ⟨b, o, none⟩) :=
  ⟨fun b o h => hb.cell (p := ⟨b, o, none⟩) h, fun b o h => hb.frozen (p := ⟨b, o, none⟩) h⟩

theorem ret_int {k : IntKind} {a b : Int} (h : a = b) : Ending.returned (.int k a) = .returned (.int k b) := by rw [h]
theorem ret_bool {a b : Bool} (h : a = b) : Ending.returned (.bool a) = .returned (.bool b) := by rw [h]

/-- The byte at a place of a string, as a number. -/
def bat (s : ByteArray) (i : Nat) : Int := ((s.data.toList[i]?.getD 0).toNat : Int)
theorem bat_bd (s : ByteArray) (i : Nat) : 0 ≤ bat s i ∧ bat s i ≤ 255 := by
  unfold bat
  have := (s.data.toList[i]?.getD 0).toNat_lt
  constructor <;> omega
theorem bat_get (s : ByteArray) (i : Nat) (h : i < s.size) : (s[i].toNat : Int) = bat s i := by
  unfold bat
  have : s.data.toList[i]? = some s[i] := by
    rw [Array.getElem?_toList]
    have h' : i < s.data.size := h
    rw [Array.getElem?_eq_getElem h']; rfl
  rw [this]; rfl

theorem isEmpty_size (s : ByteArray) : s.toList.isEmpty = decide (s.size = 0) := by
  rw [ByteArray.toList_eq, Bool.eq_iff_iff]
  have : s.data.toList.length = s.size := by simp
  simp only [List.isEmpty_iff, decide_eq_true_eq, ← this]
  exact List.length_eq_zero_iff.symm
/-- 'string([]byte{c})'. -/
theorem one_byte {P : Program} (W : World) (src dst e : TypeId) (b : Nat) (l : Int) (h0 : 0 ≤ l) (h1 : l ≤ 255) (hs : P.underlying src = some (.slice e)) (he : P.underlying e = some (.int .u8)) (hd : P.underlying dst = some .string)
    (hc : W.cell? ⟨b, 0, none⟩ = some (.int .u8 l)) : (convert src dst (.slice (some ⟨b, 0, none⟩) 1 1)).run P W = .ok (.string ⟨#[UInt8.ofNat l.toNat]⟩) W := by
  have := run_convert_bytes_back (P := P) W src dst e ⟨b, 0, none⟩ 1 [UInt8.ofNat l.toNat] hs he hd (fun j hj => by
    have hj0 : j = 0 := by simpa using hj
    subst hj0
    have e0 : (⟨b, 0, none⟩ : Addr).add 0 = ⟨b, 0, none⟩ := by simp [Addr.add]
    rw [e0, hc]
    simp
    omega)
  simpa using this
/-- '[]byte(s)': new memory, with the string's bytes. -/
theorem bytes_of {P : Program} (w : World) (src dst e : TypeId) (s : ByteArray) (hs : P.underlying src = some .string) (hd : P.underlying dst = some (.slice e)) (he : P.underlying e = some (.int .u8)) :
    ∃ w1 c, (convert src dst (.string s)).run P w = .ok (.slice (some ⟨w.heap.size, 0, none⟩) s.size c) w1 ∧ Below w.heap.size w w1 ∧ w.heap.size < w1.heap.size ∧
      ∀ i, i < s.size → w1.cell? ⟨w.heap.size, i, none⟩ = some (.int .u8 (bat s i)) := by
  refine ⟨_, _, run_bytes_of_string w src dst e s hs hd he, ?_, ?_, fun i hi => ?_⟩
  · exact ((Below.refl _ w).drew).alloc (Nat.le_refl _) _
  · simp
  · have hg : (w.drew.alloc (.cells (bytesRow s (grownCap w s.size 0 e)) e ((bytesRow s (grownCap w s.size 0 e)).size, (bytesRow s (grownCap w s.size 0 e)).size + 1))).heap[w.heap.size]? = some (.cells (bytesRow s (grownCap w s.size 0 e)) e ((bytesRow s (grownCap w s.size 0 e)).size, (bytesRow s (grownCap w s.size 0 e)).size + 1)) := heap_alloc_new w.drew _
    rw [World.cell?, hg]
    simp only [Option.isSome_none, Bool.false_eq_true, if_false]
    rw [bytesRow_at s _ i hi, ← bat_get s i hi]
    rfl
end Go.Proofs.YtggomjfllbljeaaGreatDoor
namespace Go.Proofs.YtggomjfllbljeaaGreatDoor
set_option linter.unusedVariables false
open Go Go.RowKit
/-- Block b holds just these cells, and may be written. -/
def Bx (w : World) (b : Nat) (cs : Array Value) (t : TypeId) : Prop := w.heap[b]? = some (.cells cs t (0, 0))
section
variable {w w1 : World} {b : Nat} {cs : Array Value} {t : TypeId}
theorem Bx.new (w : World) (cs : Array Value) (t : TypeId) : Bx (w.alloc (.cells cs t)) w.heap.size cs t := heap_alloc_new w _
theorem Bx.lt (h : Bx w b cs t) : b < w.heap.size := (Array.getElem?_eq_some_iff.1 h).1
theorem Bx.below {B : Nat} (h : Bx w b cs t) (hb : Below B w w1) (hB : b < B) : Bx w1 b cs t := (hb.block b hB).trans h
theorem Bx.alloc (h : Bx w b cs t) (o : Obj) : Bx (w.alloc o) b cs t := (heap_alloc_old w o h.lt).trans h
theorem Bx.drewN (h : Bx w b cs t) (n : Nat) : Bx (w.drewN n) b cs t := h
theorem Bx.cells (h : Bx w b cs t) : ∀ i, w.cell? ⟨b, i, none⟩ = cs[i]? := fun i => cell_of_row w b i cs t (0, 0) h
theorem Bx.free (h : Bx w b cs t) : ∀ i, w.frozen? ⟨b, i, none⟩ = false := fun i => by have h' : w.heap[b]? = _ := h; simp [World.frozen?, h']
theorem Bx.put (h : Bx w b cs t) (i : Nat) (u : Value) : Bx (w.setCell ⟨b, i, none⟩ u) b (cs.setIfInBounds i u) t := by
  unfold Bx
  rw [setCell_eq_setRow w b i cs t (0, 0) u h]
  exact setRow_heap w b cs _ t _ h
theorem Bx.other (h : Bx w b cs t) {p : Addr} (hp : b ≠ p.block) (u : Value) : Bx (w.setCell p u) b cs t := (Below.heap_setCell w p u b hp).trans h
theorem Bx.row (h : Bx w b cs t) (cs' : Array Value) : Bx (w.setRow b cs') b cs' t := setRow_heap w b cs _ t _ h
theorem Bx.rowOther {g : Nat} (h : Bx w b cs t) (hg : b ≠ g) (cs' : Array Value) : Bx (w.setRow g cs') b cs t := (setRow_other w g b cs' hg).trans h
theorem Bx.grown {row : Option Nat} (h : Bx w b cs t) (hg : w.grownBy w1 row) (hr : row ≠ some b) : Bx w1 b cs t := (hg.block b h.lt (Ne.symm hr)).trans h
theorem below_setRow {B g : Nat} {a : World} (h : Below B a w) (hg : B ≤ g) (cs' : Array Value) : Below B a (w.setRow g cs') :=
  h.trans ⟨rfl, rfl, rfl, by simp, fun k hk => setRow_other w g k cs' (by omega)⟩
end
end Go.Proofs.YtggomjfllbljeaaGreatDoor
