/- Put together by program of: Lib, Model, Caps. -/
import Derived.WalkKit
import Derived.WalkSpells
import Derived.WalkLawsBesides
import Derived.Deep.AppendLies
import Derived.Deep.LoopGhost
import Derived.Lib.Hide
namespace Go.Proofs.YtpgeoahlhdifoaaGreatDoor
set_option linter.unusedVariables false
open Go Go.RowKit

/-- How an element of a slice lies in cells. -/
structure Ty (α : Type) where
  enc : α → List Value
  sz : Nat
  wf : α → Prop
  len : ∀ x, (enc x).length = sz
  one : ∀ x u, u ∈ enc x → u.oneCell' = true
  pos : 0 < sz

/-- A slice (its address A, its length n) reads as the list l; it lies in blocks from lo on, below hi. -/
structure Sl {α : Type} (w : World) (lo hi : Nat) (T : Ty α) (A : Option Addr) (n : Nat) (l : List α) : Prop where
  len : l.length = n
  wf : ∀ x, x ∈ l → T.wf x
  cells : 0 < n → ∃ b o, A = some ⟨b, o, none⟩ ∧ lo ≤ b ∧ b < hi ∧ ∀ k x, l[k]? = some x → ∀ j u, (T.enc x)[j]? = some u → w.cell? ⟨b, o + k * T.sz + j, none⟩ = some u

/-- A slice value that owns a row of the call's own, from block B on, and reads as l. -/
structure Own {α : Type} (w : World) (B : Nat) (e : TypeId) (T : Ty α) (v : Value) (l : List α) : Prop where
  wf : ∀ x, x ∈ l → T.wf x
  row : w.ownsRow B e T.sz v l.length (l.flatMap T.enc)

/-- What a program says of a slice type. -/
structure SlT (P : Program) (t e : TypeId) (sz : Nat) : Prop where
  ht : P.underlying t = some (.slice e)
  hi : ∃ i z b, P.info? e = some i ∧ i.zero = some z ∧ i.size = sz ∧ i.bytes = b ∧ b ≤ 4096 ∧ z.cells.size = sz

theorem SlT.mk' {P : Program} {t e : TypeId} {z : Value} {sz b : Nat} (ht : P.underlying t = some (.slice e)) (h : (P.info? e).map (fun i => (i.zero, i.size, i.bytes)) = some (some z, sz, b)) (hb : b ≤ 4096) (hz : z.cells.size = sz) : SlT P t e sz := by
  obtain ⟨i, hi, h0, h1, h2⟩ := info_parts h
  exact ⟨ht, i, z, b, hi, h0, h1, h2, hb, hz⟩

section
variable {α : Type} {w w' : World} {lo hi n : Nat} {T : Ty α} {A : Option Addr} {l : List α} {B : Nat} {e : TypeId} {v : Value}

theorem Sl.nil_ (A : Option Addr) : Sl w lo hi T A 0 [] := ⟨rfl, (fun _ h => absurd h List.not_mem_nil), fun h => absurd h (by omega)⟩

theorem Sl.keep (h : Sl w lo hi T A n l) (hk : ∀ p : Addr, lo ≤ p.block → p.block < hi → w'.cell? p = w.cell? p) : Sl w' lo hi T A n l :=
  ⟨h.len, h.wf, fun hn => by
    obtain ⟨b, o, e, h1, h2, hc⟩ := h.cells hn
    exact ⟨b, o, e, h1, h2, fun k x hx j u hu => (hk _ h1 h2).trans (hc k x hx j u hu)⟩⟩
theorem Sl.below (h : Sl w lo hi T A n l) (hb : Below B w w') (hB : hi ≤ B) : Sl w' lo hi T A n l := h.keep fun _ _ hp => hb.cell (by omega)
theorem Sl.more {lo' hi' : Nat} (h : Sl w lo hi T A n l) (h1 : lo' ≤ lo) (h2 : hi ≤ hi') : Sl w lo' hi' T A n l :=
  ⟨h.len, h.wf, fun hn => by
    obtain ⟨b, o, e, h3, h4, hc⟩ := h.cells hn
    exact ⟨b, o, e, by omega, by omega, hc⟩⟩
theorem Sl.alloc (h : Sl w lo hi T A n l) (hB : hi ≤ w.heap.size) (ob : Obj) : Sl (w.alloc ob) lo hi T A n l :=
  h.keep fun p _ hp => World.cell?_alloc_lt w ob p (by omega)
theorem Sl.drew (h : Sl w lo hi T A n l) : Sl w.drew lo hi T A n l := ⟨h.len, h.wf, h.cells⟩
theorem Sl.drewN (h : Sl w lo hi T A n l) (k : Nat) : Sl (w.drewN k) lo hi T A n l := ⟨h.len, h.wf, h.cells⟩
theorem Sl.at_ (h : Sl w lo hi T A n l) {k : Nat} (hk : k < n) :
    ∃ b o x, A = some ⟨b, o, none⟩ ∧ lo ≤ b ∧ b < hi ∧ Hid (l[k]? = some x) ∧ T.wf x ∧ ∀ j u, (T.enc x)[j]? = some u → w.cell? ⟨b, o + k * T.sz + j, none⟩ = some u := by
  obtain ⟨b, o, e, h1, h2, hc⟩ := h.cells (by omega)
  have hl : k < l.length := by have := h.len; omega
  exact ⟨b, o, l[k], e, h1, h2, List.getElem?_eq_getElem hl, h.wf _ (List.getElem_mem hl), hc k _ (List.getElem?_eq_getElem hl)⟩

theorem Own.nil_ (w : World) (B : Nat) (e : TypeId) (T : Ty α) : Own w B e T (.slice none 0 0) [] :=
  ⟨(fun _ h => absurd h List.not_mem_nil), World.ownsRow_nil w B e T.sz⟩
theorem Own.keep (h : Own w B e T v l) (hb : Below w.heap.size w w') : Own w' B e T v l := by
  refine ⟨h.wf, h.row.1, ?_⟩
  rcases h.row.2 with hn | ⟨g, cap, cur, rfl, h1, hg, r⟩
  · exact .inl hn
  · exact .inr ⟨g, cap, cur, rfl, h1, (hb.block g (Array.getElem?_eq_some_iff.1 hg).1).trans hg, r⟩
theorem Own.alloc (h : Own w B e T v l) (ob : Obj) : Own (w.alloc ob) B e T v l := h.keep ((Below.refl _ _).alloc (Nat.le_refl _) ob)
theorem Own.drew (h : Own w B e T v l) : Own w.drew B e T v l := ⟨h.wf, h.row⟩
theorem Own.drewN (h : Own w B e T v l) (k : Nat) : Own (w.drewN k) B e T v l := ⟨h.wf, h.row⟩
theorem Own.more {B' : Nat} (h : Own w B e T v l) (hB : B' ≤ B) : Own w B' e T v l := by
  refine ⟨h.wf, h.row.1, ?_⟩
  rcases h.row.2 with hn | ⟨g, cap, cur, rfl, h1, hg, r⟩
  · exact .inl hn
  · exact .inr ⟨g, cap, cur, rfl, by omega, hg, r⟩
/-- A store into another block than those from B on. -/
theorem Own.setCell (h : Own w B e T v l) {p : Addr} (hp : p.block < B) (u : Value) : Own (w.setCell p u) B e T v l :=
  ⟨h.wf, ownsRow_setCell_below h.row hp u⟩
theorem Own.form (h : Own w B e T v l) : ∃ A c, v = .slice A l.length c := by
  rcases h.row.2 with ⟨h1, h2⟩ | ⟨g, cap, cur, h1, _⟩
  · exact ⟨none, 0, by rw [h1, h2]⟩
  · exact ⟨_, _, h1⟩

theorem flatMap_at (T : Ty α) : ∀ (l : List α) (k : Nat) (x : α), l[k]? = some x → ∀ j u, (T.enc x)[j]? = some u → (l.flatMap T.enc)[k * T.sz + j]? = some u
  | [], k, x, h => by simp at h
  | y :: l, 0, x, h => by
    intro j u hu
    simp only [List.getElem?_cons_zero, Option.some.injEq] at h
    subst h
    have hj : j < (T.enc y).length := (List.getElem?_eq_some_iff.1 hu).1
    simp only [List.flatMap_cons, Nat.zero_mul, Nat.zero_add]
    rw [List.getElem?_append_left hj]
    exact hu
  | y :: l, k + 1, x, h => by
    intro j u hu
    simp only [List.getElem?_cons_succ] at h
    have := flatMap_at T l k x h j u hu
    simp only [List.flatMap_cons]
    rw [List.getElem?_append_right (by rw [T.len, Nat.add_mul]; omega), T.len, ← this]
    congr 1
    rw [Nat.add_mul]; omega

theorem Own.sl {A : Option Addr} {n c : Nat} (h : Own w B e T (.slice A n c) l) : Sl w B w.heap.size T A n l := by
  have hn : l.length = n := by
    obtain ⟨A', c', h'⟩ := h.form
    injection h' with _ h2 _
    exact h2.symm
  refine ⟨hn, h.wf, fun hpos => ?_⟩
  rcases h.row.2 with ⟨h1, h2⟩ | ⟨g, cap, cur, h1, hb, hg, _, _, _, htake⟩
  · omega
  · injection h1 with hA _ _
    refine ⟨g, 0, hA, hb, (Array.getElem?_eq_some_iff.1 hg).1, fun k x hx j u hu => ?_⟩
    have h3 := flatMap_at T l k x hx j u hu
    rw [cell_of_row w g _ cur e (0, 0) hg]
    rw [← htake, List.getElem?_take] at h3
    split at h3
    · simpa using h3
    · cases h3

/-- The cells of what is owned can be written. -/
theorem Own.unfrozen {A : Option Addr} {n c b o : Nat} (h : Own w B e T (.slice A n c) l) (hA : A = some ⟨b, o, none⟩) (i : Nat) : w.frozen? ⟨b, i, none⟩ = false := by
  subst hA
  rcases h.row.2 with ⟨h1, h2⟩ | ⟨g, cap, cur, h1, hb, hg, _, _, _, htake⟩
  · simp at h1
  · injection h1 with hA _ _
    injection hA with hA
    injection hA with hA _ _
    subst hA
    simp [World.frozen?, hg]

/-- 'append(out, x)' at a plain region's list of operations. -/
theorem push_law {P : Program} {t : TypeId} {ops : Array Oper} {rest : List Oper} {o : Oper} {a : Act} {Q : Exit → Act → World → Prop} (hgd : o.guard = none) (s x : Operand)
    (ho : o.op = .call { callee := .builtin .append, args := #[s, x], argTypes := #[t, t] }) (S : SlT P t e T.sz)
    {W : World} (hs : a.eval s = v) (hown : Own W B e T v l) (y : α) (hy : T.wf y) (news : Array Value) (hn : news.toList = T.enc y)
    (hx : a.eval x = .slice (some ⟨W.heap.size, 0, none⟩) 1 1) (hB : B ≤ W.heap.size) (hl : l.length < 2147483648)
    (h : ∀ v' w', Own w' B e T v' (l ++ [y]) → Below B W w' → wpList P ops Q rest (a.put o.dst v') w') : wpList P ops Q (o :: rest) a (W.alloc (.cells news e)) := by
  obtain ⟨i, z, b, hi, h0, h1, h2, hb, hz⟩ := S.hi
  refine wpList_append_own (W.alloc (.cells news e)) hgd s x t ho B e i z T.sz b S.ht hi h0 h1 h2 hz T.pos v l.length (l.flatMap T.enc) hs (hown.alloc _).row ⟨W.heap.size, 0, none⟩ 1 1 (T.enc y) hx (by rw [T.len]; omega) ?_ (fun u hu => T.one y u hu) (by unfold maxLen; omega) ?_ (by simp; omega) ?_
  · intro j u hu
    have hadd : (⟨W.heap.size, 0, none⟩ : Addr).add j = ⟨W.heap.size, j, none⟩ := by unfold Addr.add; split <;> simp_all
    rw [hadd, cell_of_row _ _ j news e (0, 0) (heap_alloc_new W _), ← hu, ← hn]
    simp
  · exact Nat.le_trans (Nat.mul_le_mul (show l.length + 1 ≤ 2147483648 by omega) hb) (by omega)
  · intro v' w' hown' hgrow _
    refine h v' w' ⟨fun x hx => ?_, ?_⟩ ?_
    · rcases List.mem_append.1 hx with h' | h'
      · exact hown.wf x h'
      · rw [List.mem_singleton.1 h']; exact hy
    · rw [List.flatMap_append, List.length_append]
      simpa using hown'
    · exact ((Below.refl B W).alloc hB _).grown hgrow (by simp; omega) (fun k hk => (World.ownsRow.lt hown.row k hk).1)
end

theorem below_drewN {B : Nat} {a w : World} (h : Below B a w) (n : Nat) : Below B a (w.drewN n) := ⟨h.os, h.tape, h.output, h.size, h.block⟩
theorem boxed_drewN {w : World} {b : Nat} {cs : Array Value} (h : ∀ i, w.cell? ⟨b, i, none⟩ = cs[i]?) (n : Nat) : ∀ i, (w.drewN n).cell? ⟨b, i, none⟩ = cs[i]? := h

/-- The world under a name: of it only R is known from here on. -/
theorem wp_world {P : Program} {c : Code} {Q : Exit → Act → World → Prop} {a : Act} {w : World} (R : World → Prop) (h : R w) (k : ∀ w', R w' → c.wp P Q a w') : c.wp P Q a w := k w h

/-! A block that is known whole (a boxed parameter, a local): its cells as one rule. -/
section
variable {w w1 : World} {b : Nat} {cs : Array Value}
theorem boxed_new (w : World) (cs : Array Value) (t : TypeId) : ∀ i, (w.alloc (.cells cs t)).cell? ⟨w.heap.size, i, none⟩ = cs[i]? := fun i => by simp
theorem boxed_alloc (h : ∀ i, w.cell? ⟨b, i, none⟩ = cs[i]?) (hlt : b < w.heap.size) (o : Obj) : ∀ i, (w.alloc o).cell? ⟨b, i, none⟩ = cs[i]? :=
  fun i => (World.cell?_alloc_lt w o _ hlt).trans (h i)
theorem boxed_set (h : ∀ i, w.cell? ⟨b, i, none⟩ = cs[i]?) (p : Addr) (hne : b ≠ p.block) (u : Value) : ∀ i, (w.setCell p u).cell? ⟨b, i, none⟩ = cs[i]? :=
  fun i => (World.cell?_setCell_other w p _ u (fun e => hne (by rw [e]))).trans (h i)
theorem boxed_below {W : World} (h : ∀ i, W.cell? ⟨b, i, none⟩ = cs[i]?) (hb : Below W.heap.size W w1) (hlt : b < W.heap.size) : ∀ i, w1.cell? ⟨b, i, none⟩ = cs[i]? :=
  fun i => (hb.cell hlt).trans (h i)
theorem boxed_drew (h : ∀ i, w.cell? ⟨b, i, none⟩ = cs[i]?) : ∀ i, w.drew.cell? ⟨b, i, none⟩ = cs[i]? := h
end

/-- What a call hands back that makes a slice: it owns a row among the new blocks, which reads as l; nothing old has turned. -/
def RetOwn {α : Type} (W : World) (E : TypeId) (T : Ty α) (l : List α) (e : Ending) (w' : World) : Prop :=
  ∃ A c, e = .returned (.slice A l.length c) ∧ Own w' W.heap.size E T (.slice A l.length c) l ∧ Below W.heap.size W w'
theorem RetOwn.mk' {α : Type} {W w' : World} {E : TypeId} {T : Ty α} {l : List α} {v : Value} (h : Own w' W.heap.size E T v l) (hb : Below W.heap.size W w') : RetOwn W E T l (.returned v) w' := by
  obtain ⟨A, c, rfl⟩ := h.form
  exact ⟨A, c, rfl, h, hb⟩

/-- What is known behind a call that leaves all old memory as it was, as rules for the walk. -/
theorem bcell {W w1 : World} (hb : Below W.heap.size W w1) : (∀ b o, b < W.heap.size → w1.cell? ⟨b, o, none⟩ = W.cell? ⟨b, o, none⟩) ∧ (∀ b o, b < W.heap.size → w1.frozen? ⟨b, o, none⟩ = W.frozen? ⟨b, o, none⟩) :=
  ⟨fun b o h => hb.cell (p := ⟨b, o, none⟩) h, fun b o h => hb.frozen (p := ⟨b, o, none⟩) h⟩

theorem ret_int {k : IntKind} {a b : Int} (h : a = b) : Ending.returned (.int k a) = .returned (.int k b) := by rw [h]
theorem ret_bool {a b : Bool} (h : a = b) : Ending.returned (.bool a) = .returned (.bool b) := by rw [h]

/-- The byte at a place of a string, as a number. -/
def bat (s : ByteArray) (i : Nat) : Int := ((s.data.toList[i]?.getD 0).toNat : Int)
theorem bat_bd (s : ByteArray) (i : Nat) : 0 ≤ bat s i ∧ bat s i ≤ 255 := by
  unfold bat
  have := (s.data.toList[i]?.getD 0).toNat_lt
  constructor <;> omega
theorem bat_get (s : ByteArray) (i : Nat) (h : i < s.size) : (s[i].toNat : Int) = bat s i := by
  unfold bat
  have : s.data.toList[i]? = some s[i] := by
    rw [Array.getElem?_toList]
    have h' : i < s.data.size := h
    rw [Array.getElem?_eq_getElem h']; rfl
  rw [this]; rfl

theorem isEmpty_size (s : ByteArray) : s.toList.isEmpty = decide (s.size = 0) := by
  rw [ByteArray.toList_eq, Bool.eq_iff_iff]
  have : s.data.toList.length = s.size := by simp
  simp only [List.isEmpty_iff, decide_eq_true_eq, ← this]
  exact List.length_eq_zero_iff.symm
/-- 'string([]byte{c})'. -/
theorem one_byte {P : Program} (W : World) (src dst e : TypeId) (b : Nat) (l : Int) (h0 : 0 ≤ l) (h1 : l ≤ 255) (hs : P.underlying src = some (.slice e)) (he : P.underlying e = some (.int .u8)) (hd : P.underlying dst = some .string)
    (hc : W.cell? ⟨b, 0, none⟩ = some (.int .u8 l)) : (convert src dst (.slice (some ⟨b, 0, none⟩) 1 1)).run P W = .ok (.string ⟨#[UInt8.ofNat l.toNat]⟩) W := by
  have := run_convert_bytes_back (P := P) W src dst e ⟨b, 0, none⟩ 1 [UInt8.ofNat l.toNat] hs he hd (fun j hj => by
    have hj0 : j = 0 := by simpa using hj
    subst hj0
    have e0 : (⟨b, 0, none⟩ : Addr).add 0 = ⟨b, 0, none⟩ := by simp [Addr.add]
    rw [e0, hc]
    simp
    omega)
  simpa using this
/-- '[]byte(s)': new memory, with the string's bytes. -/
theorem bytes_of {P : Program} (w : World) (src dst e : TypeId) (s : ByteArray) (hs : P.underlying src = some .string) (hd : P.underlying dst = some (.slice e)) (he : P.underlying e = some (.int .u8)) :
    ∃ w1 c, (convert src dst (.string s)).run P w = .ok (.slice (some ⟨w.heap.size, 0, none⟩) s.size c) w1 ∧ Below w.heap.size w w1 ∧ w.heap.size < w1.heap.size ∧
      ∀ i, i < s.size → w1.cell? ⟨w.heap.size, i, none⟩ = some (.int .u8 (bat s i)) := by
  refine ⟨_, _, run_bytes_of_string w src dst e s hs hd he, ?_, ?_, fun i hi => ?_⟩
  · exact ((Below.refl _ w).drew).alloc (Nat.le_refl _) _
  · simp
  · have hg : (w.drew.alloc (.cells (bytesRow s (grownCap w s.size 0 e)) e ((bytesRow s (grownCap w s.size 0 e)).size, (bytesRow s (grownCap w s.size 0 e)).size + 1))).heap[w.heap.size]? = some (.cells (bytesRow s (grownCap w s.size 0 e)) e ((bytesRow s (grownCap w s.size 0 e)).size, (bytesRow s (grownCap w s.size 0 e)).size + 1)) := heap_alloc_new w.drew _
    rw [World.cell?, hg]
    simp only [Option.isSome_none, Bool.false_eq_true, if_false]
    rw [bytesRow_at s _ i hi, ← bat_get s i hi]
    rfl
end Go.Proofs.YtpgeoahlhdifoaaGreatDoor
namespace Go.Proofs.YtpgeoahlhdifoaaGreatDoor
set_option linter.unusedVariables false
open Go Go.RowKit

def okStr (s : ByteArray) : Prop := s.size ≤ 9223372036854775807
def okInt (n : Int) : Prop := -9223372036854775808 ≤ n ∧ n ≤ 9223372036854775807
def okByte (n : Int) : Prop := 0 ≤ n ∧ n ≤ 255

structure Nam where
  last : ByteArray
  first : ByteArray
structure Seg where
  car : ByteArray
  num : Int
  day : Int
  cls : Int
  live : Bool
structure Plc where
  seg : Int
  pax : Int
  row : Int
  let_ : Int
structure Tik where
  kind : Int
  day : Int
  min : Int

structure Pnr where
  loc : ByteArray
  off : ByteArray
  names : List Nam
  segs : List Seg
  phones : List ByteArray
  tik : Tik
  rc : ByteArray
  remarks : List ByteArray
  seats : List Plc
  queued : Bool
structure Edit where
  kind : Int
  nam : Nam
  seg : Seg
  tik : Tik
  text : ByteArray
  n : Int
  pax : Int
  row : Int
  let_ : Int
/-- The heads of a PNR's five slices. -/
structure Hd where
  an : Option Addr
  nn : Nat
  cn : Nat
  ag : Option Addr
  ng : Nat
  cg : Nat
  ap : Option Addr
  np : Nat
  cp : Nat
  ar : Option Addr
  nr : Nat
  cr : Nat
  ae : Option Addr
  ne : Nat
  ce : Nat

def Tik.ok (t : Tik) : Prop := okInt t.kind ∧ okInt t.day ∧ okInt t.min
def Seg.ok (s : Seg) : Prop := okStr s.car ∧ okInt s.num ∧ okInt s.day ∧ okByte s.cls
def Nam.ok (s : Nam) : Prop := okStr s.last ∧ okStr s.first
def Plc.ok (s : Plc) : Prop := okInt s.seg ∧ okInt s.pax ∧ okInt s.row ∧ okByte s.let_

def tInt : Ty Int := ⟨fun x => [.int .i64 x], 1, okInt, fun _ => rfl, fun x u h => by simp at h; subst h; rfl, by omega⟩
def tStr : Ty ByteArray := ⟨fun x => [.string x], 1, okStr, fun _ => rfl, fun x u h => by simp at h; subst h; rfl, by omega⟩
def tSeg : Ty Seg := ⟨fun x => [.string x.car, .int .i64 x.num, .int .i64 x.day, .int .u8 x.cls, .bool x.live], 5, Seg.ok, fun _ => rfl, fun x u h => by simp at h; rcases h with h | h | h | h | h <;> subst h <;> rfl, by omega⟩
def tNam : Ty Nam := ⟨fun x => [.string x.last, .string x.first], 2, Nam.ok, fun _ => rfl, fun x u h => by simp at h; rcases h with h | h <;> subst h <;> rfl, by omega⟩
def tPlc : Ty Plc := ⟨fun x => [.int .i64 x.seg, .int .i64 x.pax, .int .i64 x.row, .int .u8 x.let_], 4, Plc.ok, fun _ => rfl, fun x u h => by simp at h; rcases h with h | h | h | h <;> subst h <;> rfl, by omega⟩

section
variable {w : World} {lo hi n : Nat} {A : Option Addr} {k : Nat}
theorem Sl.int_ {l : List Int} (h : Sl w lo hi tInt A n l) (hk : k < n) :
    ∃ b o x, A = some ⟨b, o, none⟩ ∧ lo ≤ b ∧ b < hi ∧ Hid (l[k]? = some x) ∧ okInt x ∧ w.cell? ⟨b, o + k, none⟩ = some (.int .i64 x) := by
  obtain ⟨b, o, x, h1, h2, h3, h4, h5, hc⟩ := h.at_ hk
  exact ⟨b, o, x, h1, h2, h3, h4, h5, by simpa [tInt] using hc 0 _ rfl⟩
theorem Sl.str_ {l : List ByteArray} (h : Sl w lo hi tStr A n l) (hk : k < n) :
    ∃ b o x, A = some ⟨b, o, none⟩ ∧ lo ≤ b ∧ b < hi ∧ Hid (l[k]? = some x) ∧ okStr x ∧ w.cell? ⟨b, o + k, none⟩ = some (.string x) := by
  obtain ⟨b, o, x, h1, h2, h3, h4, h5, hc⟩ := h.at_ hk
  exact ⟨b, o, x, h1, h2, h3, h4, h5, by simpa [tStr] using hc 0 _ rfl⟩
theorem Sl.nam_ {l : List Nam} (h : Sl w lo hi tNam A n l) (hk : k < n) :
    ∃ b o x, A = some ⟨b, o, none⟩ ∧ lo ≤ b ∧ b < hi ∧ Hid (l[k]? = some x) ∧ Nam.ok x ∧ w.cell? ⟨b, o + k * 2, none⟩ = some (.string x.last) ∧ w.cell? ⟨b, o + k * 2 + 1, none⟩ = some (.string x.first) := by
  obtain ⟨b, o, x, h1, h2, h3, h4, h5, hc⟩ := h.at_ hk
  exact ⟨b, o, x, h1, h2, h3, h4, h5, by simpa [tNam] using hc 0 _ rfl, by simpa [tNam] using hc 1 _ rfl⟩
theorem Sl.seg_ {l : List Seg} (h : Sl w lo hi tSeg A n l) (hk : k < n) :
    ∃ b o x, A = some ⟨b, o, none⟩ ∧ lo ≤ b ∧ b < hi ∧ Hid (l[k]? = some x) ∧ Seg.ok x ∧ w.cell? ⟨b, o + k * 5, none⟩ = some (.string x.car) ∧ w.cell? ⟨b, o + k * 5 + 1, none⟩ = some (.int .i64 x.num) ∧
      w.cell? ⟨b, o + k * 5 + 2, none⟩ = some (.int .i64 x.day) ∧ w.cell? ⟨b, o + k * 5 + 3, none⟩ = some (.int .u8 x.cls) ∧ w.cell? ⟨b, o + k * 5 + 4, none⟩ = some (.bool x.live) := by
  obtain ⟨b, o, x, h1, h2, h3, h4, h5, hc⟩ := h.at_ hk
  exact ⟨b, o, x, h1, h2, h3, h4, h5, by simpa [tSeg] using hc 0 _ rfl, by simpa [tSeg] using hc 1 _ rfl, by simpa [tSeg] using hc 2 _ rfl, by simpa [tSeg] using hc 3 _ rfl, by simpa [tSeg] using hc 4 _ rfl⟩
theorem Sl.plc_ {l : List Plc} (h : Sl w lo hi tPlc A n l) (hk : k < n) :
    ∃ b o x, A = some ⟨b, o, none⟩ ∧ lo ≤ b ∧ b < hi ∧ Hid (l[k]? = some x) ∧ Plc.ok x ∧ w.cell? ⟨b, o + k * 4, none⟩ = some (.int .i64 x.seg) ∧ w.cell? ⟨b, o + k * 4 + 1, none⟩ = some (.int .i64 x.pax) ∧
      w.cell? ⟨b, o + k * 4 + 2, none⟩ = some (.int .i64 x.row) ∧ w.cell? ⟨b, o + k * 4 + 3, none⟩ = some (.int .u8 x.let_) := by
  obtain ⟨b, o, x, h1, h2, h3, h4, h5, hc⟩ := h.at_ hk
  exact ⟨b, o, x, h1, h2, h3, h4, h5, by simpa [tPlc] using hc 0 _ rfl, by simpa [tPlc] using hc 1 _ rfl, by simpa [tPlc] using hc 2 _ rfl, by simpa [tPlc] using hc 3 _ rfl⟩
end

/-- A PNR's slices read so. -/
structure PAt (w : World) (lo hi : Nat) (p : Pnr) (h : Hd) : Prop where
  loc : okStr p.loc
  off : okStr p.off
  rc : okStr p.rc
  tik : p.tik.ok
  names : Sl w lo hi tNam h.an h.nn p.names
  segs : Sl w lo hi tSeg h.ag h.ng p.segs
  phones : Sl w lo hi tStr h.ap h.np p.phones
  remarks : Sl w lo hi tStr h.ar h.nr p.remarks
  seats : Sl w lo hi tPlc h.ae h.ne p.seats
structure Small (h : Hd) : Prop where
  nn : h.nn ≤ 100000
  ng : h.ng ≤ 100000
  np : h.np ≤ 100000
  nr : h.nr ≤ 100000
  ne : h.ne ≤ 100000
section
variable {w w' : World} {lo hi : Nat} {p : Pnr} {h : Hd}
theorem PAt.alloc (hp : PAt w lo hi p h) (hB : hi ≤ w.heap.size) (o : Obj) : PAt (w.alloc o) lo hi p h :=
  ⟨hp.loc, hp.off, hp.rc, hp.tik, hp.names.alloc hB o, hp.segs.alloc hB o, hp.phones.alloc hB o, hp.remarks.alloc hB o, hp.seats.alloc hB o⟩
theorem PAt.below {B : Nat} (hp : PAt w lo hi p h) (hb : Below B w w') (hB : hi ≤ B) : PAt w' lo hi p h :=
  ⟨hp.loc, hp.off, hp.rc, hp.tik, hp.names.below hb hB, hp.segs.below hb hB, hp.phones.below hb hB, hp.remarks.below hb hB, hp.seats.below hb hB⟩
theorem PAt.drew (hp : PAt w lo hi p h) : PAt w.drew lo hi p h :=
  ⟨hp.loc, hp.off, hp.rc, hp.tik, hp.names.drew, hp.segs.drew, hp.phones.drew, hp.remarks.drew, hp.seats.drew⟩
theorem PAt.drewN (hp : PAt w lo hi p h) (k : Nat) : PAt (w.drewN k) lo hi p h :=
  ⟨hp.loc, hp.off, hp.rc, hp.tik, hp.names.drewN k, hp.segs.drewN k, hp.phones.drewN k, hp.remarks.drewN k, hp.seats.drewN k⟩
theorem PAt.more {lo' hi' : Nat} (hp : PAt w lo hi p h) (h1 : lo' ≤ lo) (h2 : hi ≤ hi') : PAt w lo' hi' p h :=
  ⟨hp.loc, hp.off, hp.rc, hp.tik, hp.names.more h1 h2, hp.segs.more h1 h2, hp.phones.more h1 h2, hp.remarks.more h1 h2, hp.seats.more h1 h2⟩
end

/-- The cells of a PNR's box, kept. -/
theorem keep12 {W w1 : World} {b : Nat} {c0 c1 c2 c3 c4 c5 c6 c7 c8 c9 c10 c11 : Value} (hb : Below W.heap.size W w1) (hlt : b < W.heap.size)
    (h : W.cell? ⟨b, 0, none⟩ = some c0 ∧ W.cell? ⟨b, 1, none⟩ = some c1 ∧ W.cell? ⟨b, 2, none⟩ = some c2 ∧ W.cell? ⟨b, 3, none⟩ = some c3 ∧ W.cell? ⟨b, 4, none⟩ = some c4 ∧ W.cell? ⟨b, 5, none⟩ = some c5 ∧ W.cell? ⟨b, 6, none⟩ = some c6 ∧ W.cell? ⟨b, 7, none⟩ = some c7 ∧ W.cell? ⟨b, 8, none⟩ = some c8 ∧ W.cell? ⟨b, 9, none⟩ = some c9 ∧ W.cell? ⟨b, 10, none⟩ = some c10 ∧ W.cell? ⟨b, 11, none⟩ = some c11) :
    w1.cell? ⟨b, 0, none⟩ = some c0 ∧ w1.cell? ⟨b, 1, none⟩ = some c1 ∧ w1.cell? ⟨b, 2, none⟩ = some c2 ∧ w1.cell? ⟨b, 3, none⟩ = some c3 ∧ w1.cell? ⟨b, 4, none⟩ = some c4 ∧ w1.cell? ⟨b, 5, none⟩ = some c5 ∧ w1.cell? ⟨b, 6, none⟩ = some c6 ∧ w1.cell? ⟨b, 7, none⟩ = some c7 ∧ w1.cell? ⟨b, 8, none⟩ = some c8 ∧ w1.cell? ⟨b, 9, none⟩ = some c9 ∧ w1.cell? ⟨b, 10, none⟩ = some c10 ∧ w1.cell? ⟨b, 11, none⟩ = some c11 := by
  obtain ⟨h0, h1, h2, h3, h4, h5, h6, h7, h8, h9, h10, h11⟩ := h
  exact ⟨(hb.cell hlt).trans h0, (hb.cell hlt).trans h1, (hb.cell hlt).trans h2, (hb.cell hlt).trans h3, (hb.cell hlt).trans h4, (hb.cell hlt).trans h5, (hb.cell hlt).trans h6, (hb.cell hlt).trans h7, (hb.cell hlt).trans h8, (hb.cell hlt).trans h9, (hb.cell hlt).trans h10, (hb.cell hlt).trans h11⟩

/-- The numbers of the live segments, from i + 1 on. -/
def liveF : Nat → List Seg → List Int
  | _, [] => []
  | i, s :: t => if s.live then ((i : Int) + 1) :: liveF (i + 1) t else liveF (i + 1) t
theorem liveF_append : ∀ (a b : List Seg) (i : Nat), liveF i (a ++ b) = liveF i a ++ liveF (i + a.length) b
  | [], b, i => by simp [liveF]
  | s :: t, b, i => by
    simp only [List.cons_append, liveF, List.length_cons]
    rw [liveF_append t b (i + 1), show i + 1 + t.length = i + (t.length + 1) by omega]
    split <;> rfl
theorem liveF_len : ∀ (a : List Seg) (i : Nat), (liveF i a).length ≤ a.length
  | [], _ => by simp [liveF]
  | s :: t, i => by
    have := liveF_len t (i + 1)
    simp only [liveF, List.length_cons]
    split
    · simp only [List.length_cons]; omega
    · omega
theorem take_succ_of {α : Type} {l : List α} {k : Nat} {x : α} (h : l[k]? = some x) : l.take (k + 1) = l.take k ++ [x] := by
  rw [List.take_add_one, h]; rfl
theorem lt_of_get {α : Type} {l : List α} {k : Nat} {x : α} (h : l[k]? = some x) : k < l.length := (List.getElem?_eq_some_iff.1 h).1
theorem liveF_yes {l : List Seg} {k : Nat} {x : Seg} (h : l[k]? = some x) (hl : x.live = true) : liveF 0 (l.take (k + 1)) = liveF 0 (l.take k) ++ [(k : Int) + 1] := by
  have := lt_of_get h
  rw [take_succ_of h, liveF_append]
  simp [liveF, hl, List.length_take, Nat.min_eq_left (Nat.le_of_lt this)]
theorem liveF_no {l : List Seg} {k : Nat} {x : Seg} (h : l[k]? = some x) (hl : x.live = false) : liveF 0 (l.take (k + 1)) = liveF 0 (l.take k) := by
  rw [take_succ_of h, liveF_append]
  simp [liveF, hl]
end Go.Proofs.YtpgeoahlhdifoaaGreatDoor
namespace Go.Proofs.YtpgeoahlhdifoaaGreatDoor
set_option linter.unusedVariables false
open Go Go.RowKit
/-- A nil slice has no room. -/
structure Caps (h : Hd) : Prop where
  an : h.an = none → h.cn = 0
  ag : h.ag = none → h.cg = 0
  ap : h.ap = none → h.cp = 0
  ar : h.ar = none → h.cr = 0
  ae : h.ae = none → h.ce = 0
/-- A slice reads as a list; it lies in blocks of which S holds. -/
structure SlS {α : Type} (w : World) (S : Nat → Prop) (T : Ty α) (A : Option Addr) (n c : Nat) (l : List α) : Prop where
  len : l.length = n
  wf : ∀ x, x ∈ l → T.wf x
  nil : A = none → c = 0
  cells : 0 < n → ∃ b o, A = some ⟨b, o, none⟩ ∧ S b ∧ ∀ k x, l[k]? = some x → ∀ j u, (T.enc x)[j]? = some u → w.cell? ⟨b, o + k * T.sz + j, none⟩ = some u
section
variable {α : Type} {w w' : World} {S S' : Nat → Prop} {T : Ty α} {A : Option Addr} {n c : Nat} {l : List α} {lo hi : Nat}
theorem SlS.nil_ (w : World) (S : Nat → Prop) (T : Ty α) : SlS w S T none 0 0 [] := ⟨rfl, (fun _ h => absurd h List.not_mem_nil), fun _ => rfl, fun h => absurd h (by omega)⟩
theorem SlS.sl (h : SlS w S T A n c l) (hS : ∀ b, S b → lo ≤ b ∧ b < hi) : Sl w lo hi T A n l :=
  ⟨h.len, h.wf, fun hn => by
    obtain ⟨b, o, e, h1, h2⟩ := h.cells hn
    exact ⟨b, o, e, (hS b h1).1, (hS b h1).2, h2⟩⟩
theorem Sl.sls (h : Sl w lo hi T A n l) (hc : A = none → c = 0) : SlS w (fun b => lo ≤ b ∧ b < hi) T A n c l :=
  ⟨h.len, h.wf, hc, fun hn => by
    obtain ⟨b, o, e, h1, h2, h3⟩ := h.cells hn
    exact ⟨b, o, e, ⟨h1, h2⟩, h3⟩⟩
theorem SlS.mono (h : SlS w S T A n c l) (hS : ∀ b, S b → S' b) : SlS w S' T A n c l :=
  ⟨h.len, h.wf, h.nil, fun hn => by
    obtain ⟨b, o, e, h1, h2⟩ := h.cells hn
    exact ⟨b, o, e, hS b h1, h2⟩⟩
theorem SlS.keep (h : SlS w S T A n c l) (hk : ∀ p : Addr, S p.block → w'.cell? p = w.cell? p) : SlS w' S T A n c l :=
  ⟨h.len, h.wf, h.nil, fun hn => by
    obtain ⟨b, o, e, h1, h2⟩ := h.cells hn
    exact ⟨b, o, e, h1, fun k x hx j u hu => (hk _ h1).trans (h2 k x hx j u hu)⟩⟩
theorem SlS.below {B : Nat} (h : SlS w S T A n c l) (hb : Below B w w') (hS : ∀ b, S b → b < B) : SlS w' S T A n c l := h.keep fun _ hp => hb.cell (hS _ hp)
theorem SlS.drewN (h : SlS w S T A n c l) (k : Nat) : SlS (w.drewN k) S T A n c l := ⟨h.len, h.wf, h.nil, h.cells⟩
end
/-- A PNR's slices read so. -/
structure PS (w : World) (S : Nat → Prop) (p : Pnr) (h : Hd) : Prop where
  loc : okStr p.loc
  off : okStr p.off
  rc : okStr p.rc
  tik : p.tik.ok
  names : SlS w S tNam h.an h.nn h.cn p.names
  segs : SlS w S tSeg h.ag h.ng h.cg p.segs
  phones : SlS w S tStr h.ap h.np h.cp p.phones
  remarks : SlS w S tStr h.ar h.nr h.cr p.remarks
  seats : SlS w S tPlc h.ae h.ne h.ce p.seats
section
variable {w w' : World} {S S' : Nat → Prop} {p : Pnr} {h : Hd} {lo hi : Nat}
theorem PAt.ps (hp : PAt w lo hi p h) (hc : Caps h) : PS w (fun b => lo ≤ b ∧ b < hi) p h :=
  ⟨hp.loc, hp.off, hp.rc, hp.tik, hp.names.sls hc.an, hp.segs.sls hc.ag, hp.phones.sls hc.ap, hp.remarks.sls hc.ar, hp.seats.sls hc.ae⟩
theorem PS.at (hp : PS w S p h) (hS : ∀ b, S b → lo ≤ b ∧ b < hi) : PAt w lo hi p h :=
  ⟨hp.loc, hp.off, hp.rc, hp.tik, hp.names.sl hS, hp.segs.sl hS, hp.phones.sl hS, hp.remarks.sl hS, hp.seats.sl hS⟩
theorem PS.caps (hp : PS w S p h) : Caps h := ⟨hp.names.nil, hp.segs.nil, hp.phones.nil, hp.remarks.nil, hp.seats.nil⟩
theorem PS.mono (hp : PS w S p h) (hS : ∀ b, S b → S' b) : PS w S' p h :=
  ⟨hp.loc, hp.off, hp.rc, hp.tik, hp.names.mono hS, hp.segs.mono hS, hp.phones.mono hS, hp.remarks.mono hS, hp.seats.mono hS⟩
theorem PS.keep (hp : PS w S p h) (hk : ∀ q : Addr, S q.block → w'.cell? q = w.cell? q) : PS w' S p h :=
  ⟨hp.loc, hp.off, hp.rc, hp.tik, hp.names.keep hk, hp.segs.keep hk, hp.phones.keep hk, hp.remarks.keep hk, hp.seats.keep hk⟩
theorem PS.below {B : Nat} (hp : PS w S p h) (hb : Below B w w') (hS : ∀ b, S b → b < B) : PS w' S p h := hp.keep fun _ hq => hb.cell (hS _ hq)
theorem PS.drewN (hp : PS w S p h) (k : Nat) : PS (w.drewN k) S p h := hp.keep fun _ _ => rfl
/-- A PNR in old memory. -/
theorem PS.old (hp : PS w S p h) (hS : ∀ b, S b → b < w.heap.size) : PAt w 0 w.heap.size p h := hp.at fun b hb => ⟨Nat.zero_le _, hS b hb⟩
end
/-- How long a PNR's lists are at most. -/
structure Pnr.small (p : Pnr) (N : Nat) : Prop where
  names : p.names.length ≤ N
  segs : p.segs.length ≤ N
  phones : p.phones.length ≤ N
  remarks : p.remarks.length ≤ N
  seats : p.seats.length ≤ N
theorem Pnr.small.mono {p : Pnr} {N M : Nat} (h : p.small N) (hM : N ≤ M) : p.small M := ⟨by have := h.names; omega, by have := h.segs; omega, by have := h.phones; omega, by have := h.remarks; omega, by have := h.seats; omega⟩
theorem Pnr.small.hd {w : World} {lo hi : Nat} {p : Pnr} {h : Hd} (hs : p.small 100000) (hp : PAt w lo hi p h) : Small h :=
  ⟨by have := hs.names; have := hp.names.len; omega, by have := hs.segs; have := hp.segs.len; omega, by have := hs.phones; have := hp.phones.len; omega, by have := hs.remarks; have := hp.remarks.len; omega, by have := hs.seats; have := hp.seats.len; omega⟩
def Edit.ok (e : Edit) : Prop := okInt e.kind ∧ e.nam.ok ∧ e.seg.ok ∧ e.tik.ok ∧ okStr e.text ∧ okInt e.n ∧ okInt e.pax ∧ okInt e.row ∧ okByte e.let_
end Go.Proofs.YtpgeoahlhdifoaaGreatDoor
