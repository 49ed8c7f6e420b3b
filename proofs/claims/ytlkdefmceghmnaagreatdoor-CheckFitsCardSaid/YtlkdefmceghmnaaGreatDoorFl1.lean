/- Flights: the plain data, how each lies in cells, and lists of them in memory. -/
import Derived.Test.YtlkdefmceghmnaaGreatDoorGen
import Derived.Test.YtlkdefmceghmnaaGreatDoorOrdL
namespace Go.Proofs.YtlkdefmceghmnaaGreatDoor
set_option linter.unusedVariables false
open Go Go.RowKit
/-- A class: its letter, and how many seats may be sold. -/
structure Cls where
  let_ : Int
  lev : Int
instance : DecidableEq Cls := fun a b => decidable_of_iff (a.let_ = b.let_ ∧ a.lev = b.lev) (by cases a; cases b; simp)
def Cls.ok (x : Cls) : Prop := okByte x.let_ ∧ okInt x.lev
def tCls : Ty Cls := ⟨fun x => [.int .u8 x.let_, .int .i64 x.lev], 2, Cls.ok, fun _ => rfl, fun x u h => by simp at h; rcases h with h | h <;> subst h <;> rfl, by omega⟩
structure Key where
  car : ByteArray
  num : Int
instance : DecidableEq Key := fun a b => decidable_of_iff (a.car = b.car ∧ a.num = b.num) (by cases a; cases b; simp)
def Key.ok (k : Key) : Prop := okStr k.car ∧ okInt k.num
structure Flt where
  car : ByteArray
  num : Int
  frm : ByteArray
  to_ : ByteArray
  days : Int
  dep : Int
  arr : Int
  cls : List Cls
  pln : Int
def Flt.key (f : Flt) : Key := ⟨f.car, f.num⟩
instance : DecidableEq Flt := fun a b => decidable_of_iff (a.car = b.car ∧ a.num = b.num ∧ a.frm = b.frm ∧ a.to_ = b.to_ ∧ a.days = b.days ∧ a.dep = b.dep ∧ a.arr = b.arr ∧ a.cls = b.cls ∧ a.pln = b.pln) (by cases a; cases b; simp)
structure Flt.ok (f : Flt) : Prop where
  car : okStr f.car
  num : okInt f.num
  frm : okStr f.frm
  to_ : okStr f.to_
  days : okByte f.days
  dep : okInt f.dep
  arr : okInt f.arr
  pln : okInt f.pln
/-- A flight, and the head of its classes' slice. -/
structure FlR where
  f : Flt
  A : Option Addr
  n : Nat
  c : Nat
instance : Inhabited Flt := ⟨⟨⟨#[]⟩, 0, ⟨#[]⟩, ⟨#[]⟩, 0, 0, 0, [], 0⟩⟩
instance : Inhabited FlR := ⟨⟨default, none, 0, 0⟩⟩
structure FlR.ok (r : FlR) : Prop where
  f : r.f.ok
  len : r.f.cls.length = r.n
  nil : r.A = none → r.c = 0
  cap : r.n ≤ r.c
def tFl : Ty FlR := ⟨fun r => [.string r.f.car, .int .i64 r.f.num, .string r.f.frm, .string r.f.to_, .int .u8 r.f.days, .int .i64 r.f.dep, .int .i64 r.f.arr, .slice r.A r.n r.c, .int .i64 r.f.pln], 9, FlR.ok, fun _ => rfl, fun x u h => by simp at h; rcases h with h | h | h | h | h | h | h | h | h <;> subst h <;> rfl, by omega⟩
/-- The classes of a row lie in blocks from lo on, below hi. -/
def ClAt (w : World) (lo hi : Nat) (r : FlR) : Prop := Sl w lo hi tCls r.A r.n r.f.cls
/-- .. in a row of their own, from B on. -/
def ClOwn (w : World) (E : TypeId) (B : Nat) (r : FlR) : Prop := Own w B E tCls (.slice r.A r.n r.c) r.f.cls
/-- A slice of flights. -/
structure FlS (w : World) (lo hi : Nat) (A : Option Addr) (n : Nat) (rl : List FlR) : Prop where
  sl : Sl w lo hi tFl A n rl
  cl : ∀ r ∈ rl, ClAt w lo hi r
/-- The block in which the classes of a row lie. -/
def FlR.blk (r : FlR) : Option Nat := (Value.slice r.A r.n r.c).ownBlock
/-- No two rows have their classes in one block. -/
def Apt (rl : List FlR) : Prop := rl.Pairwise fun r s => ∀ k, r.blk = some k → s.blk ≠ some k
section
variable {w w' : World} {lo hi B n : Nat} {A : Option Addr} {rl : List FlR} {E : TypeId}
theorem ClAt.keep {r : FlR} (h : ClAt w lo hi r) (hk : ∀ p : Addr, lo ≤ p.block → p.block < hi → w'.cell? p = w.cell? p) : ClAt w' lo hi r := Sl.keep h hk
theorem ClAt.below {r : FlR} (h : ClAt w lo hi r) (hb : Below B w w') (hB : hi ≤ B) : ClAt w' lo hi r := Sl.below h hb hB
theorem ClAt.more {r : FlR} {lo' hi' : Nat} (h : ClAt w lo hi r) (h1 : lo' ≤ lo) (h2 : hi ≤ hi') : ClAt w lo' hi' r := Sl.more h h1 h2
theorem ClOwn.at_ {r : FlR} (h : ClOwn w E B r) : ClAt w B w.heap.size r := Own.sl h
theorem FlS.keep (h : FlS w lo hi A n rl) (hk : ∀ p : Addr, lo ≤ p.block → p.block < hi → w'.cell? p = w.cell? p) : FlS w' lo hi A n rl := ⟨h.sl.keep hk, fun r hr => (h.cl r hr).keep hk⟩
theorem FlS.below (h : FlS w lo hi A n rl) (hb : Below B w w') (hB : hi ≤ B) : FlS w' lo hi A n rl := h.keep fun _ _ hp => hb.cell (by omega)
theorem FlS.more {lo' hi' : Nat} (h : FlS w lo hi A n rl) (h1 : lo' ≤ lo) (h2 : hi ≤ hi') : FlS w lo' hi' A n rl := ⟨h.sl.more h1 h2, fun r hr => (h.cl r hr).more h1 h2⟩
theorem FlS.alloc (h : FlS w lo hi A n rl) (hB : hi ≤ w.heap.size) (o : Obj) : FlS (w.alloc o) lo hi A n rl := h.keep fun p _ hp => World.cell?_alloc_lt w o p (by omega)
theorem FlS.drewN (h : FlS w lo hi A n rl) (k : Nat) : FlS (w.drewN k) lo hi A n rl := ⟨⟨h.sl.len, h.sl.wf, h.sl.cells⟩, fun r hr => ⟨(h.cl r hr).len, (h.cl r hr).wf, (h.cl r hr).cells⟩⟩
theorem FlS.drew (h : FlS w lo hi A n rl) : FlS w.drew lo hi A n rl := h.drewN 1
/-- The row at a place. -/
theorem FlS.at_ {k : Nat} (h : FlS w lo hi A n rl) (hk : k < n) :
    ∃ b o r, A = some ⟨b, o, none⟩ ∧ lo ≤ b ∧ b < hi ∧ Hid (rl[k]? = some r) ∧ r.ok ∧ ClAt w lo hi r ∧
      w.cell? ⟨b, o + k * 9, none⟩ = some (.string r.f.car) ∧ w.cell? ⟨b, o + k * 9 + 1, none⟩ = some (.int .i64 r.f.num) ∧ w.cell? ⟨b, o + k * 9 + 2, none⟩ = some (.string r.f.frm) ∧ w.cell? ⟨b, o + k * 9 + 3, none⟩ = some (.string r.f.to_) ∧ w.cell? ⟨b, o + k * 9 + 4, none⟩ = some (.int .u8 r.f.days) ∧ w.cell? ⟨b, o + k * 9 + 5, none⟩ = some (.int .i64 r.f.dep) ∧ w.cell? ⟨b, o + k * 9 + 6, none⟩ = some (.int .i64 r.f.arr) ∧ w.cell? ⟨b, o + k * 9 + 7, none⟩ = some (.slice r.A r.n r.c) ∧ w.cell? ⟨b, o + k * 9 + 8, none⟩ = some (.int .i64 r.f.pln) := by
  obtain ⟨b, o, r, h1, h2, h3, h4, h5, hc⟩ := h.sl.at_ hk
  exact ⟨b, o, r, h1, h2, h3, h4, h5, h.cl r (List.mem_of_getElem? h4.out), by simpa [tFl] using hc 0 _ rfl, hc 1 _ rfl, hc 2 _ rfl, hc 3 _ rfl, hc 4 _ rfl, hc 5 _ rfl, hc 6 _ rfl, hc 7 _ rfl, hc 8 _ rfl⟩
theorem Sl.cls_ {k : Nat} {l : List Cls} (h : Sl w lo hi tCls A n l) (hk : k < n) :
    ∃ b o x, A = some ⟨b, o, none⟩ ∧ lo ≤ b ∧ b < hi ∧ Hid (l[k]? = some x) ∧ x.ok ∧ w.cell? ⟨b, o + k * 2, none⟩ = some (.int .u8 x.let_) ∧ w.cell? ⟨b, o + k * 2 + 1, none⟩ = some (.int .i64 x.lev) := by
  obtain ⟨b, o, x, h1, h2, h3, h4, h5, hc⟩ := h.at_ hk
  exact ⟨b, o, x, h1, h2, h3, h4, h5, by simpa [tCls] using hc 0 _ rfl, hc 1 _ rfl⟩
end
/-- Flights that a call hands back: the list and all classes lie in new blocks, each row's in one of its own. -/
structure OwnF (w : World) (EF EC : TypeId) (B : Nat) (v : Value) (rl : List FlR) : Prop where
  own : Own w B EF tFl v rl
  cl : ∀ r ∈ rl, ClOwn w EC B r
  apt : Apt rl
  off : ∀ r ∈ rl, ∀ k, v.ownBlock = some k → r.blk ≠ some k
section
variable {w w' : World} {EF EC : TypeId} {B : Nat} {v : Value} {rl : List FlR}
theorem OwnF.nil_ (w : World) (EF EC : TypeId) (B : Nat) : OwnF w EF EC B (.slice none 0 0) [] := ⟨Own.nil_ _ _ _ _, by simp, List.Pairwise.nil, by simp⟩
theorem OwnF.keep (h : OwnF w EF EC B v rl) (hb : Below w.heap.size w w') : OwnF w' EF EC B v rl := ⟨h.own.keep hb, fun r hr => Own.keep (h.cl r hr) hb, h.apt, h.off⟩
theorem OwnF.more {B' : Nat} (h : OwnF w EF EC B v rl) (hB : B' ≤ B) : OwnF w EF EC B' v rl := ⟨h.own.more hB, fun r hr => Own.more (h.cl r hr) hB, h.apt, h.off⟩
theorem OwnF.drewN (h : OwnF w EF EC B v rl) (k : Nat) : OwnF (w.drewN k) EF EC B v rl := ⟨h.own.drewN k, fun r hr => Own.drewN (h.cl r hr) k, h.apt, h.off⟩
theorem OwnF.sl {A : Option Addr} {n c : Nat} (h : OwnF w EF EC B (.slice A n c) rl) : FlS w B w.heap.size A n rl := ⟨h.own.sl, fun r hr => (h.cl r hr).at_⟩
end
/-- The order of flights: by carrier, then by number; by time, then so. -/
def ltF : Flt → Flt → Bool := ltY (·.car) (ltX (·.num) ltNo)
def ltT : Flt → Flt → Bool := ltX (·.dep) ltF
theorem lts_f : Lts ltF := lts_y (lts_x lts_no _) _
theorem lts_t : Lts ltT := lts_x lts_f _
theorem ltF_iff (a b : Flt) : ltF a b = true ↔ ltS a.car b.car = true ∨ (a.car = b.car ∧ a.num < b.num) := by
  unfold ltF
  rw [ltY_iff, ltX_iff]
  simp [ltNo]
theorem ltF_eq {a b : Flt} (h1 : ltF a b = false) (h2 : ltF b a = false) : a.key = b.key := by
  unfold ltF at h1 h2
  rw [ltY_no] at h1 h2
  rcases h1 with h1 | ⟨h1, g1⟩
  · rcases h2 with h2 | ⟨h2, _⟩
    · rw [ltS_asym h1] at h2; cases h2
    · rw [h2, ltS_irr] at h1; cases h1
  · rcases h2 with h2 | ⟨h2, g2⟩
    · rw [h1, ltS_irr] at h2; cases h2
    · rw [ltX_no] at g1 g2
      have h3 : a.num = b.num := by rcases g1 with g | g <;> rcases g2 with g' | g' <;> omega
      unfold Flt.key
      rw [h1, h3]
theorem ltF_key {a b : Flt} (h : a.key = b.key) : ltF a b = false := by
  unfold Flt.key at h
  injection h with h1 h2
  rw [← Bool.not_eq_true, ltF_iff, h1, h2, ltS_irr]
  simp
theorem ltF_or {a b : Flt} (h : a.key ≠ b.key) : ltF a b = true ∨ ltF b a = true := by
  cases h1 : ltF a b with
  | true => exact .inl rfl
  | false =>
    cases h2 : ltF b a with
    | true => exact .inr rfl
    | false => exact absurd (ltF_eq h1 h2) h
theorem ltT_or {a b : Flt} (h : a.key ≠ b.key) : ltT a b = true ∨ ltT b a = true := by
  unfold ltT
  simp only [ltX_iff]
  rcases Int.lt_trichotomy a.dep b.dep with h1 | h1 | h1
  · exact .inl (.inl h1)
  · rcases ltF_or h with h2 | h2
    · exact .inl (.inr ⟨h1, h2⟩)
    · exact .inr (.inr ⟨h1.symm, h2⟩)
  · exact .inr (.inl h1)
end Go.Proofs.YtlkdefmceghmnaaGreatDoor
