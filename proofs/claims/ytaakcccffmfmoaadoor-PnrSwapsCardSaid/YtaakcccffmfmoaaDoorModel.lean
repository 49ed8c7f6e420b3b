/- The plain data of the program (names, segments, PNRs, edits), how each lies in cells, and what the live segments are. -/
import Derived.Test.YtaakcccffmfmoaaDoorLib
namespace Go.Proofs.YtaakcccffmfmoaaDoor
set_option linter.unusedVariables false
open Go Go.RowKit

def okStr (s : ByteArray) : Prop := s.size ≤ 9223372036854775807
def okInt (n : Int) : Prop := -9223372036854775808 ≤ n ∧ n ≤ 9223372036854775807
def okByte (n : Int) : Prop := 0 ≤ n ∧ n ≤ 255

structure Nam where
  last : ByteArray
  first : ByteArray
structure Seg where
  car : ByteArray
  num : Int
  day : Int
  cls : Int
  live : Bool
structure Plc where
  seg : Int
  pax : Int
  row : Int
  let_ : Int
structure Tik where
  kind : Int
  day : Int
  min : Int

structure Pnr where
  loc : ByteArray
  off : ByteArray
  names : List Nam
  segs : List Seg
  phones : List ByteArray
  tik : Tik
  rc : ByteArray
  remarks : List ByteArray
  seats : List Plc
  queued : Bool
structure Edit where
  kind : Int
  nam : Nam
  seg : Seg
  tik : Tik
  text : ByteArray
  n : Int
  pax : Int
  row : Int
  let_ : Int
/-- The heads of a PNR's five slices. -/
structure Hd where
  an : Option Addr
  nn : Nat
  cn : Nat
  ag : Option Addr
  ng : Nat
  cg : Nat
  ap : Option Addr
  np : Nat
  cp : Nat
  ar : Option Addr
  nr : Nat
  cr : Nat
  ae : Option Addr
  ne : Nat
  ce : Nat

def Tik.ok (t : Tik) : Prop := okInt t.kind ∧ okInt t.day ∧ okInt t.min
def Seg.ok (s : Seg) : Prop := okStr s.car ∧ okInt s.num ∧ okInt s.day ∧ okByte s.cls
def Nam.ok (s : Nam) : Prop := okStr s.last ∧ okStr s.first
def Plc.ok (s : Plc) : Prop := okInt s.seg ∧ okInt s.pax ∧ okInt s.row ∧ okByte s.let_

def tInt : Ty Int := ⟨fun x => [.int .i64 x], 1, okInt, fun _ => rfl, fun x u h => by simp at h; subst h; rfl, by omega⟩
def tStr : Ty ByteArray := ⟨fun x => [.string x], 1, okStr, fun _ => rfl, fun x u h => by simp at h; subst h; rfl, by omega⟩
def tSeg : Ty Seg := ⟨fun x => [.string x.car, .int .i64 x.num, .int .i64 x.day, .int .u8 x.cls, .bool x.live], 5, Seg.ok, fun _ => rfl, fun x u h => by simp at h; rcases h with h | h | h | h | h <;> subst h <;> rfl, by omega⟩
def tNam : Ty Nam := ⟨fun x => [.string x.last, .string x.first], 2, Nam.ok, fun _ => rfl, fun x u h => by simp at h; rcases h with h | h <;> subst h <;> rfl, by omega⟩
def tPlc : Ty Plc := ⟨fun x => [.int .i64 x.seg, .int .i64 x.pax, .int .i64 x.row, .int .u8 x.let_], 4, Plc.ok, fun _ => rfl, fun x u h => by simp at h; rcases h with h | h | h | h <;> subst h <;> rfl, by omega⟩

section
variable {w : World} {lo hi n : Nat} {A : Option Addr} {k : Nat}
theorem Sl.int_ {l : List Int} (h : Sl w lo hi tInt A n l) (hk : k < n) :
    ∃ b o x, A = some ⟨b, o, none⟩ ∧ lo ≤ b ∧ b < hi ∧ Hid (l[k]? = some x) ∧ okInt x ∧ w.cell? ⟨b, o + k, none⟩ = some (.int .i64 x) := by
  obtain ⟨b, o, x, h1, h2, h3, h4, h5, hc⟩ := h.at_ hk
  exact ⟨b, o, x, h1, h2, h3, h4, h5, by simpa [tInt] using hc 0 _ rfl⟩
theorem Sl.str_ {l : List ByteArray} (h : Sl w lo hi tStr A n l) (hk : k < n) :
    ∃ b o x, A = some ⟨b, o, none⟩ ∧ lo ≤ b ∧ b < hi ∧ Hid (l[k]? = some x) ∧ okStr x ∧ w.cell? ⟨b, o + k, none⟩ = some (.string x) := by
  obtain ⟨b, o, x, h1, h2, h3, h4, h5, hc⟩ := h.at_ hk
  exact ⟨b, o, x, h1, h2, h3, h4, h5, by simpa [tStr] using hc 0 _ rfl⟩
theorem Sl.nam_ {l : List Nam} (h : Sl w lo hi tNam A n l) (hk : k < n) :
    ∃ b o x, A = some ⟨b, o, none⟩ ∧ lo ≤ b ∧ b < hi ∧ Hid (l[k]? = some x) ∧ Nam.ok x ∧ w.cell? ⟨b, o + k * 2, none⟩ = some (.string x.last) ∧ w.cell? ⟨b, o + k * 2 + 1, none⟩ = some (.string x.first) := by
  obtain ⟨b, o, x, h1, h2, h3, h4, h5, hc⟩ := h.at_ hk
  exact ⟨b, o, x, h1, h2, h3, h4, h5, by simpa [tNam] using hc 0 _ rfl, by simpa [tNam] using hc 1 _ rfl⟩
theorem Sl.seg_ {l : List Seg} (h : Sl w lo hi tSeg A n l) (hk : k < n) :
    ∃ b o x, A = some ⟨b, o, none⟩ ∧ lo ≤ b ∧ b < hi ∧ Hid (l[k]? = some x) ∧ Seg.ok x ∧ w.cell? ⟨b, o + k * 5, none⟩ = some (.string x.car) ∧ w.cell? ⟨b, o + k * 5 + 1, none⟩ = some (.int .i64 x.num) ∧
      w.cell? ⟨b, o + k * 5 + 2, none⟩ = some (.int .i64 x.day) ∧ w.cell? ⟨b, o + k * 5 + 3, none⟩ = some (.int .u8 x.cls) ∧ w.cell? ⟨b, o + k * 5 + 4, none⟩ = some (.bool x.live) := by
  obtain ⟨b, o, x, h1, h2, h3, h4, h5, hc⟩ := h.at_ hk
  exact ⟨b, o, x, h1, h2, h3, h4, h5, by simpa [tSeg] using hc 0 _ rfl, by simpa [tSeg] using hc 1 _ rfl, by simpa [tSeg] using hc 2 _ rfl, by simpa [tSeg] using hc 3 _ rfl, by simpa [tSeg] using hc 4 _ rfl⟩
theorem Sl.plc_ {l : List Plc} (h : Sl w lo hi tPlc A n l) (hk : k < n) :
    ∃ b o x, A = some ⟨b, o, none⟩ ∧ lo ≤ b ∧ b < hi ∧ Hid (l[k]? = some x) ∧ Plc.ok x ∧ w.cell? ⟨b, o + k * 4, none⟩ = some (.int .i64 x.seg) ∧ w.cell? ⟨b, o + k * 4 + 1, none⟩ = some (.int .i64 x.pax) ∧
      w.cell? ⟨b, o + k * 4 + 2, none⟩ = some (.int .i64 x.row) ∧ w.cell? ⟨b, o + k * 4 + 3, none⟩ = some (.int .u8 x.let_) := by
  obtain ⟨b, o, x, h1, h2, h3, h4, h5, hc⟩ := h.at_ hk
  exact ⟨b, o, x, h1, h2, h3, h4, h5, by simpa [tPlc] using hc 0 _ rfl, by simpa [tPlc] using hc 1 _ rfl, by simpa [tPlc] using hc 2 _ rfl, by simpa [tPlc] using hc 3 _ rfl⟩
end

/-- A PNR's slices read so. -/
structure PAt (w : World) (lo hi : Nat) (p : Pnr) (h : Hd) : Prop where
  loc : okStr p.loc
  off : okStr p.off
  rc : okStr p.rc
  tik : p.tik.ok
  names : Sl w lo hi tNam h.an h.nn p.names
  segs : Sl w lo hi tSeg h.ag h.ng p.segs
  phones : Sl w lo hi tStr h.ap h.np p.phones
  remarks : Sl w lo hi tStr h.ar h.nr p.remarks
  seats : Sl w lo hi tPlc h.ae h.ne p.seats
structure Small (h : Hd) : Prop where
  nn : h.nn ≤ 100000
  ng : h.ng ≤ 100000
  np : h.np ≤ 100000
  nr : h.nr ≤ 100000
  ne : h.ne ≤ 100000
section
variable {w w' : World} {lo hi : Nat} {p : Pnr} {h : Hd}
theorem PAt.alloc (hp : PAt w lo hi p h) (hB : hi ≤ w.heap.size) (o : Obj) : PAt (w.alloc o) lo hi p h :=
  ⟨hp.loc, hp.off, hp.rc, hp.tik, hp.names.alloc hB o, hp.segs.alloc hB o, hp.phones.alloc hB o, hp.remarks.alloc hB o, hp.seats.alloc hB o⟩
theorem PAt.below {B : Nat} (hp : PAt w lo hi p h) (hb : Below B w w') (hB : hi ≤ B) : PAt w' lo hi p h :=
  ⟨hp.loc, hp.off, hp.rc, hp.tik, hp.names.below hb hB, hp.segs.below hb hB, hp.phones.below hb hB, hp.remarks.below hb hB, hp.seats.below hb hB⟩
theorem PAt.drew (hp : PAt w lo hi p h) : PAt w.drew lo hi p h :=
  ⟨hp.loc, hp.off, hp.rc, hp.tik, hp.names.drew, hp.segs.drew, hp.phones.drew, hp.remarks.drew, hp.seats.drew⟩
theorem PAt.drewN (hp : PAt w lo hi p h) (k : Nat) : PAt (w.drewN k) lo hi p h :=
  ⟨hp.loc, hp.off, hp.rc, hp.tik, hp.names.drewN k, hp.segs.drewN k, hp.phones.drewN k, hp.remarks.drewN k, hp.seats.drewN k⟩
theorem PAt.more {lo' hi' : Nat} (hp : PAt w lo hi p h) (h1 : lo' ≤ lo) (h2 : hi ≤ hi') : PAt w lo' hi' p h :=
  ⟨hp.loc, hp.off, hp.rc, hp.tik, hp.names.more h1 h2, hp.segs.more h1 h2, hp.phones.more h1 h2, hp.remarks.more h1 h2, hp.seats.more h1 h2⟩
end

/-- The cells of a PNR's box, kept. -/
theorem keep12 {W w1 : World} {b : Nat} {c0 c1 c2 c3 c4 c5 c6 c7 c8 c9 c10 c11 : Value} (hb : Below W.heap.size W w1) (hlt : b < W.heap.size)
    (h : W.cell? ⟨b, 0, none⟩ = some c0 ∧ W.cell? ⟨b, 1, none⟩ = some c1 ∧ W.cell? ⟨b, 2, none⟩ = some c2 ∧ W.cell? ⟨b, 3, none⟩ = some c3 ∧ W.cell? ⟨b, 4, none⟩ = some c4 ∧ W.cell? ⟨b, 5, none⟩ = some c5 ∧ W.cell? ⟨b, 6, none⟩ = some c6 ∧ W.cell? ⟨b, 7, none⟩ = some c7 ∧ W.cell? ⟨b, 8, none⟩ = some c8 ∧ W.cell? ⟨b, 9, none⟩ = some c9 ∧ W.cell? ⟨b, 10, none⟩ = some c10 ∧ W.cell? ⟨b, 11, none⟩ = some c11) :
    w1.cell? ⟨b, 0, none⟩ = some c0 ∧ w1.cell? ⟨b, 1, none⟩ = some c1 ∧ w1.cell? ⟨b, 2, none⟩ = some c2 ∧ w1.cell? ⟨b, 3, none⟩ = some c3 ∧ w1.cell? ⟨b, 4, none⟩ = some c4 ∧ w1.cell? ⟨b, 5, none⟩ = some c5 ∧ w1.cell? ⟨b, 6, none⟩ = some c6 ∧ w1.cell? ⟨b, 7, none⟩ = some c7 ∧ w1.cell? ⟨b, 8, none⟩ = some c8 ∧ w1.cell? ⟨b, 9, none⟩ = some c9 ∧ w1.cell? ⟨b, 10, none⟩ = some c10 ∧ w1.cell? ⟨b, 11, none⟩ = some c11 := by
  obtain ⟨h0, h1, h2, h3, h4, h5, h6, h7, h8, h9, h10, h11⟩ := h
  exact ⟨(hb.cell hlt).trans h0, (hb.cell hlt).trans h1, (hb.cell hlt).trans h2, (hb.cell hlt).trans h3, (hb.cell hlt).trans h4, (hb.cell hlt).trans h5, (hb.cell hlt).trans h6, (hb.cell hlt).trans h7, (hb.cell hlt).trans h8, (hb.cell hlt).trans h9, (hb.cell hlt).trans h10, (hb.cell hlt).trans h11⟩

/-- The numbers of the live segments, from i + 1 on. -/
def liveF : Nat → List Seg → List Int
  | _, [] => []
  | i, s :: t => if s.live then ((i : Int) + 1) :: liveF (i + 1) t else liveF (i + 1) t
theorem liveF_append : ∀ (a b : List Seg) (i : Nat), liveF i (a ++ b) = liveF i a ++ liveF (i + a.length) b
  | [], b, i => by simp [liveF]
  | s :: t, b, i => by
    simp only [List.cons_append, liveF, List.length_cons]
    rw [liveF_append t b (i + 1), show i + 1 + t.length = i + (t.length + 1) by omega]
    split <;> rfl
theorem liveF_len : ∀ (a : List Seg) (i : Nat), (liveF i a).length ≤ a.length
  | [], _ => by simp [liveF]
  | s :: t, i => by
    have := liveF_len t (i + 1)
    simp only [liveF, List.length_cons]
    split
    · simp only [List.length_cons]; omega
    · omega
theorem take_succ_of {α : Type} {l : List α} {k : Nat} {x : α} (h : l[k]? = some x) : l.take (k + 1) = l.take k ++ [x] := by
  rw [List.take_add_one, h]; rfl
theorem lt_of_get {α : Type} {l : List α} {k : Nat} {x : α} (h : l[k]? = some x) : k < l.length := (List.getElem?_eq_some_iff.1 h).1
theorem liveF_yes {l : List Seg} {k : Nat} {x : Seg} (h : l[k]? = some x) (hl : x.live = true) : liveF 0 (l.take (k + 1)) = liveF 0 (l.take k) ++ [(k : Int) + 1] := by
  have := lt_of_get h
  rw [take_succ_of h, liveF_append]
  simp [liveF, hl, List.length_take, Nat.min_eq_left (Nat.le_of_lt this)]
theorem liveF_no {l : List Seg} {k : Nat} {x : Seg} (h : l[k]? = some x) (hl : x.live = false) : liveF 0 (l.take (k + 1)) = liveF 0 (l.take k) := by
  rw [take_succ_of h, liveF_append]
  simp [liveF, hl]
end Go.Proofs.YtaakcccffmfmoaaDoor
