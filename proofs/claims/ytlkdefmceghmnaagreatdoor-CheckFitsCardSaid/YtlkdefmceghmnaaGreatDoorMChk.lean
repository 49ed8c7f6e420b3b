/- Put together by program of: ModelF, Live, Lacks, Rlacks, Awake13, Awk13. -/
import Derived.Test.YtlkdefmceghmnaaGreatDoorGen
import Derived.Test.YtlkdefmceghmnaaGreatDoorRows
import Derived.Deep.RegionHeld3
import Derived.Deep.DrawnRows
import Derived.Deep.DeepCutAuto
import Derived.Deep.QuietTactic
import Derived.BigQuiet
namespace Go.Proofs.YtlkdefmceghmnaaGreatDoor
set_option linter.unusedVariables false
open Go Go.RowKit

structure Nam where
  last : ByteArray
  first : ByteArray
structure Seg where
  car : ByteArray
  num : Int
  day : Int
  cls : Int
  live : Bool
structure Plc where
  seg : Int
  pax : Int
  row : Int
  let_ : Int
structure Tik where
  kind : Int
  day : Int
  min : Int

structure Pnr where
  loc : ByteArray
  off : ByteArray
  names : List Nam
  segs : List Seg
  phones : List ByteArray
  tik : Tik
  rc : ByteArray
  remarks : List ByteArray
  seats : List Plc
  queued : Bool
structure Edit where
  kind : Int
  nam : Nam
  seg : Seg
  tik : Tik
  text : ByteArray
  n : Int
  pax : Int
  row : Int
  let_ : Int
/-- The heads of a PNR's five slices. -/
structure Hd where
  an : Option Addr
  nn : Nat
  cn : Nat
  ag : Option Addr
  ng : Nat
  cg : Nat
  ap : Option Addr
  np : Nat
  cp : Nat
  ar : Option Addr
  nr : Nat
  cr : Nat
  ae : Option Addr
  ne : Nat
  ce : Nat

def Tik.ok (t : Tik) : Prop := okInt t.kind ∧ okInt t.day ∧ okInt t.min
def Seg.ok (s : Seg) : Prop := okStr s.car ∧ okInt s.num ∧ okInt s.day ∧ okByte s.cls
def Nam.ok (s : Nam) : Prop := okStr s.last ∧ okStr s.first
def Plc.ok (s : Plc) : Prop := okInt s.seg ∧ okInt s.pax ∧ okInt s.row ∧ okByte s.let_

def tSeg : Ty Seg := ⟨fun x => [.string x.car, .int .i64 x.num, .int .i64 x.day, .int .u8 x.cls, .bool x.live], 5, Seg.ok, fun _ => rfl, fun x u h => by simp at h; rcases h with h | h | h | h | h <;> subst h <;> rfl, by omega⟩
def tNam : Ty Nam := ⟨fun x => [.string x.last, .string x.first], 2, Nam.ok, fun _ => rfl, fun x u h => by simp at h; rcases h with h | h <;> subst h <;> rfl, by omega⟩
def tPlc : Ty Plc := ⟨fun x => [.int .i64 x.seg, .int .i64 x.pax, .int .i64 x.row, .int .u8 x.let_], 4, Plc.ok, fun _ => rfl, fun x u h => by simp at h; rcases h with h | h | h | h <;> subst h <;> rfl, by omega⟩

section
variable {w : World} {lo hi n : Nat} {A : Option Addr} {k : Nat}
theorem Sl.nam_ {l : List Nam} (h : Sl w lo hi tNam A n l) (hk : k < n) :
    ∃ b o x, A = some ⟨b, o, none⟩ ∧ lo ≤ b ∧ b < hi ∧ Hid (l[k]? = some x) ∧ Nam.ok x ∧ w.cell? ⟨b, o + k * 2, none⟩ = some (.string x.last) ∧ w.cell? ⟨b, o + k * 2 + 1, none⟩ = some (.string x.first) := by
  obtain ⟨b, o, x, h1, h2, h3, h4, h5, hc⟩ := h.at_ hk
  exact ⟨b, o, x, h1, h2, h3, h4, h5, by simpa [tNam] using hc 0 _ rfl, by simpa [tNam] using hc 1 _ rfl⟩
theorem Sl.seg_ {l : List Seg} (h : Sl w lo hi tSeg A n l) (hk : k < n) :
    ∃ b o x, A = some ⟨b, o, none⟩ ∧ lo ≤ b ∧ b < hi ∧ Hid (l[k]? = some x) ∧ Seg.ok x ∧ w.cell? ⟨b, o + k * 5, none⟩ = some (.string x.car) ∧ w.cell? ⟨b, o + k * 5 + 1, none⟩ = some (.int .i64 x.num) ∧
      w.cell? ⟨b, o + k * 5 + 2, none⟩ = some (.int .i64 x.day) ∧ w.cell? ⟨b, o + k * 5 + 3, none⟩ = some (.int .u8 x.cls) ∧ w.cell? ⟨b, o + k * 5 + 4, none⟩ = some (.bool x.live) := by
  obtain ⟨b, o, x, h1, h2, h3, h4, h5, hc⟩ := h.at_ hk
  exact ⟨b, o, x, h1, h2, h3, h4, h5, by simpa [tSeg] using hc 0 _ rfl, by simpa [tSeg] using hc 1 _ rfl, by simpa [tSeg] using hc 2 _ rfl, by simpa [tSeg] using hc 3 _ rfl, by simpa [tSeg] using hc 4 _ rfl⟩
theorem Sl.plc_ {l : List Plc} (h : Sl w lo hi tPlc A n l) (hk : k < n) :
    ∃ b o x, A = some ⟨b, o, none⟩ ∧ lo ≤ b ∧ b < hi ∧ Hid (l[k]? = some x) ∧ Plc.ok x ∧ w.cell? ⟨b, o + k * 4, none⟩ = some (.int .i64 x.seg) ∧ w.cell? ⟨b, o + k * 4 + 1, none⟩ = some (.int .i64 x.pax) ∧
      w.cell? ⟨b, o + k * 4 + 2, none⟩ = some (.int .i64 x.row) ∧ w.cell? ⟨b, o + k * 4 + 3, none⟩ = some (.int .u8 x.let_) := by
  obtain ⟨b, o, x, h1, h2, h3, h4, h5, hc⟩ := h.at_ hk
  exact ⟨b, o, x, h1, h2, h3, h4, h5, by simpa [tPlc] using hc 0 _ rfl, by simpa [tPlc] using hc 1 _ rfl, by simpa [tPlc] using hc 2 _ rfl, by simpa [tPlc] using hc 3 _ rfl⟩
end

/-- A PNR's slices read so. -/
structure PAt (w : World) (lo hi : Nat) (p : Pnr) (h : Hd) : Prop where
  loc : okStr p.loc
  off : okStr p.off
  rc : okStr p.rc
  tik : p.tik.ok
  names : Sl w lo hi tNam h.an h.nn p.names
  segs : Sl w lo hi tSeg h.ag h.ng p.segs
  phones : Sl w lo hi tStr h.ap h.np p.phones
  remarks : Sl w lo hi tStr h.ar h.nr p.remarks
  seats : Sl w lo hi tPlc h.ae h.ne p.seats
structure Small (h : Hd) : Prop where
  nn : h.nn ≤ 100000
  ng : h.ng ≤ 100000
  np : h.np ≤ 100000
  nr : h.nr ≤ 100000
  ne : h.ne ≤ 100000
section
variable {w w' : World} {lo hi : Nat} {p : Pnr} {h : Hd}
theorem PAt.alloc (hp : PAt w lo hi p h) (hB : hi ≤ w.heap.size) (o : Obj) : PAt (w.alloc o) lo hi p h :=
  ⟨hp.loc, hp.off, hp.rc, hp.tik, hp.names.alloc hB o, hp.segs.alloc hB o, hp.phones.alloc hB o, hp.remarks.alloc hB o, hp.seats.alloc hB o⟩
theorem PAt.below {B : Nat} (hp : PAt w lo hi p h) (hb : Below B w w') (hB : hi ≤ B) : PAt w' lo hi p h :=
  ⟨hp.loc, hp.off, hp.rc, hp.tik, hp.names.below hb hB, hp.segs.below hb hB, hp.phones.below hb hB, hp.remarks.below hb hB, hp.seats.below hb hB⟩
theorem PAt.drew (hp : PAt w lo hi p h) : PAt w.drew lo hi p h :=
  ⟨hp.loc, hp.off, hp.rc, hp.tik, hp.names.drew, hp.segs.drew, hp.phones.drew, hp.remarks.drew, hp.seats.drew⟩
theorem PAt.drewN (hp : PAt w lo hi p h) (k : Nat) : PAt (w.drewN k) lo hi p h :=
  ⟨hp.loc, hp.off, hp.rc, hp.tik, hp.names.drewN k, hp.segs.drewN k, hp.phones.drewN k, hp.remarks.drewN k, hp.seats.drewN k⟩
theorem PAt.more {lo' hi' : Nat} (hp : PAt w lo hi p h) (h1 : lo' ≤ lo) (h2 : hi ≤ hi') : PAt w lo' hi' p h :=
  ⟨hp.loc, hp.off, hp.rc, hp.tik, hp.names.more h1 h2, hp.segs.more h1 h2, hp.phones.more h1 h2, hp.remarks.more h1 h2, hp.seats.more h1 h2⟩
end

/-- The cells of a PNR's box, kept. -/
theorem keep12 {W w1 : World} {b : Nat} {c0 c1 c2 c3 c4 c5 c6 c7 c8 c9 c10 c11 : Value} (hb : Below W.heap.size W w1) (hlt : b < W.heap.size)
    (h : W.cell? ⟨b, 0, none⟩ = some c0 ∧ W.cell? ⟨b, 1, none⟩ = some c1 ∧ W.cell? ⟨b, 2, none⟩ = some c2 ∧ W.cell? ⟨b, 3, none⟩ = some c3 ∧ W.cell? ⟨b, 4, none⟩ = some c4 ∧ W.cell? ⟨b, 5, none⟩ = some c5 ∧ W.cell? ⟨b, 6, none⟩ = some c6 ∧ W.cell? ⟨b, 7, none⟩ = some c7 ∧ W.cell? ⟨b, 8, none⟩ = some c8 ∧ W.cell? ⟨b, 9, none⟩ = some c9 ∧ W.cell? ⟨b, 10, none⟩ = some c10 ∧ W.cell? ⟨b, 11, none⟩ = some c11) :
    w1.cell? ⟨b, 0, none⟩ = some c0 ∧ w1.cell? ⟨b, 1, none⟩ = some c1 ∧ w1.cell? ⟨b, 2, none⟩ = some c2 ∧ w1.cell? ⟨b, 3, none⟩ = some c3 ∧ w1.cell? ⟨b, 4, none⟩ = some c4 ∧ w1.cell? ⟨b, 5, none⟩ = some c5 ∧ w1.cell? ⟨b, 6, none⟩ = some c6 ∧ w1.cell? ⟨b, 7, none⟩ = some c7 ∧ w1.cell? ⟨b, 8, none⟩ = some c8 ∧ w1.cell? ⟨b, 9, none⟩ = some c9 ∧ w1.cell? ⟨b, 10, none⟩ = some c10 ∧ w1.cell? ⟨b, 11, none⟩ = some c11 := by
  obtain ⟨h0, h1, h2, h3, h4, h5, h6, h7, h8, h9, h10, h11⟩ := h
  exact ⟨(hb.cell hlt).trans h0, (hb.cell hlt).trans h1, (hb.cell hlt).trans h2, (hb.cell hlt).trans h3, (hb.cell hlt).trans h4, (hb.cell hlt).trans h5, (hb.cell hlt).trans h6, (hb.cell hlt).trans h7, (hb.cell hlt).trans h8, (hb.cell hlt).trans h9, (hb.cell hlt).trans h10, (hb.cell hlt).trans h11⟩

/-- The numbers of the live segments, from i + 1 on. -/
def liveF : Nat → List Seg → List Int
  | _, [] => []
  | i, s :: t => if s.live then ((i : Int) + 1) :: liveF (i + 1) t else liveF (i + 1) t
theorem liveF_append : ∀ (a b : List Seg) (i : Nat), liveF i (a ++ b) = liveF i a ++ liveF (i + a.length) b
  | [], b, i => by simp [liveF]
  | s :: t, b, i => by
    simp only [List.cons_append, liveF, List.length_cons]
    rw [liveF_append t b (i + 1), show i + 1 + t.length = i + (t.length + 1) by omega]
    split <;> rfl
theorem liveF_len : ∀ (a : List Seg) (i : Nat), (liveF i a).length ≤ a.length
  | [], _ => by simp [liveF]
  | s :: t, i => by
    have := liveF_len t (i + 1)
    simp only [liveF, List.length_cons]
    split
    · simp only [List.length_cons]; omega
    · omega
theorem take_succ_of {α : Type} {l : List α} {k : Nat} {x : α} (h : l[k]? = some x) : l.take (k + 1) = l.take k ++ [x] := by
  rw [List.take_add_one, h]; rfl
theorem lt_of_get {α : Type} {l : List α} {k : Nat} {x : α} (h : l[k]? = some x) : k < l.length := (List.getElem?_eq_some_iff.1 h).1
theorem liveF_yes {l : List Seg} {k : Nat} {x : Seg} (h : l[k]? = some x) (hl : x.live = true) : liveF 0 (l.take (k + 1)) = liveF 0 (l.take k) ++ [(k : Int) + 1] := by
  have := lt_of_get h
  rw [take_succ_of h, liveF_append]
  simp [liveF, hl, List.length_take, Nat.min_eq_left (Nat.le_of_lt this)]
theorem liveF_no {l : List Seg} {k : Nat} {x : Seg} (h : l[k]? = some x) (hl : x.live = false) : liveF 0 (l.take (k + 1)) = liveF 0 (l.take k) := by
  rw [take_succ_of h, liveF_append]
  simp [liveF, hl]
end Go.Proofs.YtlkdefmceghmnaaGreatDoor
namespace Go.Proofs.YtlkdefmceghmnaaGreatDoor
set_option linter.unusedVariables false
open Go Go.RowKit
theorem slInts : SlT Tryz.prog 56 3 1 := SlT.mk' (z := .int .i64 0) (b := 8) Tryz.underlying56 (by kernel_rfl) (by omega) rfl
set_option maxRecDepth 100000 in
set_option maxHeartbeats 400000 in
theorem live_any (p : Pnr) (h : Hd) (w : World) (lo hi : Nat) (hp : PAt w lo hi p h) (hn : h.ng ≤ 100000) (hhi : hi ≤ w.heap.size) :
    Calls Tryz.prog 21 #[.agg #[.string p.loc, .string p.off, .slice h.an h.nn h.cn, .slice h.ag h.ng h.cg, .slice h.ap h.np h.cp, .int .i64 p.tik.kind, .int .i64 p.tik.day, .int .i64 p.tik.min, .string p.rc, .slice h.ar h.nr h.cr, .slice h.ae h.ne h.ce, .bool p.queued]] w (RetOwn w 3 tInt (liveF 0 p.segs)) := by
  have hsl := hp.segs
  clear hp
  obtain ⟨an, nn, cn, ag, ng, cg, ap, np, cp, ar, nr, cr, ae, ne, ce⟩ := h
  dsimp only at *
  go_enter Tryz.func21, Tryz.ntmps21
  go_wp2
  go_loopw [3, 9] (fun v i wr => ∃ k : Nat, k ≤ ng ∧ i = .int .i64 k ∧ Own wr (w.heap.size + 1) 3 tInt v (liveF 0 (p.segs.take k)) ∧ Below (w.heap.size + 1) (w.alloc (.cells #[.string p.loc, .string p.off, .slice an nn cn, .slice ag ng cg, .slice ap np cp, .int .i64 p.tik.kind, .int .i64 p.tik.day, .int .i64 p.tik.min, .string p.rc, .slice ar nr cr, .slice ae ne ce, .bool p.queued] 33)) wr) (fun _ i _ => ng - (intOf i).toNat)
  case atStart => exact ⟨0, Nat.zero_le _, rfl, Own.nil_ _ _ _ _, Below.refl _ _⟩
  case round =>
    obtain ⟨k, hk, rfl, hown, hbel⟩ := hrel
    by_cases hlt : k < ng
    · have hslr := ((hsl.alloc hhi _).below hbel (Nat.le_succ_of_le hhi))
      obtain ⟨b, o, x, rfl, h1, h2, hx, hok, c0, c1, c2, c3, c4⟩ := hslr.seg_ hlt
      clear hslr
      have hll := liveF_len (p.segs.take k) 0
      have htl : (p.segs.take k).length ≤ k := List.length_take_le _ _
      rcases Bool.eq_false_or_eq_true x.live with hlv | hlv
      · go_wp2_with (at_builtin; refine push_law rfl (.tmp 16) (.tmp 19) rfl slInts rfl (hown.alloc _) ((k : Int) + 1) (by unfold tInt okInt; omega) _ rfl (by simp [Act.eval]) (by have := hbel.size; simp at this ⊢; omega) (by omega) ?_; intro v' w' hown' hbel')
        go_roundw
        case rel => exact ⟨k + 1, by omega, by go_num, by rw [liveF_yes hx.out hlv]; exact hown', (hbel.alloc (by have := hbel.size; simpa using this) _).trans hbel'⟩
        case measure => simp [intOf]; omega
      · go_wp2
        go_roundw
        case rel => exact ⟨k + 1, by omega, by go_num, by rw [liveF_no hx.out hlv]; exact hown.alloc _, hbel.alloc (by have := hbel.size; simpa using this) _⟩
        case measure => simp [intOf]; omega
    · go_wp2
      go_ret
      refine RetOwn.mk' ?_ ?_
      · have e : p.segs.take k = p.segs := List.take_of_length_le (by have := hsl.len; omega)
        rw [e] at hown
        exact hown.more (Nat.le_succ _)
      · exact ((Below.refl _ _).alloc (Nat.le_refl _) _).trans (hbel.mono (Nat.le_succ _))
end Go.Proofs.YtlkdefmceghmnaaGreatDoor
namespace Go.Proofs.YtlkdefmceghmnaaGreatDoor
set_option linter.unusedVariables false
open Go Go.RowKit
attribute [local go_sem ↓] Go.wp_at_zero Go.wp_at_succ
theorem slErr : SlT Tryz.prog 47 41 1 := SlT.mk' (z := .int .i64 0) (b := 8) Tryz.underlying47 (by kernel_rfl) (by omega) rfl
def picks (l : List (Bool × Int)) : List Int := l.flatMap fun x => if x.1 then [x.2] else []
def lackT (b0 b1 b2 b3 b4 : Bool) : List (Bool × Int) := [(b0, 20), (b1, 21), (b2, 22), (b3, 23), (b4, 24)]
def lacksF (p : Pnr) (h : Hd) : List Int := picks (lackT ((h.nn : Int) == 0) (((liveF 0 p.segs).length : Int) == 0) ((h.np : Int) == 0) (p.tik.kind == 0) p.rc.toList.isEmpty)
theorem picks_yes {l : List (Bool × Int)} {k : Nat} {e : Int} (h : l[k]? = some (true, e)) : picks (l.take (k + 1)) = picks (l.take k) ++ [e] := by
  rw [take_succ_of h]; simp [picks]
theorem picks_no {l : List (Bool × Int)} {k : Nat} {e : Int} (h : l[k]? = some (false, e)) : picks (l.take (k + 1)) = picks (l.take k) := by
  rw [take_succ_of h]; simp [picks]
theorem picks_len : ∀ l : List (Bool × Int), (picks l).length ≤ l.length
  | [] => by simp [picks]
  | (true, e) :: t => by
    have e : picks ((true, e) :: t) = e :: picks t := rfl
    have := picks_len t
    rw [e]; simp only [List.length_cons]; omega
  | (false, e) :: t => by
    have e : picks ((false, e) :: t) = picks t := rfl
    have := picks_len t
    rw [e]; simp only [List.length_cons]; omega
theorem picks_lt (b0 b1 b2 b3 b4 : Bool) (k : Nat) : (picks ((lackT b0 b1 b2 b3 b4).take k)).length < 2147483648 := by
  have h1 := picks_len ((lackT b0 b1 b2 b3 b4).take k)
  have h2 : ((lackT b0 b1 b2 b3 b4).take k).length ≤ 5 := by rw [List.length_take]; exact Nat.min_le_right _ _
  omega
theorem idx0 (x0 x1 x2 x3 x4 x5 x6 x7 x8 x9 : Value) (w : World) : (Instr.index 90 (.agg #[x0, x1, x2, x3, x4, x5, x6, x7, x8, x9]) (.int .i64 0)).run Tryz.prog w = .ok (.agg #[x0, x1]) w := by kernel_rfl
theorem idx1 (x0 x1 x2 x3 x4 x5 x6 x7 x8 x9 : Value) (w : World) : (Instr.index 90 (.agg #[x0, x1, x2, x3, x4, x5, x6, x7, x8, x9]) (.int .i64 1)).run Tryz.prog w = .ok (.agg #[x2, x3]) w := by kernel_rfl
theorem idx2 (x0 x1 x2 x3 x4 x5 x6 x7 x8 x9 : Value) (w : World) : (Instr.index 90 (.agg #[x0, x1, x2, x3, x4, x5, x6, x7, x8, x9]) (.int .i64 2)).run Tryz.prog w = .ok (.agg #[x4, x5]) w := by kernel_rfl
theorem idx3 (x0 x1 x2 x3 x4 x5 x6 x7 x8 x9 : Value) (w : World) : (Instr.index 90 (.agg #[x0, x1, x2, x3, x4, x5, x6, x7, x8, x9]) (.int .i64 3)).run Tryz.prog w = .ok (.agg #[x6, x7]) w := by kernel_rfl
theorem idx4 (x0 x1 x2 x3 x4 x5 x6 x7 x8 x9 : Value) (w : World) : (Instr.index 90 (.agg #[x0, x1, x2, x3, x4, x5, x6, x7, x8, x9]) (.int .i64 4)).run Tryz.prog w = .ok (.agg #[x8, x9]) w := by kernel_rfl
set_option maxRecDepth 100000 in
set_option maxHeartbeats 4000000 in
theorem lacks_any (p : Pnr) (h : Hd) (w : World) (lo hi : Nat) (hp : PAt w lo hi p h) (hn : h.ng ≤ 100000) (hhi : hi ≤ w.heap.size) :
    Calls Tryz.prog 11 #[.agg #[.string p.loc, .string p.off, .slice h.an h.nn h.cn, .slice h.ag h.ng h.cg, .slice h.ap h.np h.cp, .int .i64 p.tik.kind, .int .i64 p.tik.day, .int .i64 p.tik.min, .string p.rc, .slice h.ar h.nr h.cr, .slice h.ae h.ne h.ce, .bool p.queued]] w (RetOwn w 41 tInt (lacksF p h)) := by
  go_enter Tryz.func11, Tryz.ntmps11
  go_wp2
  go_region_held3 (fun w' => (∀ i : Nat, w'.cell? ⟨w.heap.size, i, none⟩ = (#[.string p.loc, .string p.off, .slice h.an h.nn h.cn, .slice h.ag h.ng h.cg, .slice h.ap h.np h.cp, .int .i64 p.tik.kind, .int .i64 p.tik.day, .int .i64 p.tik.min, .string p.rc, .slice h.ar h.nr h.cr, .slice h.ae h.ne h.ce, .bool p.queued] : Array Value)[i]?)) (repeat (first | (with_reducible assumption) | (with_reducible exact boxed_new _ _ _) | (with_reducible refine boxed_drew ?_) | (with_reducible refine boxed_drewN ?_ _) | (with_reducible refine boxed_alloc ?_ (by first | (simp; done) | omega | (simp; omega)) _) | (with_reducible refine boxed_set ?_ _ (by first | (simp; done) | omega | (simp; omega)) _) | (with_reducible refine boxed_below ?_ hb (by first | (simp; done) | omega | (simp; omega)))))
    (first | (go_at_call 21; refine (live_any p h _ lo hi (by first | exact ((hp.alloc hhi _).drew) | exact (((hp.alloc hhi _).alloc (by simp; omega) _).drew)) hn (by simp; omega)).mono ?_; rintro e w1 ⟨A, c, rfl, hown, hb⟩; obtain ⟨hc, hf⟩ := bcell hb; have hz : w.heap.size < w1.heap.size := Nat.lt_of_lt_of_le (by first | (simp; done) | omega | (simp; omega)) hb.size))
  all_goals go_wp2
  all_goals (generalize hq0 : ((h.nn : Int) == 0) = b0; generalize hq1 : (((liveF 0 p.segs).length : Int) == 0) = b1; generalize hq2 : ((h.np : Int) == 0) = b2; generalize hq3 : (p.tik.kind == 0) = b3; generalize hq4 : p.rc.toList.isEmpty = b4)
  all_goals (have HQ := Lib.hid (show lacksF p h = picks (lackT b0 b1 b2 b3 b4) by rw [lacksF, hq0, hq1, hq2, hq3, hq4]); clear hq0 hq1 hq2 hq3 hq4)
  all_goals
    refine wp_world (fun w' => Below w.heap.size w w') ?_ ?_
    · (repeat (first | with_reducible exact Below.refl _ _ | (with_reducible refine Below.drew ?_) | (with_reducible refine below_drewN ?_ _) | (with_reducible refine Below.alloc ?_ (by first | (simp; done) | omega | (simp; omega)) _) | (with_reducible refine Below.setCell ?_ (by first | (simp; done) | omega | (simp; omega)) _) | (with_reducible refine Below.trans ?_ (Below.mono hb (by first | (simp; done) | omega | (simp; omega)))) | with_reducible assumption))
    intro W0 hB0
    go_loopw [4, 33] (fun v i wr => ∃ k : Nat, k ≤ 5 ∧ i = .int .i64 k ∧ Own wr w.heap.size 41 tInt v (picks ((lackT b0 b1 b2 b3 b4).take k)) ∧ Below w.heap.size w wr) (fun _ i _ => 5 - (intOf i).toNat)
    case atStart => exact ⟨0, by omega, rfl, Own.nil_ _ _ _ _, hB0⟩
    case round =>
      obtain ⟨k, hk, rfl, hown, hbel⟩ := hrel
      rcases (show k = 0 ∨ k = 1 ∨ k = 2 ∨ k = 3 ∨ k = 4 ∨ k = 5 by omega) with rfl | rfl | rfl | rfl | rfl | rfl
      · have hix := idx0
        cases b0
        · have hnx := Lib.hid (picks_no (k := 0) (show (lackT false b1 b2 b3 b4)[0]? = some (false, 20) from rfl))
          go_wp2
          go_roundw
          case rel => exact ⟨1, by omega, rfl, by rw [hnx.out]; exact hown.alloc _, hbel.alloc hbel.size _⟩
          case measure => simp [intOf]
        · have hnx := Lib.hid (picks_yes (k := 0) (show (lackT true b1 b2 b3 b4)[0]? = some (true, 20) from rfl))
          have hlt := picks_lt true b1 b2 b3 b4 0
          go_wp2_with (at_builtin; refine push_law rfl (.tmp 38) (.tmp 41) rfl slErr rfl (hown.alloc _) 20 (by unfold tInt okInt; omega) _ rfl (by simp [Act.eval]) (by have := hbel.size; simp; omega) hlt ?_; intro v' w' hown' hbel')
          go_roundw
          case rel => exact ⟨1, by omega, rfl, by rw [hnx.out]; exact hown', (hbel.alloc hbel.size _).trans hbel'⟩
          case measure => simp [intOf]
      · have hix := idx1
        cases b1
        · have hnx := Lib.hid (picks_no (k := 1) (show (lackT b0 false b2 b3 b4)[1]? = some (false, 21) from rfl))
          go_wp2
          go_roundw
          case rel => exact ⟨2, by omega, rfl, by rw [hnx.out]; exact hown.alloc _, hbel.alloc hbel.size _⟩
          case measure => simp [intOf]
        · have hnx := Lib.hid (picks_yes (k := 1) (show (lackT b0 true b2 b3 b4)[1]? = some (true, 21) from rfl))
          have hlt := picks_lt b0 true b2 b3 b4 1
          go_wp2_with (at_builtin; refine push_law rfl (.tmp 38) (.tmp 41) rfl slErr rfl (hown.alloc _) 21 (by unfold tInt okInt; omega) _ rfl (by simp [Act.eval]) (by have := hbel.size; simp; omega) hlt ?_; intro v' w' hown' hbel')
          go_roundw
          case rel => exact ⟨2, by omega, rfl, by rw [hnx.out]; exact hown', (hbel.alloc hbel.size _).trans hbel'⟩
          case measure => simp [intOf]
      · have hix := idx2
        cases b2
        · have hnx := Lib.hid (picks_no (k := 2) (show (lackT b0 b1 false b3 b4)[2]? = some (false, 22) from rfl))
          go_wp2
          go_roundw
          case rel => exact ⟨3, by omega, rfl, by rw [hnx.out]; exact hown.alloc _, hbel.alloc hbel.size _⟩
          case measure => simp [intOf]
        · have hnx := Lib.hid (picks_yes (k := 2) (show (lackT b0 b1 true b3 b4)[2]? = some (true, 22) from rfl))
          have hlt := picks_lt b0 b1 true b3 b4 2
          go_wp2_with (at_builtin; refine push_law rfl (.tmp 38) (.tmp 41) rfl slErr rfl (hown.alloc _) 22 (by unfold tInt okInt; omega) _ rfl (by simp [Act.eval]) (by have := hbel.size; simp; omega) hlt ?_; intro v' w' hown' hbel')
          go_roundw
          case rel => exact ⟨3, by omega, rfl, by rw [hnx.out]; exact hown', (hbel.alloc hbel.size _).trans hbel'⟩
          case measure => simp [intOf]
      · have hix := idx3
        cases b3
        · have hnx := Lib.hid (picks_no (k := 3) (show (lackT b0 b1 b2 false b4)[3]? = some (false, 23) from rfl))
          go_wp2
          go_roundw
          case rel => exact ⟨4, by omega, rfl, by rw [hnx.out]; exact hown.alloc _, hbel.alloc hbel.size _⟩
          case measure => simp [intOf]
        · have hnx := Lib.hid (picks_yes (k := 3) (show (lackT b0 b1 b2 true b4)[3]? = some (true, 23) from rfl))
          have hlt := picks_lt b0 b1 b2 true b4 3
          go_wp2_with (at_builtin; refine push_law rfl (.tmp 38) (.tmp 41) rfl slErr rfl (hown.alloc _) 23 (by unfold tInt okInt; omega) _ rfl (by simp [Act.eval]) (by have := hbel.size; simp; omega) hlt ?_; intro v' w' hown' hbel')
          go_roundw
          case rel => exact ⟨4, by omega, rfl, by rw [hnx.out]; exact hown', (hbel.alloc hbel.size _).trans hbel'⟩
          case measure => simp [intOf]
      · have hix := idx4
        cases b4
        · have hnx := Lib.hid (picks_no (k := 4) (show (lackT b0 b1 b2 b3 false)[4]? = some (false, 24) from rfl))
          go_wp2
          go_roundw
          case rel => exact ⟨5, by omega, rfl, by rw [hnx.out]; exact hown.alloc _, hbel.alloc hbel.size _⟩
          case measure => simp [intOf]
        · have hnx := Lib.hid (picks_yes (k := 4) (show (lackT b0 b1 b2 b3 true)[4]? = some (true, 24) from rfl))
          have hlt := picks_lt b0 b1 b2 b3 true 4
          go_wp2_with (at_builtin; refine push_law rfl (.tmp 38) (.tmp 41) rfl slErr rfl (hown.alloc _) 24 (by unfold tInt okInt; omega) _ rfl (by simp [Act.eval]) (by have := hbel.size; simp; omega) hlt ?_; intro v' w' hown' hbel')
          go_roundw
          case rel => exact ⟨5, by omega, rfl, by rw [hnx.out]; exact hown', (hbel.alloc hbel.size _).trans hbel'⟩
          case measure => simp [intOf]
      · go_wp2
        go_ret
        exact HQ.out ▸ RetOwn.mk' (l := picks (lackT b0 b1 b2 b3 b4)) hown hbel
end Go.Proofs.YtlkdefmceghmnaaGreatDoor
namespace Go.Proofs.YtlkdefmceghmnaaGreatDoor
set_option linter.unusedVariables false
open Go Go.RowKit
/-- A box that the walk reads again and again, and what lies behind it. -/
def RL (w : World) (p : Pnr) (h : Hd) (k : Nat) (v : Value) (w' : World) : Prop :=
  Own w' (w.heap.size + 1) 3 tInt v (picks ((lackT ((h.nn : Int) == 0) (((liveF 0 p.segs).length : Int) == 0) ((h.np : Int) == 0) (p.tik.kind == 0) p.rc.toList.isEmpty).take k)) ∧ Below (w.heap.size + 1) (w.alloc (.cells #[.string p.loc, .string p.off, .slice h.an h.nn h.cn, .slice h.ag h.ng h.cg, .slice h.ap h.np h.cp, .int .i64 p.tik.kind, .int .i64 p.tik.day, .int .i64 p.tik.min, .string p.rc, .slice h.ar h.nr h.cr, .slice h.ae h.ne h.ce, .bool p.queued] 33)) w'
theorem RL.box {w w' : World} {p : Pnr} {h : Hd} {k : Nat} {v : Value} (H : RL w p h k v w') : ∀ i, w'.cell? ⟨w.heap.size, i, none⟩ = (#[.string p.loc, .string p.off, .slice h.an h.nn h.cn, .slice h.ag h.ng h.cg, .slice h.ap h.np h.cp, .int .i64 p.tik.kind, .int .i64 p.tik.day, .int .i64 p.tik.min, .string p.rc, .slice h.ar h.nr h.cr, .slice h.ae h.ne h.ce, .bool p.queued] : Array Value)[i]? :=
  fun i => (H.2.cell (by simp)).trans (by simp)
theorem RL.size {w w' : World} {p : Pnr} {h : Hd} {k : Nat} {v : Value} (H : RL w p h k v w') : w.heap.size + 1 ≤ w'.heap.size := by
  have := H.2.size; simpa using this
theorem RL.step {w w' w2 : World} {p : Pnr} {h : Hd} {k : Nat} {v : Value} (H : RL w p h k v w') (hb : Below w'.heap.size w' w2) : RL w p h k v w2 :=
  ⟨H.1.keep hb, H.2.trans (hb.mono H.size)⟩
end Go.Proofs.YtlkdefmceghmnaaGreatDoor
namespace Go.Proofs.YtlkdefmceghmnaaGreatDoor
set_option linter.unusedVariables false
open Go Go.RowKit
set_option maxRecDepth 100000 in
set_option maxHeartbeats 4000000 in
theorem sound_zero (w : World) :
    Calls Tryz.prog 13 #[.agg #[.string ⟨#[]⟩, .string ⟨#[]⟩, .slice none 0 0, .slice none 0 0, .slice none 0 0, .int .i64 0, .int .i64 0, .int .i64 0, .string ⟨#[]⟩, .slice none 0 0, .slice none 0 0, .bool false]] w fun e w' => e = .returned (.bool true) ∧ Below w.heap.size w w' := by
  have hmm := @run_makeMap Tryz.prog
  go_enter Tryz.func13, Tryz.ntmps13
  go_wp2
  iterate 5 (refine wp_loop_rounds 1 ?_; rw [rounds_succ]; go_wp2)
  go_ret
  exact ⟨rfl, by (repeat (first | with_reducible exact Below.refl _ _ | (with_reducible refine Below.drew ?_) | (with_reducible refine below_drewN ?_ _) | (with_reducible refine Below.alloc ?_ (by first | (simp; done) | omega | (simp; omega)) _) | (with_reducible refine Below.setCell ?_ (by first | (simp; done) | omega | (simp; omega)) _) | with_reducible assumption))⟩
set_option maxRecDepth 100000 in
set_option maxHeartbeats 4000000 in
theorem sound_A (w : World) :
    Calls Tryz.prog 13 #[.agg #[.string ⟨#[65]⟩, .string ⟨#[]⟩, .slice none 0 0, .slice none 0 0, .slice none 0 0, .int .i64 0, .int .i64 0, .int .i64 0, .string ⟨#[]⟩, .slice none 0 0, .slice none 0 0, .bool false]] w fun e w' => e = .returned (.bool false) ∧ Below w.heap.size w w' := by
  go_enter Tryz.func13, Tryz.ntmps13
  go_wp2
  go_ret
  exact ⟨rfl, by (repeat (first | with_reducible exact Below.refl _ _ | (with_reducible refine Below.drew ?_) | (with_reducible refine below_drewN ?_ _) | (with_reducible refine Below.alloc ?_ (by first | (simp; done) | omega | (simp; omega)) _) | (with_reducible refine Below.setCell ?_ (by first | (simp; done) | omega | (simp; omega)) _) | with_reducible assumption))⟩
end Go.Proofs.YtlkdefmceghmnaaGreatDoor
namespace Go.Proofs.YtlkdefmceghmnaaGreatDoor
set_option linter.unusedVariables false
open Go Go.RowKit
attribute [local go_sem ↓] Go.wp_at_zero Go.wp_at_succ
def WholeR (w : World) (l : List Int) (e : Ending) (w' : World) : Prop := e = .returned (.int .i64 (l.headD 0)) ∧ Below w.heap.size w w'
set_option maxRecDepth 100000 in
set_option maxHeartbeats 400000 in
theorem whole_any (p : Pnr) (h : Hd) (w : World) (lo hi : Nat) (hp : PAt w lo hi p h) (hn : h.ng ≤ 100000) (hhi : hi ≤ w.heap.size) :
    Calls Tryz.prog 12 #[.agg #[.string p.loc, .string p.off, .slice h.an h.nn h.cn, .slice h.ag h.ng h.cg, .slice h.ap h.np h.cp, .int .i64 p.tik.kind, .int .i64 p.tik.day, .int .i64 p.tik.min, .string p.rc, .slice h.ar h.nr h.cr, .slice h.ae h.ne h.ce, .bool p.queued]] w (WholeR w (lacksF p h)) := by
  have H := lacks_any p h (w.alloc (.cells #[.string p.loc, .string p.off, .slice h.an h.nn h.cn, .slice h.ag h.ng h.cg, .slice h.ap h.np h.cp, .int .i64 p.tik.kind, .int .i64 p.tik.day, .int .i64 p.tik.min, .string p.rc, .slice h.ar h.nr h.cr, .slice h.ae h.ne h.ce, .bool p.queued] 33)) lo hi (hp.alloc hhi _) hn (by simp; omega)
  generalize lacksF p h = l at H ⊢
  rcases l with _ | ⟨x, t⟩
  · go_enter Tryz.func12, Tryz.ntmps12
    go_wp2_with (go_at_call 11; refine H.mono ?_; rintro e w1 ⟨A, c, rfl, hown, hb⟩)
    refine wp_loop_rounds 1 ?_
    rw [rounds_succ]
    go_wp2
    go_ret
    exact ⟨rfl, by (repeat (first | with_reducible exact Below.refl _ _ | (with_reducible refine Below.drew ?_) | (with_reducible refine below_drewN ?_ _) | (with_reducible refine Below.alloc ?_ (by first | (simp; done) | omega | (simp; omega)) _) | (with_reducible refine Below.setCell ?_ (by first | (simp; done) | omega | (simp; omega)) _) | (with_reducible refine Below.trans ?_ (Below.mono hb (by first | (simp; done) | omega | (simp; omega)))) | with_reducible assumption))⟩
  · go_enter Tryz.func12, Tryz.ntmps12
    go_wp2_with (go_at_call 11; refine H.mono ?_; rintro e w1 ⟨A, c, rfl, hown, hb⟩)
    obtain ⟨b, o, y, rfl, h1, h2, hy, hok, c0⟩ := hown.sl.int_ (k := 0) (by simp)
    have hxy : x = y := by have := hy.out; simpa using this
    subst hxy
    simp only [Nat.add_zero] at c0
    refine wp_loop_rounds 1 ?_
    rw [rounds_succ]
    go_wp2
    go_ret
    exact ⟨rfl, by (repeat (first | with_reducible exact Below.refl _ _ | (with_reducible refine Below.drew ?_) | (with_reducible refine below_drewN ?_ _) | (with_reducible refine Below.alloc ?_ (by first | (simp; done) | omega | (simp; omega)) _) | (with_reducible refine Below.setCell ?_ (by first | (simp; done) | omega | (simp; omega)) _) | (with_reducible refine Below.trans ?_ (Below.mono hb (by first | (simp; done) | omega | (simp; omega)))) | with_reducible assumption))⟩
def smallB (h : Hd) : Bool := decide (h.nn ≤ 60) && (decide (h.ng ≤ 60) && (decide (h.np ≤ 60) && (decide (h.nr ≤ 60) && decide (h.ne ≤ 200))))
theorem smallB_yes {h : Hd} (H : smallB h = true) : h.nn ≤ 60 ∧ h.ng ≤ 60 ∧ h.np ≤ 60 ∧ h.nr ≤ 60 ∧ h.ne ≤ 200 := by
  simpa [smallB] using H
set_option maxRecDepth 100000 in
set_option maxHeartbeats 400000 in
theorem small_any (p : Pnr) (h : Hd) (w : World) :
    Calls Tryz.prog 5 #[.agg #[.string p.loc, .string p.off, .slice h.an h.nn h.cn, .slice h.ag h.ng h.cg, .slice h.ap h.np h.cp, .int .i64 p.tik.kind, .int .i64 p.tik.day, .int .i64 p.tik.min, .string p.rc, .slice h.ar h.nr h.cr, .slice h.ae h.ne h.ce, .bool p.queued]] w (fun e w' => e = .returned (.bool (smallB h)) ∧ Below w.heap.size w w') := by
  have hsm : smallB h = (decide (h.nn ≤ 60) && (decide (h.ng ≤ 60) && (decide (h.np ≤ 60) && (decide (h.nr ≤ 60) && decide (h.ne ≤ 200))))) := rfl
  have HS := Lib.hid hsm
  clear hsm
  by_cases h1 : h.nn ≤ 60
  · by_cases h2 : h.ng ≤ 60
    · by_cases h3 : h.np ≤ 60
      · by_cases h4 : h.nr ≤ 60
        · by_cases h5 : h.ne ≤ 200
          · go_enter Tryz.func5, Tryz.ntmps5
            go_wp2
            go_ret
            exact ⟨by rw [HS.out]; simp [*] <;> omega, by (repeat (first | with_reducible exact Below.refl _ _ | (with_reducible refine Below.drew ?_) | (with_reducible refine below_drewN ?_ _) | (with_reducible refine Below.alloc ?_ (by first | (simp; done) | omega | (simp; omega)) _) | (with_reducible refine Below.setCell ?_ (by first | (simp; done) | omega | (simp; omega)) _) | with_reducible assumption))⟩
          · go_enter Tryz.func5, Tryz.ntmps5
            go_wp2
            go_ret
            exact ⟨by rw [HS.out]; simp [*] <;> omega, by (repeat (first | with_reducible exact Below.refl _ _ | (with_reducible refine Below.drew ?_) | (with_reducible refine below_drewN ?_ _) | (with_reducible refine Below.alloc ?_ (by first | (simp; done) | omega | (simp; omega)) _) | (with_reducible refine Below.setCell ?_ (by first | (simp; done) | omega | (simp; omega)) _) | with_reducible assumption))⟩
        · go_enter Tryz.func5, Tryz.ntmps5
          go_wp2
          go_ret
          exact ⟨by rw [HS.out]; simp [*] <;> omega, by (repeat (first | with_reducible exact Below.refl _ _ | (with_reducible refine Below.drew ?_) | (with_reducible refine below_drewN ?_ _) | (with_reducible refine Below.alloc ?_ (by first | (simp; done) | omega | (simp; omega)) _) | (with_reducible refine Below.setCell ?_ (by first | (simp; done) | omega | (simp; omega)) _) | with_reducible assumption))⟩
      · go_enter Tryz.func5, Tryz.ntmps5
        go_wp2
        go_ret
        exact ⟨by rw [HS.out]; simp [*] <;> omega, by (repeat (first | with_reducible exact Below.refl _ _ | (with_reducible refine Below.drew ?_) | (with_reducible refine below_drewN ?_ _) | (with_reducible refine Below.alloc ?_ (by first | (simp; done) | omega | (simp; omega)) _) | (with_reducible refine Below.setCell ?_ (by first | (simp; done) | omega | (simp; omega)) _) | with_reducible assumption))⟩
    · go_enter Tryz.func5, Tryz.ntmps5
      go_wp2
      go_ret
      exact ⟨by rw [HS.out]; simp [*] <;> omega, by (repeat (first | with_reducible exact Below.refl _ _ | (with_reducible refine Below.drew ?_) | (with_reducible refine below_drewN ?_ _) | (with_reducible refine Below.alloc ?_ (by first | (simp; done) | omega | (simp; omega)) _) | (with_reducible refine Below.setCell ?_ (by first | (simp; done) | omega | (simp; omega)) _) | with_reducible assumption))⟩
  · go_enter Tryz.func5, Tryz.ntmps5
    go_wp2
    go_ret
    exact ⟨by rw [HS.out]; simp [*] <;> omega, by (repeat (first | with_reducible exact Below.refl _ _ | (with_reducible refine Below.drew ?_) | (with_reducible refine below_drewN ?_ _) | (with_reducible refine Below.alloc ?_ (by first | (simp; done) | omega | (simp; omega)) _) | (with_reducible refine Below.setCell ?_ (by first | (simp; done) | omega | (simp; omega)) _) | with_reducible assumption))⟩
def p0 : Pnr := ⟨⟨#[]⟩, ⟨#[]⟩, [], [], [], ⟨0, 0, 0⟩, ⟨#[]⟩, [], [], false⟩
def h0 : Hd := ⟨none, 0, 0, none, 0, 0, none, 0, 0, none, 0, 0, none, 0, 0⟩
theorem p0_at (w : World) : PAt w 0 0 p0 h0 :=
  ⟨by simp [okStr, p0, ByteArray.size], by simp [okStr, p0, ByteArray.size], by simp [okStr, p0, ByteArray.size], by simp [Tik.ok, okInt, p0], Sl.nil_ _, Sl.nil_ _, Sl.nil_ _, Sl.nil_ _, Sl.nil_ _⟩
theorem lacks_p0 : lacksF p0 h0 = [20, 21, 22, 23, 24] := by
  have e : (⟨#[]⟩ : ByteArray).toList.isEmpty = true := by simp
  unfold lacksF lackT
  simp only [p0, h0, liveF, e]
  decide
theorem lacks0 (w : World) : Calls Tryz.prog 11 #[.agg #[.string ⟨#[]⟩, .string ⟨#[]⟩, .slice none 0 0, .slice none 0 0, .slice none 0 0, .int .i64 0, .int .i64 0, .int .i64 0, .string ⟨#[]⟩, .slice none 0 0, .slice none 0 0, .bool false]] w (RetOwn w 41 tInt [20, 21, 22, 23, 24]) := by
  have h := lacks_any p0 h0 w 0 0 (p0_at w) (by decide) (Nat.zero_le _)
  rw [lacks_p0] at h
  exact h
theorem whole0 (w : World) : Calls Tryz.prog 12 #[.agg #[.string ⟨#[]⟩, .string ⟨#[]⟩, .slice none 0 0, .slice none 0 0, .slice none 0 0, .int .i64 0, .int .i64 0, .int .i64 0, .string ⟨#[]⟩, .slice none 0 0, .slice none 0 0, .bool false]] w (WholeR w [20, 21, 22, 23, 24]) := by
  have h := whole_any p0 h0 w 0 0 (p0_at w) (by decide) (Nat.zero_le _)
  rw [lacks_p0] at h
  exact h
set_option maxRecDepth 100000 in
set_option maxHeartbeats 400000 in
theorem awake13_any (w : World) : Calls Tryz.prog 4 #[] w (fun e w' => e = .returned (.bool true) ∧ Below w.heap.size w w') := by
  go_enter Tryz.func4, Tryz.ntmps4
  go_wp2_with fail
  refine (lacks0 _).mono ?_
  rintro e w1 ⟨A, c, rfl, hown, hb⟩
  obtain ⟨b, o, x, rfl, h1, h2, hx, hok, c0⟩ := hown.sl.int_ (k := 0) (by simp)
  have hx' := hx.out
  clear hx
  simp at hx' c0
  subst hx'
  obtain ⟨b', o', x, hbo, h1', h2', hx, hok, c4⟩ := hown.sl.int_ (k := 4) (by simp)
  injection hbo with hbo
  injection hbo with hb1 ho1 _
  subst hb1 ho1
  have hx' := hx.out
  clear hx
  simp at hx' c4
  subst hx'
  go_wp2_with fail
  refine (whole0 _).mono ?_
  rintro e w2 ⟨rfl, hb2⟩
  go_wp2_with fail
  refine (sound_zero _).mono ?_
  rintro e w3 ⟨rfl, hb3⟩
  go_wp2_with fail
  refine (sound_A _).mono ?_
  rintro e w4 ⟨rfl, hb4⟩
  go_wp2_with fail
  go_ret
  have z1 := hb.size
  have z2 := hb2.size
  have z3 := hb3.size
  exact ⟨rfl, ((hb.trans (hb2.mono z1)).trans (hb3.mono (by omega))).trans (hb4.mono (by omega))⟩
end Go.Proofs.YtlkdefmceghmnaaGreatDoor
