/- Put together by program of: Apply, Rpnr, Rseat. -/
import Derived.Test.YtpgeoahlhdifoaaGreatDoorSame
import Derived.Test.YtpgeoahlhdifoaaGreatDoorFormed
import Derived.Test.YtpgeoahlhdifoaaGreatDoorTexts
import Derived.Test.YtpgeoahlhdifoaaGreatDoorSeat
import Derived.Test.YtpgeoahlhdifoaaGreatDoorLib2
namespace Go.Proofs.YtpgeoahlhdifoaaGreatDoor
set_option linter.unusedVariables false
open Go Go.RowKit
def keepP (sg px : Int) (x : Plc) : Bool := (x.seg != sg) || ((px != 0) && (x.pax != px))
def placesF (l : List Plc) (sg px : Int) : List Plc := l.filter (keepP sg px)
def whoseF (p : Pnr) (e : Edit) : Int := if liveN p.segs e.n then (if 1 ≤ e.pax ∧ e.pax ≤ p.names.length then 0 else 17) else 16
def takenB (e : Edit) (x : Plc) : Bool := (x.seg == e.n) && ((decide (x.row = e.row) && decide (x.let_ = e.let_)) && (x.pax != e.pax))
def afterB (e : Edit) (x : Plc) : Bool := decide (e.n < x.seg) || (decide (x.seg = e.n) && decide (e.pax < x.pax))
def mine (e : Edit) : Plc := ⟨e.n, e.pax, e.row, e.let_⟩
/-- A place among places, ahead of the first that comes behind it. -/
def insF (e : Edit) : List Plc → List Plc
  | [] => [mine e]
  | x :: t => if afterB e x then mine e :: x :: t else x :: insF e t
def seatF (p : Pnr) (e : Edit) : Pnr × Int :=
  if seatB e.row e.let_ = false then (p, 4) else
  if whoseF p e ≠ 0 then (p, whoseF p e) else
  if p.seats.any (takenB e) = true then (p, 14) else
  ({ p with seats := insF e (placesF p.seats e.n e.pax) }, 0)
def freeF (p : Pnr) (e : Edit) : Pnr × Int :=
  if whoseF p e ≠ 0 then (p, whoseF p e) else
  if (placesF p.seats e.n e.pax).length = p.seats.length then (p, 9) else
  ({ p with seats := placesF p.seats e.n e.pax }, 0)
def nameF (p : Pnr) (e : Edit) : Pnr × Int :=
  if nmB e.nam = false then (p, 4) else
  if p.loc.toList.isEmpty = false then (p, 7) else
  if 9 ≤ p.names.length then (p, 18) else
  ({ p with names := p.names ++ [e.nam] }, 0)
def segmentF (p : Pnr) (e : Edit) : Pnr × Int :=
  if (segB e.seg && e.seg.live) = false then (p, 4) else
  if dupL p.segs e.seg = true then (p, 8) else
  if 8 ≤ p.segs.length then (p, 18) else
  ({ p with segs := p.segs ++ [e.seg] }, 0)
def textF (l : List ByteArray) (s : ByteArray) (most : Int) : List ByteArray × Int :=
  if freeB s = false then (l, 4) else
  if most ≤ l.length then (l, 18) else (l ++ [s], 0)
def dead (s : Seg) : Seg := { s with live := false }
def cancelF (p : Pnr) (n : Int) : Pnr × Int :=
  if liveN p.segs n = false then (p, 16) else
  ({ p with segs := p.segs.modify (n - 1).toNat dead, seats := placesF p.seats n 0 }, 0)
def changeF (p : Pnr) (e : Edit) : Pnr × Int :=
  if e.kind = 1 then nameF p e else
  if e.kind = 2 then segmentF p e else
  if e.kind = 3 then ({ p with phones := (textF p.phones e.text 4).1 }, (textF p.phones e.text 4).2) else
  if e.kind = 4 then (if tikB e.tik = false then (p, 4) else ({ p with tik := e.tik, queued := false }, 0)) else
  if e.kind = 5 then (if freeB e.text = false then (p, 4) else ({ p with rc := e.text }, 0)) else
  if e.kind = 6 then ({ p with remarks := (textF p.remarks e.text 10).1 }, (textF p.remarks e.text 10).2) else
  if e.kind = 7 then cancelF p e.n else
  if e.kind = 8 then seatF p e else
  if e.kind = 9 then freeF p e else (p, 4)
def pnr0 : Pnr := ⟨⟨#[]⟩, ⟨#[]⟩, [], [], [], ⟨0, 0, 0⟩, ⟨#[]⟩, [], [], false⟩
def applyF (p : Pnr) (e : Edit) : Pnr × Int := if (changeF p e).2 ≠ 0 then (pnr0, (changeF p e).2) else ((changeF p e).1, 0)
def foldF (p : Pnr) : List Edit → Pnr × Nat × Int
  | [] => (p, 0, 0)
  | e :: t => if (applyF p e).2 ≠ 0 then (p, 0, (applyF p e).2) else
    let r := foldF (applyF p e).1 t
    (r.1, r.2.1 + 1, r.2.2)
theorem placesF_len (l : List Plc) (sg px : Int) : (placesF l sg px).length ≤ l.length := List.length_filter_le _ _
theorem insF_len (e : Edit) : ∀ l, (insF e l).length = l.length + 1
  | [] => rfl
  | x :: t => by
    unfold insF
    split
    · rfl
    · simp [insF_len e t]
theorem textF_len (l : List ByteArray) (t : ByteArray) (m : Int) : (textF l t m).1.length ≤ l.length + 1 := by
  unfold textF
  split
  · simp
  · split <;> simp
def Sm (N : Nat) (r : Pnr × Int) : Prop := r.1.small (N + 1)
theorem sm_ite {N : Nat} {c : Prop} [Decidable c] {a b : Pnr × Int} (ha : Sm N a) (hb : Sm N b) : Sm N (if c then a else b) := by split <;> assumption
/-- What comes of an edit is longer by one at most. -/
theorem changeF_small {p : Pnr} {e : Edit} {N : Nat} (h : p.small N) : (changeF p e).1.small (N + 1) := by
  have h0 := h.mono (show N ≤ N + 1 by omega)
  obtain ⟨h1, h2, h3, h4, h5⟩ := h
  have hp1 := placesF_len p.seats e.n e.pax
  have hp2 := placesF_len p.seats e.n 0
  have hp3 := insF_len e (placesF p.seats e.n e.pax)
  have ht1 := textF_len p.phones e.text 4
  have ht2 := textF_len p.remarks e.text 10
  show Sm N (changeF p e)
  unfold changeF nameF segmentF cancelF seatF freeF
  repeat' (refine sm_ite ?_ ?_)
  all_goals first
    | exact h0
    | (refine ⟨?_, ?_, ?_, ?_, ?_⟩ <;> first | omega | (dsimp only; omega) | (simp; omega))
end Go.Proofs.YtpgeoahlhdifoaaGreatDoor
namespace Go.Proofs.YtpgeoahlhdifoaaGreatDoor
set_option linter.unusedVariables false
open Go Go.RowKit
theorem filter_yes {α : Type} {P : α → Bool} {l : List α} {k : Nat} {x : α} (h : l[k]? = some x) (hp : P x = true) : (l.take (k + 1)).filter P = (l.take k).filter P ++ [x] := by
  rw [take_succ_of h, List.filter_append]; simp [hp]
theorem filter_no {α : Type} {P : α → Bool} {l : List α} {k : Nat} {x : α} (h : l[k]? = some x) (hp : P x = false) : (l.take (k + 1)).filter P = (l.take k).filter P := by
  rw [take_succ_of h, List.filter_append]; simp [hp]
set_option maxRecDepth 100000 in
set_option maxHeartbeats 1000000 in
theorem places_any (l : List Plc) (A : Option Addr) (n c : Nat) (sg px : Int) (w : World) (lo hi : Nat) (hs : Sl w lo hi tPlc A n l) (hn : n ≤ 100000) (hhi : hi ≤ w.heap.size) :
    Calls Tryz.prog 78 #[.slice A n c, .int .i64 sg, .int .i64 px] w (RetOwn w 87 tPlc (placesF l sg px)) := by
  have HL := Lib.hid hs.len
  go_enter Tryz.func78, Tryz.ntmps78
  go_wp2
  go_loopw [7, 8] (fun v i wr => ∃ k : Nat, k ≤ n ∧ i = .int .i64 k ∧ Own wr w.heap.size 87 tPlc v (placesF (l.take k) sg px) ∧ Below w.heap.size w wr) (fun _ i _ => n - (intOf i).toNat)
  case atStart => exact ⟨0, Nat.zero_le _, rfl, Own.nil_ _ _ _ _, Below.refl _ _⟩
  case round =>
    obtain ⟨k, hk, rfl, hown, hbel⟩ := hrel
    by_cases hlt : k < n
    · obtain ⟨b, o, x, rfl, h1, h2, hx, hok, c0, c1, c2, c3⟩ := (hs.below hbel hhi).plc_ hlt
      obtain ⟨xs, xp, xr, xl⟩ := x
      dsimp only at c0 c1 c2 c3
      have hll := placesF_len (l.take k) sg px
      have htl : (l.take k).length ≤ k := List.length_take_le _ _
      have hpos := hbel.size
      have hkk : Hid (keepP sg px ⟨xs, xp, xr, xl⟩ = ((xs != sg) || ((px != 0) && (xp != px)))) := rfl
      generalize q1 : (xs != sg) = b1 at hkk
      generalize q2 : (px != 0) = b2 at hkk
      generalize q3 : (xp != px) = b3 at hkk
      rcases b1 with _ | _ <;> rcases b2 with _ | _ <;> rcases b3 with _ | _
      case false.true.true | true.false.false | true.false.true | true.true.false | true.true.true =>
        have hnx := Lib.hid (filter_yes hx.out hkk.out)
        go_wp2_with (at_builtin; refine push_law rfl (.tmp 35) (.tmp 40) rfl sl_plc rfl hown ⟨xs, xp, xr, xl⟩ hok _ rfl (by simp [Act.eval]) (by omega) (by omega) ?_; intro v' w' hown' hbel')
        go_roundw
        case rel => exact ⟨k + 1, by omega, by go_num, by unfold placesF; rw [hnx.out]; exact hown', hbel.trans hbel'⟩
        case measure => simp [intOf]; omega
      all_goals
        have hnx := Lib.hid (filter_no hx.out hkk.out)
        go_wp2
        go_roundw
        case rel => exact ⟨k + 1, by omega, by go_num, by unfold placesF; rw [hnx.out]; exact hown, hbel⟩
        case measure => simp [intOf]; omega
    · obtain rfl : n = k := by omega
      have e := Lib.hid (show l.take n = l from List.take_of_length_le (by have := HL.out; omega))
      go_wp2
      go_ret
      exact RetOwn.mk' (by rw [e.out] at hown; exact hown) hbel
end Go.Proofs.YtpgeoahlhdifoaaGreatDoor
namespace Go.Proofs.YtpgeoahlhdifoaaGreatDoor
set_option linter.unusedVariables false
open Go Go.RowKit
def RetI (w : World) (n : Int) (e : Ending) (w' : World) : Prop := e = .returned (.int .i64 n) ∧ Below w.heap.size w w'
/-- A PNR and an edit in boxes of the call's own. -/
structure SWE (w : World) (p : Pnr) (h : Hd) (e : Edit) (W : World) : Prop where
  B : Below w.heap.size w W
  box1 : ∀ i, W.cell? ⟨w.heap.size, i, none⟩ = (#[.string p.loc, .string p.off, .slice h.an h.nn h.cn, .slice h.ag h.ng h.cg, .slice h.ap h.np h.cp, .int .i64 p.tik.kind, .int .i64 p.tik.day, .int .i64 p.tik.min, .string p.rc, .slice h.ar h.nr h.cr, .slice h.ae h.ne h.ce, .bool p.queued] : Array Value)[i]?
  box2 : ∀ i, W.cell? ⟨w.heap.size + 1, i, none⟩ = (#[.int .i64 e.kind, .string e.nam.last, .string e.nam.first, .string e.seg.car, .int .i64 e.seg.num, .int .i64 e.seg.day, .int .u8 e.seg.cls, .bool e.seg.live, .int .i64 e.tik.kind, .int .i64 e.tik.day, .int .i64 e.tik.min, .string e.text, .int .i64 e.n, .int .i64 e.pax, .int .i64 e.row, .int .u8 e.let_] : Array Value)[i]?
  z : w.heap.size + 1 < W.heap.size
section
variable {w : World} {p : Pnr} {h : Hd} {e : Edit} {W W1 : World}
theorem SWE.start (w : World) (p : Pnr) (h : Hd) (e : Edit) (t t' : TypeId) : SWE w p h e ((w.alloc (.cells #[.string p.loc, .string p.off, .slice h.an h.nn h.cn, .slice h.ag h.ng h.cg, .slice h.ap h.np h.cp, .int .i64 p.tik.kind, .int .i64 p.tik.day, .int .i64 p.tik.min, .string p.rc, .slice h.ar h.nr h.cr, .slice h.ae h.ne h.ce, .bool p.queued] t)).alloc (.cells #[.int .i64 e.kind, .string e.nam.last, .string e.nam.first, .string e.seg.car, .int .i64 e.seg.num, .int .i64 e.seg.day, .int .u8 e.seg.cls, .bool e.seg.live, .int .i64 e.tik.kind, .int .i64 e.tik.day, .int .i64 e.tik.min, .string e.text, .int .i64 e.n, .int .i64 e.pax, .int .i64 e.row, .int .u8 e.let_] t')) :=
  ⟨((Below.refl _ _).alloc (Nat.le_refl _) _).alloc (by simp) _, boxed_alloc (boxed_new w _ _) (by simp) _, by have := boxed_new (w.alloc (.cells #[.string p.loc, .string p.off, .slice h.an h.nn h.cn, .slice h.ag h.ng h.cg, .slice h.ap h.np h.cp, .int .i64 p.tik.kind, .int .i64 p.tik.day, .int .i64 p.tik.min, .string p.rc, .slice h.ar h.nr h.cr, .slice h.ae h.ne h.ce, .bool p.queued] t)) #[.int .i64 e.kind, .string e.nam.last, .string e.nam.first, .string e.seg.car, .int .i64 e.seg.num, .int .i64 e.seg.day, .int .u8 e.seg.cls, .bool e.seg.live, .int .i64 e.tik.kind, .int .i64 e.tik.day, .int .i64 e.tik.min, .string e.text, .int .i64 e.n, .int .i64 e.pax, .int .i64 e.row, .int .u8 e.let_] t'; rw [World.size_alloc] at this; exact this, by simp⟩
theorem SWE.step (H : SWE w p h e W) (hb : Below W.heap.size W W1) : SWE w p h e W1 :=
  ⟨H.B.trans (hb.mono (by have := H.z; omega)), boxed_below H.box1 hb (by have := H.z; omega), boxed_below H.box2 hb H.z, Nat.lt_of_lt_of_le H.z hb.size⟩
theorem SWE.alloc (H : SWE w p h e W) (o : Obj) : SWE w p h e (W.alloc o) := H.step ((Below.refl _ _).alloc (Nat.le_refl _) _)
theorem SWE.drewN (H : SWE w p h e W) (n : Nat) : SWE w p h e (W.drewN n) := ⟨below_drewN H.B n, H.box1, H.box2, H.z⟩
end
set_option maxRecDepth 100000 in
set_option maxHeartbeats 1000000 in
theorem rwhose_any (p : Pnr) (h : Hd) (e : Edit) (w : World) (lo hi : Nat) (hp : PAt w lo hi p h) (hs : Small h) (hhi : hi ≤ w.heap.size) (he : e.ok) :
    Calls Tryz.prog 80 #[.agg #[.string p.loc, .string p.off, .slice h.an h.nn h.cn, .slice h.ag h.ng h.cg, .slice h.ap h.np h.cp, .int .i64 p.tik.kind, .int .i64 p.tik.day, .int .i64 p.tik.min, .string p.rc, .slice h.ar h.nr h.cr, .slice h.ae h.ne h.ce, .bool p.queued], .agg #[.int .i64 e.kind, .string e.nam.last, .string e.nam.first, .string e.seg.car, .int .i64 e.seg.num, .int .i64 e.seg.day, .int .u8 e.seg.cls, .bool e.seg.live, .int .i64 e.tik.kind, .int .i64 e.tik.day, .int .i64 e.tik.min, .string e.text, .int .i64 e.n, .int .i64 e.pax, .int .i64 e.row, .int .u8 e.let_]] w (RetI w (whoseF p e)) := by
  have HP := Lib.hid hp
  have HL := Lib.hid hp.names.len
  clear hp
  obtain ⟨sn, sg, sp, sr, se⟩ := hs
  obtain ⟨e1, e2, e3, e4, e5, e6, e7, e8, e9⟩ := he
  have HO := Lib.hid e6
  unfold okInt at e6 e7
  have hS := SWE.start w p h e 29 50
  go_enter Tryz.func80, Tryz.ntmps80
  go_wp2_with fail
  refine (islive_any p _ e.n _ lo hi (HP.out.below hS.B hhi) sg (by have := hS.z; omega) HO.out).mono ?_
  rintro en w1 ⟨rfl, hb⟩
  have hS1 := hS.step hb
  clear hb hS
  have hx1 := hS1.box1
  have hx2 := hS1.box2
  rcases Bool.eq_false_or_eq_true (liveN p.segs e.n) with q1 | q1
  case inr =>
    have hw : Hid (whoseF p e = 16) := by show whoseF p e = 16; unfold whoseF; rw [q1]; rfl
    rw [q1]
    go_wp2
    go_ret
    exact ⟨ret_int hw.out.symm, hS1.B⟩
  rw [q1]
  have hw : Hid (whoseF p e = if 1 ≤ e.pax ∧ e.pax ≤ (h.nn : Int) then 0 else 17) := by show whoseF p e = _; unfold whoseF; rw [q1, ← HL.out]; rfl
  clear q1
  go_wp2
  all_goals go_ret
  all_goals exact ⟨ret_int (by rw [hw.out]; first | (rw [if_pos (by omega)]; done) | (rw [if_neg (by omega)]; done)), hS1.B⟩
end Go.Proofs.YtpgeoahlhdifoaaGreatDoor
