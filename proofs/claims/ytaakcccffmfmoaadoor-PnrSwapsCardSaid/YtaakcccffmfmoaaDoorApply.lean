/- What an edit does to a PNR, in plain words: the one function that both sides compute. -/
import Derived.Test.YtaakcccffmfmoaaDoorSame
import Derived.Test.YtaakcccffmfmoaaDoorFormed
import Derived.Test.YtaakcccffmfmoaaDoorTexts
import Derived.Test.YtaakcccffmfmoaaDoorSeat
namespace Go.Proofs.YtaakcccffmfmoaaDoor
set_option linter.unusedVariables false
open Go Go.RowKit
def keepP (sg px : Int) (x : Plc) : Bool := (x.seg != sg) || ((px != 0) && (x.pax != px))
def placesF (l : List Plc) (sg px : Int) : List Plc := l.filter (keepP sg px)
def whoseF (p : Pnr) (e : Edit) : Int := if liveN p.segs e.n then (if 1 ≤ e.pax ∧ e.pax ≤ p.names.length then 0 else 17) else 16
def takenB (e : Edit) (x : Plc) : Bool := (x.seg == e.n) && ((decide (x.row = e.row) && decide (x.let_ = e.let_)) && (x.pax != e.pax))
def afterB (e : Edit) (x : Plc) : Bool := decide (e.n < x.seg) || (decide (x.seg = e.n) && decide (e.pax < x.pax))
def mine (e : Edit) : Plc := ⟨e.n, e.pax, e.row, e.let_⟩
/-- A place among places, ahead of the first that comes behind it. -/
def insF (e : Edit) : List Plc → List Plc
  | [] => [mine e]
  | x :: t => if afterB e x then mine e :: x :: t else x :: insF e t
def seatF (p : Pnr) (e : Edit) : Pnr × Int :=
  if seatB e.row e.let_ = false then (p, 4) else
  if whoseF p e ≠ 0 then (p, whoseF p e) else
  if p.seats.any (takenB e) = true then (p, 14) else
  ({ p with seats := insF e (placesF p.seats e.n e.pax) }, 0)
def freeF (p : Pnr) (e : Edit) : Pnr × Int :=
  if whoseF p e ≠ 0 then (p, whoseF p e) else
  if (placesF p.seats e.n e.pax).length = p.seats.length then (p, 9) else
  ({ p with seats := placesF p.seats e.n e.pax }, 0)
def nameF (p : Pnr) (e : Edit) : Pnr × Int :=
  if nmB e.nam = false then (p, 4) else
  if p.loc.toList.isEmpty = false then (p, 7) else
  if 9 ≤ p.names.length then (p, 18) else
  ({ p with names := p.names ++ [e.nam] }, 0)
def segmentF (p : Pnr) (e : Edit) : Pnr × Int :=
  if (segB e.seg && e.seg.live) = false then (p, 4) else
  if dupL p.segs e.seg = true then (p, 8) else
  if 8 ≤ p.segs.length then (p, 18) else
  ({ p with segs := p.segs ++ [e.seg] }, 0)
def textF (l : List ByteArray) (s : ByteArray) (most : Int) : List ByteArray × Int :=
  if freeB s = false then (l, 4) else
  if most ≤ l.length then (l, 18) else (l ++ [s], 0)
def dead (s : Seg) : Seg := { s with live := false }
def cancelF (p : Pnr) (n : Int) : Pnr × Int :=
  if liveN p.segs n = false then (p, 16) else
  ({ p with segs := p.segs.modify (n - 1).toNat dead, seats := placesF p.seats n 0 }, 0)
def changeF (p : Pnr) (e : Edit) : Pnr × Int :=
  if e.kind = 1 then nameF p e else
  if e.kind = 2 then segmentF p e else
  if e.kind = 3 then ({ p with phones := (textF p.phones e.text 4).1 }, (textF p.phones e.text 4).2) else
  if e.kind = 4 then (if tikB e.tik = false then (p, 4) else ({ p with tik := e.tik, queued := false }, 0)) else
  if e.kind = 5 then (if freeB e.text = false then (p, 4) else ({ p with rc := e.text }, 0)) else
  if e.kind = 6 then ({ p with remarks := (textF p.remarks e.text 10).1 }, (textF p.remarks e.text 10).2) else
  if e.kind = 7 then cancelF p e.n else
  if e.kind = 8 then seatF p e else
  if e.kind = 9 then freeF p e else (p, 4)
def pnr0 : Pnr := ⟨⟨#[]⟩, ⟨#[]⟩, [], [], [], ⟨0, 0, 0⟩, ⟨#[]⟩, [], [], false⟩
def applyF (p : Pnr) (e : Edit) : Pnr × Int := if (changeF p e).2 ≠ 0 then (pnr0, (changeF p e).2) else ((changeF p e).1, 0)
def foldF (p : Pnr) : List Edit → Pnr × Nat × Int
  | [] => (p, 0, 0)
  | e :: t => if (applyF p e).2 ≠ 0 then (p, 0, (applyF p e).2) else
    let r := foldF (applyF p e).1 t
    (r.1, r.2.1 + 1, r.2.2)
theorem placesF_len (l : List Plc) (sg px : Int) : (placesF l sg px).length ≤ l.length := List.length_filter_le _ _
theorem insF_len (e : Edit) : ∀ l, (insF e l).length = l.length + 1
  | [] => rfl
  | x :: t => by
    unfold insF
    split
    · rfl
    · simp [insF_len e t]
theorem textF_len (l : List ByteArray) (t : ByteArray) (m : Int) : (textF l t m).1.length ≤ l.length + 1 := by
  unfold textF
  split
  · simp
  · split <;> simp
def Sm (N : Nat) (r : Pnr × Int) : Prop := r.1.small (N + 1)
theorem sm_ite {N : Nat} {c : Prop} [Decidable c] {a b : Pnr × Int} (ha : Sm N a) (hb : Sm N b) : Sm N (if c then a else b) := by split <;> assumption
/-- What comes of an edit is longer by one at most. -/
theorem changeF_small {p : Pnr} {e : Edit} {N : Nat} (h : p.small N) : (changeF p e).1.small (N + 1) := by
  have h0 := h.mono (show N ≤ N + 1 by omega)
  obtain ⟨h1, h2, h3, h4, h5⟩ := h
  have hp1 := placesF_len p.seats e.n e.pax
  have hp2 := placesF_len p.seats e.n 0
  have hp3 := insF_len e (placesF p.seats e.n e.pax)
  have ht1 := textF_len p.phones e.text 4
  have ht2 := textF_len p.remarks e.text 10
  show Sm N (changeF p e)
  unfold changeF nameF segmentF cancelF seatF freeF
  repeat' (refine sm_ite ?_ ?_)
  all_goals first
    | exact h0
    | (refine ⟨?_, ?_, ?_, ?_, ?_⟩ <;> first | omega | (dsimp only; omega) | (simp; omega))
end Go.Proofs.YtaakcccffmfmoaaDoor
