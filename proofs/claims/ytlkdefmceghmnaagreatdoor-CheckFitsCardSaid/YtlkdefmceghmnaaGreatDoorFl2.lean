/- Flights: what the document says of them: right or not, a table or none, which fly, which lead from a city to another. No program walked. -/
import Derived.Test.YtlkdefmceghmnaaGreatDoorFl1
import Derived.Test.YtlkdefmceghmnaaGreatDoorFCode
namespace Go.Proofs.YtlkdefmceghmnaaGreatDoor
set_option linter.unusedVariables false
open Go Go.RowKit
/-- The class at a place is right. -/
def clI (l : List Cls) (i : Nat) : Bool :=
  match l[i]? with
  | none => false
  | some x => isL x.let_ && (decide (0 ≤ x.lev) && (decide (x.lev ≤ 400) && (decide (i = 0) || (match l[i - 1]? with | some y => decide (y.let_ < x.let_) | none => false))))
/-- What is asked of a flight beside its times and classes. -/
def rightA (f : Flt) : Bool := carrierB f.car && (decide (1 ≤ f.num) && (decide (f.num ≤ 9999) && (wordB f.frm 3 3 && (wordB f.to_ 3 3 && !(decide (f.frm = f.to_))))))
def rightC (f : Flt) : Bool := decide (1 ≤ f.days) && (decide (f.days ≤ 127) && (decide (0 ≤ f.pln) && (decide (f.pln < 8) && (decide (1 ≤ f.cls.length) && decide (f.cls.length ≤ 6)))))
def minB (m : Int) : Bool := decide (0 ≤ m) && decide (m < 1440)
def rightB (f : Flt) : Bool := rightA f && (rightC f && (minB f.dep && (minB f.arr && allP (clI f.cls) f.cls.length)))
/-- What is wrong with a list of flights. -/
def newF (l : List Flt) : Int := if 64 < l.length then 2 else if l.all rightB then (if (l.map Flt.key).Nodup then 0 else 8) else 4
def findF (l : List Flt) (k : Key) : Option Flt := l.find? fun f => decide (f.key = k)
/-- A flight flies on a day. -/
def bitB (days : Int) (w : Int) : Bool := decide (0 < w) && decide (days / (2 ^ (w - 1).toNat : Nat) % 2 = 1)
def onB (f : Flt) (d : Int) : Bool := bitB f.days (wkd d)
structure Leg where
  key : Key
  day : Int
instance : DecidableEq Leg := fun a b => decidable_of_iff (a.key = b.key ∧ a.day = b.day) (by cases a; cases b; simp)
def Leg.ok (l : Leg) : Prop := l.key.ok ∧ okInt l.day
def fliesF (l : List Flt) (g : Leg) : Bool := match findF l g.key with | some f => onB f g.day | none => false
def lvF (l : List Cls) (c : Int) : Int × Int := match l.find? fun x => decide (x.let_ = c) with | some x => (x.lev, 0) | none => (0, 12)
def levelF (l : List Flt) (g : Leg) (c : Int) : Int × Int := if fliesF l g then (match findF l g.key with | some f => lvF f.cls c | none => (0, 12)) else (0, 9)
def wayB (d : Int) (a b : ByteArray) (f : Flt) : Bool := onB f d && (decide (f.frm = a) && decide (f.to_ = b))
def betwF (l : List Flt) (d : Int) (a b : ByteArray) : List Flt := allL ltT (l.filter (wayB d a b))
/-- Two flights are a link. -/
def linkB (a b : ByteArray) (x y : Flt) : Bool := decide (x.frm = a) && (decide (x.to_ = y.frm) && (decide (y.to_ = b) && (decide (x.dep ≤ x.arr) && decide (45 ≤ y.dep - x.arr))))
def pairsF (l m : List Flt) (p : Flt → Flt → Bool) : List (Flt × Flt) := l.flatMap fun x => (m.filter (p x)).map fun y => (x, y)
def linksF (l : List Flt) (d : Int) (a b : ByteArray) : List (Flt × Flt) :=
  pairsF (allL ltT (l.filter fun f => onB f d)) (allL ltT (l.filter fun f => onB f d)) (linkB a b)
/-- A table's list: it rises, all are right, no key twice. -/
structure Tab (l L : List Flt) : Prop where
  perm : L.Perm l
  ris : RisL ltF L
  right : ∀ f ∈ l, rightB f = true
  nod : (l.map Flt.key).Nodup
  most : l.length ≤ 64
end Go.Proofs.YtlkdefmceghmnaaGreatDoor
