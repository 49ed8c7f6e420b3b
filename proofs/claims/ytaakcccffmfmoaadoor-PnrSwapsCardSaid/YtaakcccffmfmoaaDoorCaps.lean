/- PNRs in blocks that a predicate tells; nil slices have no room. -/
import Derived.Test.YtaakcccffmfmoaaDoorModel
namespace Go.Proofs.YtaakcccffmfmoaaDoor
set_option linter.unusedVariables false
open Go Go.RowKit
/-- A nil slice has no room. -/
structure Caps (h : Hd) : Prop where
  an : h.an = none → h.cn = 0
  ag : h.ag = none → h.cg = 0
  ap : h.ap = none → h.cp = 0
  ar : h.ar = none → h.cr = 0
  ae : h.ae = none → h.ce = 0
/-- A slice reads as a list; it lies in blocks of which S holds. -/
structure SlS {α : Type} (w : World) (S : Nat → Prop) (T : Ty α) (A : Option Addr) (n c : Nat) (l : List α) : Prop where
  len : l.length = n
  wf : ∀ x, x ∈ l → T.wf x
  nil : A = none → c = 0
  cells : 0 < n → ∃ b o, A = some ⟨b, o, none⟩ ∧ S b ∧ ∀ k x, l[k]? = some x → ∀ j u, (T.enc x)[j]? = some u → w.cell? ⟨b, o + k * T.sz + j, none⟩ = some u
section
variable {α : Type} {w w' : World} {S S' : Nat → Prop} {T : Ty α} {A : Option Addr} {n c : Nat} {l : List α} {lo hi : Nat}
theorem SlS.nil_ (w : World) (S : Nat → Prop) (T : Ty α) : SlS w S T none 0 0 [] := ⟨rfl, (fun _ h => absurd h List.not_mem_nil), fun _ => rfl, fun h => absurd h (by omega)⟩
theorem SlS.sl (h : SlS w S T A n c l) (hS : ∀ b, S b → lo ≤ b ∧ b < hi) : Sl w lo hi T A n l :=
  ⟨h.len, h.wf, fun hn => by
    obtain ⟨b, o, e, h1, h2⟩ := h.cells hn
    exact ⟨b, o, e, (hS b h1).1, (hS b h1).2, h2⟩⟩
theorem Sl.sls (h : Sl w lo hi T A n l) (hc : A = none → c = 0) : SlS w (fun b => lo ≤ b ∧ b < hi) T A n c l :=
  ⟨h.len, h.wf, hc, fun hn => by
    obtain ⟨b, o, e, h1, h2, h3⟩ := h.cells hn
    exact ⟨b, o, e, ⟨h1, h2⟩, h3⟩⟩
theorem SlS.mono (h : SlS w S T A n c l) (hS : ∀ b, S b → S' b) : SlS w S' T A n c l :=
  ⟨h.len, h.wf, h.nil, fun hn => by
    obtain ⟨b, o, e, h1, h2⟩ := h.cells hn
    exact ⟨b, o, e, hS b h1, h2⟩⟩
theorem SlS.keep (h : SlS w S T A n c l) (hk : ∀ p : Addr, S p.block → w'.cell? p = w.cell? p) : SlS w' S T A n c l :=
  ⟨h.len, h.wf, h.nil, fun hn => by
    obtain ⟨b, o, e, h1, h2⟩ := h.cells hn
    exact ⟨b, o, e, h1, fun k x hx j u hu => (hk _ h1).trans (h2 k x hx j u hu)⟩⟩
theorem SlS.below {B : Nat} (h : SlS w S T A n c l) (hb : Below B w w') (hS : ∀ b, S b → b < B) : SlS w' S T A n c l := h.keep fun _ hp => hb.cell (hS _ hp)
theorem SlS.drewN (h : SlS w S T A n c l) (k : Nat) : SlS (w.drewN k) S T A n c l := ⟨h.len, h.wf, h.nil, h.cells⟩
end
/-- A PNR's slices read so. -/
structure PS (w : World) (S : Nat → Prop) (p : Pnr) (h : Hd) : Prop where
  loc : okStr p.loc
  off : okStr p.off
  rc : okStr p.rc
  tik : p.tik.ok
  names : SlS w S tNam h.an h.nn h.cn p.names
  segs : SlS w S tSeg h.ag h.ng h.cg p.segs
  phones : SlS w S tStr h.ap h.np h.cp p.phones
  remarks : SlS w S tStr h.ar h.nr h.cr p.remarks
  seats : SlS w S tPlc h.ae h.ne h.ce p.seats
section
variable {w w' : World} {S S' : Nat → Prop} {p : Pnr} {h : Hd} {lo hi : Nat}
theorem PAt.ps (hp : PAt w lo hi p h) (hc : Caps h) : PS w (fun b => lo ≤ b ∧ b < hi) p h :=
  ⟨hp.loc, hp.off, hp.rc, hp.tik, hp.names.sls hc.an, hp.segs.sls hc.ag, hp.phones.sls hc.ap, hp.remarks.sls hc.ar, hp.seats.sls hc.ae⟩
theorem PS.at (hp : PS w S p h) (hS : ∀ b, S b → lo ≤ b ∧ b < hi) : PAt w lo hi p h :=
  ⟨hp.loc, hp.off, hp.rc, hp.tik, hp.names.sl hS, hp.segs.sl hS, hp.phones.sl hS, hp.remarks.sl hS, hp.seats.sl hS⟩
theorem PS.caps (hp : PS w S p h) : Caps h := ⟨hp.names.nil, hp.segs.nil, hp.phones.nil, hp.remarks.nil, hp.seats.nil⟩
theorem PS.mono (hp : PS w S p h) (hS : ∀ b, S b → S' b) : PS w S' p h :=
  ⟨hp.loc, hp.off, hp.rc, hp.tik, hp.names.mono hS, hp.segs.mono hS, hp.phones.mono hS, hp.remarks.mono hS, hp.seats.mono hS⟩
theorem PS.keep (hp : PS w S p h) (hk : ∀ q : Addr, S q.block → w'.cell? q = w.cell? q) : PS w' S p h :=
  ⟨hp.loc, hp.off, hp.rc, hp.tik, hp.names.keep hk, hp.segs.keep hk, hp.phones.keep hk, hp.remarks.keep hk, hp.seats.keep hk⟩
theorem PS.below {B : Nat} (hp : PS w S p h) (hb : Below B w w') (hS : ∀ b, S b → b < B) : PS w' S p h := hp.keep fun _ hq => hb.cell (hS _ hq)
theorem PS.drewN (hp : PS w S p h) (k : Nat) : PS (w.drewN k) S p h := hp.keep fun _ _ => rfl
/-- A PNR in old memory. -/
theorem PS.old (hp : PS w S p h) (hS : ∀ b, S b → b < w.heap.size) : PAt w 0 w.heap.size p h := hp.at fun b hb => ⟨Nat.zero_le _, hS b hb⟩
end
/-- How long a PNR's lists are at most. -/
structure Pnr.small (p : Pnr) (N : Nat) : Prop where
  names : p.names.length ≤ N
  segs : p.segs.length ≤ N
  phones : p.phones.length ≤ N
  remarks : p.remarks.length ≤ N
  seats : p.seats.length ≤ N
theorem Pnr.small.mono {p : Pnr} {N M : Nat} (h : p.small N) (hM : N ≤ M) : p.small M := ⟨by have := h.names; omega, by have := h.segs; omega, by have := h.phones; omega, by have := h.remarks; omega, by have := h.seats; omega⟩
theorem Pnr.small.hd {w : World} {lo hi : Nat} {p : Pnr} {h : Hd} (hs : p.small 100000) (hp : PAt w lo hi p h) : Small h :=
  ⟨by have := hs.names; have := hp.names.len; omega, by have := hs.segs; have := hp.segs.len; omega, by have := hs.phones; have := hp.phones.len; omega, by have := hs.remarks; have := hp.remarks.len; omega, by have := hs.seats; have := hp.seats.len; omega⟩
def Edit.ok (e : Edit) : Prop := okInt e.kind ∧ e.nam.ok ∧ e.seg.ok ∧ e.tik.ok ∧ okStr e.text ∧ okInt e.n ∧ okInt e.pax ∧ okInt e.row ∧ okByte e.let_
end Go.Proofs.YtaakcccffmfmoaaDoor
