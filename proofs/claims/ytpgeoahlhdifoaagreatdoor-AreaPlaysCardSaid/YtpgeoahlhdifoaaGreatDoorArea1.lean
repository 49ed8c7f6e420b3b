/- What a terminal has: the data, how it lies in cells, what the calls make of it. -/
import Derived.Test.YtpgeoahlhdifoaaGreatDoorMPnr10
namespace Go.Proofs.YtpgeoahlhdifoaaGreatDoor
set_option linter.unusedVariables false
open Go Go.RowKit
structure Lg where
  car : ByteArray
  num : Int
  day : Int
def Lg.ok (x : Lg) : Prop := okStr x.car ∧ okInt x.num ∧ okInt x.day
def tLeg : Ty Lg := ⟨fun x => [.string x.car, .int .i64 x.num, .int .i64 x.day], 3, Lg.ok, fun _ => rfl, fun x u h => by simp at h; rcases h with h | h | h <;> subst h <;> rfl, by omega⟩
def okU64 (n : Int) : Prop := 0 ≤ n ∧ n ≤ 18446744073709551615
structure Ar where
  agent : ByteArray
  off : ByteArray
  open_ : Bool
  base : Pnr
  ver : Int
  edits : List Edit
  legs : List Lg
  working : Bool
  queue : Int
/-- The heads of its slices. -/
structure AH where
  b : Hd
  ad : Option Addr
  nd : Nat
  cd : Nat
  al : Option Addr
  nl : Nat
  cl : Nat
structure Ar.small (a : Ar) (N : Nat) : Prop where
  base : a.base.small N
  edits : a.edits.length ≤ N
  legs : a.legs.length ≤ N
theorem Ar.small.mono {a : Ar} {N M : Nat} (h : a.small N) (hM : N ≤ M) : a.small M := ⟨h.base.mono hM, by have := h.edits; omega, by have := h.legs; omega⟩
/-- An area in memory of its own, from block B on. -/
structure OA (w : World) (B : Nat) (a : Ar) (h : AH) : Prop where
  agent : okStr a.agent
  off : okStr a.off
  ver : okU64 a.ver
  queue : okInt a.queue
  base : OP w B a.base h.b
  edits : Own w B 50 tEdit (.slice h.ad h.nd h.cd) a.edits
  legs : Own w B 44 tLeg (.slice h.al h.nl h.cl) a.legs
/-- An area as it reads, its rows in the blocks of S. -/
structure AS (w : World) (S : Nat → Prop) (a : Ar) (h : AH) : Prop where
  agent : okStr a.agent
  off : okStr a.off
  ver : okU64 a.ver
  queue : okInt a.queue
  base : PS w S a.base h.b
  edits : SlS w S tEdit h.ad h.nd h.cd a.edits
  legs : SlS w S tLeg h.al h.nl h.cl a.legs
section
variable {w w' : World} {B : Nat} {S S' : Nat → Prop} {a : Ar} {h : AH}
theorem OA.keep (H : OA w B a h) (hb : Below w.heap.size w w') : OA w' B a h := ⟨H.agent, H.off, H.ver, H.queue, H.base.keep hb, H.edits.keep hb, H.legs.keep hb⟩
theorem OA.alloc (H : OA w B a h) (o : Obj) : OA (w.alloc o) B a h := H.keep ((Below.refl _ _).alloc (Nat.le_refl _) o)
theorem OA.more {B' : Nat} (H : OA w B a h) (hB : B' ≤ B) : OA w B' a h := ⟨H.agent, H.off, H.ver, H.queue, H.base.more hB, H.edits.more hB, H.legs.more hB⟩
theorem OA.as (H : OA w B a h) : AS w (fun b => B ≤ b ∧ b < w.heap.size) a h := ⟨H.agent, H.off, H.ver, H.queue, H.base.ps, H.edits.sls, H.legs.sls⟩
theorem AS.mono (H : AS w S a h) (hS : ∀ b, S b → S' b) : AS w S' a h := ⟨H.agent, H.off, H.ver, H.queue, H.base.mono hS, H.edits.mono hS, H.legs.mono hS⟩
theorem AS.keep (H : AS w S a h) (hk : ∀ q : Addr, S q.block → w'.cell? q = w.cell? q) : AS w' S a h := ⟨H.agent, H.off, H.ver, H.queue, H.base.keep hk, H.edits.keep hk, H.legs.keep hk⟩
theorem AS.below {D : Nat} (H : AS w S a h) (hb : Below D w w') (hS : ∀ b, S b → b < D) : AS w' S a h := H.keep fun _ hq => hb.cell (hS _ hq)
end
/-- The calls, in plain words. -/
def ar0 : Ar := ⟨⟨#[]⟩, ⟨#[]⟩, false, pnr0, 0, [], [], false, 0⟩
def ah0 : AH := ⟨hd0, none, 0, 0, none, 0, 0⟩
theorem ar0_oa (w : World) (B : Nat) : OA w B ar0 ah0 :=
  ⟨by simp [okStr, ar0, ByteArray.size], by simp [okStr, ar0, ByteArray.size], by simp [okU64, ar0], by simp [okInt, ar0], pnr0_op w B, Own.nil_ _ _ _ _, Own.nil_ _ _ _ _⟩
def noOne (a : Ar) : Bool := a.agent.toList.isEmpty
def signedF (a : Ar) : Ar × Int := if noOne a then (ar0, 50) else (a, 0)
def idleF (a : Ar) : Ar × Int := if noOne a then (ar0, 50) else if 0 < a.edits.length then (ar0, 53) else (a, 0)
def pnrF (a : Ar) : Pnr := (foldF a.base a.edits).1
def editF (a : Ar) (e : Edit) : Ar × Int :=
  if noOne a then (ar0, 50) else if 100 ≤ a.edits.length then (ar0, 18) else
  if (applyF (pnrF a) e).2 ≠ 0 then (ar0, (applyF (pnrF a) e).2) else ({ a with open_ := true, edits := a.edits ++ [e] }, 0)
def loadF (a : Ar) (p : Pnr) (v : Int) : Ar × Int :=
  if (idleF a).2 ≠ 0 then idleF a else ({ a with open_ := true, ver := v, base := p }, 0)
def ignoreF (a : Ar) : Ar × Int :=
  if noOne a then (ar0, 50) else if a.open_ = false then (ar0, 52) else ({ a with open_ := false, base := pnr0, ver := 0, edits := [] }, 0)
def listF (a : Ar) (l : List Lg) : Ar × Int := if noOne a then (ar0, 50) else ({ a with legs := l }, 0)
def workF (a : Ar) (n : Int) : Ar × Int :=
  if noOne a = false ∧ (n < 0 ∨ 100 ≤ n) then (ar0, 1) else if (idleF a).2 ≠ 0 then idleF a else ({ a with working := true, queue := n }, 0)
def leaveF (a : Ar) : Ar × Int := if noOne a then (ar0, 50) else if a.working = false then (ar0, 55) else ({ a with working := false, queue := 0 }, 0)
/-- What a call hands back: an area in new memory, and an error. -/
def RetA (w : World) (r : Ar × Int) (en : Ending) (w' : World) : Prop :=
  ∃ h', en = .returned (.tuple #[.agg #[.string r.1.agent, .string r.1.off, .bool r.1.open_, .string r.1.base.loc, .string r.1.base.off, .slice h'.b.an h'.b.nn h'.b.cn, .slice h'.b.ag h'.b.ng h'.b.cg, .slice h'.b.ap h'.b.np h'.b.cp, .int .i64 r.1.base.tik.kind, .int .i64 r.1.base.tik.day, .int .i64 r.1.base.tik.min, .string r.1.base.rc, .slice h'.b.ar h'.b.nr h'.b.cr, .slice h'.b.ae h'.b.ne h'.b.ce, .bool r.1.base.queued, .int .u64 r.1.ver, .slice h'.ad h'.nd h'.cd, .slice h'.al h'.nl h'.cl, .bool r.1.working, .int .i64 r.1.queue], .int .i64 r.2]) ∧ OA w' w.heap.size r.1 h' ∧ Below w.heap.size w w'
theorem RetA.mk' {w w' : World} {r : Ar × Int} {a : Ar} {n : Int} {h' : AH} (e : r = (a, n)) (hp : OA w' w.heap.size a h') (hb : Below w.heap.size w w') : RetA w r (.returned (.tuple #[.agg #[.string a.agent, .string a.off, .bool a.open_, .string a.base.loc, .string a.base.off, .slice h'.b.an h'.b.nn h'.b.cn, .slice h'.b.ag h'.b.ng h'.b.cg, .slice h'.b.ap h'.b.np h'.b.cp, .int .i64 a.base.tik.kind, .int .i64 a.base.tik.day, .int .i64 a.base.tik.min, .string a.base.rc, .slice h'.b.ar h'.b.nr h'.b.cr, .slice h'.b.ae h'.b.ne h'.b.ce, .bool a.base.queued, .int .u64 a.ver, .slice h'.ad h'.nd h'.cd, .slice h'.al h'.nl h'.cl, .bool a.working, .int .i64 a.queue], .int .i64 n])) w' := by
  subst e
  exact ⟨h', rfl, hp, hb⟩
abbrev aC (a : Ar) (h : AH) : Array Value := #[.string a.agent, .string a.off, .bool a.open_, .string a.base.loc, .string a.base.off, .slice h.b.an h.b.nn h.b.cn, .slice h.b.ag h.b.ng h.b.cg, .slice h.b.ap h.b.np h.b.cp, .int .i64 a.base.tik.kind, .int .i64 a.base.tik.day, .int .i64 a.base.tik.min, .string a.base.rc, .slice h.b.ar h.b.nr h.b.cr, .slice h.b.ae h.b.ne h.b.ce, .bool a.base.queued, .int .u64 a.ver, .slice h.ad h.nd h.cd, .slice h.al h.nl h.cl, .bool a.working, .int .i64 a.queue]
abbrev aZ : Array Value := #[.string ⟨#[]⟩, .string ⟨#[]⟩, .bool false, .string ⟨#[]⟩, .string ⟨#[]⟩, .slice none 0 0, .slice none 0 0, .slice none 0 0, .int .i64 0, .int .i64 0, .int .i64 0, .string ⟨#[]⟩, .slice none 0 0, .slice none 0 0, .bool false, .int .u64 0, .slice none 0 0, .slice none 0 0, .bool false, .int .i64 0]
theorem aC_one (a : Ar) (h : AH) : ((aC a h).all fun v => v.oneCell') = true := by simp [aC, Value.oneCell']
theorem aZ_one : (aZ.all fun v => v.oneCell') = true := by simp [aZ, Value.oneCell']
end Go.Proofs.YtpgeoahlhdifoaaGreatDoor
