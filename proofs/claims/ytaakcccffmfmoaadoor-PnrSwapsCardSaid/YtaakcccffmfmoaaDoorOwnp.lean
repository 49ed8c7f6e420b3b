/- A PNR of a call's own: its five rows lie in blocks from B on, which differ; how each of them is turned and the others kept. -/
import Derived.Test.YtaakcccffmfmoaaDoorSplice
namespace Go.Proofs.YtaakcccffmfmoaaDoor
set_option linter.unusedVariables false
open Go Go.RowKit
/-- Two addresses that don't lie in one block. -/
def Df (a b : Option Addr) : Prop := ∀ x y, a = some x → b = some y → x.block ≠ y.block
theorem Df.symm {a b : Option Addr} (h : Df a b) : Df b a := fun x y hx hy => (h y x hy hx).symm
def bk (A : Option Addr) : Option Nat := A.map (·.block)
theorem ownBlock_bk (A : Option Addr) (n c : Nat) : (Value.slice A n c).ownBlock = bk A := by cases A <;> rfl
theorem Df.bk {a b : Option Addr} (h : Df a b) : ∀ k, bk b = some k → bk a ≠ some k := fun k hb ha => by
  cases a with
  | none => cases ha
  | some x => cases b with
    | none => cases hb
    | some y =>
      have e1 : y.block = k := by simpa [Go.Proofs.YtaakcccffmfmoaaDoor.bk] using hb
      have e2 : x.block = k := by simpa [Go.Proofs.YtaakcccffmfmoaaDoor.bk] using ha
      exact h x y rfl rfl (by rw [e1, e2])
structure OP (w : World) (B : Nat) (p : Pnr) (h : Hd) : Prop where
  loc : okStr p.loc
  off : okStr p.off
  rc : okStr p.rc
  tik : p.tik.ok
  names : Own w B 39 tNam (.slice h.an h.nn h.cn) p.names
  segs : Own w B 45 tSeg (.slice h.ag h.ng h.cg) p.segs
  phones : Own w B 9 tStr (.slice h.ap h.np h.cp) p.phones
  remarks : Own w B 9 tStr (.slice h.ar h.nr h.cr) p.remarks
  seats : Own w B 67 tPlc (.slice h.ae h.ne h.ce) p.seats
structure Ap (h : Hd) : Prop where
  ng : Df h.an h.ag
  np : Df h.an h.ap
  nr : Df h.an h.ar
  ne : Df h.an h.ae
  gp : Df h.ag h.ap
  gr : Df h.ag h.ar
  ge : Df h.ag h.ae
  pr : Df h.ap h.ar
  pe : Df h.ap h.ae
  re : Df h.ar h.ae
section
variable {w w' : World} {B : Nat} {p : Pnr} {h : Hd}
theorem OP.keep (H : OP w B p h) (hb : Below w.heap.size w w') : OP w' B p h :=
  ⟨H.loc, H.off, H.rc, H.tik, H.names.keep hb, H.segs.keep hb, H.phones.keep hb, H.remarks.keep hb, H.seats.keep hb⟩
theorem OP.alloc (H : OP w B p h) (o : Obj) : OP (w.alloc o) B p h := H.keep ((Below.refl _ _).alloc (Nat.le_refl _) o)
theorem OP.drewN (H : OP w B p h) (k : Nat) : OP (w.drewN k) B p h := H.keep (below_drewN (Below.refl _ _) k)
theorem OP.more {B' : Nat} (H : OP w B p h) (hB : B' ≤ B) : OP w B' p h :=
  ⟨H.loc, H.off, H.rc, H.tik, H.names.more hB, H.segs.more hB, H.phones.more hB, H.remarks.more hB, H.seats.more hB⟩
theorem OP.at (H : OP w B p h) : PAt w B w.heap.size p h :=
  ⟨H.loc, H.off, H.rc, H.tik, H.names.sl, H.segs.sl, H.phones.sl, H.remarks.sl, H.seats.sl⟩
theorem OP.ps (H : OP w B p h) : PS w (fun b => B ≤ b ∧ b < w.heap.size) p h :=
  ⟨H.loc, H.off, H.rc, H.tik, H.names.sls, H.segs.sls, H.phones.sls, H.remarks.sls, H.seats.sls⟩
theorem OP.hd (H : OP w B p h) (hs : p.small 100000) : Small h := hs.hd H.at
/-- A row's block lies from B on, ahead of the heap's end. -/
theorem Own.bk_lt {α : Type} {T : Ty α} {E : TypeId} {A : Option Addr} {n c : Nat} {l : List α} (H : Own w B E T (.slice A n c) l) : ∀ k, bk A = some k → B ≤ k ∧ k < w.heap.size :=
  fun k hk => H.lt k (by rw [ownBlock_bk]; exact hk)
theorem Own.off {α : Type} {T : Ty α} {E : TypeId} {A A' : Option Addr} {n c : Nat} {l : List α} (H : Own w B E T (.slice A n c) l) (hg : w.grownBy w' (bk A')) (hd : Df A' A) : Own w' B E T (.slice A n c) l :=
  H.kept hg fun k hk => hd.bk k (by rw [← ownBlock_bk A n c]; exact hk)
/-- A store into a block that is none of the rows'. -/
theorem OP.set {a : Addr} (H : OP w B p h) (ha : a.block < B) (u : Value) : OP (w.setCell a u) B p h :=
  ⟨H.loc, H.off, H.rc, H.tik, H.names.setCell ha u, H.segs.setCell ha u, H.phones.setCell ha u, H.remarks.setCell ha u, H.seats.setCell ha u⟩
/-- .. behind the rows. -/
theorem OP.grown {g : Nat} (H : OP w B p h) (hr : ∀ k, bk h.an = some k ∨ bk h.ag = some k ∨ bk h.ap = some k ∨ bk h.ar = some k ∨ bk h.ae = some k → k ≠ g) (hg : w.grownBy w' (some g)) : OP w' B p h :=
  ⟨H.loc, H.off, H.rc, H.tik, H.names.kept hg fun k hk e => hr k (.inl (by rw [← ownBlock_bk]; exact hk)) (by injection e with e; exact e.symm),
    H.segs.kept hg fun k hk e => hr k (.inr (.inl (by rw [← ownBlock_bk]; exact hk))) (by injection e with e; exact e.symm),
    H.phones.kept hg fun k hk e => hr k (.inr (.inr (.inl (by rw [← ownBlock_bk]; exact hk)))) (by injection e with e; exact e.symm),
    H.remarks.kept hg fun k hk e => hr k (.inr (.inr (.inr (.inl (by rw [← ownBlock_bk]; exact hk))))) (by injection e with e; exact e.symm),
    H.seats.kept hg fun k hk e => hr k (.inr (.inr (.inr (.inr (by rw [← ownBlock_bk]; exact hk))))) (by injection e with e; exact e.symm)⟩
theorem OP.names' (H : OP w B p h) (D : Ap h) (hg : w.grownBy w' (bk h.an)) {A : Option Addr} {n c : Nat} {l : List Nam} (hn : Own w' B 39 tNam (.slice A n c) l) : OP w' B { p with names := l } { h with an := A, nn := n, cn := c } :=
  ⟨H.loc, H.off, H.rc, H.tik, hn, H.segs.off hg D.ng, H.phones.off hg D.np, H.remarks.off hg D.nr, H.seats.off hg D.ne⟩
theorem OP.segs' (H : OP w B p h) (D : Ap h) (hg : w.grownBy w' (bk h.ag)) {A : Option Addr} {n c : Nat} {l : List Seg} (hn : Own w' B 45 tSeg (.slice A n c) l) : OP w' B { p with segs := l } { h with ag := A, ng := n, cg := c } :=
  ⟨H.loc, H.off, H.rc, H.tik, H.names.off hg D.ng.symm, hn, H.phones.off hg D.gp, H.remarks.off hg D.gr, H.seats.off hg D.ge⟩
theorem OP.phones' (H : OP w B p h) (D : Ap h) (hg : w.grownBy w' (bk h.ap)) {A : Option Addr} {n c : Nat} {l : List ByteArray} (hn : Own w' B 9 tStr (.slice A n c) l) : OP w' B { p with phones := l } { h with ap := A, np := n, cp := c } :=
  ⟨H.loc, H.off, H.rc, H.tik, H.names.off hg D.np.symm, H.segs.off hg D.gp.symm, hn, H.remarks.off hg D.pr, H.seats.off hg D.pe⟩
theorem OP.remarks' (H : OP w B p h) (D : Ap h) (hg : w.grownBy w' (bk h.ar)) {A : Option Addr} {n c : Nat} {l : List ByteArray} (hn : Own w' B 9 tStr (.slice A n c) l) : OP w' B { p with remarks := l } { h with ar := A, nr := n, cr := c } :=
  ⟨H.loc, H.off, H.rc, H.tik, H.names.off hg D.nr.symm, H.segs.off hg D.gr.symm, H.phones.off hg D.pr.symm, hn, H.seats.off hg D.re⟩
theorem OP.seats' (H : OP w B p h) (D : Ap h) (hg : w.grownBy w' (bk h.ae)) {A : Option Addr} {n c : Nat} {l : List Plc} (hn : Own w' B 67 tPlc (.slice A n c) l) : OP w' B { p with seats := l } { h with ae := A, ne := n, ce := c } :=
  ⟨H.loc, H.off, H.rc, H.tik, H.names.off hg D.ne.symm, H.segs.off hg D.ge.symm, H.phones.off hg D.pe.symm, H.remarks.off hg D.re.symm, hn⟩
/-- The seats in a row of new memory. -/
theorem OP.withSeats (H : OP w B p h) {A : Option Addr} {n c : Nat} {l : List Plc} (hn : Own w B 67 tPlc (.slice A n c) l) : OP w B { p with seats := l } { h with ae := A, ne := n, ce := c } :=
  ⟨H.loc, H.off, H.rc, H.tik, H.names, H.segs, H.phones, H.remarks, hn⟩
end
/-- The blocks of a PNR's rows. -/
def rowP (h : Hd) (k : Nat) : Prop := bk h.an = some k ∨ bk h.ag = some k ∨ bk h.ap = some k ∨ bk h.ar = some k ∨ bk h.ae = some k
/-- A PNR (its cells pc) and an edit in boxes of the call's own, and the block of the result (its cells rc), where rows from B on are turned too. -/
structure FB (w : World) (D : Nat) (R : Nat → Prop) (pc ec rc : Array Value) (W : World) : Prop where
  B : Below D w W
  le : D ≤ w.heap.size
  kp : ∀ k, k < w.heap.size → ¬ R k → W.heap[k]? = w.heap[k]?
  r1 : Bx W w.heap.size pc 29
  r2 : Bx W (w.heap.size + 1) ec 49
  r3 : Bx W (w.heap.size + 1 + 1) rc 29
section
variable {w : World} {B : Nat} {R : Nat → Prop} {pc ec rc : Array Value} {W W1 : World}
theorem FR.fb (H : FR w pc ec rc W) (hB : B ≤ w.heap.size) : FB w B R pc ec rc W := ⟨H.B.mono hB, hB, fun k hk _ => H.B.block k hk, H.r1, H.r2, H.r3⟩
theorem FB.start (w : World) (pc ec rc : Array Value) (hB : B ≤ w.heap.size) : FB w B R pc ec rc (((w.alloc (.cells pc 29)).alloc (.cells ec 49)).alloc (.cells rc 29)) :=
  (FR.start w pc ec rc).fb hB
theorem FB.z (H : FB w B R pc ec rc W) : w.heap.size + 1 + 1 < W.heap.size := H.r3.lt
theorem FB.step (H : FB w B R pc ec rc W) (hb : Below W.heap.size W W1) : FB w B R pc ec rc W1 :=
  ⟨H.B.trans (hb.mono (by have := H.z; have := H.le; omega)), H.le, fun k hk hr => (hb.block k (by have := H.z; omega)).trans (H.kp k hk hr), H.r1.below hb H.r1.lt, H.r2.below hb H.r2.lt, H.r3.below hb H.r3.lt⟩
theorem FB.alloc (H : FB w B R pc ec rc W) (o : Obj) : FB w B R pc ec rc (W.alloc o) := H.step ((Below.refl _ _).alloc (Nat.le_refl _) _)
theorem FB.drewN (H : FB w B R pc ec rc W) (n : Nat) : FB w B R pc ec rc (W.drewN n) := ⟨below_drewN H.B n, H.le, H.kp, H.r1, H.r2, H.r3⟩
theorem FB.drew (H : FB w B R pc ec rc W) : FB w B R pc ec rc W.drew := H.drewN 1
theorem FB.put1 (H : FB w B R pc ec rc W) (i : Nat) (u : Value) : FB w B R (pc.setIfInBounds i u) ec rc (W.setCell ⟨w.heap.size, i, none⟩ u) :=
  ⟨H.B.setCell H.le _, H.le, fun k hk hr => (Below.heap_setCell W _ u k (by simp; omega)).trans (H.kp k hk hr), H.r1.put i u, H.r2.other (by simp) u, H.r3.other (by simp; omega) u⟩
theorem FB.put3 (H : FB w B R pc ec rc W) (cs : Array Value) : FB w B R pc ec cs (W.setRow (w.heap.size + 1 + 1) cs) :=
  ⟨below_setRow H.B (by have := H.le; omega) _, H.le, fun k hk hr => (setRow_other W _ k cs (by omega)).trans (H.kp k hk hr), H.r1.rowOther (by omega) _, H.r2.rowOther (by omega) _, H.r3.row cs⟩
/-- A row from B on is turned, which is none of the boxes. -/
theorem FB.grown {row : Option Nat} (H : FB w B R pc ec rc W) (hg : W.grownBy W1 row) (hr : ∀ k, row = some k → B ≤ k ∧ (R k ∧ k < w.heap.size ∨ w.heap.size + 1 + 1 < k)) : FB w B R pc ec rc W1 :=
  ⟨H.B.grown hg (by have := H.z; have := H.le; omega) (fun k hk => (hr k hk).1), H.le, fun k hk hR => (hg.block k (by have := H.z; omega) (fun e => by have := (hr k e.symm).2; rcases this with h | h <;> first | exact hR h.1 | omega)).trans (H.kp k hk hR), H.r1.grown hg (fun e => by have := hr _ e; omega), H.r2.grown hg (fun e => by have := hr _ e; omega), H.r3.grown hg (fun e => by have := hr _ e; omega)⟩
theorem FB.c1 (H : FB w B R pc ec rc W) : ∀ i, W.cell? ⟨w.heap.size, i, none⟩ = pc[i]? := H.r1.cells
theorem FB.c2 (H : FB w B R pc ec rc W) : ∀ i, W.cell? ⟨w.heap.size + 1, i, none⟩ = ec[i]? := H.r2.cells
theorem FB.c3 (H : FB w B R pc ec rc W) : ∀ i, W.cell? ⟨w.heap.size + 1 + 1, i, none⟩ = rc[i]? := H.r3.cells
theorem FB.f1 (H : FB w B R pc ec rc W) : ∀ i, W.frozen? ⟨w.heap.size, i, none⟩ = false := H.r1.free
theorem FB.f3 (H : FB w B R pc ec rc W) : ∀ i, W.frozen? ⟨w.heap.size + 1 + 1, i, none⟩ = false := H.r3.free
end
/-- The rows of a PNR lie ahead of m. -/
def RB (h : Hd) (m : Nat) : Prop := ∀ k, rowP h k → k < m
theorem OP.rb {w : World} {B : Nat} {p : Pnr} {h : Hd} (H : OP w B p h) : RB h w.heap.size := fun k hk => by
  rcases hk with hk | hk | hk | hk | hk
  · exact (H.names.bk_lt k hk).2
  · exact (H.segs.bk_lt k hk).2
  · exact (H.phones.bk_lt k hk).2
  · exact (H.remarks.bk_lt k hk).2
  · exact (H.seats.bk_lt k hk).2
/-- A PNR of one's own whose rows are old, with the call's boxes. -/
structure FO (w : World) (D : Nat) (p : Pnr) (h : Hd) (pc ec rc : Array Value) (W : World) : Prop where
  fb : FB w D (rowP h) pc ec rc W
  op : OP W D p h
  lt : RB h w.heap.size
section
variable {w : World} {D : Nat} {p : Pnr} {h : Hd} {pc ec rc : Array Value} {W W1 : World}
theorem FO.start (H : OP w D p h) (hD : D ≤ w.heap.size) (pc ec rc : Array Value) : FO w D p h pc ec rc (((w.alloc (.cells pc 29)).alloc (.cells ec 49)).alloc (.cells rc 29)) :=
  ⟨FB.start w pc ec rc hD, ((H.alloc _).alloc _).alloc _, H.rb⟩
theorem FO.z (H : FO w D p h pc ec rc W) : w.heap.size + 1 + 1 < W.heap.size := H.fb.z
theorem FO.step (H : FO w D p h pc ec rc W) (hb : Below W.heap.size W W1) : FO w D p h pc ec rc W1 := ⟨H.fb.step hb, H.op.keep hb, H.lt⟩
theorem FO.alloc (H : FO w D p h pc ec rc W) (o : Obj) : FO w D p h pc ec rc (W.alloc o) := H.step ((Below.refl _ _).alloc (Nat.le_refl _) _)
theorem FO.drewN (H : FO w D p h pc ec rc W) (n : Nat) : FO w D p h pc ec rc (W.drewN n) := H.step (below_drewN (Below.refl _ _) n)
theorem FO.put1 (H : FO w D p h pc ec rc W) (i : Nat) (u : Value) : FO w D p h (pc.setIfInBounds i u) ec rc (W.setCell ⟨w.heap.size, i, none⟩ u) :=
  ⟨H.fb.put1 i u, H.op.grown (g := w.heap.size) (fun k hk => by have := H.lt k hk; omega) ⟨rfl, rfl, rfl, by simp, fun k _ hne => Below.heap_setCell W _ u k (fun e => hne (by rw [e]))⟩, H.lt⟩
theorem FO.put3 (H : FO w D p h pc ec rc W) (cs : Array Value) : FO w D p h pc ec cs (W.setRow (w.heap.size + 1 + 1) cs) :=
  ⟨H.fb.put3 cs, H.op.grown (g := w.heap.size + 1 + 1) (fun k hk => by have := H.lt k hk; omega) ⟨rfl, rfl, rfl, by simp, fun k _ hne => setRow_other W _ k cs (fun e => hne (by rw [e]))⟩, H.lt⟩
theorem FO.c1 (H : FO w D p h pc ec rc W) : ∀ i, W.cell? ⟨w.heap.size, i, none⟩ = pc[i]? := H.fb.c1
theorem FO.c2 (H : FO w D p h pc ec rc W) : ∀ i, W.cell? ⟨w.heap.size + 1, i, none⟩ = ec[i]? := H.fb.c2
theorem FO.f1 (H : FO w D p h pc ec rc W) : ∀ i, W.frozen? ⟨w.heap.size, i, none⟩ = false := H.fb.f1
theorem FO.f3 (H : FO w D p h pc ec rc W) : ∀ i, W.frozen? ⟨w.heap.size + 1 + 1, i, none⟩ = false := H.fb.f3
theorem FO.r3 (H : FO w D p h pc ec rc W) : Bx W (w.heap.size + 1 + 1) rc 29 := H.fb.r3
/-- The PNR's slices read so, with all old memory. -/
theorem FO.at0 (H : FO w D p h pc ec rc W) : PAt W 0 W.heap.size p h := H.op.at.more (Nat.zero_le _) (Nat.le_refl _)
end
/-- What an edit of a PNR of one's own (its heads h) hands back: a PNR whose rows lie from B on; what lies ahead of B is as it was, and all that is no row of the old one. -/
def RetO (w : World) (B : Nat) (h : Hd) (r : Pnr × Int) (en : Ending) (w' : World) : Prop :=
  ∃ h', en = .returned (.tuple #[.agg #[.string r.1.loc, .string r.1.off, .slice h'.an h'.nn h'.cn, .slice h'.ag h'.ng h'.cg, .slice h'.ap h'.np h'.cp, .int .i64 r.1.tik.kind, .int .i64 r.1.tik.day, .int .i64 r.1.tik.min, .string r.1.rc, .slice h'.ar h'.nr h'.cr, .slice h'.ae h'.ne h'.ce, .bool r.1.queued], .int .i64 r.2]) ∧ OP w' B r.1 h' ∧ Below B w w' ∧ (∀ k, k < w.heap.size → ¬ rowP h k → w'.heap[k]? = w.heap[k]?) ∧ ∀ k, rowP h' k → rowP h k ∨ w.heap.size ≤ k
theorem RetO.mk' {w w' : World} {B : Nat} {h : Hd} {r : Pnr × Int} {q : Pnr} {n : Int} {h' : Hd} {pc ec rc : Array Value} (e : r = (q, n)) (hp : OP w' B q h') (hF : FB w B (rowP h) pc ec rc w') (hr : ∀ k, rowP h' k → rowP h k ∨ w.heap.size ≤ k) :
    RetO w B h r (.returned (.tuple #[.agg #[.string q.loc, .string q.off, .slice h'.an h'.nn h'.cn, .slice h'.ag h'.ng h'.cg, .slice h'.ap h'.np h'.cp, .int .i64 q.tik.kind, .int .i64 q.tik.day, .int .i64 q.tik.min, .string q.rc, .slice h'.ar h'.nr h'.cr, .slice h'.ae h'.ne h'.ce, .bool q.queued], .int .i64 n])) w' := by
  subst e
  exact ⟨h', rfl, hp, hF.B, hF.kp, hr⟩
theorem rows_seats {h : Hd} {m n c : Nat} {A : Option Addr} (hA : ∀ k, bk A = some k → m ≤ k) : ∀ k, rowP { h with ae := A, ne := n, ce := c } k → rowP h k ∨ m ≤ k := fun k hk => by
  rcases hk with hk | hk | hk | hk | hk
  · exact .inl (.inl hk)
  · exact .inl (.inr (.inl hk))
  · exact .inl (.inr (.inr (.inl hk)))
  · exact .inl (.inr (.inr (.inr (.inl hk))))
  · exact .inr (hA k hk)
/-- An edit in cells. -/
def tEdit : Ty Edit := ⟨fun e => [.int .i64 e.kind, .string e.nam.last, .string e.nam.first, .string e.seg.car, .int .i64 e.seg.num, .int .i64 e.seg.day, .int .u8 e.seg.cls, .bool e.seg.live, .int .i64 e.tik.kind, .int .i64 e.tik.day, .int .i64 e.tik.min, .string e.text, .int .i64 e.n, .int .i64 e.pax, .int .i64 e.row, .int .u8 e.let_], 16, Edit.ok, fun _ => rfl,
  fun x u h => by simp at h; rcases h with h | h | h | h | h | h | h | h | h | h | h | h | h | h | h | h <;> subst h <;> rfl, by omega⟩
end Go.Proofs.YtaakcccffmfmoaaDoor
