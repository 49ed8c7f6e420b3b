/- Put together by program of: Splice, Ownp. -/
import Derived.Test.YtpgeoahlhdifoaaGreatDoorStep
import Derived.Test.YtpgeoahlhdifoaaGreatDoorClone
import Derived.Laws.CopyRow
import Derived.Lib.AppendZerosOnto
import Derived.Lib.Overlaps
namespace Go.Proofs.YtpgeoahlhdifoaaGreatDoor
set_option linter.unusedVariables false
open Go Go.RowKit
section
variable {α : Type} {w w' : World} {T : Ty α} {l : List α} {B : Nat} {e : TypeId} {g n c : Nat}
theorem Own.open_ {a : Addr} (h : Own w B e T (.slice (some a) n c) l) : ∃ g cur, a = ⟨g, 0, none⟩ ∧ l.length = n ∧ B ≤ g ∧ n ≤ c ∧ c ≤ maxLen ∧ w.heap[g]? = some (.cells cur e (0, 0)) ∧ cur.size = c * T.sz ∧ cur.toList.take (n * T.sz) = l.flatMap T.enc := by
  have hn : l.length = n := by
    obtain ⟨A', c', h'⟩ := h.form
    injection h' with _ h2 _
    exact h2.symm
  rcases h.row.2 with ⟨h1, _⟩ | ⟨g, cap, cur, h1, hb, hg, hnc, hcm, hcs, htake⟩
  · cases h1
  · injection h1 with hA _ hc
    injection hA with hA
    subst hA hc
    exact ⟨g, cur, rfl, hn, hb, by omega, hcm, hg, hcs, by rw [← hn]; exact htake⟩
theorem Own.ofRow {cur : Array Value} (hg : w.heap[g]? = some (.cells cur e (0, 0))) (hB : B ≤ g) (hl : l.length = n) (hn : n ≤ c) (hc : c ≤ maxLen) (hs : cur.size = c * T.sz) (hwf : ∀ x, x ∈ l → T.wf x) (ht : cur.toList.take (n * T.sz) = l.flatMap T.enc) :
    Own w B e T (.slice (some ⟨g, 0, none⟩) n c) l := by
  subst hl
  exact ⟨hwf, by rw [flatMap_len], .inr ⟨g, c, cur, rfl, hB, hg, hn, hc, hs, ht⟩⟩
theorem flat_take (T : Ty α) : ∀ (l : List α) (k : Nat), (l.take k).flatMap T.enc = (l.flatMap T.enc).take (k * T.sz)
  | [], k => by simp
  | x :: t, 0 => by simp
  | x :: t, k + 1 => by
    have e : (k + 1) * T.sz = (T.enc x).length + k * T.sz := by rw [T.len, Nat.add_mul]; omega
    simp only [List.take_succ_cons, List.flatMap_cons]
    rw [flat_take T t k, e, List.take_length_add_append]
theorem flat_drop (T : Ty α) : ∀ (l : List α) (k : Nat), (l.drop k).flatMap T.enc = (l.flatMap T.enc).drop (k * T.sz)
  | [], k => by simp
  | x :: t, 0 => by simp
  | x :: t, k + 1 => by
    have e : (k + 1) * T.sz = (T.enc x).length + k * T.sz := by rw [T.len, Nat.add_mul]; omega
    simp only [List.drop_succ_cons, List.flatMap_cons]
    rw [flat_drop T t k, e, List.drop_length_add_append]
/-- 'copy(d, s)' at elements of sz cells, onto a row known whole. -/
theorem run_copy_sz {P : Program} (w : World) (dT sT ty elem : TypeId) (sz : Nat) (g o dLen dCap : Nat) (a : Addr) (sLen sCap : Nat) (cur : Array Value) (t : TypeId) (cs : List Value) (n : Nat)
    (hu : P.underlying dT = some (.slice elem)) (hs : (P.info? elem).map (·.size) = some sz)
    (hg : w.heap[g]? = some (.cells cur t (0, 0))) (hn : Nat.min sLen dLen = n) (hcl : cs.length = n * sz)
    (hsrc : ∀ j v, cs[j]? = some v → w.cell? (a.add j) = some v) (hfit : o + cs.length ≤ cur.size) (h1 : ∀ v ∈ cs, v.oneCell' = true) :
    (Builtin.copy_ #[dT, sT] ty #[.slice (some ⟨g, o, none⟩) dLen dCap, .slice (some a) sLen sCap]).run P w =
      .ok (goInt n) (w.setRow g (cur.toList.take o ++ cs ++ cur.toList.drop (o + cs.length)).toArray) := by
  have hl := run_loadCells_list (P := P) w a cs hsrc
  have hst := run_storeCells_at P g o t cs 0 cur w hg (by simpa using hfit) h1
  rw [hcl] at hl
  cases hq : P.info? elem with
  | none => simp [hq] at hs
  | some i =>
    have hi : i.size = sz := by simpa [hq] using hs
    simp [Builtin.copy_, run_underlying hu, Builtin.lenOf, Builtin.firstCells, sizeOf, typeInfo, hq, hi, hn, hl, hst]
/-- 'clear(s)' at elements of sz cells, of a row known whole. -/
theorem run_clear_sz {P : Program} (w : World) (t e ty : TypeId) (z : Value) (ht : P.underlying t = some (.slice e)) (hv : (zeroValue e).run P w = .ok z w) (g o n c : Nat) (hn : 0 < n) (cur : Array Value) (t' : TypeId)
    (hg : w.heap[g]? = some (.cells cur t' (0, 0))) (zs : List Value) (hz : (Builtin.zeroCells z.cells n).toList = zs) (hfit : o + zs.length ≤ cur.size) (h1 : ∀ v ∈ zs, v.oneCell' = true) :
    (Builtin.clear_ #[t] ty #[.slice (some ⟨g, o, none⟩) n c]).run P w = .ok (.tuple #[]) (w.setRow g (cur.toList.take o ++ zs ++ cur.toList.drop (o + zs.length)).toArray) := by
  have hst := run_storeCells_at P g o t' zs 0 cur w hg (by simpa using hfit) h1
  obtain ⟨n, rfl⟩ : ∃ m, n = m + 1 := ⟨n - 1, by omega⟩
  simp [Builtin.clear_, run_underlying ht, hv, hz, hst]
/-- An element laid in: in place. -/
theorem ins_row {β : Type} (L X C : List β) (a k f : Nat) (hX : X.length = k) (hC : C = (L.take f).drop a) (ha : a ≤ f) (hf : f + k ≤ L.length) :
    ((L.take (a + k) ++ C ++ L.drop (a + k + C.length)).take a ++ X ++ (L.take (a + k) ++ C ++ L.drop (a + k + C.length)).drop (a + X.length)).take (f + k) = (L.take f).take a ++ (X ++ C) := by
  have hc : C.length = f - a := by rw [hC]; simp; omega
  have e1 : (L.take (a + k) ++ C ++ L.drop (a + k + C.length)).take a = (L.take f).take a := by
    rw [List.append_assoc, List.take_append_of_le_length (by simp; omega), List.take_take, List.take_take]
    congr 1; omega
  have e2 : (L.take (a + k) ++ C ++ L.drop (a + k + C.length)).drop (a + X.length) = C ++ L.drop (a + k + C.length) := by
    rw [hX, List.append_assoc]
    exact List.drop_left' (by simp; omega)
  rw [e1, e2, ← List.append_assoc, ← List.append_assoc]
  have e3 : ((L.take f).take a ++ X ++ C).length = f + k := by simp [hX, hc]; omega
  rw [List.take_append_of_le_length (by omega), List.take_of_length_le (by omega)]
/-- .. in a new row. -/
theorem ins_new {β : Type} (Z H X C : List β) (a k f : Nat) (hX : X.length = k) (hH : Z.take a = H) (hHl : H.length = a) (hC : C.length = f - a) (ha : a ≤ f) (hf : f + k ≤ Z.length) :
    ((Z.take a ++ X ++ Z.drop (a + X.length)).take (a + k) ++ C ++ (Z.take a ++ X ++ Z.drop (a + X.length)).drop (a + k + C.length)).take (f + k) = H ++ (X ++ C) := by
  have e1 : (Z.take a ++ X ++ Z.drop (a + X.length)).take (a + k) = H ++ X := by
    rw [hH]
    exact List.take_left' (by simp [hHl, hX])
  rw [e1, List.append_assoc H X C]
  exact List.take_left' (by simp [hHl, hX, hC]; omega)
end
theorem flat_set4 : ∀ (m : List Plc) (i : Nat) (x : Plc), i < m.length → (m.set i x).flatMap tPlc.enc =
    ((((m.flatMap tPlc.enc).set (i * 4) (.int .i64 x.seg)).set (i * 4 + 1) (.int .i64 x.pax)).set (i * 4 + 2) (.int .i64 x.row)).set (i * 4 + 3) (.int .u8 x.let_)
  | [], i, x, h => by simp at h
  | y :: t, 0, x, _ => by simp [tPlc, List.flatMap_cons]
  | y :: t, i + 1, x, h => by
    have ih := flat_set4 t i x (by simp at h; omega)
    have hl : (tPlc.enc y).length = 4 := rfl
    simp only [List.set_cons_succ, List.flatMap_cons]
    rw [ih]
    have e : ∀ (L : List Value) (j : Nat) (u : Value), (tPlc.enc y ++ L).set ((i + 1) * 4 + j) u = tPlc.enc y ++ L.set (i * 4 + j) u := fun L j u => by
      rw [List.set_append_right _ _ (by omega)]
      congr 2
      omega
    have e0 := e (t.flatMap tPlc.enc) 0 (.int .i64 x.seg)
    simp only [Nat.add_zero] at e0
    rw [e0, e, e, e]
/-- A place put into an own row. -/
theorem Own.set4 {w : World} {B : Nat} {E : TypeId} {g n c : Nat} {m : List Plc} (h : Own w B E tPlc (.slice (some ⟨g, 0, none⟩) n c) m) {i : Nat} (hi : i < n) (x : Plc) (hx : x.ok) :
    Own ((((w.setCell ⟨g, i * 4, none⟩ (.int .i64 x.seg)).setCell ⟨g, i * 4 + 1, none⟩ (.int .i64 x.pax)).setCell ⟨g, i * 4 + 2, none⟩ (.int .i64 x.row)).setCell ⟨g, i * 4 + 3, none⟩ (.int .u8 x.let_)) B E tPlc (.slice (some ⟨g, 0, none⟩) n c) (m.set i x) := by
  obtain ⟨g', cur, hgg, hn, hB, hnc, hcm, hg, hcs, htake⟩ := h.open_
  injection hgg with hgg _ _
  subst hgg
  have hg1 := setRow_heap w g cur (cur.setIfInBounds (i * 4) (.int .i64 x.seg)) E (0, 0) hg
  have hg2 := setRow_heap _ g _ ((cur.setIfInBounds (i * 4) (.int .i64 x.seg)).setIfInBounds (i * 4 + 1) (.int .i64 x.pax)) E (0, 0) hg1
  have hg3 := setRow_heap _ g _ (((cur.setIfInBounds (i * 4) (.int .i64 x.seg)).setIfInBounds (i * 4 + 1) (.int .i64 x.pax)).setIfInBounds (i * 4 + 2) (.int .i64 x.row)) E (0, 0) hg2
  rw [setCell_eq_setRow w g (i * 4) cur E (0, 0) _ hg, setCell_eq_setRow _ g (i * 4 + 1) _ E (0, 0) _ hg1, setCell_eq_setRow _ g (i * 4 + 2) _ E (0, 0) _ hg2, setCell_eq_setRow _ g (i * 4 + 3) _ E (0, 0) _ hg3]
  refine Own.ofRow (setRow_heap _ g _ _ E (0, 0) hg3) hB (by rw [List.length_set]; exact hn) hnc hcm (by simp; exact hcs) ?_ ?_
  · intro y hy
    rcases List.mem_or_eq_of_mem_set hy with h1 | h1
    · exact h.wf y h1
    · rw [h1]; exact hx
  · rw [flat_set4 m i x (by omega)]
    simp only [Array.toList_setIfInBounds, List.take_set, htake]
end Go.Proofs.YtpgeoahlhdifoaaGreatDoor
namespace Go.Proofs.YtpgeoahlhdifoaaGreatDoor
set_option linter.unusedVariables false
open Go Go.RowKit
/-- Two addresses that don't lie in one block. -/
def Df (a b : Option Addr) : Prop := ∀ x y, a = some x → b = some y → x.block ≠ y.block
theorem Df.symm {a b : Option Addr} (h : Df a b) : Df b a := fun x y hx hy => (h y x hy hx).symm
def bk (A : Option Addr) : Option Nat := A.map (·.block)
theorem ownBlock_bk (A : Option Addr) (n c : Nat) : (Value.slice A n c).ownBlock = bk A := by cases A <;> rfl
theorem Df.bk {a b : Option Addr} (h : Df a b) : ∀ k, bk b = some k → bk a ≠ some k := fun k hb ha => by
  cases a with
  | none => cases ha
  | some x => cases b with
    | none => cases hb
    | some y =>
      have e1 : y.block = k := by simpa [Go.Proofs.YtpgeoahlhdifoaaGreatDoor.bk] using hb
      have e2 : x.block = k := by simpa [Go.Proofs.YtpgeoahlhdifoaaGreatDoor.bk] using ha
      exact h x y rfl rfl (by rw [e1, e2])
structure OP (w : World) (B : Nat) (p : Pnr) (h : Hd) : Prop where
  loc : okStr p.loc
  off : okStr p.off
  rc : okStr p.rc
  tik : p.tik.ok
  names : Own w B 40 tNam (.slice h.an h.nn h.cn) p.names
  segs : Own w B 46 tSeg (.slice h.ag h.ng h.cg) p.segs
  phones : Own w B 9 tStr (.slice h.ap h.np h.cp) p.phones
  remarks : Own w B 9 tStr (.slice h.ar h.nr h.cr) p.remarks
  seats : Own w B 87 tPlc (.slice h.ae h.ne h.ce) p.seats
structure Ap (h : Hd) : Prop where
  ng : Df h.an h.ag
  np : Df h.an h.ap
  nr : Df h.an h.ar
  ne : Df h.an h.ae
  gp : Df h.ag h.ap
  gr : Df h.ag h.ar
  ge : Df h.ag h.ae
  pr : Df h.ap h.ar
  pe : Df h.ap h.ae
  re : Df h.ar h.ae
section
variable {w w' : World} {B : Nat} {p : Pnr} {h : Hd}
theorem OP.keep (H : OP w B p h) (hb : Below w.heap.size w w') : OP w' B p h :=
  ⟨H.loc, H.off, H.rc, H.tik, H.names.keep hb, H.segs.keep hb, H.phones.keep hb, H.remarks.keep hb, H.seats.keep hb⟩
theorem OP.alloc (H : OP w B p h) (o : Obj) : OP (w.alloc o) B p h := H.keep ((Below.refl _ _).alloc (Nat.le_refl _) o)
theorem OP.drewN (H : OP w B p h) (k : Nat) : OP (w.drewN k) B p h := H.keep (below_drewN (Below.refl _ _) k)
theorem OP.more {B' : Nat} (H : OP w B p h) (hB : B' ≤ B) : OP w B' p h :=
  ⟨H.loc, H.off, H.rc, H.tik, H.names.more hB, H.segs.more hB, H.phones.more hB, H.remarks.more hB, H.seats.more hB⟩
theorem OP.at (H : OP w B p h) : PAt w B w.heap.size p h :=
  ⟨H.loc, H.off, H.rc, H.tik, H.names.sl, H.segs.sl, H.phones.sl, H.remarks.sl, H.seats.sl⟩
theorem OP.ps (H : OP w B p h) : PS w (fun b => B ≤ b ∧ b < w.heap.size) p h :=
  ⟨H.loc, H.off, H.rc, H.tik, H.names.sls, H.segs.sls, H.phones.sls, H.remarks.sls, H.seats.sls⟩
theorem OP.hd (H : OP w B p h) (hs : p.small 100000) : Small h := hs.hd H.at
/-- A row's block lies from B on, ahead of the heap's end. -/
theorem Own.bk_lt {α : Type} {T : Ty α} {E : TypeId} {A : Option Addr} {n c : Nat} {l : List α} (H : Own w B E T (.slice A n c) l) : ∀ k, bk A = some k → B ≤ k ∧ k < w.heap.size :=
  fun k hk => H.lt k (by rw [ownBlock_bk]; exact hk)
theorem Own.off {α : Type} {T : Ty α} {E : TypeId} {A A' : Option Addr} {n c : Nat} {l : List α} (H : Own w B E T (.slice A n c) l) (hg : w.grownBy w' (bk A')) (hd : Df A' A) : Own w' B E T (.slice A n c) l :=
  H.kept hg fun k hk => hd.bk k (by rw [← ownBlock_bk A n c]; exact hk)
/-- A store into a block that is none of the rows'. -/
theorem OP.set {a : Addr} (H : OP w B p h) (ha : a.block < B) (u : Value) : OP (w.setCell a u) B p h :=
  ⟨H.loc, H.off, H.rc, H.tik, H.names.setCell ha u, H.segs.setCell ha u, H.phones.setCell ha u, H.remarks.setCell ha u, H.seats.setCell ha u⟩
/-- .. behind the rows. -/
theorem OP.grown {g : Nat} (H : OP w B p h) (hr : ∀ k, bk h.an = some k ∨ bk h.ag = some k ∨ bk h.ap = some k ∨ bk h.ar = some k ∨ bk h.ae = some k → k ≠ g) (hg : w.grownBy w' (some g)) : OP w' B p h :=
  ⟨H.loc, H.off, H.rc, H.tik, H.names.kept hg fun k hk e => hr k (.inl (by rw [← ownBlock_bk]; exact hk)) (by injection e with e; exact e.symm),
    H.segs.kept hg fun k hk e => hr k (.inr (.inl (by rw [← ownBlock_bk]; exact hk))) (by injection e with e; exact e.symm),
    H.phones.kept hg fun k hk e => hr k (.inr (.inr (.inl (by rw [← ownBlock_bk]; exact hk)))) (by injection e with e; exact e.symm),
    H.remarks.kept hg fun k hk e => hr k (.inr (.inr (.inr (.inl (by rw [← ownBlock_bk]; exact hk))))) (by injection e with e; exact e.symm),
    H.seats.kept hg fun k hk e => hr k (.inr (.inr (.inr (.inr (by rw [← ownBlock_bk]; exact hk))))) (by injection e with e; exact e.symm)⟩
theorem OP.names' (H : OP w B p h) (D : Ap h) (hg : w.grownBy w' (bk h.an)) {A : Option Addr} {n c : Nat} {l : List Nam} (hn : Own w' B 40 tNam (.slice A n c) l) : OP w' B { p with names := l } { h with an := A, nn := n, cn := c } :=
  ⟨H.loc, H.off, H.rc, H.tik, hn, H.segs.off hg D.ng, H.phones.off hg D.np, H.remarks.off hg D.nr, H.seats.off hg D.ne⟩
theorem OP.segs' (H : OP w B p h) (D : Ap h) (hg : w.grownBy w' (bk h.ag)) {A : Option Addr} {n c : Nat} {l : List Seg} (hn : Own w' B 46 tSeg (.slice A n c) l) : OP w' B { p with segs := l } { h with ag := A, ng := n, cg := c } :=
  ⟨H.loc, H.off, H.rc, H.tik, H.names.off hg D.ng.symm, hn, H.phones.off hg D.gp, H.remarks.off hg D.gr, H.seats.off hg D.ge⟩
theorem OP.phones' (H : OP w B p h) (D : Ap h) (hg : w.grownBy w' (bk h.ap)) {A : Option Addr} {n c : Nat} {l : List ByteArray} (hn : Own w' B 9 tStr (.slice A n c) l) : OP w' B { p with phones := l } { h with ap := A, np := n, cp := c } :=
  ⟨H.loc, H.off, H.rc, H.tik, H.names.off hg D.np.symm, H.segs.off hg D.gp.symm, hn, H.remarks.off hg D.pr, H.seats.off hg D.pe⟩
theorem OP.remarks' (H : OP w B p h) (D : Ap h) (hg : w.grownBy w' (bk h.ar)) {A : Option Addr} {n c : Nat} {l : List ByteArray} (hn : Own w' B 9 tStr (.slice A n c) l) : OP w' B { p with remarks := l } { h with ar := A, nr := n, cr := c } :=
  ⟨H.loc, H.off, H.rc, H.tik, H.names.off hg D.nr.symm, H.segs.off hg D.gr.symm, H.phones.off hg D.pr.symm, hn, H.seats.off hg D.re⟩
theorem OP.seats' (H : OP w B p h) (D : Ap h) (hg : w.grownBy w' (bk h.ae)) {A : Option Addr} {n c : Nat} {l : List Plc} (hn : Own w' B 87 tPlc (.slice A n c) l) : OP w' B { p with seats := l } { h with ae := A, ne := n, ce := c } :=
  ⟨H.loc, H.off, H.rc, H.tik, H.names.off hg D.ne.symm, H.segs.off hg D.ge.symm, H.phones.off hg D.pe.symm, H.remarks.off hg D.re.symm, hn⟩
/-- The seats in a row of new memory. -/
theorem OP.withSeats (H : OP w B p h) {A : Option Addr} {n c : Nat} {l : List Plc} (hn : Own w B 87 tPlc (.slice A n c) l) : OP w B { p with seats := l } { h with ae := A, ne := n, ce := c } :=
  ⟨H.loc, H.off, H.rc, H.tik, H.names, H.segs, H.phones, H.remarks, hn⟩
end
/-- The blocks of a PNR's rows. -/
def rowP (h : Hd) (k : Nat) : Prop := bk h.an = some k ∨ bk h.ag = some k ∨ bk h.ap = some k ∨ bk h.ar = some k ∨ bk h.ae = some k
/-- A PNR (its cells pc) and an edit in boxes of the call's own, and the block of the result (its cells rc), where rows from B on are turned too. -/
structure FB (w : World) (D : Nat) (R : Nat → Prop) (pc ec rc : Array Value) (W : World) : Prop where
  B : Below D w W
  le : D ≤ w.heap.size
  kp : ∀ k, k < w.heap.size → ¬ R k → W.heap[k]? = w.heap[k]?
  r1 : Bx W w.heap.size pc 29
  r2 : Bx W (w.heap.size + 1) ec 50
  r3 : Bx W (w.heap.size + 1 + 1) rc 29
section
variable {w : World} {B : Nat} {R : Nat → Prop} {pc ec rc : Array Value} {W W1 : World}
theorem FR.fb (H : FR w pc ec rc W) (hB : B ≤ w.heap.size) : FB w B R pc ec rc W := ⟨H.B.mono hB, hB, fun k hk _ => H.B.block k hk, H.r1, H.r2, H.r3⟩
theorem FB.start (w : World) (pc ec rc : Array Value) (hB : B ≤ w.heap.size) : FB w B R pc ec rc (((w.alloc (.cells pc 29)).alloc (.cells ec 50)).alloc (.cells rc 29)) :=
  (FR.start w pc ec rc).fb hB
theorem FB.z (H : FB w B R pc ec rc W) : w.heap.size + 1 + 1 < W.heap.size := H.r3.lt
theorem FB.step (H : FB w B R pc ec rc W) (hb : Below W.heap.size W W1) : FB w B R pc ec rc W1 :=
  ⟨H.B.trans (hb.mono (by have := H.z; have := H.le; omega)), H.le, fun k hk hr => (hb.block k (by have := H.z; omega)).trans (H.kp k hk hr), H.r1.below hb H.r1.lt, H.r2.below hb H.r2.lt, H.r3.below hb H.r3.lt⟩
theorem FB.alloc (H : FB w B R pc ec rc W) (o : Obj) : FB w B R pc ec rc (W.alloc o) := H.step ((Below.refl _ _).alloc (Nat.le_refl _) _)
theorem FB.drewN (H : FB w B R pc ec rc W) (n : Nat) : FB w B R pc ec rc (W.drewN n) := ⟨below_drewN H.B n, H.le, H.kp, H.r1, H.r2, H.r3⟩
theorem FB.drew (H : FB w B R pc ec rc W) : FB w B R pc ec rc W.drew := H.drewN 1
theorem FB.put1 (H : FB w B R pc ec rc W) (i : Nat) (u : Value) : FB w B R (pc.setIfInBounds i u) ec rc (W.setCell ⟨w.heap.size, i, none⟩ u) :=
  ⟨H.B.setCell H.le _, H.le, fun k hk hr => (Below.heap_setCell W _ u k (by simp; omega)).trans (H.kp k hk hr), H.r1.put i u, H.r2.other (by simp) u, H.r3.other (by simp; omega) u⟩
theorem FB.put3 (H : FB w B R pc ec rc W) (cs : Array Value) : FB w B R pc ec cs (W.setRow (w.heap.size + 1 + 1) cs) :=
  ⟨below_setRow H.B (by have := H.le; omega) _, H.le, fun k hk hr => (setRow_other W _ k cs (by omega)).trans (H.kp k hk hr), H.r1.rowOther (by omega) _, H.r2.rowOther (by omega) _, H.r3.row cs⟩
/-- A row from B on is turned, which is none of the boxes. -/
theorem FB.grown {row : Option Nat} (H : FB w B R pc ec rc W) (hg : W.grownBy W1 row) (hr : ∀ k, row = some k → B ≤ k ∧ (R k ∧ k < w.heap.size ∨ w.heap.size + 1 + 1 < k)) : FB w B R pc ec rc W1 :=
  ⟨H.B.grown hg (by have := H.z; have := H.le; omega) (fun k hk => (hr k hk).1), H.le, fun k hk hR => (hg.block k (by have := H.z; omega) (fun e => by have := (hr k e.symm).2; rcases this with h | h <;> first | exact hR h.1 | omega)).trans (H.kp k hk hR), H.r1.grown hg (fun e => by have := hr _ e; omega), H.r2.grown hg (fun e => by have := hr _ e; omega), H.r3.grown hg (fun e => by have := hr _ e; omega)⟩
theorem FB.c1 (H : FB w B R pc ec rc W) : ∀ i, W.cell? ⟨w.heap.size, i, none⟩ = pc[i]? := H.r1.cells
theorem FB.c2 (H : FB w B R pc ec rc W) : ∀ i, W.cell? ⟨w.heap.size + 1, i, none⟩ = ec[i]? := H.r2.cells
theorem FB.c3 (H : FB w B R pc ec rc W) : ∀ i, W.cell? ⟨w.heap.size + 1 + 1, i, none⟩ = rc[i]? := H.r3.cells
theorem FB.f1 (H : FB w B R pc ec rc W) : ∀ i, W.frozen? ⟨w.heap.size, i, none⟩ = false := H.r1.free
theorem FB.f3 (H : FB w B R pc ec rc W) : ∀ i, W.frozen? ⟨w.heap.size + 1 + 1, i, none⟩ = false := H.r3.free
end
/-- The rows of a PNR lie ahead of m. -/
def RB (h : Hd) (m : Nat) : Prop := ∀ k, rowP h k → k < m
theorem OP.rb {w : World} {B : Nat} {p : Pnr} {h : Hd} (H : OP w B p h) : RB h w.heap.size := fun k hk => by
  rcases hk with hk | hk | hk | hk | hk
  · exact (H.names.bk_lt k hk).2
  · exact (H.segs.bk_lt k hk).2
  · exact (H.phones.bk_lt k hk).2
  · exact (H.remarks.bk_lt k hk).2
  · exact (H.seats.bk_lt k hk).2
/-- A PNR of one's own whose rows are old, with the call's boxes. -/
structure FO (w : World) (D : Nat) (p : Pnr) (h : Hd) (pc ec rc : Array Value) (W : World) : Prop where
  fb : FB w D (rowP h) pc ec rc W
  op : OP W D p h
  lt : RB h w.heap.size
section
variable {w : World} {D : Nat} {p : Pnr} {h : Hd} {pc ec rc : Array Value} {W W1 : World}
theorem FO.start (H : OP w D p h) (hD : D ≤ w.heap.size) (pc ec rc : Array Value) : FO w D p h pc ec rc (((w.alloc (.cells pc 29)).alloc (.cells ec 50)).alloc (.cells rc 29)) :=
  ⟨FB.start w pc ec rc hD, ((H.alloc _).alloc _).alloc _, H.rb⟩
theorem FO.z (H : FO w D p h pc ec rc W) : w.heap.size + 1 + 1 < W.heap.size := H.fb.z
theorem FO.step (H : FO w D p h pc ec rc W) (hb : Below W.heap.size W W1) : FO w D p h pc ec rc W1 := ⟨H.fb.step hb, H.op.keep hb, H.lt⟩
theorem FO.alloc (H : FO w D p h pc ec rc W) (o : Obj) : FO w D p h pc ec rc (W.alloc o) := H.step ((Below.refl _ _).alloc (Nat.le_refl _) _)
theorem FO.drewN (H : FO w D p h pc ec rc W) (n : Nat) : FO w D p h pc ec rc (W.drewN n) := H.step (below_drewN (Below.refl _ _) n)
theorem FO.put1 (H : FO w D p h pc ec rc W) (i : Nat) (u : Value) : FO w D p h (pc.setIfInBounds i u) ec rc (W.setCell ⟨w.heap.size, i, none⟩ u) :=
  ⟨H.fb.put1 i u, H.op.grown (g := w.heap.size) (fun k hk => by have := H.lt k hk; omega) ⟨rfl, rfl, rfl, by simp, fun k _ hne => Below.heap_setCell W _ u k (fun e => hne (by rw [e]))⟩, H.lt⟩
theorem FO.put3 (H : FO w D p h pc ec rc W) (cs : Array Value) : FO w D p h pc ec cs (W.setRow (w.heap.size + 1 + 1) cs) :=
  ⟨H.fb.put3 cs, H.op.grown (g := w.heap.size + 1 + 1) (fun k hk => by have := H.lt k hk; omega) ⟨rfl, rfl, rfl, by simp, fun k _ hne => setRow_other W _ k cs (fun e => hne (by rw [e]))⟩, H.lt⟩
theorem FO.c1 (H : FO w D p h pc ec rc W) : ∀ i, W.cell? ⟨w.heap.size, i, none⟩ = pc[i]? := H.fb.c1
theorem FO.c2 (H : FO w D p h pc ec rc W) : ∀ i, W.cell? ⟨w.heap.size + 1, i, none⟩ = ec[i]? := H.fb.c2
theorem FO.f1 (H : FO w D p h pc ec rc W) : ∀ i, W.frozen? ⟨w.heap.size, i, none⟩ = false := H.fb.f1
theorem FO.f3 (H : FO w D p h pc ec rc W) : ∀ i, W.frozen? ⟨w.heap.size + 1 + 1, i, none⟩ = false := H.fb.f3
theorem FO.r3 (H : FO w D p h pc ec rc W) : Bx W (w.heap.size + 1 + 1) rc 29 := H.fb.r3
/-- The PNR's slices read so, with all old memory. -/
theorem FO.at0 (H : FO w D p h pc ec rc W) : PAt W 0 W.heap.size p h := H.op.at.more (Nat.zero_le _) (Nat.le_refl _)
end
/-- What an edit of a PNR of one's own (its heads h) hands back: a PNR whose rows lie from B on; what lies ahead of B is as it was, and all that is no row of the old one. -/
def RetO (w : World) (B : Nat) (h : Hd) (r : Pnr × Int) (en : Ending) (w' : World) : Prop :=
  ∃ h', en = .returned (.tuple #[.agg #[.string r.1.loc, .string r.1.off, .slice h'.an h'.nn h'.cn, .slice h'.ag h'.ng h'.cg, .slice h'.ap h'.np h'.cp, .int .i64 r.1.tik.kind, .int .i64 r.1.tik.day, .int .i64 r.1.tik.min, .string r.1.rc, .slice h'.ar h'.nr h'.cr, .slice h'.ae h'.ne h'.ce, .bool r.1.queued], .int .i64 r.2]) ∧ OP w' B r.1 h' ∧ Below B w w' ∧ (∀ k, k < w.heap.size → ¬ rowP h k → w'.heap[k]? = w.heap[k]?) ∧ ∀ k, rowP h' k → rowP h k ∨ w.heap.size ≤ k
theorem RetO.mk' {w w' : World} {B : Nat} {h : Hd} {r : Pnr × Int} {q : Pnr} {n : Int} {h' : Hd} {pc ec rc : Array Value} (e : r = (q, n)) (hp : OP w' B q h') (hF : FB w B (rowP h) pc ec rc w') (hr : ∀ k, rowP h' k → rowP h k ∨ w.heap.size ≤ k) :
    RetO w B h r (.returned (.tuple #[.agg #[.string q.loc, .string q.off, .slice h'.an h'.nn h'.cn, .slice h'.ag h'.ng h'.cg, .slice h'.ap h'.np h'.cp, .int .i64 q.tik.kind, .int .i64 q.tik.day, .int .i64 q.tik.min, .string q.rc, .slice h'.ar h'.nr h'.cr, .slice h'.ae h'.ne h'.ce, .bool q.queued], .int .i64 n])) w' := by
  subst e
  exact ⟨h', rfl, hp, hF.B, hF.kp, hr⟩
theorem rows_seats {h : Hd} {m n c : Nat} {A : Option Addr} (hA : ∀ k, bk A = some k → m ≤ k) : ∀ k, rowP { h with ae := A, ne := n, ce := c } k → rowP h k ∨ m ≤ k := fun k hk => by
  rcases hk with hk | hk | hk | hk | hk
  · exact .inl (.inl hk)
  · exact .inl (.inr (.inl hk))
  · exact .inl (.inr (.inr (.inl hk)))
  · exact .inl (.inr (.inr (.inr (.inl hk))))
  · exact .inr (hA k hk)
/-- An edit in cells. -/
def tEdit : Ty Edit := ⟨fun e => [.int .i64 e.kind, .string e.nam.last, .string e.nam.first, .string e.seg.car, .int .i64 e.seg.num, .int .i64 e.seg.day, .int .u8 e.seg.cls, .bool e.seg.live, .int .i64 e.tik.kind, .int .i64 e.tik.day, .int .i64 e.tik.min, .string e.text, .int .i64 e.n, .int .i64 e.pax, .int .i64 e.row, .int .u8 e.let_], 16, Edit.ok, fun _ => rfl,
  fun x u h => by simp at h; rcases h with h | h | h | h | h | h | h | h | h | h | h | h | h | h | h | h <;> subst h <;> rfl, by omega⟩
end Go.Proofs.YtpgeoahlhdifoaaGreatDoor
