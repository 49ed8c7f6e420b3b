/- The append whose row is told, at an operation, and at a step of a region that draws its order; how appends and stores leave what lies elsewhere. -/
import Derived.Test.YtpgeoahlhdifoaaGreatDoorLib2
import Derived.Test.YtpgeoahlhdifoaaGreatDoorFrame
import Derived.Deep.AppendLies
namespace Go.Proofs.YtpgeoahlhdifoaaGreatDoor
set_option linter.unusedVariables false
open Go Go.RowKit
section
variable {α : Type} {w w' : World} {lo hi n : Nat} {T : Ty α} {A : Option Addr} {l : List α} {B : Nat} {e : TypeId} {v : Value}
theorem wp_append_told {P : Program} {t : TypeId} {o : Oper} {a : Act} {K : Act → World → Prop} {Q : Exit → Act → World → Prop} (s x : Operand)
    (ho : o.op = .call { callee := .builtin .append, args := #[s, x], argTypes := #[t, t] }) (S : SlT P t e T.sz)
    {W : World} (hs : a.eval s = v) (hown : Own W B e T v l) {m c : Nat} {ys : List α} (hx : a.eval x = .slice A m c) (hsl : Sl W lo hi T A m ys) (hnil : A = none → c = 0) (hB : B ≤ W.heap.size) (hbig : l.length + m < 2147483648)
    (h : ∀ v' w', Own w' B e T v' (l ++ ys) → W.grownBy w' v.ownBlock → (v'.ownBlock = v.ownBlock ∨ v'.ownBlock = some W.heap.size) → K (a.put o.dst v') w') : o.wp P a W K Q := by
  obtain ⟨v', w', hrun, h1, h2, h3⟩ := run_append_told (P := P) W t o.type S hown hsl hB hbig hnil (c := c)
  unfold Oper.wp execOp
  simp only [ho, resolve, invoke, builtin, Sem.run_bind, Sem.run_pure, Result.andThen_ok, List.map_toArray, List.map_cons, List.map_nil, hs, hx, hrun]
  exact h v' w' h1 h2 h3
theorem step_append_told {P : Program} {t : TypeId} {ops : Array Oper} {o : Oper} {a : Act} {K : Act → World → Prop} {Q : Exit → Act → World → Prop} {E : Prop} (hgd : o.guard = none) (s x : Operand)
    (ho : o.op = .call { callee := .builtin .append, args := #[s, x], argTypes := #[t, t] }) (S : SlT P t e T.sz)
    {W : World} (hs : a.eval s = v) (hown : Own W B e T v l) {m c : Nat} {ys : List α} (hx : a.eval x = .slice A m c) (hsl : Sl W lo hi T A m ys) (hnil : A = none → c = 0) (hB : B ≤ W.heap.size) (hbig : l.length + m < 2147483648)
    (h : ∀ v' w', Own w' B e T v' (l ++ ys) → W.grownBy w' v.ownBlock → (v'.ownBlock = v.ownBlock ∨ v'.ownBlock = some W.heap.size) → K (a.put o.dst v') w') :
    if Region.wanted o (yielded ops a.tmps) = true then Oper.wp P o a W K Q else E := by
  have hw : Region.wanted o (yielded ops a.tmps) = true := by simp [Region.wanted, hgd]
  rw [if_pos hw]
  exact wp_append_told s x ho S hs hown hx hsl hnil hB hbig h
/-- One element, out of a block known whole. -/
theorem Sl.row {W : World} {g : Nat} {news : Array Value} {t : TypeId} {fr : Nat × Nat} (hg : W.heap[g]? = some (.cells news t fr)) (y : α) (hy : T.wf y) (hn : news.toList = T.enc y) : Sl W g (g + 1) T (some ⟨g, 0, none⟩) 1 [y] := by
  refine ⟨rfl, fun x hx => by rw [List.mem_singleton.1 hx]; exact hy, fun _ => ⟨g, 0, rfl, Nat.le_refl _, by omega, fun k x hx j u hu => ?_⟩⟩
  rcases k with _ | k
  · simp only [List.getElem?_cons_zero, Option.some.injEq] at hx
    subst hx
    rw [cell_of_row _ _ _ news t fr hg, ← hu, ← hn]
    simp
  · simp at hx
theorem step_push {P : Program} {t : TypeId} {ops : Array Oper} {o : Oper} {a : Act} {K : Act → World → Prop} {Q : Exit → Act → World → Prop} {E : Prop} (hgd : o.guard = none) (s x : Operand)
    (ho : o.op = .call { callee := .builtin .append, args := #[s, x], argTypes := #[t, t] }) (S : SlT P t e T.sz)
    {W : World} (hs : a.eval s = v) (hown : Own W B e T v l) (y : α) (hy : T.wf y) {g : Nat} {news : Array Value} {tt : TypeId} {fr : Nat × Nat} (hg : W.heap[g]? = some (.cells news tt fr)) (hn : news.toList = T.enc y)
    (hx : a.eval x = .slice (some ⟨g, 0, none⟩) 1 1) (hB : B ≤ W.heap.size) (hl : l.length < 2147483640)
    (h : ∀ v' w', Own w' B e T v' (l ++ [y]) → W.grownBy w' v.ownBlock → (v'.ownBlock = v.ownBlock ∨ v'.ownBlock = some W.heap.size) → K (a.put o.dst v') w') :
    if Region.wanted o (yielded ops a.tmps) = true then Oper.wp P o a W K Q else E :=
  step_append_told hgd s x ho S hs hown hx (Sl.row hg y hy hn) (fun h => by cases h) hB (by omega) h
/-- What an append leaves, off its row. -/
theorem Sl.grown {W W' : World} {row : Option Nat} (h : Sl W lo hi T A n l) (hg : W.grownBy W' row) (hr : ∀ k, row = some k → ¬ (lo ≤ k ∧ k < hi)) (hh : hi ≤ W.heap.size) : Sl W' lo hi T A n l :=
  h.keep fun p h1 h2 => World.cell?_of_block (hg.block p.block (by omega) (fun e => hr _ e.symm ⟨h1, h2⟩))
theorem Sl.setOther {W : World} (h : Sl W lo hi T A n l) {p : Addr} (hp : p.block < lo ∨ hi ≤ p.block) (u : Value) : Sl (W.setCell p u) lo hi T A n l :=
  h.keep fun q h1 h2 => World.cell?_of_block (Below.heap_setCell W p u q.block (by omega))
theorem FR.grown {w : World} {pc ec rc : Array Value} {W W' : World} {row : Option Nat} (H : FR w pc ec rc W) (hg : W.grownBy W' row) (hr : ∀ k, row = some k → w.heap.size + 1 + 1 < k) : FR w pc ec rc W' :=
  ⟨H.B.grown hg (by have := H.z; omega) (fun k hk => by have := hr k hk; omega), H.r1.grown hg (fun e => by have := hr _ e; omega), H.r2.grown hg (fun e => by have := hr _ e; omega), H.r3.grown hg (fun e => by have := hr _ e; omega)⟩
theorem Own.setRow (h : Own w B e T v l) {g : Nat} (hg : g < B) (cs : Array Value) : Own (w.setRow g cs) B e T v l :=
  h.kept (row := some g) ⟨rfl, rfl, rfl, by simp, fun k _ hne => setRow_other w g k cs (fun e => hne (by rw [e]))⟩ fun k hk he => by
    have := (h.lt k hk).1
    injection he with he
    omega
theorem Own.sls {A : Option Addr} {n c : Nat} (h : Own w B e T (.slice A n c) l) : SlS w (fun b => B ≤ b ∧ b < w.heap.size) T A n c l :=
  h.sl.sls fun hA => by
    subst hA
    rcases h.row.2 with ⟨h1, _⟩ | ⟨g, cap, cur, h1, _⟩
    · injection h1
    · injection h1 with hA
      cases hA
theorem PS.withNames {w : World} {S : Nat → Prop} {p : Pnr} {h : Hd} (hp : PS w S p h) {A : Option Addr} {n c : Nat} {l : List Nam} (hs : SlS w S tNam A n c l) : PS w S { p with names := l } { h with an := A, nn := n, cn := c } :=
  ⟨hp.loc, hp.off, hp.rc, hp.tik, hs, hp.segs, hp.phones, hp.remarks, hp.seats⟩
theorem PS.withSegs {w : World} {S : Nat → Prop} {p : Pnr} {h : Hd} (hp : PS w S p h) {A : Option Addr} {n c : Nat} {l : List Seg} (hs : SlS w S tSeg A n c l) : PS w S { p with segs := l } { h with ag := A, ng := n, cg := c } :=
  ⟨hp.loc, hp.off, hp.rc, hp.tik, hp.names, hs, hp.phones, hp.remarks, hp.seats⟩
theorem PS.withPhones {w : World} {S : Nat → Prop} {p : Pnr} {h : Hd} (hp : PS w S p h) {A : Option Addr} {n c : Nat} {l : List ByteArray} (hs : SlS w S tStr A n c l) : PS w S { p with phones := l } { h with ap := A, np := n, cp := c } :=
  ⟨hp.loc, hp.off, hp.rc, hp.tik, hp.names, hp.segs, hs, hp.remarks, hp.seats⟩
theorem PS.withRemarks {w : World} {S : Nat → Prop} {p : Pnr} {h : Hd} (hp : PS w S p h) {A : Option Addr} {n c : Nat} {l : List ByteArray} (hs : SlS w S tStr A n c l) : PS w S { p with remarks := l } { h with ar := A, nr := n, cr := c } :=
  ⟨hp.loc, hp.off, hp.rc, hp.tik, hp.names, hp.segs, hp.phones, hs, hp.seats⟩
theorem PS.withSeats {w : World} {S : Nat → Prop} {p : Pnr} {h : Hd} (hp : PS w S p h) {A : Option Addr} {n c : Nat} {l : List Plc} (hs : SlS w S tPlc A n c l) : PS w S { p with seats := l } { h with ae := A, ne := n, ce := c } :=
  ⟨hp.loc, hp.off, hp.rc, hp.tik, hp.names, hp.segs, hp.phones, hp.remarks, hs⟩
/-- A whole PNR is stored into the block of the result. -/
theorem store_res {ops : Array Oper} {rest : List Oper} {o : Oper} {a : Act} {W : World} {Q : Exit → Act → World → Prop} (hgd : o.guard = none) (x y : Operand) (ho : o.op = .store 29 x y) {g : Nat} (cells : Array Value) {old : Array Value}
    (hx : a.eval x = .pointer (some ⟨g, 0, none⟩)) (hy : a.eval y = .agg cells) (hr : Bx W g old 29) (h12 : cells.size = 12) (ho12 : old.size = 12) (h1 : (cells.all fun v => v.oneCell') = true)
    (h : wpList Tryz.prog ops Q rest (a.put o.dst undef) (W.setRow g cells)) : wpList Tryz.prog ops Q (o :: rest) a W :=
  wpList_store_row hgd _ x y ho g cells hx hy _ old hr (by rw [h12]; exact info_pnr) (by rw [ho12, h12]) h1 h
end
end Go.Proofs.YtpgeoahlhdifoaaGreatDoor
