/- Rows of edits: the document's answer. -/
import Derived.Test.YtaakcccffmfmoaaDoorPnr10
import Derived.Deep.RegionHeld3
namespace Go.Proofs.YtaakcccffmfmoaaDoor
set_option linter.unusedVariables false
open Go Go.RowKit
/-- An edit's cells. -/
def C16 (W : World) (b i : Nat) (x : Edit) : Prop := W.cell? ⟨b, i, none⟩ = some (.int .i64 x.kind) ∧ W.cell? ⟨b, i + 1, none⟩ = some (.string x.nam.last) ∧ W.cell? ⟨b, i + 2, none⟩ = some (.string x.nam.first) ∧ W.cell? ⟨b, i + 3, none⟩ = some (.string x.seg.car) ∧ W.cell? ⟨b, i + 4, none⟩ = some (.int .i64 x.seg.num) ∧ W.cell? ⟨b, i + 5, none⟩ = some (.int .i64 x.seg.day) ∧ W.cell? ⟨b, i + 6, none⟩ = some (.int .u8 x.seg.cls) ∧ W.cell? ⟨b, i + 7, none⟩ = some (.bool x.seg.live) ∧ W.cell? ⟨b, i + 8, none⟩ = some (.int .i64 x.tik.kind) ∧ W.cell? ⟨b, i + 9, none⟩ = some (.int .i64 x.tik.day) ∧ W.cell? ⟨b, i + 10, none⟩ = some (.int .i64 x.tik.min) ∧ W.cell? ⟨b, i + 11, none⟩ = some (.string x.text) ∧ W.cell? ⟨b, i + 12, none⟩ = some (.int .i64 x.n) ∧ W.cell? ⟨b, i + 13, none⟩ = some (.int .i64 x.pax) ∧ W.cell? ⟨b, i + 14, none⟩ = some (.int .i64 x.row) ∧ W.cell? ⟨b, i + 15, none⟩ = some (.int .u8 x.let_)
theorem C16.keep {W W' : World} {b i : Nat} {x : Edit} (h : C16 W b i x) (hk : ∀ j, W'.cell? ⟨b, j, none⟩ = W.cell? ⟨b, j, none⟩) : C16 W' b i x := by
  obtain ⟨c0, c1, c2, c3, c4, c5, c6, c7, c8, c9, c10, c11, c12, c13, c14, c15⟩ := h
  exact ⟨(hk _).trans c0, (hk _).trans c1, (hk _).trans c2, (hk _).trans c3, (hk _).trans c4, (hk _).trans c5, (hk _).trans c6, (hk _).trans c7, (hk _).trans c8, (hk _).trans c9, (hk _).trans c10, (hk _).trans c11, (hk _).trans c12, (hk _).trans c13, (hk _).trans c14, (hk _).trans c15⟩
theorem C16.set {W : World} {b i : Nat} {x : Edit} (h : C16 W b i x) {p : Addr} (hp : b ≠ p.block) (u : Value) : C16 (W.setCell p u) b i x :=
  h.keep fun j => World.cell?_setCell_other W p _ u (fun e => hp (by rw [e]))
theorem C16.below {W W' : World} {b i B : Nat} {x : Edit} (h : C16 W b i x) (hb : Below B W W') (hB : b < B) : C16 W' b i x := h.keep fun j => hb.cell hB
/-- What the document's fold of edits hands back. -/
def FoldR (w : World) (S : Nat → Prop) (r : Pnr × Nat × Int) (en : Ending) (w' : World) : Prop :=
  ∃ h', en = .returned (.tuple #[.agg #[.string r.1.loc, .string r.1.off, .slice h'.an h'.nn h'.cn, .slice h'.ag h'.ng h'.cg, .slice h'.ap h'.np h'.cp, .int .i64 r.1.tik.kind, .int .i64 r.1.tik.day, .int .i64 r.1.tik.min, .string r.1.rc, .slice h'.ar h'.nr h'.cr, .slice h'.ae h'.ne h'.ce, .bool r.1.queued], .int .i64 r.2.1, .int .i64 r.2.2]) ∧ PS w' (fun b => S b ∨ (w.heap.size ≤ b ∧ b < w'.heap.size)) r.1 h' ∧ Below w.heap.size w w'
theorem FoldR.mk' {w w' : World} {S : Nat → Prop} {r : Pnr × Nat × Int} {q : Pnr} {k : Nat} {n : Int} {h' : Hd} (e : r = (q, k, n)) (hp : PS w' (fun b => S b ∨ (w.heap.size ≤ b ∧ b < w'.heap.size)) q h') (hb : Below w.heap.size w w') : FoldR w S r (.returned (.tuple #[.agg #[.string q.loc, .string q.off, .slice h'.an h'.nn h'.cn, .slice h'.ag h'.ng h'.cg, .slice h'.ap h'.np h'.cp, .int .i64 q.tik.kind, .int .i64 q.tik.day, .int .i64 q.tik.min, .string q.rc, .slice h'.ar h'.nr h'.cr, .slice h'.ae h'.ne h'.ce, .bool q.queued], .int .i64 k, .int .i64 n])) w' := by
  subst e
  exact ⟨h', rfl, hp, hb⟩
/-- The local is written. -/
theorem local_ps {w W : World} {g : Nat} {S : Nat → Prop} {pc rc : Array Value} {q q2 : Pnr} {h h2 : Hd} (hF : FC w pc rc W) (hg : w.heap.size + 1 < g) (hP : PS W S q h) (hQ : PS W S q2 h2) (hS : ∀ b, S b → b ≠ g) (hbx : Bx W g #[.string ⟨#[]⟩, .string ⟨#[]⟩, .slice none 0 0, .slice none 0 0, .slice none 0 0, .int .i64 0, .int .i64 0, .int .i64 0, .string ⟨#[]⟩, .slice none 0 0, .slice none 0 0, .bool false] 29) :
    FC w pc rc (W.setRow g #[.string q2.loc, .string q2.off, .slice h2.an h2.nn h2.cn, .slice h2.ag h2.ng h2.cg, .slice h2.ap h2.np h2.cp, .int .i64 q2.tik.kind, .int .i64 q2.tik.day, .int .i64 q2.tik.min, .string q2.rc, .slice h2.ar h2.nr h2.cr, .slice h2.ae h2.ne h2.ce, .bool q2.queued]) ∧ PS (W.setRow g #[.string q2.loc, .string q2.off, .slice h2.an h2.nn h2.cn, .slice h2.ag h2.ng h2.cg, .slice h2.ap h2.np h2.cp, .int .i64 q2.tik.kind, .int .i64 q2.tik.day, .int .i64 q2.tik.min, .string q2.rc, .slice h2.ar h2.nr h2.cr, .slice h2.ae h2.ne h2.ce, .bool q2.queued]) S q h ∧ PS (W.setRow g #[.string q2.loc, .string q2.off, .slice h2.an h2.nn h2.cn, .slice h2.ag h2.ng h2.cg, .slice h2.ap h2.np h2.cp, .int .i64 q2.tik.kind, .int .i64 q2.tik.day, .int .i64 q2.tik.min, .string q2.rc, .slice h2.ar h2.nr h2.cr, .slice h2.ae h2.ne h2.ce, .bool q2.queued]) S q2 h2 ∧ (∀ i, (W.setRow g #[.string q2.loc, .string q2.off, .slice h2.an h2.nn h2.cn, .slice h2.ag h2.ng h2.cg, .slice h2.ap h2.np h2.cp, .int .i64 q2.tik.kind, .int .i64 q2.tik.day, .int .i64 q2.tik.min, .string q2.rc, .slice h2.ar h2.nr h2.cr, .slice h2.ae h2.ne h2.ce, .bool q2.queued]).cell? ⟨g, i, none⟩ = (#[.string q2.loc, .string q2.off, .slice h2.an h2.nn h2.cn, .slice h2.ag h2.ng h2.cg, .slice h2.ap h2.np h2.cp, .int .i64 q2.tik.kind, .int .i64 q2.tik.day, .int .i64 q2.tik.min, .string q2.rc, .slice h2.ar h2.nr h2.cr, .slice h2.ae h2.ne h2.ce, .bool q2.queued] : Array Value)[i]?) ∧ g < (W.setRow g #[.string q2.loc, .string q2.off, .slice h2.an h2.nn h2.cn, .slice h2.ag h2.ng h2.cg, .slice h2.ap h2.np h2.cp, .int .i64 q2.tik.kind, .int .i64 q2.tik.day, .int .i64 q2.tik.min, .string q2.rc, .slice h2.ar h2.nr h2.cr, .slice h2.ae h2.ne h2.ce, .bool q2.queued]).heap.size ∧ (W.setRow g #[.string q2.loc, .string q2.off, .slice h2.an h2.nn h2.cn, .slice h2.ag h2.ng h2.cg, .slice h2.ap h2.np h2.cp, .int .i64 q2.tik.kind, .int .i64 q2.tik.day, .int .i64 q2.tik.min, .string q2.rc, .slice h2.ar h2.nr h2.cr, .slice h2.ae h2.ne h2.ce, .bool q2.queued]).heap.size = W.heap.size :=
  ⟨⟨below_setRow hF.B (by omega) _, hF.r1.rowOther (by omega) _, hF.r2.rowOther (by omega) _⟩,
    hP.keep (fun a ha => cell_setRow_other _ _ _ _ (hS _ ha)), hQ.keep (fun a ha => cell_setRow_other _ _ _ _ (hS _ ha)), Bx.cells (hbx.row _), by have := hbx.lt; simp; omega, by simp⟩
set_option maxRecDepth 100000 in
set_option maxHeartbeats 8000000 in
theorem rfold_any (p : Pnr) (h : Hd) (es : List Edit) (A : Option Addr) (n c : Nat) (w : World) (S : Nat → Prop) (lo hi : Nat) (hp : PS w S p h) (hS : ∀ b, S b → b < w.heap.size) (hs : p.small 1000) (hes : Sl w lo hi tEdit A n es) (hn : n ≤ 1000) (hhi : hi ≤ w.heap.size) :
    Calls Tryd.prog 29 #[.agg #[.string p.loc, .string p.off, .slice h.an h.nn h.cn, .slice h.ag h.ng h.cg, .slice h.ap h.np h.cp, .int .i64 p.tik.kind, .int .i64 p.tik.day, .int .i64 p.tik.min, .string p.rc, .slice h.ar h.nr h.cr, .slice h.ae h.ne h.ce, .bool p.queued], .slice A n c] w (FoldR w S (foldF p es)) := by
  have HP := Lib.hid hp
  have HS0 := Lib.hid hs
  have HB := Lib.hid hS
  have HES := Lib.hid hes
  have HLE := Lib.hid hes.len
  clear hp hS hs hes
  have hF := FC.start w #[.string p.loc, .string p.off, .slice h.an h.nn h.cn, .slice h.ag h.ng h.cg, .slice h.ap h.np h.cp, .int .i64 p.tik.kind, .int .i64 p.tik.day, .int .i64 p.tik.min, .string p.rc, .slice h.ar h.nr h.cr, .slice h.ae h.ne h.ce, .bool p.queued] zc
  unfold zc at hF
  go_enter Tryd.func29, Tryd.ntmps29
  go_wp2
  go_loopw [7, 8, 9] (fun i _ _ wr => ∃ (k : Nat) (q : Pnr) (hq : Hd), k ≤ n ∧ i = .int .i64 k ∧ Hid (foldF p es = addF k (foldF q (es.drop k))) ∧ Hid (q.small (1000 + k)) ∧ FC w #[.string q.loc, .string q.off, .slice hq.an hq.nn hq.cn, .slice hq.ag hq.ng hq.cg, .slice hq.ap hq.np hq.cp, .int .i64 q.tik.kind, .int .i64 q.tik.day, .int .i64 q.tik.min, .string q.rc, .slice hq.ar hq.nr hq.cr, .slice hq.ae hq.ne hq.ce, .bool q.queued] #[.string ⟨#[]⟩, .string ⟨#[]⟩, .slice none 0 0, .slice none 0 0, .slice none 0 0, .int .i64 0, .int .i64 0, .int .i64 0, .string ⟨#[]⟩, .slice none 0 0, .slice none 0 0, .bool false] wr ∧ PS wr (fun b => S b ∨ (w.heap.size + 1 + 1 ≤ b ∧ b < wr.heap.size)) q hq) (fun i _ _ _ => n - (intOf i).toNat)
  case atStart => exact ⟨0, p, h, Nat.zero_le _, rfl, (by show foldF p es = addF 0 (foldF p es); simp [addF]), HS0, hF, (HP.out.below hF.B HB.out).mono fun b hb => .inl hb⟩
  case round =>
    clear hF
    obtain ⟨k, q, hq, hk, rfl, hfo, hsm, hF, hP⟩ := hrel
    have x1 := hF.c1
    have z1 := hF.z
    have z0 : w.heap.size < wr.heap.size := by omega
    by_cases hlt : k < n
    · obtain ⟨b, o, x, rfl, g1, g2, hx, hok, c0, c1, c2, c3, c4, c5, c6, c7, c8, c9, c10, c11, c12, c13, c14, c15⟩ := (HES.out.below hF.B hhi).edit_ hlt
      have hC : Hid (C16 wr b (o + k * 16) x) := ⟨c0, c1, c2, c3, c4, c5, c6, c7, c8, c9, c10, c11, c12, c13, c14, c15⟩
      have hk0 : (0 : Int) ≤ k := by omega
      have hkl : (k : Int) < n := by omega
      have hbw : b < w.heap.size := by omega
      have hbs : b < wr.heap.size := by omega
      have hnxt := applyF_small (e := x) hsm.out
      have HA := Lib.hid (fun (W : World) (S' : Nat → Prop) (h2 : PS W S' q hq) (h3 : ∀ b, S' b → b < W.heap.size) => rapply_any q hq x W S' h2 h3 (hsm.out.mono (by omega)) hok)
      have hst := fun (h0 : (applyF q x).2 = 0) => Lib.hid (hfo.out.trans (fold_step hx.out h0))
      have hsp := fun (h0 : (applyF q x).2 ≠ 0) => Lib.hid (hfo.out.trans (fold_stop hx.out h0))
      generalize hr : applyF q x = r at hnxt HA hst hsp
      have HR := Lib.hid hr
      clear hr
      obtain ⟨q2, f2⟩ := r
      dsimp only at hst hsp hnxt
      have HST := Lib.hid hst
      have HSP := Lib.hid hsp
      clear hst hsp
      have hSlt : ∀ b, (S b ∨ (w.heap.size + 1 + 1 ≤ b ∧ b < wr.heap.size)) → b < wr.heap.size := fun b hb => hb.elim (fun h => by have := HB.out b h; omega) (fun h => h.2)
      have HSL := Lib.hid hSlt
      clear hSlt
      go_wp2
      have hFd := hF.drew
      have hPd := hP.drewN 1
      have hCd : C16 wr.drew b (o + k * 16) x := C16.keep hC.out fun _ => rfl
      have kfd := hFd.c1
      have hFe := hFd.step ((Below.refl _ _).alloc (Nat.le_refl _) (.cells #[.string ⟨#[]⟩, .string ⟨#[]⟩, .slice none 0 0, .slice none 0 0, .slice none 0 0, .int .i64 0, .int .i64 0, .int .i64 0, .string ⟨#[]⟩, .slice none 0 0, .slice none 0 0, .bool false] 29))
      have hPe := PS.below (B := wr.drew.heap.size) hPd ((Below.refl _ _).alloc (Nat.le_refl _) (.cells #[.string ⟨#[]⟩, .string ⟨#[]⟩, .slice none 0 0, .slice none 0 0, .slice none 0 0, .int .i64 0, .int .i64 0, .int .i64 0, .string ⟨#[]⟩, .slice none 0 0, .slice none 0 0, .bool false] 29)) HSL.out
      have hCe : C16 (wr.drew.alloc (.cells #[.string ⟨#[]⟩, .string ⟨#[]⟩, .slice none 0 0, .slice none 0 0, .slice none 0 0, .int .i64 0, .int .i64 0, .int .i64 0, .string ⟨#[]⟩, .slice none 0 0, .slice none 0 0, .bool false] 29)) b (o + k * 16) x := C16.below (B := wr.drew.heap.size) hCd ((Below.refl _ _).alloc (Nat.le_refl _) _) hbs
      have kfe := hFe.c1
      have hbx0 : Bx (wr.drew.alloc (.cells #[.string ⟨#[]⟩, .string ⟨#[]⟩, .slice none 0 0, .slice none 0 0, .slice none 0 0, .int .i64 0, .int .i64 0, .int .i64 0, .string ⟨#[]⟩, .slice none 0 0, .slice none 0 0, .bool false] 29)) wr.heap.size #[.string ⟨#[]⟩, .string ⟨#[]⟩, .slice none 0 0, .slice none 0 0, .slice none 0 0, .int .i64 0, .int .i64 0, .int .i64 0, .string ⟨#[]⟩, .slice none 0 0, .slice none 0 0, .bool false] 29 := Bx.new wr.drew _ _
      go_cut [8, 9] (fun s8 s9 w' => ∃ g h2, s8 = .pointer (some ⟨g, 0, none⟩) ∧ s9 = .int .i64 f2 ∧ FC w #[.string q.loc, .string q.off, .slice hq.an hq.nn hq.cn, .slice hq.ag hq.ng hq.cg, .slice hq.ap hq.np hq.cp, .int .i64 q.tik.kind, .int .i64 q.tik.day, .int .i64 q.tik.min, .string q.rc, .slice hq.ar hq.nr hq.cr, .slice hq.ae hq.ne hq.ce, .bool q.queued] #[.string ⟨#[]⟩, .string ⟨#[]⟩, .slice none 0 0, .slice none 0 0, .slice none 0 0, .int .i64 0, .int .i64 0, .int .i64 0, .string ⟨#[]⟩, .slice none 0 0, .slice none 0 0, .bool false] w' ∧ PS w' (fun b => S b ∨ (w.heap.size + 1 + 1 ≤ b ∧ b < w'.heap.size)) q hq ∧ PS w' (fun b => S b ∨ (w.heap.size + 1 + 1 ≤ b ∧ b < w'.heap.size)) q2 h2 ∧ (∀ i, w'.cell? ⟨g, i, none⟩ = (#[.string q2.loc, .string q2.off, .slice h2.an h2.nn h2.cn, .slice h2.ag h2.ng h2.cg, .slice h2.ap h2.np h2.cp, .int .i64 q2.tik.kind, .int .i64 q2.tik.day, .int .i64 q2.tik.min, .string q2.rc, .slice h2.ar h2.nr h2.cr, .slice h2.ae h2.ne h2.ce, .bool q2.queued] : Array Value)[i]?) ∧ g < w'.heap.size ∧ w.heap.size + 1 < g)
      case first =>
        go_region_held3 (fun w' => (∀ i : Nat, w'.cell? ⟨w.heap.size, i, none⟩ = (#[.string q.loc, .string q.off, .slice hq.an hq.nn hq.cn, .slice hq.ag hq.ng hq.cg, .slice hq.ap hq.np hq.cp, .int .i64 q.tik.kind, .int .i64 q.tik.day, .int .i64 q.tik.min, .string q.rc, .slice hq.ar hq.nr hq.cr, .slice hq.ae hq.ne hq.ce, .bool q.queued] : Array Value)[i]?) ∧ (w'.cell? ⟨b, o + k * 16, none⟩ = some (.int .i64 x.kind) ∧ w'.cell? ⟨b, o + k * 16 + 1, none⟩ = some (.string x.nam.last) ∧ w'.cell? ⟨b, o + k * 16 + 2, none⟩ = some (.string x.nam.first) ∧ w'.cell? ⟨b, o + k * 16 + 3, none⟩ = some (.string x.seg.car) ∧ w'.cell? ⟨b, o + k * 16 + 4, none⟩ = some (.int .i64 x.seg.num) ∧ w'.cell? ⟨b, o + k * 16 + 5, none⟩ = some (.int .i64 x.seg.day) ∧ w'.cell? ⟨b, o + k * 16 + 6, none⟩ = some (.int .u8 x.seg.cls) ∧ w'.cell? ⟨b, o + k * 16 + 7, none⟩ = some (.bool x.seg.live) ∧ w'.cell? ⟨b, o + k * 16 + 8, none⟩ = some (.int .i64 x.tik.kind) ∧ w'.cell? ⟨b, o + k * 16 + 9, none⟩ = some (.int .i64 x.tik.day) ∧ w'.cell? ⟨b, o + k * 16 + 10, none⟩ = some (.int .i64 x.tik.min) ∧ w'.cell? ⟨b, o + k * 16 + 11, none⟩ = some (.string x.text) ∧ w'.cell? ⟨b, o + k * 16 + 12, none⟩ = some (.int .i64 x.n) ∧ w'.cell? ⟨b, o + k * 16 + 13, none⟩ = some (.int .i64 x.pax) ∧ w'.cell? ⟨b, o + k * 16 + 14, none⟩ = some (.int .i64 x.row) ∧ w'.cell? ⟨b, o + k * 16 + 15, none⟩ = some (.int .u8 x.let_))) (refine ⟨?_, ?_⟩ <;> first | ((repeat (with_reducible refine boxed_set ?_ _ (by first | omega | (simp; omega)) _)); first | with_reducible exact kf2 | with_reducible exact kf2a _ | with_reducible exact kfd | with_reducible exact kfe | exact kfe | exact kf2a _) | (show C16 _ b (o + k * 16) x; (repeat (with_reducible refine C16.set ?_ (by first | omega | (simp; omega)) _)); first | with_reducible exact hC2 | with_reducible exact kc2a _ | with_reducible exact hCd | with_reducible exact hCe | exact hCe | exact kc2a _))
          (first
            | (go_at_call 21; refine (HA.out (wr.drew.alloc (.cells #[.string ⟨#[]⟩, .string ⟨#[]⟩, .slice none 0 0, .slice none 0 0, .slice none 0 0, .int .i64 0, .int .i64 0, .int .i64 0, .string ⟨#[]⟩, .slice none 0 0, .slice none 0 0, .bool false] 29)) _ hPe (fun b hb => by have := HSL.out b hb; simp; omega)).mono ?_; rintro en w2 ⟨h2, rfl, hP2, hb2⟩; have hF2 := hFe.step hb2; have hPq2 := PS.below (B := wr.drew.heap.size) hPe (hb2.mono (by simp)) HSL.out; have hC2 : C16 w2 b (o + k * 16) x := C16.below hCe hb2 (by simp; omega); have hbx2 := hbx0.below hb2 (by simp); have hq1 := Bx.cells hbx2; have hq2 := Bx.free hbx2; have hs2 := hb2.size; have hs3 : wr.heap.size < w2.heap.size := (by simp at hs2; omega); have kf2 := hF2.c1; have kf2a := fun t => (hF2.step ((Below.refl _ _).alloc (Nat.le_refl _) t)).c1; have kc2a := fun t => C16.below (B := w2.heap.size) hC2 ((Below.refl _ _).alloc (Nat.le_refl _) t) (by omega); have u4 : w.heap.size < w2.heap.size := (by omega); have u5 : b < w2.heap.size := (by omega))
            | (go_at_call 21; refine (HA.out wr.drew _ hPd HSL.out).mono ?_; rintro en w2 ⟨h2, rfl, hP2, hb2⟩; have hF2 := hFd.step hb2; have hPq2 := PS.below (B := wr.drew.heap.size) hPd hb2 HSL.out; have hC2 : C16 w2 b (o + k * 16) x := C16.below hCd hb2 (by simp; omega); have hs2 := hb2.size; have hs3 : wr.heap.size ≤ w2.heap.size := hs2; have kf2 := hF2.c1; have kf2a := fun t => (hF2.step ((Below.refl _ _).alloc (Nat.le_refl _) t)).c1; have kc2a := fun t => C16.below (B := w2.heap.size) hC2 ((Below.refl _ _).alloc (Nat.le_refl _) t) (by omega); have u4 : w.heap.size < w2.heap.size := (by omega); have u5 : b < w2.heap.size := (by omega)))
        · have k1 := hF2.step ((Below.refl _ _).alloc (Nat.le_refl _) (.cells #[.string q2.loc, .string q2.off, .slice h2.an h2.nn h2.cn, .slice h2.ag h2.ng h2.cg, .slice h2.ap h2.np h2.cp, .int .i64 q2.tik.kind, .int .i64 q2.tik.day, .int .i64 q2.tik.min, .string q2.rc, .slice h2.ar h2.nr h2.cr, .slice h2.ae h2.ne h2.ce, .bool q2.queued] 29))
          have k2 := (PS.below (B := w2.heap.size) hPq2 ((Below.refl _ _).alloc (Nat.le_refl _) (.cells #[.string q2.loc, .string q2.off, .slice h2.an h2.nn h2.cn, .slice h2.ag h2.ng h2.cg, .slice h2.ap h2.np h2.cp, .int .i64 q2.tik.kind, .int .i64 q2.tik.day, .int .i64 q2.tik.min, .string q2.rc, .slice h2.ar h2.nr h2.cr, .slice h2.ae h2.ne h2.ce, .bool q2.queued] 29)) (fun b hb => by have := HSL.out b hb; omega)).mono (S' := fun b => S b ∨ (w.heap.size + 1 + 1 ≤ b ∧ b < (w2.alloc (.cells #[.string q2.loc, .string q2.off, .slice h2.an h2.nn h2.cn, .slice h2.ag h2.ng h2.cg, .slice h2.ap h2.np h2.cp, .int .i64 q2.tik.kind, .int .i64 q2.tik.day, .int .i64 q2.tik.min, .string q2.rc, .slice h2.ar h2.nr h2.cr, .slice h2.ae h2.ne h2.ce, .bool q2.queued] 29)).heap.size)) (fun b hb => hb.elim .inl fun hb => .inr ⟨hb.1, by simp; omega⟩)
          have k3 := (PS.below (B := w2.heap.size) hP2 ((Below.refl _ _).alloc (Nat.le_refl _) (.cells #[.string q2.loc, .string q2.off, .slice h2.an h2.nn h2.cn, .slice h2.ag h2.ng h2.cg, .slice h2.ap h2.np h2.cp, .int .i64 q2.tik.kind, .int .i64 q2.tik.day, .int .i64 q2.tik.min, .string q2.rc, .slice h2.ar h2.nr h2.cr, .slice h2.ae h2.ne h2.ce, .bool q2.queued] 29)) (fun b hb => by rcases hb with hb | hb; have := HSL.out b hb; omega; exact hb.2)).mono (S' := fun b => S b ∨ (w.heap.size + 1 + 1 ≤ b ∧ b < (w2.alloc (.cells #[.string q2.loc, .string q2.off, .slice h2.an h2.nn h2.cn, .slice h2.ag h2.ng h2.cg, .slice h2.ap h2.np h2.cp, .int .i64 q2.tik.kind, .int .i64 q2.tik.day, .int .i64 q2.tik.min, .string q2.rc, .slice h2.ar h2.nr h2.cr, .slice h2.ae h2.ne h2.ce, .bool q2.queued] 29)).heap.size)) (fun b hb => by rcases hb with (hb | hb) | hb; exact .inl hb; exact .inr ⟨hb.1, by simp; omega⟩; exact .inr ⟨by have h1 := hb.1; simp at h1; omega, by have := hb.2; simp; omega⟩)
          have k4 := boxed_new w2 #[.string q2.loc, .string q2.off, .slice h2.an h2.nn h2.cn, .slice h2.ag h2.ng h2.cg, .slice h2.ap h2.np h2.cp, .int .i64 q2.tik.kind, .int .i64 q2.tik.day, .int .i64 q2.tik.min, .string q2.rc, .slice h2.ar h2.nr h2.cr, .slice h2.ae h2.ne h2.ce, .bool q2.queued] 29
          have k5 : w2.heap.size < (w2.alloc (.cells #[.string q2.loc, .string q2.off, .slice h2.an h2.nn h2.cn, .slice h2.ag h2.ng h2.cg, .slice h2.ap h2.np h2.cp, .int .i64 q2.tik.kind, .int .i64 q2.tik.day, .int .i64 q2.tik.min, .string q2.rc, .slice h2.ar h2.nr h2.cr, .slice h2.ae h2.ne h2.ce, .bool q2.queued] 29)).heap.size := by simp
          generalize w2.alloc (.cells #[.string q2.loc, .string q2.off, .slice h2.an h2.nn h2.cn, .slice h2.ag h2.ng h2.cg, .slice h2.ap h2.np h2.cp, .int .i64 q2.tik.kind, .int .i64 q2.tik.day, .int .i64 q2.tik.min, .string q2.rc, .slice h2.ar h2.nr h2.cr, .slice h2.ae h2.ne h2.ce, .bool q2.queued] 29) = W9 at k1 k2 k3 k4 k5 ⊢
          go_wp2
          go_meet
          exact ⟨_, h2, rfl, rfl, k1, k2, k3, k4, k5, by omega⟩
        · rw [set12 hbx2]
          have key := local_ps (S := fun b => (S b ∨ (w.heap.size + 1 + 1 ≤ b ∧ b < wr.heap.size)) ∨ (wr.heap.size < b ∧ b < w2.heap.size)) hF2 (by omega) (PS.mono hPq2 fun b hb => .inl hb) (PS.mono hP2 fun b hb => hb.elim .inl fun hb => .inr ⟨by have h1 := hb.1; simp at h1; omega, hb.2⟩) (fun b hb => by
            rcases hb with hb | hb
            · have := HSL.out b hb; omega
            · omega) hbx2
          generalize w2.setRow wr.heap.size #[.string q2.loc, .string q2.off, .slice h2.an h2.nn h2.cn, .slice h2.ag h2.ng h2.cg, .slice h2.ap h2.np h2.cp, .int .i64 q2.tik.kind, .int .i64 q2.tik.day, .int .i64 q2.tik.min, .string q2.rc, .slice h2.ar h2.nr h2.cr, .slice h2.ae h2.ne h2.ce, .bool q2.queued] = W9 at key ⊢
          obtain ⟨k1, k2, k3, k4, k5, k6⟩ := key
          go_wp2
          go_meet
          exact ⟨_, h2, rfl, rfl, k1, PS.mono k2 fun b hb => (by rcases hb with (hb | hb) | hb; exact .inl hb; exact .inr ⟨hb.1, by omega⟩; exact .inr ⟨by omega, by omega⟩), PS.mono k3 fun b hb => (by rcases hb with (hb | hb) | hb; exact .inl hb; exact .inr ⟨hb.1, by omega⟩; exact .inr ⟨by omega, by omega⟩), k4, k5, by omega⟩
      case rest =>
        clear c0 c1 c2 c3 c4 c5 c6 c7 c8 c9 c10 c11 c12 c13 c14 c15 x1 hF hP hFd hPd hFe hPe hbx0 hCd hCe hC HA kfd kfe
        obtain ⟨g, h2, rfl, rfl, hF, hP, hP2, hbx, hg, hg1⟩ := hcut
        have y1 := hF.c1
        have y2 := hF.f1
        have y3 := hF.z
        have y4 : w.heap.size < wc.heap.size := by omega
        by_cases hf0 : f2 = 0
        · have hst := HST.out hf0
          have hne : (f2 != 0) = false := by rw [bne_eq_false_iff_eq]; exact hf0
          clear hf0 y2
          go_wp2_with (refine store_res rfl (.tmp 2) (.tmp 30) rfl #[.string q2.loc, .string q2.off, .slice h2.an h2.nn h2.cn, .slice h2.ag h2.ng h2.cg, .slice h2.ap h2.np h2.cp, .int .i64 q2.tik.kind, .int .i64 q2.tik.day, .int .i64 q2.tik.min, .string q2.rc, .slice h2.ar h2.nr h2.cr, .slice h2.ae h2.ne h2.ce, .bool q2.queued] rfl rfl hF.r1 rfl rfl (by simp [Value.oneCell']) ?_)
          go_roundw
          case rel => exact ⟨k + 1, q2, h2, by omega, by go_num, hst, hnxt, ⟨below_setRow hF.B (Nat.le_refl _) _, hF.r1.row _, hF.r2.rowOther (by omega) _⟩, PS.mono (PS.keep hP2 fun a ha => cell_setRow_other _ _ _ _ (by rcases ha with ha | ha; have := HB.out _ ha; omega; omega)) fun b hb => hb.elim .inl fun hb => .inr ⟨hb.1, by have := hb.2; simpa using this⟩⟩
          case measure => simp [intOf]; omega
        · have hsp := HSP.out hf0
          have hne : (f2 != 0) = true := by rw [bne_iff_ne]; exact hf0
          clear hf0 y2
          go_wp2_with (refine store_res rfl (.tmp 4) (.tmp 27) rfl #[.string q.loc, .string q.off, .slice hq.an hq.nn hq.cn, .slice hq.ag hq.ng hq.cg, .slice hq.ap hq.np hq.cp, .int .i64 q.tik.kind, .int .i64 q.tik.day, .int .i64 q.tik.min, .string q.rc, .slice hq.ar hq.nr hq.cr, .slice hq.ae hq.ne hq.ce, .bool q.queued] rfl rfl hF.r2 rfl rfl (by simp [Value.oneCell']) ?_)
          have hF9 := hF.put2 #[.string q.loc, .string q.off, .slice hq.an hq.nn hq.cn, .slice hq.ag hq.ng hq.cg, .slice hq.ap hq.np hq.cp, .int .i64 q.tik.kind, .int .i64 q.tik.day, .int .i64 q.tik.min, .string q.rc, .slice hq.ar hq.nr hq.cr, .slice hq.ae hq.ne hq.ce, .bool q.queued]
          refine ret_cuv Tryd.results29 hF9.r2 rfl rfl rfl rfl rfl ?_
          exact FoldR.mk' hsp.out (PS.mono (PS.keep hP fun a ha => cell_setRow_other _ _ _ _ (by rcases ha with ha | ha; have := HB.out _ ha; omega; omega)) fun b hb => hb.elim .inl fun hb => .inr ⟨by omega, by have := hb.2; simpa using this⟩) hF9.B
    · obtain rfl : n = k := by omega
      have hfin := Lib.hid (hfo.out.trans (fold_end HLE.out))
      go_wp2_with (refine store_res rfl (.tmp 4) (.tmp 31) rfl #[.string q.loc, .string q.off, .slice hq.an hq.nn hq.cn, .slice hq.ag hq.ng hq.cg, .slice hq.ap hq.np hq.cp, .int .i64 q.tik.kind, .int .i64 q.tik.day, .int .i64 q.tik.min, .string q.rc, .slice hq.ar hq.nr hq.cr, .slice hq.ae hq.ne hq.ce, .bool q.queued] rfl rfl hF.r2 rfl rfl (by simp [Value.oneCell']) ?_)
      have hF9 := hF.put2 #[.string q.loc, .string q.off, .slice hq.an hq.nn hq.cn, .slice hq.ag hq.ng hq.cg, .slice hq.ap hq.np hq.cp, .int .i64 q.tik.kind, .int .i64 q.tik.day, .int .i64 q.tik.min, .string q.rc, .slice hq.ar hq.nr hq.cr, .slice hq.ae hq.ne hq.ce, .bool q.queued]
      refine ret_cuv Tryd.results29 hF9.r2 rfl rfl rfl rfl rfl ?_
      exact FoldR.mk' hfin.out (PS.mono (PS.keep hP fun a ha => cell_setRow_other _ _ _ _ (by rcases ha with ha | ha; have := HB.out _ ha; omega; omega)) fun b hb => hb.elim .inl fun hb => .inr ⟨by omega, by have := hb.2; simpa using this⟩) hF9.B
end Go.Proofs.YtaakcccffmfmoaaDoor

