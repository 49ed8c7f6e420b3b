/- Areas: one edit more. -/
import Derived.Test.YtpgeoahlhdifoaaGreatDoorArea5
import Derived.Great.BuildSlice
import Derived.Deep.RegionHeld3
namespace Go.Proofs.YtpgeoahlhdifoaaGreatDoor
set_option linter.unusedVariables false
open Go Go.RowKit
/-- A whole area's load as one word, which simp does not lay open: cell by cell the kernel's work doubles with each cell. -/
noncomputable def loadA (v : Value) : Sem Value := Instr.loadAt 53 v
theorem loadA_eq (v : Value) : Instr.loadAt 53 v = loadA v := rfl
attribute [local go_sem ↓] loadA_eq
theorem lda_of {W : World} {g : Nat} {cs : Array Value} (hr : Bx W g cs 53) (h20 : cs.size = 20) : (loadA (.pointer (some ⟨g, 0, none⟩))).run Tryz.prog W = .ok (.agg cs) W := by
  unfold loadA
  simp only [Instr.loadAt, Instr.sureAddr, Sem.run_bind, Sem.run_pure, Result.andThen_ok, run_loadVar_row (P := Tryz.prog) W g 53 53 cs (0, 0) _ hr Tryz.underlying53 rfl (by rw [h20]; exact info_area)]
/-- An area's cells, each by itself. -/
def C20 (W : World) (b : Nat) (a : Ar) (h : AH) : Prop := W.cell? ⟨b, 0, none⟩ = some (.string a.agent) ∧ W.cell? ⟨b, 1, none⟩ = some (.string a.off) ∧ W.cell? ⟨b, 2, none⟩ = some (.bool a.open_) ∧ W.cell? ⟨b, 3, none⟩ = some (.string a.base.loc) ∧ W.cell? ⟨b, 4, none⟩ = some (.string a.base.off) ∧ W.cell? ⟨b, 5, none⟩ = some (.slice h.b.an h.b.nn h.b.cn) ∧ W.cell? ⟨b, 6, none⟩ = some (.slice h.b.ag h.b.ng h.b.cg) ∧ W.cell? ⟨b, 7, none⟩ = some (.slice h.b.ap h.b.np h.b.cp) ∧ W.cell? ⟨b, 8, none⟩ = some (.int .i64 a.base.tik.kind) ∧ W.cell? ⟨b, 9, none⟩ = some (.int .i64 a.base.tik.day) ∧ W.cell? ⟨b, 10, none⟩ = some (.int .i64 a.base.tik.min) ∧ W.cell? ⟨b, 11, none⟩ = some (.string a.base.rc) ∧ W.cell? ⟨b, 12, none⟩ = some (.slice h.b.ar h.b.nr h.b.cr) ∧ W.cell? ⟨b, 13, none⟩ = some (.slice h.b.ae h.b.ne h.b.ce) ∧ W.cell? ⟨b, 14, none⟩ = some (.bool a.base.queued) ∧ W.cell? ⟨b, 15, none⟩ = some (.int .u64 a.ver) ∧ W.cell? ⟨b, 16, none⟩ = some (.slice h.ad h.nd h.cd) ∧ W.cell? ⟨b, 17, none⟩ = some (.slice h.al h.nl h.cl) ∧ W.cell? ⟨b, 18, none⟩ = some (.bool a.working) ∧ W.cell? ⟨b, 19, none⟩ = some (.int .i64 a.queue)
theorem C20.of {W : World} {b : Nat} {a : Ar} {h : AH} {t : TypeId} (hr : Bx W b #[.string a.agent, .string a.off, .bool a.open_, .string a.base.loc, .string a.base.off, .slice h.b.an h.b.nn h.b.cn, .slice h.b.ag h.b.ng h.b.cg, .slice h.b.ap h.b.np h.b.cp, .int .i64 a.base.tik.kind, .int .i64 a.base.tik.day, .int .i64 a.base.tik.min, .string a.base.rc, .slice h.b.ar h.b.nr h.b.cr, .slice h.b.ae h.b.ne h.b.ce, .bool a.base.queued, .int .u64 a.ver, .slice h.ad h.nd h.cd, .slice h.al h.nl h.cl, .bool a.working, .int .i64 a.queue] t) : C20 W b a h := ⟨hr.cells 0, hr.cells 1, hr.cells 2, hr.cells 3, hr.cells 4, hr.cells 5, hr.cells 6, hr.cells 7, hr.cells 8, hr.cells 9, hr.cells 10, hr.cells 11, hr.cells 12, hr.cells 13, hr.cells 14, hr.cells 15, hr.cells 16, hr.cells 17, hr.cells 18, hr.cells 19⟩
theorem C20.keep {W W' : World} {b : Nat} {a : Ar} {h : AH} (H : C20 W b a h) (hk : ∀ j, W'.cell? ⟨b, j, none⟩ = W.cell? ⟨b, j, none⟩) : C20 W' b a h := by
  obtain ⟨c0, c1, c2, c3, c4, c5, c6, c7, c8, c9, c10, c11, c12, c13, c14, c15, c16, c17, c18, c19⟩ := H
  exact ⟨(hk _).trans c0, (hk _).trans c1, (hk _).trans c2, (hk _).trans c3, (hk _).trans c4, (hk _).trans c5, (hk _).trans c6, (hk _).trans c7, (hk _).trans c8, (hk _).trans c9, (hk _).trans c10, (hk _).trans c11, (hk _).trans c12, (hk _).trans c13, (hk _).trans c14, (hk _).trans c15, (hk _).trans c16, (hk _).trans c17, (hk _).trans c18, (hk _).trans c19⟩
theorem C20.set {W : World} {b : Nat} {a : Ar} {h : AH} (H : C20 W b a h) {p : Addr} (hp : b ≠ p.block) (u : Value) : C20 (W.setCell p u) b a h :=
  H.keep fun j => World.cell?_setCell_other W p _ u (fun e => hp (by rw [e]))
theorem F3.grown {w W W1 : World} {c1 c2 c3 : Array Value} {t1 t2 t3 : TypeId} {row : Option Nat} (H : F3 w c1 t1 c2 t2 c3 t3 W) (hg : W.grownBy W1 row) (hr : ∀ k, row = some k → w.heap.size + 1 + 1 < k) : F3 w c1 t1 c2 t2 c3 t3 W1 :=
  ⟨H.B.grown hg (by have := H.z; omega) (fun k hk => by have := hr k hk; omega), H.r1.grown hg (fun e => by have := hr _ e; omega), H.r2.grown hg (fun e => by have := hr _ e; omega), H.r3.grown hg (fun e => by have := hr _ e; omega)⟩
theorem OP.aoff {w w' : World} {B : Nat} {p : Pnr} {h : Hd} {A : Option Addr} (H : OP w B p h) (hg : w.grownBy w' (bk A)) (hd : ∀ k, bk A = some k → ¬ rowP h k) : OP w' B p h :=
  have D : ∀ {A' : Option Addr}, (∀ k, bk A' = some k → rowP h k) → Df A A' := fun hr x y hx hy e => hd x.block (by rw [hx]; rfl) (hr x.block (by rw [hy, e]; rfl))
  ⟨H.loc, H.off, H.rc, H.tik, H.names.off hg (D fun k hk => .inl hk), H.segs.off hg (D fun k hk => .inr (.inl hk)), H.phones.off hg (D fun k hk => .inr (.inr (.inl hk))), H.remarks.off hg (D fun k hk => .inr (.inr (.inr (.inl hk)))), H.seats.off hg (D fun k hk => .inr (.inr (.inr (.inr hk))))⟩
/-- A slice literal of structs: its parts fill the new row, part by part. -/
theorem fill_list {α : Type} (T : Ty α) (l : List α) (z : Array Value) (hz : z.size = l.length * T.sz) :
    Instr.fill (fun i => some (i * T.sz, T.sz)) z ((l.map fun x => Value.agg (T.enc x).toArray).zipIdx.map fun x => (x.2, x.1)) = some (l.flatMap T.enc).toArray := by
  have hall : ∀ v ∈ (l.map fun x => Value.agg (T.enc x).toArray), v.cells.size = T.sz := fun v hv => by
    obtain ⟨x, _, rfl⟩ := List.mem_map.1 hv
    simp [Value.cells, T.len]
  obtain ⟨r, hr, hsz, hk⟩ := Great.fill_dense T.pos (l.map fun x => Value.agg (T.enc x).toArray) 0 z hall (by simp [hz])
  rw [hr]
  congr 1
  have hfl := flatMap_len T l
  apply Array.ext_getElem?
  intro k
  rw [hk k]
  have hp := T.pos
  by_cases hkl : k < l.length * T.sz
  · rw [if_pos (by simp; exact hkl)]
    have h1 : k / T.sz < l.length := Nat.div_lt_of_lt_mul (by rw [Nat.mul_comm]; exact hkl)
    have h2 : k % T.sz < T.sz := Nat.mod_lt _ hp
    obtain ⟨x, hx⟩ : ∃ x, l[k / T.sz]? = some x := ⟨_, List.getElem?_eq_getElem h1⟩
    obtain ⟨u, hu⟩ : ∃ u, (T.enc x)[k % T.sz]? = some u := ⟨_, List.getElem?_eq_getElem (by rw [T.len]; exact h2)⟩
    have h3 := flatMap_at T l _ x hx _ u hu
    rw [show k / T.sz * T.sz + k % T.sz = k from by rw [Nat.mul_comm]; exact Nat.div_add_mod k T.sz] at h3
    simp [hx, hu, h3, Value.cells]
  · rw [if_neg (by simp; omega)]
    rw [Array.getElem?_eq_none (by omega)]
    simp [hfl]
    omega
theorem Sl.ofBlock {α : Type} {T : Ty α} {W : World} {g n : Nat} {cur : Array Value} {t : TypeId} {l : List α} (hg : W.heap[g]? = some (.cells cur t (0, 0))) (hl : l.length = n) (hwf : ∀ x, x ∈ l → T.wf x) (ht : cur.toList = l.flatMap T.enc) : Sl W g (g + 1) T (some ⟨g, 0, none⟩) n l := by
  refine ⟨hl, hwf, fun hpos => ⟨g, 0, rfl, Nat.le_refl _, by omega, fun k x hx j u hu => ?_⟩⟩
  have h3 := flatMap_at T l k x hx j u hu
  rw [cell_of_row W g _ cur t (0, 0) hg]
  rw [← ht] at h3
  simpa using h3
/-- The operation 'slice literal of one struct' in a walk. -/
theorem wp_slice1 {α : Type} {P : Program} {ops : Array Oper} {rest : List Oper} {o : Oper} {a : Act} {w : World} {Q : Exit → Act → World → Prop} (T : Ty α) (x : α) (hx : T.wf x) {t e : TypeId} (S : SlT P t e T.sz) (hsm : T.sz ≤ 1000)
    (hg : o.guard = none) {parts : Array (Nat × Operand)} (ho : o.op = .buildSlice t 1 parts)
    (hp : parts.toList.map (fun x => (x.1, a.eval x.2)) = [(0, .agg (T.enc x).toArray)])
    (h : ∀ C : Array Value, Sl (w.alloc (.cells C e)) w.heap.size (w.heap.size + 1) T (some ⟨w.heap.size, 0, none⟩) 1 [x] → wpList P ops Q rest (a.put o.dst (.slice (some ⟨w.heap.size, 0, none⟩) 1 1)) (w.alloc (.cells C e))) : wpList P ops Q (o :: rest) a w := by
  obtain ⟨i, z, b, hi, h0, h1, h2, h3, h4⟩ := S.hi
  have hpos := T.pos
  refine Go.wpList_buildSlice hg t e 1 parts ho ([x].flatMap T.enc).toArray i z S.ht hi h0 (by rw [h1]; omega) (by rw [h1]; omega) ?_ (h _ (Sl.ofBlock (heap_alloc_new w _) rfl (by simp [hx]) rfl))
  rw [Array.toList_map, h1]
  exact (congrArg (Instr.fill _ _) hp).trans (fill_list T [x] _ (by simp))
theorem foldF_small9 : ∀ (es : List Edit) (p : Pnr) (N : Nat), p.small N → (foldF p es).1.small (N + es.length)
  | [], p, N, h => h
  | e :: t, p, N, h => by
    unfold foldF
    split
    · exact h.mono (by simp)
    · have := foldF_small9 t (applyF p e).1 (N + 1) (applyF_small h)
      exact this.mono (by simp; omega)
set_option maxRecDepth 100000 in
set_option maxHeartbeats 8000000 in
theorem edit_no (a : Ar) (h : AH) (e : Edit) (w : World) (S : Nat → Prop) (hp : AS w S a h) (hS : ∀ b, S b → b < w.heap.size) (hs : a.small 1000) (he : e.ok) (hno : noOne a = true) :
    Calls Tryz.prog 15 #[.agg #[.string a.agent, .string a.off, .bool a.open_, .string a.base.loc, .string a.base.off, .slice h.b.an h.b.nn h.b.cn, .slice h.b.ag h.b.ng h.b.cg, .slice h.b.ap h.b.np h.b.cp, .int .i64 a.base.tik.kind, .int .i64 a.base.tik.day, .int .i64 a.base.tik.min, .string a.base.rc, .slice h.b.ar h.b.nr h.b.cr, .slice h.b.ae h.b.ne h.b.ce, .bool a.base.queued, .int .u64 a.ver, .slice h.ad h.nd h.cd, .slice h.al h.nl h.cl, .bool a.working, .int .i64 a.queue], .agg #[.int .i64 e.kind, .string e.nam.last, .string e.nam.first, .string e.seg.car, .int .i64 e.seg.num, .int .i64 e.seg.day, .int .u8 e.seg.cls, .bool e.seg.live, .int .i64 e.tik.kind, .int .i64 e.tik.day, .int .i64 e.tik.min, .string e.text, .int .i64 e.n, .int .i64 e.pax, .int .i64 e.row, .int .u8 e.let_]] w (RetA w (editF a e)) := by
  have hsg := fun (W : World) (h1 : AS W S a h) (h2 : ∀ b, S b → b < W.heap.size) => signed_any a h W S h1 h2 hs
  have HP := Lib.hid hp
  have HB := Lib.hid hS
  have hF := F3.start w (aC a h) 53 #[.int .i64 e.kind, .string e.nam.last, .string e.nam.first, .string e.seg.car, .int .i64 e.seg.num, .int .i64 e.seg.day, .int .u8 e.seg.cls, .bool e.seg.live, .int .i64 e.tik.kind, .int .i64 e.tik.day, .int .i64 e.tik.min, .string e.text, .int .i64 e.n, .int .i64 e.pax, .int .i64 e.row, .int .u8 e.let_] 50 aZ 53
  have HFIN : Hid (editF a e = (ar0, 50)) := (by show editF a e = _; unfold editF; rw [hno]; rfl)
  rw [show signedF a = (ar0, 50) by unfold signedF; rw [hno]; rfl] at hsg
  have HSG := Lib.hid hsg
  clear hsg hp hS hs hno
  go_enter Tryz.func15, Tryz.ntmps15
  go_wp2_with (refine load_ra rfl (.tmp 2) rfl rfl hF.r1 rfl ?_)
  refine (HSG.out _ (HP.out.below hF.B HB.out) (fun b hb => by have := HB.out b hb; have := hF.z; omega)).mono ?_
  rintro en w1 ⟨h1, rfl, o1, d, hb1⟩
  have hF1 := hF.step hb1
  replace o1 := o1.more (B' := w.heap.size + 1 + 1 + 1) (by simp)
  clear hF hb1
  go_upto_region 2 with (refine store_ra rfl (.tmp 2) (.tmp 12) rfl (aC ar0 h1) rfl rfl hF1.r1 rfl rfl (aC_one _ _) ?_)
  refine wp_world (fun W => F3 w (aC ar0 h1) 53 #[.int .i64 e.kind, .string e.nam.last, .string e.nam.first, .string e.seg.car, .int .i64 e.seg.num, .int .i64 e.seg.day, .int .u8 e.seg.cls, .bool e.seg.live, .int .i64 e.tik.kind, .int .i64 e.tik.day, .int .i64 e.tik.min, .string e.text, .int .i64 e.n, .int .i64 e.pax, .int .i64 e.row, .int .u8 e.let_] 50 aZ 53 W ∧ OA W (w.heap.size + 1 + 1 + 1) ar0 h1) ⟨hF1.row1 _, o1.rowAt (by omega) _⟩ ?_
  clear hF1 o1
  rintro V ⟨hF, o1⟩
  have x1 := hF.x1
  try dsimp only [aC] at x1
  try dsimp only [aZ] at x1
  have x2 := hF.x2
  try dsimp only [aC] at x2
  try dsimp only [aZ] at x2
  have z3 := hF.z
  have z1 : w.heap.size < V.heap.size := by omega
  have z2 : w.heap.size + 1 < V.heap.size := by omega
  go_wp2_with (first | (refine load_ra rfl (.tmp 2) rfl rfl hF.r1 rfl ?_) | refine store_ra rfl (.tmp 4) (.tmp 17) rfl (aC ar0 h1) rfl rfl hF.r3 rfl rfl (aC_one _ _) ?_)
  have hF9 := hF.row3 (aC ar0 h1)
  refine ret_at Tryz.results15 hF9.r3 rfl rfl rfl rfl ?_
  exact RetA.mk' HFIN.out ((o1.rowAt (by omega) _).more (by omega)) hF9.B
set_option maxRecDepth 100000 in
set_option maxHeartbeats 8000000 in
theorem edit_full (a : Ar) (h : AH) (e : Edit) (w : World) (S : Nat → Prop) (hp : AS w S a h) (hS : ∀ b, S b → b < w.heap.size) (hs : a.small 1000) (he : e.ok) (hno : noOne a = false) (hn : 100 ≤ a.edits.length) :
    Calls Tryz.prog 15 #[.agg #[.string a.agent, .string a.off, .bool a.open_, .string a.base.loc, .string a.base.off, .slice h.b.an h.b.nn h.b.cn, .slice h.b.ag h.b.ng h.b.cg, .slice h.b.ap h.b.np h.b.cp, .int .i64 a.base.tik.kind, .int .i64 a.base.tik.day, .int .i64 a.base.tik.min, .string a.base.rc, .slice h.b.ar h.b.nr h.b.cr, .slice h.b.ae h.b.ne h.b.ce, .bool a.base.queued, .int .u64 a.ver, .slice h.ad h.nd h.cd, .slice h.al h.nl h.cl, .bool a.working, .int .i64 a.queue], .agg #[.int .i64 e.kind, .string e.nam.last, .string e.nam.first, .string e.seg.car, .int .i64 e.seg.num, .int .i64 e.seg.day, .int .u8 e.seg.cls, .bool e.seg.live, .int .i64 e.tik.kind, .int .i64 e.tik.day, .int .i64 e.tik.min, .string e.text, .int .i64 e.n, .int .i64 e.pax, .int .i64 e.row, .int .u8 e.let_]] w (RetA w (editF a e)) := by
  have hsg := fun (W : World) (h1 : AS W S a h) (h2 : ∀ b, S b → b < W.heap.size) => signed_any a h W S h1 h2 hs
  have HP := Lib.hid hp
  have HB := Lib.hid hS
  have hF := F3.start w (aC a h) 53 #[.int .i64 e.kind, .string e.nam.last, .string e.nam.first, .string e.seg.car, .int .i64 e.seg.num, .int .i64 e.seg.day, .int .u8 e.seg.cls, .bool e.seg.live, .int .i64 e.tik.kind, .int .i64 e.tik.day, .int .i64 e.tik.min, .string e.text, .int .i64 e.n, .int .i64 e.pax, .int .i64 e.row, .int .u8 e.let_] 50 aZ 53
  have HFIN : Hid (editF a e = (ar0, 18)) := (by show editF a e = _; unfold editF; rw [hno, if_neg (by simp), if_pos hn])
  rw [show signedF a = (a, 0) by unfold signedF; rw [hno]; rfl] at hsg
  have HSG := Lib.hid hsg
  clear hsg hp hS hs hno
  go_enter Tryz.func15, Tryz.ntmps15
  go_wp2_with (refine load_ra rfl (.tmp 2) rfl rfl hF.r1 rfl ?_)
  refine (HSG.out _ (HP.out.below hF.B HB.out) (fun b hb => by have := HB.out b hb; have := hF.z; omega)).mono ?_
  rintro en w1 ⟨h1, rfl, o1, d, hb1⟩
  have hF1 := hF.step hb1
  replace o1 := o1.more (B' := w.heap.size + 1 + 1 + 1) (by simp)
  clear hF hb1
  go_upto_region 2 with (refine store_ra rfl (.tmp 2) (.tmp 12) rfl (aC a h1) rfl rfl hF1.r1 rfl rfl (aC_one _ _) ?_)
  refine wp_world (fun W => F3 w (aC a h1) 53 #[.int .i64 e.kind, .string e.nam.last, .string e.nam.first, .string e.seg.car, .int .i64 e.seg.num, .int .i64 e.seg.day, .int .u8 e.seg.cls, .bool e.seg.live, .int .i64 e.tik.kind, .int .i64 e.tik.day, .int .i64 e.tik.min, .string e.text, .int .i64 e.n, .int .i64 e.pax, .int .i64 e.row, .int .u8 e.let_] 50 aZ 53 W ∧ OA W (w.heap.size + 1 + 1 + 1) a h1) ⟨hF1.row1 _, o1.rowAt (by omega) _⟩ ?_
  clear hF1 o1
  rintro V ⟨hF, o1⟩
  have x1 := hF.x1
  try dsimp only [aC] at x1
  try dsimp only [aZ] at x1
  have x2 := hF.x2
  try dsimp only [aC] at x2
  try dsimp only [aZ] at x2
  have z3 := hF.z
  have z1 : w.heap.size < V.heap.size := by omega
  have z2 : w.heap.size + 1 < V.heap.size := by omega
  have hnd : h1.nd = a.edits.length := o1.edits.sl.len.symm
  have hn1 : (100 : Int) ≤ h1.nd := by rw [hnd]; omega
  clear hnd
  go_wp2_with (refine store_ra rfl (.tmp 4) (.tmp 24) rfl aZ rfl rfl hF.r3 rfl rfl aZ_one ?_)
  have hF9 := hF.row3 aZ
  refine ret_at Tryz.results15 hF9.r3 rfl rfl rfl rfl ?_
  exact RetA.mk' (h' := ah0) HFIN.out (ar0_oa _ _) hF9.B
set_option maxRecDepth 100000 in
set_option maxHeartbeats 8000000 in
theorem edit_do (a : Ar) (h : AH) (e : Edit) (w : World) (S : Nat → Prop) (hp : AS w S a h) (hS : ∀ b, S b → b < w.heap.size) (hs : a.small 1000) (he : e.ok) (hno : noOne a = false) (hn : ¬ 100 ≤ a.edits.length) :
    Calls Tryz.prog 15 #[.agg #[.string a.agent, .string a.off, .bool a.open_, .string a.base.loc, .string a.base.off, .slice h.b.an h.b.nn h.b.cn, .slice h.b.ag h.b.ng h.b.cg, .slice h.b.ap h.b.np h.b.cp, .int .i64 a.base.tik.kind, .int .i64 a.base.tik.day, .int .i64 a.base.tik.min, .string a.base.rc, .slice h.b.ar h.b.nr h.b.cr, .slice h.b.ae h.b.ne h.b.ce, .bool a.base.queued, .int .u64 a.ver, .slice h.ad h.nd h.cd, .slice h.al h.nl h.cl, .bool a.working, .int .i64 a.queue], .agg #[.int .i64 e.kind, .string e.nam.last, .string e.nam.first, .string e.seg.car, .int .i64 e.seg.num, .int .i64 e.seg.day, .int .u8 e.seg.cls, .bool e.seg.live, .int .i64 e.tik.kind, .int .i64 e.tik.day, .int .i64 e.tik.min, .string e.text, .int .i64 e.n, .int .i64 e.pax, .int .i64 e.row, .int .u8 e.let_]] w (RetA w (editF a e)) := by
  have hsg := fun (W : World) (h1 : AS W S a h) (h2 : ∀ b, S b → b < W.heap.size) => signed_any a h W S h1 h2 hs
  have HP := Lib.hid hp
  have HB := Lib.hid hS
  have HE := Lib.hid he
  have hF := F3.start w (aC a h) 53 #[.int .i64 e.kind, .string e.nam.last, .string e.nam.first, .string e.seg.car, .int .i64 e.seg.num, .int .i64 e.seg.day, .int .u8 e.seg.cls, .bool e.seg.live, .int .i64 e.tik.kind, .int .i64 e.tik.day, .int .i64 e.tik.min, .string e.text, .int .i64 e.n, .int .i64 e.pax, .int .i64 e.row, .int .u8 e.let_] 50 aZ 53
  have hfin : editF a e = if (applyF (pnrF a) e).2 ≠ 0 then (ar0, (applyF (pnrF a) e).2) else ({ a with open_ := true, edits := a.edits ++ [e] }, 0) := (by show editF a e = _; unfold editF; rw [hno, if_neg (by simp), if_neg hn])
  rw [show signedF a = (a, 0) by unfold signedF; rw [hno]; rfl] at hsg
  have HSG := Lib.hid hsg
  have HPN := Lib.hid (fun (W : World) (h1 : AH) (o : OA W (w.heap.size + 1 + 1 + 1) a h1) => apnr_any a h1 W _ o.as (fun b hb => hb.2) hs (pnrF a) rfl)
  have hsm : (pnrF a).small 100000 := by
    have h1 := foldF_small9 a.edits a.base 1000 hs.base
    exact h1.mono (by have := hs.edits; omega)
  have hap := fun (W : World) (h1 : Hd) (o : OP W 0 (pnrF a) h1) => papply_any (pnrF a) h1 e W _ o.ps (fun b hb => hb.2) hsm he
  generalize applyF (pnrF a) e = r at hap hfin
  generalize pnrF a = q at HPN hap
  obtain ⟨q3, f3⟩ := r
  dsimp only at hfin
  have HFIN := Lib.hid hfin
  have HAP := Lib.hid hap
  clear hsg hp hS hno hap hfin hsm he
  go_enter Tryz.func15, Tryz.ntmps15
  go_wp2_with (refine load_ra rfl (.tmp 2) rfl rfl hF.r1 rfl ?_)
  refine (HSG.out _ (HP.out.below hF.B HB.out) (fun b hb => by have := HB.out b hb; have := hF.z; omega)).mono ?_
  rintro en w1 ⟨h1, rfl, o1, d, hb1⟩
  have hF1 := hF.step hb1
  replace o1 := o1.more (B' := w.heap.size + 1 + 1 + 1) (by simp)
  clear hF hb1
  go_upto_region 2 with (refine store_ra rfl (.tmp 2) (.tmp 12) rfl (aC a h1) rfl rfl hF1.r1 rfl rfl (aC_one _ _) ?_)
  refine wp_world (fun W => F3 w (aC a h1) 53 #[.int .i64 e.kind, .string e.nam.last, .string e.nam.first, .string e.seg.car, .int .i64 e.seg.num, .int .i64 e.seg.day, .int .u8 e.seg.cls, .bool e.seg.live, .int .i64 e.tik.kind, .int .i64 e.tik.day, .int .i64 e.tik.min, .string e.text, .int .i64 e.n, .int .i64 e.pax, .int .i64 e.row, .int .u8 e.let_] 50 aZ 53 W ∧ OA W (w.heap.size + 1 + 1 + 1) a h1) ⟨hF1.row1 _, o1.rowAt (by omega) _⟩ ?_
  clear hF1 o1
  rintro V ⟨hF, o1⟩
  have x1 := hF.x1
  try dsimp only [aC] at x1
  try dsimp only [aZ] at x1
  have x2 := hF.x2
  try dsimp only [aC] at x2
  try dsimp only [aZ] at x2
  have z3 := hF.z
  have z1 : w.heap.size < V.heap.size := by omega
  have z2 : w.heap.size + 1 < V.heap.size := by omega
  have hnd : h1.nd = a.edits.length := o1.edits.sl.len.symm
  have hn1 : ¬ (100 : Int) ≤ h1.nd := by rw [hnd]; omega
  clear hnd
  go_upto_region 6 with fail
  clear x1
  go_cut [8] (fun s w' => s = .int .i64 f3 ∧ Below V.heap.size V w')
  case first =>
    have hFd := hF.drew
    have hFa := (hF.alloc (.cells #[.string ⟨#[]⟩, .string ⟨#[]⟩, .slice none 0 0, .slice none 0 0, .slice none 0 0, .int .i64 0, .int .i64 0, .int .i64 0, .string ⟨#[]⟩, .slice none 0 0, .slice none 0 0, .bool false] 29)).drew
    have kd := C20.of hFd.r1
    have kd' := hFd.x2
    have ka := C20.of hFa.r1
    have ka' := hFa.x2
    have od : OA V.drew (w.heap.size + 1 + 1 + 1) a h1 := o1.keep ((Below.refl _ _).drew)
    have oa : OA (V.alloc (.cells #[.string ⟨#[]⟩, .string ⟨#[]⟩, .slice none 0 0, .slice none 0 0, .slice none 0 0, .int .i64 0, .int .i64 0, .int .i64 0, .string ⟨#[]⟩, .slice none 0 0, .slice none 0 0, .bool false] 29)).drew (w.heap.size + 1 + 1 + 1) a h1 := (o1.alloc _).keep ((Below.refl _ _).drew)
    have bd : Below V.heap.size V V.drew := (Below.refl _ _).drew
    have ba : Below V.heap.size V (V.alloc (.cells #[.string ⟨#[]⟩, .string ⟨#[]⟩, .slice none 0 0, .slice none 0 0, .slice none 0 0, .int .i64 0, .int .i64 0, .int .i64 0, .string ⟨#[]⟩, .slice none 0 0, .slice none 0 0, .bool false] 29)).drew := ((Below.refl _ _).alloc (Nat.le_refl _) _).drew
    have sa : V.heap.size ≤ (V.alloc (.cells #[.string ⟨#[]⟩, .string ⟨#[]⟩, .slice none 0 0, .slice none 0 0, .slice none 0 0, .int .i64 0, .int .i64 0, .int .i64 0, .string ⟨#[]⟩, .slice none 0 0, .slice none 0 0, .bool false] 29)).drew.heap.size := ba.size
    have hb0 : Bx (V.alloc (.cells #[.string ⟨#[]⟩, .string ⟨#[]⟩, .slice none 0 0, .slice none 0 0, .slice none 0 0, .int .i64 0, .int .i64 0, .int .i64 0, .string ⟨#[]⟩, .slice none 0 0, .slice none 0 0, .bool false] 29)).drew V.heap.size #[.string ⟨#[]⟩, .string ⟨#[]⟩, .slice none 0 0, .slice none 0 0, .slice none 0 0, .int .i64 0, .int .i64 0, .int .i64 0, .string ⟨#[]⟩, .slice none 0 0, .slice none 0 0, .bool false] 29 := Bx.new V #[.string ⟨#[]⟩, .string ⟨#[]⟩, .slice none 0 0, .slice none 0 0, .slice none 0 0, .int .i64 0, .int .i64 0, .int .i64 0, .string ⟨#[]⟩, .slice none 0 0, .slice none 0 0, .bool false] 29
    go_region_held3 (fun w' => ((loadA (.pointer (some ⟨w.heap.size, 0, none⟩))).run Tryz.prog w' = .ok (.agg (aC a h1)) w') ∧ (∀ i : Nat, w'.cell? ⟨w.heap.size + 1, i, none⟩ = (#[.int .i64 e.kind, .string e.nam.last, .string e.nam.first, .string e.seg.car, .int .i64 e.seg.num, .int .i64 e.seg.day, .int .u8 e.seg.cls, .bool e.seg.live, .int .i64 e.tik.kind, .int .i64 e.tik.day, .int .i64 e.tik.min, .string e.text, .int .i64 e.n, .int .i64 e.pax, .int .i64 e.row, .int .u8 e.let_] : Array Value)[i]?)) (refine ⟨?_, ?_⟩ <;> first | (refine lda_of ?_ rfl; (repeat (with_reducible refine Bx.other ?_ (by first | omega | (simp; done) | (simp; omega)) _)); first | with_reducible exact hFd.r1 | with_reducible exact hF3.r1 | with_reducible exact (hF3.alloc _).r1 | with_reducible exact hF2.r1 | with_reducible exact (hF2.alloc _).r1 | exact hFa.r1) | ((repeat (with_reducible refine boxed_set ?_ _ (by first | omega | (simp; done) | (simp; omega)) _)); first | with_reducible exact kd' | with_reducible exact k3' | with_reducible exact k3a' _ | with_reducible exact k2' | with_reducible exact k2a' _ | exact ka'))
      (first
        | (go_at_call 11; refine (HPN.out _ h1 od).mono ?_; rintro en w2 ⟨h2, rfl, o2, hb2⟩; have hF2 : F3 w (aC a h1) 53 #[.int .i64 e.kind, .string e.nam.last, .string e.nam.first, .string e.seg.car, .int .i64 e.seg.num, .int .i64 e.seg.day, .int .u8 e.seg.cls, .bool e.seg.live, .int .i64 e.tik.kind, .int .i64 e.tik.day, .int .i64 e.tik.min, .string e.text, .int .i64 e.n, .int .i64 e.pax, .int .i64 e.row, .int .u8 e.let_] 50 aZ 53 w2 := hFd.step hb2; have hB2 : Below V.heap.size V w2 := bd.trans (hb2.mono (Nat.le_refl _)); have hs2 := hB2.size; have k2 := C20.of hF2.r1; have k2' := hF2.x2; have k2a := fun t => C20.of (hF2.alloc t).r1; have k2a' := fun t => (hF2.alloc t).x2; have z4 : w.heap.size < w2.heap.size := (by omega); have z5 : w.heap.size + 1 < w2.heap.size := (by omega); replace o2 := o2.more (Nat.zero_le _))
        | (go_at_call 11; refine (HPN.out _ h1 oa).mono ?_; rintro en w2 ⟨h2, rfl, o2, hb2⟩; have hF2 : F3 w (aC a h1) 53 #[.int .i64 e.kind, .string e.nam.last, .string e.nam.first, .string e.seg.car, .int .i64 e.seg.num, .int .i64 e.seg.day, .int .u8 e.seg.cls, .bool e.seg.live, .int .i64 e.tik.kind, .int .i64 e.tik.day, .int .i64 e.tik.min, .string e.text, .int .i64 e.n, .int .i64 e.pax, .int .i64 e.row, .int .u8 e.let_] 50 aZ 53 w2 := hFa.step hb2; have hB2 : Below V.heap.size V w2 := ba.trans (hb2.mono sa); have hs2 := hB2.size; have k2 := C20.of hF2.r1; have k2' := hF2.x2; have k2a := fun t => C20.of (hF2.alloc t).r1; have k2a' := fun t => (hF2.alloc t).x2; have z4 : w.heap.size < w2.heap.size := (by omega); have z5 : w.heap.size + 1 < w2.heap.size := (by omega); replace o2 := o2.more (Nat.zero_le _); have hbx2 := hb0.below hb2 hb0.lt)
        | (go_at_call 41; have hbx2' := hbx2; refine (HAP.out _ h2 o2).mono ?_; rintro en w3 ⟨h3, rfl, o3, hb3⟩; have hF3 : F3 w (aC a h1) 53 #[.int .i64 e.kind, .string e.nam.last, .string e.nam.first, .string e.seg.car, .int .i64 e.seg.num, .int .i64 e.seg.day, .int .u8 e.seg.cls, .bool e.seg.live, .int .i64 e.tik.kind, .int .i64 e.tik.day, .int .i64 e.tik.min, .string e.text, .int .i64 e.n, .int .i64 e.pax, .int .i64 e.row, .int .u8 e.let_] 50 aZ 53 w3 := hF2.step hb3; have hB3 : Below V.heap.size V w3 := hB2.trans (hb3.mono hs2); have hs3 := hB3.size; have k3 := C20.of hF3.r1; have k3' := hF3.x2; have k3a := fun t => C20.of (hF3.alloc t).r1; have k3a' := fun t => (hF3.alloc t).x2; have z6 : w.heap.size < w3.heap.size := (by omega); have z7 : w.heap.size + 1 < w3.heap.size := (by omega); have hbx3 := hbx2.below hb3 hbx2.lt; have q1 := Bx.cells hbx3; have q2 := Bx.free hbx3; have q3 := hbx3.lt)
        | (go_at_call 41; refine (HAP.out _ h2 (o2.alloc (.cells #[.string ⟨#[]⟩, .string ⟨#[]⟩, .slice none 0 0, .slice none 0 0, .slice none 0 0, .int .i64 0, .int .i64 0, .int .i64 0, .string ⟨#[]⟩, .slice none 0 0, .slice none 0 0, .bool false] 29))).mono ?_; rintro en w3 ⟨h3, rfl, o3, hb3⟩; have hF3 : F3 w (aC a h1) 53 #[.int .i64 e.kind, .string e.nam.last, .string e.nam.first, .string e.seg.car, .int .i64 e.seg.num, .int .i64 e.seg.day, .int .u8 e.seg.cls, .bool e.seg.live, .int .i64 e.tik.kind, .int .i64 e.tik.day, .int .i64 e.tik.min, .string e.text, .int .i64 e.n, .int .i64 e.pax, .int .i64 e.row, .int .u8 e.let_] 50 aZ 53 w3 := (hF2.alloc _).step hb3; have hB3 : Below V.heap.size V w3 := (hB2.alloc hs2 _).trans (hb3.mono (by simp; omega)); have hs3 := hB3.size; have k3 := C20.of hF3.r1; have k3' := hF3.x2; have k3a := fun t => C20.of (hF3.alloc t).r1; have k3a' := fun t => (hF3.alloc t).x2; have z6 : w.heap.size < w3.heap.size := (by omega); have z7 : w.heap.size + 1 < w3.heap.size := (by omega); have hbx3 := (Bx.new w2 #[.string ⟨#[]⟩, .string ⟨#[]⟩, .slice none 0 0, .slice none 0 0, .slice none 0 0, .int .i64 0, .int .i64 0, .int .i64 0, .string ⟨#[]⟩, .slice none 0 0, .slice none 0 0, .bool false] 29).below hb3 (by simp); have q1 := Bx.cells hbx3; have q2 := Bx.free hbx3; have q3 := hbx3.lt)
        | (go_at_call 41; refine (HAP.out _ h2 o2).mono ?_; rintro en w3 ⟨h3, rfl, o3, hb3⟩; have hF3 : F3 w (aC a h1) 53 #[.int .i64 e.kind, .string e.nam.last, .string e.nam.first, .string e.seg.car, .int .i64 e.seg.num, .int .i64 e.seg.day, .int .u8 e.seg.cls, .bool e.seg.live, .int .i64 e.tik.kind, .int .i64 e.tik.day, .int .i64 e.tik.min, .string e.text, .int .i64 e.n, .int .i64 e.pax, .int .i64 e.row, .int .u8 e.let_] 50 aZ 53 w3 := hF2.step hb3; have hB3 : Below V.heap.size V w3 := hB2.trans (hb3.mono hs2); have hs3 := hB3.size; have k3 := C20.of hF3.r1; have k3' := hF3.x2; have k3a := fun t => C20.of (hF3.alloc t).r1; have k3a' := fun t => (hF3.alloc t).x2; have z6 : w.heap.size < w3.heap.size := (by omega); have z7 : w.heap.size + 1 < w3.heap.size := (by omega)))
    all_goals
      go_wp2
      go_meet
      exact ⟨rfl, by (repeat (first | (with_reducible refine Below.setCell ?_ (by first | omega | (simp; done) | (simp; omega)) _) | (with_reducible refine Below.alloc ?_ (by first | omega | (simp; done) | (simp; omega)) _) | with_reducible exact hB3))⟩
  case rest =>
    obtain ⟨rfl, hBV⟩ := hcut
    have hG := hF.step hBV
    have o4 := o1.keep hBV
    clear x2 z1 z2 z3 hF o1 hBV
    by_cases hf : f3 = 0
    case neg =>
      have hne : (f3 != 0) = true := by rw [bne_iff_ne]; exact hf
      have hfin := HFIN.out
      rw [if_pos hf] at hfin
      have HFN := Lib.hid hfin
      clear hf hfin
      go_wp2_with (refine store_ra rfl (.tmp 4) (.tmp 34) rfl aZ rfl rfl hG.r3 rfl rfl aZ_one ?_)
      have hF9 := hG.row3 aZ
      refine ret_at Tryz.results15 hF9.r3 rfl rfl rfl rfl ?_
      exact RetA.mk' (h' := ah0) HFN.out (ar0_oa _ _) hF9.B
    have hne : (f3 != 0) = false := by rw [bne_eq_false_iff_eq]; exact hf
    have hfin := HFIN.out
    rw [if_neg (by simpa using hf)] at hfin
    have HFN := Lib.hid hfin
    clear hf hfin
    have x1 := hG.x1
    try dsimp only [aC] at x1
    try dsimp only [aZ] at x1
    have x2 := hG.y1
    have z3 := hG.z
    have z1 : w.heap.size < wc.heap.size := by omega
    go_upto_region 10 with fail
    refine wp_world (fun W => F3 w #[.string a.agent, .string a.off, .bool true, .string a.base.loc, .string a.base.off, .slice h1.b.an h1.b.nn h1.b.cn, .slice h1.b.ag h1.b.ng h1.b.cg, .slice h1.b.ap h1.b.np h1.b.cp, .int .i64 a.base.tik.kind, .int .i64 a.base.tik.day, .int .i64 a.base.tik.min, .string a.base.rc, .slice h1.b.ar h1.b.nr h1.b.cr, .slice h1.b.ae h1.b.ne h1.b.ce, .bool a.base.queued, .int .u64 a.ver, .slice h1.ad h1.nd h1.cd, .slice h1.al h1.nl h1.cl, .bool a.working, .int .i64 a.queue] 53 #[.int .i64 e.kind, .string e.nam.last, .string e.nam.first, .string e.seg.car, .int .i64 e.seg.num, .int .i64 e.seg.day, .int .u8 e.seg.cls, .bool e.seg.live, .int .i64 e.tik.kind, .int .i64 e.tik.day, .int .i64 e.tik.min, .string e.text, .int .i64 e.n, .int .i64 e.pax, .int .i64 e.row, .int .u8 e.let_] 50 aZ 53 W ∧ OA W (w.heap.size + 1 + 1 + 1) a h1) ⟨hG.put1 2 (.bool true), o4.cell (by simp; omega) _⟩ ?_
    clear x1 x2 z1 z3 hG o4
    rintro V2 ⟨hG, o4⟩
    have x1 := hG.x1
    try dsimp only [aC] at x1
    try dsimp only [aZ] at x1
    have x2 := hG.x2
    try dsimp only [aC] at x2
    try dsimp only [aZ] at x2
    have x3 := hG.y1
    have z3 := hG.z
    have z1 : w.heap.size < V2.heap.size := by omega
    have z2 : w.heap.size + 1 < V2.heap.size := by omega
    have hlen := hs.edits
    go_wp2_with (first
      | (refine wp_slice1 tEdit e HE.out sl_edi (by decide) rfl rfl rfl ?_; rintro C hsl; have hGc := hG.alloc (.cells C 50); have oc := o4.alloc (.cells C 50))
      | (at_builtin; refine append_law (l := a.edits) rfl (.tmp 38) (.tmp 40) rfl sl_edi rfl oc.edits rfl hsl (fun h => by cases h) (by simp; omega) (by omega) ?_; intro v' w' hown' hgr hvb; obtain ⟨A9, c9, rfl⟩ := hown'.form; replace hgr : (V2.alloc (.cells C 50)).grownBy w' ((Value.slice h1.ad h1.nd h1.cd).ownBlock) := hgr; rw [ownBlock_bk] at hgr; have hG9 := hGc.grown hgr (fun k hk => by have := (oc.edits.bk_lt k hk).1; omega); have ob := oc.base.aoff hgr d.base; have ol := oc.legs.kept (row := bk h1.ad) hgr (fun k hk e9 => d.legs k e9 (by rw [← ownBlock_bk h1.al h1.nl h1.cl]; exact hk)); have y1 := hG9.x1; have y2 := hG9.y1; have y3 := hG9.z; have y4 : w.heap.size < w'.heap.size := (by omega))
      | (refine load_ra rfl (.tmp 2) rfl rfl (hG9.put1 16 (.slice A9 (a.edits.length + 1) c9)).r1 rfl ?_)
      | (refine store_ra rfl (.tmp 4) (.tmp 43) rfl #[.string a.agent, .string a.off, .bool true, .string a.base.loc, .string a.base.off, .slice h1.b.an h1.b.nn h1.b.cn, .slice h1.b.ag h1.b.ng h1.b.cg, .slice h1.b.ap h1.b.np h1.b.cp, .int .i64 a.base.tik.kind, .int .i64 a.base.tik.day, .int .i64 a.base.tik.min, .string a.base.rc, .slice h1.b.ar h1.b.nr h1.b.cr, .slice h1.b.ae h1.b.ne h1.b.ce, .bool a.base.queued, .int .u64 a.ver, .slice A9 (a.edits.length + 1) c9, .slice h1.al h1.nl h1.cl, .bool a.working, .int .i64 a.queue] rfl rfl (hG9.put1 16 (.slice A9 (a.edits.length + 1) c9)).r3 rfl rfl (by simp [Value.oneCell']) ?_))
    have hF9 := (hG9.put1 16 (.slice A9 (a.edits.length + 1) c9)).row3 #[.string a.agent, .string a.off, .bool true, .string a.base.loc, .string a.base.off, .slice h1.b.an h1.b.nn h1.b.cn, .slice h1.b.ag h1.b.ng h1.b.cg, .slice h1.b.ap h1.b.np h1.b.cp, .int .i64 a.base.tik.kind, .int .i64 a.base.tik.day, .int .i64 a.base.tik.min, .string a.base.rc, .slice h1.b.ar h1.b.nr h1.b.cr, .slice h1.b.ae h1.b.ne h1.b.ce, .bool a.base.queued, .int .u64 a.ver, .slice A9 (a.edits.length + 1) c9, .slice h1.al h1.nl h1.cl, .bool a.working, .int .i64 a.queue]
    refine ret_at Tryz.results15 hF9.r3 rfl rfl rfl rfl ?_
    have hOA : OA w' (w.heap.size + 1 + 1 + 1) { a with open_ := true, edits := a.edits ++ [e] } (AH.mk h1.b A9 (a.edits.length + 1) c9 h1.al h1.nl h1.cl) := ⟨oc.agent, oc.off, oc.ver, oc.queue, ob, (by have q9 := hown'; simp only [List.length_append, List.length_cons, List.length_nil] at q9; exact q9), ol⟩
    exact RetA.mk' (a := { a with open_ := true, edits := a.edits ++ [e] }) (h' := (AH.mk h1.b A9 (a.edits.length + 1) c9 h1.al h1.nl h1.cl)) HFN.out (((hOA.cell (by simp; omega) _).rowAt (by omega) _).more (by omega)) hF9.B
theorem edit_any (a : Ar) (h : AH) (e : Edit) (w : World) (S : Nat → Prop) (hp : AS w S a h) (hS : ∀ b, S b → b < w.heap.size) (hs : a.small 1000) (he : e.ok) :
    Calls Tryz.prog 15 #[.agg #[.string a.agent, .string a.off, .bool a.open_, .string a.base.loc, .string a.base.off, .slice h.b.an h.b.nn h.b.cn, .slice h.b.ag h.b.ng h.b.cg, .slice h.b.ap h.b.np h.b.cp, .int .i64 a.base.tik.kind, .int .i64 a.base.tik.day, .int .i64 a.base.tik.min, .string a.base.rc, .slice h.b.ar h.b.nr h.b.cr, .slice h.b.ae h.b.ne h.b.ce, .bool a.base.queued, .int .u64 a.ver, .slice h.ad h.nd h.cd, .slice h.al h.nl h.cl, .bool a.working, .int .i64 a.queue], .agg #[.int .i64 e.kind, .string e.nam.last, .string e.nam.first, .string e.seg.car, .int .i64 e.seg.num, .int .i64 e.seg.day, .int .u8 e.seg.cls, .bool e.seg.live, .int .i64 e.tik.kind, .int .i64 e.tik.day, .int .i64 e.tik.min, .string e.text, .int .i64 e.n, .int .i64 e.pax, .int .i64 e.row, .int .u8 e.let_]] w (RetA w (editF a e)) := by
  rcases Bool.eq_false_or_eq_true (noOne a) with hno | hno
  · exact edit_no a h e w S hp hS hs he hno
  by_cases hn : 100 ≤ a.edits.length
  · exact edit_full a h e w S hp hS hs he hno hn
  · exact edit_do a h e w S hp hS hs he hno hn
end Go.Proofs.YtpgeoahlhdifoaaGreatDoor
