/- PnrSwaps: the walk. -/
import Derived.Test.YtaakcccffmfmoaaDoorBoxes
import Derived.Test.YtaakcccffmfmoaaDoorSwapL
import Derived.Great.BuildSlice
namespace Go.Proofs.YtaakcccffmfmoaaDoor
set_option linter.unusedVariables false
open Go Go.RowKit
theorem slice_below {W W1 : World} {o : Obj} (h : Below (W.alloc o).heap.size (W.alloc o) W1) : Below W.heap.size W W1 := ((Below.refl _ _).alloc (Nat.le_refl _) o).trans (h.mono (by simp))
theorem foldF_small : ∀ (es : List Edit) (p : Pnr) (N : Nat), p.small N → (foldF p es).1.small (N + es.length)
  | [], p, N, h => h
  | e :: t, p, N, h => by
    unfold foldF
    split
    · exact h.mono (by simp)
    · have := foldF_small t (applyF p e).1 (N + 1) (applyF_small h)
      exact this.mono (by simp; omega)
/-- A slice literal of structs: its parts fill the new row, part by part. -/
theorem fill_list {α : Type} (T : Ty α) (l : List α) (z : Array Value) (hz : z.size = l.length * T.sz) :
    Instr.fill (fun i => some (i * T.sz, T.sz)) z ((l.map fun x => Value.agg (T.enc x).toArray).zipIdx.map fun x => (x.2, x.1)) = some (l.flatMap T.enc).toArray := by
  have hall : ∀ v ∈ (l.map fun x => Value.agg (T.enc x).toArray), v.cells.size = T.sz := fun v hv => by
    obtain ⟨x, _, rfl⟩ := List.mem_map.1 hv
    simp [Value.cells, T.len]
  obtain ⟨r, hr, hsz, hk⟩ := Great.fill_dense T.pos (l.map fun x => Value.agg (T.enc x).toArray) 0 z hall (by simp [hz])
  rw [hr]
  congr 1
  have hfl := flatMap_len T l
  apply Array.ext_getElem?
  intro k
  rw [hk k]
  have hp := T.pos
  by_cases hkl : k < l.length * T.sz
  · rw [if_pos (by simp; exact hkl)]
    have h1 : k / T.sz < l.length := Nat.div_lt_of_lt_mul (by rw [Nat.mul_comm]; exact hkl)
    have h2 : k % T.sz < T.sz := Nat.mod_lt _ hp
    obtain ⟨x, hx⟩ : ∃ x, l[k / T.sz]? = some x := ⟨_, List.getElem?_eq_getElem h1⟩
    obtain ⟨u, hu⟩ : ∃ u, (T.enc x)[k % T.sz]? = some u := ⟨_, List.getElem?_eq_getElem (by rw [T.len]; exact h2)⟩
    have h3 := flatMap_at T l _ x hx _ u hu
    rw [show k / T.sz * T.sz + k % T.sz = k from by rw [Nat.mul_comm]; exact Nat.div_add_mod k T.sz] at h3
    simp [hx, hu, h3, Value.cells]
  · rw [if_neg (by simp; omega)]
    rw [Array.getElem?_eq_none (by omega)]
    simp [hfl]
    omega
/-- The operation 'slice literal of two structs' in a walk. -/
theorem wp_slice2 {α : Type} {P : Program} {ops : Array Oper} {rest : List Oper} {o : Oper} {a : Act} {w : World} {Q : Exit → Act → World → Prop} (T : Ty α) (x y : α) (hx : T.wf x) (hy : T.wf y) {t e : TypeId} (S : SlT P t e T.sz) (hsm : 2 * T.sz ≤ 1000)
    (hg : o.guard = none) {parts : Array (Nat × Operand)} (ho : o.op = .buildSlice t 2 parts)
    (hp : parts.toList.map (fun x => (x.1, a.eval x.2)) = [(0, .agg (T.enc x).toArray), (1, .agg (T.enc y).toArray)])
    (h : ∀ C : Array Value, Sl (w.alloc (.cells C e)) w.heap.size (w.heap.size + 1) T (some ⟨w.heap.size, 0, none⟩) 2 [x, y] → wpList P ops Q rest (a.put o.dst (.slice (some ⟨w.heap.size, 0, none⟩) 2 2)) (w.alloc (.cells C e))) : wpList P ops Q (o :: rest) a w := by
  obtain ⟨i, z, b, hi, h0, h1, h2, h3, h4⟩ := S.hi
  have hpos := T.pos
  refine Go.wpList_buildSlice hg t e 2 parts ho ([x, y].flatMap T.enc).toArray i z S.ht hi h0 (by rw [h1]; omega) (by rw [h1]; omega) ?_ (h _ (Sl.ofBlock (heap_alloc_new w _) rfl (by simp [hx, hy]) rfl))
  rw [Array.toList_map, h1]
  exact (congrArg (Instr.fill _ _) hp).trans (fill_list T [x, y] _ (by simp))
theorem sl_edit : SlT Tryd.prog 59 49 tEdit.sz := SlT.mk' (z := .agg #[.int .i64 0, .string ⟨#[]⟩, .string ⟨#[]⟩, .string ⟨#[]⟩, .int .i64 0, .int .i64 0, .int .u8 0, .bool false, .int .i64 0, .int .i64 0, .int .i64 0, .string ⟨#[]⟩, .int .i64 0, .int .i64 0, .int .i64 0, .int .u8 0]) (b := 152) Tryd.underlying59 (by kernel_rfl) (by omega) rfl
set_option maxRecDepth 100000 in
set_option maxHeartbeats 1000000 in
theorem apart_any (k : Int) (w : World) : Calls Tryd.prog 34 #[.int .i64 k] w (fun e w' => e = .returned (.bool (apartB k)) ∧ w = w') := by
  have HK := Lib.hid (show apartB k = ((k == 1) || ((k == 3) || ((k == 4) || ((k == 5) || (k == 6))))) from rfl)
  generalize q1 : (k == 1) = b1 at HK
  generalize q2 : (k == 3) = b2 at HK
  generalize q3 : (k == 4) = b3 at HK
  generalize q4 : (k == 5) = b4 at HK
  generalize q5 : (k == 6) = b5 at HK
  rcases b1 with _ | _ <;> rcases b2 with _ | _ <;> rcases b3 with _ | _ <;> rcases b4 with _ | _ <;> rcases b5 with _ | _
  all_goals
    go_enter Tryd.func34, Tryd.ntmps34
    go_wp2
    go_ret
    exact ⟨ret_bool (by rw [HK.out]; rfl), rfl⟩
theorem bs_swap (p : Pnr) (h : Hd) (a b : Edit) (w : World) : BS w [(w.heap.size + 1 + 1, #[.int .i64 b.kind, .string b.nam.last, .string b.nam.first, .string b.seg.car, .int .i64 b.seg.num, .int .i64 b.seg.day, .int .u8 b.seg.cls, .bool b.seg.live, .int .i64 b.tik.kind, .int .i64 b.tik.day, .int .i64 b.tik.min, .string b.text, .int .i64 b.n, .int .i64 b.pax, .int .i64 b.row, .int .u8 b.let_]), (w.heap.size + 1, #[.int .i64 a.kind, .string a.nam.last, .string a.nam.first, .string a.seg.car, .int .i64 a.seg.num, .int .i64 a.seg.day, .int .u8 a.seg.cls, .bool a.seg.live, .int .i64 a.tik.kind, .int .i64 a.tik.day, .int .i64 a.tik.min, .string a.text, .int .i64 a.n, .int .i64 a.pax, .int .i64 a.row, .int .u8 a.let_]), (w.heap.size, #[.string p.loc, .string p.off, .slice h.an h.nn h.cn, .slice h.ag h.ng h.cg, .slice h.ap h.np h.cp, .int .i64 p.tik.kind, .int .i64 p.tik.day, .int .i64 p.tik.min, .string p.rc, .slice h.ar h.nr h.cr, .slice h.ae h.ne h.ce, .bool p.queued])] (((w.alloc (.cells #[.string p.loc, .string p.off, .slice h.an h.nn h.cn, .slice h.ag h.ng h.cg, .slice h.ap h.np h.cp, .int .i64 p.tik.kind, .int .i64 p.tik.day, .int .i64 p.tik.min, .string p.rc, .slice h.ar h.nr h.cr, .slice h.ae h.ne h.ce, .bool p.queued] 29)).alloc (.cells #[.int .i64 a.kind, .string a.nam.last, .string a.nam.first, .string a.seg.car, .int .i64 a.seg.num, .int .i64 a.seg.day, .int .u8 a.seg.cls, .bool a.seg.live, .int .i64 a.tik.kind, .int .i64 a.tik.day, .int .i64 a.tik.min, .string a.text, .int .i64 a.n, .int .i64 a.pax, .int .i64 a.row, .int .u8 a.let_] 49)).alloc (.cells #[.int .i64 b.kind, .string b.nam.last, .string b.nam.first, .string b.seg.car, .int .i64 b.seg.num, .int .i64 b.seg.day, .int .u8 b.seg.cls, .bool b.seg.live, .int .i64 b.tik.kind, .int .i64 b.tik.day, .int .i64 b.tik.min, .string b.text, .int .i64 b.n, .int .i64 b.pax, .int .i64 b.row, .int .u8 b.let_] 49)) := by
  have x := ((BS.alloc (w := w) (L := []) (Below.refl _ w) #[.string p.loc, .string p.off, .slice h.an h.nn h.cn, .slice h.ag h.ng h.cg, .slice h.ap h.np h.cp, .int .i64 p.tik.kind, .int .i64 p.tik.day, .int .i64 p.tik.min, .string p.rc, .slice h.ar h.nr h.cr, .slice h.ae h.ne h.ce, .bool p.queued] 29).alloc #[.int .i64 a.kind, .string a.nam.last, .string a.nam.first, .string a.seg.car, .int .i64 a.seg.num, .int .i64 a.seg.day, .int .u8 a.seg.cls, .bool a.seg.live, .int .i64 a.tik.kind, .int .i64 a.tik.day, .int .i64 a.tik.min, .string a.text, .int .i64 a.n, .int .i64 a.pax, .int .i64 a.row, .int .u8 a.let_] 49).alloc #[.int .i64 b.kind, .string b.nam.last, .string b.nam.first, .string b.seg.car, .int .i64 b.seg.num, .int .i64 b.seg.day, .int .u8 b.seg.cls, .bool b.seg.live, .int .i64 b.tik.kind, .int .i64 b.tik.day, .int .i64 b.tik.min, .string b.text, .int .i64 b.n, .int .i64 b.pax, .int .i64 b.row, .int .u8 b.let_] 49
  simp only [World.size_alloc] at x
  exact x
set_option maxRecDepth 100000 in
set_option maxHeartbeats 8000000 in
theorem swaps_1 (p : Pnr) (h : Hd) (a b : Edit) (w : World) (hsb : smallB h = false) :
    Calls Tryd.prog 12 #[.agg #[.string p.loc, .string p.off, .slice h.an h.nn h.cn, .slice h.ag h.ng h.cg, .slice h.ap h.np h.cp, .int .i64 p.tik.kind, .int .i64 p.tik.day, .int .i64 p.tik.min, .string p.rc, .slice h.ar h.nr h.cr, .slice h.ae h.ne h.ce, .bool p.queued], .agg #[.int .i64 a.kind, .string a.nam.last, .string a.nam.first, .string a.seg.car, .int .i64 a.seg.num, .int .i64 a.seg.day, .int .u8 a.seg.cls, .bool a.seg.live, .int .i64 a.tik.kind, .int .i64 a.tik.day, .int .i64 a.tik.min, .string a.text, .int .i64 a.n, .int .i64 a.pax, .int .i64 a.row, .int .u8 a.let_], .agg #[.int .i64 b.kind, .string b.nam.last, .string b.nam.first, .string b.seg.car, .int .i64 b.seg.num, .int .i64 b.seg.day, .int .u8 b.seg.cls, .bool b.seg.live, .int .i64 b.tik.kind, .int .i64 b.tik.day, .int .i64 b.tik.min, .string b.text, .int .i64 b.n, .int .i64 b.pax, .int .i64 b.row, .int .u8 b.let_]] w (RetB w true) := by
  have H0 := bs_swap p h a b w
  go_enter Tryd.func12, Tryd.ntmps12
  have HI1 := Lib.hid H0
  have HB1 := Lib.hid HI1.out.B
  go_wp2_with fail
  refine (awake12_any _).mono ?_
  rintro en w1 ⟨rfl, hb1⟩
  have hsz1 := hb1.size
  try simp only [World.size_alloc] at hsz1
  have GG := HI1.out.step hb1
  have HI2 := Lib.hid GG
  have HB2 := Lib.hid HI2.out.B
  clear H0 HI1
  obtain ⟨⟨z0, x0⟩, ⟨z1, x1⟩, ⟨z2, x2⟩, _⟩ := GG
  dsimp only at z0 x0 z1 x1 z2 x2
  go_wp2_with fail
  refine (small_any p h _).mono ?_
  rintro en w2 ⟨rfl, hb2⟩
  have hsz2 := hb2.size
  try simp only [World.size_alloc] at hsz2
  rw [hsb]
  have GG := HI2.out.step hb2
  have HI3 := Lib.hid GG
  have HB3 := Lib.hid HI3.out.B
  clear z0 x0 z1 x1 z2 x2 HI2
  obtain ⟨⟨z0, x0⟩, ⟨z1, x1⟩, ⟨z2, x2⟩, _⟩ := GG
  dsimp only at z0 x0 z1 x1 z2 x2
  go_wp2
  go_ret
  exact ⟨rfl, HB3.out⟩
set_option maxRecDepth 100000 in
set_option maxHeartbeats 8000000 in
theorem swaps_2 (p : Pnr) (h : Hd) (a b : Edit) (w : World) (hsb : smallB h = true) (kk : (a.kind == b.kind) = true) :
    Calls Tryd.prog 12 #[.agg #[.string p.loc, .string p.off, .slice h.an h.nn h.cn, .slice h.ag h.ng h.cg, .slice h.ap h.np h.cp, .int .i64 p.tik.kind, .int .i64 p.tik.day, .int .i64 p.tik.min, .string p.rc, .slice h.ar h.nr h.cr, .slice h.ae h.ne h.ce, .bool p.queued], .agg #[.int .i64 a.kind, .string a.nam.last, .string a.nam.first, .string a.seg.car, .int .i64 a.seg.num, .int .i64 a.seg.day, .int .u8 a.seg.cls, .bool a.seg.live, .int .i64 a.tik.kind, .int .i64 a.tik.day, .int .i64 a.tik.min, .string a.text, .int .i64 a.n, .int .i64 a.pax, .int .i64 a.row, .int .u8 a.let_], .agg #[.int .i64 b.kind, .string b.nam.last, .string b.nam.first, .string b.seg.car, .int .i64 b.seg.num, .int .i64 b.seg.day, .int .u8 b.seg.cls, .bool b.seg.live, .int .i64 b.tik.kind, .int .i64 b.tik.day, .int .i64 b.tik.min, .string b.text, .int .i64 b.n, .int .i64 b.pax, .int .i64 b.row, .int .u8 b.let_]] w (RetB w true) := by
  have H0 := bs_swap p h a b w
  go_enter Tryd.func12, Tryd.ntmps12
  have HI1 := Lib.hid H0
  have HB1 := Lib.hid HI1.out.B
  go_wp2_with fail
  refine (awake12_any _).mono ?_
  rintro en w1 ⟨rfl, hb1⟩
  have hsz1 := hb1.size
  try simp only [World.size_alloc] at hsz1
  have GG := HI1.out.step hb1
  have HI2 := Lib.hid GG
  have HB2 := Lib.hid HI2.out.B
  clear H0 HI1
  obtain ⟨⟨z0, x0⟩, ⟨z1, x1⟩, ⟨z2, x2⟩, _⟩ := GG
  dsimp only at z0 x0 z1 x1 z2 x2
  go_wp2_with fail
  refine (small_any p h _).mono ?_
  rintro en w2 ⟨rfl, hb2⟩
  have hsz2 := hb2.size
  try simp only [World.size_alloc] at hsz2
  rw [hsb]
  have GG := HI2.out.step hb2
  have HI3 := Lib.hid GG
  have HB3 := Lib.hid HI3.out.B
  clear z0 x0 z1 x1 z2 x2 HI2
  obtain ⟨⟨z0, x0⟩, ⟨z1, x1⟩, ⟨z2, x2⟩, _⟩ := GG
  dsimp only at z0 x0 z1 x1 z2 x2
  go_wp2
  go_ret
  exact ⟨rfl, HB3.out⟩
set_option maxRecDepth 100000 in
set_option maxHeartbeats 8000000 in
theorem swaps_3 (p : Pnr) (h : Hd) (a b : Edit) (w : World) (hsb : smallB h = true) (kk : (a.kind == b.kind) = false) (ka : apartB a.kind = false) :
    Calls Tryd.prog 12 #[.agg #[.string p.loc, .string p.off, .slice h.an h.nn h.cn, .slice h.ag h.ng h.cg, .slice h.ap h.np h.cp, .int .i64 p.tik.kind, .int .i64 p.tik.day, .int .i64 p.tik.min, .string p.rc, .slice h.ar h.nr h.cr, .slice h.ae h.ne h.ce, .bool p.queued], .agg #[.int .i64 a.kind, .string a.nam.last, .string a.nam.first, .string a.seg.car, .int .i64 a.seg.num, .int .i64 a.seg.day, .int .u8 a.seg.cls, .bool a.seg.live, .int .i64 a.tik.kind, .int .i64 a.tik.day, .int .i64 a.tik.min, .string a.text, .int .i64 a.n, .int .i64 a.pax, .int .i64 a.row, .int .u8 a.let_], .agg #[.int .i64 b.kind, .string b.nam.last, .string b.nam.first, .string b.seg.car, .int .i64 b.seg.num, .int .i64 b.seg.day, .int .u8 b.seg.cls, .bool b.seg.live, .int .i64 b.tik.kind, .int .i64 b.tik.day, .int .i64 b.tik.min, .string b.text, .int .i64 b.n, .int .i64 b.pax, .int .i64 b.row, .int .u8 b.let_]] w (RetB w true) := by
  have H0 := bs_swap p h a b w
  go_enter Tryd.func12, Tryd.ntmps12
  have HI1 := Lib.hid H0
  have HB1 := Lib.hid HI1.out.B
  go_wp2_with fail
  refine (awake12_any _).mono ?_
  rintro en w1 ⟨rfl, hb1⟩
  have hsz1 := hb1.size
  try simp only [World.size_alloc] at hsz1
  have GG := HI1.out.step hb1
  have HI2 := Lib.hid GG
  have HB2 := Lib.hid HI2.out.B
  clear H0 HI1
  obtain ⟨⟨z0, x0⟩, ⟨z1, x1⟩, ⟨z2, x2⟩, _⟩ := GG
  dsimp only at z0 x0 z1 x1 z2 x2
  go_wp2_with fail
  refine (small_any p h _).mono ?_
  rintro en w2 ⟨rfl, hb2⟩
  have hsz2 := hb2.size
  try simp only [World.size_alloc] at hsz2
  rw [hsb]
  have GG := HI2.out.step hb2
  have HI3 := Lib.hid GG
  have HB3 := Lib.hid HI3.out.B
  clear z0 x0 z1 x1 z2 x2 HI2
  obtain ⟨⟨z0, x0⟩, ⟨z1, x1⟩, ⟨z2, x2⟩, _⟩ := GG
  dsimp only at z0 x0 z1 x1 z2 x2
  go_wp2_with fail
  refine (apart_any a.kind _).mono ?_
  rintro en w8 ⟨rfl, rfl⟩
  rw [ka]
  go_wp2
  go_ret
  exact ⟨rfl, HB3.out⟩
set_option maxRecDepth 100000 in
set_option maxHeartbeats 8000000 in
theorem swaps_4 (p : Pnr) (h : Hd) (a b : Edit) (w : World) (hsb : smallB h = true) (kk : (a.kind == b.kind) = false) (ka : apartB a.kind = true) (kb : apartB b.kind = false) :
    Calls Tryd.prog 12 #[.agg #[.string p.loc, .string p.off, .slice h.an h.nn h.cn, .slice h.ag h.ng h.cg, .slice h.ap h.np h.cp, .int .i64 p.tik.kind, .int .i64 p.tik.day, .int .i64 p.tik.min, .string p.rc, .slice h.ar h.nr h.cr, .slice h.ae h.ne h.ce, .bool p.queued], .agg #[.int .i64 a.kind, .string a.nam.last, .string a.nam.first, .string a.seg.car, .int .i64 a.seg.num, .int .i64 a.seg.day, .int .u8 a.seg.cls, .bool a.seg.live, .int .i64 a.tik.kind, .int .i64 a.tik.day, .int .i64 a.tik.min, .string a.text, .int .i64 a.n, .int .i64 a.pax, .int .i64 a.row, .int .u8 a.let_], .agg #[.int .i64 b.kind, .string b.nam.last, .string b.nam.first, .string b.seg.car, .int .i64 b.seg.num, .int .i64 b.seg.day, .int .u8 b.seg.cls, .bool b.seg.live, .int .i64 b.tik.kind, .int .i64 b.tik.day, .int .i64 b.tik.min, .string b.text, .int .i64 b.n, .int .i64 b.pax, .int .i64 b.row, .int .u8 b.let_]] w (RetB w true) := by
  have H0 := bs_swap p h a b w
  go_enter Tryd.func12, Tryd.ntmps12
  have HI1 := Lib.hid H0
  have HB1 := Lib.hid HI1.out.B
  go_wp2_with fail
  refine (awake12_any _).mono ?_
  rintro en w1 ⟨rfl, hb1⟩
  have hsz1 := hb1.size
  try simp only [World.size_alloc] at hsz1
  have GG := HI1.out.step hb1
  have HI2 := Lib.hid GG
  have HB2 := Lib.hid HI2.out.B
  clear H0 HI1
  obtain ⟨⟨z0, x0⟩, ⟨z1, x1⟩, ⟨z2, x2⟩, _⟩ := GG
  dsimp only at z0 x0 z1 x1 z2 x2
  go_wp2_with fail
  refine (small_any p h _).mono ?_
  rintro en w2 ⟨rfl, hb2⟩
  have hsz2 := hb2.size
  try simp only [World.size_alloc] at hsz2
  rw [hsb]
  have GG := HI2.out.step hb2
  have HI3 := Lib.hid GG
  have HB3 := Lib.hid HI3.out.B
  clear z0 x0 z1 x1 z2 x2 HI2
  obtain ⟨⟨z0, x0⟩, ⟨z1, x1⟩, ⟨z2, x2⟩, _⟩ := GG
  dsimp only at z0 x0 z1 x1 z2 x2
  go_wp2_with fail
  refine (apart_any a.kind _).mono ?_
  rintro en w8 ⟨rfl, rfl⟩
  rw [ka]
  go_wp2_with fail
  refine (apart_any b.kind _).mono ?_
  rintro en w9 ⟨rfl, rfl⟩
  rw [kb]
  go_wp2
  go_ret
  exact ⟨rfl, HB3.out⟩
set_option maxRecDepth 100000 in
set_option maxHeartbeats 8000000 in
theorem swaps_yes (p : Pnr) (h : Hd) (a b : Edit) (w : World) (hp : PAt w 0 w.heap.size p h) (hc : Caps h) (ha : a.ok) (hb : b.ok) (hsb : smallB h = true) (kk : (a.kind == b.kind) = false) (ka : apartB a.kind = true) (kb : apartB b.kind = true) (q : Pnr) (hf1 : foldF p [a, b] = (q, 2, 0)) (hf2 : foldF p [b, a] = (q, 2, 0)) :
    Calls Tryd.prog 12 #[.agg #[.string p.loc, .string p.off, .slice h.an h.nn h.cn, .slice h.ag h.ng h.cg, .slice h.ap h.np h.cp, .int .i64 p.tik.kind, .int .i64 p.tik.day, .int .i64 p.tik.min, .string p.rc, .slice h.ar h.nr h.cr, .slice h.ae h.ne h.ce, .bool p.queued], .agg #[.int .i64 a.kind, .string a.nam.last, .string a.nam.first, .string a.seg.car, .int .i64 a.seg.num, .int .i64 a.seg.day, .int .u8 a.seg.cls, .bool a.seg.live, .int .i64 a.tik.kind, .int .i64 a.tik.day, .int .i64 a.tik.min, .string a.text, .int .i64 a.n, .int .i64 a.pax, .int .i64 a.row, .int .u8 a.let_], .agg #[.int .i64 b.kind, .string b.nam.last, .string b.nam.first, .string b.seg.car, .int .i64 b.seg.num, .int .i64 b.seg.day, .int .u8 b.seg.cls, .bool b.seg.live, .int .i64 b.tik.kind, .int .i64 b.tik.day, .int .i64 b.tik.min, .string b.text, .int .i64 b.n, .int .i64 b.pax, .int .i64 b.row, .int .u8 b.let_]] w (RetB w true) := by
  have H0 := bs_swap p h a b w
  have HP := Lib.hid (hp.ps hc)
  have HWA := Lib.hid ha
  have HWB := Lib.hid hb
  have hps := smallB_pnr hsb hp
  have HSM := Lib.hid (hps.mono (show 200 ≤ 1000 by omega))
  have HPS := Lib.hid hps
  clear hp hps hc ha hb
  have ha1 := fun (W : World) (A : Option Addr) (lo hi : Nat) (h1 : PS W (fun b => 0 ≤ b ∧ b < w.heap.size) p h) (h2 : ∀ b, (0 ≤ b ∧ b < w.heap.size) → b < W.heap.size) (h3 : Sl W lo hi tEdit A 2 [a, b]) (h4 : hi ≤ W.heap.size) => pfold_any p h [a, b] A 2 2 W (fun b => 0 ≤ b ∧ b < w.heap.size) lo hi h1 h2 HSM.out h3 (by omega) h4
  have ha2 := fun (W : World) (A : Option Addr) (lo hi : Nat) (h1 : PS W (fun b => 0 ≤ b ∧ b < w.heap.size) p h) (h2 : ∀ b, (0 ≤ b ∧ b < w.heap.size) → b < W.heap.size) (h3 : Sl W lo hi tEdit A 2 [b, a]) (h4 : hi ≤ W.heap.size) => pfold_any p h [b, a] A 2 2 W (fun b => 0 ≤ b ∧ b < w.heap.size) lo hi h1 h2 HSM.out h3 (by omega) h4
  have hqs := foldF_small [a, b] p 200 HPS.out
  rw [hf1] at hqs
  have HQS := Lib.hid (hqs.mono (show 200 + [a, b].length ≤ 100000 by simp))
  rw [hf1] at ha1
  rw [hf2] at ha2
  have HA1 := Lib.hid ha1
  have HA2 := Lib.hid ha2
  clear ha1 ha2
  have HN : Hid (decide (q = q) = true) := decide_eq_true rfl
  clear hf1 hf2 hqs
  go_enter Tryd.func12, Tryd.ntmps12
  have HI1 := Lib.hid H0
  have HB1 := Lib.hid HI1.out.B
  go_wp2_with fail
  refine (awake12_any _).mono ?_
  rintro en w1 ⟨rfl, hb1⟩
  have hsz1 := hb1.size
  try simp only [World.size_alloc] at hsz1
  have GG := HI1.out.step hb1
  have HI2 := Lib.hid GG
  have HB2 := Lib.hid HI2.out.B
  clear H0 HI1
  obtain ⟨⟨z0, x0⟩, ⟨z1, x1⟩, ⟨z2, x2⟩, _⟩ := GG
  dsimp only at z0 x0 z1 x1 z2 x2
  go_wp2_with fail
  refine (small_any p h _).mono ?_
  rintro en w2 ⟨rfl, hb2⟩
  have hsz2 := hb2.size
  try simp only [World.size_alloc] at hsz2
  rw [hsb]
  have GG := HI2.out.step hb2
  have HI3 := Lib.hid GG
  have HB3 := Lib.hid HI3.out.B
  clear z0 x0 z1 x1 z2 x2 HI2
  obtain ⟨⟨z0, x0⟩, ⟨z1, x1⟩, ⟨z2, x2⟩, _⟩ := GG
  dsimp only at z0 x0 z1 x1 z2 x2
  go_wp2_with fail
  refine (apart_any a.kind _).mono ?_
  rintro en w8 ⟨rfl, rfl⟩
  rw [ka]
  go_wp2_with fail
  refine (apart_any b.kind _).mono ?_
  rintro en w9 ⟨rfl, rfl⟩
  rw [kb]
  as_aux_lemma =>
    go_wp2_with (refine wp_slice2 tEdit a b HWA.out HWB.out sl_edit (by decide) rfl rfl rfl ?_; rintro C HSL0; have HSL := Lib.hid HSL0; clear HSL0; have HBS := Lib.hid (HB3.out.alloc HB3.out.size (.cells C 49)))
    refine (HA1.out (w2.alloc (.cells C 49)) _ w2.heap.size (w2.heap.size + 1) (HP.out.below HBS.out (fun b hb => hb.2)) (fun b hb => by have := HBS.out.size; omega) HSL.out (by simp)).mono ?_
    rintro en v1 ⟨h1, rfl, o1, hc1⟩
    replace hc1 := slice_below hc1
    dsimp only at o1
    clear HSL HBS z0 x0 z1 x1 z2 x2
    have GG := HI3.out.step hc1
    obtain ⟨⟨z0, x0⟩, ⟨z1, x1⟩, ⟨z2, x2⟩, _⟩ := id GG
    dsimp only at z0 x0 z1 x1 z2 x2
    have G1 := GG.alloc #[.string q.loc, .string q.off, .slice h1.an h1.nn h1.cn, .slice h1.ag h1.ng h1.cg, .slice h1.ap h1.np h1.cp, .int .i64 q.tik.kind, .int .i64 q.tik.day, .int .i64 q.tik.min, .string q.rc, .slice h1.ar h1.nr h1.cr, .slice h1.ae h1.ne h1.ce, .bool q.queued] 29
    have o1a := o1.alloc (.cells #[.string q.loc, .string q.off, .slice h1.an h1.nn h1.cn, .slice h1.ag h1.ng h1.cg, .slice h1.ap h1.np h1.cp, .int .i64 q.tik.kind, .int .i64 q.tik.day, .int .i64 q.tik.min, .string q.rc, .slice h1.ar h1.nr h1.cr, .slice h1.ae h1.ne h1.ce, .bool q.queued] 29)
    clear GG o1 hc1
    go_upto_region 6 with fail
    refine wp_world (fun W => BS w [(v1.heap.size, #[.string q.loc, .string q.off, .slice h1.an h1.nn h1.cn, .slice h1.ag h1.ng h1.cg, .slice h1.ap h1.np h1.cp, .int .i64 q.tik.kind, .int .i64 q.tik.day, .int .i64 q.tik.min, .string q.rc, .slice h1.ar h1.nr h1.cr, .slice h1.ae h1.ne h1.ce, .bool q.queued]), (w.heap.size + 1 + 1, #[.int .i64 b.kind, .string b.nam.last, .string b.nam.first, .string b.seg.car, .int .i64 b.seg.num, .int .i64 b.seg.day, .int .u8 b.seg.cls, .bool b.seg.live, .int .i64 b.tik.kind, .int .i64 b.tik.day, .int .i64 b.tik.min, .string b.text, .int .i64 b.n, .int .i64 b.pax, .int .i64 b.row, .int .u8 b.let_]), (w.heap.size + 1, #[.int .i64 a.kind, .string a.nam.last, .string a.nam.first, .string a.seg.car, .int .i64 a.seg.num, .int .i64 a.seg.day, .int .u8 a.seg.cls, .bool a.seg.live, .int .i64 a.tik.kind, .int .i64 a.tik.day, .int .i64 a.tik.min, .string a.text, .int .i64 a.n, .int .i64 a.pax, .int .i64 a.row, .int .u8 a.let_]), (w.heap.size, #[.string p.loc, .string p.off, .slice h.an h.nn h.cn, .slice h.ag h.ng h.cg, .slice h.ap h.np h.cp, .int .i64 p.tik.kind, .int .i64 p.tik.day, .int .i64 p.tik.min, .string p.rc, .slice h.ar h.nr h.cr, .slice h.ae h.ne h.ce, .bool p.queued])] W ∧ OP W 0 q h1) ⟨G1, o1a.more (Nat.zero_le _)⟩ ?_
    clear z0 x0 z1 x1 z2 x2 G1 o1a
    generalize v1.heap.size = g1
    rintro W1 ⟨G1, o1⟩
    have HG1 := Lib.hid G1
    have HC1 := Lib.hid G1.B
    have HO1 := Lib.hid o1
    clear o1
    obtain ⟨⟨y0, u0⟩, ⟨z0, x0⟩, ⟨z1, x1⟩, ⟨z2, x2⟩, _⟩ := G1
    dsimp only at y0 u0 z0 x0 z1 x1 z2 x2
    as_aux_lemma =>
      go_wp2_with (refine wp_slice2 tEdit b a HWB.out HWA.out sl_edit (by decide) rfl rfl rfl ?_; rintro C HSL0; have HSL := Lib.hid HSL0; clear HSL0; have HBS := Lib.hid (HC1.out.alloc HC1.out.size (.cells C 49)))
      refine (HA2.out (W1.alloc (.cells C 49)) _ W1.heap.size (W1.heap.size + 1) (HP.out.below HBS.out (fun b hb => hb.2)) (fun b hb => by have := HBS.out.size; omega) HSL.out (by simp)).mono ?_
      rintro en v2 ⟨h2, rfl, o2, hc2⟩
      replace hc2 := slice_below hc2
      dsimp only at o2
      clear HSL HBS y0 u0 z0 x0 z1 x1 z2 x2
      have GG := HG1.out.step hc2
      have o1 := HO1.out.keep hc2
      obtain ⟨⟨y0, u0⟩, ⟨z0, x0⟩, ⟨z1, x1⟩, ⟨z2, x2⟩, _⟩ := id GG
      dsimp only at y0 u0 z0 x0 z1 x1 z2 x2
      have G2 := GG.alloc #[.string q.loc, .string q.off, .slice h2.an h2.nn h2.cn, .slice h2.ag h2.ng h2.cg, .slice h2.ap h2.np h2.cp, .int .i64 q.tik.kind, .int .i64 q.tik.day, .int .i64 q.tik.min, .string q.rc, .slice h2.ar h2.nr h2.cr, .slice h2.ae h2.ne h2.ce, .bool q.queued] 29
      have o2a := o2.alloc (.cells #[.string q.loc, .string q.off, .slice h2.an h2.nn h2.cn, .slice h2.ag h2.ng h2.cg, .slice h2.ap h2.np h2.cp, .int .i64 q.tik.kind, .int .i64 q.tik.day, .int .i64 q.tik.min, .string q.rc, .slice h2.ar h2.nr h2.cr, .slice h2.ae h2.ne h2.ce, .bool q.queued] 29)
      have o1a := o1.alloc (.cells #[.string q.loc, .string q.off, .slice h2.an h2.nn h2.cn, .slice h2.ag h2.ng h2.cg, .slice h2.ap h2.np h2.cp, .int .i64 q.tik.kind, .int .i64 q.tik.day, .int .i64 q.tik.min, .string q.rc, .slice h2.ar h2.nr h2.cr, .slice h2.ae h2.ne h2.ce, .bool q.queued] 29)
      clear GG o1 o2 hc2
      go_upto_region 7 with fail
      refine wp_world (fun W => BS w [(v2.heap.size, #[.string q.loc, .string q.off, .slice h2.an h2.nn h2.cn, .slice h2.ag h2.ng h2.cg, .slice h2.ap h2.np h2.cp, .int .i64 q.tik.kind, .int .i64 q.tik.day, .int .i64 q.tik.min, .string q.rc, .slice h2.ar h2.nr h2.cr, .slice h2.ae h2.ne h2.ce, .bool q.queued]), (g1, #[.string q.loc, .string q.off, .slice h1.an h1.nn h1.cn, .slice h1.ag h1.ng h1.cg, .slice h1.ap h1.np h1.cp, .int .i64 q.tik.kind, .int .i64 q.tik.day, .int .i64 q.tik.min, .string q.rc, .slice h1.ar h1.nr h1.cr, .slice h1.ae h1.ne h1.ce, .bool q.queued]), (w.heap.size + 1 + 1, #[.int .i64 b.kind, .string b.nam.last, .string b.nam.first, .string b.seg.car, .int .i64 b.seg.num, .int .i64 b.seg.day, .int .u8 b.seg.cls, .bool b.seg.live, .int .i64 b.tik.kind, .int .i64 b.tik.day, .int .i64 b.tik.min, .string b.text, .int .i64 b.n, .int .i64 b.pax, .int .i64 b.row, .int .u8 b.let_]), (w.heap.size + 1, #[.int .i64 a.kind, .string a.nam.last, .string a.nam.first, .string a.seg.car, .int .i64 a.seg.num, .int .i64 a.seg.day, .int .u8 a.seg.cls, .bool a.seg.live, .int .i64 a.tik.kind, .int .i64 a.tik.day, .int .i64 a.tik.min, .string a.text, .int .i64 a.n, .int .i64 a.pax, .int .i64 a.row, .int .u8 a.let_]), (w.heap.size, #[.string p.loc, .string p.off, .slice h.an h.nn h.cn, .slice h.ag h.ng h.cg, .slice h.ap h.np h.cp, .int .i64 p.tik.kind, .int .i64 p.tik.day, .int .i64 p.tik.min, .string p.rc, .slice h.ar h.nr h.cr, .slice h.ae h.ne h.ce, .bool p.queued])] W ∧ OP W 0 q h1 ∧ OP W 0 q h2) ⟨G2, o1a, o2a.more (Nat.zero_le _)⟩ ?_
      clear y0 u0 z0 x0 z1 x1 z2 x2 G2 o1a o2a HG1 HC1 HO1
      generalize v2.heap.size = g2
      rintro W2 ⟨G2, o1, o2⟩
      have HC2 := Lib.hid G2.B
      have HO1 := Lib.hid o1
      have HO2 := Lib.hid o2
      clear o1 o2
      obtain ⟨⟨y1, u1⟩, ⟨y0, u0⟩, _⟩ := G2
      dsimp only at y0 u0 y1 u1
      as_aux_lemma =>
        go_wp2_with fail
        refine (rsame_any q q h1 h2 _ _ _ _ _ HO1.out.at HO2.out.at (HO1.out.hd HQS.out) (HO2.out.hd HQS.out) (Nat.le_refl _) (Nat.le_refl _)).mono ?_
        rintro en w7 ⟨rfl, hb7⟩
        rw [show decide (q = q) = true from decide_eq_true rfl]
        go_wp2
        go_ret
        exact ⟨rfl, HC2.out.trans (hb7.mono HC2.out.size)⟩
set_option maxRecDepth 100000 in
set_option maxHeartbeats 8000000 in
theorem swaps_no (p : Pnr) (h : Hd) (a b : Edit) (w : World) (hp : PAt w 0 w.heap.size p h) (hc : Caps h) (ha : a.ok) (hb : b.ok) (hsb : smallB h = true) (kk : (a.kind == b.kind) = false) (ka : apartB a.kind = true) (kb : apartB b.kind = true) (hf1 : (foldF p [a, b]).2.2 ≠ 0) (hf2 : (foldF p [b, a]).2.2 ≠ 0) :
    Calls Tryd.prog 12 #[.agg #[.string p.loc, .string p.off, .slice h.an h.nn h.cn, .slice h.ag h.ng h.cg, .slice h.ap h.np h.cp, .int .i64 p.tik.kind, .int .i64 p.tik.day, .int .i64 p.tik.min, .string p.rc, .slice h.ar h.nr h.cr, .slice h.ae h.ne h.ce, .bool p.queued], .agg #[.int .i64 a.kind, .string a.nam.last, .string a.nam.first, .string a.seg.car, .int .i64 a.seg.num, .int .i64 a.seg.day, .int .u8 a.seg.cls, .bool a.seg.live, .int .i64 a.tik.kind, .int .i64 a.tik.day, .int .i64 a.tik.min, .string a.text, .int .i64 a.n, .int .i64 a.pax, .int .i64 a.row, .int .u8 a.let_], .agg #[.int .i64 b.kind, .string b.nam.last, .string b.nam.first, .string b.seg.car, .int .i64 b.seg.num, .int .i64 b.seg.day, .int .u8 b.seg.cls, .bool b.seg.live, .int .i64 b.tik.kind, .int .i64 b.tik.day, .int .i64 b.tik.min, .string b.text, .int .i64 b.n, .int .i64 b.pax, .int .i64 b.row, .int .u8 b.let_]] w (RetB w true) := by
  have H0 := bs_swap p h a b w
  have HP := Lib.hid (hp.ps hc)
  have HWA := Lib.hid ha
  have HWB := Lib.hid hb
  have hps := smallB_pnr hsb hp
  have HSM := Lib.hid (hps.mono (show 200 ≤ 1000 by omega))
  have HPS := Lib.hid hps
  clear hp hps hc ha hb
  have ha1 := fun (W : World) (A : Option Addr) (lo hi : Nat) (h1 : PS W (fun b => 0 ≤ b ∧ b < w.heap.size) p h) (h2 : ∀ b, (0 ≤ b ∧ b < w.heap.size) → b < W.heap.size) (h3 : Sl W lo hi tEdit A 2 [a, b]) (h4 : hi ≤ W.heap.size) => pfold_any p h [a, b] A 2 2 W (fun b => 0 ≤ b ∧ b < w.heap.size) lo hi h1 h2 HSM.out h3 (by omega) h4
  have ha2 := fun (W : World) (A : Option Addr) (lo hi : Nat) (h1 : PS W (fun b => 0 ≤ b ∧ b < w.heap.size) p h) (h2 : ∀ b, (0 ≤ b ∧ b < w.heap.size) → b < W.heap.size) (h3 : Sl W lo hi tEdit A 2 [b, a]) (h4 : hi ≤ W.heap.size) => pfold_any p h [b, a] A 2 2 W (fun b => 0 ≤ b ∧ b < w.heap.size) lo hi h1 h2 HSM.out h3 (by omega) h4
  generalize hr1 : foldF p [a, b] = r1 at hf1 ha1
  generalize hr2 : foldF p [b, a] = r2 at hf2 ha2
  obtain ⟨q1, m1, n1⟩ := r1
  obtain ⟨q2, m2, n2⟩ := r2
  have HA1 := Lib.hid ha1
  have HA2 := Lib.hid ha2
  clear ha1 ha2
  dsimp only at hf1 hf2
  have g1 : (n1 == 0) = false := beq_eq_false_iff_ne.2 hf1
  have g2 : (n2 == 0) = false := beq_eq_false_iff_ne.2 hf2
  have g3 : (n1 != 0) = true := bne_iff_ne.2 hf1
  clear hr1 hr2 hf1 hf2
  go_enter Tryd.func12, Tryd.ntmps12
  have HI1 := Lib.hid H0
  have HB1 := Lib.hid HI1.out.B
  go_wp2_with fail
  refine (awake12_any _).mono ?_
  rintro en w1 ⟨rfl, hb1⟩
  have hsz1 := hb1.size
  try simp only [World.size_alloc] at hsz1
  have GG := HI1.out.step hb1
  have HI2 := Lib.hid GG
  have HB2 := Lib.hid HI2.out.B
  clear H0 HI1
  obtain ⟨⟨z0, x0⟩, ⟨z1, x1⟩, ⟨z2, x2⟩, _⟩ := GG
  dsimp only at z0 x0 z1 x1 z2 x2
  go_wp2_with fail
  refine (small_any p h _).mono ?_
  rintro en w2 ⟨rfl, hb2⟩
  have hsz2 := hb2.size
  try simp only [World.size_alloc] at hsz2
  rw [hsb]
  have GG := HI2.out.step hb2
  have HI3 := Lib.hid GG
  have HB3 := Lib.hid HI3.out.B
  clear z0 x0 z1 x1 z2 x2 HI2
  obtain ⟨⟨z0, x0⟩, ⟨z1, x1⟩, ⟨z2, x2⟩, _⟩ := GG
  dsimp only at z0 x0 z1 x1 z2 x2
  go_wp2_with fail
  refine (apart_any a.kind _).mono ?_
  rintro en w8 ⟨rfl, rfl⟩
  rw [ka]
  go_wp2_with fail
  refine (apart_any b.kind _).mono ?_
  rintro en w9 ⟨rfl, rfl⟩
  rw [kb]
  as_aux_lemma =>
    go_wp2_with (refine wp_slice2 tEdit a b HWA.out HWB.out sl_edit (by decide) rfl rfl rfl ?_; rintro C HSL0; have HSL := Lib.hid HSL0; clear HSL0; have HBS := Lib.hid (HB3.out.alloc HB3.out.size (.cells C 49)))
    refine (HA1.out (w2.alloc (.cells C 49)) _ w2.heap.size (w2.heap.size + 1) (HP.out.below HBS.out (fun b hb => hb.2)) (fun b hb => by have := HBS.out.size; omega) HSL.out (by simp)).mono ?_
    rintro en v1 ⟨h1, rfl, o1, hc1⟩
    replace hc1 := slice_below hc1
    dsimp only at o1
    clear HSL HBS z0 x0 z1 x1 z2 x2
    have GG := HI3.out.step hc1
    obtain ⟨⟨z0, x0⟩, ⟨z1, x1⟩, ⟨z2, x2⟩, _⟩ := id GG
    dsimp only at z0 x0 z1 x1 z2 x2
    have G1 := GG.alloc #[.string q1.loc, .string q1.off, .slice h1.an h1.nn h1.cn, .slice h1.ag h1.ng h1.cg, .slice h1.ap h1.np h1.cp, .int .i64 q1.tik.kind, .int .i64 q1.tik.day, .int .i64 q1.tik.min, .string q1.rc, .slice h1.ar h1.nr h1.cr, .slice h1.ae h1.ne h1.ce, .bool q1.queued] 29
    have o1a := o1.alloc (.cells #[.string q1.loc, .string q1.off, .slice h1.an h1.nn h1.cn, .slice h1.ag h1.ng h1.cg, .slice h1.ap h1.np h1.cp, .int .i64 q1.tik.kind, .int .i64 q1.tik.day, .int .i64 q1.tik.min, .string q1.rc, .slice h1.ar h1.nr h1.cr, .slice h1.ae h1.ne h1.ce, .bool q1.queued] 29)
    clear GG o1 hc1
    go_upto_region 6 with fail
    refine wp_world (fun W => BS w [(v1.heap.size, #[.string q1.loc, .string q1.off, .slice h1.an h1.nn h1.cn, .slice h1.ag h1.ng h1.cg, .slice h1.ap h1.np h1.cp, .int .i64 q1.tik.kind, .int .i64 q1.tik.day, .int .i64 q1.tik.min, .string q1.rc, .slice h1.ar h1.nr h1.cr, .slice h1.ae h1.ne h1.ce, .bool q1.queued]), (w.heap.size + 1 + 1, #[.int .i64 b.kind, .string b.nam.last, .string b.nam.first, .string b.seg.car, .int .i64 b.seg.num, .int .i64 b.seg.day, .int .u8 b.seg.cls, .bool b.seg.live, .int .i64 b.tik.kind, .int .i64 b.tik.day, .int .i64 b.tik.min, .string b.text, .int .i64 b.n, .int .i64 b.pax, .int .i64 b.row, .int .u8 b.let_]), (w.heap.size + 1, #[.int .i64 a.kind, .string a.nam.last, .string a.nam.first, .string a.seg.car, .int .i64 a.seg.num, .int .i64 a.seg.day, .int .u8 a.seg.cls, .bool a.seg.live, .int .i64 a.tik.kind, .int .i64 a.tik.day, .int .i64 a.tik.min, .string a.text, .int .i64 a.n, .int .i64 a.pax, .int .i64 a.row, .int .u8 a.let_]), (w.heap.size, #[.string p.loc, .string p.off, .slice h.an h.nn h.cn, .slice h.ag h.ng h.cg, .slice h.ap h.np h.cp, .int .i64 p.tik.kind, .int .i64 p.tik.day, .int .i64 p.tik.min, .string p.rc, .slice h.ar h.nr h.cr, .slice h.ae h.ne h.ce, .bool p.queued])] W ∧ OP W 0 q1 h1) ⟨G1, o1a.more (Nat.zero_le _)⟩ ?_
    clear z0 x0 z1 x1 z2 x2 G1 o1a
    generalize v1.heap.size = g1
    rintro W1 ⟨G1, o1⟩
    have HG1 := Lib.hid G1
    have HC1 := Lib.hid G1.B
    have HO1 := Lib.hid o1
    clear o1
    obtain ⟨⟨y0, u0⟩, ⟨z0, x0⟩, ⟨z1, x1⟩, ⟨z2, x2⟩, _⟩ := G1
    dsimp only at y0 u0 z0 x0 z1 x1 z2 x2
    as_aux_lemma =>
      go_wp2_with (refine wp_slice2 tEdit b a HWB.out HWA.out sl_edit (by decide) rfl rfl rfl ?_; rintro C HSL0; have HSL := Lib.hid HSL0; clear HSL0; have HBS := Lib.hid (HC1.out.alloc HC1.out.size (.cells C 49)))
      refine (HA2.out (W1.alloc (.cells C 49)) _ W1.heap.size (W1.heap.size + 1) (HP.out.below HBS.out (fun b hb => hb.2)) (fun b hb => by have := HBS.out.size; omega) HSL.out (by simp)).mono ?_
      rintro en v2 ⟨h2, rfl, o2, hc2⟩
      replace hc2 := slice_below hc2
      dsimp only at o2
      clear HSL HBS y0 u0 z0 x0 z1 x1 z2 x2
      have GG := HG1.out.step hc2
      have o1 := HO1.out.keep hc2
      obtain ⟨⟨y0, u0⟩, ⟨z0, x0⟩, ⟨z1, x1⟩, ⟨z2, x2⟩, _⟩ := id GG
      dsimp only at y0 u0 z0 x0 z1 x1 z2 x2
      have G2 := GG.alloc #[.string q2.loc, .string q2.off, .slice h2.an h2.nn h2.cn, .slice h2.ag h2.ng h2.cg, .slice h2.ap h2.np h2.cp, .int .i64 q2.tik.kind, .int .i64 q2.tik.day, .int .i64 q2.tik.min, .string q2.rc, .slice h2.ar h2.nr h2.cr, .slice h2.ae h2.ne h2.ce, .bool q2.queued] 29
      have o2a := o2.alloc (.cells #[.string q2.loc, .string q2.off, .slice h2.an h2.nn h2.cn, .slice h2.ag h2.ng h2.cg, .slice h2.ap h2.np h2.cp, .int .i64 q2.tik.kind, .int .i64 q2.tik.day, .int .i64 q2.tik.min, .string q2.rc, .slice h2.ar h2.nr h2.cr, .slice h2.ae h2.ne h2.ce, .bool q2.queued] 29)
      have o1a := o1.alloc (.cells #[.string q2.loc, .string q2.off, .slice h2.an h2.nn h2.cn, .slice h2.ag h2.ng h2.cg, .slice h2.ap h2.np h2.cp, .int .i64 q2.tik.kind, .int .i64 q2.tik.day, .int .i64 q2.tik.min, .string q2.rc, .slice h2.ar h2.nr h2.cr, .slice h2.ae h2.ne h2.ce, .bool q2.queued] 29)
      clear GG o1 o2 hc2
      go_upto_region 7 with fail
      refine wp_world (fun W => BS w [(v2.heap.size, #[.string q2.loc, .string q2.off, .slice h2.an h2.nn h2.cn, .slice h2.ag h2.ng h2.cg, .slice h2.ap h2.np h2.cp, .int .i64 q2.tik.kind, .int .i64 q2.tik.day, .int .i64 q2.tik.min, .string q2.rc, .slice h2.ar h2.nr h2.cr, .slice h2.ae h2.ne h2.ce, .bool q2.queued]), (g1, #[.string q1.loc, .string q1.off, .slice h1.an h1.nn h1.cn, .slice h1.ag h1.ng h1.cg, .slice h1.ap h1.np h1.cp, .int .i64 q1.tik.kind, .int .i64 q1.tik.day, .int .i64 q1.tik.min, .string q1.rc, .slice h1.ar h1.nr h1.cr, .slice h1.ae h1.ne h1.ce, .bool q1.queued]), (w.heap.size + 1 + 1, #[.int .i64 b.kind, .string b.nam.last, .string b.nam.first, .string b.seg.car, .int .i64 b.seg.num, .int .i64 b.seg.day, .int .u8 b.seg.cls, .bool b.seg.live, .int .i64 b.tik.kind, .int .i64 b.tik.day, .int .i64 b.tik.min, .string b.text, .int .i64 b.n, .int .i64 b.pax, .int .i64 b.row, .int .u8 b.let_]), (w.heap.size + 1, #[.int .i64 a.kind, .string a.nam.last, .string a.nam.first, .string a.seg.car, .int .i64 a.seg.num, .int .i64 a.seg.day, .int .u8 a.seg.cls, .bool a.seg.live, .int .i64 a.tik.kind, .int .i64 a.tik.day, .int .i64 a.tik.min, .string a.text, .int .i64 a.n, .int .i64 a.pax, .int .i64 a.row, .int .u8 a.let_]), (w.heap.size, #[.string p.loc, .string p.off, .slice h.an h.nn h.cn, .slice h.ag h.ng h.cg, .slice h.ap h.np h.cp, .int .i64 p.tik.kind, .int .i64 p.tik.day, .int .i64 p.tik.min, .string p.rc, .slice h.ar h.nr h.cr, .slice h.ae h.ne h.ce, .bool p.queued])] W ∧ OP W 0 q1 h1 ∧ OP W 0 q2 h2) ⟨G2, o1a, o2a.more (Nat.zero_le _)⟩ ?_
      clear y0 u0 z0 x0 z1 x1 z2 x2 G2 o1a o2a HG1 HC1 HO1
      generalize v2.heap.size = g2
      rintro W2 ⟨G2, o1, o2⟩
      have HC2 := Lib.hid G2.B
      have HO1 := Lib.hid o1
      have HO2 := Lib.hid o2
      clear o1 o2
      obtain ⟨⟨y1, u1⟩, ⟨y0, u0⟩, _⟩ := G2
      dsimp only at y0 u0 y1 u1
      as_aux_lemma =>
        go_wp2
        go_ret
        exact ⟨rfl, HC2.out⟩
theorem pnrSwaps_any (p : Pnr) (h : Hd) (a b : Edit) (w : World) (hp : PAt w 0 w.heap.size p h) (hc : Caps h) (ha : a.ok) (hb : b.ok) :
    Calls Tryd.prog 12 #[.agg #[.string p.loc, .string p.off, .slice h.an h.nn h.cn, .slice h.ag h.ng h.cg, .slice h.ap h.np h.cp, .int .i64 p.tik.kind, .int .i64 p.tik.day, .int .i64 p.tik.min, .string p.rc, .slice h.ar h.nr h.cr, .slice h.ae h.ne h.ce, .bool p.queued], .agg #[.int .i64 a.kind, .string a.nam.last, .string a.nam.first, .string a.seg.car, .int .i64 a.seg.num, .int .i64 a.seg.day, .int .u8 a.seg.cls, .bool a.seg.live, .int .i64 a.tik.kind, .int .i64 a.tik.day, .int .i64 a.tik.min, .string a.text, .int .i64 a.n, .int .i64 a.pax, .int .i64 a.row, .int .u8 a.let_], .agg #[.int .i64 b.kind, .string b.nam.last, .string b.nam.first, .string b.seg.car, .int .i64 b.seg.num, .int .i64 b.seg.day, .int .u8 b.seg.cls, .bool b.seg.live, .int .i64 b.tik.kind, .int .i64 b.tik.day, .int .i64 b.tik.min, .string b.text, .int .i64 b.n, .int .i64 b.pax, .int .i64 b.row, .int .u8 b.let_]] w (RetB w true) := by
  rcases Bool.eq_false_or_eq_true (smallB h) with hsb | hsb
  case inr => exact swaps_1 p h a b w hsb
  rcases Bool.eq_false_or_eq_true (a.kind == b.kind) with kk | kk
  · exact swaps_2 p h a b w hsb kk
  rcases Bool.eq_false_or_eq_true (apartB a.kind) with ka | ka
  case inr => exact swaps_3 p h a b w hsb kk ka
  rcases Bool.eq_false_or_eq_true (apartB b.kind) with kb | kb
  case inr => exact swaps_4 p h a b w hsb kk ka kb
  rcases swap_law (p := p) ka kb (beq_eq_false_iff_ne.1 kk) with ⟨q, hf1, hf2⟩ | ⟨hf1, hf2⟩
  · exact swaps_yes p h a b w hp hc ha hb hsb kk ka kb q hf1 hf2
  · exact swaps_no p h a b w hp hc ha hb hsb kk ka kb hf1 hf2
end Go.Proofs.YtaakcccffmfmoaaDoor

