/- Areas: an area in a local, edit by edit; calls on an area of nobody. -/
import Derived.Test.YtfbalabmidobeaaDoorMArea11
import Derived.Test.YtfbalabmidobeaaDoorArea6
namespace Go.Proofs.YtfbalabmidobeaaDoor
set_option linter.unusedVariables false
open Go Go.RowKit
/-- An area in a local; what else is to stay (K). -/
structure AX (w : World) (g : Nat) (K : World → Prop) (a : Ar) (h1 : AH) (W : World) : Prop where
  B : Below w.heap.size w W
  b : Bx W g #[.string a.agent, .string a.off, .bool a.open_, .string a.base.loc, .string a.base.off, .slice h1.b.an h1.b.nn h1.b.cn, .slice h1.b.ag h1.b.ng h1.b.cg, .slice h1.b.ap h1.b.np h1.b.cp, .int .i64 a.base.tik.kind, .int .i64 a.base.tik.day, .int .i64 a.base.tik.min, .string a.base.rc, .slice h1.b.ar h1.b.nr h1.b.cr, .slice h1.b.ae h1.b.ne h1.b.ce, .bool a.base.queued, .int .u64 a.ver, .slice h1.ad h1.nd h1.cd, .slice h1.al h1.nl h1.cl, .bool a.working, .int .i64 a.queue] 36
  A : AS W (fun b => b ≠ g ∧ b < W.heap.size) a h1
  z : w.heap.size ≤ g
  k : K W
structure AK (g : Nat) (K : World → Prop) : Prop where
  step : ∀ {W W1 : World}, g < W.heap.size → K W → Below W.heap.size W W1 → K W1
  row : ∀ {W : World} (cs : Array Value), g < W.heap.size → K W → K (W.setRow g cs)
section
variable {w W W1 W2 : World} {g : Nat} {K : World → Prop} {a a3 : Ar} {h1 h3 : AH}
theorem AX.lt (H : AX w g K a h1 W) : g < W.heap.size := H.b.lt
theorem AX.step (hK : AK g K) (H : AX w g K a h1 W) (hb : Below W.heap.size W W1) : AX w g K a h1 W1 :=
  ⟨H.B.trans (hb.mono H.B.size), H.b.below hb H.b.lt, (H.A.below (D := W.heap.size) hb fun b h => h.2).mono fun b h => ⟨h.1, Nat.lt_of_lt_of_le h.2 hb.size⟩, H.z, hK.step H.lt H.k hb⟩
theorem AX.drew (hK : AK g K) (H : AX w g K a h1 W) : AX w g K a h1 W.drew := H.step hK ((Below.refl _ _).drew)
theorem AX.alloc (hK : AK g K) (H : AX w g K a h1 W) (o : Obj) : AX w g K a h1 (W.alloc o) := H.step hK ((Below.refl _ _).alloc (Nat.le_refl _) o)
/-- The area is another one. -/
theorem AX.put (hK : AK g K) (H : AX w g K a h1 W) (hA : AS W (fun b => b ≠ g ∧ b < W.heap.size) a3 h3) : AX w g K a3 h3 (W.setRow g #[.string a3.agent, .string a3.off, .bool a3.open_, .string a3.base.loc, .string a3.base.off, .slice h3.b.an h3.b.nn h3.b.cn, .slice h3.b.ag h3.b.ng h3.b.cg, .slice h3.b.ap h3.b.np h3.b.cp, .int .i64 a3.base.tik.kind, .int .i64 a3.base.tik.day, .int .i64 a3.base.tik.min, .string a3.base.rc, .slice h3.b.ar h3.b.nr h3.b.cr, .slice h3.b.ae h3.b.ne h3.b.ce, .bool a3.base.queued, .int .u64 a3.ver, .slice h3.ad h3.nd h3.cd, .slice h3.al h3.nl h3.cl, .bool a3.working, .int .i64 a3.queue]) :=
  ⟨below_setRow H.B H.z _, H.b.row _, (hA.keep fun u hu => cell_setRow_other _ _ _ _ hu.1).mono fun b h => ⟨h.1, by simpa using h.2⟩, H.z, hK.row _ H.lt H.k⟩
theorem AX.start {B : Nat} (hB : Below w.heap.size w W) (o : OA W B a h1) (zs : Array Value) (hk : K ((W.alloc (.cells zs 36)).setRow W.heap.size #[.string a.agent, .string a.off, .bool a.open_, .string a.base.loc, .string a.base.off, .slice h1.b.an h1.b.nn h1.b.cn, .slice h1.b.ag h1.b.ng h1.b.cg, .slice h1.b.ap h1.b.np h1.b.cp, .int .i64 a.base.tik.kind, .int .i64 a.base.tik.day, .int .i64 a.base.tik.min, .string a.base.rc, .slice h1.b.ar h1.b.nr h1.b.cr, .slice h1.b.ae h1.b.ne h1.b.ce, .bool a.base.queued, .int .u64 a.ver, .slice h1.ad h1.nd h1.cd, .slice h1.al h1.nl h1.cl, .bool a.working, .int .i64 a.queue])) : AX w W.heap.size K a h1 ((W.alloc (.cells zs 36)).setRow W.heap.size #[.string a.agent, .string a.off, .bool a.open_, .string a.base.loc, .string a.base.off, .slice h1.b.an h1.b.nn h1.b.cn, .slice h1.b.ag h1.b.ng h1.b.cg, .slice h1.b.ap h1.b.np h1.b.cp, .int .i64 a.base.tik.kind, .int .i64 a.base.tik.day, .int .i64 a.base.tik.min, .string a.base.rc, .slice h1.b.ar h1.b.nr h1.b.cr, .slice h1.b.ae h1.b.ne h1.b.ce, .bool a.base.queued, .int .u64 a.ver, .slice h1.ad h1.nd h1.cd, .slice h1.al h1.nl h1.cl, .bool a.working, .int .i64 a.queue]) :=
  ⟨below_setRow (hB.alloc hB.size _) hB.size _, (Bx.new W zs 36).row _, ((o.as.below ((Below.refl W.heap.size W).alloc (Nat.le_refl _) (.cells zs 36)) fun b h => h.2).keep fun u hu => cell_setRow_other _ _ _ _ (by have := hu.2; omega)).mono fun b h => ⟨by have := h.2; omega, by have := h.2; simp; omega⟩, hB.size, hk⟩
structure AY (w : World) (g : Nat) (K : World → Prop) (a : Ar) (h1 : AH) (g12 : Nat) (a3 : Ar) (h3 : AH) (W : World) : Prop where
  H : AX w g K a h1 W
  b12 : Bx W g12 #[.string a3.agent, .string a3.off, .bool a3.open_, .string a3.base.loc, .string a3.base.off, .slice h3.b.an h3.b.nn h3.b.cn, .slice h3.b.ag h3.b.ng h3.b.cg, .slice h3.b.ap h3.b.np h3.b.cp, .int .i64 a3.base.tik.kind, .int .i64 a3.base.tik.day, .int .i64 a3.base.tik.min, .string a3.base.rc, .slice h3.b.ar h3.b.nr h3.b.cr, .slice h3.b.ae h3.b.ne h3.b.ce, .bool a3.base.queued, .int .u64 a3.ver, .slice h3.ad h3.nd h3.cd, .slice h3.al h3.nl h3.cl, .bool a3.working, .int .i64 a3.queue] 36
  A3 : AS W (fun b => b ≠ g ∧ b < W.heap.size) a3 h3
  z12 : g < g12
theorem AY.of1 (hK : AK g K) (H : AX w g K a h1 W) (hb : Below W.heap.size W W2) (o : OA W2 W.heap.size a3 h3) : AY w g K a h1 W2.heap.size a3 h3 (W2.alloc (.cells #[.string a3.agent, .string a3.off, .bool a3.open_, .string a3.base.loc, .string a3.base.off, .slice h3.b.an h3.b.nn h3.b.cn, .slice h3.b.ag h3.b.ng h3.b.cg, .slice h3.b.ap h3.b.np h3.b.cp, .int .i64 a3.base.tik.kind, .int .i64 a3.base.tik.day, .int .i64 a3.base.tik.min, .string a3.base.rc, .slice h3.b.ar h3.b.nr h3.b.cr, .slice h3.b.ae h3.b.ne h3.b.ce, .bool a3.base.queued, .int .u64 a3.ver, .slice h3.ad h3.nd h3.cd, .slice h3.al h3.nl h3.cl, .bool a3.working, .int .i64 a3.queue] 36)) := by
  have hz := H.lt
  have hs := hb.size
  exact ⟨(H.step hK hb).alloc hK _, Bx.new _ _ _, (o.alloc _).as.mono fun b h => ⟨by omega, h.2⟩, by omega⟩
theorem AY.of2 (hK : AK g K) (H : AX w g K a h1 W) {zs : Array Value} (hb : Below (W.alloc (.cells zs 36)).heap.size (W.alloc (.cells zs 36)) W2) (o : OA W2 (W.heap.size + 1) a3 h3) : AY w g K a h1 W.heap.size a3 h3 (W2.setRow W.heap.size #[.string a3.agent, .string a3.off, .bool a3.open_, .string a3.base.loc, .string a3.base.off, .slice h3.b.an h3.b.nn h3.b.cn, .slice h3.b.ag h3.b.ng h3.b.cg, .slice h3.b.ap h3.b.np h3.b.cp, .int .i64 a3.base.tik.kind, .int .i64 a3.base.tik.day, .int .i64 a3.base.tik.min, .string a3.base.rc, .slice h3.b.ar h3.b.nr h3.b.cr, .slice h3.b.ae h3.b.ne h3.b.ce, .bool a3.base.queued, .int .u64 a3.ver, .slice h3.ad h3.nd h3.cd, .slice h3.al h3.nl h3.cl, .bool a3.working, .int .i64 a3.queue]) := by
  have hz := H.lt
  have hb1 : Below W.heap.size W W2 := ((Below.refl _ _).alloc (Nat.le_refl _) _).trans (hb.mono (by simp))
  exact ⟨H.step hK (below_setRow hb1 (Nat.le_refl _) _), ((Bx.new W zs 36).below hb (by simp)).row _, (o.rowAt (Nat.lt_succ_self _) _).as.mono fun b h => ⟨by omega, h.2⟩, hz⟩
end
/-- A call on an area of nobody. -/
def E0 (w : World) (e : Int) (en : Ending) (w' : World) : Prop := ∃ cs : Array Value, en = .returned (.tuple #[.agg cs, .int .i64 e]) ∧ cs.size = 20 ∧ (cs.all fun v => v.oneCell') = true ∧ Below w.heap.size w w'
theorem RetA.e0 {w w' : World} {r : Ar × Int} {en : Ending} {e : Int} (he : r.2 = e) (h : RetA w r en w') : E0 w e en w' := by
  obtain ⟨h', rfl, o, hb⟩ := h
  exact ⟨_, by rw [he], rfl, by simp [Value.oneCell'], hb⟩
theorem ar0_small : ar0.small 1000 := ⟨⟨by simp [ar0, pnr0], by simp [ar0, pnr0], by simp [ar0, pnr0], by simp [ar0, pnr0], by simp [ar0, pnr0]⟩, by simp [ar0], by simp [ar0]⟩
theorem ar0_no : noOne ar0 = true := by kernel_rfl
theorem ar0_idle : idleF ar0 = (ar0, 50) := by unfold idleF; rw [ar0_no]; rfl
theorem AS0 (w : World) : AS w (fun b => w.heap.size ≤ b ∧ b < w.heap.size) ar0 ah0 := (ar0_oa w w.heap.size).as
theorem e0_edit (x : Edit) (w : World) (hx : x.ok) : Calls Tryd.prog 13 #[.agg #[.string ⟨#[]⟩, .string ⟨#[]⟩, .bool false, .string ⟨#[]⟩, .string ⟨#[]⟩, .slice none 0 0, .slice none 0 0, .slice none 0 0, .int .i64 0, .int .i64 0, .int .i64 0, .string ⟨#[]⟩, .slice none 0 0, .slice none 0 0, .bool false, .int .u64 0, .slice none 0 0, .slice none 0 0, .bool false, .int .i64 0], .agg #[.int .i64 x.kind, .string x.nam.last, .string x.nam.first, .string x.seg.car, .int .i64 x.seg.num, .int .i64 x.seg.day, .int .u8 x.seg.cls, .bool x.seg.live, .int .i64 x.tik.kind, .int .i64 x.tik.day, .int .i64 x.tik.min, .string x.text, .int .i64 x.n, .int .i64 x.pax, .int .i64 x.row, .int .u8 x.let_]] w (E0 w 50) :=
  (edit_any ar0 ah0 x w _ (AS0 w) (fun b h => h.2) ar0_small hx).mono fun en w' h => RetA.e0 (by unfold editF; rw [ar0_no]; rfl) h
theorem e0_load (p : Pnr) (hp : Hd) (v : Int) (w : World) : Calls Tryd.prog 9 #[.agg #[.string ⟨#[]⟩, .string ⟨#[]⟩, .bool false, .string ⟨#[]⟩, .string ⟨#[]⟩, .slice none 0 0, .slice none 0 0, .slice none 0 0, .int .i64 0, .int .i64 0, .int .i64 0, .string ⟨#[]⟩, .slice none 0 0, .slice none 0 0, .bool false, .int .u64 0, .slice none 0 0, .slice none 0 0, .bool false, .int .i64 0], .agg #[.string p.loc, .string p.off, .slice hp.an hp.nn hp.cn, .slice hp.ag hp.ng hp.cg, .slice hp.ap hp.np hp.cp, .int .i64 p.tik.kind, .int .i64 p.tik.day, .int .i64 p.tik.min, .string p.rc, .slice hp.ar hp.nr hp.cr, .slice hp.ae hp.ne hp.ce, .bool p.queued], .int .u64 v] w (E0 w 50) :=
  (load_bad ar0 ah0 p hp v w _ (AS0 w) (fun b h => h.2) ar0_small 50 ar0_idle rfl).mono fun en w' h => RetA.e0 rfl h
theorem e0_ignore (w : World) : Calls Tryd.prog 16 #[.agg #[.string ⟨#[]⟩, .string ⟨#[]⟩, .bool false, .string ⟨#[]⟩, .string ⟨#[]⟩, .slice none 0 0, .slice none 0 0, .slice none 0 0, .int .i64 0, .int .i64 0, .int .i64 0, .string ⟨#[]⟩, .slice none 0 0, .slice none 0 0, .bool false, .int .u64 0, .slice none 0 0, .slice none 0 0, .bool false, .int .i64 0]] w (E0 w 50) :=
  (ignore_any ar0 ah0 w _ (AS0 w) (fun b h => h.2) ar0_small).mono fun en w' h => RetA.e0 (by unfold ignoreF; rw [ar0_no]; rfl) h
theorem e0_list (l : List Lg) (A : Option Addr) (n c : Nat) (w : World) (hl : SlS w (fun b => b < w.heap.size) tLeg A n c l) (hn : n ≤ 1000) : Calls Tryd.prog 14 #[.agg #[.string ⟨#[]⟩, .string ⟨#[]⟩, .bool false, .string ⟨#[]⟩, .string ⟨#[]⟩, .slice none 0 0, .slice none 0 0, .slice none 0 0, .int .i64 0, .int .i64 0, .int .i64 0, .string ⟨#[]⟩, .slice none 0 0, .slice none 0 0, .bool false, .int .u64 0, .slice none 0 0, .slice none 0 0, .bool false, .int .i64 0], .slice A n c] w (E0 w 50) :=
  (list_any ar0 ah0 l A n c w _ ((AS0 w).mono (S' := fun b => b < w.heap.size) fun b h => h.2) hl (fun b h => h) ar0_small hn).mono fun en w' h => RetA.e0 (by unfold listF; rw [ar0_no]; rfl) h
theorem e0_line (n : Int) (w : World) : Calls Tryd.prog 18 #[.agg #[.string ⟨#[]⟩, .string ⟨#[]⟩, .bool false, .string ⟨#[]⟩, .string ⟨#[]⟩, .slice none 0 0, .slice none 0 0, .slice none 0 0, .int .i64 0, .int .i64 0, .int .i64 0, .string ⟨#[]⟩, .slice none 0 0, .slice none 0 0, .bool false, .int .u64 0, .slice none 0 0, .slice none 0 0, .bool false, .int .i64 0], .int .i64 n] w (fun en w' => en = .returned (.tuple #[.agg #[.string ⟨#[]⟩, .int .i64 0, .int .i64 0], .int .i64 50]) ∧ Below w.heap.size w w') := by
  have h := line_any ar0 ah0 n w _ (AS0 w) (fun b h => h.2) ar0_small
  rw [show lineF ar0 n = (lg0, 50) by unfold lineF; rw [ar0_no]; rfl] at h
  exact h
theorem e0_work (n : Int) (w : World) : Calls Tryd.prog 15 #[.agg #[.string ⟨#[]⟩, .string ⟨#[]⟩, .bool false, .string ⟨#[]⟩, .string ⟨#[]⟩, .slice none 0 0, .slice none 0 0, .slice none 0 0, .int .i64 0, .int .i64 0, .int .i64 0, .string ⟨#[]⟩, .slice none 0 0, .slice none 0 0, .bool false, .int .u64 0, .slice none 0 0, .slice none 0 0, .bool false, .int .i64 0], .int .i64 n] w (E0 w 50) :=
  (work_any ar0 ah0 n w _ (AS0 w) (fun b h => h.2) ar0_small).mono fun en w' h => RetA.e0 (by unfold workF; rw [if_neg (by rw [ar0_no]; simp), ar0_idle]; rfl) h
theorem e0_leave (w : World) : Calls Tryd.prog 19 #[.agg #[.string ⟨#[]⟩, .string ⟨#[]⟩, .bool false, .string ⟨#[]⟩, .string ⟨#[]⟩, .slice none 0 0, .slice none 0 0, .slice none 0 0, .int .i64 0, .int .i64 0, .int .i64 0, .string ⟨#[]⟩, .slice none 0 0, .slice none 0 0, .bool false, .int .u64 0, .slice none 0 0, .slice none 0 0, .bool false, .int .i64 0]] w (E0 w 50) :=
  (leave_any ar0 ah0 w _ (AS0 w) (fun b h => h.2) ar0_small).mono fun en w' h => RetA.e0 (by unfold leaveF; rw [ar0_no]; rfl) h
theorem e0_out (w : World) : Calls Tryd.prog 20 #[.agg #[.string ⟨#[]⟩, .string ⟨#[]⟩, .bool false, .string ⟨#[]⟩, .string ⟨#[]⟩, .slice none 0 0, .slice none 0 0, .slice none 0 0, .int .i64 0, .int .i64 0, .int .i64 0, .string ⟨#[]⟩, .slice none 0 0, .slice none 0 0, .bool false, .int .u64 0, .slice none 0 0, .slice none 0 0, .bool false, .int .i64 0]] w (E0 w 50) :=
  (signout_any ar0 ah0 w _ (AS0 w) (fun b h => h.2) ar0_small).mono fun en w' h => RetA.e0 (by rw [ar0_idle]) h
end Go.Proofs.YtfbalabmidobeaaDoor
