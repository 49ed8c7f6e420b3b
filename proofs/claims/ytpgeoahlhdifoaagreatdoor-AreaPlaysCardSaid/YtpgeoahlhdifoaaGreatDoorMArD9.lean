/- Put together by program of: Area14, ArD9, ArDpa. -/
import Derived.Test.YtpgeoahlhdifoaaGreatDoorMArea11
import Derived.Test.YtpgeoahlhdifoaaGreatDoorArea6
import Derived.Test.YtpgeoahlhdifoaaGreatDoorMArD6
import Derived.Test.YtpgeoahlhdifoaaGreatDoorSpoil
import Derived.Test.YtpgeoahlhdifoaaGreatDoorMArD
import Derived.Test.YtpgeoahlhdifoaaGreatDoorCopied
import Derived.OrdersHeld
namespace Go.Proofs.YtpgeoahlhdifoaaGreatDoor
set_option linter.unusedVariables false
open Go Go.RowKit
/-- An area in a local; what else is to stay (K). -/
structure AX (w : World) (g : Nat) (K : World → Prop) (a : Ar) (h1 : AH) (W : World) : Prop where
  B : Below w.heap.size w W
  b : Bx W g #[.string a.agent, .string a.off, .bool a.open_, .string a.base.loc, .string a.base.off, .slice h1.b.an h1.b.nn h1.b.cn, .slice h1.b.ag h1.b.ng h1.b.cg, .slice h1.b.ap h1.b.np h1.b.cp, .int .i64 a.base.tik.kind, .int .i64 a.base.tik.day, .int .i64 a.base.tik.min, .string a.base.rc, .slice h1.b.ar h1.b.nr h1.b.cr, .slice h1.b.ae h1.b.ne h1.b.ce, .bool a.base.queued, .int .u64 a.ver, .slice h1.ad h1.nd h1.cd, .slice h1.al h1.nl h1.cl, .bool a.working, .int .i64 a.queue] 53
  A : AS W (fun b => b ≠ g ∧ b < W.heap.size) a h1
  z : w.heap.size ≤ g
  k : K W
structure AK (g : Nat) (K : World → Prop) : Prop where
  step : ∀ {W W1 : World}, g < W.heap.size → K W → Below W.heap.size W W1 → K W1
  row : ∀ {W : World} (cs : Array Value), g < W.heap.size → K W → K (W.setRow g cs)
section
variable {w W W1 W2 : World} {g : Nat} {K : World → Prop} {a a3 : Ar} {h1 h3 : AH}
theorem AX.lt (H : AX w g K a h1 W) : g < W.heap.size := H.b.lt
theorem AX.step (hK : AK g K) (H : AX w g K a h1 W) (hb : Below W.heap.size W W1) : AX w g K a h1 W1 :=
  ⟨H.B.trans (hb.mono H.B.size), H.b.below hb H.b.lt, (H.A.below (D := W.heap.size) hb fun b h => h.2).mono fun b h => ⟨h.1, Nat.lt_of_lt_of_le h.2 hb.size⟩, H.z, hK.step H.lt H.k hb⟩
theorem AX.drew (hK : AK g K) (H : AX w g K a h1 W) : AX w g K a h1 W.drew := H.step hK ((Below.refl _ _).drew)
theorem AX.alloc (hK : AK g K) (H : AX w g K a h1 W) (o : Obj) : AX w g K a h1 (W.alloc o) := H.step hK ((Below.refl _ _).alloc (Nat.le_refl _) o)
/-- The area is another one. -/
theorem AX.put (hK : AK g K) (H : AX w g K a h1 W) (hA : AS W (fun b => b ≠ g ∧ b < W.heap.size) a3 h3) : AX w g K a3 h3 (W.setRow g #[.string a3.agent, .string a3.off, .bool a3.open_, .string a3.base.loc, .string a3.base.off, .slice h3.b.an h3.b.nn h3.b.cn, .slice h3.b.ag h3.b.ng h3.b.cg, .slice h3.b.ap h3.b.np h3.b.cp, .int .i64 a3.base.tik.kind, .int .i64 a3.base.tik.day, .int .i64 a3.base.tik.min, .string a3.base.rc, .slice h3.b.ar h3.b.nr h3.b.cr, .slice h3.b.ae h3.b.ne h3.b.ce, .bool a3.base.queued, .int .u64 a3.ver, .slice h3.ad h3.nd h3.cd, .slice h3.al h3.nl h3.cl, .bool a3.working, .int .i64 a3.queue]) :=
  ⟨below_setRow H.B H.z _, H.b.row _, (hA.keep fun u hu => cell_setRow_other _ _ _ _ hu.1).mono fun b h => ⟨h.1, by simpa using h.2⟩, H.z, hK.row _ H.lt H.k⟩
theorem AX.start {B : Nat} (hB : Below w.heap.size w W) (o : OA W B a h1) (zs : Array Value) (hk : K ((W.alloc (.cells zs 53)).setRow W.heap.size #[.string a.agent, .string a.off, .bool a.open_, .string a.base.loc, .string a.base.off, .slice h1.b.an h1.b.nn h1.b.cn, .slice h1.b.ag h1.b.ng h1.b.cg, .slice h1.b.ap h1.b.np h1.b.cp, .int .i64 a.base.tik.kind, .int .i64 a.base.tik.day, .int .i64 a.base.tik.min, .string a.base.rc, .slice h1.b.ar h1.b.nr h1.b.cr, .slice h1.b.ae h1.b.ne h1.b.ce, .bool a.base.queued, .int .u64 a.ver, .slice h1.ad h1.nd h1.cd, .slice h1.al h1.nl h1.cl, .bool a.working, .int .i64 a.queue])) : AX w W.heap.size K a h1 ((W.alloc (.cells zs 53)).setRow W.heap.size #[.string a.agent, .string a.off, .bool a.open_, .string a.base.loc, .string a.base.off, .slice h1.b.an h1.b.nn h1.b.cn, .slice h1.b.ag h1.b.ng h1.b.cg, .slice h1.b.ap h1.b.np h1.b.cp, .int .i64 a.base.tik.kind, .int .i64 a.base.tik.day, .int .i64 a.base.tik.min, .string a.base.rc, .slice h1.b.ar h1.b.nr h1.b.cr, .slice h1.b.ae h1.b.ne h1.b.ce, .bool a.base.queued, .int .u64 a.ver, .slice h1.ad h1.nd h1.cd, .slice h1.al h1.nl h1.cl, .bool a.working, .int .i64 a.queue]) :=
  ⟨below_setRow (hB.alloc hB.size _) hB.size _, (Bx.new W zs 53).row _, ((o.as.below ((Below.refl W.heap.size W).alloc (Nat.le_refl _) (.cells zs 53)) fun b h => h.2).keep fun u hu => cell_setRow_other _ _ _ _ (by have := hu.2; omega)).mono fun b h => ⟨by have := h.2; omega, by have := h.2; simp; omega⟩, hB.size, hk⟩
structure AY (w : World) (g : Nat) (K : World → Prop) (a : Ar) (h1 : AH) (g12 : Nat) (a3 : Ar) (h3 : AH) (W : World) : Prop where
  H : AX w g K a h1 W
  b12 : Bx W g12 #[.string a3.agent, .string a3.off, .bool a3.open_, .string a3.base.loc, .string a3.base.off, .slice h3.b.an h3.b.nn h3.b.cn, .slice h3.b.ag h3.b.ng h3.b.cg, .slice h3.b.ap h3.b.np h3.b.cp, .int .i64 a3.base.tik.kind, .int .i64 a3.base.tik.day, .int .i64 a3.base.tik.min, .string a3.base.rc, .slice h3.b.ar h3.b.nr h3.b.cr, .slice h3.b.ae h3.b.ne h3.b.ce, .bool a3.base.queued, .int .u64 a3.ver, .slice h3.ad h3.nd h3.cd, .slice h3.al h3.nl h3.cl, .bool a3.working, .int .i64 a3.queue] 53
  A3 : AS W (fun b => b ≠ g ∧ b < W.heap.size) a3 h3
  z12 : g < g12
theorem AY.of1 (hK : AK g K) (H : AX w g K a h1 W) (hb : Below W.heap.size W W2) (o : OA W2 W.heap.size a3 h3) : AY w g K a h1 W2.heap.size a3 h3 (W2.alloc (.cells #[.string a3.agent, .string a3.off, .bool a3.open_, .string a3.base.loc, .string a3.base.off, .slice h3.b.an h3.b.nn h3.b.cn, .slice h3.b.ag h3.b.ng h3.b.cg, .slice h3.b.ap h3.b.np h3.b.cp, .int .i64 a3.base.tik.kind, .int .i64 a3.base.tik.day, .int .i64 a3.base.tik.min, .string a3.base.rc, .slice h3.b.ar h3.b.nr h3.b.cr, .slice h3.b.ae h3.b.ne h3.b.ce, .bool a3.base.queued, .int .u64 a3.ver, .slice h3.ad h3.nd h3.cd, .slice h3.al h3.nl h3.cl, .bool a3.working, .int .i64 a3.queue] 53)) := by
  have hz := H.lt
  have hs := hb.size
  exact ⟨(H.step hK hb).alloc hK _, Bx.new _ _ _, (o.alloc _).as.mono fun b h => ⟨by omega, h.2⟩, by omega⟩
theorem AY.of2 (hK : AK g K) (H : AX w g K a h1 W) {zs : Array Value} (hb : Below (W.alloc (.cells zs 53)).heap.size (W.alloc (.cells zs 53)) W2) (o : OA W2 (W.heap.size + 1) a3 h3) : AY w g K a h1 W.heap.size a3 h3 (W2.setRow W.heap.size #[.string a3.agent, .string a3.off, .bool a3.open_, .string a3.base.loc, .string a3.base.off, .slice h3.b.an h3.b.nn h3.b.cn, .slice h3.b.ag h3.b.ng h3.b.cg, .slice h3.b.ap h3.b.np h3.b.cp, .int .i64 a3.base.tik.kind, .int .i64 a3.base.tik.day, .int .i64 a3.base.tik.min, .string a3.base.rc, .slice h3.b.ar h3.b.nr h3.b.cr, .slice h3.b.ae h3.b.ne h3.b.ce, .bool a3.base.queued, .int .u64 a3.ver, .slice h3.ad h3.nd h3.cd, .slice h3.al h3.nl h3.cl, .bool a3.working, .int .i64 a3.queue]) := by
  have hz := H.lt
  have hb1 : Below W.heap.size W W2 := ((Below.refl _ _).alloc (Nat.le_refl _) _).trans (hb.mono (by simp))
  exact ⟨H.step hK (below_setRow hb1 (Nat.le_refl _) _), ((Bx.new W zs 53).below hb (by simp)).row _, (o.rowAt (Nat.lt_succ_self _) _).as.mono fun b h => ⟨by omega, h.2⟩, hz⟩
end
/-- A call on an area of nobody. -/
def E0 (w : World) (e : Int) (en : Ending) (w' : World) : Prop := ∃ cs : Array Value, en = .returned (.tuple #[.agg cs, .int .i64 e]) ∧ cs.size = 20 ∧ (cs.all fun v => v.oneCell') = true ∧ Below w.heap.size w w'
theorem RetA.e0 {w w' : World} {r : Ar × Int} {en : Ending} {e : Int} (he : r.2 = e) (h : RetA w r en w') : E0 w e en w' := by
  obtain ⟨h', rfl, o, hb⟩ := h
  exact ⟨_, by rw [he], rfl, by simp [Value.oneCell'], hb⟩
theorem ar0_small : ar0.small 1000 := ⟨⟨by simp [ar0, pnr0], by simp [ar0, pnr0], by simp [ar0, pnr0], by simp [ar0, pnr0], by simp [ar0, pnr0]⟩, by simp [ar0], by simp [ar0]⟩
theorem ar0_no : noOne ar0 = true := by kernel_rfl
theorem ar0_idle : idleF ar0 = (ar0, 50) := by unfold idleF; rw [ar0_no]; rfl
theorem AS0 (w : World) : AS w (fun b => w.heap.size ≤ b ∧ b < w.heap.size) ar0 ah0 := (ar0_oa w w.heap.size).as
theorem e0_edit (x : Edit) (w : World) (hx : x.ok) : Calls Tryz.prog 15 #[.agg #[.string ⟨#[]⟩, .string ⟨#[]⟩, .bool false, .string ⟨#[]⟩, .string ⟨#[]⟩, .slice none 0 0, .slice none 0 0, .slice none 0 0, .int .i64 0, .int .i64 0, .int .i64 0, .string ⟨#[]⟩, .slice none 0 0, .slice none 0 0, .bool false, .int .u64 0, .slice none 0 0, .slice none 0 0, .bool false, .int .i64 0], .agg #[.int .i64 x.kind, .string x.nam.last, .string x.nam.first, .string x.seg.car, .int .i64 x.seg.num, .int .i64 x.seg.day, .int .u8 x.seg.cls, .bool x.seg.live, .int .i64 x.tik.kind, .int .i64 x.tik.day, .int .i64 x.tik.min, .string x.text, .int .i64 x.n, .int .i64 x.pax, .int .i64 x.row, .int .u8 x.let_]] w (E0 w 50) :=
  (edit_any ar0 ah0 x w _ (AS0 w) (fun b h => h.2) ar0_small hx).mono fun en w' h => RetA.e0 (by unfold editF; rw [ar0_no]; rfl) h
theorem e0_load (p : Pnr) (hp : Hd) (v : Int) (w : World) : Calls Tryz.prog 21 #[.agg #[.string ⟨#[]⟩, .string ⟨#[]⟩, .bool false, .string ⟨#[]⟩, .string ⟨#[]⟩, .slice none 0 0, .slice none 0 0, .slice none 0 0, .int .i64 0, .int .i64 0, .int .i64 0, .string ⟨#[]⟩, .slice none 0 0, .slice none 0 0, .bool false, .int .u64 0, .slice none 0 0, .slice none 0 0, .bool false, .int .i64 0], .agg #[.string p.loc, .string p.off, .slice hp.an hp.nn hp.cn, .slice hp.ag hp.ng hp.cg, .slice hp.ap hp.np hp.cp, .int .i64 p.tik.kind, .int .i64 p.tik.day, .int .i64 p.tik.min, .string p.rc, .slice hp.ar hp.nr hp.cr, .slice hp.ae hp.ne hp.ce, .bool p.queued], .int .u64 v] w (E0 w 50) :=
  (load_bad ar0 ah0 p hp v w _ (AS0 w) (fun b h => h.2) ar0_small 50 ar0_idle rfl).mono fun en w' h => RetA.e0 rfl h
theorem e0_ignore (w : World) : Calls Tryz.prog 23 #[.agg #[.string ⟨#[]⟩, .string ⟨#[]⟩, .bool false, .string ⟨#[]⟩, .string ⟨#[]⟩, .slice none 0 0, .slice none 0 0, .slice none 0 0, .int .i64 0, .int .i64 0, .int .i64 0, .string ⟨#[]⟩, .slice none 0 0, .slice none 0 0, .bool false, .int .u64 0, .slice none 0 0, .slice none 0 0, .bool false, .int .i64 0]] w (E0 w 50) :=
  (ignore_any ar0 ah0 w _ (AS0 w) (fun b h => h.2) ar0_small).mono fun en w' h => RetA.e0 (by unfold ignoreF; rw [ar0_no]; rfl) h
theorem e0_list (l : List Lg) (A : Option Addr) (n c : Nat) (w : World) (hl : SlS w (fun b => b < w.heap.size) tLeg A n c l) (hn : n ≤ 1000) : Calls Tryz.prog 25 #[.agg #[.string ⟨#[]⟩, .string ⟨#[]⟩, .bool false, .string ⟨#[]⟩, .string ⟨#[]⟩, .slice none 0 0, .slice none 0 0, .slice none 0 0, .int .i64 0, .int .i64 0, .int .i64 0, .string ⟨#[]⟩, .slice none 0 0, .slice none 0 0, .bool false, .int .u64 0, .slice none 0 0, .slice none 0 0, .bool false, .int .i64 0], .slice A n c] w (E0 w 50) :=
  (list_any ar0 ah0 l A n c w _ ((AS0 w).mono (S' := fun b => b < w.heap.size) fun b h => h.2) hl (fun b h => h) ar0_small hn).mono fun en w' h => RetA.e0 (by unfold listF; rw [ar0_no]; rfl) h
theorem e0_line (n : Int) (w : World) : Calls Tryz.prog 27 #[.agg #[.string ⟨#[]⟩, .string ⟨#[]⟩, .bool false, .string ⟨#[]⟩, .string ⟨#[]⟩, .slice none 0 0, .slice none 0 0, .slice none 0 0, .int .i64 0, .int .i64 0, .int .i64 0, .string ⟨#[]⟩, .slice none 0 0, .slice none 0 0, .bool false, .int .u64 0, .slice none 0 0, .slice none 0 0, .bool false, .int .i64 0], .int .i64 n] w (fun en w' => en = .returned (.tuple #[.agg #[.string ⟨#[]⟩, .int .i64 0, .int .i64 0], .int .i64 50]) ∧ Below w.heap.size w w') := by
  have h := line_any ar0 ah0 n w _ (AS0 w) (fun b h => h.2) ar0_small
  rw [show lineF ar0 n = (lg0, 50) by unfold lineF; rw [ar0_no]; rfl] at h
  exact h
theorem e0_work (n : Int) (w : World) : Calls Tryz.prog 29 #[.agg #[.string ⟨#[]⟩, .string ⟨#[]⟩, .bool false, .string ⟨#[]⟩, .string ⟨#[]⟩, .slice none 0 0, .slice none 0 0, .slice none 0 0, .int .i64 0, .int .i64 0, .int .i64 0, .string ⟨#[]⟩, .slice none 0 0, .slice none 0 0, .bool false, .int .u64 0, .slice none 0 0, .slice none 0 0, .bool false, .int .i64 0], .int .i64 n] w (E0 w 50) :=
  (work_any ar0 ah0 n w _ (AS0 w) (fun b h => h.2) ar0_small).mono fun en w' h => RetA.e0 (by unfold workF; rw [if_neg (by rw [ar0_no]; simp), ar0_idle]; rfl) h
theorem e0_leave (w : World) : Calls Tryz.prog 31 #[.agg #[.string ⟨#[]⟩, .string ⟨#[]⟩, .bool false, .string ⟨#[]⟩, .string ⟨#[]⟩, .slice none 0 0, .slice none 0 0, .slice none 0 0, .int .i64 0, .int .i64 0, .int .i64 0, .string ⟨#[]⟩, .slice none 0 0, .slice none 0 0, .bool false, .int .u64 0, .slice none 0 0, .slice none 0 0, .bool false, .int .i64 0]] w (E0 w 50) :=
  (leave_any ar0 ah0 w _ (AS0 w) (fun b h => h.2) ar0_small).mono fun en w' h => RetA.e0 (by unfold leaveF; rw [ar0_no]; rfl) h
theorem e0_out (w : World) : Calls Tryz.prog 16 #[.agg #[.string ⟨#[]⟩, .string ⟨#[]⟩, .bool false, .string ⟨#[]⟩, .string ⟨#[]⟩, .slice none 0 0, .slice none 0 0, .slice none 0 0, .int .i64 0, .int .i64 0, .int .i64 0, .string ⟨#[]⟩, .slice none 0 0, .slice none 0 0, .bool false, .int .u64 0, .slice none 0 0, .slice none 0 0, .bool false, .int .i64 0]] w (E0 w 50) :=
  (signout_any ar0 ah0 w _ (AS0 w) (fun b h => h.2) ar0_small).mono fun en w' h => RetA.e0 (by rw [ar0_idle]) h
end Go.Proofs.YtpgeoahlhdifoaaGreatDoor
namespace Go.Proofs.YtpgeoahlhdifoaaGreatDoor
set_option linter.unusedVariables false
open Go Go.RowKit
/-- Some blocks have turned, and new ones are there: nothing else. -/
structure Kr (lo hi : Nat) (w w' : World) : Prop where
  B : Below lo w w'
  kp : ∀ k, k < w.heap.size → hi ≤ k → w'.heap[k]? = w.heap[k]?
theorem Kr.refl (lo hi : Nat) (w : World) : Kr lo hi w w := ⟨Below.refl _ _, fun _ _ _ => rfl⟩
theorem Kr.size {lo hi : Nat} {w w' : World} (h : Kr lo hi w w') : w.heap.size ≤ w'.heap.size := h.B.size
theorem Kr.trans {lo hi : Nat} {w w' w'' : World} (h : Kr lo hi w w') (h' : Kr lo hi w' w'') : Kr lo hi w w'' :=
  ⟨h.B.trans h'.B, fun k hk hh => (h'.kp k (Nat.lt_of_lt_of_le hk h.size) hh).trans (h.kp k hk hh)⟩
theorem Kr.of_below {lo hi : Nat} {w w' : World} (h : Below w.heap.size w w') (hl : lo ≤ w.heap.size) : Kr lo hi w w' := ⟨h.mono hl, fun k hk _ => h.block k hk⟩
theorem Kr.set {lo hi : Nat} {w w' : World} (h : Kr lo hi w w') {a : Addr} (h1 : lo ≤ a.block) (h2 : a.block < hi) (u : Value) : Kr lo hi w (w'.setCell a u) :=
  ⟨h.B.setCell h1 _, fun k hk hh => (Below.heap_setCell w' a u k (fun e => by omega)).trans (h.kp k hk hh)⟩
theorem Kr.same {lo hi : Nat} {w w' : World} (h : Kr lo hi w w') {k : Nat} (hk : k < w.heap.size) (hh : k < lo ∨ hi ≤ k) : w'.heap[k]? = w.heap[k]? := by
  rcases hh with hh | hh
  · exact h.B.block k hh
  · exact h.kp k hk hh
theorem Kr.bx {lo hi : Nat} {w w' : World} (h : Kr lo hi w w') {g : Nat} {cs : Array Value} {t : TypeId} (hb : Bx w g cs t) (hh : g < lo ∨ hi ≤ g) : Bx w' g cs t := (h.same hb.lt hh).trans hb
theorem Kr.as {lo hi : Nat} {w w' : World} (h : Kr lo hi w w') {S : Nat → Prop} {a : Ar} {hd : AH} (ha : AS w S a hd) (hS : ∀ b, S b → b < w.heap.size ∧ (b < lo ∨ hi ≤ b)) : AS w' S a hd :=
  ha.keep fun q hq => World.cell?_of_block (h.same (hS _ hq).1 (hS _ hq).2)
theorem Wr.kr {lo hi lo' hi' sz n : Nat} {A : Option Addr} {w w' : World} (h : Wr w lo' hi' sz A n) (hk : ∀ k, lo' ≤ k → k < hi' → w'.heap[k]? = w.heap[k]?) : Wr w' lo' hi' sz A n := by
  intro hn
  obtain ⟨g, h1, h2, h3, hc⟩ := h hn
  refine ⟨g, h1, h2, h3, fun j hj => ?_⟩
  obtain ⟨⟨v, hv⟩, hf⟩ := hc j hj
  exact ⟨⟨v, (World.cell?_of_block (a := ⟨g, j, none⟩) (hk g h2 h3)).trans hv⟩, (World.frozen?_of_block (a := ⟨g, j, none⟩) (hk g h2 h3)).trans hf⟩
theorem Wr.more {lo hi lo' sz n : Nat} {A : Option Addr} {w : World} (h : Wr w lo hi sz A n) (hl : lo' ≤ lo) : Wr w lo' hi sz A n := fun hn => by
  obtain ⟨g, h1, h2, h3, hc⟩ := h hn
  exact ⟨g, h1, by omega, h3, hc⟩
/-- The rows of a PNR can be written, and lie in blocks from lo on, ahead of hi. -/
structure BP (W : World) (lo hi : Nat) (h : Hd) : Prop where
  an : Wr W lo hi 2 h.an h.nn
  ag : Wr W lo hi 5 h.ag h.ng
  ap : Wr W lo hi 1 h.ap h.np
  ar : Wr W lo hi 1 h.ar h.nr
  ae : Wr W lo hi 4 h.ae h.ne
/-- So those of an area. -/
structure BW (W : World) (lo hi : Nat) (h : AH) : Prop where
  b : BP W lo hi h.b
  ad : Wr W lo hi 16 h.ad h.nd
  al : Wr W lo hi 3 h.al h.nl
section
variable {W W1 : World} {lo hi lo' : Nat} {a : Ar} {h : AH}
theorem OA.bw (H : OA W lo a h) : BW W lo W.heap.size h :=
  ⟨⟨H.base.names.wr (Nat.le_refl _), H.base.segs.wr (Nat.le_refl _), H.base.phones.wr (Nat.le_refl _), H.base.remarks.wr (Nat.le_refl _), H.base.seats.wr (Nat.le_refl _)⟩, H.edits.wr (Nat.le_refl _), H.legs.wr (Nat.le_refl _)⟩
theorem BW.kr (H : BW W lo hi h) (hk : ∀ k, lo ≤ k → k < hi → W1.heap[k]? = W.heap[k]?) : BW W1 lo hi h :=
  ⟨⟨H.b.an.kr (lo := lo) (hi := hi) hk, H.b.ag.kr (lo := lo) (hi := hi) hk, H.b.ap.kr (lo := lo) (hi := hi) hk, H.b.ar.kr (lo := lo) (hi := hi) hk, H.b.ae.kr (lo := lo) (hi := hi) hk⟩, H.ad.kr (lo := lo) (hi := hi) hk, H.al.kr (lo := lo) (hi := hi) hk⟩
theorem BW.step (H : BW W lo hi h) (hb : Below W.heap.size W W1) (hh : hi ≤ W.heap.size) : BW W1 lo hi h := H.kr fun k _ h2 => hb.block k (by omega)
theorem BW.rowLt (H : BW W lo hi h) {g : Nat} (hg : g < lo) (cs : Array Value) : BW (W.setRow g cs) lo hi h := H.kr fun k h1 _ => setRow_other W g k cs (by omega)
theorem BW.more (H : BW W lo hi h) (hl : lo' ≤ lo) : BW W lo' hi h := ⟨⟨H.b.an.more hl, H.b.ag.more hl, H.b.ap.more hl, H.b.ar.more hl, H.b.ae.more hl⟩, H.ad.more hl, H.al.more hl⟩
theorem BW.set (H : BW W lo hi h) (p : Addr) (u : Value) : BW (W.setCell p u) lo hi h :=
  ⟨⟨H.b.an.set p u, H.b.ag.set p u, H.b.ap.set p u, H.b.ar.set p u, H.b.ae.set p u⟩, H.ad.set p u, H.al.set p u⟩
end
/-- While a PNR's rows are written over. -/
structure SQ (w : World) (lo hi : Nat) (p : Pnr) (h : Hd) (W : World) : Prop where
  B : Below lo w W
  kp : ∀ k, k < w.heap.size → hi ≤ k → W.heap[k]? = w.heap[k]?
  le : hi ≤ w.heap.size
  box : Bx W w.heap.size #[.string p.loc, .string p.off, .slice h.an h.nn h.cn, .slice h.ag h.ng h.cg, .slice h.ap h.np h.cp, .int .i64 p.tik.kind, .int .i64 p.tik.day, .int .i64 p.tik.min, .string p.rc, .slice h.ar h.nr h.cr, .slice h.ae h.ne h.ce, .bool p.queued] 29
  an : Wr W lo hi 2 h.an h.nn
  ag : Wr W lo hi 5 h.ag h.ng
  ap : Wr W lo hi 1 h.ap h.np
  ar : Wr W lo hi 1 h.ar h.nr
  ae : Wr W lo hi 4 h.ae h.ne
theorem SQ.set {w : World} {lo hi : Nat} {p : Pnr} {h : Hd} {W : World} (H : SQ w lo hi p h W) {a : Addr} (h1 : lo ≤ a.block) (h2 : a.block < hi) (u : Value) : SQ w lo hi p h (W.setCell a u) :=
  ⟨H.B.setCell h1 _, fun k hk hh => (Below.heap_setCell W a u k (fun e => by omega)).trans (H.kp k hk hh), H.le, H.box.other (by have := H.le; omega) u, H.an.set a u, H.ag.set a u, H.ap.set a u, H.ar.set a u, H.ae.set a u⟩
theorem SQ.start {w : World} {lo hi : Nat} (p : Pnr) {h : Hd} (H : BP w lo hi h) (hl : lo ≤ w.heap.size) (hh : hi ≤ w.heap.size) : SQ w lo hi p h (w.alloc (.cells #[.string p.loc, .string p.off, .slice h.an h.nn h.cn, .slice h.ag h.ng h.cg, .slice h.ap h.np h.cp, .int .i64 p.tik.kind, .int .i64 p.tik.day, .int .i64 p.tik.min, .string p.rc, .slice h.ar h.nr h.cr, .slice h.ae h.ne h.ce, .bool p.queued] 29)) := by
  have hk : ∀ k, lo ≤ k → k < hi → (w.alloc (.cells #[.string p.loc, .string p.off, .slice h.an h.nn h.cn, .slice h.ag h.ng h.cg, .slice h.ap h.np h.cp, .int .i64 p.tik.kind, .int .i64 p.tik.day, .int .i64 p.tik.min, .string p.rc, .slice h.ar h.nr h.cr, .slice h.ae h.ne h.ce, .bool p.queued] 29)).heap[k]? = w.heap[k]? := fun k _ h2 => heap_alloc_old w _ (by omega)
  exact ⟨(Below.refl _ _).alloc hl _, fun k hk _ => heap_alloc_old w _ hk, hh, Bx.new _ _ _, H.an.kr (lo := lo) (hi := hi) hk, H.ag.kr (lo := lo) (hi := hi) hk, H.ap.kr (lo := lo) (hi := hi) hk, H.ar.kr (lo := lo) (hi := hi) hk, H.ae.kr (lo := lo) (hi := hi) hk⟩
set_option maxRecDepth 100000 in
set_option maxHeartbeats 4000000 in
theorem spoil_wr (p : Pnr) (h : Hd) (w : World) (lo hi : Nat) (hp : BP w lo hi h) (hl : lo ≤ w.heap.size) (hh : hi ≤ w.heap.size) (hs : Small h) :
    Calls Tryz.prog 13 #[.agg #[.string p.loc, .string p.off, .slice h.an h.nn h.cn, .slice h.ag h.ng h.cg, .slice h.ap h.np h.cp, .int .i64 p.tik.kind, .int .i64 p.tik.day, .int .i64 p.tik.min, .string p.rc, .slice h.ar h.nr h.cr, .slice h.ae h.ne h.ce, .bool p.queued]] w (fun e w' => e = .returned (.tuple #[]) ∧ Below lo w w' ∧ ∀ k, k < w.heap.size → hi ≤ k → w'.heap[k]? = w.heap[k]?) := by
  obtain ⟨s1, s2, s3, s4, s5⟩ := hs
  have hS := SQ.start p hp hl hh
  clear hp
  obtain ⟨an, nn, cn, ag, ng, cg, ap, np, cp, ar, nr, cr, ae, ne, ce⟩ := h
  dsimp only at s1 s2 s3 s4 s5 hS
  dsimp only
  go_enter Tryz.func13, Tryz.ntmps13
  go_wp2
  go_loopw [2] (fun i wr => ∃ k : Nat, k ≤ nn ∧ i = .int .i64 k ∧ SQ w lo hi p (Hd.mk an nn cn ag ng cg ap np cp ar nr cr ae ne ce) wr) (fun i _ => nn - (intOf i).toNat)
  case atStart => exact ⟨0, Nat.zero_le _, rfl, hS⟩
  case round =>
    clear hS
    obtain ⟨k, hk, rfl, hS⟩ := hrel
    have hx := hS.box.cells
    have hz := hS.box.lt
    by_cases hlt : k < nn
    · obtain ⟨g, hA, g1, g2, hc⟩ := hS.an (Nat.lt_of_le_of_lt (Nat.zero_le _) hlt)
      dsimp only at hA
      subst hA
      obtain ⟨⟨u, c0⟩, f0⟩ := hc (k * 2) (by show k * 2 < nn * 2; omega)
      clear hc
      have hk0 : (0 : Int) ≤ k := by omega
      have hkl : (k : Int) < nn := by omega
      have hle := hS.le
      have hgw : g < wr.heap.size := by omega
      go_wp2
      go_roundw
      case rel => exact ⟨k + 1, by omega, by go_num, hS.set (a := ⟨g, k * 2, none⟩) g1 g2 _⟩
      case measure => simp [intOf]; omega
    · go_wp2
      go_loopw [3] (fun i wr => ∃ k : Nat, k ≤ ng ∧ i = .int .i64 k ∧ SQ w lo hi p (Hd.mk an nn cn ag ng cg ap np cp ar nr cr ae ne ce) wr) (fun i _ => ng - (intOf i).toNat)
      case atStart => exact ⟨0, Nat.zero_le _, rfl, hS⟩
      case round =>
        clear hS
        obtain ⟨k, hk, rfl, hS⟩ := hrel
        have hx := hS.box.cells
        have hz := hS.box.lt
        by_cases hlt : k < ng
        · obtain ⟨g, hA, g1, g2, hc⟩ := hS.ag (Nat.lt_of_le_of_lt (Nat.zero_le _) hlt)
          dsimp only at hA
          subst hA
          obtain ⟨⟨u, c0⟩, f0⟩ := hc (k * 5 + 3) (by show k * 5 + 3 < ng * 5; omega)
          clear hc
          have hk0 : (0 : Int) ≤ k := by omega
          have hkl : (k : Int) < ng := by omega
          have hle := hS.le
          have hgw : g < wr.heap.size := by omega
          go_wp2
          go_roundw
          case rel => exact ⟨k + 1, by omega, by go_num, hS.set (a := ⟨g, k * 5 + 3, none⟩) g1 g2 _⟩
          case measure => simp [intOf]; omega
        · go_wp2
          go_loopw [4] (fun i wr => ∃ k : Nat, k ≤ np ∧ i = .int .i64 k ∧ SQ w lo hi p (Hd.mk an nn cn ag ng cg ap np cp ar nr cr ae ne ce) wr) (fun i _ => np - (intOf i).toNat)
          case atStart => exact ⟨0, Nat.zero_le _, rfl, hS⟩
          case round =>
            clear hS
            obtain ⟨k, hk, rfl, hS⟩ := hrel
            have hx := hS.box.cells
            have hz := hS.box.lt
            by_cases hlt : k < np
            · obtain ⟨g, hA, g1, g2, hc⟩ := hS.ap (Nat.lt_of_le_of_lt (Nat.zero_le _) hlt)
              dsimp only at hA
              subst hA
              obtain ⟨⟨u, c0⟩, f0⟩ := hc (k) (by show k < np * 1; omega)
              clear hc
              have hk0 : (0 : Int) ≤ k := by omega
              have hkl : (k : Int) < np := by omega
              have hle := hS.le
              have hgw : g < wr.heap.size := by omega
              go_wp2
              go_roundw
              case rel => exact ⟨k + 1, by omega, by go_num, hS.set (a := ⟨g, k, none⟩) g1 g2 _⟩
              case measure => simp [intOf]; omega
            · go_wp2
              go_loopw [5] (fun i wr => ∃ k : Nat, k ≤ nr ∧ i = .int .i64 k ∧ SQ w lo hi p (Hd.mk an nn cn ag ng cg ap np cp ar nr cr ae ne ce) wr) (fun i _ => nr - (intOf i).toNat)
              case atStart => exact ⟨0, Nat.zero_le _, rfl, hS⟩
              case round =>
                clear hS
                obtain ⟨k, hk, rfl, hS⟩ := hrel
                have hx := hS.box.cells
                have hz := hS.box.lt
                by_cases hlt : k < nr
                · obtain ⟨g, hA, g1, g2, hc⟩ := hS.ar (Nat.lt_of_le_of_lt (Nat.zero_le _) hlt)
                  dsimp only at hA
                  subst hA
                  obtain ⟨⟨u, c0⟩, f0⟩ := hc (k) (by show k < nr * 1; omega)
                  clear hc
                  have hk0 : (0 : Int) ≤ k := by omega
                  have hkl : (k : Int) < nr := by omega
                  have hle := hS.le
                  have hgw : g < wr.heap.size := by omega
                  go_wp2
                  go_roundw
                  case rel => exact ⟨k + 1, by omega, by go_num, hS.set (a := ⟨g, k, none⟩) g1 g2 _⟩
                  case measure => simp [intOf]; omega
                · go_wp2
                  go_loopw [6] (fun i wr => ∃ k : Nat, k ≤ ne ∧ i = .int .i64 k ∧ SQ w lo hi p (Hd.mk an nn cn ag ng cg ap np cp ar nr cr ae ne ce) wr) (fun i _ => ne - (intOf i).toNat)
                  case atStart => exact ⟨0, Nat.zero_le _, rfl, hS⟩
                  case round =>
                    clear hS
                    obtain ⟨k, hk, rfl, hS⟩ := hrel
                    have hx := hS.box.cells
                    have hz := hS.box.lt
                    by_cases hlt : k < ne
                    · obtain ⟨g, hA, g1, g2, hc⟩ := hS.ae (Nat.lt_of_le_of_lt (Nat.zero_le _) hlt)
                      dsimp only at hA
                      subst hA
                      obtain ⟨⟨u, c0⟩, f0⟩ := hc (k * 4 + 1) (by show k * 4 + 1 < ne * 4; omega)
                      clear hc
                      have hk0 : (0 : Int) ≤ k := by omega
                      have hkl : (k : Int) < ne := by omega
                      have hle := hS.le
                      have hgw : g < wr.heap.size := by omega
                      go_wp2
                      go_roundw
                      case rel => exact ⟨k + 1, by omega, by go_num, hS.set (a := ⟨g, k * 4 + 1, none⟩) g1 g2 _⟩
                      case measure => simp [intOf]; omega
                    · go_wp2
                      go_end0
                      exact ⟨rfl, hS.B, hS.kp⟩
/-- A call of the script, as it lies in memory. -/
structure ActM where
  kind : Int
  n : Int
  text : ByteArray
  off : ByteArray
  ed : Edit
  p : Pnr
  h : Hd
  ver : Int
  al : Option Addr
  nl : Nat
  cl : Nat
  legs : List Lg
structure ActM.ok (x : ActM) : Prop where
  kind : okInt x.kind
  n : okInt x.n
  text : okStr x.text
  off : okStr x.off
  ed : x.ed.ok
  ver : okU64 x.ver
/-- The cells of an area, of a call, of an empty area. -/
abbrev xC (k : Int) (x : ActM) : Array Value := #[.int .i64 k, .int .i64 x.n, .string x.text, .string x.off, .int .i64 x.ed.kind, .string x.ed.nam.last, .string x.ed.nam.first, .string x.ed.seg.car, .int .i64 x.ed.seg.num, .int .i64 x.ed.seg.day, .int .u8 x.ed.seg.cls, .bool x.ed.seg.live, .int .i64 x.ed.tik.kind, .int .i64 x.ed.tik.day, .int .i64 x.ed.tik.min, .string x.ed.text, .int .i64 x.ed.n, .int .i64 x.ed.pax, .int .i64 x.ed.row, .int .u8 x.ed.let_, .string x.p.loc, .string x.p.off, .slice x.h.an x.h.nn x.h.cn, .slice x.h.ag x.h.ng x.h.cg, .slice x.h.ap x.h.np x.h.cp, .int .i64 x.p.tik.kind, .int .i64 x.p.tik.day, .int .i64 x.p.tik.min, .string x.p.rc, .slice x.h.ar x.h.nr x.h.cr, .slice x.h.ae x.h.ne x.h.ce, .bool x.p.queued, .int .u64 x.ver, .slice x.al x.nl x.cl]
theorem xC0 {W : World} {g : Nat} {k : Int} {x : ActM} (hr : Bx W g (xC k x) 52) : W.cell? ⟨g, 0, none⟩ = some (.int .i64 k) := hr.cells 0
theorem xC1 {W : World} {g : Nat} {k : Int} {x : ActM} (hr : Bx W g (xC k x) 52) : W.cell? ⟨g, 1, none⟩ = some (.int .i64 x.n) := hr.cells 1
theorem xC2 {W : World} {g : Nat} {k : Int} {x : ActM} (hr : Bx W g (xC k x) 52) : W.cell? ⟨g, 2, none⟩ = some (.string x.text) := hr.cells 2
theorem xC3 {W : World} {g : Nat} {k : Int} {x : ActM} (hr : Bx W g (xC k x) 52) : W.cell? ⟨g, 3, none⟩ = some (.string x.off) := hr.cells 3
theorem xC32 {W : World} {g : Nat} {k : Int} {x : ActM} (hr : Bx W g (xC k x) 52) : W.cell? ⟨g, 32, none⟩ = some (.int .u64 x.ver) := hr.cells 32
theorem xC33 {W : World} {g : Nat} {k : Int} {x : ActM} (hr : Bx W g (xC k x) 52) : W.cell? ⟨g, 33, none⟩ = some (.slice x.al x.nl x.cl) := hr.cells 33
/-- Its lists lie in blocks of S. -/
structure ActAt (w : World) (S : Nat → Prop) (x : ActM) : Prop where
  p : PS w S x.p x.h
  l : SlS w S tLeg x.al x.nl x.cl x.legs
theorem ActAt.below {w w' : World} {S : Nat → Prop} {x : ActM} {D : Nat} (H : ActAt w S x) (hb : Below D w w') (hS : ∀ b, S b → b < D) : ActAt w' S x := ⟨H.p.keep fun _ hq => hb.cell (hS _ hq), H.l.below hb hS⟩
noncomputable def loadP (v : Value) : Sem Value := Instr.loadAt 29 v
theorem loadP_eq (v : Value) : Instr.loadAt 29 v = loadP v := rfl
noncomputable def storeD (p v : Value) : Sem Unit := Instr.storeAt 34 p v
theorem storeD_eq (p v : Value) : Instr.storeAt 34 p v = storeD p v := rfl
theorem std_of {W : World} {g : Nat} {cs old : Array Value} (hr : Bx W g old 34) (h20 : cs.size = 20) (ho : old.size = 20) (h1 : (cs.all fun v => v.oneCell') = true) : (storeD (.pointer (some ⟨g, 0, none⟩)) (.agg cs)).run Tryz.prog W = .ok () (W.setRow g cs) := by
  unfold storeD
  simp only [Instr.storeAt, Instr.sureAddr, Sem.run_bind, Sem.run_pure, Result.andThen_ok, run_storeVar_row (P := Tryz.prog) W g 34 34 old cs hr (by rw [h20]; exact info_areaD) (by rw [h20, ho]) h1]
theorem act_ed {W : World} {g : Nat} {x : ActM} (hr : Bx W g #[.int .i64 x.kind, .int .i64 x.n, .string x.text, .string x.off, .int .i64 x.ed.kind, .string x.ed.nam.last, .string x.ed.nam.first, .string x.ed.seg.car, .int .i64 x.ed.seg.num, .int .i64 x.ed.seg.day, .int .u8 x.ed.seg.cls, .bool x.ed.seg.live, .int .i64 x.ed.tik.kind, .int .i64 x.ed.tik.day, .int .i64 x.ed.tik.min, .string x.ed.text, .int .i64 x.ed.n, .int .i64 x.ed.pax, .int .i64 x.ed.row, .int .u8 x.ed.let_, .string x.p.loc, .string x.p.off, .slice x.h.an x.h.nn x.h.cn, .slice x.h.ag x.h.ng x.h.cg, .slice x.h.ap x.h.np x.h.cp, .int .i64 x.p.tik.kind, .int .i64 x.p.tik.day, .int .i64 x.p.tik.min, .string x.p.rc, .slice x.h.ar x.h.nr x.h.cr, .slice x.h.ae x.h.ne x.h.ce, .bool x.p.queued, .int .u64 x.ver, .slice x.al x.nl x.cl] 52) : W.rangeAt g 4 (#[.int .i64 x.ed.kind, .string x.ed.nam.last, .string x.ed.nam.first, .string x.ed.seg.car, .int .i64 x.ed.seg.num, .int .i64 x.ed.seg.day, .int .u8 x.ed.seg.cls, .bool x.ed.seg.live, .int .i64 x.ed.tik.kind, .int .i64 x.ed.tik.day, .int .i64 x.ed.tik.min, .string x.ed.text, .int .i64 x.ed.n, .int .i64 x.ed.pax, .int .i64 x.ed.row, .int .u8 x.ed.let_] : Array Value).toList := fun j v hj => by
  refine (hr.cells (4 + j)).trans ?_
  rw [← hj]
  match j with
  | 0 => rfl
  | 1 => rfl
  | 2 => rfl
  | 3 => rfl
  | 4 => rfl
  | 5 => rfl
  | 6 => rfl
  | 7 => rfl
  | 8 => rfl
  | 9 => rfl
  | 10 => rfl
  | 11 => rfl
  | 12 => rfl
  | 13 => rfl
  | 14 => rfl
  | 15 => rfl
  | k + 16 => cases hj
theorem act_p {W : World} {g : Nat} {x : ActM} (hr : Bx W g #[.int .i64 x.kind, .int .i64 x.n, .string x.text, .string x.off, .int .i64 x.ed.kind, .string x.ed.nam.last, .string x.ed.nam.first, .string x.ed.seg.car, .int .i64 x.ed.seg.num, .int .i64 x.ed.seg.day, .int .u8 x.ed.seg.cls, .bool x.ed.seg.live, .int .i64 x.ed.tik.kind, .int .i64 x.ed.tik.day, .int .i64 x.ed.tik.min, .string x.ed.text, .int .i64 x.ed.n, .int .i64 x.ed.pax, .int .i64 x.ed.row, .int .u8 x.ed.let_, .string x.p.loc, .string x.p.off, .slice x.h.an x.h.nn x.h.cn, .slice x.h.ag x.h.ng x.h.cg, .slice x.h.ap x.h.np x.h.cp, .int .i64 x.p.tik.kind, .int .i64 x.p.tik.day, .int .i64 x.p.tik.min, .string x.p.rc, .slice x.h.ar x.h.nr x.h.cr, .slice x.h.ae x.h.ne x.h.ce, .bool x.p.queued, .int .u64 x.ver, .slice x.al x.nl x.cl] 52) : W.rangeAt g 20 (#[.string x.p.loc, .string x.p.off, .slice x.h.an x.h.nn x.h.cn, .slice x.h.ag x.h.ng x.h.cg, .slice x.h.ap x.h.np x.h.cp, .int .i64 x.p.tik.kind, .int .i64 x.p.tik.day, .int .i64 x.p.tik.min, .string x.p.rc, .slice x.h.ar x.h.nr x.h.cr, .slice x.h.ae x.h.ne x.h.ce, .bool x.p.queued] : Array Value).toList := fun j v hj => by
  refine (hr.cells (20 + j)).trans ?_
  rw [← hj]
  match j with
  | 0 => rfl
  | 1 => rfl
  | 2 => rfl
  | 3 => rfl
  | 4 => rfl
  | 5 => rfl
  | 6 => rfl
  | 7 => rfl
  | 8 => rfl
  | 9 => rfl
  | 10 => rfl
  | 11 => rfl
  | k + 12 => cases hj
theorem ldx_ed {W : World} {g : Nat} {x : ActM} (hr : Bx W g #[.int .i64 x.kind, .int .i64 x.n, .string x.text, .string x.off, .int .i64 x.ed.kind, .string x.ed.nam.last, .string x.ed.nam.first, .string x.ed.seg.car, .int .i64 x.ed.seg.num, .int .i64 x.ed.seg.day, .int .u8 x.ed.seg.cls, .bool x.ed.seg.live, .int .i64 x.ed.tik.kind, .int .i64 x.ed.tik.day, .int .i64 x.ed.tik.min, .string x.ed.text, .int .i64 x.ed.n, .int .i64 x.ed.pax, .int .i64 x.ed.row, .int .u8 x.ed.let_, .string x.p.loc, .string x.p.off, .slice x.h.an x.h.nn x.h.cn, .slice x.h.ag x.h.ng x.h.cg, .slice x.h.ap x.h.np x.h.cp, .int .i64 x.p.tik.kind, .int .i64 x.p.tik.day, .int .i64 x.p.tik.min, .string x.p.rc, .slice x.h.ar x.h.nr x.h.cr, .slice x.h.ae x.h.ne x.h.ce, .bool x.p.queued, .int .u64 x.ver, .slice x.al x.nl x.cl] 52) : (loadE (.pointer (some ⟨g, 4, none⟩))).run Tryz.prog W = .ok (.agg #[.int .i64 x.ed.kind, .string x.ed.nam.last, .string x.ed.nam.first, .string x.ed.seg.car, .int .i64 x.ed.seg.num, .int .i64 x.ed.seg.day, .int .u8 x.ed.seg.cls, .bool x.ed.seg.live, .int .i64 x.ed.tik.kind, .int .i64 x.ed.tik.day, .int .i64 x.ed.tik.min, .string x.ed.text, .int .i64 x.ed.n, .int .i64 x.ed.pax, .int .i64 x.ed.row, .int .u8 x.ed.let_]) W :=
  run_loadAt_mid W g 4 50 _ _ (act_ed hr) Tryz.underlying50 rfl (by kernel_rfl)
theorem ldx_p {W : World} {g : Nat} {x : ActM} (hr : Bx W g #[.int .i64 x.kind, .int .i64 x.n, .string x.text, .string x.off, .int .i64 x.ed.kind, .string x.ed.nam.last, .string x.ed.nam.first, .string x.ed.seg.car, .int .i64 x.ed.seg.num, .int .i64 x.ed.seg.day, .int .u8 x.ed.seg.cls, .bool x.ed.seg.live, .int .i64 x.ed.tik.kind, .int .i64 x.ed.tik.day, .int .i64 x.ed.tik.min, .string x.ed.text, .int .i64 x.ed.n, .int .i64 x.ed.pax, .int .i64 x.ed.row, .int .u8 x.ed.let_, .string x.p.loc, .string x.p.off, .slice x.h.an x.h.nn x.h.cn, .slice x.h.ag x.h.ng x.h.cg, .slice x.h.ap x.h.np x.h.cp, .int .i64 x.p.tik.kind, .int .i64 x.p.tik.day, .int .i64 x.p.tik.min, .string x.p.rc, .slice x.h.ar x.h.nr x.h.cr, .slice x.h.ae x.h.ne x.h.ce, .bool x.p.queued, .int .u64 x.ver, .slice x.al x.nl x.cl] 52) : (loadP (.pointer (some ⟨g, 20, none⟩))).run Tryz.prog W = .ok (.agg #[.string x.p.loc, .string x.p.off, .slice x.h.an x.h.nn x.h.cn, .slice x.h.ag x.h.ng x.h.cg, .slice x.h.ap x.h.np x.h.cp, .int .i64 x.p.tik.kind, .int .i64 x.p.tik.day, .int .i64 x.p.tik.min, .string x.p.rc, .slice x.h.ar x.h.nr x.h.cr, .slice x.h.ae x.h.ne x.h.ce, .bool x.p.queued]) W :=
  run_loadAt_mid W g 20 29 _ _ (act_p hr) Tryz.underlying29 rfl (by kernel_rfl)
theorem Bx.new_ {W : World} {g : Nat} {cs : Array Value} {t : TypeId} (h : W.heap.size = g) : Bx (W.alloc (.cells cs t)) g cs t := by subst h; exact Bx.new _ _ _
structure P7 (w : World) (c0 c1 c2 c3 c4 c5 c6 : Array Value) (W : World) : Prop where
  B : Below w.heap.size w W
  b0 : Bx W (w.heap.size) c0 53
  b1 : Bx W (w.heap.size + 1) c1 34
  b2 : Bx W (w.heap.size + 1 + 1) c2 52
  b3 : Bx W (w.heap.size + 1 + 1 + 1) c3 53
  b4 : Bx W (w.heap.size + 1 + 1 + 1 + 1) c4 34
  b5 : Bx W (w.heap.size + 1 + 1 + 1 + 1 + 1) c5 53
  b6 : Bx W (w.heap.size + 1 + 1 + 1 + 1 + 1 + 1) c6 34
section
variable {w W W1 : World} {c0 c1 c2 c3 c4 c5 c6 : Array Value}
theorem P7.start (w : World) (c0 c1 c2 c3 c4 c5 c6 : Array Value) : P7 w c0 c1 c2 c3 c4 c5 c6 (((((((w.alloc (.cells c0 53)).alloc (.cells c1 34)).alloc (.cells c2 52)).alloc (.cells c3 53)).alloc (.cells c4 34)).alloc (.cells c5 53)).alloc (.cells c6 34)) :=
  ⟨((((((((Below.refl w.heap.size w).alloc (Nat.le_refl _) _).alloc (by simp <;> omega) _).alloc (by simp <;> omega) _).alloc (by simp <;> omega) _).alloc (by simp <;> omega) _).alloc (by simp <;> omega) _).alloc (by simp <;> omega) _), (((((((Bx.new_ (W := w) (by simp)).alloc _).alloc _).alloc _).alloc _).alloc _).alloc _), ((((((Bx.new_ (W := (w.alloc (.cells c0 53))) (by simp)).alloc _).alloc _).alloc _).alloc _).alloc _), (((((Bx.new_ (W := ((w.alloc (.cells c0 53)).alloc (.cells c1 34))) (by simp)).alloc _).alloc _).alloc _).alloc _), ((((Bx.new_ (W := (((w.alloc (.cells c0 53)).alloc (.cells c1 34)).alloc (.cells c2 52))) (by simp)).alloc _).alloc _).alloc _), (((Bx.new_ (W := ((((w.alloc (.cells c0 53)).alloc (.cells c1 34)).alloc (.cells c2 52)).alloc (.cells c3 53))) (by simp)).alloc _).alloc _), ((Bx.new_ (W := (((((w.alloc (.cells c0 53)).alloc (.cells c1 34)).alloc (.cells c2 52)).alloc (.cells c3 53)).alloc (.cells c4 34))) (by simp)).alloc _), (Bx.new_ (W := ((((((w.alloc (.cells c0 53)).alloc (.cells c1 34)).alloc (.cells c2 52)).alloc (.cells c3 53)).alloc (.cells c4 34)).alloc (.cells c5 53))) (by simp))⟩
theorem P7.z (H : P7 w c0 c1 c2 c3 c4 c5 c6 W) : w.heap.size + 1 + 1 + 1 + 1 + 1 + 1 < W.heap.size := H.b6.lt
theorem P7.step (H : P7 w c0 c1 c2 c3 c4 c5 c6 W) (hb : Below W.heap.size W W1) : P7 w c0 c1 c2 c3 c4 c5 c6 W1 :=
  ⟨H.B.trans (hb.mono H.B.size), H.b0.below hb H.b0.lt, H.b1.below hb H.b1.lt, H.b2.below hb H.b2.lt, H.b3.below hb H.b3.lt, H.b4.below hb H.b4.lt, H.b5.below hb H.b5.lt, H.b6.below hb H.b6.lt⟩
theorem P7.drew (H : P7 w c0 c1 c2 c3 c4 c5 c6 W) : P7 w c0 c1 c2 c3 c4 c5 c6 W.drew := H.step (below_drewN (Below.refl _ _) 1)
theorem P7.row3 (H : P7 w c0 c1 c2 c3 c4 c5 c6 W) (cs : Array Value) : P7 w c0 c1 c2 cs c4 c5 c6 (W.setRow (w.heap.size + 1 + 1 + 1) cs) :=
  ⟨below_setRow H.B (by omega) _, H.b0.rowOther (by omega) _, H.b1.rowOther (by omega) _, H.b2.rowOther (by omega) _, H.b3.row cs, H.b4.rowOther (by omega) _, H.b5.rowOther (by omega) _, H.b6.rowOther (by omega) _⟩
theorem P7.row4 (H : P7 w c0 c1 c2 c3 c4 c5 c6 W) (cs : Array Value) : P7 w c0 c1 c2 c3 cs c5 c6 (W.setRow (w.heap.size + 1 + 1 + 1 + 1) cs) :=
  ⟨below_setRow H.B (by omega) _, H.b0.rowOther (by omega) _, H.b1.rowOther (by omega) _, H.b2.rowOther (by omega) _, H.b3.rowOther (by omega) _, H.b4.row cs, H.b5.rowOther (by omega) _, H.b6.rowOther (by omega) _⟩
theorem P7.row5 (H : P7 w c0 c1 c2 c3 c4 c5 c6 W) (cs : Array Value) : P7 w c0 c1 c2 c3 c4 cs c6 (W.setRow (w.heap.size + 1 + 1 + 1 + 1 + 1) cs) :=
  ⟨below_setRow H.B (by omega) _, H.b0.rowOther (by omega) _, H.b1.rowOther (by omega) _, H.b2.rowOther (by omega) _, H.b3.rowOther (by omega) _, H.b4.rowOther (by omega) _, H.b5.row cs, H.b6.rowOther (by omega) _⟩
theorem P7.row6 (H : P7 w c0 c1 c2 c3 c4 c5 c6 W) (cs : Array Value) : P7 w c0 c1 c2 c3 c4 c5 cs (W.setRow (w.heap.size + 1 + 1 + 1 + 1 + 1 + 1) cs) :=
  ⟨below_setRow H.B (by omega) _, H.b0.rowOther (by omega) _, H.b1.rowOther (by omega) _, H.b2.rowOther (by omega) _, H.b3.rowOther (by omega) _, H.b4.rowOther (by omega) _, H.b5.rowOther (by omega) _, H.b6.row cs⟩
end
theorem ret_pl {fn : Func} {p r u v : Tmp} (h : fn.results = #[.cell p 53, .cell r 34, .tmp u, .tmp v]) {R : Ending → World → Prop} {a : Act} {w : World} {g k : Nat} {cs ds : Array Value} {x y : Value}
    (hr : Bx w g cs 53) (hs : cs.size = 20) (hr2 : Bx w k ds 34) (hs2 : ds.size = 20) (hp : a.tmps.getD p undef = .pointer (some ⟨g, 0, none⟩)) (hq : a.tmps.getD r undef = .pointer (some ⟨k, 0, none⟩))
    (hu : a.tmps.getD u undef = x) (hv : a.tmps.getD v undef = y) (hd : a.defers = []) (hR : R (.returned (.tuple #[.agg cs, .agg ds, x, y])) w) : bodyPost Tryz.prog fn R .ret a w := by
  refine bodyPost_ret (v := .tuple #[.agg cs, .agg ds, x, y]) ?_ hd hR
  have hl := run_loadVar_row (P := Tryz.prog) w g 53 53 cs (0, 0) _ hr Tryz.underlying53 rfl (by rw [hs]; exact info_area)
  have hl2 := run_loadVar_row (P := Tryz.prog) w k 34 34 ds (0, 0) _ hr2 Tryz.underlying34 rfl (by rw [hs2]; exact info_areaD)
  simp only [Array.getD_eq_getD_getElem?] at hp hq hu hv
  simp only [results, h]
  simp [Sem.run_bind, Result.andThen, hp, hq, asAddr, hl, hl2, hu, hv]
/-- What play leaves: an area whose rows may be written (from lo on, ahead of c), and the document's, the same one. -/
def PlayQ (w : World) (lo : Nat) (C : Nat → Prop) (S : Nat → Prop) (en : Ending) (w' : World) : Prop :=
  ∃ (q : Ar) (hb hn : AH) (c : Nat) (done : Bool), C c ∧ en = .returned (.tuple #[.agg #[.string q.agent, .string q.off, .bool q.open_, .string q.base.loc, .string q.base.off, .slice hb.b.an hb.b.nn hb.b.cn, .slice hb.b.ag hb.b.ng hb.b.cg, .slice hb.b.ap hb.b.np hb.b.cp, .int .i64 q.base.tik.kind, .int .i64 q.base.tik.day, .int .i64 q.base.tik.min, .string q.base.rc, .slice hb.b.ar hb.b.nr hb.b.cr, .slice hb.b.ae hb.b.ne hb.b.ce, .bool q.base.queued, .int .u64 q.ver, .slice hb.ad hb.nd hb.cd, .slice hb.al hb.nl hb.cl, .bool q.working, .int .i64 q.queue], .agg #[.string q.agent, .string q.off, .bool q.open_, .string q.base.loc, .string q.base.off, .slice hn.b.an hn.b.nn hn.b.cn, .slice hn.b.ag hn.b.ng hn.b.cg, .slice hn.b.ap hn.b.np hn.b.cp, .int .i64 q.base.tik.kind, .int .i64 q.base.tik.day, .int .i64 q.base.tik.min, .string q.base.rc, .slice hn.b.ar hn.b.nr hn.b.cr, .slice hn.b.ae hn.b.ne hn.b.ce, .bool q.base.queued, .int .u64 q.ver, .slice hn.ad hn.nd hn.cd, .slice hn.al hn.nl hn.cl, .bool q.working, .int .i64 q.queue], .bool done, .bool true]) ∧ q.small 2000 ∧ BW w' lo c hb ∧ hb.nd ≤ 100000 ∧ hb.nl ≤ 100000 ∧ Small hb.b ∧ c ≤ w'.heap.size ∧ AS w' (fun b => S b ∨ (w.heap.size ≤ b ∧ c ≤ b ∧ b < w'.heap.size)) q hn ∧ Below w.heap.size w w'
/-- The tail of play: both areas lie in their boxes. -/
structure PT (w : World) (S : Nat → Prop) (lo c : Nat) (q : Ar) (hb hn : AH) (W : World) : Prop where
  bw : BW W lo c hb
  hc : c ≤ W.heap.size
  b : AS W (fun b => lo ≤ b ∧ b < c) q hb
  n : AS W (fun b => S b ∨ (c ≤ b ∧ b < W.heap.size)) q hn
theorem PT.step {w W W1 : World} {S : Nat → Prop} {lo c : Nat} {q : Ar} {hb hn : AH} (H : PT w S lo c q hb hn W) (hS : ∀ b, S b → b < w.heap.size) (hw : w.heap.size ≤ W.heap.size) (h : Below W.heap.size W W1) : PT w S lo c q hb hn W1 :=
  ⟨H.bw.step h H.hc, Nat.le_trans H.hc h.size, H.b.below h (fun b hb => by have := H.hc; omega), (H.n.below h (fun b hb => by rcases hb with hb | hb; (have := hS b hb; omega); exact hb.2)).mono fun b hb => by rcases hb with hb | hb; exact .inl hb; exact .inr ⟨hb.1, Nat.lt_of_lt_of_le hb.2 h.size⟩⟩
theorem PT.row {w W : World} {S : Nat → Prop} {lo c : Nat} {q : Ar} {hb hn : AH} (H : PT w S lo c q hb hn W) (hS : ∀ b, S b → b < w.heap.size) {g : Nat} (h1 : w.heap.size ≤ g) (h2 : g < lo) (h3 : g < c) (cs : Array Value) : PT w S lo c q hb hn (W.setRow g cs) :=
  ⟨H.bw.rowLt h2 cs, by simpa using H.hc, H.b.keep fun p hp => cell_setRow_other _ _ _ _ (by omega), (H.n.keep fun p hp => cell_setRow_other _ _ _ _ (by rcases hp with hp | hp; (have := hS _ hp; omega); omega)).mono fun b hb => by simpa using hb⟩
theorem PT.drew {w W : World} {S : Nat → Prop} {lo c : Nat} {q : Ar} {hb hn : AH} (H : PT w S lo c q hb hn W) (hS : ∀ b, S b → b < w.heap.size) (hw : w.heap.size ≤ W.heap.size) : PT w S lo c q hb hn W.drew := H.step hS hw (below_drewN (Below.refl _ _) 1)
theorem PT.heads {w W : World} {S : Nat → Prop} {lo c : Nat} {q : Ar} {hb hn : AH} (H : PT w S lo c q hb hn W) (hs : q.small 2000) : hb.nd ≤ 100000 ∧ hb.nl ≤ 100000 ∧ Small hb.b :=
  ⟨by have := H.b.edits.len; have := hs.edits; omega, by have := H.b.legs.len; have := hs.legs; omega, (hs.base.mono (M := 100000) (by omega)).hd (H.b.base.at fun _ h => h)⟩
/-- The results are no greater. -/
theorem edit_sm {a : Ar} (hs : a.small 1000) (e : Edit) : (editF a e).1.small 2000 := by
  unfold editF
  split; exact ar0_small.mono (by omega)
  split; exact ar0_small.mono (by omega)
  split; exact ar0_small.mono (by omega)
  exact ⟨hs.base.mono (by omega), by have := hs.edits; simp; omega, by have := hs.legs; simp; omega⟩
theorem signin_sm {a : Ar} (g o : ByteArray) : (signinF a g o).1.small 2000 := by
  unfold signinF
  split; exact ar0_small.mono (by omega)
  split; exact ar0_small.mono (by omega)
  exact ⟨ar0_small.base.mono (by omega), by simp [ar0], by simp [ar0]⟩
theorem idle_sm {a : Ar} (hs : a.small 1000) : (idleF a).1.small 2000 := by
  unfold idleF
  split; exact ar0_small.mono (by omega)
  split; exact ar0_small.mono (by omega)
  exact hs.mono (by omega)
theorem load_sm {a : Ar} (hs : a.small 1000) {p : Pnr} (hp : p.small 1000) (v : Int) : (loadF a p v).1.small 2000 := by
  unfold loadF
  split; exact idle_sm hs
  exact ⟨hp.mono (by omega), by have := hs.edits; simp; omega, by have := hs.legs; simp; omega⟩
theorem ignore_sm {a : Ar} (hs : a.small 1000) : (ignoreF a).1.small 2000 := by
  unfold ignoreF
  split; exact ar0_small.mono (by omega)
  split; exact ar0_small.mono (by omega)
  exact ⟨ar0_small.base.mono (by omega), by simp, by have := hs.legs; simp; omega⟩
theorem list_sm {a : Ar} (hs : a.small 1000) {l : List Lg} (hl : l.length ≤ 1000) : (listF a l).1.small 2000 := by
  unfold listF
  split; exact ar0_small.mono (by omega)
  exact ⟨hs.base.mono (by omega), by have := hs.edits; simp; omega, by simp; omega⟩
theorem work_sm {a : Ar} (hs : a.small 1000) (n : Int) : (workF a n).1.small 2000 := by
  unfold workF
  split; exact ar0_small.mono (by omega)
  split; exact idle_sm hs
  exact ⟨hs.base.mono (by omega), by have := hs.edits; simp; omega, by have := hs.legs; simp; omega⟩
theorem leave_sm {a : Ar} (hs : a.small 1000) : (leaveF a).1.small 2000 := by
  unfold leaveF
  split; exact ar0_small.mono (by omega)
  split; exact ar0_small.mono (by omega)
  exact ⟨hs.base.mono (by omega), by have := hs.edits; simp; omega, by have := hs.legs; simp; omega⟩
end Go.Proofs.YtpgeoahlhdifoaaGreatDoor
namespace Go.Proofs.YtpgeoahlhdifoaaGreatDoor
set_option linter.unusedVariables false
open Go Go.RowKit
attribute [local go_sem ↓] loadA_eq storeA_eq loadD_eq storeD_eq loadE_eq loadP_eq
theorem RetA.d {W W' : World} {S : Nat → Prop} {r : Ar × Int} {en : Ending} (h : RetA W r en W') : RetD W S r en W' := by
  obtain ⟨h', rfl, o, hb⟩ := h
  exact ⟨h', rfl, o.as.mono fun b hb => Or.inr hb, hb⟩
theorem ldk_ed {W : World} {g : Nat} {k : Int} {x : ActM} (hr : Bx W g #[.int .i64 k, .int .i64 x.n, .string x.text, .string x.off, .int .i64 x.ed.kind, .string x.ed.nam.last, .string x.ed.nam.first, .string x.ed.seg.car, .int .i64 x.ed.seg.num, .int .i64 x.ed.seg.day, .int .u8 x.ed.seg.cls, .bool x.ed.seg.live, .int .i64 x.ed.tik.kind, .int .i64 x.ed.tik.day, .int .i64 x.ed.tik.min, .string x.ed.text, .int .i64 x.ed.n, .int .i64 x.ed.pax, .int .i64 x.ed.row, .int .u8 x.ed.let_, .string x.p.loc, .string x.p.off, .slice x.h.an x.h.nn x.h.cn, .slice x.h.ag x.h.ng x.h.cg, .slice x.h.ap x.h.np x.h.cp, .int .i64 x.p.tik.kind, .int .i64 x.p.tik.day, .int .i64 x.p.tik.min, .string x.p.rc, .slice x.h.ar x.h.nr x.h.cr, .slice x.h.ae x.h.ne x.h.ce, .bool x.p.queued, .int .u64 x.ver, .slice x.al x.nl x.cl] 52) : (loadE (.pointer (some ⟨g, 4, none⟩))).run Tryz.prog W = .ok (.agg #[.int .i64 x.ed.kind, .string x.ed.nam.last, .string x.ed.nam.first, .string x.ed.seg.car, .int .i64 x.ed.seg.num, .int .i64 x.ed.seg.day, .int .u8 x.ed.seg.cls, .bool x.ed.seg.live, .int .i64 x.ed.tik.kind, .int .i64 x.ed.tik.day, .int .i64 x.ed.tik.min, .string x.ed.text, .int .i64 x.ed.n, .int .i64 x.ed.pax, .int .i64 x.ed.row, .int .u8 x.ed.let_]) W := ldx_ed (x := { x with kind := k }) hr
theorem ldk_p {W : World} {g : Nat} {k : Int} {x : ActM} (hr : Bx W g #[.int .i64 k, .int .i64 x.n, .string x.text, .string x.off, .int .i64 x.ed.kind, .string x.ed.nam.last, .string x.ed.nam.first, .string x.ed.seg.car, .int .i64 x.ed.seg.num, .int .i64 x.ed.seg.day, .int .u8 x.ed.seg.cls, .bool x.ed.seg.live, .int .i64 x.ed.tik.kind, .int .i64 x.ed.tik.day, .int .i64 x.ed.tik.min, .string x.ed.text, .int .i64 x.ed.n, .int .i64 x.ed.pax, .int .i64 x.ed.row, .int .u8 x.ed.let_, .string x.p.loc, .string x.p.off, .slice x.h.an x.h.nn x.h.cn, .slice x.h.ag x.h.ng x.h.cg, .slice x.h.ap x.h.np x.h.cp, .int .i64 x.p.tik.kind, .int .i64 x.p.tik.day, .int .i64 x.p.tik.min, .string x.p.rc, .slice x.h.ar x.h.nr x.h.cr, .slice x.h.ae x.h.ne x.h.ce, .bool x.p.queued, .int .u64 x.ver, .slice x.al x.nl x.cl] 52) : (loadP (.pointer (some ⟨g, 20, none⟩))).run Tryz.prog W = .ok (.agg #[.string x.p.loc, .string x.p.off, .slice x.h.an x.h.nn x.h.cn, .slice x.h.ag x.h.ng x.h.cg, .slice x.h.ap x.h.np x.h.cp, .int .i64 x.p.tik.kind, .int .i64 x.p.tik.day, .int .i64 x.p.tik.min, .string x.p.rc, .slice x.h.ar x.h.nr x.h.cr, .slice x.h.ae x.h.ne x.h.ce, .bool x.p.queued]) W := ldx_p (x := { x with kind := k }) hr
set_option maxRecDepth 100000 in
set_option maxHeartbeats 8000000 in
theorem play_0 (a : Ar) (h hm : AH) (x : ActM) (w : World) (S : Nat → Prop) (ha : AS w (fun b => b < w.heap.size) a h) (hm0 : AS w S a hm) (hS : ∀ b, S b → b < w.heap.size) (hs : a.small 1000) (ho : x.ok) :
    Calls Tryz.prog 8 #[.agg #[.string a.agent, .string a.off, .bool a.open_, .string a.base.loc, .string a.base.off, .slice h.b.an h.b.nn h.b.cn, .slice h.b.ag h.b.ng h.b.cg, .slice h.b.ap h.b.np h.b.cp, .int .i64 a.base.tik.kind, .int .i64 a.base.tik.day, .int .i64 a.base.tik.min, .string a.base.rc, .slice h.b.ar h.b.nr h.b.cr, .slice h.b.ae h.b.ne h.b.ce, .bool a.base.queued, .int .u64 a.ver, .slice h.ad h.nd h.cd, .slice h.al h.nl h.cl, .bool a.working, .int .i64 a.queue], .agg #[.string a.agent, .string a.off, .bool a.open_, .string a.base.loc, .string a.base.off, .slice hm.b.an hm.b.nn hm.b.cn, .slice hm.b.ag hm.b.ng hm.b.cg, .slice hm.b.ap hm.b.np hm.b.cp, .int .i64 a.base.tik.kind, .int .i64 a.base.tik.day, .int .i64 a.base.tik.min, .string a.base.rc, .slice hm.b.ar hm.b.nr hm.b.cr, .slice hm.b.ae hm.b.ne hm.b.ce, .bool a.base.queued, .int .u64 a.ver, .slice hm.ad hm.nd hm.cd, .slice hm.al hm.nl hm.cl, .bool a.working, .int .i64 a.queue], .agg #[.int .i64 0, .int .i64 x.n, .string x.text, .string x.off, .int .i64 x.ed.kind, .string x.ed.nam.last, .string x.ed.nam.first, .string x.ed.seg.car, .int .i64 x.ed.seg.num, .int .i64 x.ed.seg.day, .int .u8 x.ed.seg.cls, .bool x.ed.seg.live, .int .i64 x.ed.tik.kind, .int .i64 x.ed.tik.day, .int .i64 x.ed.tik.min, .string x.ed.text, .int .i64 x.ed.n, .int .i64 x.ed.pax, .int .i64 x.ed.row, .int .u8 x.ed.let_, .string x.p.loc, .string x.p.off, .slice x.h.an x.h.nn x.h.cn, .slice x.h.ag x.h.ng x.h.cg, .slice x.h.ap x.h.np x.h.cp, .int .i64 x.p.tik.kind, .int .i64 x.p.tik.day, .int .i64 x.p.tik.min, .string x.p.rc, .slice x.h.ar x.h.nr x.h.cr, .slice x.h.ae x.h.ne x.h.ce, .bool x.p.queued, .int .u64 x.ver, .slice x.al x.nl x.cl]] w (PlayQ w w.heap.size (fun c => w.heap.size ≤ c) S) := by
  have HPG := Lib.hid (fun (W : World) (h1 : AS W (fun b => b < W.heap.size) a h) => (let hz : ∀ b, b < W.heap.size → b < W.heap.size := fun b hb => hb; (edit_any a h x.ed W _ h1 hz hs ho.ed : Calls Tryz.prog 15 #[.agg #[.string a.agent, .string a.off, .bool a.open_, .string a.base.loc, .string a.base.off, .slice h.b.an h.b.nn h.b.cn, .slice h.b.ag h.b.ng h.b.cg, .slice h.b.ap h.b.np h.b.cp, .int .i64 a.base.tik.kind, .int .i64 a.base.tik.day, .int .i64 a.base.tik.min, .string a.base.rc, .slice h.b.ar h.b.nr h.b.cr, .slice h.b.ae h.b.ne h.b.ce, .bool a.base.queued, .int .u64 a.ver, .slice h.ad h.nd h.cd, .slice h.al h.nl h.cl, .bool a.working, .int .i64 a.queue], .agg #[.int .i64 x.ed.kind, .string x.ed.nam.last, .string x.ed.nam.first, .string x.ed.seg.car, .int .i64 x.ed.seg.num, .int .i64 x.ed.seg.day, .int .u8 x.ed.seg.cls, .bool x.ed.seg.live, .int .i64 x.ed.tik.kind, .int .i64 x.ed.tik.day, .int .i64 x.ed.tik.min, .string x.ed.text, .int .i64 x.ed.n, .int .i64 x.ed.pax, .int .i64 x.ed.row, .int .u8 x.ed.let_]] W (RetA W (editF a x.ed)))))
  have HDC := Lib.hid (fun (W : World) (h1 : AS W S a hm) (hz : ∀ b, S b → b < W.heap.size) => (redit_any a hm x.ed W S h1 hz hs ho.ed : Calls Tryz.prog 18 #[.agg #[.string a.agent, .string a.off, .bool a.open_, .string a.base.loc, .string a.base.off, .slice hm.b.an hm.b.nn hm.b.cn, .slice hm.b.ag hm.b.ng hm.b.cg, .slice hm.b.ap hm.b.np hm.b.cp, .int .i64 a.base.tik.kind, .int .i64 a.base.tik.day, .int .i64 a.base.tik.min, .string a.base.rc, .slice hm.b.ar hm.b.nr hm.b.cr, .slice hm.b.ae hm.b.ne hm.b.ce, .bool a.base.queued, .int .u64 a.ver, .slice hm.ad hm.nd hm.cd, .slice hm.al hm.nl hm.cl, .bool a.working, .int .i64 a.queue], .agg #[.int .i64 x.ed.kind, .string x.ed.nam.last, .string x.ed.nam.first, .string x.ed.seg.car, .int .i64 x.ed.seg.num, .int .i64 x.ed.seg.day, .int .u8 x.ed.seg.cls, .bool x.ed.seg.live, .int .i64 x.ed.tik.kind, .int .i64 x.ed.tik.day, .int .i64 x.ed.tik.min, .string x.ed.text, .int .i64 x.ed.n, .int .i64 x.ed.pax, .int .i64 x.ed.row, .int .u8 x.ed.let_]] W (RetD W S (editF a x.ed))))
  have hsm : (editF a x.ed).1.small 2000 := edit_sm hs x.ed
  have HA := Lib.hid ha
  have HM := Lib.hid hm0
  have HS := Lib.hid hS
  clear ha hm0 hS hs ho
  generalize editF a x.ed = r at HPG HDC hsm
  obtain ⟨q, f⟩ := r
  dsimp only at hsm
  have HSM := Lib.hid hsm
  clear hsm
  have hP := P7.start w (aC a h) (aC a hm) (xC 0 x) aZ aZ aZ aZ
  go_enter Tryz.func8, Tryz.ntmps8
  go_upto_region 5 with fail
  refine wp_world (fun W => P7 w (aC a h) (aC a hm) (xC 0 x) aZ aZ aZ aZ W) hP ?_
  clear hP
  intro V hV
  have la1 := lda_of hV.b0 rfl
  have lm1 := ldaD_of hV.b1 rfl
  have z1 := hV.z
  have x01 := (xC0 hV.b2)
  have le1 := ldk_ed hV.b2
  go_wp2_with fail
  refine (HPG.out _ ((HA.out.below hV.B (fun b hb => hb)).mono fun b hb => by omega)).mono ?_
  rintro en w1 ⟨hb, rfl, ob, hb1⟩
  dsimp only at ob ⊢
  have hP1 := hV.step hb1
  clear la1 lm1 x01 le1
  have hst := sta_of hP1.b5 (cs := (aC q hb)) rfl rfl (aC_one _ _)
  have x01 := (xC0 hP1.b2)
  have hP2 := hP1.row5 (aC q hb)
  have la2 := lda_of hP2.b0 rfl
  have lm2 := ldaD_of hP2.b1 rfl
  have z2 := hP2.z
  have x02 := (xC0 hP2.b2)
  have le2 := ldk_ed hP2.b2
  have bw1 := (ob.more (B' := V.heap.size) (by omega)).bw
  have ob1 := (ob.more (B' := V.heap.size) (by omega)).as
  go_wp2_with fail
  refine (HDC.out _ (HM.out.below hP2.B HS.out) (fun b hb => by have := HS.out b hb; omega)).mono ?_
  rintro en w3 ⟨hn, rfl, an, hb3⟩
  dsimp only at an ⊢
  have hP3 := hP2.step hb3
  clear la2 lm2 z2 x02 le2
  have hst3 := std_of hP3.b6 (cs := (aC q hn)) rfl rfl (aC_one _ _)
  have hP4 := hP3.row6 (aC q hn)
  have z3 := hP3.z
  have zs : w1.heap.size ≤ w3.heap.size := by have := hb3.size; simpa using this
  have zv := hb1.size
  have zw := hV.B.size
  have bw3 := ((bw1.rowLt (g := w.heap.size + 1 + 1 + 1 + 1 + 1) (by omega) (aC q hb)).step hb3 (by simp)).rowLt (g := w.heap.size + 1 + 1 + 1 + 1 + 1 + 1) (by omega) (aC q hn)
  have ob3 : AS w3 (fun b => V.heap.size ≤ b ∧ b < w1.heap.size) q hb := (ob1.keep fun p hp => cell_setRow_other _ (w.heap.size + 1 + 1 + 1 + 1 + 1) (aC q hb) _ (by omega)).below hb3 (fun b hb => by simpa using hb.2)
  have an3 : AS w3 (fun b => S b ∨ (w1.heap.size ≤ b ∧ b < w3.heap.size)) q hn := an.mono fun b hb => by simpa using hb
  have hT : PT w S V.heap.size w1.heap.size q hb hn (w3.setRow (w.heap.size + 1 + 1 + 1 + 1 + 1 + 1) (aC q hn)) := ⟨bw3, by simpa using zs, ob3.keep fun p hp => cell_setRow_other _ _ _ _ (by omega), (an3.keep fun p hp => cell_setRow_other _ _ _ _ (by rcases hp with hp | hp; (have := HS.out _ hp; omega); omega)).mono fun b hb => by simpa using hb⟩
  have x0e := (xC0 hP3.b2)
  go_upto_region 35 with fail
  refine wp_world (fun W => P7 w (aC a h) (aC a hm) (xC 0 x) aZ aZ (aC q hb) (aC q hn) W ∧ PT w S V.heap.size w1.heap.size q hb hn W) ⟨hP4, hT⟩ ?_
  clear hP1 hP2 hP3 hP4 hT hst3 bw1 bw3 ob1 ob3 an an3 ob hb1 hb3 x0e z3 zs
  generalize w1.heap.size = c1 at zv ⊢
  rintro V9 ⟨hP9, hT9⟩
  have hP0 := hP9.drew
  have hT0 := hT9.drew HS.out (by have := hP9.z; omega)
  have hz9 := hP9.z
  refine wp_region_held_drew (S := fun w' => (loadA (.pointer (some ⟨w.heap.size + 1 + 1 + 1 + 1 + 1, 0, none⟩))).run Tryz.prog w' = .ok (.agg (aC q hb)) w' ∧ (loadD (.pointer (some ⟨w.heap.size + 1 + 1 + 1 + 1 + 1 + 1, 0, none⟩))).run Tryz.prog w' = .ok (.agg (aC q hn)) w') (by kernel_rfl) ⟨lda_of hP0.b5 rfl, ldaD_of hP0.b6 rfl⟩ (fun hS => ?_)
  refine tk (i := 0) (oi := { dst := some 175, op := .load 53 (.tmp 12), type := 53, pos := "law.go:100", after := #[], guard := none }) (v := ?_) ?_ hS ?_
  rotate_left
  · intro w9 hS9; have q1 := hS9.1; have q2 := hS9.2; go_simp; try with_reducible rfl
  try simp only [Act.put, List.setIfInBounds_toArray, List.set_cons_zero, List.set_cons_succ]
  refine tk (i := 1) (oi := { dst := some 176, op := .load 34 (.tmp 13), type := 34, pos := "law.go:100", after := #[⟨12, .gcOnly .lateStores⟩], guard := none }) (v := ?_) ?_ hS ?_
  rotate_left
  · intro w9 hS9; have q1 := hS9.1; have q2 := hS9.2; go_simp; try with_reducible rfl
  try simp only [Act.put, List.setIfInBounds_toArray, List.set_cons_zero, List.set_cons_succ]
  refine tk (i := 2) (oi := { dst := some 177, op := .move (.tmp 11), type := 3, pos := "law.go:100", after := #[⟨13, .gcOnly .lateStores⟩], guard := none }) (v := ?_) ?_ hS ?_
  rotate_left
  · intro w9 hS9; have q1 := hS9.1; have q2 := hS9.2; go_simp; try with_reducible rfl
  try simp only [Act.put, List.setIfInBounds_toArray, List.set_cons_zero, List.set_cons_succ]
  refine tk (i := 3) (oi := { dst := some 178, op := .binOp .eql 3 (.tmp 177) (.const (.int .i64 0)) 3, type := 4, pos := "law.go:100", after := #[⟨2, .data⟩, ⟨13, .gcOnly .lateStores⟩], guard := none }) (v := ?_) ?_ hS ?_
  rotate_left
  · intro w9 hS9; have q1 := hS9.1; have q2 := hS9.2; go_simp; try with_reducible rfl
  try simp only [Act.put, List.setIfInBounds_toArray, List.set_cons_zero, List.set_cons_succ]
  refine tk (i := 4) (oi := { dst := some 179, op := .move (.tmp 10), type := 63, pos := "law.go:100", after := #[], guard := none }) (v := ?_) ?_ hS ?_
  rotate_left
  · intro w9 hS9; have q1 := hS9.1; have q2 := hS9.2; go_simp; try with_reducible rfl
  try simp only [Act.put, List.setIfInBounds_toArray, List.set_cons_zero, List.set_cons_succ]
  refine tk (i := 5) (oi := { dst := some 180, op := .move (.tmp 11), type := 3, pos := "law.go:100", after := #[], guard := none }) (v := ?_) ?_ hS ?_
  rotate_left
  · intro w9 hS9; have q1 := hS9.1; have q2 := hS9.2; go_simp; try with_reducible rfl
  try simp only [Act.put, List.setIfInBounds_toArray, List.set_cons_zero, List.set_cons_succ]
  refine tk (i := 6) (oi := { dst := some 181, op := .binOp .eql 3 (.tmp 179) (.tmp 180) 3, type := 4, pos := "law.go:100", after := #[⟨4, .data⟩, ⟨5, .data⟩], guard := none }) (v := ?_) ?_ hS ?_
  rotate_left
  · intro w9 hS9; have q1 := hS9.1; have q2 := hS9.2; go_simp; try with_reducible rfl
  try simp only [Act.put, List.setIfInBounds_toArray, List.set_cons_zero, List.set_cons_succ]
  refine tk (i := 7) (oi := { dst := some 182, op := .move (.tmp 181), type := 4, pos := "law.go:100", after := #[⟨6, .data⟩], guard := none }) (v := ?_) ?_ hS ?_
  rotate_left
  · intro w9 hS9; have q1 := hS9.1; have q2 := hS9.2; go_simp; try with_reducible rfl
  try simp only [Act.put, List.setIfInBounds_toArray, List.set_cons_zero, List.set_cons_succ]
  refine tk (i := 8) (oi := { dst := some 183, op := .load 53 (.tmp 12), type := 53, pos := "law.go:100", after := #[⟨7, .guard⟩], guard := some (7, true) }) (v := ?_) ?_ hS ?_
  rotate_left
  · intro w9 hS9; have q1 := hS9.1; have q2 := hS9.2; go_simp; try with_reducible rfl
  try simp only [Act.put, List.setIfInBounds_toArray, List.set_cons_zero, List.set_cons_succ]
  refine tk (i := 9) (oi := { dst := some 184, op := .load 34 (.tmp 13), type := 34, pos := "law.go:100", after := #[⟨7, .guard⟩], guard := some (7, true) }) (v := ?_) ?_ hS ?_
  rotate_left
  · intro w9 hS9; have q1 := hS9.1; have q2 := hS9.2; go_simp; try with_reducible rfl
  try simp only [Act.put, List.setIfInBounds_toArray, List.set_cons_zero, List.set_cons_succ]
  refine wpAnyH_ready (rs := [10]) (by kernel_rfl) (by simp) ?_
  refine AllReadyH.cons (o := { dst := some 185, op := .call { callee := .value (.func 9), args := #[.tmp 183, .tmp 184], argTypes := #[53, 34] }, type := 4, pos := "law.go:100", after := #[⟨8, .data⟩, ⟨9, .data⟩, ⟨7, .chain⟩, ⟨7, .guard⟩], guard := some (7, true) }) rfl (fun K9 hK9 => ?_) AllReadyH.nil
  go_simp
  refine (same19_any q hb hn V9.drew _ _ hT0.b hT0.n (fun b hb => by have h5 := hT0.hc; omega) (fun b hb => by rcases hb with hb | hb; (have := HS.out b hb; have := hP0.z; omega); exact hb.2) HSM.out).mono ?_
  rintro e w5 ⟨rfl, hb5⟩
  have hP5 := hP0.step hb5
  have hT5 := hT0.step HS.out (by have := hP0.z; omega) hb5
  have hS5 : (loadA (.pointer (some ⟨w.heap.size + 1 + 1 + 1 + 1 + 1, 0, none⟩))).run Tryz.prog w5 = .ok (.agg (aC q hb)) w5 ∧ (loadD (.pointer (some ⟨w.heap.size + 1 + 1 + 1 + 1 + 1 + 1, 0, none⟩))).run Tryz.prog w5 = .ok (.agg (aC q hn)) w5 := ⟨lda_of hP5.b5 rfl, ldaD_of hP5.b6 rfl⟩
  refine hK9.out _ _ hS5 (fun hS => ?_)
  clear hK9 K9
  try simp only [Act.put, List.setIfInBounds_toArray, List.set_cons_zero, List.set_cons_succ]
  refine tk (i := 11) (oi := { dst := some 186, op := .pick (.tmp 182) (.tmp 185) (.const (.bool false)), type := 4, pos := "law.go:100", after := #[⟨7, .data⟩, ⟨10, .data⟩, ⟨14, .gcOnly .lateStores⟩], guard := none }) (v := ?_) ?_ hS ?_
  rotate_left
  · intro w9 hS9; have q1 := hS9.1; have q2 := hS9.2; go_simp; try with_reducible rfl
  try simp only [Act.put, List.setIfInBounds_toArray, List.set_cons_zero, List.set_cons_succ]
  refine wpAnyH_ready (rs := [12]) (by kernel_rfl) (by simp) ?_
  refine AllReadyH.cons (o := { dst := none, op := .store 53 (.tmp 6) (.tmp 175), type := 0, pos := "law.go:100", after := #[⟨0, .data⟩, ⟨10, .chain⟩, ⟨0, .phase⟩, ⟨1, .textOnly .lateStores⟩, ⟨2, .textOnly .lateStores⟩, ⟨3, .textOnly .lateStores⟩, ⟨4, .textOnly .lateStores⟩, ⟨5, .textOnly .lateStores⟩, ⟨6, .textOnly .lateStores⟩, ⟨7, .textOnly .lateStores⟩, ⟨8, .textOnly .lateStores⟩, ⟨9, .textOnly .lateStores⟩, ⟨10, .textOnly .lateStoresUnsure⟩, ⟨11, .textOnly .lateStores⟩], guard := none }) rfl (fun K9 hK9 => ?_) AllReadyH.nil
  have hst6 := sta_of hP5.b3 (cs := (aC q hb)) rfl rfl (aC_one _ _)
  have hP6 := hP5.row3 (aC q hb)
  have hT6 := hT5.row HS.out (g := w.heap.size + 1 + 1 + 1) (by omega) (by omega) (by omega) (aC q hb)
  have hS6 := And.intro (lda_of hP6.b5 rfl) (ldaD_of hP6.b6 rfl)
  go_simp
  refine hK9.out _ _ hS6 (fun hS => ?_)
  clear hK9 K9
  try simp only [Act.put, List.setIfInBounds_toArray, List.set_cons_zero, List.set_cons_succ]
  refine wpAnyH_ready (rs := [13]) (by kernel_rfl) (by simp) ?_
  refine AllReadyH.cons (o := { dst := none, op := .store 34 (.tmp 7) (.tmp 176), type := 0, pos := "law.go:100", after := #[⟨1, .data⟩, ⟨12, .chain⟩, ⟨0, .phase⟩, ⟨1, .phase⟩, ⟨2, .textOnly .lateStores⟩, ⟨3, .textOnly .lateStores⟩, ⟨4, .textOnly .lateStores⟩, ⟨5, .textOnly .lateStores⟩, ⟨6, .textOnly .lateStores⟩, ⟨7, .textOnly .lateStores⟩, ⟨8, .textOnly .lateStores⟩, ⟨9, .textOnly .lateStores⟩, ⟨10, .textOnly .lateStoresUnsure⟩, ⟨11, .textOnly .lateStores⟩, ⟨12, .phase⟩], guard := none }) rfl (fun K9 hK9 => ?_) AllReadyH.nil
  have hst7 := std_of hP6.b4 (cs := (aC q hn)) rfl rfl (aC_one _ _)
  have hP7 := hP6.row4 (aC q hn)
  have hT7 := hT6.row HS.out (g := w.heap.size + 1 + 1 + 1 + 1) (by omega) (by omega) (by omega) (aC q hn)
  have hS7 := And.intro (lda_of hP7.b5 rfl) (ldaD_of hP7.b6 rfl)
  go_simp
  refine hK9.out _ _ hS7 (fun hS => ?_)
  clear hK9 K9
  try simp only [Act.put, List.setIfInBounds_toArray, List.set_cons_zero, List.set_cons_succ]
  refine tk (i := 14) (oi := { dst := some 8, op := .assign (.tmp 178), type := 4, pos := "law.go:100", after := #[⟨3, .data⟩, ⟨13, .chain⟩, ⟨0, .phase⟩, ⟨1, .phase⟩, ⟨2, .phase⟩, ⟨3, .phase⟩, ⟨4, .textOnly .lateStores⟩, ⟨5, .textOnly .lateStores⟩, ⟨6, .textOnly .lateStores⟩, ⟨7, .textOnly .lateStores⟩, ⟨8, .textOnly .lateStores⟩, ⟨9, .textOnly .lateStores⟩, ⟨10, .textOnly .lateStoresUnsure⟩, ⟨11, .textOnly .lateStores⟩, ⟨12, .phase⟩, ⟨13, .phase⟩], guard := none }) (v := ?_) ?_ hS ?_
  rotate_left
  · intro w9 hS9; have q1 := hS9.1; have q2 := hS9.2; go_simp; try with_reducible rfl
  try simp only [Act.put, List.setIfInBounds_toArray, List.set_cons_zero, List.set_cons_succ]
  refine tk (i := 15) (oi := { dst := some 9, op := .assign (.tmp 186), type := 4, pos := "law.go:100", after := #[⟨11, .data⟩, ⟨14, .chain⟩, ⟨0, .phase⟩, ⟨1, .phase⟩, ⟨2, .phase⟩, ⟨3, .phase⟩, ⟨4, .phase⟩, ⟨5, .phase⟩, ⟨6, .phase⟩, ⟨7, .phase⟩, ⟨8, .phase⟩, ⟨9, .phase⟩, ⟨10, .phase⟩, ⟨11, .phase⟩, ⟨12, .phase⟩, ⟨13, .phase⟩, ⟨14, .phase⟩], guard := none }) (v := ?_) ?_ hS ?_
  rotate_left
  · intro w9 hS9; have q1 := hS9.1; have q2 := hS9.2; go_simp; try with_reducible rfl
  try simp only [Act.put, List.setIfInBounds_toArray, List.set_cons_zero, List.set_cons_succ]
  refine wpAnyH_done (by kernel_rfl) ?_ _
  go_wp2
  refine ret_pl Tryz.results8 hP7.b3 rfl hP7.b4 rfl rfl rfl rfl rfl rfl ?_
  obtain ⟨g1, g2, g3⟩ := hT7.heads HSM.out
  exact ⟨q, hb, hn, c1, _, by omega, rfl, HSM.out, hT7.bw.more (by omega), g1, g2, g3, hT7.hc, hT7.n.mono fun b hb => by rcases hb with hb | hb; exact .inl hb; exact .inr ⟨by omega, hb⟩, hP7.B⟩
set_option maxRecDepth 100000 in
set_option maxHeartbeats 8000000 in
theorem play_1 (a : Ar) (h hm : AH) (x : ActM) (w : World) (S : Nat → Prop) (ha : AS w (fun b => b < w.heap.size) a h) (hm0 : AS w S a hm) (hS : ∀ b, S b → b < w.heap.size) (hs : a.small 1000) (ho : x.ok) :
    Calls Tryz.prog 8 #[.agg #[.string a.agent, .string a.off, .bool a.open_, .string a.base.loc, .string a.base.off, .slice h.b.an h.b.nn h.b.cn, .slice h.b.ag h.b.ng h.b.cg, .slice h.b.ap h.b.np h.b.cp, .int .i64 a.base.tik.kind, .int .i64 a.base.tik.day, .int .i64 a.base.tik.min, .string a.base.rc, .slice h.b.ar h.b.nr h.b.cr, .slice h.b.ae h.b.ne h.b.ce, .bool a.base.queued, .int .u64 a.ver, .slice h.ad h.nd h.cd, .slice h.al h.nl h.cl, .bool a.working, .int .i64 a.queue], .agg #[.string a.agent, .string a.off, .bool a.open_, .string a.base.loc, .string a.base.off, .slice hm.b.an hm.b.nn hm.b.cn, .slice hm.b.ag hm.b.ng hm.b.cg, .slice hm.b.ap hm.b.np hm.b.cp, .int .i64 a.base.tik.kind, .int .i64 a.base.tik.day, .int .i64 a.base.tik.min, .string a.base.rc, .slice hm.b.ar hm.b.nr hm.b.cr, .slice hm.b.ae hm.b.ne hm.b.ce, .bool a.base.queued, .int .u64 a.ver, .slice hm.ad hm.nd hm.cd, .slice hm.al hm.nl hm.cl, .bool a.working, .int .i64 a.queue], .agg #[.int .i64 1, .int .i64 x.n, .string x.text, .string x.off, .int .i64 x.ed.kind, .string x.ed.nam.last, .string x.ed.nam.first, .string x.ed.seg.car, .int .i64 x.ed.seg.num, .int .i64 x.ed.seg.day, .int .u8 x.ed.seg.cls, .bool x.ed.seg.live, .int .i64 x.ed.tik.kind, .int .i64 x.ed.tik.day, .int .i64 x.ed.tik.min, .string x.ed.text, .int .i64 x.ed.n, .int .i64 x.ed.pax, .int .i64 x.ed.row, .int .u8 x.ed.let_, .string x.p.loc, .string x.p.off, .slice x.h.an x.h.nn x.h.cn, .slice x.h.ag x.h.ng x.h.cg, .slice x.h.ap x.h.np x.h.cp, .int .i64 x.p.tik.kind, .int .i64 x.p.tik.day, .int .i64 x.p.tik.min, .string x.p.rc, .slice x.h.ar x.h.nr x.h.cr, .slice x.h.ae x.h.ne x.h.ce, .bool x.p.queued, .int .u64 x.ver, .slice x.al x.nl x.cl]] w (PlayQ w w.heap.size (fun c => w.heap.size ≤ c) S) := by
  have HPG := Lib.hid (fun (W : World) (h1 : AS W (fun b => b < W.heap.size) a h) => (let hz : ∀ b, b < W.heap.size → b < W.heap.size := fun b hb => hb; (signin_any a h x.text x.off W ho.text ho.off : Calls Tryz.prog 14 #[.agg #[.string a.agent, .string a.off, .bool a.open_, .string a.base.loc, .string a.base.off, .slice h.b.an h.b.nn h.b.cn, .slice h.b.ag h.b.ng h.b.cg, .slice h.b.ap h.b.np h.b.cp, .int .i64 a.base.tik.kind, .int .i64 a.base.tik.day, .int .i64 a.base.tik.min, .string a.base.rc, .slice h.b.ar h.b.nr h.b.cr, .slice h.b.ae h.b.ne h.b.ce, .bool a.base.queued, .int .u64 a.ver, .slice h.ad h.nd h.cd, .slice h.al h.nl h.cl, .bool a.working, .int .i64 a.queue], .string x.text, .string x.off] W (RetA W (signinF a x.text x.off)))))
  have HDC := Lib.hid (fun (W : World) (h1 : AS W S a hm) (hz : ∀ b, S b → b < W.heap.size) => ((rsignin_any a hm x.text x.off W ho.text ho.off).mono fun e w9 h9 => RetA.d h9 : Calls Tryz.prog 19 #[.agg #[.string a.agent, .string a.off, .bool a.open_, .string a.base.loc, .string a.base.off, .slice hm.b.an hm.b.nn hm.b.cn, .slice hm.b.ag hm.b.ng hm.b.cg, .slice hm.b.ap hm.b.np hm.b.cp, .int .i64 a.base.tik.kind, .int .i64 a.base.tik.day, .int .i64 a.base.tik.min, .string a.base.rc, .slice hm.b.ar hm.b.nr hm.b.cr, .slice hm.b.ae hm.b.ne hm.b.ce, .bool a.base.queued, .int .u64 a.ver, .slice hm.ad hm.nd hm.cd, .slice hm.al hm.nl hm.cl, .bool a.working, .int .i64 a.queue], .string x.text, .string x.off] W (RetD W S (signinF a x.text x.off))))
  have hsm : (signinF a x.text x.off).1.small 2000 := signin_sm x.text x.off
  have HA := Lib.hid ha
  have HM := Lib.hid hm0
  have HS := Lib.hid hS
  clear ha hm0 hS hs ho
  generalize signinF a x.text x.off = r at HPG HDC hsm
  obtain ⟨q, f⟩ := r
  dsimp only at hsm
  have HSM := Lib.hid hsm
  clear hsm
  have hP := P7.start w (aC a h) (aC a hm) (xC 1 x) aZ aZ aZ aZ
  go_enter Tryz.func8, Tryz.ntmps8
  go_upto_region 5 with fail
  refine wp_world (fun W => P7 w (aC a h) (aC a hm) (xC 1 x) aZ aZ aZ aZ W) hP ?_
  clear hP
  intro V hV
  have la1 := lda_of hV.b0 rfl
  have lm1 := ldaD_of hV.b1 rfl
  have z1 := hV.z
  have x01 := (xC0 hV.b2)
  have x21 := (xC2 hV.b2)
  have x31 := (xC3 hV.b2)
  go_wp2_with fail
  refine (HPG.out _ ((HA.out.below hV.B (fun b hb => hb)).mono fun b hb => by omega)).mono ?_
  rintro en w1 ⟨hb, rfl, ob, hb1⟩
  dsimp only at ob ⊢
  have hP1 := hV.step hb1
  clear la1 lm1 x01 x21 x31
  have hst := sta_of hP1.b5 (cs := (aC q hb)) rfl rfl (aC_one _ _)
  have x01 := (xC0 hP1.b2)
  have hP2 := hP1.row5 (aC q hb)
  have la2 := lda_of hP2.b0 rfl
  have lm2 := ldaD_of hP2.b1 rfl
  have z2 := hP2.z
  have x02 := (xC0 hP2.b2)
  have x22 := (xC2 hP2.b2)
  have x32 := (xC3 hP2.b2)
  have bw1 := (ob.more (B' := V.heap.size) (by omega)).bw
  have ob1 := (ob.more (B' := V.heap.size) (by omega)).as
  go_wp2_with fail
  refine (HDC.out _ (HM.out.below hP2.B HS.out) (fun b hb => by have := HS.out b hb; omega)).mono ?_
  rintro en w3 ⟨hn, rfl, an, hb3⟩
  dsimp only at an ⊢
  have hP3 := hP2.step hb3
  clear la2 lm2 z2 x02 x22 x32
  have hst3 := std_of hP3.b6 (cs := (aC q hn)) rfl rfl (aC_one _ _)
  have hP4 := hP3.row6 (aC q hn)
  have z3 := hP3.z
  have zs : w1.heap.size ≤ w3.heap.size := by have := hb3.size; simpa using this
  have zv := hb1.size
  have zw := hV.B.size
  have bw3 := ((bw1.rowLt (g := w.heap.size + 1 + 1 + 1 + 1 + 1) (by omega) (aC q hb)).step hb3 (by simp)).rowLt (g := w.heap.size + 1 + 1 + 1 + 1 + 1 + 1) (by omega) (aC q hn)
  have ob3 : AS w3 (fun b => V.heap.size ≤ b ∧ b < w1.heap.size) q hb := (ob1.keep fun p hp => cell_setRow_other _ (w.heap.size + 1 + 1 + 1 + 1 + 1) (aC q hb) _ (by omega)).below hb3 (fun b hb => by simpa using hb.2)
  have an3 : AS w3 (fun b => S b ∨ (w1.heap.size ≤ b ∧ b < w3.heap.size)) q hn := an.mono fun b hb => by simpa using hb
  have hT : PT w S V.heap.size w1.heap.size q hb hn (w3.setRow (w.heap.size + 1 + 1 + 1 + 1 + 1 + 1) (aC q hn)) := ⟨bw3, by simpa using zs, ob3.keep fun p hp => cell_setRow_other _ _ _ _ (by omega), (an3.keep fun p hp => cell_setRow_other _ _ _ _ (by rcases hp with hp | hp; (have := HS.out _ hp; omega); omega)).mono fun b hb => by simpa using hb⟩
  have x0e := (xC0 hP3.b2)
  go_upto_region 35 with fail
  refine wp_world (fun W => P7 w (aC a h) (aC a hm) (xC 1 x) aZ aZ (aC q hb) (aC q hn) W ∧ PT w S V.heap.size w1.heap.size q hb hn W) ⟨hP4, hT⟩ ?_
  clear hP1 hP2 hP3 hP4 hT hst3 bw1 bw3 ob1 ob3 an an3 ob hb1 hb3 x0e z3 zs
  generalize w1.heap.size = c1 at zv ⊢
  rintro V9 ⟨hP9, hT9⟩
  have hP0 := hP9.drew
  have hT0 := hT9.drew HS.out (by have := hP9.z; omega)
  have hz9 := hP9.z
  refine wp_region_held_drew (S := fun w' => (loadA (.pointer (some ⟨w.heap.size + 1 + 1 + 1 + 1 + 1, 0, none⟩))).run Tryz.prog w' = .ok (.agg (aC q hb)) w' ∧ (loadD (.pointer (some ⟨w.heap.size + 1 + 1 + 1 + 1 + 1 + 1, 0, none⟩))).run Tryz.prog w' = .ok (.agg (aC q hn)) w') (by kernel_rfl) ⟨lda_of hP0.b5 rfl, ldaD_of hP0.b6 rfl⟩ (fun hS => ?_)
  refine tk (i := 0) (oi := { dst := some 175, op := .load 53 (.tmp 12), type := 53, pos := "law.go:100", after := #[], guard := none }) (v := ?_) ?_ hS ?_
  rotate_left
  · intro w9 hS9; have q1 := hS9.1; have q2 := hS9.2; go_simp; try with_reducible rfl
  try simp only [Act.put, List.setIfInBounds_toArray, List.set_cons_zero, List.set_cons_succ]
  refine tk (i := 1) (oi := { dst := some 176, op := .load 34 (.tmp 13), type := 34, pos := "law.go:100", after := #[⟨12, .gcOnly .lateStores⟩], guard := none }) (v := ?_) ?_ hS ?_
  rotate_left
  · intro w9 hS9; have q1 := hS9.1; have q2 := hS9.2; go_simp; try with_reducible rfl
  try simp only [Act.put, List.setIfInBounds_toArray, List.set_cons_zero, List.set_cons_succ]
  refine tk (i := 2) (oi := { dst := some 177, op := .move (.tmp 11), type := 3, pos := "law.go:100", after := #[⟨13, .gcOnly .lateStores⟩], guard := none }) (v := ?_) ?_ hS ?_
  rotate_left
  · intro w9 hS9; have q1 := hS9.1; have q2 := hS9.2; go_simp; try with_reducible rfl
  try simp only [Act.put, List.setIfInBounds_toArray, List.set_cons_zero, List.set_cons_succ]
  refine tk (i := 3) (oi := { dst := some 178, op := .binOp .eql 3 (.tmp 177) (.const (.int .i64 0)) 3, type := 4, pos := "law.go:100", after := #[⟨2, .data⟩, ⟨13, .gcOnly .lateStores⟩], guard := none }) (v := ?_) ?_ hS ?_
  rotate_left
  · intro w9 hS9; have q1 := hS9.1; have q2 := hS9.2; go_simp; try with_reducible rfl
  try simp only [Act.put, List.setIfInBounds_toArray, List.set_cons_zero, List.set_cons_succ]
  refine tk (i := 4) (oi := { dst := some 179, op := .move (.tmp 10), type := 63, pos := "law.go:100", after := #[], guard := none }) (v := ?_) ?_ hS ?_
  rotate_left
  · intro w9 hS9; have q1 := hS9.1; have q2 := hS9.2; go_simp; try with_reducible rfl
  try simp only [Act.put, List.setIfInBounds_toArray, List.set_cons_zero, List.set_cons_succ]
  refine tk (i := 5) (oi := { dst := some 180, op := .move (.tmp 11), type := 3, pos := "law.go:100", after := #[], guard := none }) (v := ?_) ?_ hS ?_
  rotate_left
  · intro w9 hS9; have q1 := hS9.1; have q2 := hS9.2; go_simp; try with_reducible rfl
  try simp only [Act.put, List.setIfInBounds_toArray, List.set_cons_zero, List.set_cons_succ]
  refine tk (i := 6) (oi := { dst := some 181, op := .binOp .eql 3 (.tmp 179) (.tmp 180) 3, type := 4, pos := "law.go:100", after := #[⟨4, .data⟩, ⟨5, .data⟩], guard := none }) (v := ?_) ?_ hS ?_
  rotate_left
  · intro w9 hS9; have q1 := hS9.1; have q2 := hS9.2; go_simp; try with_reducible rfl
  try simp only [Act.put, List.setIfInBounds_toArray, List.set_cons_zero, List.set_cons_succ]
  refine tk (i := 7) (oi := { dst := some 182, op := .move (.tmp 181), type := 4, pos := "law.go:100", after := #[⟨6, .data⟩], guard := none }) (v := ?_) ?_ hS ?_
  rotate_left
  · intro w9 hS9; have q1 := hS9.1; have q2 := hS9.2; go_simp; try with_reducible rfl
  try simp only [Act.put, List.setIfInBounds_toArray, List.set_cons_zero, List.set_cons_succ]
  refine tk (i := 8) (oi := { dst := some 183, op := .load 53 (.tmp 12), type := 53, pos := "law.go:100", after := #[⟨7, .guard⟩], guard := some (7, true) }) (v := ?_) ?_ hS ?_
  rotate_left
  · intro w9 hS9; have q1 := hS9.1; have q2 := hS9.2; go_simp; try with_reducible rfl
  try simp only [Act.put, List.setIfInBounds_toArray, List.set_cons_zero, List.set_cons_succ]
  refine tk (i := 9) (oi := { dst := some 184, op := .load 34 (.tmp 13), type := 34, pos := "law.go:100", after := #[⟨7, .guard⟩], guard := some (7, true) }) (v := ?_) ?_ hS ?_
  rotate_left
  · intro w9 hS9; have q1 := hS9.1; have q2 := hS9.2; go_simp; try with_reducible rfl
  try simp only [Act.put, List.setIfInBounds_toArray, List.set_cons_zero, List.set_cons_succ]
  refine wpAnyH_ready (rs := [10]) (by kernel_rfl) (by simp) ?_
  refine AllReadyH.cons (o := { dst := some 185, op := .call { callee := .value (.func 9), args := #[.tmp 183, .tmp 184], argTypes := #[53, 34] }, type := 4, pos := "law.go:100", after := #[⟨8, .data⟩, ⟨9, .data⟩, ⟨7, .chain⟩, ⟨7, .guard⟩], guard := some (7, true) }) rfl (fun K9 hK9 => ?_) AllReadyH.nil
  go_simp
  refine (same19_any q hb hn V9.drew _ _ hT0.b hT0.n (fun b hb => by have h5 := hT0.hc; omega) (fun b hb => by rcases hb with hb | hb; (have := HS.out b hb; have := hP0.z; omega); exact hb.2) HSM.out).mono ?_
  rintro e w5 ⟨rfl, hb5⟩
  have hP5 := hP0.step hb5
  have hT5 := hT0.step HS.out (by have := hP0.z; omega) hb5
  have hS5 : (loadA (.pointer (some ⟨w.heap.size + 1 + 1 + 1 + 1 + 1, 0, none⟩))).run Tryz.prog w5 = .ok (.agg (aC q hb)) w5 ∧ (loadD (.pointer (some ⟨w.heap.size + 1 + 1 + 1 + 1 + 1 + 1, 0, none⟩))).run Tryz.prog w5 = .ok (.agg (aC q hn)) w5 := ⟨lda_of hP5.b5 rfl, ldaD_of hP5.b6 rfl⟩
  refine hK9.out _ _ hS5 (fun hS => ?_)
  clear hK9 K9
  try simp only [Act.put, List.setIfInBounds_toArray, List.set_cons_zero, List.set_cons_succ]
  refine tk (i := 11) (oi := { dst := some 186, op := .pick (.tmp 182) (.tmp 185) (.const (.bool false)), type := 4, pos := "law.go:100", after := #[⟨7, .data⟩, ⟨10, .data⟩, ⟨14, .gcOnly .lateStores⟩], guard := none }) (v := ?_) ?_ hS ?_
  rotate_left
  · intro w9 hS9; have q1 := hS9.1; have q2 := hS9.2; go_simp; try with_reducible rfl
  try simp only [Act.put, List.setIfInBounds_toArray, List.set_cons_zero, List.set_cons_succ]
  refine wpAnyH_ready (rs := [12]) (by kernel_rfl) (by simp) ?_
  refine AllReadyH.cons (o := { dst := none, op := .store 53 (.tmp 6) (.tmp 175), type := 0, pos := "law.go:100", after := #[⟨0, .data⟩, ⟨10, .chain⟩, ⟨0, .phase⟩, ⟨1, .textOnly .lateStores⟩, ⟨2, .textOnly .lateStores⟩, ⟨3, .textOnly .lateStores⟩, ⟨4, .textOnly .lateStores⟩, ⟨5, .textOnly .lateStores⟩, ⟨6, .textOnly .lateStores⟩, ⟨7, .textOnly .lateStores⟩, ⟨8, .textOnly .lateStores⟩, ⟨9, .textOnly .lateStores⟩, ⟨10, .textOnly .lateStoresUnsure⟩, ⟨11, .textOnly .lateStores⟩], guard := none }) rfl (fun K9 hK9 => ?_) AllReadyH.nil
  have hst6 := sta_of hP5.b3 (cs := (aC q hb)) rfl rfl (aC_one _ _)
  have hP6 := hP5.row3 (aC q hb)
  have hT6 := hT5.row HS.out (g := w.heap.size + 1 + 1 + 1) (by omega) (by omega) (by omega) (aC q hb)
  have hS6 := And.intro (lda_of hP6.b5 rfl) (ldaD_of hP6.b6 rfl)
  go_simp
  refine hK9.out _ _ hS6 (fun hS => ?_)
  clear hK9 K9
  try simp only [Act.put, List.setIfInBounds_toArray, List.set_cons_zero, List.set_cons_succ]
  refine wpAnyH_ready (rs := [13]) (by kernel_rfl) (by simp) ?_
  refine AllReadyH.cons (o := { dst := none, op := .store 34 (.tmp 7) (.tmp 176), type := 0, pos := "law.go:100", after := #[⟨1, .data⟩, ⟨12, .chain⟩, ⟨0, .phase⟩, ⟨1, .phase⟩, ⟨2, .textOnly .lateStores⟩, ⟨3, .textOnly .lateStores⟩, ⟨4, .textOnly .lateStores⟩, ⟨5, .textOnly .lateStores⟩, ⟨6, .textOnly .lateStores⟩, ⟨7, .textOnly .lateStores⟩, ⟨8, .textOnly .lateStores⟩, ⟨9, .textOnly .lateStores⟩, ⟨10, .textOnly .lateStoresUnsure⟩, ⟨11, .textOnly .lateStores⟩, ⟨12, .phase⟩], guard := none }) rfl (fun K9 hK9 => ?_) AllReadyH.nil
  have hst7 := std_of hP6.b4 (cs := (aC q hn)) rfl rfl (aC_one _ _)
  have hP7 := hP6.row4 (aC q hn)
  have hT7 := hT6.row HS.out (g := w.heap.size + 1 + 1 + 1 + 1) (by omega) (by omega) (by omega) (aC q hn)
  have hS7 := And.intro (lda_of hP7.b5 rfl) (ldaD_of hP7.b6 rfl)
  go_simp
  refine hK9.out _ _ hS7 (fun hS => ?_)
  clear hK9 K9
  try simp only [Act.put, List.setIfInBounds_toArray, List.set_cons_zero, List.set_cons_succ]
  refine tk (i := 14) (oi := { dst := some 8, op := .assign (.tmp 178), type := 4, pos := "law.go:100", after := #[⟨3, .data⟩, ⟨13, .chain⟩, ⟨0, .phase⟩, ⟨1, .phase⟩, ⟨2, .phase⟩, ⟨3, .phase⟩, ⟨4, .textOnly .lateStores⟩, ⟨5, .textOnly .lateStores⟩, ⟨6, .textOnly .lateStores⟩, ⟨7, .textOnly .lateStores⟩, ⟨8, .textOnly .lateStores⟩, ⟨9, .textOnly .lateStores⟩, ⟨10, .textOnly .lateStoresUnsure⟩, ⟨11, .textOnly .lateStores⟩, ⟨12, .phase⟩, ⟨13, .phase⟩], guard := none }) (v := ?_) ?_ hS ?_
  rotate_left
  · intro w9 hS9; have q1 := hS9.1; have q2 := hS9.2; go_simp; try with_reducible rfl
  try simp only [Act.put, List.setIfInBounds_toArray, List.set_cons_zero, List.set_cons_succ]
  refine tk (i := 15) (oi := { dst := some 9, op := .assign (.tmp 186), type := 4, pos := "law.go:100", after := #[⟨11, .data⟩, ⟨14, .chain⟩, ⟨0, .phase⟩, ⟨1, .phase⟩, ⟨2, .phase⟩, ⟨3, .phase⟩, ⟨4, .phase⟩, ⟨5, .phase⟩, ⟨6, .phase⟩, ⟨7, .phase⟩, ⟨8, .phase⟩, ⟨9, .phase⟩, ⟨10, .phase⟩, ⟨11, .phase⟩, ⟨12, .phase⟩, ⟨13, .phase⟩, ⟨14, .phase⟩], guard := none }) (v := ?_) ?_ hS ?_
  rotate_left
  · intro w9 hS9; have q1 := hS9.1; have q2 := hS9.2; go_simp; try with_reducible rfl
  try simp only [Act.put, List.setIfInBounds_toArray, List.set_cons_zero, List.set_cons_succ]
  refine wpAnyH_done (by kernel_rfl) ?_ _
  go_wp2
  refine ret_pl Tryz.results8 hP7.b3 rfl hP7.b4 rfl rfl rfl rfl rfl rfl ?_
  obtain ⟨g1, g2, g3⟩ := hT7.heads HSM.out
  exact ⟨q, hb, hn, c1, _, by omega, rfl, HSM.out, hT7.bw.more (by omega), g1, g2, g3, hT7.hc, hT7.n.mono fun b hb => by rcases hb with hb | hb; exact .inl hb; exact .inr ⟨by omega, hb⟩, hP7.B⟩
set_option maxRecDepth 100000 in
set_option maxHeartbeats 8000000 in
theorem play_2 (a : Ar) (h hm : AH) (x : ActM) (w : World) (S : Nat → Prop) (ha : AS w (fun b => b < w.heap.size) a h) (hm0 : AS w S a hm) (hS : ∀ b, S b → b < w.heap.size) (hs : a.small 1000) (ho : x.ok) :
    Calls Tryz.prog 8 #[.agg #[.string a.agent, .string a.off, .bool a.open_, .string a.base.loc, .string a.base.off, .slice h.b.an h.b.nn h.b.cn, .slice h.b.ag h.b.ng h.b.cg, .slice h.b.ap h.b.np h.b.cp, .int .i64 a.base.tik.kind, .int .i64 a.base.tik.day, .int .i64 a.base.tik.min, .string a.base.rc, .slice h.b.ar h.b.nr h.b.cr, .slice h.b.ae h.b.ne h.b.ce, .bool a.base.queued, .int .u64 a.ver, .slice h.ad h.nd h.cd, .slice h.al h.nl h.cl, .bool a.working, .int .i64 a.queue], .agg #[.string a.agent, .string a.off, .bool a.open_, .string a.base.loc, .string a.base.off, .slice hm.b.an hm.b.nn hm.b.cn, .slice hm.b.ag hm.b.ng hm.b.cg, .slice hm.b.ap hm.b.np hm.b.cp, .int .i64 a.base.tik.kind, .int .i64 a.base.tik.day, .int .i64 a.base.tik.min, .string a.base.rc, .slice hm.b.ar hm.b.nr hm.b.cr, .slice hm.b.ae hm.b.ne hm.b.ce, .bool a.base.queued, .int .u64 a.ver, .slice hm.ad hm.nd hm.cd, .slice hm.al hm.nl hm.cl, .bool a.working, .int .i64 a.queue], .agg #[.int .i64 2, .int .i64 x.n, .string x.text, .string x.off, .int .i64 x.ed.kind, .string x.ed.nam.last, .string x.ed.nam.first, .string x.ed.seg.car, .int .i64 x.ed.seg.num, .int .i64 x.ed.seg.day, .int .u8 x.ed.seg.cls, .bool x.ed.seg.live, .int .i64 x.ed.tik.kind, .int .i64 x.ed.tik.day, .int .i64 x.ed.tik.min, .string x.ed.text, .int .i64 x.ed.n, .int .i64 x.ed.pax, .int .i64 x.ed.row, .int .u8 x.ed.let_, .string x.p.loc, .string x.p.off, .slice x.h.an x.h.nn x.h.cn, .slice x.h.ag x.h.ng x.h.cg, .slice x.h.ap x.h.np x.h.cp, .int .i64 x.p.tik.kind, .int .i64 x.p.tik.day, .int .i64 x.p.tik.min, .string x.p.rc, .slice x.h.ar x.h.nr x.h.cr, .slice x.h.ae x.h.ne x.h.ce, .bool x.p.queued, .int .u64 x.ver, .slice x.al x.nl x.cl]] w (PlayQ w w.heap.size (fun c => w.heap.size ≤ c) S) := by
  have HPG := Lib.hid (fun (W : World) (h1 : AS W (fun b => b < W.heap.size) a h) => (let hz : ∀ b, b < W.heap.size → b < W.heap.size := fun b hb => hb; (signout_any a h W _ h1 hz hs : Calls Tryz.prog 16 #[.agg #[.string a.agent, .string a.off, .bool a.open_, .string a.base.loc, .string a.base.off, .slice h.b.an h.b.nn h.b.cn, .slice h.b.ag h.b.ng h.b.cg, .slice h.b.ap h.b.np h.b.cp, .int .i64 a.base.tik.kind, .int .i64 a.base.tik.day, .int .i64 a.base.tik.min, .string a.base.rc, .slice h.b.ar h.b.nr h.b.cr, .slice h.b.ae h.b.ne h.b.ce, .bool a.base.queued, .int .u64 a.ver, .slice h.ad h.nd h.cd, .slice h.al h.nl h.cl, .bool a.working, .int .i64 a.queue]] W (RetA W (((ar0, (idleF a).2) : Ar × Int))))))
  have HDC := Lib.hid (fun (W : World) (h1 : AS W S a hm) (hz : ∀ b, S b → b < W.heap.size) => (rsignout_any a hm W S h1 hz : Calls Tryz.prog 20 #[.agg #[.string a.agent, .string a.off, .bool a.open_, .string a.base.loc, .string a.base.off, .slice hm.b.an hm.b.nn hm.b.cn, .slice hm.b.ag hm.b.ng hm.b.cg, .slice hm.b.ap hm.b.np hm.b.cp, .int .i64 a.base.tik.kind, .int .i64 a.base.tik.day, .int .i64 a.base.tik.min, .string a.base.rc, .slice hm.b.ar hm.b.nr hm.b.cr, .slice hm.b.ae hm.b.ne hm.b.ce, .bool a.base.queued, .int .u64 a.ver, .slice hm.ad hm.nd hm.cd, .slice hm.al hm.nl hm.cl, .bool a.working, .int .i64 a.queue]] W (RetD W S (((ar0, (idleF a).2) : Ar × Int)))))
  have hsm : (((ar0, (idleF a).2) : Ar × Int)).1.small 2000 := ar0_small.mono (by omega)
  have HA := Lib.hid ha
  have HM := Lib.hid hm0
  have HS := Lib.hid hS
  clear ha hm0 hS hs ho
  generalize ((ar0, (idleF a).2) : Ar × Int) = r at HPG HDC hsm
  obtain ⟨q, f⟩ := r
  dsimp only at hsm
  have HSM := Lib.hid hsm
  clear hsm
  have hP := P7.start w (aC a h) (aC a hm) (xC 2 x) aZ aZ aZ aZ
  go_enter Tryz.func8, Tryz.ntmps8
  go_upto_region 5 with fail
  refine wp_world (fun W => P7 w (aC a h) (aC a hm) (xC 2 x) aZ aZ aZ aZ W) hP ?_
  clear hP
  intro V hV
  have la1 := lda_of hV.b0 rfl
  have lm1 := ldaD_of hV.b1 rfl
  have z1 := hV.z
  have x01 := (xC0 hV.b2)
  go_wp2_with fail
  refine (HPG.out _ ((HA.out.below hV.B (fun b hb => hb)).mono fun b hb => by omega)).mono ?_
  rintro en w1 ⟨hb, rfl, ob, hb1⟩
  dsimp only at ob ⊢
  have hP1 := hV.step hb1
  clear la1 lm1 x01
  have hst := sta_of hP1.b5 (cs := (aC q hb)) rfl rfl (aC_one _ _)
  have x01 := (xC0 hP1.b2)
  have hP2 := hP1.row5 (aC q hb)
  have la2 := lda_of hP2.b0 rfl
  have lm2 := ldaD_of hP2.b1 rfl
  have z2 := hP2.z
  have x02 := (xC0 hP2.b2)
  have bw1 := (ob.more (B' := V.heap.size) (by omega)).bw
  have ob1 := (ob.more (B' := V.heap.size) (by omega)).as
  go_wp2_with fail
  refine (HDC.out _ (HM.out.below hP2.B HS.out) (fun b hb => by have := HS.out b hb; omega)).mono ?_
  rintro en w3 ⟨hn, rfl, an, hb3⟩
  dsimp only at an ⊢
  have hP3 := hP2.step hb3
  clear la2 lm2 z2 x02
  have hst3 := std_of hP3.b6 (cs := (aC q hn)) rfl rfl (aC_one _ _)
  have hP4 := hP3.row6 (aC q hn)
  have z3 := hP3.z
  have zs : w1.heap.size ≤ w3.heap.size := by have := hb3.size; simpa using this
  have zv := hb1.size
  have zw := hV.B.size
  have bw3 := ((bw1.rowLt (g := w.heap.size + 1 + 1 + 1 + 1 + 1) (by omega) (aC q hb)).step hb3 (by simp)).rowLt (g := w.heap.size + 1 + 1 + 1 + 1 + 1 + 1) (by omega) (aC q hn)
  have ob3 : AS w3 (fun b => V.heap.size ≤ b ∧ b < w1.heap.size) q hb := (ob1.keep fun p hp => cell_setRow_other _ (w.heap.size + 1 + 1 + 1 + 1 + 1) (aC q hb) _ (by omega)).below hb3 (fun b hb => by simpa using hb.2)
  have an3 : AS w3 (fun b => S b ∨ (w1.heap.size ≤ b ∧ b < w3.heap.size)) q hn := an.mono fun b hb => by simpa using hb
  have hT : PT w S V.heap.size w1.heap.size q hb hn (w3.setRow (w.heap.size + 1 + 1 + 1 + 1 + 1 + 1) (aC q hn)) := ⟨bw3, by simpa using zs, ob3.keep fun p hp => cell_setRow_other _ _ _ _ (by omega), (an3.keep fun p hp => cell_setRow_other _ _ _ _ (by rcases hp with hp | hp; (have := HS.out _ hp; omega); omega)).mono fun b hb => by simpa using hb⟩
  have x0e := (xC0 hP3.b2)
  go_upto_region 35 with fail
  refine wp_world (fun W => P7 w (aC a h) (aC a hm) (xC 2 x) aZ aZ (aC q hb) (aC q hn) W ∧ PT w S V.heap.size w1.heap.size q hb hn W) ⟨hP4, hT⟩ ?_
  clear hP1 hP2 hP3 hP4 hT hst3 bw1 bw3 ob1 ob3 an an3 ob hb1 hb3 x0e z3 zs
  generalize w1.heap.size = c1 at zv ⊢
  rintro V9 ⟨hP9, hT9⟩
  have hP0 := hP9.drew
  have hT0 := hT9.drew HS.out (by have := hP9.z; omega)
  have hz9 := hP9.z
  refine wp_region_held_drew (S := fun w' => (loadA (.pointer (some ⟨w.heap.size + 1 + 1 + 1 + 1 + 1, 0, none⟩))).run Tryz.prog w' = .ok (.agg (aC q hb)) w' ∧ (loadD (.pointer (some ⟨w.heap.size + 1 + 1 + 1 + 1 + 1 + 1, 0, none⟩))).run Tryz.prog w' = .ok (.agg (aC q hn)) w') (by kernel_rfl) ⟨lda_of hP0.b5 rfl, ldaD_of hP0.b6 rfl⟩ (fun hS => ?_)
  refine tk (i := 0) (oi := { dst := some 175, op := .load 53 (.tmp 12), type := 53, pos := "law.go:100", after := #[], guard := none }) (v := ?_) ?_ hS ?_
  rotate_left
  · intro w9 hS9; have q1 := hS9.1; have q2 := hS9.2; go_simp; try with_reducible rfl
  try simp only [Act.put, List.setIfInBounds_toArray, List.set_cons_zero, List.set_cons_succ]
  refine tk (i := 1) (oi := { dst := some 176, op := .load 34 (.tmp 13), type := 34, pos := "law.go:100", after := #[⟨12, .gcOnly .lateStores⟩], guard := none }) (v := ?_) ?_ hS ?_
  rotate_left
  · intro w9 hS9; have q1 := hS9.1; have q2 := hS9.2; go_simp; try with_reducible rfl
  try simp only [Act.put, List.setIfInBounds_toArray, List.set_cons_zero, List.set_cons_succ]
  refine tk (i := 2) (oi := { dst := some 177, op := .move (.tmp 11), type := 3, pos := "law.go:100", after := #[⟨13, .gcOnly .lateStores⟩], guard := none }) (v := ?_) ?_ hS ?_
  rotate_left
  · intro w9 hS9; have q1 := hS9.1; have q2 := hS9.2; go_simp; try with_reducible rfl
  try simp only [Act.put, List.setIfInBounds_toArray, List.set_cons_zero, List.set_cons_succ]
  refine tk (i := 3) (oi := { dst := some 178, op := .binOp .eql 3 (.tmp 177) (.const (.int .i64 0)) 3, type := 4, pos := "law.go:100", after := #[⟨2, .data⟩, ⟨13, .gcOnly .lateStores⟩], guard := none }) (v := ?_) ?_ hS ?_
  rotate_left
  · intro w9 hS9; have q1 := hS9.1; have q2 := hS9.2; go_simp; try with_reducible rfl
  try simp only [Act.put, List.setIfInBounds_toArray, List.set_cons_zero, List.set_cons_succ]
  refine tk (i := 4) (oi := { dst := some 179, op := .move (.tmp 10), type := 63, pos := "law.go:100", after := #[], guard := none }) (v := ?_) ?_ hS ?_
  rotate_left
  · intro w9 hS9; have q1 := hS9.1; have q2 := hS9.2; go_simp; try with_reducible rfl
  try simp only [Act.put, List.setIfInBounds_toArray, List.set_cons_zero, List.set_cons_succ]
  refine tk (i := 5) (oi := { dst := some 180, op := .move (.tmp 11), type := 3, pos := "law.go:100", after := #[], guard := none }) (v := ?_) ?_ hS ?_
  rotate_left
  · intro w9 hS9; have q1 := hS9.1; have q2 := hS9.2; go_simp; try with_reducible rfl
  try simp only [Act.put, List.setIfInBounds_toArray, List.set_cons_zero, List.set_cons_succ]
  refine tk (i := 6) (oi := { dst := some 181, op := .binOp .eql 3 (.tmp 179) (.tmp 180) 3, type := 4, pos := "law.go:100", after := #[⟨4, .data⟩, ⟨5, .data⟩], guard := none }) (v := ?_) ?_ hS ?_
  rotate_left
  · intro w9 hS9; have q1 := hS9.1; have q2 := hS9.2; go_simp; try with_reducible rfl
  try simp only [Act.put, List.setIfInBounds_toArray, List.set_cons_zero, List.set_cons_succ]
  refine tk (i := 7) (oi := { dst := some 182, op := .move (.tmp 181), type := 4, pos := "law.go:100", after := #[⟨6, .data⟩], guard := none }) (v := ?_) ?_ hS ?_
  rotate_left
  · intro w9 hS9; have q1 := hS9.1; have q2 := hS9.2; go_simp; try with_reducible rfl
  try simp only [Act.put, List.setIfInBounds_toArray, List.set_cons_zero, List.set_cons_succ]
  refine tk (i := 8) (oi := { dst := some 183, op := .load 53 (.tmp 12), type := 53, pos := "law.go:100", after := #[⟨7, .guard⟩], guard := some (7, true) }) (v := ?_) ?_ hS ?_
  rotate_left
  · intro w9 hS9; have q1 := hS9.1; have q2 := hS9.2; go_simp; try with_reducible rfl
  try simp only [Act.put, List.setIfInBounds_toArray, List.set_cons_zero, List.set_cons_succ]
  refine tk (i := 9) (oi := { dst := some 184, op := .load 34 (.tmp 13), type := 34, pos := "law.go:100", after := #[⟨7, .guard⟩], guard := some (7, true) }) (v := ?_) ?_ hS ?_
  rotate_left
  · intro w9 hS9; have q1 := hS9.1; have q2 := hS9.2; go_simp; try with_reducible rfl
  try simp only [Act.put, List.setIfInBounds_toArray, List.set_cons_zero, List.set_cons_succ]
  refine wpAnyH_ready (rs := [10]) (by kernel_rfl) (by simp) ?_
  refine AllReadyH.cons (o := { dst := some 185, op := .call { callee := .value (.func 9), args := #[.tmp 183, .tmp 184], argTypes := #[53, 34] }, type := 4, pos := "law.go:100", after := #[⟨8, .data⟩, ⟨9, .data⟩, ⟨7, .chain⟩, ⟨7, .guard⟩], guard := some (7, true) }) rfl (fun K9 hK9 => ?_) AllReadyH.nil
  go_simp
  refine (same19_any q hb hn V9.drew _ _ hT0.b hT0.n (fun b hb => by have h5 := hT0.hc; omega) (fun b hb => by rcases hb with hb | hb; (have := HS.out b hb; have := hP0.z; omega); exact hb.2) HSM.out).mono ?_
  rintro e w5 ⟨rfl, hb5⟩
  have hP5 := hP0.step hb5
  have hT5 := hT0.step HS.out (by have := hP0.z; omega) hb5
  have hS5 : (loadA (.pointer (some ⟨w.heap.size + 1 + 1 + 1 + 1 + 1, 0, none⟩))).run Tryz.prog w5 = .ok (.agg (aC q hb)) w5 ∧ (loadD (.pointer (some ⟨w.heap.size + 1 + 1 + 1 + 1 + 1 + 1, 0, none⟩))).run Tryz.prog w5 = .ok (.agg (aC q hn)) w5 := ⟨lda_of hP5.b5 rfl, ldaD_of hP5.b6 rfl⟩
  refine hK9.out _ _ hS5 (fun hS => ?_)
  clear hK9 K9
  try simp only [Act.put, List.setIfInBounds_toArray, List.set_cons_zero, List.set_cons_succ]
  refine tk (i := 11) (oi := { dst := some 186, op := .pick (.tmp 182) (.tmp 185) (.const (.bool false)), type := 4, pos := "law.go:100", after := #[⟨7, .data⟩, ⟨10, .data⟩, ⟨14, .gcOnly .lateStores⟩], guard := none }) (v := ?_) ?_ hS ?_
  rotate_left
  · intro w9 hS9; have q1 := hS9.1; have q2 := hS9.2; go_simp; try with_reducible rfl
  try simp only [Act.put, List.setIfInBounds_toArray, List.set_cons_zero, List.set_cons_succ]
  refine wpAnyH_ready (rs := [12]) (by kernel_rfl) (by simp) ?_
  refine AllReadyH.cons (o := { dst := none, op := .store 53 (.tmp 6) (.tmp 175), type := 0, pos := "law.go:100", after := #[⟨0, .data⟩, ⟨10, .chain⟩, ⟨0, .phase⟩, ⟨1, .textOnly .lateStores⟩, ⟨2, .textOnly .lateStores⟩, ⟨3, .textOnly .lateStores⟩, ⟨4, .textOnly .lateStores⟩, ⟨5, .textOnly .lateStores⟩, ⟨6, .textOnly .lateStores⟩, ⟨7, .textOnly .lateStores⟩, ⟨8, .textOnly .lateStores⟩, ⟨9, .textOnly .lateStores⟩, ⟨10, .textOnly .lateStoresUnsure⟩, ⟨11, .textOnly .lateStores⟩], guard := none }) rfl (fun K9 hK9 => ?_) AllReadyH.nil
  have hst6 := sta_of hP5.b3 (cs := (aC q hb)) rfl rfl (aC_one _ _)
  have hP6 := hP5.row3 (aC q hb)
  have hT6 := hT5.row HS.out (g := w.heap.size + 1 + 1 + 1) (by omega) (by omega) (by omega) (aC q hb)
  have hS6 := And.intro (lda_of hP6.b5 rfl) (ldaD_of hP6.b6 rfl)
  go_simp
  refine hK9.out _ _ hS6 (fun hS => ?_)
  clear hK9 K9
  try simp only [Act.put, List.setIfInBounds_toArray, List.set_cons_zero, List.set_cons_succ]
  refine wpAnyH_ready (rs := [13]) (by kernel_rfl) (by simp) ?_
  refine AllReadyH.cons (o := { dst := none, op := .store 34 (.tmp 7) (.tmp 176), type := 0, pos := "law.go:100", after := #[⟨1, .data⟩, ⟨12, .chain⟩, ⟨0, .phase⟩, ⟨1, .phase⟩, ⟨2, .textOnly .lateStores⟩, ⟨3, .textOnly .lateStores⟩, ⟨4, .textOnly .lateStores⟩, ⟨5, .textOnly .lateStores⟩, ⟨6, .textOnly .lateStores⟩, ⟨7, .textOnly .lateStores⟩, ⟨8, .textOnly .lateStores⟩, ⟨9, .textOnly .lateStores⟩, ⟨10, .textOnly .lateStoresUnsure⟩, ⟨11, .textOnly .lateStores⟩, ⟨12, .phase⟩], guard := none }) rfl (fun K9 hK9 => ?_) AllReadyH.nil
  have hst7 := std_of hP6.b4 (cs := (aC q hn)) rfl rfl (aC_one _ _)
  have hP7 := hP6.row4 (aC q hn)
  have hT7 := hT6.row HS.out (g := w.heap.size + 1 + 1 + 1 + 1) (by omega) (by omega) (by omega) (aC q hn)
  have hS7 := And.intro (lda_of hP7.b5 rfl) (ldaD_of hP7.b6 rfl)
  go_simp
  refine hK9.out _ _ hS7 (fun hS => ?_)
  clear hK9 K9
  try simp only [Act.put, List.setIfInBounds_toArray, List.set_cons_zero, List.set_cons_succ]
  refine tk (i := 14) (oi := { dst := some 8, op := .assign (.tmp 178), type := 4, pos := "law.go:100", after := #[⟨3, .data⟩, ⟨13, .chain⟩, ⟨0, .phase⟩, ⟨1, .phase⟩, ⟨2, .phase⟩, ⟨3, .phase⟩, ⟨4, .textOnly .lateStores⟩, ⟨5, .textOnly .lateStores⟩, ⟨6, .textOnly .lateStores⟩, ⟨7, .textOnly .lateStores⟩, ⟨8, .textOnly .lateStores⟩, ⟨9, .textOnly .lateStores⟩, ⟨10, .textOnly .lateStoresUnsure⟩, ⟨11, .textOnly .lateStores⟩, ⟨12, .phase⟩, ⟨13, .phase⟩], guard := none }) (v := ?_) ?_ hS ?_
  rotate_left
  · intro w9 hS9; have q1 := hS9.1; have q2 := hS9.2; go_simp; try with_reducible rfl
  try simp only [Act.put, List.setIfInBounds_toArray, List.set_cons_zero, List.set_cons_succ]
  refine tk (i := 15) (oi := { dst := some 9, op := .assign (.tmp 186), type := 4, pos := "law.go:100", after := #[⟨11, .data⟩, ⟨14, .chain⟩, ⟨0, .phase⟩, ⟨1, .phase⟩, ⟨2, .phase⟩, ⟨3, .phase⟩, ⟨4, .phase⟩, ⟨5, .phase⟩, ⟨6, .phase⟩, ⟨7, .phase⟩, ⟨8, .phase⟩, ⟨9, .phase⟩, ⟨10, .phase⟩, ⟨11, .phase⟩, ⟨12, .phase⟩, ⟨13, .phase⟩, ⟨14, .phase⟩], guard := none }) (v := ?_) ?_ hS ?_
  rotate_left
  · intro w9 hS9; have q1 := hS9.1; have q2 := hS9.2; go_simp; try with_reducible rfl
  try simp only [Act.put, List.setIfInBounds_toArray, List.set_cons_zero, List.set_cons_succ]
  refine wpAnyH_done (by kernel_rfl) ?_ _
  go_wp2
  refine ret_pl Tryz.results8 hP7.b3 rfl hP7.b4 rfl rfl rfl rfl rfl rfl ?_
  obtain ⟨g1, g2, g3⟩ := hT7.heads HSM.out
  exact ⟨q, hb, hn, c1, _, by omega, rfl, HSM.out, hT7.bw.more (by omega), g1, g2, g3, hT7.hc, hT7.n.mono fun b hb => by rcases hb with hb | hb; exact .inl hb; exact .inr ⟨by omega, hb⟩, hP7.B⟩
set_option maxRecDepth 100000 in
set_option maxHeartbeats 8000000 in
theorem play_4 (a : Ar) (h hm : AH) (x : ActM) (w : World) (S : Nat → Prop) (ha : AS w (fun b => b < w.heap.size) a h) (hm0 : AS w S a hm) (hS : ∀ b, S b → b < w.heap.size) (hs : a.small 1000) (ho : x.ok) :
    Calls Tryz.prog 8 #[.agg #[.string a.agent, .string a.off, .bool a.open_, .string a.base.loc, .string a.base.off, .slice h.b.an h.b.nn h.b.cn, .slice h.b.ag h.b.ng h.b.cg, .slice h.b.ap h.b.np h.b.cp, .int .i64 a.base.tik.kind, .int .i64 a.base.tik.day, .int .i64 a.base.tik.min, .string a.base.rc, .slice h.b.ar h.b.nr h.b.cr, .slice h.b.ae h.b.ne h.b.ce, .bool a.base.queued, .int .u64 a.ver, .slice h.ad h.nd h.cd, .slice h.al h.nl h.cl, .bool a.working, .int .i64 a.queue], .agg #[.string a.agent, .string a.off, .bool a.open_, .string a.base.loc, .string a.base.off, .slice hm.b.an hm.b.nn hm.b.cn, .slice hm.b.ag hm.b.ng hm.b.cg, .slice hm.b.ap hm.b.np hm.b.cp, .int .i64 a.base.tik.kind, .int .i64 a.base.tik.day, .int .i64 a.base.tik.min, .string a.base.rc, .slice hm.b.ar hm.b.nr hm.b.cr, .slice hm.b.ae hm.b.ne hm.b.ce, .bool a.base.queued, .int .u64 a.ver, .slice hm.ad hm.nd hm.cd, .slice hm.al hm.nl hm.cl, .bool a.working, .int .i64 a.queue], .agg #[.int .i64 4, .int .i64 x.n, .string x.text, .string x.off, .int .i64 x.ed.kind, .string x.ed.nam.last, .string x.ed.nam.first, .string x.ed.seg.car, .int .i64 x.ed.seg.num, .int .i64 x.ed.seg.day, .int .u8 x.ed.seg.cls, .bool x.ed.seg.live, .int .i64 x.ed.tik.kind, .int .i64 x.ed.tik.day, .int .i64 x.ed.tik.min, .string x.ed.text, .int .i64 x.ed.n, .int .i64 x.ed.pax, .int .i64 x.ed.row, .int .u8 x.ed.let_, .string x.p.loc, .string x.p.off, .slice x.h.an x.h.nn x.h.cn, .slice x.h.ag x.h.ng x.h.cg, .slice x.h.ap x.h.np x.h.cp, .int .i64 x.p.tik.kind, .int .i64 x.p.tik.day, .int .i64 x.p.tik.min, .string x.p.rc, .slice x.h.ar x.h.nr x.h.cr, .slice x.h.ae x.h.ne x.h.ce, .bool x.p.queued, .int .u64 x.ver, .slice x.al x.nl x.cl]] w (PlayQ w w.heap.size (fun c => w.heap.size ≤ c) S) := by
  have HPG := Lib.hid (fun (W : World) (h1 : AS W (fun b => b < W.heap.size) a h) => (let hz : ∀ b, b < W.heap.size → b < W.heap.size := fun b hb => hb; (ignore_any a h W _ h1 hz hs : Calls Tryz.prog 23 #[.agg #[.string a.agent, .string a.off, .bool a.open_, .string a.base.loc, .string a.base.off, .slice h.b.an h.b.nn h.b.cn, .slice h.b.ag h.b.ng h.b.cg, .slice h.b.ap h.b.np h.b.cp, .int .i64 a.base.tik.kind, .int .i64 a.base.tik.day, .int .i64 a.base.tik.min, .string a.base.rc, .slice h.b.ar h.b.nr h.b.cr, .slice h.b.ae h.b.ne h.b.ce, .bool a.base.queued, .int .u64 a.ver, .slice h.ad h.nd h.cd, .slice h.al h.nl h.cl, .bool a.working, .int .i64 a.queue]] W (RetA W (ignoreF a)))))
  have HDC := Lib.hid (fun (W : World) (h1 : AS W S a hm) (hz : ∀ b, S b → b < W.heap.size) => (rignore_any a hm W S h1 hz : Calls Tryz.prog 24 #[.agg #[.string a.agent, .string a.off, .bool a.open_, .string a.base.loc, .string a.base.off, .slice hm.b.an hm.b.nn hm.b.cn, .slice hm.b.ag hm.b.ng hm.b.cg, .slice hm.b.ap hm.b.np hm.b.cp, .int .i64 a.base.tik.kind, .int .i64 a.base.tik.day, .int .i64 a.base.tik.min, .string a.base.rc, .slice hm.b.ar hm.b.nr hm.b.cr, .slice hm.b.ae hm.b.ne hm.b.ce, .bool a.base.queued, .int .u64 a.ver, .slice hm.ad hm.nd hm.cd, .slice hm.al hm.nl hm.cl, .bool a.working, .int .i64 a.queue]] W (RetD W S (ignoreF a))))
  have hsm : (ignoreF a).1.small 2000 := ignore_sm hs
  have HA := Lib.hid ha
  have HM := Lib.hid hm0
  have HS := Lib.hid hS
  clear ha hm0 hS hs ho
  generalize ignoreF a = r at HPG HDC hsm
  obtain ⟨q, f⟩ := r
  dsimp only at hsm
  have HSM := Lib.hid hsm
  clear hsm
  have hP := P7.start w (aC a h) (aC a hm) (xC 4 x) aZ aZ aZ aZ
  go_enter Tryz.func8, Tryz.ntmps8
  go_upto_region 5 with fail
  refine wp_world (fun W => P7 w (aC a h) (aC a hm) (xC 4 x) aZ aZ aZ aZ W) hP ?_
  clear hP
  intro V hV
  have la1 := lda_of hV.b0 rfl
  have lm1 := ldaD_of hV.b1 rfl
  have z1 := hV.z
  have x01 := (xC0 hV.b2)
  go_wp2_with fail
  refine (HPG.out _ ((HA.out.below hV.B (fun b hb => hb)).mono fun b hb => by omega)).mono ?_
  rintro en w1 ⟨hb, rfl, ob, hb1⟩
  dsimp only at ob ⊢
  have hP1 := hV.step hb1
  clear la1 lm1 x01
  have hst := sta_of hP1.b5 (cs := (aC q hb)) rfl rfl (aC_one _ _)
  have x01 := (xC0 hP1.b2)
  have hP2 := hP1.row5 (aC q hb)
  have la2 := lda_of hP2.b0 rfl
  have lm2 := ldaD_of hP2.b1 rfl
  have z2 := hP2.z
  have x02 := (xC0 hP2.b2)
  have bw1 := (ob.more (B' := V.heap.size) (by omega)).bw
  have ob1 := (ob.more (B' := V.heap.size) (by omega)).as
  go_wp2_with fail
  refine (HDC.out _ (HM.out.below hP2.B HS.out) (fun b hb => by have := HS.out b hb; omega)).mono ?_
  rintro en w3 ⟨hn, rfl, an, hb3⟩
  dsimp only at an ⊢
  have hP3 := hP2.step hb3
  clear la2 lm2 z2 x02
  have hst3 := std_of hP3.b6 (cs := (aC q hn)) rfl rfl (aC_one _ _)
  have hP4 := hP3.row6 (aC q hn)
  have z3 := hP3.z
  have zs : w1.heap.size ≤ w3.heap.size := by have := hb3.size; simpa using this
  have zv := hb1.size
  have zw := hV.B.size
  have bw3 := ((bw1.rowLt (g := w.heap.size + 1 + 1 + 1 + 1 + 1) (by omega) (aC q hb)).step hb3 (by simp)).rowLt (g := w.heap.size + 1 + 1 + 1 + 1 + 1 + 1) (by omega) (aC q hn)
  have ob3 : AS w3 (fun b => V.heap.size ≤ b ∧ b < w1.heap.size) q hb := (ob1.keep fun p hp => cell_setRow_other _ (w.heap.size + 1 + 1 + 1 + 1 + 1) (aC q hb) _ (by omega)).below hb3 (fun b hb => by simpa using hb.2)
  have an3 : AS w3 (fun b => S b ∨ (w1.heap.size ≤ b ∧ b < w3.heap.size)) q hn := an.mono fun b hb => by simpa using hb
  have hT : PT w S V.heap.size w1.heap.size q hb hn (w3.setRow (w.heap.size + 1 + 1 + 1 + 1 + 1 + 1) (aC q hn)) := ⟨bw3, by simpa using zs, ob3.keep fun p hp => cell_setRow_other _ _ _ _ (by omega), (an3.keep fun p hp => cell_setRow_other _ _ _ _ (by rcases hp with hp | hp; (have := HS.out _ hp; omega); omega)).mono fun b hb => by simpa using hb⟩
  have x0e := (xC0 hP3.b2)
  go_upto_region 35 with fail
  refine wp_world (fun W => P7 w (aC a h) (aC a hm) (xC 4 x) aZ aZ (aC q hb) (aC q hn) W ∧ PT w S V.heap.size w1.heap.size q hb hn W) ⟨hP4, hT⟩ ?_
  clear hP1 hP2 hP3 hP4 hT hst3 bw1 bw3 ob1 ob3 an an3 ob hb1 hb3 x0e z3 zs
  generalize w1.heap.size = c1 at zv ⊢
  rintro V9 ⟨hP9, hT9⟩
  have hP0 := hP9.drew
  have hT0 := hT9.drew HS.out (by have := hP9.z; omega)
  have hz9 := hP9.z
  refine wp_region_held_drew (S := fun w' => (loadA (.pointer (some ⟨w.heap.size + 1 + 1 + 1 + 1 + 1, 0, none⟩))).run Tryz.prog w' = .ok (.agg (aC q hb)) w' ∧ (loadD (.pointer (some ⟨w.heap.size + 1 + 1 + 1 + 1 + 1 + 1, 0, none⟩))).run Tryz.prog w' = .ok (.agg (aC q hn)) w') (by kernel_rfl) ⟨lda_of hP0.b5 rfl, ldaD_of hP0.b6 rfl⟩ (fun hS => ?_)
  refine tk (i := 0) (oi := { dst := some 175, op := .load 53 (.tmp 12), type := 53, pos := "law.go:100", after := #[], guard := none }) (v := ?_) ?_ hS ?_
  rotate_left
  · intro w9 hS9; have q1 := hS9.1; have q2 := hS9.2; go_simp; try with_reducible rfl
  try simp only [Act.put, List.setIfInBounds_toArray, List.set_cons_zero, List.set_cons_succ]
  refine tk (i := 1) (oi := { dst := some 176, op := .load 34 (.tmp 13), type := 34, pos := "law.go:100", after := #[⟨12, .gcOnly .lateStores⟩], guard := none }) (v := ?_) ?_ hS ?_
  rotate_left
  · intro w9 hS9; have q1 := hS9.1; have q2 := hS9.2; go_simp; try with_reducible rfl
  try simp only [Act.put, List.setIfInBounds_toArray, List.set_cons_zero, List.set_cons_succ]
  refine tk (i := 2) (oi := { dst := some 177, op := .move (.tmp 11), type := 3, pos := "law.go:100", after := #[⟨13, .gcOnly .lateStores⟩], guard := none }) (v := ?_) ?_ hS ?_
  rotate_left
  · intro w9 hS9; have q1 := hS9.1; have q2 := hS9.2; go_simp; try with_reducible rfl
  try simp only [Act.put, List.setIfInBounds_toArray, List.set_cons_zero, List.set_cons_succ]
  refine tk (i := 3) (oi := { dst := some 178, op := .binOp .eql 3 (.tmp 177) (.const (.int .i64 0)) 3, type := 4, pos := "law.go:100", after := #[⟨2, .data⟩, ⟨13, .gcOnly .lateStores⟩], guard := none }) (v := ?_) ?_ hS ?_
  rotate_left
  · intro w9 hS9; have q1 := hS9.1; have q2 := hS9.2; go_simp; try with_reducible rfl
  try simp only [Act.put, List.setIfInBounds_toArray, List.set_cons_zero, List.set_cons_succ]
  refine tk (i := 4) (oi := { dst := some 179, op := .move (.tmp 10), type := 63, pos := "law.go:100", after := #[], guard := none }) (v := ?_) ?_ hS ?_
  rotate_left
  · intro w9 hS9; have q1 := hS9.1; have q2 := hS9.2; go_simp; try with_reducible rfl
  try simp only [Act.put, List.setIfInBounds_toArray, List.set_cons_zero, List.set_cons_succ]
  refine tk (i := 5) (oi := { dst := some 180, op := .move (.tmp 11), type := 3, pos := "law.go:100", after := #[], guard := none }) (v := ?_) ?_ hS ?_
  rotate_left
  · intro w9 hS9; have q1 := hS9.1; have q2 := hS9.2; go_simp; try with_reducible rfl
  try simp only [Act.put, List.setIfInBounds_toArray, List.set_cons_zero, List.set_cons_succ]
  refine tk (i := 6) (oi := { dst := some 181, op := .binOp .eql 3 (.tmp 179) (.tmp 180) 3, type := 4, pos := "law.go:100", after := #[⟨4, .data⟩, ⟨5, .data⟩], guard := none }) (v := ?_) ?_ hS ?_
  rotate_left
  · intro w9 hS9; have q1 := hS9.1; have q2 := hS9.2; go_simp; try with_reducible rfl
  try simp only [Act.put, List.setIfInBounds_toArray, List.set_cons_zero, List.set_cons_succ]
  refine tk (i := 7) (oi := { dst := some 182, op := .move (.tmp 181), type := 4, pos := "law.go:100", after := #[⟨6, .data⟩], guard := none }) (v := ?_) ?_ hS ?_
  rotate_left
  · intro w9 hS9; have q1 := hS9.1; have q2 := hS9.2; go_simp; try with_reducible rfl
  try simp only [Act.put, List.setIfInBounds_toArray, List.set_cons_zero, List.set_cons_succ]
  refine tk (i := 8) (oi := { dst := some 183, op := .load 53 (.tmp 12), type := 53, pos := "law.go:100", after := #[⟨7, .guard⟩], guard := some (7, true) }) (v := ?_) ?_ hS ?_
  rotate_left
  · intro w9 hS9; have q1 := hS9.1; have q2 := hS9.2; go_simp; try with_reducible rfl
  try simp only [Act.put, List.setIfInBounds_toArray, List.set_cons_zero, List.set_cons_succ]
  refine tk (i := 9) (oi := { dst := some 184, op := .load 34 (.tmp 13), type := 34, pos := "law.go:100", after := #[⟨7, .guard⟩], guard := some (7, true) }) (v := ?_) ?_ hS ?_
  rotate_left
  · intro w9 hS9; have q1 := hS9.1; have q2 := hS9.2; go_simp; try with_reducible rfl
  try simp only [Act.put, List.setIfInBounds_toArray, List.set_cons_zero, List.set_cons_succ]
  refine wpAnyH_ready (rs := [10]) (by kernel_rfl) (by simp) ?_
  refine AllReadyH.cons (o := { dst := some 185, op := .call { callee := .value (.func 9), args := #[.tmp 183, .tmp 184], argTypes := #[53, 34] }, type := 4, pos := "law.go:100", after := #[⟨8, .data⟩, ⟨9, .data⟩, ⟨7, .chain⟩, ⟨7, .guard⟩], guard := some (7, true) }) rfl (fun K9 hK9 => ?_) AllReadyH.nil
  go_simp
  refine (same19_any q hb hn V9.drew _ _ hT0.b hT0.n (fun b hb => by have h5 := hT0.hc; omega) (fun b hb => by rcases hb with hb | hb; (have := HS.out b hb; have := hP0.z; omega); exact hb.2) HSM.out).mono ?_
  rintro e w5 ⟨rfl, hb5⟩
  have hP5 := hP0.step hb5
  have hT5 := hT0.step HS.out (by have := hP0.z; omega) hb5
  have hS5 : (loadA (.pointer (some ⟨w.heap.size + 1 + 1 + 1 + 1 + 1, 0, none⟩))).run Tryz.prog w5 = .ok (.agg (aC q hb)) w5 ∧ (loadD (.pointer (some ⟨w.heap.size + 1 + 1 + 1 + 1 + 1 + 1, 0, none⟩))).run Tryz.prog w5 = .ok (.agg (aC q hn)) w5 := ⟨lda_of hP5.b5 rfl, ldaD_of hP5.b6 rfl⟩
  refine hK9.out _ _ hS5 (fun hS => ?_)
  clear hK9 K9
  try simp only [Act.put, List.setIfInBounds_toArray, List.set_cons_zero, List.set_cons_succ]
  refine tk (i := 11) (oi := { dst := some 186, op := .pick (.tmp 182) (.tmp 185) (.const (.bool false)), type := 4, pos := "law.go:100", after := #[⟨7, .data⟩, ⟨10, .data⟩, ⟨14, .gcOnly .lateStores⟩], guard := none }) (v := ?_) ?_ hS ?_
  rotate_left
  · intro w9 hS9; have q1 := hS9.1; have q2 := hS9.2; go_simp; try with_reducible rfl
  try simp only [Act.put, List.setIfInBounds_toArray, List.set_cons_zero, List.set_cons_succ]
  refine wpAnyH_ready (rs := [12]) (by kernel_rfl) (by simp) ?_
  refine AllReadyH.cons (o := { dst := none, op := .store 53 (.tmp 6) (.tmp 175), type := 0, pos := "law.go:100", after := #[⟨0, .data⟩, ⟨10, .chain⟩, ⟨0, .phase⟩, ⟨1, .textOnly .lateStores⟩, ⟨2, .textOnly .lateStores⟩, ⟨3, .textOnly .lateStores⟩, ⟨4, .textOnly .lateStores⟩, ⟨5, .textOnly .lateStores⟩, ⟨6, .textOnly .lateStores⟩, ⟨7, .textOnly .lateStores⟩, ⟨8, .textOnly .lateStores⟩, ⟨9, .textOnly .lateStores⟩, ⟨10, .textOnly .lateStoresUnsure⟩, ⟨11, .textOnly .lateStores⟩], guard := none }) rfl (fun K9 hK9 => ?_) AllReadyH.nil
  have hst6 := sta_of hP5.b3 (cs := (aC q hb)) rfl rfl (aC_one _ _)
  have hP6 := hP5.row3 (aC q hb)
  have hT6 := hT5.row HS.out (g := w.heap.size + 1 + 1 + 1) (by omega) (by omega) (by omega) (aC q hb)
  have hS6 := And.intro (lda_of hP6.b5 rfl) (ldaD_of hP6.b6 rfl)
  go_simp
  refine hK9.out _ _ hS6 (fun hS => ?_)
  clear hK9 K9
  try simp only [Act.put, List.setIfInBounds_toArray, List.set_cons_zero, List.set_cons_succ]
  refine wpAnyH_ready (rs := [13]) (by kernel_rfl) (by simp) ?_
  refine AllReadyH.cons (o := { dst := none, op := .store 34 (.tmp 7) (.tmp 176), type := 0, pos := "law.go:100", after := #[⟨1, .data⟩, ⟨12, .chain⟩, ⟨0, .phase⟩, ⟨1, .phase⟩, ⟨2, .textOnly .lateStores⟩, ⟨3, .textOnly .lateStores⟩, ⟨4, .textOnly .lateStores⟩, ⟨5, .textOnly .lateStores⟩, ⟨6, .textOnly .lateStores⟩, ⟨7, .textOnly .lateStores⟩, ⟨8, .textOnly .lateStores⟩, ⟨9, .textOnly .lateStores⟩, ⟨10, .textOnly .lateStoresUnsure⟩, ⟨11, .textOnly .lateStores⟩, ⟨12, .phase⟩], guard := none }) rfl (fun K9 hK9 => ?_) AllReadyH.nil
  have hst7 := std_of hP6.b4 (cs := (aC q hn)) rfl rfl (aC_one _ _)
  have hP7 := hP6.row4 (aC q hn)
  have hT7 := hT6.row HS.out (g := w.heap.size + 1 + 1 + 1 + 1) (by omega) (by omega) (by omega) (aC q hn)
  have hS7 := And.intro (lda_of hP7.b5 rfl) (ldaD_of hP7.b6 rfl)
  go_simp
  refine hK9.out _ _ hS7 (fun hS => ?_)
  clear hK9 K9
  try simp only [Act.put, List.setIfInBounds_toArray, List.set_cons_zero, List.set_cons_succ]
  refine tk (i := 14) (oi := { dst := some 8, op := .assign (.tmp 178), type := 4, pos := "law.go:100", after := #[⟨3, .data⟩, ⟨13, .chain⟩, ⟨0, .phase⟩, ⟨1, .phase⟩, ⟨2, .phase⟩, ⟨3, .phase⟩, ⟨4, .textOnly .lateStores⟩, ⟨5, .textOnly .lateStores⟩, ⟨6, .textOnly .lateStores⟩, ⟨7, .textOnly .lateStores⟩, ⟨8, .textOnly .lateStores⟩, ⟨9, .textOnly .lateStores⟩, ⟨10, .textOnly .lateStoresUnsure⟩, ⟨11, .textOnly .lateStores⟩, ⟨12, .phase⟩, ⟨13, .phase⟩], guard := none }) (v := ?_) ?_ hS ?_
  rotate_left
  · intro w9 hS9; have q1 := hS9.1; have q2 := hS9.2; go_simp; try with_reducible rfl
  try simp only [Act.put, List.setIfInBounds_toArray, List.set_cons_zero, List.set_cons_succ]
  refine tk (i := 15) (oi := { dst := some 9, op := .assign (.tmp 186), type := 4, pos := "law.go:100", after := #[⟨11, .data⟩, ⟨14, .chain⟩, ⟨0, .phase⟩, ⟨1, .phase⟩, ⟨2, .phase⟩, ⟨3, .phase⟩, ⟨4, .phase⟩, ⟨5, .phase⟩, ⟨6, .phase⟩, ⟨7, .phase⟩, ⟨8, .phase⟩, ⟨9, .phase⟩, ⟨10, .phase⟩, ⟨11, .phase⟩, ⟨12, .phase⟩, ⟨13, .phase⟩, ⟨14, .phase⟩], guard := none }) (v := ?_) ?_ hS ?_
  rotate_left
  · intro w9 hS9; have q1 := hS9.1; have q2 := hS9.2; go_simp; try with_reducible rfl
  try simp only [Act.put, List.setIfInBounds_toArray, List.set_cons_zero, List.set_cons_succ]
  refine wpAnyH_done (by kernel_rfl) ?_ _
  go_wp2
  refine ret_pl Tryz.results8 hP7.b3 rfl hP7.b4 rfl rfl rfl rfl rfl rfl ?_
  obtain ⟨g1, g2, g3⟩ := hT7.heads HSM.out
  exact ⟨q, hb, hn, c1, _, by omega, rfl, HSM.out, hT7.bw.more (by omega), g1, g2, g3, hT7.hc, hT7.n.mono fun b hb => by rcases hb with hb | hb; exact .inl hb; exact .inr ⟨by omega, hb⟩, hP7.B⟩
end Go.Proofs.YtpgeoahlhdifoaaGreatDoor
