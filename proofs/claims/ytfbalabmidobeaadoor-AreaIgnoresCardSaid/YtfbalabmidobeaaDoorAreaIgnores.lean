/- AreaIgnores: the walk. -/
import Derived.Test.YtfbalabmidobeaaDoorArea14
import Derived.Test.YtfbalabmidobeaaDoorMArea11
import Derived.Test.YtfbalabmidobeaaDoorArea10
import Derived.Deep.RegionHeld3
import Derived.Deep.DeepCutAuto
namespace Go.Proofs.YtfbalabmidobeaaDoor
set_option linter.unusedVariables false
open Go Go.RowKit
attribute [local go_sem ↓] loadA_eq storeA_eq
/-- What an edit that was taken leaves. -/
theorem ed_more {a a3 : Ar} {x : Edit} {e3 : Int} (hs : noOne a = false) (h3 : editF a x = (a3, e3)) (h0 : e3 = 0) : a3 = { a with open_ := true, edits := a.edits ++ [x] } := by
  subst h0
  unfold editF at h3
  rw [hs, if_neg (by simp)] at h3
  split at h3
  · have := congrArg Prod.snd h3; simp at this
  · split at h3
    · rename_i h5; exact absurd (congrArg Prod.snd h3) h5
    · exact (congrArg Prod.fst h3).symm
/-- What AreaIgnores' area is while it is edited, and behind Ignore. -/
def igE (was : Ar) (p : Pnr) (es : List Edit) : Ar := { was with open_ := true, ver := 3, base := p, edits := es }
def igC (was : Ar) : Ar := { was with open_ := false, base := pnr0, ver := 0, edits := [] }
theorem AX.call {w W W1 : World} {g : Nat} {K : World → Prop} {a a3 : Ar} {h1 h3 : AH} (hK : AK g K) (H : AX w g K a h1 W) (hb : Below W.heap.size W W1) (o : OA W1 W.heap.size a3 h3) : AX w g K a3 h3 (W1.setRow g #[.string a3.agent, .string a3.off, .bool a3.open_, .string a3.base.loc, .string a3.base.off, .slice h3.b.an h3.b.nn h3.b.cn, .slice h3.b.ag h3.b.ng h3.b.cg, .slice h3.b.ap h3.b.np h3.b.cp, .int .i64 a3.base.tik.kind, .int .i64 a3.base.tik.day, .int .i64 a3.base.tik.min, .string a3.base.rc, .slice h3.b.ar h3.b.nr h3.b.cr, .slice h3.b.ae h3.b.ne h3.b.ce, .bool a3.base.queued, .int .u64 a3.ver, .slice h3.ad h3.nd h3.cd, .slice h3.al h3.nl h3.cl, .bool a3.working, .int .i64 a3.queue]) :=
  (H.step hK hb).put hK (o.as.mono fun b h => ⟨by have := H.lt; omega, h.2⟩)
theorem i0_in (w : World) : Calls Tryd.prog 8 #[.agg #[.string ⟨#[]⟩, .string ⟨#[]⟩, .bool false, .string ⟨#[]⟩, .string ⟨#[]⟩, .slice none 0 0, .slice none 0 0, .slice none 0 0, .int .i64 0, .int .i64 0, .int .i64 0, .string ⟨#[]⟩, .slice none 0 0, .slice none 0 0, .bool false, .int .u64 0, .slice none 0 0, .slice none 0 0, .bool false, .int .i64 0], .string ⟨#[65, 71, 49]⟩, .string ⟨#[76, 79, 78]⟩] w (fun en w' => ∃ (a : Ar) (h1 : AH), en = .returned (.tuple #[.agg #[.string a.agent, .string a.off, .bool a.open_, .string a.base.loc, .string a.base.off, .slice h1.b.an h1.b.nn h1.b.cn, .slice h1.b.ag h1.b.ng h1.b.cg, .slice h1.b.ap h1.b.np h1.b.cp, .int .i64 a.base.tik.kind, .int .i64 a.base.tik.day, .int .i64 a.base.tik.min, .string a.base.rc, .slice h1.b.ar h1.b.nr h1.b.cr, .slice h1.b.ae h1.b.ne h1.b.ce, .bool a.base.queued, .int .u64 a.ver, .slice h1.ad h1.nd h1.cd, .slice h1.al h1.nl h1.cl, .bool a.working, .int .i64 a.queue], .int .i64 0]) ∧ Hid (noOne a = false ∧ a.edits = [] ∧ a.small 1000) ∧ OA w' w.heap.size a h1 ∧ Below w.heap.size w w') :=
  (se_signin w).mono fun en w' ⟨a, h1, e, ha, o, hb⟩ => ⟨a, h1, e, ha, o, hb⟩
theorem i1_list (a : Ar) (h : AH) (l : List Lg) (A : Option Addr) (n c : Nat) (w : World) (hp : AS w (fun b => b < w.heap.size) a h) (hl : SlS w (fun b => b < w.heap.size) tLeg A n c l) (hs : Hid (noOne a = false ∧ a.edits = [] ∧ a.small 1000)) (hn : n ≤ 1000) :
    Calls Tryd.prog 14 #[.agg #[.string a.agent, .string a.off, .bool a.open_, .string a.base.loc, .string a.base.off, .slice h.b.an h.b.nn h.b.cn, .slice h.b.ag h.b.ng h.b.cg, .slice h.b.ap h.b.np h.b.cp, .int .i64 a.base.tik.kind, .int .i64 a.base.tik.day, .int .i64 a.base.tik.min, .string a.base.rc, .slice h.b.ar h.b.nr h.b.cr, .slice h.b.ae h.b.ne h.b.ce, .bool a.base.queued, .int .u64 a.ver, .slice h.ad h.nd h.cd, .slice h.al h.nl h.cl, .bool a.working, .int .i64 a.queue], .slice A n c] w (fun en w' => ∃ (a2 : Ar) (h1 : AH), en = .returned (.tuple #[.agg #[.string a2.agent, .string a2.off, .bool a2.open_, .string a2.base.loc, .string a2.base.off, .slice h1.b.an h1.b.nn h1.b.cn, .slice h1.b.ag h1.b.ng h1.b.cg, .slice h1.b.ap h1.b.np h1.b.cp, .int .i64 a2.base.tik.kind, .int .i64 a2.base.tik.day, .int .i64 a2.base.tik.min, .string a2.base.rc, .slice h1.b.ar h1.b.nr h1.b.cr, .slice h1.b.ae h1.b.ne h1.b.ce, .bool a2.base.queued, .int .u64 a2.ver, .slice h1.ad h1.nd h1.cd, .slice h1.al h1.nl h1.cl, .bool a2.working, .int .i64 a2.queue], .int .i64 0]) ∧ Hid (noOne a2 = false ∧ a2.edits = [] ∧ a2.small 1000) ∧ OA w' w.heap.size a2 h1 ∧ Below w.heap.size w w') := by
  have h := list_any a h l A n c w _ hp hl (fun b h => h) hs.out.2.2 hn
  rw [show listF a l = ({ a with legs := l }, 0) by unfold listF; rw [hs.out.1]; rfl] at h
  exact h.mono fun en w' ⟨h', e, o, hb⟩ => ⟨{ a with legs := l }, h', e, ⟨hs.out.1, hs.out.2.1, ⟨hs.out.2.2.base, hs.out.2.2.edits, by have := hl.len; show l.length ≤ 1000; omega⟩⟩, o, hb⟩
/-- A queue is worked, or not. -/
theorem i2_work (a : Ar) (h : AH) (n : Int) (w : World) (S : Nat → Prop) (hp : AS w S a h) (hS : ∀ b, S b → b < w.heap.size) (hs : Hid (noOne a = false ∧ a.edits = [] ∧ a.small 1000)) :
    Calls Tryd.prog 15 #[.agg #[.string a.agent, .string a.off, .bool a.open_, .string a.base.loc, .string a.base.off, .slice h.b.an h.b.nn h.b.cn, .slice h.b.ag h.b.ng h.b.cg, .slice h.b.ap h.b.np h.b.cp, .int .i64 a.base.tik.kind, .int .i64 a.base.tik.day, .int .i64 a.base.tik.min, .string a.base.rc, .slice h.b.ar h.b.nr h.b.cr, .slice h.b.ae h.b.ne h.b.ce, .bool a.base.queued, .int .u64 a.ver, .slice h.ad h.nd h.cd, .slice h.al h.nl h.cl, .bool a.working, .int .i64 a.queue], .int .i64 n] w (fun en w' => ∃ (a2 : Ar) (e : Int) (h1 : AH), en = .returned (.tuple #[.agg #[.string a2.agent, .string a2.off, .bool a2.open_, .string a2.base.loc, .string a2.base.off, .slice h1.b.an h1.b.nn h1.b.cn, .slice h1.b.ag h1.b.ng h1.b.cg, .slice h1.b.ap h1.b.np h1.b.cp, .int .i64 a2.base.tik.kind, .int .i64 a2.base.tik.day, .int .i64 a2.base.tik.min, .string a2.base.rc, .slice h1.b.ar h1.b.nr h1.b.cr, .slice h1.b.ae h1.b.ne h1.b.ce, .bool a2.base.queued, .int .u64 a2.ver, .slice h1.ad h1.nd h1.cd, .slice h1.al h1.nl h1.cl, .bool a2.working, .int .i64 a2.queue], .int .i64 e]) ∧ Hid (e = 0 → noOne a2 = false ∧ a2.edits = [] ∧ a2.small 1000) ∧ OA w' w.heap.size a2 h1 ∧ Below w.heap.size w w') := by
  have h := work_any a h n w S hp hS hs.out.2.2
  refine h.mono fun en w' ⟨h', e, o, hb⟩ => ⟨_, _, h', e, ?_, o, hb⟩
  show _ → _
  intro h0
  have hi : idleF a = (a, 0) := by unfold idleF; rw [hs.out.1, hs.out.2.1]; rfl
  unfold workF at h0 ⊢
  rw [hi] at h0 ⊢
  by_cases hq : noOne a = false ∧ (n < 0 ∨ 100 ≤ n)
  · rw [if_pos hq] at h0
    cases h0
  · rw [if_neg hq, if_neg (by simp)]
    exact ⟨hs.out.1, hs.out.2.1, ⟨hs.out.2.2.base, hs.out.2.2.edits, hs.out.2.2.legs⟩⟩
theorem i3_load (was : Ar) (h : AH) (p : Pnr) (hp : Hd) (w : World) (S : Nat → Prop) (ha : AS w S was h) (hpp : PS w S p hp) (hS : ∀ b, S b → b < w.heap.size) (hs : Hid (noOne was = false ∧ was.edits = [] ∧ was.small 1000)) (hps : p.small 1000) :
    Calls Tryd.prog 9 #[.agg #[.string was.agent, .string was.off, .bool was.open_, .string was.base.loc, .string was.base.off, .slice h.b.an h.b.nn h.b.cn, .slice h.b.ag h.b.ng h.b.cg, .slice h.b.ap h.b.np h.b.cp, .int .i64 was.base.tik.kind, .int .i64 was.base.tik.day, .int .i64 was.base.tik.min, .string was.base.rc, .slice h.b.ar h.b.nr h.b.cr, .slice h.b.ae h.b.ne h.b.ce, .bool was.base.queued, .int .u64 was.ver, .slice h.ad h.nd h.cd, .slice h.al h.nl h.cl, .bool was.working, .int .i64 was.queue], .agg #[.string p.loc, .string p.off, .slice hp.an hp.nn hp.cn, .slice hp.ag hp.ng hp.cg, .slice hp.ap hp.np hp.cp, .int .i64 p.tik.kind, .int .i64 p.tik.day, .int .i64 p.tik.min, .string p.rc, .slice hp.ar hp.nr hp.cr, .slice hp.ae hp.ne hp.ce, .bool p.queued], .int .u64 3] w (fun en w' => ∃ (a2 : Ar) (h1 : AH), en = .returned (.tuple #[.agg #[.string was.agent, .string was.off, .bool true, .string p.loc, .string p.off, .slice h1.b.an h1.b.nn h1.b.cn, .slice h1.b.ag h1.b.ng h1.b.cg, .slice h1.b.ap h1.b.np h1.b.cp, .int .i64 p.tik.kind, .int .i64 p.tik.day, .int .i64 p.tik.min, .string p.rc, .slice h1.b.ar h1.b.nr h1.b.cr, .slice h1.b.ae h1.b.ne h1.b.ce, .bool p.queued, .int .u64 3, .slice h1.ad h1.nd h1.cd, .slice h1.al h1.nl h1.cl, .bool was.working, .int .i64 was.queue], .int .i64 0]) ∧ a2.open_ = true ∧ Hid (a2 = igE was p []) ∧ OA w' w.heap.size a2 h1 ∧ Below w.heap.size w w') :=
  (load_do was h p hp 3 w S ha hpp hS hs.out.2.2 hps (by unfold okU64; omega) hs.out.1 hs.out.2.1).mono fun en w' ⟨h', e, o, hb⟩ => ⟨{ was with open_ := true, ver := 3, base := p }, h', e, rfl, (by show _ = igE was p []; unfold igE; rw [← hs.out.2.1]), o, hb⟩
theorem i4_ignore (was : Ar) (p : Pnr) (es : List Edit) (a : Ar) (h : AH) (w : World) (S : Nat → Prop) (hp : AS w S a h) (hS : ∀ b, S b → b < w.heap.size) (hs : a.small 1000) (hno : noOne was = false) (ha : a = igE was p es) :
    Calls Tryd.prog 16 #[.agg #[.string a.agent, .string a.off, .bool a.open_, .string a.base.loc, .string a.base.off, .slice h.b.an h.b.nn h.b.cn, .slice h.b.ag h.b.ng h.b.cg, .slice h.b.ap h.b.np h.b.cp, .int .i64 a.base.tik.kind, .int .i64 a.base.tik.day, .int .i64 a.base.tik.min, .string a.base.rc, .slice h.b.ar h.b.nr h.b.cr, .slice h.b.ae h.b.ne h.b.ce, .bool a.base.queued, .int .u64 a.ver, .slice h.ad h.nd h.cd, .slice h.al h.nl h.cl, .bool a.working, .int .i64 a.queue]] w (fun en w' => ∃ h7 : AH, en = .returned (.tuple #[.agg #[.string was.agent, .string was.off, .bool false, .string ⟨#[]⟩, .string ⟨#[]⟩, .slice h7.b.an h7.b.nn h7.b.cn, .slice h7.b.ag h7.b.ng h7.b.cg, .slice h7.b.ap h7.b.np h7.b.cp, .int .i64 0, .int .i64 0, .int .i64 0, .string ⟨#[]⟩, .slice h7.b.ar h7.b.nr h7.b.cr, .slice h7.b.ae h7.b.ne h7.b.ce, .bool false, .int .u64 0, .slice h7.ad 0 h7.cd, .slice h7.al h7.nl h7.cl, .bool was.working, .int .i64 was.queue], .int .i64 0]) ∧ OA w' w.heap.size (igC was) h7 ∧ Below w.heap.size w w') := by
  have h := ignore_any a h w S hp hS hs
  rw [show ignoreF a = (igC was, 0) by subst ha; unfold ignoreF; rw [show noOne (igE was p es) = false from hno]; rfl] at h
  refine h.mono fun en w' ⟨h', e, o, hb⟩ => ⟨h', ?_, o, hb⟩
  have q : h'.nd = 0 := o.edits.sl.len.symm
  rw [e]
  simp only [q]
  rfl
theorem i5_ignore (was : Ar) (h7 : AH) (w : World) (S : Nat → Prop) (hp : AS w S (igC was) h7) (hn : h7.nd = 0) (hS : ∀ b, S b → b < w.heap.size) (hl : was.legs.length ≤ 1000) (hno : noOne was = false) :
    Calls Tryd.prog 16 #[.agg #[.string was.agent, .string was.off, .bool false, .string ⟨#[]⟩, .string ⟨#[]⟩, .slice h7.b.an h7.b.nn h7.b.cn, .slice h7.b.ag h7.b.ng h7.b.cg, .slice h7.b.ap h7.b.np h7.b.cp, .int .i64 0, .int .i64 0, .int .i64 0, .string ⟨#[]⟩, .slice h7.b.ar h7.b.nr h7.b.cr, .slice h7.b.ae h7.b.ne h7.b.ce, .bool false, .int .u64 0, .slice h7.ad 0 h7.cd, .slice h7.al h7.nl h7.cl, .bool was.working, .int .i64 was.queue]] w (E0 w 52) := by
  have h := ignore_any (igC was) h7 w S hp hS ⟨ar0_small.base, by simp [igC], hl⟩
  rw [show ignoreF (igC was) = (ar0, 52) by unfold ignoreF; rw [show noOne (igC was) = false from hno]; rfl] at h
  have e : (Value.agg #[.string was.agent, .string was.off, .bool false, .string ⟨#[]⟩, .string ⟨#[]⟩, .slice h7.b.an h7.b.nn h7.b.cn, .slice h7.b.ag h7.b.ng h7.b.cg, .slice h7.b.ap h7.b.np h7.b.cp, .int .i64 0, .int .i64 0, .int .i64 0, .string ⟨#[]⟩, .slice h7.b.ar h7.b.nr h7.b.cr, .slice h7.b.ae h7.b.ne h7.b.ce, .bool false, .int .u64 0, .slice h7.ad 0 h7.cd, .slice h7.al h7.nl h7.cl, .bool was.working, .int .i64 was.queue]) = .agg #[.string (igC was).agent, .string (igC was).off, .bool (igC was).open_, .string (igC was).base.loc, .string (igC was).base.off, .slice h7.b.an h7.b.nn h7.b.cn, .slice h7.b.ag h7.b.ng h7.b.cg, .slice h7.b.ap h7.b.np h7.b.cp, .int .i64 (igC was).base.tik.kind, .int .i64 (igC was).base.tik.day, .int .i64 (igC was).base.tik.min, .string (igC was).base.rc, .slice h7.b.ar h7.b.nr h7.b.cr, .slice h7.b.ae h7.b.ne h7.b.ce, .bool (igC was).base.queued, .int .u64 (igC was).ver, .slice h7.ad h7.nd h7.cd, .slice h7.al h7.nl h7.cl, .bool (igC was).working, .int .i64 (igC was).queue] := by simp only [hn]; rfl
  rw [e]
  exact h.mono fun en w' h => RetA.e0 rfl h
theorem i6_pnr (was : Ar) (h7 : AH) (w : World) (S : Nat → Prop) (hp : AS w S (igC was) h7) (hn : h7.nd = 0) (hS : ∀ b, S b → b < w.heap.size) (hl : was.legs.length ≤ 1000) :
    Calls Tryd.prog 11 #[.agg #[.string was.agent, .string was.off, .bool false, .string ⟨#[]⟩, .string ⟨#[]⟩, .slice h7.b.an h7.b.nn h7.b.cn, .slice h7.b.ag h7.b.ng h7.b.cg, .slice h7.b.ap h7.b.np h7.b.cp, .int .i64 0, .int .i64 0, .int .i64 0, .string ⟨#[]⟩, .slice h7.b.ar h7.b.nr h7.b.cr, .slice h7.b.ae h7.b.ne h7.b.ce, .bool false, .int .u64 0, .slice h7.ad 0 h7.cd, .slice h7.al h7.nl h7.cl, .bool was.working, .int .i64 was.queue]] w (fun e w' => ∃ h', e = .returned (.agg #[.string pnr0.loc, .string pnr0.off, .slice h'.an h'.nn h'.cn, .slice h'.ag h'.ng h'.cg, .slice h'.ap h'.np h'.cp, .int .i64 pnr0.tik.kind, .int .i64 pnr0.tik.day, .int .i64 pnr0.tik.min, .string pnr0.rc, .slice h'.ar h'.nr h'.cr, .slice h'.ae h'.ne h'.ce, .bool pnr0.queued]) ∧ OP w' w.heap.size pnr0 h' ∧ Below w.heap.size w w') := by
  have h := apnr_any (igC was) h7 w S hp hS ⟨ar0_small.base, by simp [igC], hl⟩ pnr0 rfl
  have e : (Value.agg #[.string was.agent, .string was.off, .bool false, .string ⟨#[]⟩, .string ⟨#[]⟩, .slice h7.b.an h7.b.nn h7.b.cn, .slice h7.b.ag h7.b.ng h7.b.cg, .slice h7.b.ap h7.b.np h7.b.cp, .int .i64 0, .int .i64 0, .int .i64 0, .string ⟨#[]⟩, .slice h7.b.ar h7.b.nr h7.b.cr, .slice h7.b.ae h7.b.ne h7.b.ce, .bool false, .int .u64 0, .slice h7.ad 0 h7.cd, .slice h7.al h7.nl h7.cl, .bool was.working, .int .i64 was.queue]) = .agg #[.string (igC was).agent, .string (igC was).off, .bool (igC was).open_, .string (igC was).base.loc, .string (igC was).base.off, .slice h7.b.an h7.b.nn h7.b.cn, .slice h7.b.ag h7.b.ng h7.b.cg, .slice h7.b.ap h7.b.np h7.b.cp, .int .i64 (igC was).base.tik.kind, .int .i64 (igC was).base.tik.day, .int .i64 (igC was).base.tik.min, .string (igC was).base.rc, .slice h7.b.ar h7.b.nr h7.b.cr, .slice h7.b.ae h7.b.ne h7.b.ce, .bool (igC was).base.queued, .int .u64 (igC was).ver, .slice h7.ad h7.nd h7.cd, .slice h7.al h7.nl h7.cl, .bool (igC was).working, .int .i64 (igC was).queue] := by simp only [hn]; rfl
  rw [e]
  exact h
theorem i7_same (h' : Hd) (w : World) (S : Nat → Prop) (hp : PS w S pnr0 h') (hS : ∀ b, S b → b < w.heap.size) :
    Calls Tryd.prog 10 #[.agg #[.string pnr0.loc, .string pnr0.off, .slice h'.an h'.nn h'.cn, .slice h'.ag h'.ng h'.cg, .slice h'.ap h'.np h'.cp, .int .i64 pnr0.tik.kind, .int .i64 pnr0.tik.day, .int .i64 pnr0.tik.min, .string pnr0.rc, .slice h'.ar h'.nr h'.cr, .slice h'.ae h'.ne h'.ce, .bool pnr0.queued], .agg #[.string ⟨#[]⟩, .string ⟨#[]⟩, .slice none 0 0, .slice none 0 0, .slice none 0 0, .int .i64 0, .int .i64 0, .int .i64 0, .string ⟨#[]⟩, .slice none 0 0, .slice none 0 0, .bool false]] w (RetB w true) :=
  psame pnr0 h' hd0 w S (fun b => w.heap.size ≤ b ∧ b < w.heap.size) hp ((pnr0_op w w.heap.size).ps) hS (fun b h => h.2) (ar0_small.base.mono (by omega))
/-- What stays besides the area: p's box; what the area was. -/
def KI (g g13 : Nat) (w : World) (p : Pnr) (hp : Hd) (was : Ar) (hw : AH) (W : World) : Prop := Bx W w.heap.size #[.string p.loc, .string p.off, .slice hp.an hp.nn hp.cn, .slice hp.ag hp.ng hp.cg, .slice hp.ap hp.np hp.cp, .int .i64 p.tik.kind, .int .i64 p.tik.day, .int .i64 p.tik.min, .string p.rc, .slice hp.ar hp.nr hp.cr, .slice hp.ae hp.ne hp.ce, .bool p.queued] 29 ∧ Bx W g13 #[.string was.agent, .string was.off, .bool was.open_, .string was.base.loc, .string was.base.off, .slice hw.b.an hw.b.nn hw.b.cn, .slice hw.b.ag hw.b.ng hw.b.cg, .slice hw.b.ap hw.b.np hw.b.cp, .int .i64 was.base.tik.kind, .int .i64 was.base.tik.day, .int .i64 was.base.tik.min, .string was.base.rc, .slice hw.b.ar hw.b.nr hw.b.cr, .slice hw.b.ae hw.b.ne hw.b.ce, .bool was.base.queued, .int .u64 was.ver, .slice hw.ad hw.nd hw.cd, .slice hw.al hw.nl hw.cl, .bool was.working, .int .i64 was.queue] 36 ∧ AS W (fun b => b ≠ g ∧ b < W.heap.size) was hw
theorem KI.ak {g g13 : Nat} {w : World} {p : Pnr} {hp : Hd} {was : Ar} {hw : AH} (h1 : w.heap.size < g) (h2 : g < g13) : AK g (KI g g13 w p hp was hw) :=
  ⟨fun hg hk hb => ⟨hk.1.below hb hk.1.lt, hk.2.1.below hb hk.2.1.lt, (hk.2.2.below hb fun b h => h.2).mono fun b h => ⟨h.1, Nat.lt_of_lt_of_le h.2 hb.size⟩⟩,
   fun cs hg hk => ⟨hk.1.rowOther (by omega) _, hk.2.1.rowOther (by omega) _, (hk.2.2.keep fun u hu => cell_setRow_other _ _ _ _ hu.1).mono fun b h => ⟨h.1, by simpa using h.2⟩⟩⟩
theorem OA.boxed {W : World} {B : Nat} {a : Ar} {h : AH} (o : OA W B a h) (zs cs : Array Value) : AS ((W.alloc (.cells zs 36)).setRow W.heap.size cs) (fun b => b < W.heap.size) a h :=
  ((o.as.below ((Below.refl W.heap.size W).alloc (Nat.le_refl _) (.cells zs 36)) fun b h => h.2).keep fun u hu => cell_setRow_other _ _ _ _ (by have := hu.2; omega)).mono fun b h => h.2
/-- The end: what the area was, what it is now. -/
structure IE (w : World) (g13 g17 : Nat) (was : Ar) (hw h7 : AH) (W : World) : Prop where
  B : Below w.heap.size w W
  b13 : Bx W g13 #[.string was.agent, .string was.off, .bool was.open_, .string was.base.loc, .string was.base.off, .slice hw.b.an hw.b.nn hw.b.cn, .slice hw.b.ag hw.b.ng hw.b.cg, .slice hw.b.ap hw.b.np hw.b.cp, .int .i64 was.base.tik.kind, .int .i64 was.base.tik.day, .int .i64 was.base.tik.min, .string was.base.rc, .slice hw.b.ar hw.b.nr hw.b.cr, .slice hw.b.ae hw.b.ne hw.b.ce, .bool was.base.queued, .int .u64 was.ver, .slice hw.ad hw.nd hw.cd, .slice hw.al hw.nl hw.cl, .bool was.working, .int .i64 was.queue] 36
  As : AS W (fun b => b < W.heap.size) was hw
  b17 : Bx W g17 #[.string was.agent, .string was.off, .bool false, .string ⟨#[]⟩, .string ⟨#[]⟩, .slice h7.b.an h7.b.nn h7.b.cn, .slice h7.b.ag h7.b.ng h7.b.cg, .slice h7.b.ap h7.b.np h7.b.cp, .int .i64 0, .int .i64 0, .int .i64 0, .string ⟨#[]⟩, .slice h7.b.ar h7.b.nr h7.b.cr, .slice h7.b.ae h7.b.ne h7.b.ce, .bool false, .int .u64 0, .slice h7.ad 0 h7.cd, .slice h7.al h7.nl h7.cl, .bool was.working, .int .i64 was.queue] 36
  Ai : AS W (fun b => b < W.heap.size) (igC was) h7
theorem IE.step {w W W1 : World} {g13 g17 : Nat} {was : Ar} {hw h7 : AH} (H : IE w g13 g17 was hw h7 W) (hb : Below W.heap.size W W1) : IE w g13 g17 was hw h7 W1 :=
  ⟨H.B.trans (hb.mono H.B.size), H.b13.below hb H.b13.lt, (H.As.below hb fun b h => h).mono fun b h => Nat.lt_of_lt_of_le h hb.size, H.b17.below hb H.b17.lt, (H.Ai.below hb fun b h => h).mono fun b h => Nat.lt_of_lt_of_le h hb.size⟩
theorem KP.ak {g : Nat} {w : World} {cs : Array Value} {t : TypeId} (h1 : w.heap.size < g) : AK g (fun W => Bx W w.heap.size cs t) :=
  ⟨fun hg hk hb => hk.below hb hk.lt, fun cs hg hk => hk.rowOther (by omega) _⟩
set_option maxRecDepth 100000 in
set_option maxHeartbeats 8000000 in
theorem ig_early (p : Pnr) (hp : Hd) (A : Option Addr) (n c : Nat) (al : Option Addr) (nl cl : Nat) (qn : Int) (w : World) (hsb : smallB hp = false ∨ (smallB hp = true ∧ 100 < n) ∨ (smallB hp = true ∧ ¬ 100 < n ∧ 200 < nl)) :
    Calls Tryd.prog 4 #[.agg #[.string p.loc, .string p.off, .slice hp.an hp.nn hp.cn, .slice hp.ag hp.ng hp.cg, .slice hp.ap hp.np hp.cp, .int .i64 p.tik.kind, .int .i64 p.tik.day, .int .i64 p.tik.min, .string p.rc, .slice hp.ar hp.nr hp.cr, .slice hp.ae hp.ne hp.ce, .bool p.queued], .slice A n c, .slice al nl cl, .int .i64 qn] w (RetB w true) := by
  have bx := Bx.new w #[.string p.loc, .string p.off, .slice hp.an hp.nn hp.cn, .slice hp.ag hp.ng hp.cg, .slice hp.ap hp.np hp.cp, .int .i64 p.tik.kind, .int .i64 p.tik.day, .int .i64 p.tik.min, .string p.rc, .slice hp.ar hp.nr hp.cr, .slice hp.ae hp.ne hp.ce, .bool p.queued] 29
  have B0 : Below w.heap.size w (w.alloc (.cells #[.string p.loc, .string p.off, .slice hp.an hp.nn hp.cn, .slice hp.ag hp.ng hp.cg, .slice hp.ap hp.np hp.cp, .int .i64 p.tik.kind, .int .i64 p.tik.day, .int .i64 p.tik.min, .string p.rc, .slice hp.ar hp.nr hp.cr, .slice hp.ae hp.ne hp.ce, .bool p.queued] 29)) := (Below.refl _ _).alloc (Nat.le_refl _) _
  rcases hsb with hsb | ⟨hsb, i1⟩ | ⟨hsb, i1, i2⟩
  all_goals
    try have j1 : (100 : Int) < n := by omega
    try have j1 : ¬ (100 : Int) < n := by omega
    try have j2 : (200 : Int) < nl := by omega
    try clear i2
    try clear i1
    go_enter Tryd.func4, Tryd.ntmps4
    go_wp2_with fail
    refine (awake19_any _).mono ?_
    rintro en w1 ⟨rfl, hb1⟩
    have bx1 := bx.below hb1 bx.lt
    have B1 := B0.trans (hb1.mono B0.size)
    have x1 := bx1.cells
    have z1 := bx1.lt
    go_wp2_with fail
    refine (small_any p hp _).mono ?_
    rintro en w2 ⟨rfl, hb2⟩
    rw [hsb]
    have B2 := B1.trans (hb2.mono B1.size)
    clear x1 hb1 hb2 bx1 B1 bx B0
    go_wp2
    all_goals first | (exfalso; omega) | (go_ret; exact ⟨rfl, B2⟩)
set_option maxRecDepth 100000 in
set_option maxHeartbeats 8000000 in
theorem ig_main (p : Pnr) (hp : Hd) (A : Option Addr) (n c : Nat) (al : Option Addr) (nl cl : Nat) (qn : Int) (w : World) (es : List Edit) (ls : List Lg) (hpp : PAt w 0 w.heap.size p hp) (hc : Caps hp) (hes : Sl w 0 w.heap.size tEdit A n es) (hl : Sl w 0 w.heap.size tLeg al nl ls) (hlc : al = none → cl = 0) (hsb : smallB hp = true) (hn : ¬ 100 < n) (hnl : ¬ 200 < nl) :
    Calls Tryd.prog 4 #[.agg #[.string p.loc, .string p.off, .slice hp.an hp.nn hp.cn, .slice hp.ag hp.ng hp.cg, .slice hp.ap hp.np hp.cp, .int .i64 p.tik.kind, .int .i64 p.tik.day, .int .i64 p.tik.min, .string p.rc, .slice hp.ar hp.nr hp.cr, .slice hp.ae hp.ne hp.ce, .bool p.queued], .slice A n c, .slice al nl cl, .int .i64 qn] w (RetB w true) := by
  have HP := Lib.hid (hpp.ps hc)
  have HSM := Lib.hid ((smallB_pnr hsb hpp).mono (show 200 ≤ 1000 by omega))
  have HES := Lib.hid hes
  have HL := Lib.hid (hl.sls hlc)
  have j1 : ¬ (100 : Int) < n := by omega
  have j2 : ¬ (200 : Int) < nl := by omega
  clear hpp hc hes hl hlc
  have bx := Bx.new w #[.string p.loc, .string p.off, .slice hp.an hp.nn hp.cn, .slice hp.ag hp.ng hp.cg, .slice hp.ap hp.np hp.cp, .int .i64 p.tik.kind, .int .i64 p.tik.day, .int .i64 p.tik.min, .string p.rc, .slice hp.ar hp.nr hp.cr, .slice hp.ae hp.ne hp.ce, .bool p.queued] 29
  have B0 : Below w.heap.size w (w.alloc (.cells #[.string p.loc, .string p.off, .slice hp.an hp.nn hp.cn, .slice hp.ag hp.ng hp.cg, .slice hp.ap hp.np hp.cp, .int .i64 p.tik.kind, .int .i64 p.tik.day, .int .i64 p.tik.min, .string p.rc, .slice hp.ar hp.nr hp.cr, .slice hp.ae hp.ne hp.ce, .bool p.queued] 29)) := (Below.refl _ _).alloc (Nat.le_refl _) _
  go_enter Tryd.func4, Tryd.ntmps4
  go_wp2_with fail
  refine (awake19_any _).mono ?_
  rintro en w1 ⟨rfl, hb1⟩
  have bx1 := bx.below hb1 bx.lt
  have B1 := B0.trans (hb1.mono B0.size)
  have x1 := bx1.cells
  have z1 := bx1.lt
  go_wp2_with fail
  refine (small_any p hp _).mono ?_
  rintro en w2 ⟨rfl, hb2⟩
  rw [hsb]
  have bx2 := bx1.below hb2 z1
  have B2 := B1.trans (hb2.mono B1.size)
  clear x1 hb1 hb2 bx1 B1 bx B0 z1
  go_wp2_with fail
  all_goals try (exfalso; omega)
  refine (i0_in _).mono ?_
  rintro en w3 ⟨a, h1, rfl, HA, o1, hb3⟩
  have bx3 := bx2.below hb3 bx2.lt
  have B3 := B2.trans (hb3.mono B2.size)
  have z3 := bx3.lt
  go_upto_region 6 with (refine store_ra rfl (.tmp 9) (.tmp 38) rfl #[.string a.agent, .string a.off, .bool a.open_, .string a.base.loc, .string a.base.off, .slice h1.b.an h1.b.nn h1.b.cn, .slice h1.b.ag h1.b.ng h1.b.cg, .slice h1.b.ap h1.b.np h1.b.cp, .int .i64 a.base.tik.kind, .int .i64 a.base.tik.day, .int .i64 a.base.tik.min, .string a.base.rc, .slice h1.b.ar h1.b.nr h1.b.cr, .slice h1.b.ae h1.b.ne h1.b.ce, .bool a.base.queued, .int .u64 a.ver, .slice h1.ad h1.nd h1.cd, .slice h1.al h1.nl h1.cl, .bool a.working, .int .i64 a.queue] rfl rfl (Bx.new w3 #[.string ⟨#[]⟩, .string ⟨#[]⟩, .bool false, .string ⟨#[]⟩, .string ⟨#[]⟩, .slice none 0 0, .slice none 0 0, .slice none 0 0, .int .i64 0, .int .i64 0, .int .i64 0, .string ⟨#[]⟩, .slice none 0 0, .slice none 0 0, .bool false, .int .u64 0, .slice none 0 0, .slice none 0 0, .bool false, .int .i64 0] 36) rfl rfl (by simp [Value.oneCell']) ?_)
  have hX0 : AX w w3.heap.size (fun W => Bx W w.heap.size #[.string p.loc, .string p.off, .slice hp.an hp.nn hp.cn, .slice hp.ag hp.ng hp.cg, .slice hp.ap hp.np hp.cp, .int .i64 p.tik.kind, .int .i64 p.tik.day, .int .i64 p.tik.min, .string p.rc, .slice hp.ar hp.nr hp.cr, .slice hp.ae hp.ne hp.ce, .bool p.queued] 29) a h1 _ := AX.start B3 o1 #[.string ⟨#[]⟩, .string ⟨#[]⟩, .bool false, .string ⟨#[]⟩, .string ⟨#[]⟩, .slice none 0 0, .slice none 0 0, .slice none 0 0, .int .i64 0, .int .i64 0, .int .i64 0, .string ⟨#[]⟩, .slice none 0 0, .slice none 0 0, .bool false, .int .u64 0, .slice none 0 0, .slice none 0 0, .bool false, .int .i64 0] ((bx3.alloc _).rowOther (by omega) _)
  refine wp_world (AX w w3.heap.size (fun W => Bx W w.heap.size #[.string p.loc, .string p.off, .slice hp.an hp.nn hp.cn, .slice hp.ag hp.ng hp.cg, .slice hp.ap hp.np hp.cp, .int .i64 p.tik.kind, .int .i64 p.tik.day, .int .i64 p.tik.min, .string p.rc, .slice hp.ar hp.nr hp.cr, .slice hp.ae hp.ne hp.ce, .bool p.queued] 29) a h1) hX0 ?_
  have hK0 : AK w3.heap.size (fun W => Bx W w.heap.size #[.string p.loc, .string p.off, .slice hp.an hp.nn hp.cn, .slice hp.ag hp.ng hp.cg, .slice hp.ap hp.np hp.cp, .int .i64 p.tik.kind, .int .i64 p.tik.day, .int .i64 p.tik.min, .string p.rc, .slice hp.ar hp.nr hp.cr, .slice hp.ae hp.ne hp.ce, .bool p.queued] 29) := KP.ak z3
  clear bx2 B2 hb3 bx3 B3 hX0 o1 j1 j2
  generalize w3.heap.size = g at hK0 z3 ⊢
  intro W hX
  go_wp2_with (refine load_ra rfl (.tmp 9) rfl rfl hX.b rfl ?_)
  refine (i1_list a h1 ls al nl cl _ (hX.A.mono fun b h => h.2) ((HL.out.below hX.B fun b h => h.2).mono fun b h => Nat.lt_of_lt_of_le h.2 hX.B.size) HA (by omega)).mono ?_
  rintro en w4 ⟨a2, h2, rfl, HA2, o2, hb4⟩
  go_upto_region 9 with (refine store_ra rfl (.tmp 9) (.tmp 46) rfl #[.string a2.agent, .string a2.off, .bool a2.open_, .string a2.base.loc, .string a2.base.off, .slice h2.b.an h2.b.nn h2.b.cn, .slice h2.b.ag h2.b.ng h2.b.cg, .slice h2.b.ap h2.b.np h2.b.cp, .int .i64 a2.base.tik.kind, .int .i64 a2.base.tik.day, .int .i64 a2.base.tik.min, .string a2.base.rc, .slice h2.b.ar h2.b.nr h2.b.cr, .slice h2.b.ae h2.b.ne h2.b.ce, .bool a2.base.queued, .int .u64 a2.ver, .slice h2.ad h2.nd h2.cd, .slice h2.al h2.nl h2.cl, .bool a2.working, .int .i64 a2.queue] rfl rfl (hX.step hK0 hb4).b rfl rfl (by simp [Value.oneCell']) ?_)
  refine wp_world (AX w g (fun W => Bx W w.heap.size #[.string p.loc, .string p.off, .slice hp.an hp.nn hp.cn, .slice hp.ag hp.ng hp.cg, .slice hp.ap hp.np hp.cp, .int .i64 p.tik.kind, .int .i64 p.tik.day, .int .i64 p.tik.min, .string p.rc, .slice hp.ar hp.nr hp.cr, .slice hp.ae hp.ne hp.ce, .bool p.queued] 29) a2 h2) (hX.call hK0 hb4 o2) ?_
  clear hX hb4 o2 HA
  intro W hX
  go_wp2_with (refine load_ra rfl (.tmp 9) rfl rfl hX.b rfl ?_)
  refine (i2_work a2 h2 qn _ _ hX.A (fun b h => h.2) HA2).mono ?_
  rintro en w5 ⟨a3, e3, h3, rfl, HA3, o3, hb5⟩
  go_upto_region 12 with (refine store_ra rfl (.tmp 11) (.tmp 54) rfl #[.string a3.agent, .string a3.off, .bool a3.open_, .string a3.base.loc, .string a3.base.off, .slice h3.b.an h3.b.nn h3.b.cn, .slice h3.b.ag h3.b.ng h3.b.cg, .slice h3.b.ap h3.b.np h3.b.cp, .int .i64 a3.base.tik.kind, .int .i64 a3.base.tik.day, .int .i64 a3.base.tik.min, .string a3.base.rc, .slice h3.b.ar h3.b.nr h3.b.cr, .slice h3.b.ae h3.b.ne h3.b.ce, .bool a3.base.queued, .int .u64 a3.ver, .slice h3.ad h3.nd h3.cd, .slice h3.al h3.nl h3.cl, .bool a3.working, .int .i64 a3.queue] rfl rfl (Bx.new w5 #[.string ⟨#[]⟩, .string ⟨#[]⟩, .bool false, .string ⟨#[]⟩, .string ⟨#[]⟩, .slice none 0 0, .slice none 0 0, .slice none 0 0, .int .i64 0, .int .i64 0, .int .i64 0, .string ⟨#[]⟩, .slice none 0 0, .slice none 0 0, .bool false, .int .u64 0, .slice none 0 0, .slice none 0 0, .bool false, .int .i64 0] 36) rfl rfl (by simp [Value.oneCell']) ?_)
  refine wp_world (AY w g (fun W => Bx W w.heap.size #[.string p.loc, .string p.off, .slice hp.an hp.nn hp.cn, .slice hp.ag hp.ng hp.cg, .slice hp.ap hp.np hp.cp, .int .i64 p.tik.kind, .int .i64 p.tik.day, .int .i64 p.tik.min, .string p.rc, .slice hp.ar hp.nr hp.cr, .slice hp.ae hp.ne hp.ce, .bool p.queued] 29) a2 h2 w5.heap.size a3 h3) (by rw [World.setRow_alloc_new]; exact AY.of1 hK0 hX hb5 o3) ?_
  clear hX hb5 o3
  generalize w5.heap.size = g11
  intro W hY
  go_upto_if 57 with fail
  go_cut [12] (fun s w' => ∃ (was : Ar) (hw : AH), Hid (noOne was = false ∧ was.edits = [] ∧ was.small 1000) ∧ AX w g (fun W => Bx W w.heap.size #[.string p.loc, .string p.off, .slice hp.an hp.nn hp.cn, .slice hp.ag hp.ng hp.cg, .slice hp.ap hp.np hp.cp, .int .i64 p.tik.kind, .int .i64 p.tik.day, .int .i64 p.tik.min, .string p.rc, .slice hp.ar hp.nr hp.cr, .slice hp.ae hp.ne hp.ce, .bool p.queued] 29) was hw w')
  case first =>
    by_cases h0 : e3 = 0
    · have HA4 := Lib.hid (HA3.out h0)
      subst h0
      go_wp2_with (first | (refine load_ra rfl (.tmp 11) rfl rfl hY.b12 rfl ?_) | (refine store_ra rfl (.tmp 9) (.tmp 58) rfl #[.string a3.agent, .string a3.off, .bool a3.open_, .string a3.base.loc, .string a3.base.off, .slice h3.b.an h3.b.nn h3.b.cn, .slice h3.b.ag h3.b.ng h3.b.cg, .slice h3.b.ap h3.b.np h3.b.cp, .int .i64 a3.base.tik.kind, .int .i64 a3.base.tik.day, .int .i64 a3.base.tik.min, .string a3.base.rc, .slice h3.b.ar h3.b.nr h3.b.cr, .slice h3.b.ae h3.b.ne h3.b.ce, .bool a3.base.queued, .int .u64 a3.ver, .slice h3.ad h3.nd h3.cd, .slice h3.al h3.nl h3.cl, .bool a3.working, .int .i64 a3.queue] rfl rfl hY.H.b rfl rfl (by simp [Value.oneCell']) ?_))
      go_meet
      exact ⟨a3, h3, HA4.out, hY.H.put hK0 hY.A3⟩
    · have hne : (e3 == 0) = false := by rw [beq_eq_false_iff_ne]; exact h0
      go_wp2
      go_meet
      exact ⟨a2, h2, HA2, hY.H⟩
  case rest =>
    clear hY HA2 HA3
    obtain ⟨was, hw, HW, hX⟩ := hcut
    go_upto_region 15 with (first | (refine load_ra rfl (.tmp 9) rfl rfl hX.b rfl ?_) | (refine store_ra rfl (.tmp 13) (.tmp 59) rfl #[.string was.agent, .string was.off, .bool was.open_, .string was.base.loc, .string was.base.off, .slice hw.b.an hw.b.nn hw.b.cn, .slice hw.b.ag hw.b.ng hw.b.cg, .slice hw.b.ap hw.b.np hw.b.cp, .int .i64 was.base.tik.kind, .int .i64 was.base.tik.day, .int .i64 was.base.tik.min, .string was.base.rc, .slice hw.b.ar hw.b.nr hw.b.cr, .slice hw.b.ae hw.b.ne hw.b.ce, .bool was.base.queued, .int .u64 was.ver, .slice hw.ad hw.nd hw.cd, .slice hw.al hw.nl hw.cl, .bool was.working, .int .i64 was.queue] rfl rfl (Bx.new _ #[.string ⟨#[]⟩, .string ⟨#[]⟩, .bool false, .string ⟨#[]⟩, .string ⟨#[]⟩, .slice none 0 0, .slice none 0 0, .slice none 0 0, .int .i64 0, .int .i64 0, .int .i64 0, .string ⟨#[]⟩, .slice none 0 0, .slice none 0 0, .bool false, .int .u64 0, .slice none 0 0, .slice none 0 0, .bool false, .int .i64 0] 36) rfl rfl (by simp [Value.oneCell']) ?_))
    rename World => V
    have hg13 := hX.lt
    have hX1 := hX.step hK0 (below_setRow ((Below.refl _ _).alloc (Nat.le_refl _) (.cells #[.string ⟨#[]⟩, .string ⟨#[]⟩, .bool false, .string ⟨#[]⟩, .string ⟨#[]⟩, .slice none 0 0, .slice none 0 0, .slice none 0 0, .int .i64 0, .int .i64 0, .int .i64 0, .string ⟨#[]⟩, .slice none 0 0, .slice none 0 0, .bool false, .int .u64 0, .slice none 0 0, .slice none 0 0, .bool false, .int .i64 0] 36)) (Nat.le_refl V.heap.size) #[.string was.agent, .string was.off, .bool was.open_, .string was.base.loc, .string was.base.off, .slice hw.b.an hw.b.nn hw.b.cn, .slice hw.b.ag hw.b.ng hw.b.cg, .slice hw.b.ap hw.b.np hw.b.cp, .int .i64 was.base.tik.kind, .int .i64 was.base.tik.day, .int .i64 was.base.tik.min, .string was.base.rc, .slice hw.b.ar hw.b.nr hw.b.cr, .slice hw.b.ae hw.b.ne hw.b.ce, .bool was.base.queued, .int .u64 was.ver, .slice hw.ad hw.nd hw.cd, .slice hw.al hw.nl hw.cl, .bool was.working, .int .i64 was.queue])
    refine wp_world (AX w g (KI g V.heap.size w p hp was hw) was hw) ⟨hX1.B, hX1.b, hX1.A, hX1.z, hX1.k, (Bx.new V #[.string ⟨#[]⟩, .string ⟨#[]⟩, .bool false, .string ⟨#[]⟩, .string ⟨#[]⟩, .slice none 0 0, .slice none 0 0, .slice none 0 0, .int .i64 0, .int .i64 0, .int .i64 0, .string ⟨#[]⟩, .slice none 0 0, .slice none 0 0, .bool false, .int .u64 0, .slice none 0 0, .slice none 0 0, .bool false, .int .i64 0] 36).row _, hX1.A⟩ ?_
    have hK1 := KI.ak (p := p) (hp := hp) (was := was) (hw := hw) z3 hg13
    clear hX hX1 hK0
    generalize V.heap.size = g13 at hg13 hK1 ⊢
    obtain ⟨K, hKe⟩ : ∃ K, K = KI g g13 w p hp was hw := ⟨_, rfl⟩
    have hK : AK g K := by rw [hKe]; exact hK1
    intro W hX
    have hQ : PS W (fun b => b < W.heap.size) p hp := (HP.out.below hX.B fun b h => h.2).mono fun b h => Nat.lt_of_lt_of_le h.2 hX.B.size
    have x4 := hX.k.1.cells
    have z4 := hX.k.1.lt
    rw [← hKe] at hX
    replace hKe := Lib.hid hKe
    clear hK1
    go_wp2_with (refine load_ra rfl (.tmp 9) rfl rfl hX.b rfl ?_)
    refine (i3_load was hw p hp _ _ (hX.A.mono fun b h => h.2) hQ (fun b h => h) HW HSM.out).mono ?_
    rintro en w6 ⟨a, h1, rfl, hop, HA, o1, hb6⟩
    have hX6 := hX.call hK hb6 o1
    have b6 := (hX.step hK hb6).b
    go_upto_region 16 with (refine store_ra rfl (.tmp 9) (.tmp 64) rfl #[.string was.agent, .string was.off, .bool true, .string p.loc, .string p.off, .slice h1.b.an h1.b.nn h1.b.cn, .slice h1.b.ag h1.b.ng h1.b.cg, .slice h1.b.ap h1.b.np h1.b.cp, .int .i64 p.tik.kind, .int .i64 p.tik.day, .int .i64 p.tik.min, .string p.rc, .slice h1.b.ar h1.b.nr h1.b.cr, .slice h1.b.ae h1.b.ne h1.b.ce, .bool p.queued, .int .u64 3, .slice h1.ad h1.nd h1.cd, .slice h1.al h1.nl h1.cl, .bool was.working, .int .i64 was.queue] rfl rfl b6 rfl rfl (by simp [Value.oneCell']) ?_)
    have e6 : (#[.string was.agent, .string was.off, .bool true, .string p.loc, .string p.off, .slice h1.b.an h1.b.nn h1.b.cn, .slice h1.b.ag h1.b.ng h1.b.cg, .slice h1.b.ap h1.b.np h1.b.cp, .int .i64 p.tik.kind, .int .i64 p.tik.day, .int .i64 p.tik.min, .string p.rc, .slice h1.b.ar h1.b.nr h1.b.cr, .slice h1.b.ae h1.b.ne h1.b.ce, .bool p.queued, .int .u64 3, .slice h1.ad h1.nd h1.cd, .slice h1.al h1.nl h1.cl, .bool was.working, .int .i64 was.queue] : Array Value) = #[.string a.agent, .string a.off, .bool a.open_, .string a.base.loc, .string a.base.off, .slice h1.b.an h1.b.nn h1.b.cn, .slice h1.b.ag h1.b.ng h1.b.cg, .slice h1.b.ap h1.b.np h1.b.cp, .int .i64 a.base.tik.kind, .int .i64 a.base.tik.day, .int .i64 a.base.tik.min, .string a.base.rc, .slice h1.b.ar h1.b.nr h1.b.cr, .slice h1.b.ae h1.b.ne h1.b.ce, .bool a.base.queued, .int .u64 a.ver, .slice h1.ad h1.nd h1.cd, .slice h1.al h1.nl h1.cl, .bool a.working, .int .i64 a.queue] := by rw [HA.out]; rfl
    refine wp_world (fun W => Bx W g #[.string was.agent, .string was.off, .bool true, .string p.loc, .string p.off, .slice h1.b.an h1.b.nn h1.b.cn, .slice h1.b.ag h1.b.ng h1.b.cg, .slice h1.b.ap h1.b.np h1.b.cp, .int .i64 p.tik.kind, .int .i64 p.tik.day, .int .i64 p.tik.min, .string p.rc, .slice h1.b.ar h1.b.nr h1.b.cr, .slice h1.b.ae h1.b.ne h1.b.ce, .bool p.queued, .int .u64 3, .slice h1.ad h1.nd h1.cd, .slice h1.al h1.nl h1.cl, .bool was.working, .int .i64 was.queue] 36 ∧ AX w g K a h1 W) ⟨b6.row _, (by rw [e6]; exact hX6)⟩ ?_
    clear hX hX6 b6 x4 z4 hQ o1 hb6 e6 hop
    rintro W2 ⟨b6, hX⟩
    have x6 := b6.cells
    have z6 := b6.lt
    go_wp2
    go_loopw [14, 15, 16] (fun i _ _ wr => ∃ (k : Nat) (a : Ar) (h1 : AH) (es' : List Edit), k ≤ n ∧ i = .int .i64 k ∧ Hid (a = igE was p es' ∧ es'.length ≤ k) ∧ AX w g K a h1 wr) (fun i _ _ _ => n - (intOf i).toNat)
    case atStart => exact ⟨0, a, h1, [], Nat.zero_le _, rfl, ⟨HA.out, Nat.le_refl _⟩, hX⟩
    case round =>
      clear hX b6 x6 z6 HA
      obtain ⟨k, a, h1, es', hk, rfl, HI, hX⟩ := hrel
      have hno : noOne a = false := by rw [HI.out.1]; exact HW.out.1
      have hsA : a.small 1000 := by rw [HI.out.1]; exact ⟨HSM.out, by have := HI.out.2; show es'.length ≤ 1000; omega, HW.out.2.2.legs⟩
      have HNO := Lib.hid hno
      by_cases hlt : k < n
      · obtain ⟨b, o, x, rfl, e1, e2, hx, hok, c0, c1, c2, c3, c4, c5, c6, c7, c8, c9, c10, c11, c12, c13, c14, c15⟩ := HES.out.edit_ hlt
        have hC0 : C16 w b (o + k * 16) x := ⟨c0, c1, c2, c3, c4, c5, c6, c7, c8, c9, c10, c11, c12, c13, c14, c15⟩
        clear c0 c1 c2 c3 c4 c5 c6 c7 c8 c9 c10 c11 c12 c13 c14 c15
        have hk0 : (0 : Int) ≤ k := by omega
        have hkl : (k : Int) < n := by omega
        have HE := Lib.hid (fun (W : World) (S' : Nat → Prop) (h2 : AS W S' a h1) (h3 : ∀ b, S' b → b < W.heap.size) => edit_any a h1 x W S' h2 h3 hsA hok)
        generalize h3 : editF a x = r3 at HE
        obtain ⟨a3, e3⟩ := r3
        have HR3 := Lib.hid (fun h0 : e3 = 0 => ed_more HNO.out h3 h0)
        clear h3 hok hx hsA hno
        go_wp2
        rename World => W
        have hC : C16 W b (o + k * 16) x := C16.below hC0 hX.B e2
        have hXd := hX.drew hK
        have hCd : C16 W.drew b (o + k * 16) x := C16.keep hC fun _ => rfl
        have rd := hXd.b
        have ld := lda_of rd rfl
        have hXe := hXd.alloc hK (.cells #[.string ⟨#[]⟩, .string ⟨#[]⟩, .bool false, .string ⟨#[]⟩, .string ⟨#[]⟩, .slice none 0 0, .slice none 0 0, .slice none 0 0, .int .i64 0, .int .i64 0, .int .i64 0, .string ⟨#[]⟩, .slice none 0 0, .slice none 0 0, .bool false, .int .u64 0, .slice none 0 0, .slice none 0 0, .bool false, .int .i64 0] 36)
        have re := hXe.b
        have le := lda_of re rfl
        have hbs : b < W.heap.size := by have := hX.B.size; omega
        have hCe : C16 (W.drew.alloc (.cells #[.string ⟨#[]⟩, .string ⟨#[]⟩, .bool false, .string ⟨#[]⟩, .string ⟨#[]⟩, .slice none 0 0, .slice none 0 0, .slice none 0 0, .int .i64 0, .int .i64 0, .int .i64 0, .string ⟨#[]⟩, .slice none 0 0, .slice none 0 0, .bool false, .int .u64 0, .slice none 0 0, .slice none 0 0, .bool false, .int .i64 0] 36)) b (o + k * 16) x := C16.below (B := W.drew.heap.size) hCd ((Below.refl _ _).alloc (Nat.le_refl _) _) hbs
        have hbx0 : Bx (W.drew.alloc (.cells #[.string ⟨#[]⟩, .string ⟨#[]⟩, .bool false, .string ⟨#[]⟩, .string ⟨#[]⟩, .slice none 0 0, .slice none 0 0, .slice none 0 0, .int .i64 0, .int .i64 0, .int .i64 0, .string ⟨#[]⟩, .slice none 0 0, .slice none 0 0, .bool false, .int .u64 0, .slice none 0 0, .slice none 0 0, .bool false, .int .i64 0] 36)) W.heap.size #[.string ⟨#[]⟩, .string ⟨#[]⟩, .bool false, .string ⟨#[]⟩, .string ⟨#[]⟩, .slice none 0 0, .slice none 0 0, .slice none 0 0, .int .i64 0, .int .i64 0, .int .i64 0, .string ⟨#[]⟩, .slice none 0 0, .slice none 0 0, .bool false, .int .u64 0, .slice none 0 0, .slice none 0 0, .bool false, .int .i64 0] 36 := Bx.new W.drew _ _
        have hz := hX.lt
        go_cut [15, 16] (fun sA sB w' => ∃ g12 h3, sA = .pointer (some ⟨g12, 0, none⟩) ∧ sB = .int .i64 e3 ∧ AY w g K a h1 g12 a3 h3 w')
        case first =>
          go_region_held3 (fun w' => ((loadA (.pointer (some ⟨g, 0, none⟩))).run Tryd.prog w' = .ok (.agg #[.string a.agent, .string a.off, .bool a.open_, .string a.base.loc, .string a.base.off, .slice h1.b.an h1.b.nn h1.b.cn, .slice h1.b.ag h1.b.ng h1.b.cg, .slice h1.b.ap h1.b.np h1.b.cp, .int .i64 a.base.tik.kind, .int .i64 a.base.tik.day, .int .i64 a.base.tik.min, .string a.base.rc, .slice h1.b.ar h1.b.nr h1.b.cr, .slice h1.b.ae h1.b.ne h1.b.ce, .bool a.base.queued, .int .u64 a.ver, .slice h1.ad h1.nd h1.cd, .slice h1.al h1.nl h1.cl, .bool a.working, .int .i64 a.queue]) w') ∧ (w'.cell? ⟨b, o + k * 16, none⟩ = some (.int .i64 x.kind) ∧ w'.cell? ⟨b, o + k * 16 + 1, none⟩ = some (.string x.nam.last) ∧ w'.cell? ⟨b, o + k * 16 + 2, none⟩ = some (.string x.nam.first) ∧ w'.cell? ⟨b, o + k * 16 + 3, none⟩ = some (.string x.seg.car) ∧ w'.cell? ⟨b, o + k * 16 + 4, none⟩ = some (.int .i64 x.seg.num) ∧ w'.cell? ⟨b, o + k * 16 + 5, none⟩ = some (.int .i64 x.seg.day) ∧ w'.cell? ⟨b, o + k * 16 + 6, none⟩ = some (.int .u8 x.seg.cls) ∧ w'.cell? ⟨b, o + k * 16 + 7, none⟩ = some (.bool x.seg.live) ∧ w'.cell? ⟨b, o + k * 16 + 8, none⟩ = some (.int .i64 x.tik.kind) ∧ w'.cell? ⟨b, o + k * 16 + 9, none⟩ = some (.int .i64 x.tik.day) ∧ w'.cell? ⟨b, o + k * 16 + 10, none⟩ = some (.int .i64 x.tik.min) ∧ w'.cell? ⟨b, o + k * 16 + 11, none⟩ = some (.string x.text) ∧ w'.cell? ⟨b, o + k * 16 + 12, none⟩ = some (.int .i64 x.n) ∧ w'.cell? ⟨b, o + k * 16 + 13, none⟩ = some (.int .i64 x.pax) ∧ w'.cell? ⟨b, o + k * 16 + 14, none⟩ = some (.int .i64 x.row) ∧ w'.cell? ⟨b, o + k * 16 + 15, none⟩ = some (.int .u8 x.let_))) (refine ⟨?_, ?_⟩ <;> first | (refine lda_of ?_ rfl; (repeat (with_reducible refine Bx.rowOther ?_ (by first | omega | (simp; done) | (simp; omega)) _)); first | with_reducible exact r2 | with_reducible exact r2a _ | with_reducible exact rd | with_reducible exact re | exact re | exact r2a _) | (show C16 _ b (o + k * 16) x; (repeat (with_reducible refine C16.row ?_ (by first | omega | (simp; done) | (simp; omega)) _)); first | with_reducible exact hC2 | with_reducible exact kc2a _ | with_reducible exact hCd | with_reducible exact hCe | exact hCe | exact kc2a _))
            (first
              | (go_at_call 13; refine (HE.out W.drew _ hXd.A (fun b hb => hb.2)).mono ?_; rintro en w2 ⟨h3, rfl, o3, hb2⟩; have hT2 := hXd.step hK hb2; have hC2 : C16 w2 b (o + k * 16) x := C16.below hCd hb2 hbs; have hs2 := hb2.size; have hs3 : W.heap.size ≤ w2.heap.size := hs2; have r2 := hT2.b; have r2a := fun t => (hT2.alloc hK t).b; have u5 : b < w2.heap.size := (by omega); have kc2a := fun t => C16.below (B := w2.heap.size) hC2 ((Below.refl _ _).alloc (Nat.le_refl _) t) u5; have sn := sta_new w2 (cs := #[.string a3.agent, .string a3.off, .bool a3.open_, .string a3.base.loc, .string a3.base.off, .slice h3.b.an h3.b.nn h3.b.cn, .slice h3.b.ag h3.b.ng h3.b.cg, .slice h3.b.ap h3.b.np h3.b.cp, .int .i64 a3.base.tik.kind, .int .i64 a3.base.tik.day, .int .i64 a3.base.tik.min, .string a3.base.rc, .slice h3.b.ar h3.b.nr h3.b.cr, .slice h3.b.ae h3.b.ne h3.b.ce, .bool a3.base.queued, .int .u64 a3.ver, .slice h3.ad h3.nd h3.cd, .slice h3.al h3.nl h3.cl, .bool a3.working, .int .i64 a3.queue]) (zs := #[.string ⟨#[]⟩, .string ⟨#[]⟩, .bool false, .string ⟨#[]⟩, .string ⟨#[]⟩, .slice none 0 0, .slice none 0 0, .slice none 0 0, .int .i64 0, .int .i64 0, .int .i64 0, .string ⟨#[]⟩, .slice none 0 0, .slice none 0 0, .bool false, .int .u64 0, .slice none 0 0, .slice none 0 0, .bool false, .int .i64 0]) rfl rfl (by simp [Value.oneCell']))
              | (go_at_call 13; refine (HE.out (W.drew.alloc (.cells #[.string ⟨#[]⟩, .string ⟨#[]⟩, .bool false, .string ⟨#[]⟩, .string ⟨#[]⟩, .slice none 0 0, .slice none 0 0, .slice none 0 0, .int .i64 0, .int .i64 0, .int .i64 0, .string ⟨#[]⟩, .slice none 0 0, .slice none 0 0, .bool false, .int .u64 0, .slice none 0 0, .slice none 0 0, .bool false, .int .i64 0] 36)) _ hXe.A (fun b hb => hb.2)).mono ?_; rintro en w2 ⟨h3, rfl, o3, hb2⟩; have hT2 := hXe.step hK hb2; have hC2 : C16 w2 b (o + k * 16) x := C16.below hCe hb2 (by simp; omega); have hbx2 := hbx0.below hb2 (by simp); have hs2 := hb2.size; have hs3 : W.heap.size < w2.heap.size := (by simp at hs2; omega); have r2 := hT2.b; have r2a := fun t => (hT2.alloc hK t).b; have u5 : b < w2.heap.size := (by omega); have kc2a := fun t => C16.below (B := w2.heap.size) hC2 ((Below.refl _ _).alloc (Nat.le_refl _) t) u5; have sn := sta_of (cs := #[.string a3.agent, .string a3.off, .bool a3.open_, .string a3.base.loc, .string a3.base.off, .slice h3.b.an h3.b.nn h3.b.cn, .slice h3.b.ag h3.b.ng h3.b.cg, .slice h3.b.ap h3.b.np h3.b.cp, .int .i64 a3.base.tik.kind, .int .i64 a3.base.tik.day, .int .i64 a3.base.tik.min, .string a3.base.rc, .slice h3.b.ar h3.b.nr h3.b.cr, .slice h3.b.ae h3.b.ne h3.b.ce, .bool a3.base.queued, .int .u64 a3.ver, .slice h3.ad h3.nd h3.cd, .slice h3.al h3.nl h3.cl, .bool a3.working, .int .i64 a3.queue]) hbx2 rfl rfl (by simp [Value.oneCell'])))
          · have k12 := AY.of1 hK hXd hb2 o3
            generalize w2.alloc (.cells #[.string a3.agent, .string a3.off, .bool a3.open_, .string a3.base.loc, .string a3.base.off, .slice h3.b.an h3.b.nn h3.b.cn, .slice h3.b.ag h3.b.ng h3.b.cg, .slice h3.b.ap h3.b.np h3.b.cp, .int .i64 a3.base.tik.kind, .int .i64 a3.base.tik.day, .int .i64 a3.base.tik.min, .string a3.base.rc, .slice h3.b.ar h3.b.nr h3.b.cr, .slice h3.b.ae h3.b.ne h3.b.ce, .bool a3.base.queued, .int .u64 a3.ver, .slice h3.ad h3.nd h3.cd, .slice h3.al h3.nl h3.cl, .bool a3.working, .int .i64 a3.queue] 36) = W9 at k12 ⊢
            go_wp2
            go_meet
            exact ⟨_, h3, rfl, rfl, k12⟩
          · have k12 := AY.of2 hK hXd hb2 (by have q := o3; rw [World.size_alloc] at q; exact q)
            rw [show W.drew.heap.size = W.heap.size from rfl] at k12
            generalize w2.setRow W.heap.size #[.string a3.agent, .string a3.off, .bool a3.open_, .string a3.base.loc, .string a3.base.off, .slice h3.b.an h3.b.nn h3.b.cn, .slice h3.b.ag h3.b.ng h3.b.cg, .slice h3.b.ap h3.b.np h3.b.cp, .int .i64 a3.base.tik.kind, .int .i64 a3.base.tik.day, .int .i64 a3.base.tik.min, .string a3.base.rc, .slice h3.b.ar h3.b.nr h3.b.cr, .slice h3.b.ae h3.b.ne h3.b.ce, .bool a3.base.queued, .int .u64 a3.ver, .slice h3.ad h3.nd h3.cd, .slice h3.al h3.nl h3.cl, .bool a3.working, .int .i64 a3.queue] = W9 at k12 ⊢
            go_wp2
            go_meet
            exact ⟨_, h3, rfl, rfl, k12⟩
        case rest =>
          clear hC hX hXd hCd rd ld hXe re le hbs hCe hbx0 hz HE
          obtain ⟨g12, h3, rfl, rfl, hY⟩ := hcut
          by_cases h0 : e3 = 0
          · subst h0
            have HF : Hid (a3 = igE was p (es' ++ [x]) ∧ (es' ++ [x]).length ≤ k + 1) := ⟨by rw [HR3.out rfl, HI.out.1]; rfl, by have := HI.out.2; simp; omega⟩
            go_wp2_with (first | (refine load_ra rfl (.tmp 15) rfl rfl hY.b12 rfl ?_) | (refine store_ra rfl (.tmp 9) (.tmp 90) rfl #[.string a3.agent, .string a3.off, .bool a3.open_, .string a3.base.loc, .string a3.base.off, .slice h3.b.an h3.b.nn h3.b.cn, .slice h3.b.ag h3.b.ng h3.b.cg, .slice h3.b.ap h3.b.np h3.b.cp, .int .i64 a3.base.tik.kind, .int .i64 a3.base.tik.day, .int .i64 a3.base.tik.min, .string a3.base.rc, .slice h3.b.ar h3.b.nr h3.b.cr, .slice h3.b.ae h3.b.ne h3.b.ce, .bool a3.base.queued, .int .u64 a3.ver, .slice h3.ad h3.nd h3.cd, .slice h3.al h3.nl h3.cl, .bool a3.working, .int .i64 a3.queue] rfl rfl hY.H.b rfl rfl (by simp [Value.oneCell']) ?_))
            exact ⟨⟨k + 1, a3, h3, es' ++ [x], by omega, by go_num, HF, hY.H.put hK hY.A3⟩, by simp [intOf]; omega⟩
          · have hne : (e3 == 0) = false := by rw [beq_eq_false_iff_ne]; exact h0
            go_wp2
            exact ⟨⟨k + 1, a, h1, es', by omega, by go_num, ⟨HI.out.1, by have := HI.out.2; omega⟩, hY.H⟩, by simp [intOf]; omega⟩
      · obtain rfl : n = k := by omega
        have HSA := Lib.hid hsA
        clear hsA hno
        go_wp2_with (refine load_ra rfl (.tmp 9) rfl rfl hX.b rfl ?_)
        refine (i4_ignore was p es' a h1 _ _ hX.A (fun b h => h.2) HSA.out HW.out.1 HI.out.1).mono ?_
        rintro en w8 ⟨h7, rfl, o7, hb8⟩
        have HN7 : Hid (h7.nd = 0) := (o7.edits.sl.len.symm : h7.nd = 0)
        have hX8 := (hX.step hK hb8).step hK (below_setRow ((Below.refl _ _).alloc (Nat.le_refl _) (.cells #[.string ⟨#[]⟩, .string ⟨#[]⟩, .bool false, .string ⟨#[]⟩, .string ⟨#[]⟩, .slice none 0 0, .slice none 0 0, .slice none 0 0, .int .i64 0, .int .i64 0, .int .i64 0, .string ⟨#[]⟩, .slice none 0 0, .slice none 0 0, .bool false, .int .u64 0, .slice none 0 0, .slice none 0 0, .bool false, .int .i64 0] 36)) (Nat.le_refl w8.heap.size) #[.string was.agent, .string was.off, .bool false, .string ⟨#[]⟩, .string ⟨#[]⟩, .slice h7.b.an h7.b.nn h7.b.cn, .slice h7.b.ag h7.b.ng h7.b.cg, .slice h7.b.ap h7.b.np h7.b.cp, .int .i64 0, .int .i64 0, .int .i64 0, .string ⟨#[]⟩, .slice h7.b.ar h7.b.nr h7.b.cr, .slice h7.b.ae h7.b.ne h7.b.ce, .bool false, .int .u64 0, .slice h7.ad 0 h7.cd, .slice h7.al h7.nl h7.cl, .bool was.working, .int .i64 was.queue])
        go_upto_region 25 with (refine store_ra rfl (.tmp 17) (.tmp 94) rfl #[.string was.agent, .string was.off, .bool false, .string ⟨#[]⟩, .string ⟨#[]⟩, .slice h7.b.an h7.b.nn h7.b.cn, .slice h7.b.ag h7.b.ng h7.b.cg, .slice h7.b.ap h7.b.np h7.b.cp, .int .i64 0, .int .i64 0, .int .i64 0, .string ⟨#[]⟩, .slice h7.b.ar h7.b.nr h7.b.cr, .slice h7.b.ae h7.b.ne h7.b.ce, .bool false, .int .u64 0, .slice h7.ad 0 h7.cd, .slice h7.al h7.nl h7.cl, .bool was.working, .int .i64 was.queue] rfl rfl (Bx.new w8 #[.string ⟨#[]⟩, .string ⟨#[]⟩, .bool false, .string ⟨#[]⟩, .string ⟨#[]⟩, .slice none 0 0, .slice none 0 0, .slice none 0 0, .int .i64 0, .int .i64 0, .int .i64 0, .string ⟨#[]⟩, .slice none 0 0, .slice none 0 0, .bool false, .int .u64 0, .slice none 0 0, .slice none 0 0, .bool false, .int .i64 0] 36) rfl rfl (by simp [Value.oneCell']) ?_)
        refine wp_world (IE w g13 w8.heap.size was hw h7) ⟨hX8.B, (by have q := hX8.k; rw [hKe.out] at q; exact q.2.1), (by have q := hX8.k; rw [hKe.out] at q; exact q.2.2.mono (fun b h => h.2)), (Bx.new w8 #[.string ⟨#[]⟩, .string ⟨#[]⟩, .bool false, .string ⟨#[]⟩, .string ⟨#[]⟩, .slice none 0 0, .slice none 0 0, .slice none 0 0, .int .i64 0, .int .i64 0, .int .i64 0, .string ⟨#[]⟩, .slice none 0 0, .slice none 0 0, .bool false, .int .u64 0, .slice none 0 0, .slice none 0 0, .bool false, .int .i64 0] 36).row _, (o7.boxed _ _).mono fun b h => by simp; omega⟩ ?_
        clear hX hX8 hb8 o7
        generalize w8.heap.size = g17
        intro W9 H
        go_wp2_with (refine load_ra rfl (.tmp 17) rfl rfl H.b17 rfl ?_)
        refine (i5_ignore was h7 _ _ H.Ai HN7.out (fun b h => h) HW.out.2.2.legs HW.out.1).mono ?_
        rintro en w10 ⟨cs, rfl, hs, ho9, hb10⟩
        have H1 := H.step hb10
        go_upto_region 26 with (refine store_ra rfl (.tmp 18) (.tmp 99) rfl cs rfl rfl (Bx.new w10 #[.string ⟨#[]⟩, .string ⟨#[]⟩, .bool false, .string ⟨#[]⟩, .string ⟨#[]⟩, .slice none 0 0, .slice none 0 0, .slice none 0 0, .int .i64 0, .int .i64 0, .int .i64 0, .string ⟨#[]⟩, .slice none 0 0, .slice none 0 0, .bool false, .int .u64 0, .slice none 0 0, .slice none 0 0, .bool false, .int .i64 0] 36) hs rfl ho9 ?_)
        refine wp_world (IE w g13 g17 was hw h7) (H1.step (below_setRow ((Below.refl _ _).alloc (Nat.le_refl _) (.cells #[.string ⟨#[]⟩, .string ⟨#[]⟩, .bool false, .string ⟨#[]⟩, .string ⟨#[]⟩, .slice none 0 0, .slice none 0 0, .slice none 0 0, .int .i64 0, .int .i64 0, .int .i64 0, .string ⟨#[]⟩, .slice none 0 0, .slice none 0 0, .bool false, .int .u64 0, .slice none 0 0, .slice none 0 0, .bool false, .int .i64 0] 36)) (Nat.le_refl _) _)) ?_
        clear H H1 hb10
        intro W11 H
        have x13 := H.b13.cells
        have x17 := H.b17.cells
        have z13 := H.b13.lt
        have z17 := H.b17.lt
        go_wp2_with fail
        refine (legs_same was.legs _ _ _ _ _ _ _ 0 W11.heap.size 0 W11.heap.size (H.Ai.legs.sl fun b h => ⟨Nat.zero_le _, h⟩) (H.As.legs.sl fun b h => ⟨Nat.zero_le _, h⟩) (by have h5 := HW.out.2.2.legs; have h6 := H.Ai.legs.len; have h8 : (igC was).legs.length = was.legs.length := rfl; omega) (Nat.le_refl _) (Nat.le_refl _)).mono ?_
        rintro en w12 ⟨rfl, hb12⟩
        have HJ := H.step hb12
        have l17 := lda_of HJ.b17 rfl
        clear H x13 x17 z13 z17 hb12
        go_wp2_with fail
        refine (i6_pnr was h7 _ _ HJ.Ai HN7.out (fun b h => h) HW.out.2.2.legs).mono ?_
        rintro en w13 ⟨h', rfl, o13, hb13⟩
        have H3 := HJ.step hb13
        clear HJ l17 hb13
        go_wp2_with fail
        refine (i7_same h' _ _ o13.ps (fun b h => h.2)).mono ?_
        rintro en w14 ⟨rfl, hb14⟩
        have B14 := (H3.step hb14).B
        clear H3 o13 hb14
        go_wp2
        all_goals first | (exfalso; omega) | (go_ret; exact ⟨rfl, B14⟩)
theorem areaIgnores_any (p : Pnr) (hp : Hd) (A : Option Addr) (n c : Nat) (al : Option Addr) (nl cl : Nat) (qn : Int) (w : World) (es : List Edit) (ls : List Lg) (hpp : PAt w 0 w.heap.size p hp) (hc : Caps hp) (hes : Sl w 0 w.heap.size tEdit A n es) (hl : Sl w 0 w.heap.size tLeg al nl ls) (hlc : al = none → cl = 0) :
    Calls Tryd.prog 4 #[.agg #[.string p.loc, .string p.off, .slice hp.an hp.nn hp.cn, .slice hp.ag hp.ng hp.cg, .slice hp.ap hp.np hp.cp, .int .i64 p.tik.kind, .int .i64 p.tik.day, .int .i64 p.tik.min, .string p.rc, .slice hp.ar hp.nr hp.cr, .slice hp.ae hp.ne hp.ce, .bool p.queued], .slice A n c, .slice al nl cl, .int .i64 qn] w (RetB w true) := by
  rcases Bool.eq_false_or_eq_true (smallB hp) with hsb | hsb
  case inr => exact ig_early p hp A n c al nl cl qn w (.inl hsb)
  by_cases h1 : 100 < n
  · exact ig_early p hp A n c al nl cl qn w (.inr (.inl ⟨hsb, h1⟩))
  by_cases h2 : 200 < nl
  · exact ig_early p hp A n c al nl cl qn w (.inr (.inr ⟨hsb, h1, h2⟩))
  · exact ig_main p hp A n c al nl cl qn w es ls hpp hc hes hl hlc hsb h1 h2
end Go.Proofs.YtfbalabmidobeaaDoor
