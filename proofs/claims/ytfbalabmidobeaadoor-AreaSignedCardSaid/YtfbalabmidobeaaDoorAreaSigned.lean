/- AreaSigned: the walk. -/
import Derived.Test.YtfbalabmidobeaaDoorArea14
import Derived.Test.YtfbalabmidobeaaDoorArea10
import Derived.Deep.MidRow
import Derived.Deep.RegionHeld3
import Derived.Deep.DeepCutAuto
namespace Go.Proofs.YtfbalabmidobeaaDoor
set_option linter.unusedVariables false
open Go Go.RowKit
attribute [local go_sem ↓] loadA_eq storeA_eq
theorem Bx.range {W : World} {g : Nat} {cs : Array Value} {t : TypeId} (h : Bx W g cs t) (o n : Nat) (l : List Value) (e : (cs.toList.drop o).take n = l) : W.rangeAt g o l := fun j v hv => by
  rw [h.cells (o + j)]
  rw [← e, List.getElem?_take] at hv
  split at hv
  · rw [List.getElem?_drop] at hv
    simpa using hv
  · cases hv
theorem info_edi : (Tryd.prog.info? 56).map (·.size) = some 16 := by kernel_rfl
/-- AreaSigned: the locals that stay. -/
structure SX (w : World) (cs : Array Value) (g9 : Nat) (W : World) : Prop where
  B : Below w.heap.size w W
  bx : Bx W w.heap.size cs 65
  b9 : Bx W g9 #[.string ⟨#[]⟩, .string ⟨#[]⟩, .bool false, .string ⟨#[]⟩, .string ⟨#[]⟩, .slice none 0 0, .slice none 0 0, .slice none 0 0, .int .i64 0, .int .i64 0, .int .i64 0, .string ⟨#[]⟩, .slice none 0 0, .slice none 0 0, .bool false, .int .u64 0, .slice none 0 0, .slice none 0 0, .bool false, .int .i64 0] 36
section
variable {w W W1 : World} {cs : Array Value} {g9 : Nat}
theorem SX.step (H : SX w cs g9 W) (hb : Below W.heap.size W W1) : SX w cs g9 W1 := ⟨H.B.trans (hb.mono H.B.size), H.bx.below hb H.bx.lt, H.b9.below hb H.b9.lt⟩
theorem SX.box (H : SX w cs g9 W) (o : Obj) (ds : Array Value) : SX w cs g9 ((W.alloc o).setRow W.heap.size ds) := H.step (below_setRow ((Below.refl _ _).alloc (Nat.le_refl _) o) (Nat.le_refl _) _)
theorem SX.alloc (H : SX w cs g9 W) (o : Obj) : SX w cs g9 (W.alloc o) := H.step ((Below.refl _ _).alloc (Nat.le_refl _) o)
end
theorem agent_one {g : ByteArray} (h : agentB g = true) : g.toList.isEmpty = false := by
  have h2 : 2 ≤ g.size := by simp [agentB] at h; exact h.1
  rw [ByteArray.toList_eq]
  obtain ⟨⟨l⟩⟩ := g
  cases l with
  | nil => simp [ByteArray.size] at h2
  | cons x t => simp
theorem e0_in (g o : ByteArray) (w : World) (hg : okStr g) (ho : okStr o) (hf : (agentB g && wordB o 3 3) = false) : Calls Tryd.prog 8 #[.agg #[.string ⟨#[]⟩, .string ⟨#[]⟩, .bool false, .string ⟨#[]⟩, .string ⟨#[]⟩, .slice none 0 0, .slice none 0 0, .slice none 0 0, .int .i64 0, .int .i64 0, .int .i64 0, .string ⟨#[]⟩, .slice none 0 0, .slice none 0 0, .bool false, .int .u64 0, .slice none 0 0, .slice none 0 0, .bool false, .int .i64 0], .string g, .string o] w (fun en w' => ∃ h1 : AH, en = .returned (.tuple #[.agg #[.string ⟨#[]⟩, .string ⟨#[]⟩, .bool false, .string ⟨#[]⟩, .string ⟨#[]⟩, .slice h1.b.an h1.b.nn h1.b.cn, .slice h1.b.ag h1.b.ng h1.b.cg, .slice h1.b.ap h1.b.np h1.b.cp, .int .i64 0, .int .i64 0, .int .i64 0, .string ⟨#[]⟩, .slice h1.b.ar h1.b.nr h1.b.cr, .slice h1.b.ae h1.b.ne h1.b.ce, .bool false, .int .u64 0, .slice h1.ad h1.nd h1.cd, .slice h1.al h1.nl h1.cl, .bool false, .int .i64 0], .int .i64 4]) ∧ Below w.heap.size w w') := by
  have h := signin_any ar0 ah0 g o w hg ho
  rw [show signinF ar0 g o = (ar0, 4) by unfold signinF; rw [if_pos hf]] at h
  exact h.mono fun en w' ⟨h', e, _, hb⟩ => ⟨h', e, hb⟩
/-- Somebody who signs in. -/
def arS (g o : ByteArray) : Ar := { ar0 with agent := g, off := o }
theorem e1_in (g o : ByteArray) (w : World) (hg : okStr g) (ho : okStr o) (hf : (agentB g && wordB o 3 3) = true) : Calls Tryd.prog 8 #[.agg #[.string ⟨#[]⟩, .string ⟨#[]⟩, .bool false, .string ⟨#[]⟩, .string ⟨#[]⟩, .slice none 0 0, .slice none 0 0, .slice none 0 0, .int .i64 0, .int .i64 0, .int .i64 0, .string ⟨#[]⟩, .slice none 0 0, .slice none 0 0, .bool false, .int .u64 0, .slice none 0 0, .slice none 0 0, .bool false, .int .i64 0], .string g, .string o] w (fun en w' => ∃ (a : Ar) (h1 : AH), en = .returned (.tuple #[.agg #[.string a.agent, .string a.off, .bool a.open_, .string a.base.loc, .string a.base.off, .slice h1.b.an h1.b.nn h1.b.cn, .slice h1.b.ag h1.b.ng h1.b.cg, .slice h1.b.ap h1.b.np h1.b.cp, .int .i64 a.base.tik.kind, .int .i64 a.base.tik.day, .int .i64 a.base.tik.min, .string a.base.rc, .slice h1.b.ar h1.b.nr h1.b.cr, .slice h1.b.ae h1.b.ne h1.b.ce, .bool a.base.queued, .int .u64 a.ver, .slice h1.ad h1.nd h1.cd, .slice h1.al h1.nl h1.cl, .bool a.working, .int .i64 a.queue], .int .i64 0]) ∧ Hid (noOne a = false ∧ a.base.small 1000 ∧ a.edits = [] ∧ a.legs.length ≤ 1000) ∧ OA w' w.heap.size a h1 ∧ Below w.heap.size w w') := by
  have h := signin_any ar0 ah0 g o w hg ho
  rw [show signinF ar0 g o = (arS g o, 0) by unfold signinF; rw [if_neg (by rw [hf]; simp), if_neg (by rw [ar0_no]; simp)]; rfl] at h
  exact h.mono fun en w' ⟨h', e, o1, hb⟩ => ⟨arS g o, h', e, ⟨agent_one (by simp at hf; exact hf.1), ar0_small.base, rfl, by simp [arS, ar0]⟩, o1, hb⟩
theorem e2_in (a : Ar) (h : AH) (g o : ByteArray) (w : World) (hg : okStr g) (ho : okStr o) (hf : (agentB g && wordB o 3 3) = true) (hn : noOne a = false) : Calls Tryd.prog 8 #[.agg #[.string a.agent, .string a.off, .bool a.open_, .string a.base.loc, .string a.base.off, .slice h.b.an h.b.nn h.b.cn, .slice h.b.ag h.b.ng h.b.cg, .slice h.b.ap h.b.np h.b.cp, .int .i64 a.base.tik.kind, .int .i64 a.base.tik.day, .int .i64 a.base.tik.min, .string a.base.rc, .slice h.b.ar h.b.nr h.b.cr, .slice h.b.ae h.b.ne h.b.ce, .bool a.base.queued, .int .u64 a.ver, .slice h.ad h.nd h.cd, .slice h.al h.nl h.cl, .bool a.working, .int .i64 a.queue], .string g, .string o] w (E0 w 51) :=
  (signin_any a h g o w hg ho).mono fun en w' h => RetA.e0 (by unfold signinF; rw [if_neg (by rw [hf]; simp), if_pos hn]) h
theorem e2_out (a : Ar) (h : AH) (w : World) (S : Nat → Prop) (hp : AS w S a h) (hS : ∀ b, S b → b < w.heap.size) (hs : a.small 1000) (e : Int) (he : (idleF a).2 = e) : Calls Tryd.prog 20 #[.agg #[.string a.agent, .string a.off, .bool a.open_, .string a.base.loc, .string a.base.off, .slice h.b.an h.b.nn h.b.cn, .slice h.b.ag h.b.ng h.b.cg, .slice h.b.ap h.b.np h.b.cp, .int .i64 a.base.tik.kind, .int .i64 a.base.tik.day, .int .i64 a.base.tik.min, .string a.base.rc, .slice h.b.ar h.b.nr h.b.cr, .slice h.b.ae h.b.ne h.b.ce, .bool a.base.queued, .int .u64 a.ver, .slice h.ad h.nd h.cd, .slice h.al h.nl h.cl, .bool a.working, .int .i64 a.queue]] w (fun en w' => ∃ h1 : AH, en = .returned (.tuple #[.agg #[.string ⟨#[]⟩, .string ⟨#[]⟩, .bool false, .string ⟨#[]⟩, .string ⟨#[]⟩, .slice h1.b.an h1.b.nn h1.b.cn, .slice h1.b.ag h1.b.ng h1.b.cg, .slice h1.b.ap h1.b.np h1.b.cp, .int .i64 0, .int .i64 0, .int .i64 0, .string ⟨#[]⟩, .slice h1.b.ar h1.b.nr h1.b.cr, .slice h1.b.ae h1.b.ne h1.b.ce, .bool false, .int .u64 0, .slice h1.ad 0 h1.cd, .slice h1.al h1.nl h1.cl, .bool false, .int .i64 0], .int .i64 e]) ∧ Below w.heap.size w w') := by
  have h := signout_any a h w S hp hS hs
  rw [he] at h
  exact h.mono fun en w' ⟨h', e1, o1, hb⟩ => ⟨h', (by rw [e1]; have q : h'.nd = 0 := o1.edits.sl.len.symm; simp only [q]; rfl), hb⟩
/-- What an edit that was taken leaves. -/
theorem ed_more {a a3 : Ar} {x : Edit} {e3 : Int} (hs : noOne a = false) (h3 : editF a x = (a3, e3)) (h0 : e3 = 0) : a3 = { a with open_ := true, edits := a.edits ++ [x] } := by
  subst h0
  unfold editF at h3
  rw [hs, if_neg (by simp)] at h3
  split at h3
  · have := congrArg Prod.snd h3; simp at this
  · split at h3
    · rename_i h5; exact absurd (congrArg Prod.snd h3) h5
    · exact (congrArg Prod.fst h3).symm
set_option maxRecDepth 100000 in
set_option maxHeartbeats 8000000 in
theorem sg_early (s1 s2 : ByteArray) (kd m : Int) (tx of : ByteArray) (ed : Edit) (pn : Pnr) (hd : Hd) (ver : Int) (al : Option Addr) (nl cl : Nat) (A : Option Addr) (n c : Nat) (w : World) (hsb : smallB hd = false ∨ (smallB hd = true ∧ 200 < nl) ∨ (smallB hd = true ∧ ¬ 200 < nl ∧ 100 < n) ∨ (smallB hd = true ∧ ¬ 200 < nl ∧ ¬ 100 < n ∧ 100 < s1.size) ∨ (smallB hd = true ∧ ¬ 200 < nl ∧ ¬ 100 < n ∧ ¬ 100 < s1.size ∧ 100 < s2.size)) :
    Calls Tryd.prog 5 #[.string s1, .string s2, .agg (List.toArray (Value.int .i64 kd :: Value.int .i64 m :: Value.string tx :: Value.string of :: Value.int .i64 ed.kind :: Value.string ed.nam.last :: Value.string ed.nam.first :: Value.string ed.seg.car :: Value.int .i64 ed.seg.num :: Value.int .i64 ed.seg.day :: Value.int .u8 ed.seg.cls :: Value.bool ed.seg.live :: Value.int .i64 ed.tik.kind :: Value.int .i64 ed.tik.day :: Value.int .i64 ed.tik.min :: Value.string ed.text :: Value.int .i64 ed.n :: Value.int .i64 ed.pax :: Value.int .i64 ed.row :: Value.int .u8 ed.let_ :: Value.string pn.loc :: Value.string pn.off :: Value.slice hd.an hd.nn hd.cn :: Value.slice hd.ag hd.ng hd.cg :: Value.slice hd.ap hd.np hd.cp :: Value.int .i64 pn.tik.kind :: Value.int .i64 pn.tik.day :: Value.int .i64 pn.tik.min :: Value.string pn.rc :: Value.slice hd.ar hd.nr hd.cr :: Value.slice hd.ae hd.ne hd.ce :: Value.bool pn.queued :: Value.int .u64 ver :: Value.slice al nl cl :: [])), .slice A n c] w (RetB w true) := by
  have bx := Bx.new w (List.toArray (Value.int .i64 kd :: Value.int .i64 m :: Value.string tx :: Value.string of :: Value.int .i64 ed.kind :: Value.string ed.nam.last :: Value.string ed.nam.first :: Value.string ed.seg.car :: Value.int .i64 ed.seg.num :: Value.int .i64 ed.seg.day :: Value.int .u8 ed.seg.cls :: Value.bool ed.seg.live :: Value.int .i64 ed.tik.kind :: Value.int .i64 ed.tik.day :: Value.int .i64 ed.tik.min :: Value.string ed.text :: Value.int .i64 ed.n :: Value.int .i64 ed.pax :: Value.int .i64 ed.row :: Value.int .u8 ed.let_ :: Value.string pn.loc :: Value.string pn.off :: Value.slice hd.an hd.nn hd.cn :: Value.slice hd.ag hd.ng hd.cg :: Value.slice hd.ap hd.np hd.cp :: Value.int .i64 pn.tik.kind :: Value.int .i64 pn.tik.day :: Value.int .i64 pn.tik.min :: Value.string pn.rc :: Value.slice hd.ar hd.nr hd.cr :: Value.slice hd.ae hd.ne hd.ce :: Value.bool pn.queued :: Value.int .u64 ver :: Value.slice al nl cl :: [])) 65
  have B0 : Below w.heap.size w (w.alloc (.cells (List.toArray (Value.int .i64 kd :: Value.int .i64 m :: Value.string tx :: Value.string of :: Value.int .i64 ed.kind :: Value.string ed.nam.last :: Value.string ed.nam.first :: Value.string ed.seg.car :: Value.int .i64 ed.seg.num :: Value.int .i64 ed.seg.day :: Value.int .u8 ed.seg.cls :: Value.bool ed.seg.live :: Value.int .i64 ed.tik.kind :: Value.int .i64 ed.tik.day :: Value.int .i64 ed.tik.min :: Value.string ed.text :: Value.int .i64 ed.n :: Value.int .i64 ed.pax :: Value.int .i64 ed.row :: Value.int .u8 ed.let_ :: Value.string pn.loc :: Value.string pn.off :: Value.slice hd.an hd.nn hd.cn :: Value.slice hd.ag hd.ng hd.cg :: Value.slice hd.ap hd.np hd.cp :: Value.int .i64 pn.tik.kind :: Value.int .i64 pn.tik.day :: Value.int .i64 pn.tik.min :: Value.string pn.rc :: Value.slice hd.ar hd.nr hd.cr :: Value.slice hd.ae hd.ne hd.ce :: Value.bool pn.queued :: Value.int .u64 ver :: Value.slice al nl cl :: [])) 65)) := (Below.refl _ _).alloc (Nat.le_refl _) _
  rcases hsb with hsb | ⟨hsb, i1⟩ | ⟨hsb, i1, i2⟩ | ⟨hsb, i1, i2, i3⟩ | ⟨hsb, i1, i2, i3, i4⟩
  all_goals
    try have j1 : (200 : Int) < nl := by omega
    try have j1 : ¬ (200 : Int) < nl := by omega
    try have j2 : (100 : Int) < n := by omega
    try have j2 : ¬ (100 : Int) < n := by omega
    try have j3 : (100 : Int) < s1.size := by omega
    try have j3 : ¬ (100 : Int) < s1.size := by omega
    try have j4 : (100 : Int) < s2.size := by omega
    try clear i4
    try clear i3
    try clear i2
    try clear i1
    go_enter Tryd.func5, Tryd.ntmps5
    go_wp2_with fail
    refine (awake19_any _).mono ?_
    rintro en w1 ⟨rfl, hb1⟩
    have bx1 := bx.below hb1 bx.lt
    have B1 := B0.trans (hb1.mono B0.size)
    have x1 := bx1.cells
    have z1 := bx1.lt
    go_wp2_with fail
    refine (small_any pn hd _).mono ?_
    rintro en w2 ⟨rfl, hb2⟩
    rw [hsb]
    have bx2 := bx1.below hb2 z1
    have B2 := B1.trans (hb2.mono B1.size)
    have x2 := bx2.cells
    have z2 := bx2.lt
    clear x1 hb1 hb2 bx1 B1 bx B0 z1
    go_wp2
    all_goals first | (exfalso; omega) | (go_ret; exact ⟨rfl, B2⟩)
set_option maxRecDepth 100000 in
set_option maxHeartbeats 8000000 in
theorem sg_main (s1 s2 : ByteArray) (kd m : Int) (tx of : ByteArray) (ed : Edit) (pn : Pnr) (hd : Hd) (ver : Int) (al : Option Addr) (nl cl : Nat) (A : Option Addr) (n c : Nat) (w : World) (es : List Edit) (ls : List Lg) (hg : okStr s1) (ho : okStr s2) (hed : ed.ok) (hl : Sl w 0 w.heap.size tLeg al nl ls) (hlc : al = none → cl = 0) (hes : Sl w 0 w.heap.size tEdit A n es) (hsb : smallB hd = true) (hnl : ¬ 200 < nl) (hn : ¬ 100 < n) (hgs : ¬ 100 < s1.size) (hos : ¬ 100 < s2.size) :
    Calls Tryd.prog 5 #[.string s1, .string s2, .agg (List.toArray (Value.int .i64 kd :: Value.int .i64 m :: Value.string tx :: Value.string of :: Value.int .i64 ed.kind :: Value.string ed.nam.last :: Value.string ed.nam.first :: Value.string ed.seg.car :: Value.int .i64 ed.seg.num :: Value.int .i64 ed.seg.day :: Value.int .u8 ed.seg.cls :: Value.bool ed.seg.live :: Value.int .i64 ed.tik.kind :: Value.int .i64 ed.tik.day :: Value.int .i64 ed.tik.min :: Value.string ed.text :: Value.int .i64 ed.n :: Value.int .i64 ed.pax :: Value.int .i64 ed.row :: Value.int .u8 ed.let_ :: Value.string pn.loc :: Value.string pn.off :: Value.slice hd.an hd.nn hd.cn :: Value.slice hd.ag hd.ng hd.cg :: Value.slice hd.ap hd.np hd.cp :: Value.int .i64 pn.tik.kind :: Value.int .i64 pn.tik.day :: Value.int .i64 pn.tik.min :: Value.string pn.rc :: Value.slice hd.ar hd.nr hd.cr :: Value.slice hd.ae hd.ne hd.ce :: Value.bool pn.queued :: Value.int .u64 ver :: Value.slice al nl cl :: [])), .slice A n c] w (RetB w true) := by
  have HED := Lib.hid hed
  have HL := Lib.hid hl
  have HLC := Lib.hid hlc
  have HES := Lib.hid hes
  have HG := Lib.hid hg
  have HO := Lib.hid ho
  have j1 : ¬ (200 : Int) < nl := by omega
  have j2 : ¬ (100 : Int) < n := by omega
  have j3 : ¬ (100 : Int) < s1.size := by omega
  have j4 : ¬ (100 : Int) < s2.size := by omega
  clear hed hl hlc hes hg ho hgs hos
  have bx := Bx.new w (List.toArray (Value.int .i64 kd :: Value.int .i64 m :: Value.string tx :: Value.string of :: Value.int .i64 ed.kind :: Value.string ed.nam.last :: Value.string ed.nam.first :: Value.string ed.seg.car :: Value.int .i64 ed.seg.num :: Value.int .i64 ed.seg.day :: Value.int .u8 ed.seg.cls :: Value.bool ed.seg.live :: Value.int .i64 ed.tik.kind :: Value.int .i64 ed.tik.day :: Value.int .i64 ed.tik.min :: Value.string ed.text :: Value.int .i64 ed.n :: Value.int .i64 ed.pax :: Value.int .i64 ed.row :: Value.int .u8 ed.let_ :: Value.string pn.loc :: Value.string pn.off :: Value.slice hd.an hd.nn hd.cn :: Value.slice hd.ag hd.ng hd.cg :: Value.slice hd.ap hd.np hd.cp :: Value.int .i64 pn.tik.kind :: Value.int .i64 pn.tik.day :: Value.int .i64 pn.tik.min :: Value.string pn.rc :: Value.slice hd.ar hd.nr hd.cr :: Value.slice hd.ae hd.ne hd.ce :: Value.bool pn.queued :: Value.int .u64 ver :: Value.slice al nl cl :: [])) 65
  have B0 : Below w.heap.size w (w.alloc (.cells (List.toArray (Value.int .i64 kd :: Value.int .i64 m :: Value.string tx :: Value.string of :: Value.int .i64 ed.kind :: Value.string ed.nam.last :: Value.string ed.nam.first :: Value.string ed.seg.car :: Value.int .i64 ed.seg.num :: Value.int .i64 ed.seg.day :: Value.int .u8 ed.seg.cls :: Value.bool ed.seg.live :: Value.int .i64 ed.tik.kind :: Value.int .i64 ed.tik.day :: Value.int .i64 ed.tik.min :: Value.string ed.text :: Value.int .i64 ed.n :: Value.int .i64 ed.pax :: Value.int .i64 ed.row :: Value.int .u8 ed.let_ :: Value.string pn.loc :: Value.string pn.off :: Value.slice hd.an hd.nn hd.cn :: Value.slice hd.ag hd.ng hd.cg :: Value.slice hd.ap hd.np hd.cp :: Value.int .i64 pn.tik.kind :: Value.int .i64 pn.tik.day :: Value.int .i64 pn.tik.min :: Value.string pn.rc :: Value.slice hd.ar hd.nr hd.cr :: Value.slice hd.ae hd.ne hd.ce :: Value.bool pn.queued :: Value.int .u64 ver :: Value.slice al nl cl :: [])) 65)) := (Below.refl _ _).alloc (Nat.le_refl _) _
  go_enter Tryd.func5, Tryd.ntmps5
  go_wp2_with fail
  refine (awake19_any _).mono ?_
  rintro en w1 ⟨rfl, hb1⟩
  have bx1 := bx.below hb1 bx.lt
  have B1 := B0.trans (hb1.mono B0.size)
  have x1 := bx1.cells
  have z1 := bx1.lt
  go_wp2_with fail
  refine (small_any pn hd _).mono ?_
  rintro en w2 ⟨rfl, hb2⟩
  rw [hsb]
  have bx2 := bx1.below hb2 z1
  have B2 := B1.trans (hb2.mono B1.size)
  have x2 := bx2.cells
  have z2 := bx2.lt
  clear x1 hb1 hb2 bx1 B1 bx B0 z1
  go_upto_region 6 with (refine store_ra rfl (.tmp 9) (.tmp 63) rfl #[.string ⟨#[]⟩, .string ⟨#[]⟩, .bool false, .string ⟨#[]⟩, .string ⟨#[]⟩, .slice none 0 0, .slice none 0 0, .slice none 0 0, .int .i64 0, .int .i64 0, .int .i64 0, .string ⟨#[]⟩, .slice none 0 0, .slice none 0 0, .bool false, .int .u64 0, .slice none 0 0, .slice none 0 0, .bool false, .int .i64 0] rfl rfl (Bx.new w2 #[.string ⟨#[]⟩, .string ⟨#[]⟩, .bool false, .string ⟨#[]⟩, .string ⟨#[]⟩, .slice none 0 0, .slice none 0 0, .slice none 0 0, .int .i64 0, .int .i64 0, .int .i64 0, .string ⟨#[]⟩, .slice none 0 0, .slice none 0 0, .bool false, .int .u64 0, .slice none 0 0, .slice none 0 0, .bool false, .int .i64 0] 36) rfl rfl (by simp [Value.oneCell']) ?_)
  all_goals try (exfalso; omega)
  refine wp_world (SX w (List.toArray (Value.int .i64 kd :: Value.int .i64 m :: Value.string tx :: Value.string of :: Value.int .i64 ed.kind :: Value.string ed.nam.last :: Value.string ed.nam.first :: Value.string ed.seg.car :: Value.int .i64 ed.seg.num :: Value.int .i64 ed.seg.day :: Value.int .u8 ed.seg.cls :: Value.bool ed.seg.live :: Value.int .i64 ed.tik.kind :: Value.int .i64 ed.tik.day :: Value.int .i64 ed.tik.min :: Value.string ed.text :: Value.int .i64 ed.n :: Value.int .i64 ed.pax :: Value.int .i64 ed.row :: Value.int .u8 ed.let_ :: Value.string pn.loc :: Value.string pn.off :: Value.slice hd.an hd.nn hd.cn :: Value.slice hd.ag hd.ng hd.cg :: Value.slice hd.ap hd.np hd.cp :: Value.int .i64 pn.tik.kind :: Value.int .i64 pn.tik.day :: Value.int .i64 pn.tik.min :: Value.string pn.rc :: Value.slice hd.ar hd.nr hd.cr :: Value.slice hd.ae hd.ne hd.ce :: Value.bool pn.queued :: Value.int .u64 ver :: Value.slice al nl cl :: [])) w2.heap.size) ⟨below_setRow (B2.alloc B2.size _) B2.size _, (bx2.alloc _).rowOther (by omega) _, (Bx.new w2 #[.string ⟨#[]⟩, .string ⟨#[]⟩, .bool false, .string ⟨#[]⟩, .string ⟨#[]⟩, .slice none 0 0, .slice none 0 0, .slice none 0 0, .int .i64 0, .int .i64 0, .int .i64 0, .string ⟨#[]⟩, .slice none 0 0, .slice none 0 0, .bool false, .int .u64 0, .slice none 0 0, .slice none 0 0, .bool false, .int .i64 0] 36).row _⟩ ?_
  clear bx2 B2 x2 z2 j1 j3 j4
  generalize w2.heap.size = g9
  intro W H
  have x1 := H.bx.cells
  have y1 := H.bx.lt
  go_wp2_with (first | (refine load_ra rfl (.tmp 9) rfl rfl H.b9 rfl ?_) | (refine wpList_load_mid rfl 56 (.tmp 66) rfl w.heap.size 4 rfl [.int .i64 ed.kind, .string ed.nam.last, .string ed.nam.first, .string ed.seg.car, .int .i64 ed.seg.num, .int .i64 ed.seg.day, .int .u8 ed.seg.cls, .bool ed.seg.live, .int .i64 ed.tik.kind, .int .i64 ed.tik.day, .int .i64 ed.tik.min, .string ed.text, .int .i64 ed.n, .int .i64 ed.pax, .int .i64 ed.row, .int .u8 ed.let_] _ (H.bx.range 4 16 _ rfl) Tryd.underlying56 rfl info_edi ?_))
  refine (e0_edit ed _ HED.out).mono ?_
  rintro en w1 ⟨cs, rfl, hs, ho9, hb1⟩
  have H1 := H.step hb1
  clear x1 y1
  go_upto_region 7 with (refine store_ra rfl (.tmp 10) (.tmp 69) rfl cs rfl rfl (Bx.new w1 #[.string ⟨#[]⟩, .string ⟨#[]⟩, .bool false, .string ⟨#[]⟩, .string ⟨#[]⟩, .slice none 0 0, .slice none 0 0, .slice none 0 0, .int .i64 0, .int .i64 0, .int .i64 0, .string ⟨#[]⟩, .slice none 0 0, .slice none 0 0, .bool false, .int .u64 0, .slice none 0 0, .slice none 0 0, .bool false, .int .i64 0] 36) hs rfl ho9 ?_)
  refine wp_world (SX w (List.toArray (Value.int .i64 kd :: Value.int .i64 m :: Value.string tx :: Value.string of :: Value.int .i64 ed.kind :: Value.string ed.nam.last :: Value.string ed.nam.first :: Value.string ed.seg.car :: Value.int .i64 ed.seg.num :: Value.int .i64 ed.seg.day :: Value.int .u8 ed.seg.cls :: Value.bool ed.seg.live :: Value.int .i64 ed.tik.kind :: Value.int .i64 ed.tik.day :: Value.int .i64 ed.tik.min :: Value.string ed.text :: Value.int .i64 ed.n :: Value.int .i64 ed.pax :: Value.int .i64 ed.row :: Value.int .u8 ed.let_ :: Value.string pn.loc :: Value.string pn.off :: Value.slice hd.an hd.nn hd.cn :: Value.slice hd.ag hd.ng hd.cg :: Value.slice hd.ap hd.np hd.cp :: Value.int .i64 pn.tik.kind :: Value.int .i64 pn.tik.day :: Value.int .i64 pn.tik.min :: Value.string pn.rc :: Value.slice hd.ar hd.nr hd.cr :: Value.slice hd.ae hd.ne hd.ce :: Value.bool pn.queued :: Value.int .u64 ver :: Value.slice al nl cl :: [])) g9) (H1.box _ _) ?_
  clear H H1
  intro W H
  have x1 := H.bx.cells
  have y1 := H.bx.lt
  go_wp2_with (first | (refine load_ra rfl (.tmp 9) rfl rfl H.b9 rfl ?_) | (refine wpList_load_mid rfl 29 (.tmp 73) rfl w.heap.size 20 rfl [.string pn.loc, .string pn.off, .slice hd.an hd.nn hd.cn, .slice hd.ag hd.ng hd.cg, .slice hd.ap hd.np hd.cp, .int .i64 pn.tik.kind, .int .i64 pn.tik.day, .int .i64 pn.tik.min, .string pn.rc, .slice hd.ar hd.nr hd.cr, .slice hd.ae hd.ne hd.ce, .bool pn.queued] _ (H.bx.range 20 12 _ rfl) Tryd.underlying29 rfl info_pnr ?_))
  refine (e0_load pn hd ver _).mono ?_
  rintro en w1 ⟨cs, rfl, hs, ho9, hb1⟩
  have H1 := H.step hb1
  clear x1 y1
  go_upto_region 8 with (refine store_ra rfl (.tmp 12) (.tmp 78) rfl cs rfl rfl (Bx.new w1 #[.string ⟨#[]⟩, .string ⟨#[]⟩, .bool false, .string ⟨#[]⟩, .string ⟨#[]⟩, .slice none 0 0, .slice none 0 0, .slice none 0 0, .int .i64 0, .int .i64 0, .int .i64 0, .string ⟨#[]⟩, .slice none 0 0, .slice none 0 0, .bool false, .int .u64 0, .slice none 0 0, .slice none 0 0, .bool false, .int .i64 0] 36) hs rfl ho9 ?_)
  refine wp_world (SX w (List.toArray (Value.int .i64 kd :: Value.int .i64 m :: Value.string tx :: Value.string of :: Value.int .i64 ed.kind :: Value.string ed.nam.last :: Value.string ed.nam.first :: Value.string ed.seg.car :: Value.int .i64 ed.seg.num :: Value.int .i64 ed.seg.day :: Value.int .u8 ed.seg.cls :: Value.bool ed.seg.live :: Value.int .i64 ed.tik.kind :: Value.int .i64 ed.tik.day :: Value.int .i64 ed.tik.min :: Value.string ed.text :: Value.int .i64 ed.n :: Value.int .i64 ed.pax :: Value.int .i64 ed.row :: Value.int .u8 ed.let_ :: Value.string pn.loc :: Value.string pn.off :: Value.slice hd.an hd.nn hd.cn :: Value.slice hd.ag hd.ng hd.cg :: Value.slice hd.ap hd.np hd.cp :: Value.int .i64 pn.tik.kind :: Value.int .i64 pn.tik.day :: Value.int .i64 pn.tik.min :: Value.string pn.rc :: Value.slice hd.ar hd.nr hd.cr :: Value.slice hd.ae hd.ne hd.ce :: Value.bool pn.queued :: Value.int .u64 ver :: Value.slice al nl cl :: [])) g9) (H1.box _ _) ?_
  clear H H1
  intro W H
  have x1 := H.bx.cells
  have y1 := H.bx.lt
  go_wp2_with (first | (refine load_ra rfl (.tmp 9) rfl rfl H.b9 rfl ?_))
  refine (e0_ignore _).mono ?_
  rintro en w1 ⟨cs, rfl, hs, ho9, hb1⟩
  have H1 := H.step hb1
  clear x1 y1
  go_upto_region 9 with (refine store_ra rfl (.tmp 14) (.tmp 83) rfl cs rfl rfl (Bx.new w1 #[.string ⟨#[]⟩, .string ⟨#[]⟩, .bool false, .string ⟨#[]⟩, .string ⟨#[]⟩, .slice none 0 0, .slice none 0 0, .slice none 0 0, .int .i64 0, .int .i64 0, .int .i64 0, .string ⟨#[]⟩, .slice none 0 0, .slice none 0 0, .bool false, .int .u64 0, .slice none 0 0, .slice none 0 0, .bool false, .int .i64 0] 36) hs rfl ho9 ?_)
  refine wp_world (SX w (List.toArray (Value.int .i64 kd :: Value.int .i64 m :: Value.string tx :: Value.string of :: Value.int .i64 ed.kind :: Value.string ed.nam.last :: Value.string ed.nam.first :: Value.string ed.seg.car :: Value.int .i64 ed.seg.num :: Value.int .i64 ed.seg.day :: Value.int .u8 ed.seg.cls :: Value.bool ed.seg.live :: Value.int .i64 ed.tik.kind :: Value.int .i64 ed.tik.day :: Value.int .i64 ed.tik.min :: Value.string ed.text :: Value.int .i64 ed.n :: Value.int .i64 ed.pax :: Value.int .i64 ed.row :: Value.int .u8 ed.let_ :: Value.string pn.loc :: Value.string pn.off :: Value.slice hd.an hd.nn hd.cn :: Value.slice hd.ag hd.ng hd.cg :: Value.slice hd.ap hd.np hd.cp :: Value.int .i64 pn.tik.kind :: Value.int .i64 pn.tik.day :: Value.int .i64 pn.tik.min :: Value.string pn.rc :: Value.slice hd.ar hd.nr hd.cr :: Value.slice hd.ae hd.ne hd.ce :: Value.bool pn.queued :: Value.int .u64 ver :: Value.slice al nl cl :: [])) g9) (H1.box _ _) ?_
  clear H H1
  intro W H
  have x1 := H.bx.cells
  have y1 := H.bx.lt
  go_wp2_with (first | (refine load_ra rfl (.tmp 9) rfl rfl H.b9 rfl ?_))
  refine (e0_list ls al nl cl _ ((HL.out.below H.B (Nat.le_refl _)).sls HLC.out |>.mono fun b hb => Nat.lt_of_lt_of_le hb.2 H.B.size) (by omega)).mono ?_
  rintro en w1 ⟨cs, rfl, hs, ho9, hb1⟩
  have H1 := H.step hb1
  clear x1 y1
  go_upto_region 10 with (refine store_ra rfl (.tmp 16) (.tmp 90) rfl cs rfl rfl (Bx.new w1 #[.string ⟨#[]⟩, .string ⟨#[]⟩, .bool false, .string ⟨#[]⟩, .string ⟨#[]⟩, .slice none 0 0, .slice none 0 0, .slice none 0 0, .int .i64 0, .int .i64 0, .int .i64 0, .string ⟨#[]⟩, .slice none 0 0, .slice none 0 0, .bool false, .int .u64 0, .slice none 0 0, .slice none 0 0, .bool false, .int .i64 0] 36) hs rfl ho9 ?_)
  refine wp_world (SX w (List.toArray (Value.int .i64 kd :: Value.int .i64 m :: Value.string tx :: Value.string of :: Value.int .i64 ed.kind :: Value.string ed.nam.last :: Value.string ed.nam.first :: Value.string ed.seg.car :: Value.int .i64 ed.seg.num :: Value.int .i64 ed.seg.day :: Value.int .u8 ed.seg.cls :: Value.bool ed.seg.live :: Value.int .i64 ed.tik.kind :: Value.int .i64 ed.tik.day :: Value.int .i64 ed.tik.min :: Value.string ed.text :: Value.int .i64 ed.n :: Value.int .i64 ed.pax :: Value.int .i64 ed.row :: Value.int .u8 ed.let_ :: Value.string pn.loc :: Value.string pn.off :: Value.slice hd.an hd.nn hd.cn :: Value.slice hd.ag hd.ng hd.cg :: Value.slice hd.ap hd.np hd.cp :: Value.int .i64 pn.tik.kind :: Value.int .i64 pn.tik.day :: Value.int .i64 pn.tik.min :: Value.string pn.rc :: Value.slice hd.ar hd.nr hd.cr :: Value.slice hd.ae hd.ne hd.ce :: Value.bool pn.queued :: Value.int .u64 ver :: Value.slice al nl cl :: [])) g9) (H1.box _ _) ?_
  clear H H1
  intro W H
  have x1 := H.bx.cells
  have y1 := H.bx.lt
  go_wp2_with (first | (refine load_ra rfl (.tmp 9) rfl rfl H.b9 rfl ?_))
  refine (e0_line m _).mono ?_
  rintro en w1 ⟨rfl, hb1⟩
  have H1 := H.step hb1
  clear x1 y1
  go_upto_region 11 with fail
  refine wp_world (SX w (List.toArray (Value.int .i64 kd :: Value.int .i64 m :: Value.string tx :: Value.string of :: Value.int .i64 ed.kind :: Value.string ed.nam.last :: Value.string ed.nam.first :: Value.string ed.seg.car :: Value.int .i64 ed.seg.num :: Value.int .i64 ed.seg.day :: Value.int .u8 ed.seg.cls :: Value.bool ed.seg.live :: Value.int .i64 ed.tik.kind :: Value.int .i64 ed.tik.day :: Value.int .i64 ed.tik.min :: Value.string ed.text :: Value.int .i64 ed.n :: Value.int .i64 ed.pax :: Value.int .i64 ed.row :: Value.int .u8 ed.let_ :: Value.string pn.loc :: Value.string pn.off :: Value.slice hd.an hd.nn hd.cn :: Value.slice hd.ag hd.ng hd.cg :: Value.slice hd.ap hd.np hd.cp :: Value.int .i64 pn.tik.kind :: Value.int .i64 pn.tik.day :: Value.int .i64 pn.tik.min :: Value.string pn.rc :: Value.slice hd.ar hd.nr hd.cr :: Value.slice hd.ae hd.ne hd.ce :: Value.bool pn.queued :: Value.int .u64 ver :: Value.slice al nl cl :: [])) g9) (by first | exact H1.alloc _ | (refine H1.step ?_; (repeat (first | with_reducible exact Below.refl _ _ | (with_reducible refine Below.drew ?_) | (with_reducible refine below_drewN ?_ _) | (with_reducible refine Below.alloc ?_ (by first | (simp; done) | omega | (simp; omega)) _) | (with_reducible refine Below.setCell ?_ (by first | (simp; done) | omega | (simp; omega)) _) | (with_reducible refine Below.trans ?_ (Below.mono hb1 (by first | (simp; done) | omega | (simp; omega)))) | with_reducible assumption)))) ?_
  clear H H1
  intro W H
  have x1 := H.bx.cells
  have y1 := H.bx.lt
  go_wp2_with (first | (refine load_ra rfl (.tmp 9) rfl rfl H.b9 rfl ?_))
  refine (e0_work m _).mono ?_
  rintro en w1 ⟨cs, rfl, hs, ho9, hb1⟩
  have H1 := H.step hb1
  clear x1 y1
  go_upto_region 12 with (refine store_ra rfl (.tmp 20) (.tmp 104) rfl cs rfl rfl (Bx.new w1 #[.string ⟨#[]⟩, .string ⟨#[]⟩, .bool false, .string ⟨#[]⟩, .string ⟨#[]⟩, .slice none 0 0, .slice none 0 0, .slice none 0 0, .int .i64 0, .int .i64 0, .int .i64 0, .string ⟨#[]⟩, .slice none 0 0, .slice none 0 0, .bool false, .int .u64 0, .slice none 0 0, .slice none 0 0, .bool false, .int .i64 0] 36) hs rfl ho9 ?_)
  refine wp_world (SX w (List.toArray (Value.int .i64 kd :: Value.int .i64 m :: Value.string tx :: Value.string of :: Value.int .i64 ed.kind :: Value.string ed.nam.last :: Value.string ed.nam.first :: Value.string ed.seg.car :: Value.int .i64 ed.seg.num :: Value.int .i64 ed.seg.day :: Value.int .u8 ed.seg.cls :: Value.bool ed.seg.live :: Value.int .i64 ed.tik.kind :: Value.int .i64 ed.tik.day :: Value.int .i64 ed.tik.min :: Value.string ed.text :: Value.int .i64 ed.n :: Value.int .i64 ed.pax :: Value.int .i64 ed.row :: Value.int .u8 ed.let_ :: Value.string pn.loc :: Value.string pn.off :: Value.slice hd.an hd.nn hd.cn :: Value.slice hd.ag hd.ng hd.cg :: Value.slice hd.ap hd.np hd.cp :: Value.int .i64 pn.tik.kind :: Value.int .i64 pn.tik.day :: Value.int .i64 pn.tik.min :: Value.string pn.rc :: Value.slice hd.ar hd.nr hd.cr :: Value.slice hd.ae hd.ne hd.ce :: Value.bool pn.queued :: Value.int .u64 ver :: Value.slice al nl cl :: [])) g9) (H1.box _ _) ?_
  clear H H1
  intro W H
  have x1 := H.bx.cells
  have y1 := H.bx.lt
  go_wp2_with (first | (refine load_ra rfl (.tmp 9) rfl rfl H.b9 rfl ?_))
  refine (e0_leave _).mono ?_
  rintro en w1 ⟨cs, rfl, hs, ho9, hb1⟩
  have H1 := H.step hb1
  clear x1 y1
  go_upto_region 13 with (refine store_ra rfl (.tmp 22) (.tmp 109) rfl cs rfl rfl (Bx.new w1 #[.string ⟨#[]⟩, .string ⟨#[]⟩, .bool false, .string ⟨#[]⟩, .string ⟨#[]⟩, .slice none 0 0, .slice none 0 0, .slice none 0 0, .int .i64 0, .int .i64 0, .int .i64 0, .string ⟨#[]⟩, .slice none 0 0, .slice none 0 0, .bool false, .int .u64 0, .slice none 0 0, .slice none 0 0, .bool false, .int .i64 0] 36) hs rfl ho9 ?_)
  refine wp_world (SX w (List.toArray (Value.int .i64 kd :: Value.int .i64 m :: Value.string tx :: Value.string of :: Value.int .i64 ed.kind :: Value.string ed.nam.last :: Value.string ed.nam.first :: Value.string ed.seg.car :: Value.int .i64 ed.seg.num :: Value.int .i64 ed.seg.day :: Value.int .u8 ed.seg.cls :: Value.bool ed.seg.live :: Value.int .i64 ed.tik.kind :: Value.int .i64 ed.tik.day :: Value.int .i64 ed.tik.min :: Value.string ed.text :: Value.int .i64 ed.n :: Value.int .i64 ed.pax :: Value.int .i64 ed.row :: Value.int .u8 ed.let_ :: Value.string pn.loc :: Value.string pn.off :: Value.slice hd.an hd.nn hd.cn :: Value.slice hd.ag hd.ng hd.cg :: Value.slice hd.ap hd.np hd.cp :: Value.int .i64 pn.tik.kind :: Value.int .i64 pn.tik.day :: Value.int .i64 pn.tik.min :: Value.string pn.rc :: Value.slice hd.ar hd.nr hd.cr :: Value.slice hd.ae hd.ne hd.ce :: Value.bool pn.queued :: Value.int .u64 ver :: Value.slice al nl cl :: [])) g9) (H1.box _ _) ?_
  clear H H1
  intro W H
  have x1 := H.bx.cells
  have y1 := H.bx.lt
  go_wp2_with (first | (refine load_ra rfl (.tmp 9) rfl rfl H.b9 rfl ?_))
  refine (e0_out _).mono ?_
  rintro en w1 ⟨cs, rfl, hs, ho9, hb1⟩
  have H1 := H.step hb1
  clear x1 y1
  go_upto_region 14 with (refine store_ra rfl (.tmp 24) (.tmp 114) rfl cs rfl rfl (Bx.new w1 #[.string ⟨#[]⟩, .string ⟨#[]⟩, .bool false, .string ⟨#[]⟩, .string ⟨#[]⟩, .slice none 0 0, .slice none 0 0, .slice none 0 0, .int .i64 0, .int .i64 0, .int .i64 0, .string ⟨#[]⟩, .slice none 0 0, .slice none 0 0, .bool false, .int .u64 0, .slice none 0 0, .slice none 0 0, .bool false, .int .i64 0] 36) hs rfl ho9 ?_)
  refine wp_world (SX w (List.toArray (Value.int .i64 kd :: Value.int .i64 m :: Value.string tx :: Value.string of :: Value.int .i64 ed.kind :: Value.string ed.nam.last :: Value.string ed.nam.first :: Value.string ed.seg.car :: Value.int .i64 ed.seg.num :: Value.int .i64 ed.seg.day :: Value.int .u8 ed.seg.cls :: Value.bool ed.seg.live :: Value.int .i64 ed.tik.kind :: Value.int .i64 ed.tik.day :: Value.int .i64 ed.tik.min :: Value.string ed.text :: Value.int .i64 ed.n :: Value.int .i64 ed.pax :: Value.int .i64 ed.row :: Value.int .u8 ed.let_ :: Value.string pn.loc :: Value.string pn.off :: Value.slice hd.an hd.nn hd.cn :: Value.slice hd.ag hd.ng hd.cg :: Value.slice hd.ap hd.np hd.cp :: Value.int .i64 pn.tik.kind :: Value.int .i64 pn.tik.day :: Value.int .i64 pn.tik.min :: Value.string pn.rc :: Value.slice hd.ar hd.nr hd.cr :: Value.slice hd.ae hd.ne hd.ce :: Value.bool pn.queued :: Value.int .u64 ver :: Value.slice al nl cl :: [])) g9) (H1.box _ _) ?_
  clear H H1
  intro W H
  as_aux_lemma =>
    rcases Bool.eq_false_or_eq_true (agentB s1 && wordB s2 3 3) with hf | hf
    case inr =>
      go_wp2_with (refine load_ra rfl (.tmp 9) rfl rfl H.b9 rfl ?_)
      refine (e0_in s1 s2 _ HG.out HO.out hf).mono ?_
      rintro en w1 ⟨h1, rfl, hb1⟩
      have H1 := H.step hb1
      go_upto_region 17 with (refine store_ra rfl (.tmp 26) (.tmp 151) rfl #[.string ⟨#[]⟩, .string ⟨#[]⟩, .bool false, .string ⟨#[]⟩, .string ⟨#[]⟩, .slice h1.b.an h1.b.nn h1.b.cn, .slice h1.b.ag h1.b.ng h1.b.cg, .slice h1.b.ap h1.b.np h1.b.cp, .int .i64 0, .int .i64 0, .int .i64 0, .string ⟨#[]⟩, .slice h1.b.ar h1.b.nr h1.b.cr, .slice h1.b.ae h1.b.ne h1.b.ce, .bool false, .int .u64 0, .slice h1.ad h1.nd h1.cd, .slice h1.al h1.nl h1.cl, .bool false, .int .i64 0] rfl rfl (Bx.new w1 #[.string ⟨#[]⟩, .string ⟨#[]⟩, .bool false, .string ⟨#[]⟩, .string ⟨#[]⟩, .slice none 0 0, .slice none 0 0, .slice none 0 0, .int .i64 0, .int .i64 0, .int .i64 0, .string ⟨#[]⟩, .slice none 0 0, .slice none 0 0, .bool false, .int .u64 0, .slice none 0 0, .slice none 0 0, .bool false, .int .i64 0] 36) rfl rfl (by simp [Value.oneCell']) ?_)
      refine wp_world (fun W => Below w.heap.size w W ∧ Bx W w1.heap.size #[.string ⟨#[]⟩, .string ⟨#[]⟩, .bool false, .string ⟨#[]⟩, .string ⟨#[]⟩, .slice h1.b.an h1.b.nn h1.b.cn, .slice h1.b.ag h1.b.ng h1.b.cg, .slice h1.b.ap h1.b.np h1.b.cp, .int .i64 0, .int .i64 0, .int .i64 0, .string ⟨#[]⟩, .slice h1.b.ar h1.b.nr h1.b.cr, .slice h1.b.ae h1.b.ne h1.b.ce, .bool false, .int .u64 0, .slice h1.ad h1.nd h1.cd, .slice h1.al h1.nl h1.cl, .bool false, .int .i64 0] 36) ⟨(H1.box _ _).B, (Bx.new w1 #[.string ⟨#[]⟩, .string ⟨#[]⟩, .bool false, .string ⟨#[]⟩, .string ⟨#[]⟩, .slice none 0 0, .slice none 0 0, .slice none 0 0, .int .i64 0, .int .i64 0, .int .i64 0, .string ⟨#[]⟩, .slice none 0 0, .slice none 0 0, .bool false, .int .u64 0, .slice none 0 0, .slice none 0 0, .bool false, .int .i64 0] 36).row _⟩ ?_
      rintro W2 ⟨B2, b2⟩
      have x2 := b2.cells
      have z2 := b2.lt
      clear H H1 hb1
      go_wp2
      go_ret
      exact ⟨rfl, B2⟩
    go_wp2_with (refine load_ra rfl (.tmp 9) rfl rfl H.b9 rfl ?_)
    refine (e1_in s1 s2 _ HG.out HO.out hf).mono ?_
    rintro en w1 ⟨a, h1, rfl, HA, o1, hb1⟩
    have H1 := H.step hb1
    go_upto_region 17 with (refine store_ra rfl (.tmp 26) (.tmp 151) rfl #[.string a.agent, .string a.off, .bool a.open_, .string a.base.loc, .string a.base.off, .slice h1.b.an h1.b.nn h1.b.cn, .slice h1.b.ag h1.b.ng h1.b.cg, .slice h1.b.ap h1.b.np h1.b.cp, .int .i64 a.base.tik.kind, .int .i64 a.base.tik.day, .int .i64 a.base.tik.min, .string a.base.rc, .slice h1.b.ar h1.b.nr h1.b.cr, .slice h1.b.ae h1.b.ne h1.b.ce, .bool a.base.queued, .int .u64 a.ver, .slice h1.ad h1.nd h1.cd, .slice h1.al h1.nl h1.cl, .bool a.working, .int .i64 a.queue] rfl rfl (Bx.new w1 #[.string ⟨#[]⟩, .string ⟨#[]⟩, .bool false, .string ⟨#[]⟩, .string ⟨#[]⟩, .slice none 0 0, .slice none 0 0, .slice none 0 0, .int .i64 0, .int .i64 0, .int .i64 0, .string ⟨#[]⟩, .slice none 0 0, .slice none 0 0, .bool false, .int .u64 0, .slice none 0 0, .slice none 0 0, .bool false, .int .i64 0] 36) rfl rfl (by simp [Value.oneCell']) ?_)
    have hK0 : AK w1.heap.size (fun _ => True) := ⟨fun _ _ _ => trivial, fun _ _ _ => trivial⟩
    have hX0 : AX w w1.heap.size (fun _ => True) a h1 _ := AX.start H1.B o1 #[.string ⟨#[]⟩, .string ⟨#[]⟩, .bool false, .string ⟨#[]⟩, .string ⟨#[]⟩, .slice none 0 0, .slice none 0 0, .slice none 0 0, .int .i64 0, .int .i64 0, .int .i64 0, .string ⟨#[]⟩, .slice none 0 0, .slice none 0 0, .bool false, .int .u64 0, .slice none 0 0, .slice none 0 0, .bool false, .int .i64 0] trivial
    obtain ⟨K, hK, hX1⟩ : ∃ K : World → Prop, AK w1.heap.size K ∧ AX w w1.heap.size K a h1 _ := ⟨_, hK0, hX0⟩
    refine wp_world (AX w w1.heap.size K a h1) hX1 ?_
    clear H H1 hb1 o1 hX0 hX1 hK0
    generalize w1.heap.size = g at hK ⊢
    intro W hX
    go_wp2
    go_loopw [28, 29, 30, 31] (fun m i _ _ wr => ∃ (k : Nat) (a : Ar) (h1 : AH), k ≤ n ∧ i = .int .i64 k ∧ m = .int .i64 h1.nd ∧ Hid (noOne a = false ∧ a.base.small 1000 ∧ a.edits.length ≤ k ∧ a.legs.length ≤ 1000) ∧ AX w g K a h1 wr) (fun _ i _ _ _ => n - (intOf i).toNat)
    case atStart => exact ⟨0, a, h1, Nat.zero_le _, rfl, (by rw [← hX.A.edits.len, HA.out.2.2.1]; rfl), ⟨HA.out.1, HA.out.2.1, (by rw [HA.out.2.2.1]; simp), HA.out.2.2.2⟩, hX⟩
    case round =>
      clear hX HA
      obtain ⟨k, a, h1, hk, rfl, rfl, HI, hX⟩ := hrel
      have hsA : a.small 1000 := ⟨HI.out.2.1, by have := HI.out.2.2.1; omega, HI.out.2.2.2⟩
      have HSA := Lib.hid hsA
      by_cases hlt : k < n
      · obtain ⟨b, o, x, rfl, e1, e2, hx, hok, c0, c1, c2, c3, c4, c5, c6, c7, c8, c9, c10, c11, c12, c13, c14, c15⟩ := HES.out.edit_ hlt
        have hC0 : C16 w b (o + k * 16) x := ⟨c0, c1, c2, c3, c4, c5, c6, c7, c8, c9, c10, c11, c12, c13, c14, c15⟩
        clear c0 c1 c2 c3 c4 c5 c6 c7 c8 c9 c10 c11 c12 c13 c14 c15
        have hk0 : (0 : Int) ≤ k := by omega
        have hkl : (k : Int) < n := by omega
        have HE := Lib.hid (fun (W : World) (S' : Nat → Prop) (h2 : AS W S' a h1) (h3 : ∀ b, S' b → b < W.heap.size) => edit_any a h1 x W S' h2 h3 hsA hok)
        generalize h3 : editF a x = r3 at HE
        obtain ⟨a3, e3⟩ := r3
        have HR3 := Lib.hid (fun h0 : e3 = 0 => ed_more HI.out.1 h3 h0)
        clear h3 hok hx hsA
        go_wp2
        rename World => W
        have hC : C16 W b (o + k * 16) x := C16.below hC0 hX.B e2
        have hXd := hX.drew hK
        have hCd : C16 W.drew b (o + k * 16) x := C16.keep hC fun _ => rfl
        have rd := hXd.b
        have ld := lda_of rd rfl
        have hXe := hXd.alloc hK (.cells #[.string ⟨#[]⟩, .string ⟨#[]⟩, .bool false, .string ⟨#[]⟩, .string ⟨#[]⟩, .slice none 0 0, .slice none 0 0, .slice none 0 0, .int .i64 0, .int .i64 0, .int .i64 0, .string ⟨#[]⟩, .slice none 0 0, .slice none 0 0, .bool false, .int .u64 0, .slice none 0 0, .slice none 0 0, .bool false, .int .i64 0] 36)
        have re := hXe.b
        have le := lda_of re rfl
        have hbs : b < W.heap.size := by have := hX.B.size; omega
        have hCe : C16 (W.drew.alloc (.cells #[.string ⟨#[]⟩, .string ⟨#[]⟩, .bool false, .string ⟨#[]⟩, .string ⟨#[]⟩, .slice none 0 0, .slice none 0 0, .slice none 0 0, .int .i64 0, .int .i64 0, .int .i64 0, .string ⟨#[]⟩, .slice none 0 0, .slice none 0 0, .bool false, .int .u64 0, .slice none 0 0, .slice none 0 0, .bool false, .int .i64 0] 36)) b (o + k * 16) x := C16.below (B := W.drew.heap.size) hCd ((Below.refl _ _).alloc (Nat.le_refl _) _) hbs
        have hbx0 : Bx (W.drew.alloc (.cells #[.string ⟨#[]⟩, .string ⟨#[]⟩, .bool false, .string ⟨#[]⟩, .string ⟨#[]⟩, .slice none 0 0, .slice none 0 0, .slice none 0 0, .int .i64 0, .int .i64 0, .int .i64 0, .string ⟨#[]⟩, .slice none 0 0, .slice none 0 0, .bool false, .int .u64 0, .slice none 0 0, .slice none 0 0, .bool false, .int .i64 0] 36)) W.heap.size #[.string ⟨#[]⟩, .string ⟨#[]⟩, .bool false, .string ⟨#[]⟩, .string ⟨#[]⟩, .slice none 0 0, .slice none 0 0, .slice none 0 0, .int .i64 0, .int .i64 0, .int .i64 0, .string ⟨#[]⟩, .slice none 0 0, .slice none 0 0, .bool false, .int .u64 0, .slice none 0 0, .slice none 0 0, .bool false, .int .i64 0] 36 := Bx.new W.drew _ _
        have hz := hX.lt
        go_cut [30, 31] (fun sA sB w' => ∃ g12 h3, sA = .pointer (some ⟨g12, 0, none⟩) ∧ sB = .int .i64 e3 ∧ AY w g K a h1 g12 a3 h3 w')
        case first =>
          go_region_held3 (fun w' => ((loadA (.pointer (some ⟨g, 0, none⟩))).run Tryd.prog w' = .ok (.agg #[.string a.agent, .string a.off, .bool a.open_, .string a.base.loc, .string a.base.off, .slice h1.b.an h1.b.nn h1.b.cn, .slice h1.b.ag h1.b.ng h1.b.cg, .slice h1.b.ap h1.b.np h1.b.cp, .int .i64 a.base.tik.kind, .int .i64 a.base.tik.day, .int .i64 a.base.tik.min, .string a.base.rc, .slice h1.b.ar h1.b.nr h1.b.cr, .slice h1.b.ae h1.b.ne h1.b.ce, .bool a.base.queued, .int .u64 a.ver, .slice h1.ad h1.nd h1.cd, .slice h1.al h1.nl h1.cl, .bool a.working, .int .i64 a.queue]) w') ∧ (w'.cell? ⟨b, o + k * 16, none⟩ = some (.int .i64 x.kind) ∧ w'.cell? ⟨b, o + k * 16 + 1, none⟩ = some (.string x.nam.last) ∧ w'.cell? ⟨b, o + k * 16 + 2, none⟩ = some (.string x.nam.first) ∧ w'.cell? ⟨b, o + k * 16 + 3, none⟩ = some (.string x.seg.car) ∧ w'.cell? ⟨b, o + k * 16 + 4, none⟩ = some (.int .i64 x.seg.num) ∧ w'.cell? ⟨b, o + k * 16 + 5, none⟩ = some (.int .i64 x.seg.day) ∧ w'.cell? ⟨b, o + k * 16 + 6, none⟩ = some (.int .u8 x.seg.cls) ∧ w'.cell? ⟨b, o + k * 16 + 7, none⟩ = some (.bool x.seg.live) ∧ w'.cell? ⟨b, o + k * 16 + 8, none⟩ = some (.int .i64 x.tik.kind) ∧ w'.cell? ⟨b, o + k * 16 + 9, none⟩ = some (.int .i64 x.tik.day) ∧ w'.cell? ⟨b, o + k * 16 + 10, none⟩ = some (.int .i64 x.tik.min) ∧ w'.cell? ⟨b, o + k * 16 + 11, none⟩ = some (.string x.text) ∧ w'.cell? ⟨b, o + k * 16 + 12, none⟩ = some (.int .i64 x.n) ∧ w'.cell? ⟨b, o + k * 16 + 13, none⟩ = some (.int .i64 x.pax) ∧ w'.cell? ⟨b, o + k * 16 + 14, none⟩ = some (.int .i64 x.row) ∧ w'.cell? ⟨b, o + k * 16 + 15, none⟩ = some (.int .u8 x.let_))) (refine ⟨?_, ?_⟩ <;> first | (refine lda_of ?_ rfl; (repeat (with_reducible refine Bx.rowOther ?_ (by first | omega | (simp; done) | (simp; omega)) _)); first | with_reducible exact r2 | with_reducible exact r2a _ | with_reducible exact rd | with_reducible exact re | exact re | exact r2a _) | (show C16 _ b (o + k * 16) x; (repeat (with_reducible refine C16.row ?_ (by first | omega | (simp; done) | (simp; omega)) _)); first | with_reducible exact hC2 | with_reducible exact kc2a _ | with_reducible exact hCd | with_reducible exact hCe | exact hCe | exact kc2a _))
            (first
              | (go_at_call 13; refine (HE.out W.drew _ hXd.A (fun b hb => hb.2)).mono ?_; rintro en w2 ⟨h3, rfl, o3, hb2⟩; have hT2 := hXd.step hK hb2; have hC2 : C16 w2 b (o + k * 16) x := C16.below hCd hb2 hbs; have hs2 := hb2.size; have hs3 : W.heap.size ≤ w2.heap.size := hs2; have r2 := hT2.b; have r2a := fun t => (hT2.alloc hK t).b; have u5 : b < w2.heap.size := (by omega); have kc2a := fun t => C16.below (B := w2.heap.size) hC2 ((Below.refl _ _).alloc (Nat.le_refl _) t) u5; have sn := sta_new w2 (cs := #[.string a3.agent, .string a3.off, .bool a3.open_, .string a3.base.loc, .string a3.base.off, .slice h3.b.an h3.b.nn h3.b.cn, .slice h3.b.ag h3.b.ng h3.b.cg, .slice h3.b.ap h3.b.np h3.b.cp, .int .i64 a3.base.tik.kind, .int .i64 a3.base.tik.day, .int .i64 a3.base.tik.min, .string a3.base.rc, .slice h3.b.ar h3.b.nr h3.b.cr, .slice h3.b.ae h3.b.ne h3.b.ce, .bool a3.base.queued, .int .u64 a3.ver, .slice h3.ad h3.nd h3.cd, .slice h3.al h3.nl h3.cl, .bool a3.working, .int .i64 a3.queue]) (zs := #[.string ⟨#[]⟩, .string ⟨#[]⟩, .bool false, .string ⟨#[]⟩, .string ⟨#[]⟩, .slice none 0 0, .slice none 0 0, .slice none 0 0, .int .i64 0, .int .i64 0, .int .i64 0, .string ⟨#[]⟩, .slice none 0 0, .slice none 0 0, .bool false, .int .u64 0, .slice none 0 0, .slice none 0 0, .bool false, .int .i64 0]) rfl rfl (by simp [Value.oneCell']))
              | (go_at_call 13; refine (HE.out (W.drew.alloc (.cells #[.string ⟨#[]⟩, .string ⟨#[]⟩, .bool false, .string ⟨#[]⟩, .string ⟨#[]⟩, .slice none 0 0, .slice none 0 0, .slice none 0 0, .int .i64 0, .int .i64 0, .int .i64 0, .string ⟨#[]⟩, .slice none 0 0, .slice none 0 0, .bool false, .int .u64 0, .slice none 0 0, .slice none 0 0, .bool false, .int .i64 0] 36)) _ hXe.A (fun b hb => hb.2)).mono ?_; rintro en w2 ⟨h3, rfl, o3, hb2⟩; have hT2 := hXe.step hK hb2; have hC2 : C16 w2 b (o + k * 16) x := C16.below hCe hb2 (by simp; omega); have hbx2 := hbx0.below hb2 (by simp); have hs2 := hb2.size; have hs3 : W.heap.size < w2.heap.size := (by simp at hs2; omega); have r2 := hT2.b; have r2a := fun t => (hT2.alloc hK t).b; have u5 : b < w2.heap.size := (by omega); have kc2a := fun t => C16.below (B := w2.heap.size) hC2 ((Below.refl _ _).alloc (Nat.le_refl _) t) u5; have sn := sta_of (cs := #[.string a3.agent, .string a3.off, .bool a3.open_, .string a3.base.loc, .string a3.base.off, .slice h3.b.an h3.b.nn h3.b.cn, .slice h3.b.ag h3.b.ng h3.b.cg, .slice h3.b.ap h3.b.np h3.b.cp, .int .i64 a3.base.tik.kind, .int .i64 a3.base.tik.day, .int .i64 a3.base.tik.min, .string a3.base.rc, .slice h3.b.ar h3.b.nr h3.b.cr, .slice h3.b.ae h3.b.ne h3.b.ce, .bool a3.base.queued, .int .u64 a3.ver, .slice h3.ad h3.nd h3.cd, .slice h3.al h3.nl h3.cl, .bool a3.working, .int .i64 a3.queue]) hbx2 rfl rfl (by simp [Value.oneCell'])))
          · have k12 := AY.of1 hK hXd hb2 o3
            generalize w2.alloc (.cells #[.string a3.agent, .string a3.off, .bool a3.open_, .string a3.base.loc, .string a3.base.off, .slice h3.b.an h3.b.nn h3.b.cn, .slice h3.b.ag h3.b.ng h3.b.cg, .slice h3.b.ap h3.b.np h3.b.cp, .int .i64 a3.base.tik.kind, .int .i64 a3.base.tik.day, .int .i64 a3.base.tik.min, .string a3.base.rc, .slice h3.b.ar h3.b.nr h3.b.cr, .slice h3.b.ae h3.b.ne h3.b.ce, .bool a3.base.queued, .int .u64 a3.ver, .slice h3.ad h3.nd h3.cd, .slice h3.al h3.nl h3.cl, .bool a3.working, .int .i64 a3.queue] 36) = W9 at k12 ⊢
            go_wp2
            go_meet
            exact ⟨_, h3, rfl, rfl, k12⟩
          · have k12 := AY.of2 hK hXd hb2 (by have q := o3; rw [World.size_alloc] at q; exact q)
            rw [show W.drew.heap.size = W.heap.size from rfl] at k12
            generalize w2.setRow W.heap.size #[.string a3.agent, .string a3.off, .bool a3.open_, .string a3.base.loc, .string a3.base.off, .slice h3.b.an h3.b.nn h3.b.cn, .slice h3.b.ag h3.b.ng h3.b.cg, .slice h3.b.ap h3.b.np h3.b.cp, .int .i64 a3.base.tik.kind, .int .i64 a3.base.tik.day, .int .i64 a3.base.tik.min, .string a3.base.rc, .slice h3.b.ar h3.b.nr h3.b.cr, .slice h3.b.ae h3.b.ne h3.b.ce, .bool a3.base.queued, .int .u64 a3.ver, .slice h3.ad h3.nd h3.cd, .slice h3.al h3.nl h3.cl, .bool a3.working, .int .i64 a3.queue] = W9 at k12 ⊢
            go_wp2
            go_meet
            exact ⟨_, h3, rfl, rfl, k12⟩
        case rest =>
          clear hC hX hXd hCd rd ld hXe re le hbs hCe hbx0 hz HE
          obtain ⟨g12, h3, rfl, rfl, hY⟩ := hcut
          by_cases h0 : e3 = 0
          · subst h0
            have HL3 : Hid (h3.nd = h1.nd + 1) := by
              have q := hY.A3.edits.len
              rw [HR3.out rfl] at q
              have q1 := hY.H.A.edits.len
              show h3.nd = h1.nd + 1
              simp at q
              omega
            have HF := Lib.hid (show noOne a3 = false ∧ a3.base.small 1000 ∧ a3.edits.length ≤ k + 1 ∧ a3.legs.length ≤ 1000 by rw [HR3.out rfl]; exact ⟨HI.out.1, HI.out.2.1, by have := HI.out.2.2.1; simp; omega, HI.out.2.2.2⟩)
            have hnd : (h1.nd : Int) ≤ 1000 := by have q1 := hY.H.A.edits.len; have := HSA.out.edits; omega
            have hnd0 : (0 : Int) ≤ h1.nd := by omega
            go_wp2_with (first | (refine load_ra rfl (.tmp 30) rfl rfl hY.b12 rfl ?_) | (refine store_ra rfl (.tmp 26) (.tmp 179) rfl #[.string a3.agent, .string a3.off, .bool a3.open_, .string a3.base.loc, .string a3.base.off, .slice h3.b.an h3.b.nn h3.b.cn, .slice h3.b.ag h3.b.ng h3.b.cg, .slice h3.b.ap h3.b.np h3.b.cp, .int .i64 a3.base.tik.kind, .int .i64 a3.base.tik.day, .int .i64 a3.base.tik.min, .string a3.base.rc, .slice h3.b.ar h3.b.nr h3.b.cr, .slice h3.b.ae h3.b.ne h3.b.ce, .bool a3.base.queued, .int .u64 a3.ver, .slice h3.ad h3.nd h3.cd, .slice h3.al h3.nl h3.cl, .bool a3.working, .int .i64 a3.queue] rfl rfl hY.H.b rfl rfl (by simp [Value.oneCell']) ?_))
            exact ⟨⟨k + 1, a3, h3, by omega, by go_num, by rw [HL3.out]; go_num, HF, hY.H.put hK hY.A3⟩, by simp [intOf]; omega⟩
          · have hne : (e3 == 0) = false := by rw [beq_eq_false_iff_ne]; exact h0
            go_wp2
            exact ⟨⟨k + 1, a, h1, by omega, by go_num, rfl, ⟨HI.out.1, HI.out.2.1, by have := HI.out.2.2.1; omega, HI.out.2.2.2⟩, hY.H⟩, by simp [intOf]; omega⟩
      · obtain rfl : n = k := by omega
        clear hsA
        go_wp2_with (refine load_ra rfl (.tmp 26) rfl rfl hX.b rfl ?_)
        refine (e2_in a h1 s1 s2 _ HG.out HO.out hf HI.out.1).mono ?_
        rintro en w4 ⟨cs, rfl, hs, ho9, hb4⟩
        have hX4 := hX.step hK hb4
        go_upto_region 28 with (refine store_ra rfl (.tmp 32) (.tmp 187) rfl cs rfl rfl (Bx.new w4 #[.string ⟨#[]⟩, .string ⟨#[]⟩, .bool false, .string ⟨#[]⟩, .string ⟨#[]⟩, .slice none 0 0, .slice none 0 0, .slice none 0 0, .int .i64 0, .int .i64 0, .int .i64 0, .string ⟨#[]⟩, .slice none 0 0, .slice none 0 0, .bool false, .int .u64 0, .slice none 0 0, .slice none 0 0, .bool false, .int .i64 0] 36) hs rfl ho9 ?_)
        refine wp_world (AX w g K a h1) (hX4.step hK (below_setRow ((Below.refl _ _).alloc (Nat.le_refl _) (.cells #[.string ⟨#[]⟩, .string ⟨#[]⟩, .bool false, .string ⟨#[]⟩, .string ⟨#[]⟩, .slice none 0 0, .slice none 0 0, .slice none 0 0, .int .i64 0, .int .i64 0, .int .i64 0, .string ⟨#[]⟩, .slice none 0 0, .slice none 0 0, .bool false, .int .u64 0, .slice none 0 0, .slice none 0 0, .bool false, .int .i64 0] 36)) (Nat.le_refl _) _)) ?_
        clear hX hX4 hb4
        intro W5 hX
        have hlen := Lib.hid hX.A.edits.len
        by_cases hE : 0 < h1.nd
        · have q1 : (0 : Int) < h1.nd := by omega
          have q2 : ((h1.nd : Int) == 0) = false := by rw [beq_eq_false_iff_ne]; omega
          clear hE
          go_wp2_with (refine load_ra rfl (.tmp 26) rfl rfl hX.b rfl ?_)
          refine (e2_out a h1 _ _ hX.A (fun b h => h.2) HSA.out 53 (by unfold idleF; rw [HI.out.1, if_neg (by simp), if_pos (by rw [hlen.out]; omega)])).mono ?_
          rintro en w6 ⟨h9, rfl, hb6⟩
          have hX6 := hX.step hK hb6
          go_upto_region 29 with (refine store_ra rfl (.tmp 34) (.tmp 192) rfl #[.string ⟨#[]⟩, .string ⟨#[]⟩, .bool false, .string ⟨#[]⟩, .string ⟨#[]⟩, .slice h9.b.an h9.b.nn h9.b.cn, .slice h9.b.ag h9.b.ng h9.b.cg, .slice h9.b.ap h9.b.np h9.b.cp, .int .i64 0, .int .i64 0, .int .i64 0, .string ⟨#[]⟩, .slice h9.b.ar h9.b.nr h9.b.cr, .slice h9.b.ae h9.b.ne h9.b.ce, .bool false, .int .u64 0, .slice h9.ad 0 h9.cd, .slice h9.al h9.nl h9.cl, .bool false, .int .i64 0] rfl rfl (Bx.new w6 #[.string ⟨#[]⟩, .string ⟨#[]⟩, .bool false, .string ⟨#[]⟩, .string ⟨#[]⟩, .slice none 0 0, .slice none 0 0, .slice none 0 0, .int .i64 0, .int .i64 0, .int .i64 0, .string ⟨#[]⟩, .slice none 0 0, .slice none 0 0, .bool false, .int .u64 0, .slice none 0 0, .slice none 0 0, .bool false, .int .i64 0] 36) rfl rfl (by simp [Value.oneCell']) ?_)
          refine wp_world (fun W => Below w.heap.size w W ∧ Bx W w6.heap.size #[.string ⟨#[]⟩, .string ⟨#[]⟩, .bool false, .string ⟨#[]⟩, .string ⟨#[]⟩, .slice h9.b.an h9.b.nn h9.b.cn, .slice h9.b.ag h9.b.ng h9.b.cg, .slice h9.b.ap h9.b.np h9.b.cp, .int .i64 0, .int .i64 0, .int .i64 0, .string ⟨#[]⟩, .slice h9.b.ar h9.b.nr h9.b.cr, .slice h9.b.ae h9.b.ne h9.b.ce, .bool false, .int .u64 0, .slice h9.ad 0 h9.cd, .slice h9.al h9.nl h9.cl, .bool false, .int .i64 0] 36) ⟨below_setRow (hX6.B.alloc hX6.B.size _) hX6.B.size _, (Bx.new w6 #[.string ⟨#[]⟩, .string ⟨#[]⟩, .bool false, .string ⟨#[]⟩, .string ⟨#[]⟩, .slice none 0 0, .slice none 0 0, .slice none 0 0, .int .i64 0, .int .i64 0, .int .i64 0, .string ⟨#[]⟩, .slice none 0 0, .slice none 0 0, .bool false, .int .u64 0, .slice none 0 0, .slice none 0 0, .bool false, .int .i64 0] 36).row _⟩ ?_
          clear hX hX6 hb6
          rintro W7 ⟨B7, b7⟩
          have x7 := b7.cells
          have z7 := b7.lt
          go_wp2
          all_goals first | (exfalso; omega) | (go_ret; exact ⟨rfl, B7⟩)
        · have q1 : ¬ (0 : Int) < h1.nd := by omega
          have q2 : ((h1.nd : Int) == 0) = true := by rw [beq_iff_eq]; omega
          clear hE
          go_wp2_with (refine load_ra rfl (.tmp 26) rfl rfl hX.b rfl ?_)
          refine (e2_out a h1 _ _ hX.A (fun b h => h.2) HSA.out 0 (by unfold idleF; rw [HI.out.1, if_neg (by simp), if_neg (by rw [hlen.out]; omega)])).mono ?_
          rintro en w6 ⟨h9, rfl, hb6⟩
          have hX6 := hX.step hK hb6
          go_upto_region 29 with (refine store_ra rfl (.tmp 34) (.tmp 192) rfl #[.string ⟨#[]⟩, .string ⟨#[]⟩, .bool false, .string ⟨#[]⟩, .string ⟨#[]⟩, .slice h9.b.an h9.b.nn h9.b.cn, .slice h9.b.ag h9.b.ng h9.b.cg, .slice h9.b.ap h9.b.np h9.b.cp, .int .i64 0, .int .i64 0, .int .i64 0, .string ⟨#[]⟩, .slice h9.b.ar h9.b.nr h9.b.cr, .slice h9.b.ae h9.b.ne h9.b.ce, .bool false, .int .u64 0, .slice h9.ad 0 h9.cd, .slice h9.al h9.nl h9.cl, .bool false, .int .i64 0] rfl rfl (Bx.new w6 #[.string ⟨#[]⟩, .string ⟨#[]⟩, .bool false, .string ⟨#[]⟩, .string ⟨#[]⟩, .slice none 0 0, .slice none 0 0, .slice none 0 0, .int .i64 0, .int .i64 0, .int .i64 0, .string ⟨#[]⟩, .slice none 0 0, .slice none 0 0, .bool false, .int .u64 0, .slice none 0 0, .slice none 0 0, .bool false, .int .i64 0] 36) rfl rfl (by simp [Value.oneCell']) ?_)
          refine wp_world (fun W => Below w.heap.size w W ∧ Bx W w6.heap.size #[.string ⟨#[]⟩, .string ⟨#[]⟩, .bool false, .string ⟨#[]⟩, .string ⟨#[]⟩, .slice h9.b.an h9.b.nn h9.b.cn, .slice h9.b.ag h9.b.ng h9.b.cg, .slice h9.b.ap h9.b.np h9.b.cp, .int .i64 0, .int .i64 0, .int .i64 0, .string ⟨#[]⟩, .slice h9.b.ar h9.b.nr h9.b.cr, .slice h9.b.ae h9.b.ne h9.b.ce, .bool false, .int .u64 0, .slice h9.ad 0 h9.cd, .slice h9.al h9.nl h9.cl, .bool false, .int .i64 0] 36) ⟨below_setRow (hX6.B.alloc hX6.B.size _) hX6.B.size _, (Bx.new w6 #[.string ⟨#[]⟩, .string ⟨#[]⟩, .bool false, .string ⟨#[]⟩, .string ⟨#[]⟩, .slice none 0 0, .slice none 0 0, .slice none 0 0, .int .i64 0, .int .i64 0, .int .i64 0, .string ⟨#[]⟩, .slice none 0 0, .slice none 0 0, .bool false, .int .u64 0, .slice none 0 0, .slice none 0 0, .bool false, .int .i64 0] 36).row _⟩ ?_
          clear hX hX6 hb6
          rintro W7 ⟨B7, b7⟩
          have x7 := b7.cells
          have z7 := b7.lt
          go_wp2
          all_goals first | (exfalso; omega) | (go_ret; exact ⟨rfl, B7⟩)
theorem areaSigned_any (s1 s2 : ByteArray) (kd m : Int) (tx of : ByteArray) (ed : Edit) (pn : Pnr) (hd : Hd) (ver : Int) (al : Option Addr) (nl cl : Nat) (A : Option Addr) (n c : Nat) (w : World) (es : List Edit) (ls : List Lg) (hg : okStr s1) (ho : okStr s2) (hed : ed.ok) (hl : Sl w 0 w.heap.size tLeg al nl ls) (hlc : al = none → cl = 0) (hes : Sl w 0 w.heap.size tEdit A n es) :
    Calls Tryd.prog 5 #[.string s1, .string s2, .agg (List.toArray (Value.int .i64 kd :: Value.int .i64 m :: Value.string tx :: Value.string of :: Value.int .i64 ed.kind :: Value.string ed.nam.last :: Value.string ed.nam.first :: Value.string ed.seg.car :: Value.int .i64 ed.seg.num :: Value.int .i64 ed.seg.day :: Value.int .u8 ed.seg.cls :: Value.bool ed.seg.live :: Value.int .i64 ed.tik.kind :: Value.int .i64 ed.tik.day :: Value.int .i64 ed.tik.min :: Value.string ed.text :: Value.int .i64 ed.n :: Value.int .i64 ed.pax :: Value.int .i64 ed.row :: Value.int .u8 ed.let_ :: Value.string pn.loc :: Value.string pn.off :: Value.slice hd.an hd.nn hd.cn :: Value.slice hd.ag hd.ng hd.cg :: Value.slice hd.ap hd.np hd.cp :: Value.int .i64 pn.tik.kind :: Value.int .i64 pn.tik.day :: Value.int .i64 pn.tik.min :: Value.string pn.rc :: Value.slice hd.ar hd.nr hd.cr :: Value.slice hd.ae hd.ne hd.ce :: Value.bool pn.queued :: Value.int .u64 ver :: Value.slice al nl cl :: [])), .slice A n c] w (RetB w true) := by
  rcases Bool.eq_false_or_eq_true (smallB hd) with hsb | hsb
  case inr => exact sg_early s1 s2 kd m tx of ed pn hd ver al nl cl A n c w (.inl hsb)
  by_cases h1 : 200 < nl
  · exact sg_early s1 s2 kd m tx of ed pn hd ver al nl cl A n c w (.inr (.inl ⟨hsb, h1⟩))
  by_cases h2 : 100 < n
  · exact sg_early s1 s2 kd m tx of ed pn hd ver al nl cl A n c w (.inr (.inr (.inl ⟨hsb, h1, h2⟩)))
  by_cases h3 : 100 < s1.size
  · exact sg_early s1 s2 kd m tx of ed pn hd ver al nl cl A n c w (.inr (.inr (.inr (.inl ⟨hsb, h1, h2, h3⟩))))
  by_cases h4 : 100 < s2.size
  · exact sg_early s1 s2 kd m tx of ed pn hd ver al nl cl A n c w (.inr (.inr (.inr (.inr ⟨hsb, h1, h2, h3, h4⟩))))
  · exact sg_main s1 s2 kd m tx of ed pn hd ver al nl cl A n c w es ls hg ho hed hl hlc hes hsb h1 h2 h3 h4
end Go.Proofs.YtfbalabmidobeaaDoor
