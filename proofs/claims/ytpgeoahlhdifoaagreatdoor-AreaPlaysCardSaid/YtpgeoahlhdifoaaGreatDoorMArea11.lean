/- Put together by program of: Area13, Area11, Area12, Area15. -/
import Derived.Test.YtpgeoahlhdifoaaGreatDoorArea5
import Derived.Test.YtpgeoahlhdifoaaGreatDoorArea7
import Derived.Test.YtpgeoahlhdifoaaGreatDoorClone2
import Derived.Test.YtpgeoahlhdifoaaGreatDoorEq
import Derived.Test.YtpgeoahlhdifoaaGreatDoorEqual
import Derived.BigQuiet
import Derived.Deep.QuietTactic
namespace Go.Proofs.YtpgeoahlhdifoaaGreatDoor
set_option linter.unusedVariables false
open Go Go.RowKit
theorem Sl.leg_ {w : World} {lo hi : Nat} {A : Option Addr} {n k : Nat} {l : List Lg} (h : Sl w lo hi tLeg A n l) (hk : k < n) :
    ∃ b o x, A = some ⟨b, o, none⟩ ∧ lo ≤ b ∧ b < hi ∧ Hid (l[k]? = some x) ∧ Lg.ok x ∧ w.cell? ⟨b, o + k * 3, none⟩ = some (.string x.car) ∧ w.cell? ⟨b, o + k * 3 + 1, none⟩ = some (.int .i64 x.num) ∧ w.cell? ⟨b, o + k * 3 + 2, none⟩ = some (.int .i64 x.day) := by
  obtain ⟨b, o, x, h1, h2, h3, h4, h5, hc⟩ := h.at_ hk
  exact ⟨b, o, x, h1, h2, h3, h4, h5, by simpa [tLeg] using hc 0 _ rfl, by simpa [tLeg] using hc 1 _ rfl, by simpa [tLeg] using hc 2 _ rfl⟩
def lg0 : Lg := ⟨⟨#[]⟩, 0, 0⟩
def lineF (a : Ar) (n : Int) : Lg × Int := if noOne a then (lg0, 50) else if n < 1 ∨ a.legs.length < n then (lg0, 54) else ((a.legs[(n - 1).toNat]?).getD lg0, 0)
theorem Bx.new1 (w : World) (o : Obj) (cs : Array Value) (t : TypeId) : Bx ((w.alloc o).alloc (.cells cs t)) (w.heap.size + 1) cs t := by
  have q := Bx.new (w.alloc o) cs t
  rw [World.size_alloc] at q
  exact q
theorem ret_lt {fn : Func} {p u : Tmp} (h : fn.results = #[.cell p 44, .tmp u]) {R : Ending → World → Prop} {a : Act} {w : World} {g : Nat} {cs : Array Value} {v : Value}
    (hr : Bx w g cs 44) (hs : cs.size = 3) (hp : a.tmps.getD p undef = .pointer (some ⟨g, 0, none⟩)) (hv : a.tmps.getD u undef = v) (hd : a.defers = []) (hR : R (.returned (.tuple #[.agg cs, v])) w) : bodyPost Tryz.prog fn R .ret a w := by
  refine bodyPost_ret (v := .tuple #[.agg cs, v]) ?_ hd hR
  rw [results_cell_tmp h, hp]
  have hl := run_loadVar_row (P := Tryz.prog) w g 44 44 cs (0, 0) _ hr Tryz.underlying44 rfl (by rw [hs]; kernel_rfl)
  simp [asAddr, hl, hv, Result.andThen]
def RetLn (w : World) (r : Lg × Int) (en : Ending) (w' : World) : Prop := en = .returned (.tuple #[.agg #[.string r.1.car, .int .i64 r.1.num, .int .i64 r.1.day], .int .i64 r.2]) ∧ Below w.heap.size w w'
set_option maxRecDepth 100000 in
set_option maxHeartbeats 8000000 in
theorem line_any (a : Ar) (h : AH) (n : Int) (w : World) (S : Nat → Prop) (hp : AS w S a h) (hS : ∀ b, S b → b < w.heap.size) (hs : a.small 1000) :
    Calls Tryz.prog 27 #[.agg #[.string a.agent, .string a.off, .bool a.open_, .string a.base.loc, .string a.base.off, .slice h.b.an h.b.nn h.b.cn, .slice h.b.ag h.b.ng h.b.cg, .slice h.b.ap h.b.np h.b.cp, .int .i64 a.base.tik.kind, .int .i64 a.base.tik.day, .int .i64 a.base.tik.min, .string a.base.rc, .slice h.b.ar h.b.nr h.b.cr, .slice h.b.ae h.b.ne h.b.ce, .bool a.base.queued, .int .u64 a.ver, .slice h.ad h.nd h.cd, .slice h.al h.nl h.cl, .bool a.working, .int .i64 a.queue], .int .i64 n] w (RetLn w (lineF a n)) := by
  have hnl : a.legs.length = h.nl := hp.legs.len
  have hnl2 : h.nl ≤ 1000 := by have := hs.legs; omega
  have HP := Lib.hid hp
  have HB := Lib.hid hS
  have HR := Lib.hid (show lineF a n = if noOne a then (lg0, 50) else if n < 1 ∨ a.legs.length < n then (lg0, 54) else ((a.legs[(n - 1).toNat]?).getD lg0, 0) from rfl)
  have HN := Lib.hid hnl
  clear hp hS hs hnl
  have hF := F2.start w (aC a h) 53 #[.string ⟨#[]⟩, .int .i64 0, .int .i64 0] 44
  have hq : a.agent.toList.isEmpty = noOne a := rfl
  generalize noOne a = b at HR hq
  have x1 := hF.x1
  try dsimp only [aC] at x1
  try dsimp only [aZ] at x1
  have x2 := hF.r2.cells
  try dsimp only [aC] at x2
  try dsimp only [aZ] at x2
  have y2 := hF.r2.free
  have z1 := hF.z
  rcases b with _ | _
  · by_cases hn : n < 1 ∨ a.legs.length < n
    · have hfin := HR.out
      rw [if_neg (by simp), if_pos hn] at hfin
      rw [hfin]
      rw [HN.out] at hn
      have hn1 : n < 1 ∨ (¬ n < 1 ∧ (h.nl : Int) < n) := by omega
      clear hn hfin HR HN
      rcases hn1 with hn1 | ⟨hn1, hn2⟩
      all_goals
        go_enter Tryz.func27, Tryz.ntmps27
        go_wp2
        refine ret_lt (cs := #[.string ⟨#[]⟩, .int .i64 0, .int .i64 0]) Tryz.results27 (by first | exact hF.r2 | (have q := Bx.new (w.alloc (.cells (aC a h) 53)) #[.string ⟨#[]⟩, .int .i64 0, .int .i64 0] 44; rw [World.size_alloc] at q; exact q) | exact ((hF.r2.put 0 _).put 1 _).put 2 _) rfl rfl rfl rfl ?_
        exact ⟨rfl, by (repeat (first | with_reducible exact Below.refl _ _ | (with_reducible refine Below.drew ?_) | (with_reducible refine below_drewN ?_ _) | (with_reducible refine Below.alloc ?_ (by first | (simp; done) | omega | (simp; omega)) _) | (with_reducible refine Below.setCell ?_ (by first | (simp; done) | omega | (simp; omega)) _) | with_reducible assumption))⟩
    · have hfin := HR.out
      rw [if_neg (by simp), if_neg hn] at hfin
      rw [hfin]
      rw [HN.out] at hn
      obtain ⟨k, rfl⟩ : ∃ k : Nat, n = (k : Int) + 1 := ⟨(n - 1).toNat, by omega⟩
      have hlt : k < h.nl := by omega
      have hn1 : ¬ (k : Int) + 1 < 1 := by omega
      have hn2 : ¬ (h.nl : Int) < (k : Int) + 1 := by omega
      have hk0 : (0 : Int) ≤ k := by omega
      have hkl : (k : Int) < h.nl := by omega
      have hk9 : (k : Int) ≤ 1000 := by omega
      obtain ⟨b, o, x, hA, g1, g2, hx, hok, c0, c1, c2⟩ := ((HP.out.legs.below hF.B HB.out).sl (lo := 0) (hi := w.heap.size) fun b hb => ⟨Nat.zero_le _, HB.out b hb⟩).leg_ hlt
      rw [show ((a.legs[((k : Int) + 1 - 1).toNat]?).getD lg0, (0 : Int)) = (x, 0) by rw [show ((k : Int) + 1 - 1).toNat = k by omega, hx.out]; rfl]
      clear hn hfin HR HN hx
      obtain ⟨hb, had, hnd, hcd, hal, hnl, hcl⟩ := h
      dsimp only at hA
      subst hA
      go_enter Tryz.func27, Tryz.ntmps27
      go_wp2
      refine ret_lt (cs := #[.string x.car, .int .i64 x.num, .int .i64 x.day]) Tryz.results27 (by first | exact Bx.new1 _ _ _ _ | exact hF.r2) rfl rfl rfl rfl ?_
      exact ⟨rfl, by (repeat (first | with_reducible exact Below.refl _ _ | (with_reducible refine Below.drew ?_) | (with_reducible refine below_drewN ?_ _) | (with_reducible refine Below.alloc ?_ (by first | (simp; done) | omega | (simp; omega)) _) | (with_reducible refine Below.setCell ?_ (by first | (simp; done) | omega | (simp; omega)) _) | with_reducible assumption))⟩
  · rw [HR.out, if_pos rfl]
    clear HR
    go_enter Tryz.func27, Tryz.ntmps27
    go_wp2
    refine ret_lt (cs := #[.string ⟨#[]⟩, .int .i64 0, .int .i64 0]) Tryz.results27 (by first | exact hF.r2 | (have q := Bx.new (w.alloc (.cells (aC a h) 53)) #[.string ⟨#[]⟩, .int .i64 0, .int .i64 0] 44; rw [World.size_alloc] at q; exact q) | exact ((hF.r2.put 0 _).put 1 _).put 2 _) rfl rfl rfl rfl ?_
    exact ⟨rfl, by (repeat (first | with_reducible exact Below.refl _ _ | (with_reducible refine Below.drew ?_) | (with_reducible refine below_drewN ?_ _) | (with_reducible refine Below.alloc ?_ (by first | (simp; done) | omega | (simp; omega)) _) | (with_reducible refine Below.setCell ?_ (by first | (simp; done) | omega | (simp; omega)) _) | with_reducible assumption))⟩
end Go.Proofs.YtpgeoahlhdifoaaGreatDoor
namespace Go.Proofs.YtpgeoahlhdifoaaGreatDoor
set_option linter.unusedVariables false
open Go Go.RowKit
set_option maxRecDepth 100000 in
set_option maxHeartbeats 8000000 in
theorem load_bad (a : Ar) (h : AH) (p : Pnr) (hp : Hd) (v : Int) (w : World) (S : Nat → Prop) (ha : AS w S a h) (hS : ∀ b, S b → b < w.heap.size) (hs : a.small 1000) (e : Int) (hi0 : idleF a = (ar0, e)) (he : (e == 0) = false) :
    Calls Tryz.prog 21 #[.agg #[.string a.agent, .string a.off, .bool a.open_, .string a.base.loc, .string a.base.off, .slice h.b.an h.b.nn h.b.cn, .slice h.b.ag h.b.ng h.b.cg, .slice h.b.ap h.b.np h.b.cp, .int .i64 a.base.tik.kind, .int .i64 a.base.tik.day, .int .i64 a.base.tik.min, .string a.base.rc, .slice h.b.ar h.b.nr h.b.cr, .slice h.b.ae h.b.ne h.b.ce, .bool a.base.queued, .int .u64 a.ver, .slice h.ad h.nd h.cd, .slice h.al h.nl h.cl, .bool a.working, .int .i64 a.queue], .agg #[.string p.loc, .string p.off, .slice hp.an hp.nn hp.cn, .slice hp.ag hp.ng hp.cg, .slice hp.ap hp.np hp.cp, .int .i64 p.tik.kind, .int .i64 p.tik.day, .int .i64 p.tik.min, .string p.rc, .slice hp.ar hp.nr hp.cr, .slice hp.ae hp.ne hp.ce, .bool p.queued], .int .u64 v] w (RetA w (ar0, e)) := by
  have hi := fun (W : World) (h1 : AS W S a h) (h2 : ∀ b, S b → b < W.heap.size) => idle_any a h W S h1 h2 hs
  rw [hi0] at hi
  have HI := Lib.hid hi
  have HP := Lib.hid ha
  have HB := Lib.hid hS
  clear hi ha hS hs hi0
  have hF := F3.start w (aC a h) 53 #[.string p.loc, .string p.off, .slice hp.an hp.nn hp.cn, .slice hp.ag hp.ng hp.cg, .slice hp.ap hp.np hp.cp, .int .i64 p.tik.kind, .int .i64 p.tik.day, .int .i64 p.tik.min, .string p.rc, .slice hp.ar hp.nr hp.cr, .slice hp.ae hp.ne hp.ce, .bool p.queued] 29 aZ 53
  go_enter Tryz.func21, Tryz.ntmps21
  go_wp2_with (refine load_ra rfl (.tmp 3) rfl rfl hF.r1 rfl ?_)
  refine (HI.out _ (HP.out.below hF.B HB.out) (fun b hb => by have := HB.out b hb; have := hF.z; omega)).mono ?_
  rintro en w1 ⟨h1, rfl, o1, hb1⟩
  have hF1 := hF.step hb1
  replace o1 := o1.more (B' := w.heap.size + 1 + 1 + 1) (by simp)
  clear hF hb1
  go_upto_region 2 with (refine store_ra rfl (.tmp 3) (.tmp 12) rfl (aC ar0 h1) rfl rfl hF1.r1 rfl rfl (aC_one _ _) ?_)
  refine wp_world (fun W => F3 w (aC ar0 h1) 53 #[.string p.loc, .string p.off, .slice hp.an hp.nn hp.cn, .slice hp.ag hp.ng hp.cg, .slice hp.ap hp.np hp.cp, .int .i64 p.tik.kind, .int .i64 p.tik.day, .int .i64 p.tik.min, .string p.rc, .slice hp.ar hp.nr hp.cr, .slice hp.ae hp.ne hp.ce, .bool p.queued] 29 aZ 53 W ∧ OA W (w.heap.size + 1 + 1 + 1) ar0 h1) ⟨hF1.row1 _, o1.rowAt (by omega) _⟩ ?_
  clear hF1 o1
  rintro V ⟨hF, o1⟩
  have x1 := hF.x1
  try dsimp only [aC] at x1
  try dsimp only [aZ] at x1
  go_wp2_with (first | (refine load_ra rfl (.tmp 3) rfl rfl hF.r1 rfl ?_) | refine store_ra rfl (.tmp 6) (.tmp 26) rfl (aC ar0 h1) rfl rfl hF.r3 rfl rfl (aC_one _ _) ?_)
  have hF9 := hF.row3 (aC ar0 h1)
  refine ret_at Tryz.results21 hF9.r3 rfl rfl rfl rfl ?_
  exact RetA.mk' rfl ((o1.rowAt (by omega) _).more (by omega)) hF9.B
theorem load_any (a : Ar) (h : AH) (p : Pnr) (hp : Hd) (v : Int) (w : World) (S : Nat → Prop) (ha : AS w S a h) (hpp : PS w S p hp) (hS : ∀ b, S b → b < w.heap.size) (hs : a.small 1000) (hps : p.small 1000) (hv : okU64 v) :
    Calls Tryz.prog 21 #[.agg #[.string a.agent, .string a.off, .bool a.open_, .string a.base.loc, .string a.base.off, .slice h.b.an h.b.nn h.b.cn, .slice h.b.ag h.b.ng h.b.cg, .slice h.b.ap h.b.np h.b.cp, .int .i64 a.base.tik.kind, .int .i64 a.base.tik.day, .int .i64 a.base.tik.min, .string a.base.rc, .slice h.b.ar h.b.nr h.b.cr, .slice h.b.ae h.b.ne h.b.ce, .bool a.base.queued, .int .u64 a.ver, .slice h.ad h.nd h.cd, .slice h.al h.nl h.cl, .bool a.working, .int .i64 a.queue], .agg #[.string p.loc, .string p.off, .slice hp.an hp.nn hp.cn, .slice hp.ag hp.ng hp.cg, .slice hp.ap hp.np hp.cp, .int .i64 p.tik.kind, .int .i64 p.tik.day, .int .i64 p.tik.min, .string p.rc, .slice hp.ar hp.nr hp.cr, .slice hp.ae hp.ne hp.ce, .bool p.queued], .int .u64 v] w (RetA w (loadF a p v)) := by
  rcases Bool.eq_false_or_eq_true (noOne a) with hno | hno
  · have e : idleF a = (ar0, 50) := by unfold idleF; rw [hno]; rfl
    rw [show loadF a p v = (ar0, 50) by unfold loadF; rw [e]; rfl]
    exact load_bad a h p hp v w S ha hS hs 50 e rfl
  by_cases hz : 0 < a.edits.length
  · have e : idleF a = (ar0, 53) := by unfold idleF; rw [hno, if_neg (by simp), if_pos hz]
    rw [show loadF a p v = (ar0, 53) by unfold loadF; rw [e]; rfl]
    exact load_bad a h p hp v w S ha hS hs 53 e rfl
  · have hz' : a.edits = [] := List.eq_nil_of_length_eq_zero (by omega)
    have e : idleF a = (a, 0) := by unfold idleF; rw [hno, if_neg (by simp), if_neg hz]
    rw [show loadF a p v = ({ a with open_ := true, ver := v, base := p }, 0) by unfold loadF; rw [e]; rfl]
    exact load_do a h p hp v w S ha hpp hS hs hps hv hno hz'
set_option maxRecDepth 100000 in
set_option maxHeartbeats 8000000 in
theorem ignore_any (a : Ar) (h : AH) (w : World) (S : Nat → Prop) (hp : AS w S a h) (hS : ∀ b, S b → b < w.heap.size) (hs : a.small 1000) :
    Calls Tryz.prog 23 #[.agg #[.string a.agent, .string a.off, .bool a.open_, .string a.base.loc, .string a.base.off, .slice h.b.an h.b.nn h.b.cn, .slice h.b.ag h.b.ng h.b.cg, .slice h.b.ap h.b.np h.b.cp, .int .i64 a.base.tik.kind, .int .i64 a.base.tik.day, .int .i64 a.base.tik.min, .string a.base.rc, .slice h.b.ar h.b.nr h.b.cr, .slice h.b.ae h.b.ne h.b.ce, .bool a.base.queued, .int .u64 a.ver, .slice h.ad h.nd h.cd, .slice h.al h.nl h.cl, .bool a.working, .int .i64 a.queue]] w (RetA w (ignoreF a)) := by
  have hsg := fun (W : World) (h1 : AS W S a h) (h2 : ∀ b, S b → b < W.heap.size) => signed_any a h W S h1 h2 hs
  have HP := Lib.hid hp
  have HB := Lib.hid hS
  clear hp hS hs
  have hF := F2.start w (aC a h) 53 aZ 53
  have HR := Lib.hid (show ignoreF a = if noOne a then (ar0, 50) else if a.open_ = false then (ar0, 52) else ({ a with open_ := false, base := pnr0, ver := 0, edits := [] }, 0) from rfl)
  have HG := Lib.hid (show signedF a = if noOne a then (ar0, 50) else (a, 0) from rfl)
  generalize noOne a = b at HR HG
  rw [HG.out] at hsg
  have HSG := Lib.hid hsg
  clear hsg HG
  rcases b with _ | _
  · obtain ⟨b2, hb2⟩ : ∃ b2, b2 = a.open_ := ⟨_, rfl⟩
    have HB2 := Lib.hid hb2
    clear hb2
    go_enter Tryz.func23, Tryz.ntmps23
    go_wp2_with (refine load_ra rfl (.tmp 1) rfl rfl hF.r1 rfl ?_)
    refine (HSG.out _ (HP.out.below hF.B HB.out) (fun b hb => by have := HB.out b hb; have := hF.z; omega)).mono ?_
    rintro en w1 ⟨h1, rfl, o1, _, hb1⟩
    have hF1 := hF.step hb1
    replace o1 := o1.more (B' := w.heap.size + 1 + 1) (by simp)
    clear hF hb1
    go_upto_region 2 with (refine store_ra rfl (.tmp 1) (.tmp 8) rfl (aC a h1) rfl rfl hF1.r1 rfl rfl (aC_one _ _) ?_)
    refine wp_world (fun W => F2 w (aC a h1) 53 aZ 53 W ∧ OA W (w.heap.size + 1 + 1) a h1) ⟨hF1.row1 _, o1.rowAt (by omega) _⟩ ?_
    clear hF1 o1
    rintro V ⟨hF, o1⟩
    have x1 := hF.x1
    try dsimp only [aC] at x1
    try dsimp only [aZ] at x1
    replace hF : F2 w #[.string a.agent, .string a.off, .bool b2, .string a.base.loc, .string a.base.off, .slice h1.b.an h1.b.nn h1.b.cn, .slice h1.b.ag h1.b.ng h1.b.cg, .slice h1.b.ap h1.b.np h1.b.cp, .int .i64 a.base.tik.kind, .int .i64 a.base.tik.day, .int .i64 a.base.tik.min, .string a.base.rc, .slice h1.b.ar h1.b.nr h1.b.cr, .slice h1.b.ae h1.b.ne h1.b.ce, .bool a.base.queued, .int .u64 a.ver, .slice h1.ad h1.nd h1.cd, .slice h1.al h1.nl h1.cl, .bool a.working, .int .i64 a.queue] 53 #[.string ⟨#[]⟩, .string ⟨#[]⟩, .bool false, .string ⟨#[]⟩, .string ⟨#[]⟩, .slice none 0 0, .slice none 0 0, .slice none 0 0, .int .i64 0, .int .i64 0, .int .i64 0, .string ⟨#[]⟩, .slice none 0 0, .slice none 0 0, .bool false, .int .u64 0, .slice none 0 0, .slice none 0 0, .bool false, .int .i64 0] 53 V := by rw [HB2.out]; exact hF
    replace x1 := hF.x1
    try dsimp only [aC] at x1
    try dsimp only [aZ] at x1
    have hr := HR.out
    rw [if_neg (by simp), ← HB2.out] at hr
    have HR2 := Lib.hid hr
    clear hr HR HB2
    rcases b2 with _ | _
    · go_wp2_with (refine store_ra rfl (.tmp 2) (.tmp 19) rfl aZ rfl rfl hF.r2 rfl rfl aZ_one ?_)
      have hF9 := hF.row2 aZ
      refine ret_at Tryz.results23 hF9.r2 rfl rfl rfl rfl ?_
      exact RetA.mk' (h' := ah0) HR2.out (ar0_oa _ _) hF9.B
    · have y1 := hF.y1
      have z1 := hF.z
      have z0 : w.heap.size < V.heap.size := by omega
      go_upto_region 6 with fail
      have hFa : F2 w #[.string a.agent, .string a.off, .bool false, .string a.base.loc, .string a.base.off, .slice h1.b.an h1.b.nn h1.b.cn, .slice h1.b.ag h1.b.ng h1.b.cg, .slice h1.b.ap h1.b.np h1.b.cp, .int .i64 a.base.tik.kind, .int .i64 a.base.tik.day, .int .i64 a.base.tik.min, .string a.base.rc, .slice h1.b.ar h1.b.nr h1.b.cr, .slice h1.b.ae h1.b.ne h1.b.ce, .bool a.base.queued, .int .u64 a.ver, .slice h1.ad h1.nd h1.cd, .slice h1.al h1.nl h1.cl, .bool a.working, .int .i64 a.queue] 53 aZ 53 (V.setCell ⟨w.heap.size, 2, none⟩ (.bool false)) := hF.put1 2 (.bool false)
      have hFb := hFa.row1 #[.string a.agent, .string a.off, .bool false, .string ⟨#[]⟩, .string ⟨#[]⟩, .slice none 0 0, .slice none 0 0, .slice none 0 0, .int .i64 0, .int .i64 0, .int .i64 0, .string ⟨#[]⟩, .slice none 0 0, .slice none 0 0, .bool false, .int .u64 a.ver, .slice h1.ad h1.nd h1.cd, .slice h1.al h1.nl h1.cl, .bool a.working, .int .i64 a.queue]
      have xb := hFb.x1
      try dsimp only [aC] at xb
      try dsimp only [aZ] at xb
      have yb := hFb.y1
      go_upto_region 7 with (refine store_mid rfl (.tmp 22) (.tmp 20) rfl #[.string ⟨#[]⟩, .string ⟨#[]⟩, .slice none 0 0, .slice none 0 0, .slice none 0 0, .int .i64 0, .int .i64 0, .int .i64 0, .string ⟨#[]⟩, .slice none 0 0, .slice none 0 0, .bool false] #[.string a.agent, .string a.off, .bool false, .string ⟨#[]⟩, .string ⟨#[]⟩, .slice none 0 0, .slice none 0 0, .slice none 0 0, .int .i64 0, .int .i64 0, .int .i64 0, .string ⟨#[]⟩, .slice none 0 0, .slice none 0 0, .bool false, .int .u64 a.ver, .slice h1.ad h1.nd h1.cd, .slice h1.al h1.nl h1.cl, .bool a.working, .int .i64 a.queue] rfl rfl hFa.r1 info_pnr (by show 3 + 12 ≤ 20; omega) (by simp [Value.oneCell']) lay12 ?_)
      refine wp_world (fun W => F2 w #[.string a.agent, .string a.off, .bool false, .string ⟨#[]⟩, .string ⟨#[]⟩, .slice none 0 0, .slice none 0 0, .slice none 0 0, .int .i64 0, .int .i64 0, .int .i64 0, .string ⟨#[]⟩, .slice none 0 0, .slice none 0 0, .bool false, .int .u64 0, .slice none 0 0, .slice h1.al h1.nl h1.cl, .bool a.working, .int .i64 a.queue] 53 aZ 53 W ∧ OA W (w.heap.size + 1 + 1) { a with open_ := false, base := pnr0, ver := 0, edits := [] } (AH.mk hd0 none 0 0 h1.al h1.nl h1.cl)) ⟨(hFb.put1 15 (.int .u64 0)).put1 16 (.slice none 0 0), ?_⟩ ?_
      · have o2 := (((o1.cell (p := ⟨w.heap.size, 2, none⟩) (by simp; omega) (.bool false)).rowAt (g := w.heap.size) (by omega) #[.string a.agent, .string a.off, .bool false, .string ⟨#[]⟩, .string ⟨#[]⟩, .slice none 0 0, .slice none 0 0, .slice none 0 0, .int .i64 0, .int .i64 0, .int .i64 0, .string ⟨#[]⟩, .slice none 0 0, .slice none 0 0, .bool false, .int .u64 a.ver, .slice h1.ad h1.nd h1.cd, .slice h1.al h1.nl h1.cl, .bool a.working, .int .i64 a.queue]).cell (p := ⟨w.heap.size, 15, none⟩) (by simp; omega) (.int .u64 0)).cell (p := ⟨w.heap.size, 16, none⟩) (by simp; omega) (.slice none 0 0)
        exact ⟨o2.agent, o2.off, by simp [okU64], o2.queue, pnr0_op _ _, Own.nil_ _ _ _ _, o2.legs⟩
      clear hF o1 x1 y1 z1 z0 hFa hFb xb yb
      rintro V2 ⟨hF, o1⟩
      go_wp2_with (first | (refine load_ra rfl (.tmp 1) rfl rfl hF.r1 rfl ?_) | refine store_ra rfl (.tmp 2) (.tmp 25) rfl #[.string a.agent, .string a.off, .bool false, .string ⟨#[]⟩, .string ⟨#[]⟩, .slice none 0 0, .slice none 0 0, .slice none 0 0, .int .i64 0, .int .i64 0, .int .i64 0, .string ⟨#[]⟩, .slice none 0 0, .slice none 0 0, .bool false, .int .u64 0, .slice none 0 0, .slice h1.al h1.nl h1.cl, .bool a.working, .int .i64 a.queue] rfl rfl hF.r2 rfl rfl (by simp [Value.oneCell']) ?_)
      have hF9 := hF.row2 #[.string a.agent, .string a.off, .bool false, .string ⟨#[]⟩, .string ⟨#[]⟩, .slice none 0 0, .slice none 0 0, .slice none 0 0, .int .i64 0, .int .i64 0, .int .i64 0, .string ⟨#[]⟩, .slice none 0 0, .slice none 0 0, .bool false, .int .u64 0, .slice none 0 0, .slice h1.al h1.nl h1.cl, .bool a.working, .int .i64 a.queue]
      refine ret_at Tryz.results23 hF9.r2 rfl rfl rfl rfl ?_
      exact RetA.mk' (a := { a with open_ := false, base := pnr0, ver := 0, edits := [] }) (h' := (AH.mk hd0 none 0 0 h1.al h1.nl h1.cl)) HR2.out ((o1.rowAt (by omega) _).more (by omega)) hF9.B
  · go_enter Tryz.func23, Tryz.ntmps23
    go_wp2_with (refine load_ra rfl (.tmp 1) rfl rfl hF.r1 rfl ?_)
    refine (HSG.out _ (HP.out.below hF.B HB.out) (fun b hb => by have := HB.out b hb; have := hF.z; omega)).mono ?_
    rintro en w1 ⟨h1, rfl, o1, _, hb1⟩
    have hF1 := hF.step hb1
    replace o1 := o1.more (B' := w.heap.size + 1 + 1) (by simp)
    clear hF hb1
    go_upto_region 2 with (refine store_ra rfl (.tmp 1) (.tmp 8) rfl (aC ar0 h1) rfl rfl hF1.r1 rfl rfl (aC_one _ _) ?_)
    refine wp_world (fun W => F2 w (aC ar0 h1) 53 aZ 53 W ∧ OA W (w.heap.size + 1 + 1) ar0 h1) ⟨hF1.row1 _, o1.rowAt (by omega) _⟩ ?_
    clear hF1 o1
    rintro V ⟨hF, o1⟩
    have x1 := hF.x1
    try dsimp only [aC] at x1
    try dsimp only [aZ] at x1
    go_wp2_with (first | (refine load_ra rfl (.tmp 1) rfl rfl hF.r1 rfl ?_) | refine store_ra rfl (.tmp 2) (.tmp 13) rfl (aC ar0 h1) rfl rfl hF.r2 rfl rfl (aC_one _ _) ?_)
    have hF9 := hF.row2 (aC ar0 h1)
    refine ret_at Tryz.results23 hF9.r2 rfl rfl rfl rfl ?_
    exact RetA.mk' HR.out ((o1.rowAt (by omega) _).more (by omega)) hF9.B
set_option maxRecDepth 100000 in
set_option maxHeartbeats 8000000 in
theorem list_any (a : Ar) (h : AH) (l : List Lg) (A : Option Addr) (n c : Nat) (w : World) (S : Nat → Prop) (hp : AS w S a h) (hl : SlS w S tLeg A n c l) (hS : ∀ b, S b → b < w.heap.size) (hs : a.small 1000) (hn : n ≤ 1000) :
    Calls Tryz.prog 25 #[.agg #[.string a.agent, .string a.off, .bool a.open_, .string a.base.loc, .string a.base.off, .slice h.b.an h.b.nn h.b.cn, .slice h.b.ag h.b.ng h.b.cg, .slice h.b.ap h.b.np h.b.cp, .int .i64 a.base.tik.kind, .int .i64 a.base.tik.day, .int .i64 a.base.tik.min, .string a.base.rc, .slice h.b.ar h.b.nr h.b.cr, .slice h.b.ae h.b.ne h.b.ce, .bool a.base.queued, .int .u64 a.ver, .slice h.ad h.nd h.cd, .slice h.al h.nl h.cl, .bool a.working, .int .i64 a.queue], .slice A n c] w (RetA w (listF a l)) := by
  have HL := Lib.hid hl
  clear hl
  have hsg := fun (W : World) (h1 : AS W S a h) (h2 : ∀ b, S b → b < W.heap.size) => signed_any a h W S h1 h2 hs
  have HP := Lib.hid hp
  have HB := Lib.hid hS
  clear hp hS hs
  have hF := F2.start w (aC a h) 53 aZ 53
  have HR := Lib.hid (show listF a l = if noOne a then (ar0, 50) else ({ a with legs := l }, 0) from rfl)
  have HG := Lib.hid (show signedF a = if noOne a then (ar0, 50) else (a, 0) from rfl)
  generalize noOne a = b at HR HG
  rw [HG.out] at hsg
  have HSG := Lib.hid hsg
  clear hsg HG
  rcases b with _ | _
  · go_enter Tryz.func25, Tryz.ntmps25
    go_wp2_with (refine load_ra rfl (.tmp 2) rfl rfl hF.r1 rfl ?_)
    refine (HSG.out _ (HP.out.below hF.B HB.out) (fun b hb => by have := HB.out b hb; have := hF.z; omega)).mono ?_
    rintro en w1 ⟨h1, rfl, o1, _, hb1⟩
    have hF1 := hF.step hb1
    replace o1 := o1.more (B' := w.heap.size + 1 + 1) (by simp)
    clear hF hb1
    go_upto_region 2 with (refine store_ra rfl (.tmp 2) (.tmp 10) rfl (aC a h1) rfl rfl hF1.r1 rfl rfl (aC_one _ _) ?_)
    refine wp_world (fun W => F2 w (aC a h1) 53 aZ 53 W ∧ OA W (w.heap.size + 1 + 1) a h1) ⟨hF1.row1 _, o1.rowAt (by omega) _⟩ ?_
    clear hF1 o1
    rintro V ⟨hF, o1⟩
    have x1 := hF.x1
    try dsimp only [aC] at x1
    try dsimp only [aZ] at x1
    have z1 := hF.z
    go_wp2_with fail
    refine (clone_leg l A n c _ 0 w.heap.size ((HL.out.below hF.B HB.out).sl fun b hb => ⟨Nat.zero_le _, HB.out b hb⟩) (by omega) (by omega) HL.out.nil).mono ?_
    rintro en w2 ⟨A2, c2, rfl, hown2, hb2⟩
    have hF2 := hF.step hb2
    have o2 := o1.keep hb2
    have k2 := hown2.more (B' := w.heap.size + 1 + 1) (by omega)
    clear hF o1 x1
    have x1 := hF2.x1
    try dsimp only [aC] at x1
    try dsimp only [aZ] at x1
    have y1 := hF2.y1
    have z2 := hF2.z
    have z0 : w.heap.size < w2.heap.size := by omega
    go_upto_region 4 with fail
    refine wp_world (fun W => F2 w #[.string a.agent, .string a.off, .bool a.open_, .string a.base.loc, .string a.base.off, .slice h1.b.an h1.b.nn h1.b.cn, .slice h1.b.ag h1.b.ng h1.b.cg, .slice h1.b.ap h1.b.np h1.b.cp, .int .i64 a.base.tik.kind, .int .i64 a.base.tik.day, .int .i64 a.base.tik.min, .string a.base.rc, .slice h1.b.ar h1.b.nr h1.b.cr, .slice h1.b.ae h1.b.ne h1.b.ce, .bool a.base.queued, .int .u64 a.ver, .slice h1.ad h1.nd h1.cd, .slice A2 l.length c2, .bool a.working, .int .i64 a.queue] 53 aZ 53 W ∧ OA W (w.heap.size + 1 + 1) { a with legs := l } (AH.mk h1.b h1.ad h1.nd h1.cd A2 l.length c2)) ⟨hF2.put1 17 (.slice A2 l.length c2), ?_⟩ ?_
    · have o3 := o2.cell (p := ⟨w.heap.size, 17, none⟩) (by simp; omega) (.slice A2 l.length c2)
      exact ⟨o3.agent, o3.off, o3.ver, o3.queue, o3.base, o3.edits, k2.setCell (by simp; omega) _⟩
    clear hF2 o2 x1 y1 z1 z0 k2 hown2 hb2 z2
    rintro V2 ⟨hF, o1⟩
    go_wp2_with (first | (refine load_ra rfl (.tmp 2) rfl rfl hF.r1 rfl ?_) | refine store_ra rfl (.tmp 4) (.tmp 17) rfl #[.string a.agent, .string a.off, .bool a.open_, .string a.base.loc, .string a.base.off, .slice h1.b.an h1.b.nn h1.b.cn, .slice h1.b.ag h1.b.ng h1.b.cg, .slice h1.b.ap h1.b.np h1.b.cp, .int .i64 a.base.tik.kind, .int .i64 a.base.tik.day, .int .i64 a.base.tik.min, .string a.base.rc, .slice h1.b.ar h1.b.nr h1.b.cr, .slice h1.b.ae h1.b.ne h1.b.ce, .bool a.base.queued, .int .u64 a.ver, .slice h1.ad h1.nd h1.cd, .slice A2 l.length c2, .bool a.working, .int .i64 a.queue] rfl rfl hF.r2 rfl rfl (by simp [Value.oneCell']) ?_)
    have hF9 := hF.row2 #[.string a.agent, .string a.off, .bool a.open_, .string a.base.loc, .string a.base.off, .slice h1.b.an h1.b.nn h1.b.cn, .slice h1.b.ag h1.b.ng h1.b.cg, .slice h1.b.ap h1.b.np h1.b.cp, .int .i64 a.base.tik.kind, .int .i64 a.base.tik.day, .int .i64 a.base.tik.min, .string a.base.rc, .slice h1.b.ar h1.b.nr h1.b.cr, .slice h1.b.ae h1.b.ne h1.b.ce, .bool a.base.queued, .int .u64 a.ver, .slice h1.ad h1.nd h1.cd, .slice A2 l.length c2, .bool a.working, .int .i64 a.queue]
    refine ret_at Tryz.results25 hF9.r2 rfl rfl rfl rfl ?_
    exact RetA.mk' (a := { a with legs := l }) (h' := (AH.mk h1.b h1.ad h1.nd h1.cd A2 l.length c2)) HR.out ((o1.rowAt (by omega) _).more (by omega)) hF9.B
  · go_enter Tryz.func25, Tryz.ntmps25
    go_wp2_with (refine load_ra rfl (.tmp 2) rfl rfl hF.r1 rfl ?_)
    refine (HSG.out _ (HP.out.below hF.B HB.out) (fun b hb => by have := HB.out b hb; have := hF.z; omega)).mono ?_
    rintro en w1 ⟨h1, rfl, o1, _, hb1⟩
    have hF1 := hF.step hb1
    replace o1 := o1.more (B' := w.heap.size + 1 + 1) (by simp)
    clear hF hb1
    go_upto_region 2 with (refine store_ra rfl (.tmp 2) (.tmp 10) rfl (aC ar0 h1) rfl rfl hF1.r1 rfl rfl (aC_one _ _) ?_)
    refine wp_world (fun W => F2 w (aC ar0 h1) 53 aZ 53 W ∧ OA W (w.heap.size + 1 + 1) ar0 h1) ⟨hF1.row1 _, o1.rowAt (by omega) _⟩ ?_
    clear hF1 o1
    rintro V ⟨hF, o1⟩
    have x1 := hF.x1
    try dsimp only [aC] at x1
    try dsimp only [aZ] at x1
    go_wp2_with (first | (refine load_ra rfl (.tmp 2) rfl rfl hF.r1 rfl ?_) | refine store_ra rfl (.tmp 4) (.tmp 17) rfl (aC ar0 h1) rfl rfl hF.r2 rfl rfl (aC_one _ _) ?_)
    have hF9 := hF.row2 (aC ar0 h1)
    refine ret_at Tryz.results25 hF9.r2 rfl rfl rfl rfl ?_
    exact RetA.mk' HR.out ((o1.rowAt (by omega) _).more (by omega)) hF9.B
end Go.Proofs.YtpgeoahlhdifoaaGreatDoor
namespace Go.Proofs.YtpgeoahlhdifoaaGreatDoor
set_option linter.unusedVariables false
open Go Go.RowKit
set_option maxRecDepth 100000 in
set_option maxHeartbeats 8000000 in
theorem leave_any (a : Ar) (h : AH) (w : World) (S : Nat → Prop) (hp : AS w S a h) (hS : ∀ b, S b → b < w.heap.size) (hs : a.small 1000) :
    Calls Tryz.prog 31 #[.agg #[.string a.agent, .string a.off, .bool a.open_, .string a.base.loc, .string a.base.off, .slice h.b.an h.b.nn h.b.cn, .slice h.b.ag h.b.ng h.b.cg, .slice h.b.ap h.b.np h.b.cp, .int .i64 a.base.tik.kind, .int .i64 a.base.tik.day, .int .i64 a.base.tik.min, .string a.base.rc, .slice h.b.ar h.b.nr h.b.cr, .slice h.b.ae h.b.ne h.b.ce, .bool a.base.queued, .int .u64 a.ver, .slice h.ad h.nd h.cd, .slice h.al h.nl h.cl, .bool a.working, .int .i64 a.queue]] w (RetA w (leaveF a)) := by
  have hsg := fun (W : World) (h1 : AS W S a h) (h2 : ∀ b, S b → b < W.heap.size) => signed_any a h W S h1 h2 hs
  have HP := Lib.hid hp
  have HB := Lib.hid hS
  clear hp hS hs
  have hF := F2.start w (aC a h) 53 aZ 53
  have HR := Lib.hid (show leaveF a = if noOne a then (ar0, 50) else if a.working = false then (ar0, 55) else ({ a with working := false, queue := 0 }, 0) from rfl)
  have HG := Lib.hid (show signedF a = if noOne a then (ar0, 50) else (a, 0) from rfl)
  generalize noOne a = b at HR HG
  rw [HG.out] at hsg
  have HSG := Lib.hid hsg
  clear hsg HG
  rcases b with _ | _
  · obtain ⟨b2, hb2⟩ : ∃ b2, b2 = a.working := ⟨_, rfl⟩
    have HB2 := Lib.hid hb2
    clear hb2
    go_enter Tryz.func31, Tryz.ntmps31
    go_wp2_with (refine load_ra rfl (.tmp 1) rfl rfl hF.r1 rfl ?_)
    refine (HSG.out _ (HP.out.below hF.B HB.out) (fun b hb => by have := HB.out b hb; have := hF.z; omega)).mono ?_
    rintro en w1 ⟨h1, rfl, o1, _, hb1⟩
    have hF1 := hF.step hb1
    replace o1 := o1.more (B' := w.heap.size + 1 + 1) (by simp)
    clear hF hb1
    go_upto_region 2 with (refine store_ra rfl (.tmp 1) (.tmp 8) rfl (aC a h1) rfl rfl hF1.r1 rfl rfl (aC_one _ _) ?_)
    refine wp_world (fun W => F2 w (aC a h1) 53 aZ 53 W ∧ OA W (w.heap.size + 1 + 1) a h1) ⟨hF1.row1 _, o1.rowAt (by omega) _⟩ ?_
    clear hF1 o1
    rintro V ⟨hF, o1⟩
    have x1 := hF.x1
    try dsimp only [aC] at x1
    try dsimp only [aZ] at x1
    replace hF : F2 w #[.string a.agent, .string a.off, .bool a.open_, .string a.base.loc, .string a.base.off, .slice h1.b.an h1.b.nn h1.b.cn, .slice h1.b.ag h1.b.ng h1.b.cg, .slice h1.b.ap h1.b.np h1.b.cp, .int .i64 a.base.tik.kind, .int .i64 a.base.tik.day, .int .i64 a.base.tik.min, .string a.base.rc, .slice h1.b.ar h1.b.nr h1.b.cr, .slice h1.b.ae h1.b.ne h1.b.ce, .bool a.base.queued, .int .u64 a.ver, .slice h1.ad h1.nd h1.cd, .slice h1.al h1.nl h1.cl, .bool b2, .int .i64 a.queue] 53 #[.string ⟨#[]⟩, .string ⟨#[]⟩, .bool false, .string ⟨#[]⟩, .string ⟨#[]⟩, .slice none 0 0, .slice none 0 0, .slice none 0 0, .int .i64 0, .int .i64 0, .int .i64 0, .string ⟨#[]⟩, .slice none 0 0, .slice none 0 0, .bool false, .int .u64 0, .slice none 0 0, .slice none 0 0, .bool false, .int .i64 0] 53 V := by rw [HB2.out]; exact hF
    replace x1 := hF.x1
    try dsimp only [aC] at x1
    try dsimp only [aZ] at x1
    have hr := HR.out
    rw [if_neg (by simp), ← HB2.out] at hr
    have HR2 := Lib.hid hr
    clear hr HR HB2
    rcases b2 with _ | _
    · go_wp2_with (refine store_ra rfl (.tmp 2) (.tmp 19) rfl aZ rfl rfl hF.r2 rfl rfl aZ_one ?_)
      have hF9 := hF.row2 aZ
      refine ret_at Tryz.results31 hF9.r2 rfl rfl rfl rfl ?_
      exact RetA.mk' (h' := ah0) HR2.out (ar0_oa _ _) hF9.B
    · have y1 := hF.y1
      have z1 := hF.z
      have z0 : w.heap.size < V.heap.size := by omega
      go_upto_region 7 with fail
      refine wp_world (fun W => F2 w #[.string a.agent, .string a.off, .bool a.open_, .string a.base.loc, .string a.base.off, .slice h1.b.an h1.b.nn h1.b.cn, .slice h1.b.ag h1.b.ng h1.b.cg, .slice h1.b.ap h1.b.np h1.b.cp, .int .i64 a.base.tik.kind, .int .i64 a.base.tik.day, .int .i64 a.base.tik.min, .string a.base.rc, .slice h1.b.ar h1.b.nr h1.b.cr, .slice h1.b.ae h1.b.ne h1.b.ce, .bool a.base.queued, .int .u64 a.ver, .slice h1.ad h1.nd h1.cd, .slice h1.al h1.nl h1.cl, .bool false, .int .i64 0] 53 aZ 53 W ∧ OA W (w.heap.size + 1 + 1) { a with working := false, queue := 0 } h1) ⟨(hF.put1 18 (.bool false)).put1 19 (.int .i64 0), ?_⟩ ?_
      · have o2 := (o1.cell (p := ⟨w.heap.size, 18, none⟩) (by simp; omega) (.bool false)).cell (p := ⟨w.heap.size, 19, none⟩) (by simp; omega) (.int .i64 0)
        exact ⟨o2.agent, o2.off, o2.ver, by simp [okInt], o2.base, o2.edits, o2.legs⟩
      clear hF o1 x1 y1 z1 z0
      rintro V2 ⟨hF, o1⟩
      go_wp2_with (first | (refine load_ra rfl (.tmp 1) rfl rfl hF.r1 rfl ?_) | refine store_ra rfl (.tmp 2) (.tmp 22) rfl #[.string a.agent, .string a.off, .bool a.open_, .string a.base.loc, .string a.base.off, .slice h1.b.an h1.b.nn h1.b.cn, .slice h1.b.ag h1.b.ng h1.b.cg, .slice h1.b.ap h1.b.np h1.b.cp, .int .i64 a.base.tik.kind, .int .i64 a.base.tik.day, .int .i64 a.base.tik.min, .string a.base.rc, .slice h1.b.ar h1.b.nr h1.b.cr, .slice h1.b.ae h1.b.ne h1.b.ce, .bool a.base.queued, .int .u64 a.ver, .slice h1.ad h1.nd h1.cd, .slice h1.al h1.nl h1.cl, .bool false, .int .i64 0] rfl rfl hF.r2 rfl rfl (by simp [Value.oneCell']) ?_)
      have hF9 := hF.row2 #[.string a.agent, .string a.off, .bool a.open_, .string a.base.loc, .string a.base.off, .slice h1.b.an h1.b.nn h1.b.cn, .slice h1.b.ag h1.b.ng h1.b.cg, .slice h1.b.ap h1.b.np h1.b.cp, .int .i64 a.base.tik.kind, .int .i64 a.base.tik.day, .int .i64 a.base.tik.min, .string a.base.rc, .slice h1.b.ar h1.b.nr h1.b.cr, .slice h1.b.ae h1.b.ne h1.b.ce, .bool a.base.queued, .int .u64 a.ver, .slice h1.ad h1.nd h1.cd, .slice h1.al h1.nl h1.cl, .bool false, .int .i64 0]
      refine ret_at Tryz.results31 hF9.r2 rfl rfl rfl rfl ?_
      exact RetA.mk' (a := { a with working := false, queue := 0 }) HR2.out ((o1.rowAt (by omega) _).more (by omega)) hF9.B
  · go_enter Tryz.func31, Tryz.ntmps31
    go_wp2_with (refine load_ra rfl (.tmp 1) rfl rfl hF.r1 rfl ?_)
    refine (HSG.out _ (HP.out.below hF.B HB.out) (fun b hb => by have := HB.out b hb; have := hF.z; omega)).mono ?_
    rintro en w1 ⟨h1, rfl, o1, _, hb1⟩
    have hF1 := hF.step hb1
    replace o1 := o1.more (B' := w.heap.size + 1 + 1) (by simp)
    clear hF hb1
    go_upto_region 2 with (refine store_ra rfl (.tmp 1) (.tmp 8) rfl (aC ar0 h1) rfl rfl hF1.r1 rfl rfl (aC_one _ _) ?_)
    refine wp_world (fun W => F2 w (aC ar0 h1) 53 aZ 53 W ∧ OA W (w.heap.size + 1 + 1) ar0 h1) ⟨hF1.row1 _, o1.rowAt (by omega) _⟩ ?_
    clear hF1 o1
    rintro V ⟨hF, o1⟩
    have x1 := hF.x1
    try dsimp only [aC] at x1
    try dsimp only [aZ] at x1
    go_wp2_with (first | (refine load_ra rfl (.tmp 1) rfl rfl hF.r1 rfl ?_) | refine store_ra rfl (.tmp 2) (.tmp 13) rfl (aC ar0 h1) rfl rfl hF.r2 rfl rfl (aC_one _ _) ?_)
    have hF9 := hF.row2 (aC ar0 h1)
    refine ret_at Tryz.results31 hF9.r2 rfl rfl rfl rfl ?_
    exact RetA.mk' HR.out ((o1.rowAt (by omega) _).more (by omega)) hF9.B
set_option maxRecDepth 100000 in
set_option maxHeartbeats 8000000 in
theorem work_bad (a : Ar) (h : AH) (n : Int) (w : World) (S : Nat → Prop) (hp : AS w S a h) (hS : ∀ b, S b → b < w.heap.size) (hs : a.small 1000) (e : Int) (hi0 : idleF a = (ar0, e)) (he : (e == 0) = false) (hn : noOne a = true ∨ (0 ≤ n ∧ n < 100)) :
    Calls Tryz.prog 29 #[.agg #[.string a.agent, .string a.off, .bool a.open_, .string a.base.loc, .string a.base.off, .slice h.b.an h.b.nn h.b.cn, .slice h.b.ag h.b.ng h.b.cg, .slice h.b.ap h.b.np h.b.cp, .int .i64 a.base.tik.kind, .int .i64 a.base.tik.day, .int .i64 a.base.tik.min, .string a.base.rc, .slice h.b.ar h.b.nr h.b.cr, .slice h.b.ae h.b.ne h.b.ce, .bool a.base.queued, .int .u64 a.ver, .slice h.ad h.nd h.cd, .slice h.al h.nl h.cl, .bool a.working, .int .i64 a.queue], .int .i64 n] w (RetA w (ar0, e)) := by
  have hi := fun (W : World) (h1 : AS W S a h) (h2 : ∀ b, S b → b < W.heap.size) => idle_any a h W S h1 h2 hs
  rw [hi0] at hi
  have HI := Lib.hid hi
  have HP := Lib.hid hp
  have HB := Lib.hid hS
  clear hi hp hS hs hi0
  have hF := F2.start w (aC a h) 53 aZ 53
  have hq : a.agent.toList.isEmpty = noOne a := rfl
  generalize noOne a = b at hq hn
  have hn1 : b = true ∨ (b = false ∧ ¬ n < 0 ∧ ¬ 100 ≤ n) := by
    rcases b with _ | _
    · right
      rcases hn with hn | hn
      · cases hn
      · exact ⟨rfl, by omega, by omega⟩
    · left; rfl
  clear hn
  have x0 := hF.x1
  try dsimp only [aC] at x0
  try dsimp only [aZ] at x0
  rcases hn1 with rfl | ⟨rfl, hn2, hn3⟩
  all_goals
    go_enter Tryz.func29, Tryz.ntmps29
    go_wp2_with (refine load_ra rfl (.tmp 2) rfl rfl hF.r1 rfl ?_)
    refine (HI.out _ (HP.out.below hF.B HB.out) (fun b hb => by have := HB.out b hb; have := hF.z; omega)).mono ?_
    rintro en w1 ⟨h1, rfl, o1, hb1⟩
    have hF1 := hF.step hb1
    replace o1 := o1.more (B' := w.heap.size + 1 + 1) (by simp)
    clear hF hb1 x0
    go_upto_region 4 with (refine store_ra rfl (.tmp 2) (.tmp 22) rfl (aC ar0 h1) rfl rfl hF1.r1 rfl rfl (aC_one _ _) ?_)
    refine wp_world (fun W => F2 w (aC ar0 h1) 53 aZ 53 W ∧ OA W (w.heap.size + 1 + 1) ar0 h1) ⟨hF1.row1 _, o1.rowAt (by omega) _⟩ ?_
    clear hF1 o1
    rintro V ⟨hF, o1⟩
    have x1 := hF.x1
    try dsimp only [aC] at x1
    try dsimp only [aZ] at x1
    go_wp2_with (first | (refine load_ra rfl (.tmp 2) rfl rfl hF.r1 rfl ?_) | refine store_ra rfl (.tmp 4) (.tmp 29) rfl (aC ar0 h1) rfl rfl hF.r2 rfl rfl (aC_one _ _) ?_)
    have hF9 := hF.row2 (aC ar0 h1)
    refine ret_at Tryz.results29 hF9.r2 rfl rfl rfl rfl ?_
    exact RetA.mk' rfl ((o1.rowAt (by omega) _).more (by omega)) hF9.B
set_option maxRecDepth 100000 in
set_option maxHeartbeats 8000000 in
theorem work_do (a : Ar) (h : AH) (n : Int) (w : World) (S : Nat → Prop) (hp : AS w S a h) (hS : ∀ b, S b → b < w.heap.size) (hs : a.small 1000) (hi0 : idleF a = (a, 0)) (hno : noOne a = false) (hn : 0 ≤ n ∧ n < 100) :
    Calls Tryz.prog 29 #[.agg #[.string a.agent, .string a.off, .bool a.open_, .string a.base.loc, .string a.base.off, .slice h.b.an h.b.nn h.b.cn, .slice h.b.ag h.b.ng h.b.cg, .slice h.b.ap h.b.np h.b.cp, .int .i64 a.base.tik.kind, .int .i64 a.base.tik.day, .int .i64 a.base.tik.min, .string a.base.rc, .slice h.b.ar h.b.nr h.b.cr, .slice h.b.ae h.b.ne h.b.ce, .bool a.base.queued, .int .u64 a.ver, .slice h.ad h.nd h.cd, .slice h.al h.nl h.cl, .bool a.working, .int .i64 a.queue], .int .i64 n] w (RetA w ({ a with working := true, queue := n }, 0)) := by
  have hi := fun (W : World) (h1 : AS W S a h) (h2 : ∀ b, S b → b < W.heap.size) => idle_any a h W S h1 h2 hs
  rw [hi0] at hi
  have HI := Lib.hid hi
  have HP := Lib.hid hp
  have HB := Lib.hid hS
  clear hi hp hS hs hi0
  have hF := F2.start w (aC a h) 53 aZ 53
  have hq : a.agent.toList.isEmpty = false := hno
  have hn2 : ¬ n < 0 := by omega
  have hn3 : ¬ 100 ≤ n := by omega
  have hok : okInt n := by unfold okInt; omega
  clear hno hn
  have x0 := hF.x1
  try dsimp only [aC] at x0
  try dsimp only [aZ] at x0
  go_enter Tryz.func29, Tryz.ntmps29
  go_wp2_with (refine load_ra rfl (.tmp 2) rfl rfl hF.r1 rfl ?_)
  refine (HI.out _ (HP.out.below hF.B HB.out) (fun b hb => by have := HB.out b hb; have := hF.z; omega)).mono ?_
  rintro en w1 ⟨h1, rfl, o1, hb1⟩
  have hF1 := hF.step hb1
  replace o1 := o1.more (B' := w.heap.size + 1 + 1) (by simp)
  clear hF hb1 x0
  go_upto_region 4 with (refine store_ra rfl (.tmp 2) (.tmp 22) rfl (aC a h1) rfl rfl hF1.r1 rfl rfl (aC_one _ _) ?_)
  refine wp_world (fun W => F2 w (aC a h1) 53 aZ 53 W ∧ OA W (w.heap.size + 1 + 1) a h1) ⟨hF1.row1 _, o1.rowAt (by omega) _⟩ ?_
  clear hF1 o1
  rintro V ⟨hF, o1⟩
  have x1 := hF.x1
  try dsimp only [aC] at x1
  try dsimp only [aZ] at x1
  have y1 := hF.y1
  have z1 := hF.z
  have z0 : w.heap.size < V.heap.size := by omega
  go_upto_region 6 with fail
  refine wp_world (fun W => F2 w #[.string a.agent, .string a.off, .bool a.open_, .string a.base.loc, .string a.base.off, .slice h1.b.an h1.b.nn h1.b.cn, .slice h1.b.ag h1.b.ng h1.b.cg, .slice h1.b.ap h1.b.np h1.b.cp, .int .i64 a.base.tik.kind, .int .i64 a.base.tik.day, .int .i64 a.base.tik.min, .string a.base.rc, .slice h1.b.ar h1.b.nr h1.b.cr, .slice h1.b.ae h1.b.ne h1.b.ce, .bool a.base.queued, .int .u64 a.ver, .slice h1.ad h1.nd h1.cd, .slice h1.al h1.nl h1.cl, .bool true, .int .i64 n] 53 aZ 53 W ∧ OA W (w.heap.size + 1 + 1) { a with working := true, queue := n } h1) ⟨(hF.put1 18 (.bool true)).put1 19 (.int .i64 n), ?_⟩ ?_
  · have o2 := (o1.cell (p := ⟨w.heap.size, 18, none⟩) (by simp; omega) (.bool true)).cell (p := ⟨w.heap.size, 19, none⟩) (by simp; omega) (.int .i64 n)
    exact ⟨o2.agent, o2.off, o2.ver, hok, o2.base, o2.edits, o2.legs⟩
  clear hF o1 x1 y1 z1 z0
  rintro V2 ⟨hF, o1⟩
  go_wp2_with (first | (refine load_ra rfl (.tmp 2) rfl rfl hF.r1 rfl ?_) | refine store_ra rfl (.tmp 4) (.tmp 29) rfl #[.string a.agent, .string a.off, .bool a.open_, .string a.base.loc, .string a.base.off, .slice h1.b.an h1.b.nn h1.b.cn, .slice h1.b.ag h1.b.ng h1.b.cg, .slice h1.b.ap h1.b.np h1.b.cp, .int .i64 a.base.tik.kind, .int .i64 a.base.tik.day, .int .i64 a.base.tik.min, .string a.base.rc, .slice h1.b.ar h1.b.nr h1.b.cr, .slice h1.b.ae h1.b.ne h1.b.ce, .bool a.base.queued, .int .u64 a.ver, .slice h1.ad h1.nd h1.cd, .slice h1.al h1.nl h1.cl, .bool true, .int .i64 n] rfl rfl hF.r2 rfl rfl (by simp [Value.oneCell']) ?_)
  have hF9 := hF.row2 #[.string a.agent, .string a.off, .bool a.open_, .string a.base.loc, .string a.base.off, .slice h1.b.an h1.b.nn h1.b.cn, .slice h1.b.ag h1.b.ng h1.b.cg, .slice h1.b.ap h1.b.np h1.b.cp, .int .i64 a.base.tik.kind, .int .i64 a.base.tik.day, .int .i64 a.base.tik.min, .string a.base.rc, .slice h1.b.ar h1.b.nr h1.b.cr, .slice h1.b.ae h1.b.ne h1.b.ce, .bool a.base.queued, .int .u64 a.ver, .slice h1.ad h1.nd h1.cd, .slice h1.al h1.nl h1.cl, .bool true, .int .i64 n]
  refine ret_at Tryz.results29 hF9.r2 rfl rfl rfl rfl ?_
  exact RetA.mk' (a := { a with working := true, queue := n }) rfl ((o1.rowAt (by omega) _).more (by omega)) hF9.B
set_option maxRecDepth 100000 in
set_option maxHeartbeats 8000000 in
theorem work_range (a : Ar) (h : AH) (n : Int) (w : World) (hno : noOne a = false) (hn : n < 0 ∨ 100 ≤ n) :
    Calls Tryz.prog 29 #[.agg #[.string a.agent, .string a.off, .bool a.open_, .string a.base.loc, .string a.base.off, .slice h.b.an h.b.nn h.b.cn, .slice h.b.ag h.b.ng h.b.cg, .slice h.b.ap h.b.np h.b.cp, .int .i64 a.base.tik.kind, .int .i64 a.base.tik.day, .int .i64 a.base.tik.min, .string a.base.rc, .slice h.b.ar h.b.nr h.b.cr, .slice h.b.ae h.b.ne h.b.ce, .bool a.base.queued, .int .u64 a.ver, .slice h.ad h.nd h.cd, .slice h.al h.nl h.cl, .bool a.working, .int .i64 a.queue], .int .i64 n] w (RetA w (ar0, 1)) := by
  have hF := F2.start w (aC a h) 53 aZ 53
  have hq : a.agent.toList.isEmpty = false := hno
  have x0 := hF.x1
  try dsimp only [aC] at x0
  try dsimp only [aZ] at x0
  have hn1 : n < 0 ∨ (¬ n < 0 ∧ 100 ≤ n) := by omega
  clear hn
  rcases hn1 with hn1 | ⟨hn1, hn2⟩
  all_goals
    go_enter Tryz.func29, Tryz.ntmps29
    go_wp2_with (refine store_ra rfl (.tmp 4) (.tmp 18) rfl aZ rfl rfl hF.r2 rfl rfl aZ_one ?_)
    have hF9 := hF.row2 aZ
    refine ret_at Tryz.results29 hF9.r2 rfl rfl rfl rfl ?_
    exact RetA.mk' (h' := ah0) rfl (ar0_oa _ _) hF9.B
theorem work_any (a : Ar) (h : AH) (n : Int) (w : World) (S : Nat → Prop) (hp : AS w S a h) (hS : ∀ b, S b → b < w.heap.size) (hs : a.small 1000) :
    Calls Tryz.prog 29 #[.agg #[.string a.agent, .string a.off, .bool a.open_, .string a.base.loc, .string a.base.off, .slice h.b.an h.b.nn h.b.cn, .slice h.b.ag h.b.ng h.b.cg, .slice h.b.ap h.b.np h.b.cp, .int .i64 a.base.tik.kind, .int .i64 a.base.tik.day, .int .i64 a.base.tik.min, .string a.base.rc, .slice h.b.ar h.b.nr h.b.cr, .slice h.b.ae h.b.ne h.b.ce, .bool a.base.queued, .int .u64 a.ver, .slice h.ad h.nd h.cd, .slice h.al h.nl h.cl, .bool a.working, .int .i64 a.queue], .int .i64 n] w (RetA w (workF a n)) := by
  rcases Bool.eq_false_or_eq_true (noOne a) with hno | hno
  · have e : idleF a = (ar0, 50) := by unfold idleF; rw [hno]; rfl
    rw [show workF a n = (ar0, 50) by unfold workF; rw [e, if_neg (by simp [hno])]; rfl]
    exact work_bad a h n w S hp hS hs 50 e rfl (.inl hno)
  by_cases hn : n < 0 ∨ 100 ≤ n
  · rw [show workF a n = (ar0, 1) by unfold workF; rw [if_pos ⟨hno, hn⟩]]
    exact work_range a h n w hno hn
  by_cases hz : 0 < a.edits.length
  · have e : idleF a = (ar0, 53) := by unfold idleF; rw [hno, if_neg (by simp), if_pos hz]
    rw [show workF a n = (ar0, 53) by unfold workF; rw [e, if_neg (by simp [hn])]; rfl]
    exact work_bad a h n w S hp hS hs 53 e rfl (.inr (by omega))
  · have e : idleF a = (a, 0) := by unfold idleF; rw [hno, if_neg (by simp), if_neg hz]
    rw [show workF a n = ({ a with working := true, queue := n }, 0) by unfold workF; rw [e, if_neg (by simp [hn])]; rfl]
    exact work_do a h n w S hp hS hs e hno (by omega)
end Go.Proofs.YtpgeoahlhdifoaaGreatDoor
namespace Go.Proofs.YtpgeoahlhdifoaaGreatDoor
set_option linter.unusedVariables false
open Go Go.RowKit
set_option maxRecDepth 100000 in
set_option maxHeartbeats 8000000 in
theorem legs_same (l : List Lg) (A B : Option Addr) (n c n' c' : Nat) (w : World) (lo hi lo' hi' : Nat) (hs : Sl w lo hi tLeg A n l) (hs' : Sl w lo' hi' tLeg B n' l) (hn : n ≤ 100000) (hhi : hi ≤ w.heap.size) (hhi' : hi' ≤ w.heap.size) :
    Calls Tryz.prog 34 #[.slice A n c, .slice B n' c'] w (RetB w true) := by
  obtain rfl : n = n' := hs.len.symm.trans hs'.len
  have q1 : ((n : Int) != (n : Int)) = false := by simp
  go_enter Tryz.func34, Tryz.ntmps34
  go_wp2
  go_loopw [5] (fun i wr => ∃ k : Nat, k ≤ n ∧ i = .int .i64 k ∧ Below w.heap.size w wr) (fun i _ => n - (intOf i).toNat)
  case atStart => exact ⟨0, Nat.zero_le _, rfl, by (repeat (first | with_reducible exact Below.refl _ _ | (with_reducible refine Below.drew ?_) | (with_reducible refine below_drewN ?_ _) | (with_reducible refine Below.alloc ?_ (by first | (simp; done) | omega | (simp; omega)) _) | (with_reducible refine Below.setCell ?_ (by first | (simp; done) | omega | (simp; omega)) _) | with_reducible assumption))⟩
  case round =>
    obtain ⟨k, hk, rfl, hbel⟩ := hrel
    clear q1
    by_cases hlt : k < n
    · obtain ⟨b, o, x, rfl, h1, h2, hx, hok, c0, c1, c2⟩ := (hs.below hbel hhi).leg_ hlt
      obtain ⟨b', o', y, rfl, h1', h2', hy, hok', d0, d1, d2⟩ := (hs'.below hbel hhi').leg_ hlt
      obtain rfl : x = y := by have e := hx.out.symm.trans hy.out; injection e
      obtain ⟨x0, x1, x2⟩ := x
      dsimp only at c0 c1 c2 d0 d1 d2
      have hne := fun u => neq_leg x0 x0 x1 x1 x2 x2 u
      simp only [decide_true, Bool.and_self, Bool.not_true] at hne
      have hk0 : (0 : Int) ≤ k := by omega
      have hkl : (k : Int) < n := by omega
      go_wp2
      go_quiet (fail)
      go_wp2
      go_roundw
      case rel => exact ⟨k + 1, by omega, by go_num, below_drewN hbel _⟩
      case measure => simp [intOf]; omega
    · obtain rfl : n = k := by omega
      go_wp2
      go_ret
      exact ⟨rfl, hbel⟩
end Go.Proofs.YtpgeoahlhdifoaaGreatDoor
