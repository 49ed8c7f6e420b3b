/- Areas: somebody signs in, nobody has; its PNR. -/
import Derived.Test.YtpgeoahlhdifoaaGreatDoorArea4
import Derived.Test.YtpgeoahlhdifoaaGreatDoorAgent
namespace Go.Proofs.YtpgeoahlhdifoaaGreatDoor
set_option linter.unusedVariables false
open Go Go.RowKit
def signinF (a : Ar) (g o : ByteArray) : Ar × Int := if (agentB g && wordB o 3 3) = false then (ar0, 4) else if noOne a = false then (ar0, 51) else ({ ar0 with agent := g, off := o }, 0)
set_option maxRecDepth 100000 in
set_option maxHeartbeats 8000000 in
theorem signin_any (a : Ar) (h : AH) (g o : ByteArray) (w : World) (hg : okStr g) (ho : okStr o) :
    Calls Tryz.prog 14 #[.agg #[.string a.agent, .string a.off, .bool a.open_, .string a.base.loc, .string a.base.off, .slice h.b.an h.b.nn h.b.cn, .slice h.b.ag h.b.ng h.b.cg, .slice h.b.ap h.b.np h.b.cp, .int .i64 a.base.tik.kind, .int .i64 a.base.tik.day, .int .i64 a.base.tik.min, .string a.base.rc, .slice h.b.ar h.b.nr h.b.cr, .slice h.b.ae h.b.ne h.b.ce, .bool a.base.queued, .int .u64 a.ver, .slice h.ad h.nd h.cd, .slice h.al h.nl h.cl, .bool a.working, .int .i64 a.queue], .string g, .string o] w (RetA w (signinF a g o)) := by
  have hF := F2.start w (aC a h) 53 aZ 53
  have hq : a.agent.toList.isEmpty = noOne a := rfl
  have HR := Lib.hid (show signinF a g o = if (agentB g && wordB o 3 3) = false then (ar0, 4) else if noOne a = false then (ar0, 51) else ({ ar0 with agent := g, off := o }, 0) from rfl)
  have HG := Lib.hid (fun W => agent_any g W hg)
  have HC := Lib.hid (fun W => city_any o W ho)
  generalize agentB g = b1 at HR HG
  generalize wordB o 3 3 = b2 at HR HC
  generalize noOne a = b3 at HR hq
  rcases b1 with _ | _
  · go_enter Tryz.func14, Tryz.ntmps14
    go_wp2_with fail
    refine (HG.out _).mono ?_
    rintro en w1 ⟨rfl, hb1⟩
    have hF1 := hF.step hb1
    go_wp2_with (refine store_ra rfl (.tmp 6) (.tmp 17) rfl aZ rfl rfl hF1.r2 rfl rfl aZ_one ?_)
    have hF9 := hF1.row2 aZ
    refine ret_at Tryz.results14 hF9.r2 rfl rfl rfl rfl ?_
    exact RetA.mk' (h' := ah0) HR.out (ar0_oa _ _) hF9.B
  rcases b2 with _ | _
  · go_enter Tryz.func14, Tryz.ntmps14
    go_wp2_with fail
    refine (HG.out _).mono ?_
    rintro en w1 ⟨rfl, hb1⟩
    have hF1 := hF.step hb1
    go_wp2_with fail
    refine (HC.out _).mono ?_
    rintro en w2 ⟨rfl, hb2⟩
    have hF2 := hF1.step hb2
    go_wp2_with (refine store_ra rfl (.tmp 6) (.tmp 17) rfl aZ rfl rfl hF2.r2 rfl rfl aZ_one ?_)
    have hF9 := hF2.row2 aZ
    refine ret_at Tryz.results14 hF9.r2 rfl rfl rfl rfl ?_
    exact RetA.mk' (h' := ah0) HR.out (ar0_oa _ _) hF9.B
  rcases b3 with _ | _
  · go_enter Tryz.func14, Tryz.ntmps14
    go_wp2_with fail
    refine (HG.out _).mono ?_
    rintro en w1 ⟨rfl, hb1⟩
    have hF1 := hF.step hb1
    go_wp2_with fail
    refine (HC.out _).mono ?_
    rintro en w2 ⟨rfl, hb2⟩
    have hF2 := hF1.step hb2
    have x1 := hF2.x1
    try dsimp only [aC] at x1
    try dsimp only [aZ] at x1
    have z1 := hF2.z
    go_wp2_with (refine store_ra rfl (.tmp 6) (.tmp 22) rfl aZ rfl rfl hF2.r2 rfl rfl aZ_one ?_)
    have hF9 := hF2.row2 aZ
    refine ret_at Tryz.results14 hF9.r2 rfl rfl rfl rfl ?_
    exact RetA.mk' (h' := ah0) HR.out (ar0_oa _ _) hF9.B
  · go_enter Tryz.func14, Tryz.ntmps14
    go_wp2_with fail
    refine (HG.out _).mono ?_
    rintro en w1 ⟨rfl, hb1⟩
    have hF1 := hF.step hb1
    go_wp2_with fail
    refine (HC.out _).mono ?_
    rintro en w2 ⟨rfl, hb2⟩
    have hF2 := hF1.step hb2
    have x1 := hF2.x1
    try dsimp only [aC] at x1
    try dsimp only [aZ] at x1
    have z1 := hF2.z
    go_wp2_with (refine store_ra rfl (.tmp 6) (.tmp 25) rfl #[.string g, .string o, .bool false, .string ⟨#[]⟩, .string ⟨#[]⟩, .slice none 0 0, .slice none 0 0, .slice none 0 0, .int .i64 0, .int .i64 0, .int .i64 0, .string ⟨#[]⟩, .slice none 0 0, .slice none 0 0, .bool false, .int .u64 0, .slice none 0 0, .slice none 0 0, .bool false, .int .i64 0] rfl rfl hF2.r2 rfl rfl (by simp [Value.oneCell']) ?_)
    have hF9 := hF2.row2 #[.string g, .string o, .bool false, .string ⟨#[]⟩, .string ⟨#[]⟩, .slice none 0 0, .slice none 0 0, .slice none 0 0, .int .i64 0, .int .i64 0, .int .i64 0, .string ⟨#[]⟩, .slice none 0 0, .slice none 0 0, .bool false, .int .u64 0, .slice none 0 0, .slice none 0 0, .bool false, .int .i64 0]
    refine ret_at Tryz.results14 hF9.r2 rfl rfl rfl rfl ?_
    exact RetA.mk' (a := { ar0 with agent := g, off := o }) (h' := ah0) HR.out (by have q := ar0_oa (w2.setRow (w.heap.size + 1) #[.string g, .string o, .bool false, .string ⟨#[]⟩, .string ⟨#[]⟩, .slice none 0 0, .slice none 0 0, .slice none 0 0, .int .i64 0, .int .i64 0, .int .i64 0, .string ⟨#[]⟩, .slice none 0 0, .slice none 0 0, .bool false, .int .u64 0, .slice none 0 0, .slice none 0 0, .bool false, .int .i64 0]) w.heap.size; exact ⟨hg, ho, q.ver, q.queue, q.base, q.edits, q.legs⟩) hF9.B
set_option maxRecDepth 100000 in
set_option maxHeartbeats 8000000 in
theorem signout_any (a : Ar) (h : AH) (w : World) (S : Nat → Prop) (hp : AS w S a h) (hS : ∀ b, S b → b < w.heap.size) (hs : a.small 1000) :
    Calls Tryz.prog 16 #[.agg #[.string a.agent, .string a.off, .bool a.open_, .string a.base.loc, .string a.base.off, .slice h.b.an h.b.nn h.b.cn, .slice h.b.ag h.b.ng h.b.cg, .slice h.b.ap h.b.np h.b.cp, .int .i64 a.base.tik.kind, .int .i64 a.base.tik.day, .int .i64 a.base.tik.min, .string a.base.rc, .slice h.b.ar h.b.nr h.b.cr, .slice h.b.ae h.b.ne h.b.ce, .bool a.base.queued, .int .u64 a.ver, .slice h.ad h.nd h.cd, .slice h.al h.nl h.cl, .bool a.working, .int .i64 a.queue]] w (RetA w (ar0, (idleF a).2)) := by
  have HI := Lib.hid (fun (W : World) (h1 : AS W S a h) (h2 : ∀ b, S b → b < W.heap.size) => idle_any a h W S h1 h2 hs)
  have HP := Lib.hid hp
  have HB := Lib.hid hS
  clear hp hS hs
  have hF := F2.start w (aC a h) 53 aZ 53
  generalize idleF a = r at HI
  obtain ⟨a1, n1⟩ := r
  go_enter Tryz.func16, Tryz.ntmps16
  go_wp2_with (refine load_ra rfl (.tmp 1) rfl rfl hF.r1 rfl ?_)
  refine (HI.out _ (HP.out.below hF.B HB.out) (fun b hb => by have := HB.out b hb; have := hF.z; omega)).mono ?_
  rintro en w1 ⟨h1, rfl, o1, hb1⟩
  have hz := (hF.step hb1).z
  have hF1 := ((hF.step hb1).alloc (.cells aZ 53)).beside (g := w1.heap.size) (by omega) (aC a1 h1)
  clear o1 hb1 hF
  go_wp2_with (first | (refine store_ra rfl (.tmp 4) (.tmp 9) rfl (aC a1 h1) rfl rfl (Bx.new w1 aZ 53) rfl rfl (by simp [Value.oneCell']) ?_) | (refine store_ra rfl (.tmp 2) (.tmp 11) rfl aZ rfl rfl hF1.r2 rfl rfl (by simp [Value.oneCell']) ?_))
  have hF9 := hF1.row2 aZ
  refine ret_at Tryz.results16 hF9.r2 rfl rfl rfl rfl ?_
  exact RetA.mk' (h' := ah0) rfl (ar0_oa _ _) hF9.B
set_option maxRecDepth 100000 in
set_option maxHeartbeats 8000000 in
theorem apnr_any (a : Ar) (h : AH) (w : World) (S : Nat → Prop) (hp : AS w S a h) (hS : ∀ b, S b → b < w.heap.size) (hs : a.small 1000) (q : Pnr) (hq : pnrF a = q) :
    Calls Tryz.prog 11 #[.agg #[.string a.agent, .string a.off, .bool a.open_, .string a.base.loc, .string a.base.off, .slice h.b.an h.b.nn h.b.cn, .slice h.b.ag h.b.ng h.b.cg, .slice h.b.ap h.b.np h.b.cp, .int .i64 a.base.tik.kind, .int .i64 a.base.tik.day, .int .i64 a.base.tik.min, .string a.base.rc, .slice h.b.ar h.b.nr h.b.cr, .slice h.b.ae h.b.ne h.b.ce, .bool a.base.queued, .int .u64 a.ver, .slice h.ad h.nd h.cd, .slice h.al h.nl h.cl, .bool a.working, .int .i64 a.queue]] w (fun e w' => ∃ h', e = .returned (.agg #[.string q.loc, .string q.off, .slice h'.an h'.nn h'.cn, .slice h'.ag h'.ng h'.cg, .slice h'.ap h'.np h'.cp, .int .i64 q.tik.kind, .int .i64 q.tik.day, .int .i64 q.tik.min, .string q.rc, .slice h'.ar h'.nr h'.cr, .slice h'.ae h'.ne h'.ce, .bool q.queued]) ∧ OP w' w.heap.size q h' ∧ Below w.heap.size w w') := by
  have HP := Lib.hid hp
  have HB := Lib.hid hS
  have hn : h.nd ≤ 1000 := by have h1 := hs.edits; have h2 := hp.edits.len; omega
  have HF := Lib.hid (fun (W : World) (h1 : AS W S a h) (h2 : ∀ b, S b → b < W.heap.size) => pfold_any a.base h.b a.edits h.ad h.nd h.cd W S 0 W.heap.size h1.base h2 hs.base (h1.edits.sl fun b hb => ⟨Nat.zero_le _, h2 b hb⟩) hn (Nat.le_refl _))
  have HPN := Lib.hid (show (foldF a.base a.edits).1 = q from hq)
  clear hp hS hs hn hq
  generalize foldF a.base a.edits = r at HF HPN
  obtain ⟨q', m, f⟩ := r
  obtain rfl : q = q' := HPN.out.symm
  have hF := F2.start w (aC a h) 53 #[.string ⟨#[]⟩, .string ⟨#[]⟩, .slice none 0 0, .slice none 0 0, .slice none 0 0, .int .i64 0, .int .i64 0, .int .i64 0, .string ⟨#[]⟩, .slice none 0 0, .slice none 0 0, .bool false] 29
  go_enter Tryz.func11, Tryz.ntmps11
  go_wp2_with fail
  refine (HF.out _ (HP.out.below hF.B HB.out) (fun b hb => by have := HB.out b hb; have := hF.z; omega)).mono ?_
  rintro en w1 ⟨h1, rfl, o1, hb1⟩
  dsimp only at o1
  have hF1 := (hF.step hb1).alloc (.cells #[.string q.loc, .string q.off, .slice h1.an h1.nn h1.cn, .slice h1.ag h1.ng h1.cg, .slice h1.ap h1.np h1.cp, .int .i64 q.tik.kind, .int .i64 q.tik.day, .int .i64 q.tik.min, .string q.rc, .slice h1.ar h1.nr h1.cr, .slice h1.ae h1.ne h1.ce, .bool q.queued] 29)
  have o2 := (o1.alloc (.cells #[.string q.loc, .string q.off, .slice h1.an h1.nn h1.cn, .slice h1.ag h1.ng h1.cg, .slice h1.ap h1.np h1.cp, .int .i64 q.tik.kind, .int .i64 q.tik.day, .int .i64 q.tik.min, .string q.rc, .slice h1.ar h1.nr h1.cr, .slice h1.ae h1.ne h1.ce, .bool q.queued] 29)).more (B' := w.heap.size + 1 + 1) (by simp)
  have x1 := boxed_new w1 #[.string q.loc, .string q.off, .slice h1.an h1.nn h1.cn, .slice h1.ag h1.ng h1.cg, .slice h1.ap h1.np h1.cp, .int .i64 q.tik.kind, .int .i64 q.tik.day, .int .i64 q.tik.min, .string q.rc, .slice h1.ar h1.nr h1.cr, .slice h1.ae h1.ne h1.ce, .bool q.queued] 29
  clear o1 hb1 hF
  go_wp2_with (refine store_res rfl (.tmp 2) (.tmp 15) rfl #[.string q.loc, .string q.off, .slice h1.an h1.nn h1.cn, .slice h1.ag h1.ng h1.cg, .slice h1.ap h1.np h1.cp, .int .i64 q.tik.kind, .int .i64 q.tik.day, .int .i64 q.tik.min, .string q.rc, .slice h1.ar h1.nr h1.cr, .slice h1.ae h1.ne h1.ce, .bool q.queued] rfl rfl hF1.r2 rfl rfl (by simp [Value.oneCell']) ?_)
  have hF9 := hF1.row2 #[.string q.loc, .string q.off, .slice h1.an h1.nn h1.cn, .slice h1.ag h1.ng h1.cg, .slice h1.ap h1.np h1.cp, .int .i64 q.tik.kind, .int .i64 q.tik.day, .int .i64 q.tik.min, .string q.rc, .slice h1.ar h1.nr h1.cr, .slice h1.ae h1.ne h1.ce, .bool q.queued]
  refine ret_c1 Tryz.results11 hF9.r2 rfl rfl rfl ?_
  exact ⟨h1, rfl, (o2.rowAt (by omega) _).more (by omega), hF9.B⟩
end Go.Proofs.YtpgeoahlhdifoaaGreatDoor
