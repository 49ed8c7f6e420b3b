/- PnrFolds: the walk. -/
import Derived.Test.YtaakcccffmfmoaaDoorBoxes
import Derived.Test.YtaakcccffmfmoaaDoorCopied
import Derived.Test.YtaakcccffmfmoaaDoorSpoil
import Derived.Test.YtaakcccffmfmoaaDoorRfold
namespace Go.Proofs.YtaakcccffmfmoaaDoor
set_option linter.unusedVariables false
open Go Go.RowKit
theorem foldF_small2 : ∀ (es : List Edit) (p : Pnr) (N : Nat), p.small N → (foldF p es).1.small (N + es.length)
  | [], p, N, h => h
  | e :: t, p, N, h => by
    unfold foldF
    split
    · exact h.mono (by simp)
    · have := foldF_small2 t (applyF p e).1 (N + 1) (applyF_small h)
      exact this.mono (by simp; omega)
theorem BS.one2 (w : World) (cs : Array Value) (t : TypeId) : BS w [(w.heap.size, cs)] (w.alloc (.cells cs t)) := BS.alloc (w := w) (L := []) (Below.refl _ w) cs t
set_option maxRecDepth 100000 in
set_option maxHeartbeats 8000000 in
theorem folds_early (p : Pnr) (h : Hd) (A : Option Addr) (n c : Nat) (w : World) (hsb : smallB h = false ∨ (smallB h = true ∧ 100 < n)) :
    Calls Tryd.prog 7 #[.agg #[.string p.loc, .string p.off, .slice h.an h.nn h.cn, .slice h.ag h.ng h.cg, .slice h.ap h.np h.cp, .int .i64 p.tik.kind, .int .i64 p.tik.day, .int .i64 p.tik.min, .string p.rc, .slice h.ar h.nr h.cr, .slice h.ae h.ne h.ce, .bool p.queued], .slice A n c] w (RetB w true) := by
  have H0 := BS.one2 w #[.string p.loc, .string p.off, .slice h.an h.nn h.cn, .slice h.ag h.ng h.cg, .slice h.ap h.np h.cp, .int .i64 p.tik.kind, .int .i64 p.tik.day, .int .i64 p.tik.min, .string p.rc, .slice h.ar h.nr h.cr, .slice h.ae h.ne h.ce, .bool p.queued] 29
  rcases hsb with hsb | ⟨hsb, hn⟩
  · go_enter Tryd.func7, Tryd.ntmps7
    have HI1 := Lib.hid H0
    have HB1 := Lib.hid HI1.out.B
    go_wp2_with fail
    refine (awake12_any _).mono ?_
    rintro en w1 ⟨rfl, hb1⟩
    have hsz1 := hb1.size
    try simp only [World.size_alloc] at hsz1
    have GG := HI1.out.step hb1
    have HI2 := Lib.hid GG
    have HB2 := Lib.hid HI2.out.B
    clear H0 HI1
    obtain ⟨⟨z0, x0⟩, _⟩ := GG
    dsimp only at z0 x0
    go_wp2_with fail
    refine (small_any p h _).mono ?_
    rintro en w2 ⟨rfl, hb2⟩
    have hsz2 := hb2.size
    try simp only [World.size_alloc] at hsz2
    rw [hsb]
    have GG := HI2.out.step hb2
    have HI3 := Lib.hid GG
    have HB3 := Lib.hid HI3.out.B
    clear z0 x0 HI2
    obtain ⟨⟨z0, x0⟩, _⟩ := GG
    dsimp only at z0 x0
    go_wp2
    go_ret
    exact ⟨rfl, HB3.out⟩
  · have hn1 : (100 : Int) < n := by omega
    clear hn
    go_enter Tryd.func7, Tryd.ntmps7
    have HI1 := Lib.hid H0
    have HB1 := Lib.hid HI1.out.B
    go_wp2_with fail
    refine (awake12_any _).mono ?_
    rintro en w1 ⟨rfl, hb1⟩
    have hsz1 := hb1.size
    try simp only [World.size_alloc] at hsz1
    have GG := HI1.out.step hb1
    have HI2 := Lib.hid GG
    have HB2 := Lib.hid HI2.out.B
    clear H0 HI1
    obtain ⟨⟨z0, x0⟩, _⟩ := GG
    dsimp only at z0 x0
    go_wp2_with fail
    refine (small_any p h _).mono ?_
    rintro en w2 ⟨rfl, hb2⟩
    have hsz2 := hb2.size
    try simp only [World.size_alloc] at hsz2
    rw [hsb]
    have GG := HI2.out.step hb2
    have HI3 := Lib.hid GG
    have HB3 := Lib.hid HI3.out.B
    clear z0 x0 HI2
    obtain ⟨⟨z0, x0⟩, _⟩ := GG
    dsimp only at z0 x0
    go_wp2
    go_ret
    exact ⟨rfl, HB3.out⟩
set_option maxRecDepth 100000 in
set_option maxHeartbeats 8000000 in
theorem folds_main (p : Pnr) (h : Hd) (es : List Edit) (A : Option Addr) (n c : Nat) (w : World) (hp : PAt w 0 w.heap.size p h) (hc : Caps h) (hes : Sl w 0 w.heap.size tEdit A n es) (hsb : smallB h = true) (hn : n ≤ 100) :
    Calls Tryd.prog 7 #[.agg #[.string p.loc, .string p.off, .slice h.an h.nn h.cn, .slice h.ag h.ng h.cg, .slice h.ap h.np h.cp, .int .i64 p.tik.kind, .int .i64 p.tik.day, .int .i64 p.tik.min, .string p.rc, .slice h.ar h.nr h.cr, .slice h.ae h.ne h.ce, .bool p.queued], .slice A n c] w (RetB w true) := by
  have HP := Lib.hid (hp.ps hc)
  have H0 := BS.one2 w #[.string p.loc, .string p.off, .slice h.an h.nn h.cn, .slice h.ag h.ng h.cg, .slice h.ap h.np h.cp, .int .i64 p.tik.kind, .int .i64 p.tik.day, .int .i64 p.tik.min, .string p.rc, .slice h.ar h.nr h.cr, .slice h.ae h.ne h.ce, .bool p.queued] 29
  have HES := Lib.hid hes
  have hps := smallB_pnr hsb hp
  have HS1 := Lib.hid (hps.mono (show 200 ≤ 1000 by omega))
  have HSM := Lib.hid (hps.mono (show 200 ≤ 100000 by omega))
  have hlen := hes.len
  have HQS := Lib.hid ((foldF_small2 es p 200 hps).mono (show 200 + es.length ≤ 100000 by omega))
  have HSh := Lib.hid (HSM.out.hd hp)
  have hn1 : ¬ (100 : Int) < n := by omega
  clear hp hps hc hes hlen
  have HA1 := Lib.hid (fun (h1 : Hd) (W : World) (S : Nat → Prop) (a : PS W S p h1) (b : ∀ k, S k → k < W.heap.size) (d : Below w.heap.size w W) => pfold_any p h1 es A n c W S 0 w.heap.size a b HS1.out (HES.out.below d (Nat.le_refl _)) (by omega) d.size)
  have HA2 := Lib.hid (fun (W : World) (S : Nat → Prop) (a : PS W S p h) (b : ∀ k, S k → k < W.heap.size) (d : Below w.heap.size w W) => rfold_any p h es A n c W S 0 w.heap.size a b HS1.out (HES.out.below d (Nat.le_refl _)) (by omega) d.size)
  generalize foldF p es = r at HQS HA1 HA2
  obtain ⟨q, m, f⟩ := r
  dsimp only at HQS
  have hn0 : (f != f) = false := by simp
  have hm0 : ((m : Int) != m) = false := by simp
  have HN1 : Hid (decide (q = q) = true) := decide_eq_true rfl
  have HN2 : Hid (decide (p = p) = true) := decide_eq_true rfl
  clear hn
  go_enter Tryd.func7, Tryd.ntmps7
  have HI1 := Lib.hid H0
  have HB1 := Lib.hid HI1.out.B
  go_wp2_with fail
  refine (awake12_any _).mono ?_
  rintro en w1 ⟨rfl, hb1⟩
  have hsz1 := hb1.size
  try simp only [World.size_alloc] at hsz1
  have GG := HI1.out.step hb1
  have HI2 := Lib.hid GG
  have HB2 := Lib.hid HI2.out.B
  clear H0 HI1
  obtain ⟨⟨z0, x0⟩, _⟩ := GG
  dsimp only at z0 x0
  go_wp2_with fail
  refine (small_any p h _).mono ?_
  rintro en w2 ⟨rfl, hb2⟩
  have hsz2 := hb2.size
  try simp only [World.size_alloc] at hsz2
  rw [hsb]
  have GG := HI2.out.step hb2
  have HI3 := Lib.hid GG
  have HB3 := Lib.hid HI3.out.B
  clear z0 x0 HI2
  obtain ⟨⟨z0, x0⟩, _⟩ := GG
  dsimp only at z0 x0
  go_wp2_with fail
  refine (lcopied_any p h _ (fun b => 0 ≤ b ∧ b < w.heap.size) (HP.out.below HB3.out (fun b hb => hb.2)) (fun b hb => by have := HB3.out.size; omega) HSM.out).mono ?_
  rintro en w3 ⟨hm, rfl, om, hb3⟩
  have hsz3 := hb3.size
  try simp only [World.size_alloc] at hsz3
  have HRM := Lib.hid om.rb
  replace om := Lib.hid (om.alloc (.cells #[.string p.loc, .string p.off, .slice hm.an hm.nn hm.cn, .slice hm.ag hm.ng hm.cg, .slice hm.ap hm.np hm.cp, .int .i64 p.tik.kind, .int .i64 p.tik.day, .int .i64 p.tik.min, .string p.rc, .slice hm.ar hm.nr hm.cr, .slice hm.ae hm.ne hm.ce, .bool p.queued] 29))
  have GG := HI3.out.step hb3
  have HI4 := Lib.hid (GG.alloc #[.string p.loc, .string p.off, .slice hm.an hm.nn hm.cn, .slice hm.ag hm.ng hm.cg, .slice hm.ap hm.np hm.cp, .int .i64 p.tik.kind, .int .i64 p.tik.day, .int .i64 p.tik.min, .string p.rc, .slice hm.ar hm.nr hm.cr, .slice hm.ae hm.ne hm.ce, .bool p.queued] 29)
  have HB4 := Lib.hid HI4.out.B
  clear z0 x0 HI3
  obtain ⟨⟨z0, x0⟩, _⟩ := GG
  dsimp only at z0 x0
  go_wp2_with fail
  refine (HA1.out hm _ _ om.out.ps (fun k hk => hk.2) HB4.out).mono ?_
  rintro en w4 ⟨h1, rfl, oq, hb4⟩
  have hsz4 := hb4.size
  try simp only [World.size_alloc] at hsz4
  have HGE := Lib.hid oq.ge
  have HRB := Lib.hid oq.rb
  have oq := Lib.hid (oq.alloc (.cells #[.string q.loc, .string q.off, .slice h1.an h1.nn h1.cn, .slice h1.ag h1.ng h1.cg, .slice h1.ap h1.np h1.cp, .int .i64 q.tik.kind, .int .i64 q.tik.day, .int .i64 q.tik.min, .string q.rc, .slice h1.ar h1.nr h1.cr, .slice h1.ae h1.ne h1.ce, .bool q.queued] 29))
  have GG := HI4.out.step hb4
  have HI5 := Lib.hid (GG.alloc #[.string q.loc, .string q.off, .slice h1.an h1.nn h1.cn, .slice h1.ag h1.ng h1.cg, .slice h1.ap h1.np h1.cp, .int .i64 q.tik.kind, .int .i64 q.tik.day, .int .i64 q.tik.min, .string q.rc, .slice h1.ar h1.nr h1.cr, .slice h1.ae h1.ne h1.ce, .bool q.queued] 29)
  have HB5 := Lib.hid HI5.out.B
  replace om := Lib.hid ((om.out.keep hb4).alloc (.cells #[.string q.loc, .string q.off, .slice h1.an h1.nn h1.cn, .slice h1.ag h1.ng h1.cg, .slice h1.ap h1.np h1.cp, .int .i64 q.tik.kind, .int .i64 q.tik.day, .int .i64 q.tik.min, .string q.rc, .slice h1.ar h1.nr h1.cr, .slice h1.ae h1.ne h1.ce, .bool q.queued] 29))
  clear z0 x0 HI4
  obtain ⟨⟨z0, x0⟩, ⟨z1, x1⟩, _⟩ := GG
  dsimp only at z0 x0 z1 x1
  go_wp2_with fail
  refine (HA2.out _ (fun b => 0 ≤ b ∧ b < w.heap.size) (HP.out.below HB5.out (fun b hb => hb.2)) (fun b hb => by have := HB5.out.size; omega) HB5.out).mono ?_
  rintro en w5 ⟨h2, rfl, pw, hb5⟩
  have hsz5 := hb5.size
  try simp only [World.size_alloc] at hsz5
  have HPB : Hid (∀ b, ((0 ≤ b ∧ b < w.heap.size) ∨ ((w4.alloc (.cells #[.string q.loc, .string q.off, .slice h1.an h1.nn h1.cn, .slice h1.ag h1.ng h1.cg, .slice h1.ap h1.np h1.cp, .int .i64 q.tik.kind, .int .i64 q.tik.day, .int .i64 q.tik.min, .string q.rc, .slice h1.ar h1.nr h1.cr, .slice h1.ae h1.ne h1.ce, .bool q.queued] 29)).heap.size ≤ b ∧ b < w5.heap.size)) → b < w5.heap.size) := fun b hb => by have := HB5.out.size; rcases hb with hb | hb <;> omega
  replace pw := Lib.hid (PS.below (B := w5.heap.size) pw ((Below.refl _ _).alloc (Nat.le_refl _) (.cells #[.string q.loc, .string q.off, .slice h2.an h2.nn h2.cn, .slice h2.ag h2.ng h2.cg, .slice h2.ap h2.np h2.cp, .int .i64 q.tik.kind, .int .i64 q.tik.day, .int .i64 q.tik.min, .string q.rc, .slice h2.ar h2.nr h2.cr, .slice h2.ae h2.ne h2.ce, .bool q.queued] 29)) HPB.out)
  have GG := HI5.out.step hb5
  have HI6 := Lib.hid (GG.alloc #[.string q.loc, .string q.off, .slice h2.an h2.nn h2.cn, .slice h2.ag h2.ng h2.cg, .slice h2.ap h2.np h2.cp, .int .i64 q.tik.kind, .int .i64 q.tik.day, .int .i64 q.tik.min, .string q.rc, .slice h2.ar h2.nr h2.cr, .slice h2.ae h2.ne h2.ce, .bool q.queued] 29)
  have HB6 := Lib.hid HI6.out.B
  replace om := Lib.hid ((om.out.keep hb5).alloc (.cells #[.string q.loc, .string q.off, .slice h2.an h2.nn h2.cn, .slice h2.ag h2.ng h2.cg, .slice h2.ap h2.np h2.cp, .int .i64 q.tik.kind, .int .i64 q.tik.day, .int .i64 q.tik.min, .string q.rc, .slice h2.ar h2.nr h2.cr, .slice h2.ae h2.ne h2.ce, .bool q.queued] 29))
  replace oq := Lib.hid ((oq.out.keep hb5).alloc (.cells #[.string q.loc, .string q.off, .slice h2.an h2.nn h2.cn, .slice h2.ag h2.ng h2.cg, .slice h2.ap h2.np h2.cp, .int .i64 q.tik.kind, .int .i64 q.tik.day, .int .i64 q.tik.min, .string q.rc, .slice h2.ar h2.nr h2.cr, .slice h2.ae h2.ne h2.ce, .bool q.queued] 29))
  clear z0 x0 z1 x1 HI5
  obtain ⟨⟨z0, x0⟩, ⟨z1, x1⟩, ⟨z2, x2⟩, _⟩ := GG
  dsimp only at z0 x0 z1 x1 z2 x2
  go_wp2_with fail
  refine (rsame_any q q h1 h2 _ _ _ _ _ oq.out.at (pw.out.at (lo := 0) (hi := w5.heap.size) (fun b hb => ⟨Nat.zero_le _, HPB.out b hb⟩)) (oq.out.hd HQS.out) (HQS.out.hd (pw.out.at (lo := 0) (hi := w5.heap.size) (fun b hb => ⟨Nat.zero_le _, HPB.out b hb⟩))) (Nat.le_refl _) (by simp)).mono ?_
  rintro en w6 ⟨rfl, hb6⟩
  have hsz6 := hb6.size
  try simp only [World.size_alloc] at hsz6
  rw [show decide (q = q) = true from decide_eq_true rfl]
  clear pw
  have GG := HI6.out.step hb6
  have HI7 := Lib.hid GG
  have HB7 := Lib.hid HI7.out.B
  replace om := Lib.hid ((om.out.keep hb6))
  replace oq := Lib.hid ((oq.out.keep hb6))
  clear z0 x0 z1 x1 z2 x2 HI6
  obtain ⟨⟨z0, x0⟩, ⟨z1, x1⟩, ⟨z2, x2⟩, ⟨z3, x3⟩, _⟩ := GG
  dsimp only at z0 x0 z1 x1 z2 x2 z3 x3
  go_wp2_with fail
  refine (spoil_any q h1 _ _ oq.out (by simp; omega) HQS.out).mono ?_
  rintro en w7 ⟨rfl, hb7, hkk⟩
  have hsz7 := hb7.size
  try simp only [World.size_alloc] at hsz7
  replace om := Lib.hid (om.out.below hb7 (fun k hk => by have h1 := HRM.out k hk; simp; omega))
  have GG := HI7.out.turn (R := rowP h1) (hb7.mono (by simp; omega)) hkk (fun x hx hr => by have h1 := HGE.out _ hr; have h2 := HRB.out _ hr; (try simp only [World.size_alloc] at h1); simp only [List.mem_cons, List.not_mem_nil, or_false] at hx; rcases hx with rfl | rfl | rfl | rfl <;> dsimp only at h1 h2 <;> omega)
  have HI8 := Lib.hid GG
  have HB8 := Lib.hid HI8.out.B
  clear z0 x0 z1 x1 z2 x2 z3 x3 HI7
  obtain ⟨⟨z0, x0⟩, ⟨z1, x1⟩, ⟨z2, x2⟩, ⟨z3, x3⟩, _⟩ := GG
  dsimp only at z0 x0 z1 x1 z2 x2 z3 x3
  clear hkk oq
  go_wp2_with fail
  refine (rsame_any p p hm h _ _ _ _ _ om.out.at ((HP.out.below HB8.out (fun b hb => hb.2)).at (lo := 0) (hi := w.heap.size) (fun b hb => hb)) (om.out.hd HSM.out) HSh.out (Nat.le_refl _) (by have := HB8.out.size; omega)).mono ?_
  rintro en w8 ⟨rfl, hb8⟩
  rw [show decide (p = p) = true from decide_eq_true rfl]
  go_wp2
  go_ret
  exact ⟨rfl, HB8.out.trans (hb8.mono HB8.out.size)⟩
theorem pnrFolds_any (p : Pnr) (h : Hd) (es : List Edit) (A : Option Addr) (n c : Nat) (w : World) (hp : PAt w 0 w.heap.size p h) (hc : Caps h) (hes : Sl w 0 w.heap.size tEdit A n es) :
    Calls Tryd.prog 7 #[.agg #[.string p.loc, .string p.off, .slice h.an h.nn h.cn, .slice h.ag h.ng h.cg, .slice h.ap h.np h.cp, .int .i64 p.tik.kind, .int .i64 p.tik.day, .int .i64 p.tik.min, .string p.rc, .slice h.ar h.nr h.cr, .slice h.ae h.ne h.ce, .bool p.queued], .slice A n c] w (RetB w true) := by
  rcases Bool.eq_false_or_eq_true (smallB h) with hsb | hsb
  case inr => exact folds_early p h A n c w (.inl hsb)
  by_cases hn : 100 < n
  · exact folds_early p h A n c w (.inr ⟨hsb, hn⟩)
  · exact folds_main p h es A n c w hp hc hes hsb (by omega)
end Go.Proofs.YtaakcccffmfmoaaDoor
