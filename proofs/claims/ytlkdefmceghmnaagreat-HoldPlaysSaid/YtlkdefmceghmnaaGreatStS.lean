/- A stock in memory: what is sold of it; put, Sell, Cancel, Sold, Left. -/
import Derived.Test.YtlkdefmceghmnaaGreatStG
import Derived.Test.YtlkdefmceghmnaaGreatMFlTab
import Derived.Test.YtlkdefmceghmnaaGreatQuietB
import Derived.StillTailTactics
namespace Go.Proofs.YtlkdefmceghmnaaGreat
set_option linter.unusedVariables false
open Go Go.RowKit Go.Sort
open Go.WideMaps (KeyLaw)
/-- The map's values are what is sold; no cell without any. -/
structure GQ (g : Value → Option Value) (q : Cel → Int) : Prop where
  at_ : ∀ c : Cel, c.ok → g (cellV c) = if q c = 0 then none else some (.int .i64 (q c))
  dom : ∀ v u, g v = some u → ∃ c : Cel, c.ok ∧ v = cellV c
noncomputable def updQ (q : Cel → Int) (c : Cel) (n : Int) : Cel → Int := fun d => by classical exact if d = c then n else q d
theorem updQ_same (q : Cel → Int) (c : Cel) (n : Int) : updQ q c n c = n := by simp [updQ]
theorem updQ_other (q : Cel → Int) (c : Cel) (n : Int) {d : Cel} (h : d ≠ c) : updQ q c n d = q d := by simp [updQ, h]
theorem GQ.none_ : GQ (fun _ => none) (fun _ => 0) := ⟨fun c _ => by simp, fun v u h => by cases h⟩
theorem GQ.put {g : Value → Option Value} {q : Cel → Int} (h : GQ g q) {c : Cel} (hc : c.ok) {n : Int} (hn : n ≠ 0) : GQ (updK g (cellV c) (some (.int .i64 n))) (updQ q c n) := by
  refine ⟨fun d hd => ?_, fun v u hv => ?_⟩
  · by_cases e : d = c
    · subst e
      rw [updK_same, updQ_same, if_neg hn]
    · rw [updK_other _ _ _ (fun h2 => e (cellV_inj h2)), updQ_other _ _ _ e]
      exact h.at_ d hd
  · by_cases e : v = cellV c
    · exact ⟨c, hc, e⟩
    · rw [updK_other _ _ _ e] at hv
      exact h.dom v u hv
theorem GQ.del {g : Value → Option Value} {q : Cel → Int} (h : GQ g q) {c : Cel} : GQ (updK g (cellV c) none) (updQ q c 0) := by
  refine ⟨fun d hd => ?_, fun v u hv => ?_⟩
  · by_cases e : d = c
    · subst e
      rw [updK_same, updQ_same, if_pos rfl]
    · rw [updK_other _ _ _ (fun h2 => e (cellV_inj h2)), updQ_other _ _ _ e]
      exact h.at_ d hd
  · by_cases e : v = cellV c
    · rw [e, updK_same] at hv; cases hv
    · rw [updK_other _ _ _ e] at hv
      exact h.dom v u hv
/-- Block b alone may have turned among the old ones. -/
structure Kb (b : Nat) (W W' : World) : Prop where
  os : W'.os = W.os
  tape : W'.tape = W.tape
  output : W'.output = W.output
  size : W.heap.size ≤ W'.heap.size
  block : ∀ k, k < W.heap.size → k ≠ b → W'.heap[k]? = W.heap[k]?
section
variable {b : Nat} {W W1 W2 : World}
theorem Kb.refl (b : Nat) (W : World) : Kb b W W := ⟨rfl, rfl, rfl, Nat.le_refl _, fun _ _ _ => rfl⟩
theorem Kb.of_below (h : Below W.heap.size W W1) : Kb b W W1 := ⟨h.os, h.tape, h.output, h.size, fun k hk _ => h.block k hk⟩
theorem Kb.trans (h : Kb b W W1) (h2 : Kb b W1 W2) : Kb b W W2 :=
  ⟨h2.os.trans h.os, h2.tape.trans h.tape, h2.output.trans h.output, Nat.le_trans h.size h2.size, fun k hk hn => (h2.block k (Nat.lt_of_lt_of_le hk h.size) hn).trans (h.block k hk hn)⟩
theorem Kb.wr (h : Kb b W W1) (hw : Wr b W1 W2) : Kb b W W2 := by
  refine h.trans ⟨?_, ?_, ?_, Nat.le_of_eq hw.size.symm, fun k _ hn => hw.block hn⟩
  · obtain ⟨o, rfl⟩ := hw; rfl
  · obtain ⟨o, rfl⟩ := hw; rfl
  · obtain ⟨o, rfl⟩ := hw; rfl
theorem Kb.below {B : Nat} {a : World} (h : Kb b W W1) (ha : Below B a W) (hB : B ≤ b) (hW : B ≤ W.heap.size) : Below B a W1 :=
  ha.trans ⟨h.os, h.tape, h.output, h.size, fun k hk => h.block k (by omega) (by omega)⟩
end
/-- The stock at block p, over the table at block t (its blocks from lo on, ahead of hi); its map at block b. -/
structure SK (W : World) (lo hi t p b : Nat) (rs : List FlR) (q : Cel → Int) : Prop where
  tab : ∃ w3, TB w3 lo t rs ∧ w3.heap.size = hi ∧ ∀ k, lo ≤ k → k < hi → W.heap[k]? = w3.heap[k]?
  box : Bx W p #[.pointer (some ⟨t, 0, none⟩), .map (some b)] 105
  mp : ∃ g, Mp Tryz.prog 108 W b g ∧ GQ g q
  hp : hi ≤ p
  hb : hi ≤ b
  ne : p ≠ b
section
variable {W W' : World} {lo hi t p b : Nat} {rs : List FlR} {q : Cel → Int}
theorem SK.plt (h : SK W lo hi t p b rs q) : p < W.heap.size := h.box.lt
theorem SK.blt (h : SK W lo hi t p b rs q) : b < W.heap.size := by
  obtain ⟨g, hm, _⟩ := h.mp
  exact hm.size
theorem SK.tb (h : SK W lo hi t p b rs q) : TB W lo t rs := by
  obtain ⟨w3, ht, hs, hk⟩ := h.tab
  exact ht.keepB fun k h1 h2 => hk k h1 (by omega)
theorem SK.keep (h : SK W lo hi t p b rs q) (hb : Below W.heap.size W W') : SK W' lo hi t p b rs q := by
  have h1 := h.plt
  have h2 := h.blt
  obtain ⟨w3, ht, hs, hk⟩ := h.tab
  obtain ⟨g, hm, hg⟩ := h.mp
  exact ⟨⟨w3, ht, hs, fun k q1 q2 => (hb.block k (by have := h.hp; omega)).trans (hk k q1 q2)⟩, h.box.below hb h1, ⟨g, hm.below hb h2, hg⟩, h.hp, h.hb, h.ne⟩
theorem SK.drewN (h : SK W lo hi t p b rs q) (n : Nat) : SK (W.drewN n) lo hi t p b rs q := h.keep (below_drewN (Below.refl _ _) n)
theorem SK.wr {q' : Cel → Int} {g' : Value → Option Value} (h : SK W lo hi t p b rs q) (hw : Wr b W W') (hm : Mp Tryz.prog 108 W' b g') (hg : GQ g' q') : SK W' lo hi t p b rs q' := by
  obtain ⟨w3, ht, hs, hk⟩ := h.tab
  exact ⟨⟨w3, ht, hs, fun k q1 q2 => (hw.block (by have := h.hb; omega)).trans (hk k q1 q2)⟩, h.box.wr hw h.ne, ⟨g', hm, hg⟩, h.hp, h.hb, h.ne⟩
theorem SK.look (h : SK W lo hi t p b rs q) (c : Cel) (hc : c.ok) : (Instr.lookup 103 (.map (some b)) (.agg #[.string c.leg.key.car, .int .i64 c.leg.key.num, .int .i64 c.leg.day, .int .u8 c.cl]) false).run Tryz.prog W = .ok (.int .i64 (q c)) W := by
  obtain ⟨g, hm, hg⟩ := h.mp
  obtain ⟨kl, hkl⟩ := cellKey c hc
  have h1 := hm.look (e := 3) (t := 103) lawCell Tryz.underlying103 zeroInt hkl false
  rw [hg.at_ c hc] at h1
  by_cases h0 : q c = 0
  · rw [if_pos h0] at h1
    rw [h0]
    exact h1
  · rw [if_neg h0] at h1
    exact h1
end
/-- stock.New. -/
theorem snew_any (t : Nat) (w : World) :
    Calls Tryz.prog 46 #[.pointer (some ⟨t, 0, none⟩)] w fun e w' => ∃ p b, e = .returned (.pointer (some ⟨p, 0, none⟩)) ∧ w.heap.size ≤ p ∧ w.heap.size ≤ b ∧ p ≠ b ∧ Bx w' p #[.pointer (some ⟨t, 0, none⟩), .map (some b)] 105 ∧ Mp Tryz.prog 108 w' b (fun _ => none) ∧ Below w.heap.size w w' := by
  have hmm := @run_makeMap Tryz.prog
  go_enter Tryz.func46, Tryz.ntmps46
  go_wp2
  go_ret
  have hb := Bx.new (w.alloc (.map #[] 0)) #[.pointer (some ⟨t, 0, none⟩), .map (some w.heap.size)] 105
  rw [World.size_alloc] at hb
  exact ⟨w.heap.size + 1, w.heap.size, rfl, by omega, Nat.le_refl _, by omega, hb, (Mp.made w).alloc _, ((Below.refl _ _).alloc (Nat.le_refl _) _).alloc (by simp) _⟩
set_option maxRecDepth 100000 in
set_option maxHeartbeats 4000000 in
theorem sold_any {W : World} {lo hi t p b : Nat} {rs : List FlR} {q : Cel → Int} (h : SK W lo hi t p b rs q) (g : Leg) (cl : Int) (hg : g.ok) (hc : okByte cl) :
    Calls Tryz.prog 17 #[.pointer (some ⟨p, 0, none⟩), .agg #[.string g.key.car, .int .i64 g.key.num, .int .i64 g.day], .int .u8 cl] W fun e w' => e = .returned (.int .i64 (q ⟨g, cl⟩)) ∧ Below W.heap.size W w' := by
  have HO := Lib.hid (show (⟨g, cl⟩ : Cel).ok from ⟨hg, hc⟩)
  obtain ⟨⟨kc, kn⟩, d⟩ := g
  dsimp only
  have HB := And.intro (box1 W #[.string kc, .int .i64 kn, .int .i64 d] 27) (h.keep ((Below.refl W.heap.size W).alloc (Nat.le_refl _) (.cells #[.string kc, .int .i64 kn, .int .i64 d] 27)))
  clear h hg hc
  go_enter Tryz.func17, Tryz.ntmps17
  go_upto_region 1 with fail
  refine wp_world (fun V => (Bx V W.heap.size #[.string kc, .int .i64 kn, .int .i64 d] 27 ∧ Below W.heap.size W V) ∧ SK V lo hi t p b rs q) HB ?_
  clear HB
  rintro V ⟨⟨b1, hb⟩, hS⟩
  have hlk := fun m => (hS.drewN m).look ⟨⟨⟨kc, kn⟩, d⟩, cl⟩ HO.out
  dsimp only at hlk
  generalize hz : q ⟨⟨⟨kc, kn⟩, d⟩, cl⟩ = z at hlk
  have HZ := Lib.hid hz
  clear hz
  have c1 := b1.cells
  have cx := hS.box.cells
  clear hS b1
  go_quiet (fail)
  go_wp2
  go_ret
  exact ⟨ret_int HZ.out.symm, below_drewN hb _⟩
/-- What is sold is few. -/
def QB (q : Cel → Int) : Prop := ∀ c, 0 ≤ q c ∧ q c ≤ 400
theorem QB.upd {q : Cel → Int} (h : QB q) (c : Cel) {n : Int} (h0 : 0 ≤ n) (h1 : n ≤ 400) : QB (updQ q c n) := fun d => by
  by_cases e : d = c
  · rw [e, updQ_same]; exact ⟨h0, h1⟩
  · rw [updQ_other _ _ _ e]; exact h d
theorem updQ_self (q : Cel → Int) (c : Cel) : updQ q c (q c) = q := by
  funext d
  by_cases e : d = c
  · rw [e, updQ_same]
  · rw [updQ_other _ _ _ e]
theorem tlevel_is {rs : List FlR} {t lo : Nat} {g : Leg} {cl l1 l2 : Int} {W : World} (hlv : levelF (rs.map (·.f)) g cl = (l1, l2)) (ht : TB W lo t rs) (hg : g.ok) :
    Calls Tryz.prog 48 #[.pointer (some ⟨t, 0, none⟩), .agg #[.string g.key.car, .int .i64 g.key.num, .int .i64 g.day], .int .u8 cl] W fun e w' => e = .returned (.tuple #[.int .i64 l1, .int .i64 l2]) ∧ Below W.heap.size W w' := by
  have h := tlevel_any rs t lo g cl W ht hg
  rw [hlv] at h
  exact h
/-- What Sell answers, and how many are sold then; Cancel. -/
def sellF (lv : Int × Int) (z n : Int) : Int × Int := if n < 1 ∨ n > 9 then (1, z) else if lv.2 ≠ 0 then (lv.2, z) else if z + n > lv.1 then (13, z) else (0, z + n)
def cancF (lv : Int × Int) (z n : Int) : Int × Int := if n < 1 ∨ n > 9 then (1, z) else if lv.2 ≠ 0 then (lv.2, z) else if z < n then (7, z) else (0, z - n)
theorem sellF_is {lv : Int × Int} {z n : Int} : (n < 1 ∨ n > 9 → sellF lv z n = (1, z)) ∧ (1 ≤ n → n ≤ 9 → lv.2 ≠ 0 → sellF lv z n = (lv.2, z)) ∧ (1 ≤ n → n ≤ 9 → lv.2 = 0 → z + n > lv.1 → sellF lv z n = (13, z)) ∧ (1 ≤ n → n ≤ 9 → lv.2 = 0 → ¬ z + n > lv.1 → sellF lv z n = (0, z + n)) := by
  unfold sellF
  refine ⟨fun h => if_pos h, fun h1 h2 h3 => ?_, fun h1 h2 h3 h4 => ?_, fun h1 h2 h3 h4 => ?_⟩
  · rw [if_neg (by omega), if_pos h3]
  · rw [if_neg (by omega), if_neg (by omega), if_pos h4]
  · rw [if_neg (by omega), if_neg (by omega), if_neg h4]
theorem cancF_is {lv : Int × Int} {z n : Int} : (n < 1 ∨ n > 9 → cancF lv z n = (1, z)) ∧ (1 ≤ n → n ≤ 9 → lv.2 ≠ 0 → cancF lv z n = (lv.2, z)) ∧ (1 ≤ n → n ≤ 9 → lv.2 = 0 → z < n → cancF lv z n = (7, z)) ∧ (1 ≤ n → n ≤ 9 → lv.2 = 0 → ¬ z < n → cancF lv z n = (0, z - n)) := by
  unfold cancF
  refine ⟨fun h => if_pos h, fun h1 h2 h3 => ?_, fun h1 h2 h3 h4 => ?_, fun h1 h2 h3 h4 => ?_⟩
  · rw [if_neg (by omega), if_pos h3]
  · rw [if_neg (by omega), if_neg (by omega), if_pos h4]
  · rw [if_neg (by omega), if_neg (by omega), if_neg h4]
/-- A call that may turn one cell. -/
def RetSt (W : World) (lo hi t p b : Nat) (rs : List FlR) (q : Cel → Int) (c : Cel) (r : Int × Int) (e : Ending) (w' : World) : Prop :=
  e = .returned (.int .i64 r.1) ∧ SK w' lo hi t p b rs (updQ q c r.2) ∧ Kb b W w'
theorem RetSt.same {W V : World} {lo hi t p b : Nat} {rs : List FlR} {q : Cel → Int} {c : Cel} {r : Int × Int} {k z : Int} (hr : r = (k, z)) (hz : q c = z) (hS : SK V lo hi t p b rs q) (hb : Below W.heap.size W V) : RetSt W lo hi t p b rs q c r (.returned (.int .i64 k)) V := by
  subst hr
  subst hz
  exact ⟨rfl, by rw [updQ_self]; exact hS, Kb.of_below hb⟩
theorem RetSt.new {W V : World} {lo hi t p b : Nat} {rs : List FlR} {q : Cel → Int} {c : Cel} {r : Int × Int} {k z : Int} (hr : r = (k, z)) (hS : SK V lo hi t p b rs (updQ q c z)) (hb : Kb b W V) : RetSt W lo hi t p b rs q c r (.returned (.int .i64 k)) V := by
  subst hr
  exact ⟨rfl, hS, hb⟩
/-- delete, in a region that draws its order. -/
theorem step_del {P : Program} {ops : Array Oper} {o : Oper} {a : Act} {K : Act → World → Prop} {Q : Exit → Act → World → Prop} {E : Prop} {W W' : World} {t t2 : TypeId} {mv xv v : Value} (hgd : o.guard = none) (m x : Operand)
    (ho : o.op = .call { callee := .builtin .delete, args := #[m, x], argTypes := #[t, t2] }) (hm : a.eval m = mv) (hx : a.eval x = xv) (hrun : (Builtin.delete_ #[t, t2] o.type #[mv, xv]).run P W = .ok v W') (h : K (a.put o.dst v) W') :
    if Region.wanted o (yielded ops a.tmps) = true then Oper.wp P o a W K Q else E := by
  have hw : Region.wanted o (yielded ops a.tmps) = true := by simp [Region.wanted, hgd]
  rw [if_pos hw]
  unfold Oper.wp
  simp only [execOp, ho, resolve, invoke, builtin, Sem.run_bind, Sem.run_pure, Result.andThen_ok, List.map_toArray, List.map_cons, List.map_nil, hm, hx, hrun]
  exact h
set_option maxRecDepth 100000 in
set_option maxHeartbeats 4000000 in
theorem put_any {W : World} {lo hi t p b : Nat} {rs : List FlR} {q : Cel → Int} (h : SK W lo hi t p b rs q) (c : Cel) (n : Int) (hc : c.ok) (hn : 0 ≤ n) :
    Calls Tryz.prog 49 #[.pointer (some ⟨p, 0, none⟩), .agg #[.string c.leg.key.car, .int .i64 c.leg.key.num, .int .i64 c.leg.day, .int .u8 c.cl], .int .i64 n] W fun e w' => e = .returned (.tuple #[]) ∧ SK w' lo hi t p b rs (updQ q c n) ∧ Kb b W w' := by
  have HO := Lib.hid hc
  obtain ⟨⟨⟨kc, kn⟩, d⟩, cl⟩ := c
  dsimp only
  have HB := And.intro (box1 W #[.string kc, .int .i64 kn, .int .i64 d, .int .u8 cl] 108) (h.keep ((Below.refl W.heap.size W).alloc (Nat.le_refl _) (.cells #[.string kc, .int .i64 kn, .int .i64 d, .int .u8 cl] 108)))
  clear h hc
  go_enter Tryz.func49, Tryz.ntmps49
  go_upto_region 1 with fail
  refine wp_world (fun V => (Bx V W.heap.size #[.string kc, .int .i64 kn, .int .i64 d, .int .u8 cl] 108 ∧ Below W.heap.size W V) ∧ SK V lo hi t p b rs q) HB ?_
  clear HB
  rintro V ⟨⟨b1, hb⟩, hS⟩
  have c1 := b1.cells
  have cx := hS.box.cells
  obtain ⟨kl, hkl⟩ := cellKey ⟨⟨⟨kc, kn⟩, d⟩, cl⟩ HO.out
  obtain ⟨g, hm, hg⟩ := hS.mp
  by_cases h0 : n = 0
  · subst h0
    obtain ⟨V2, hrun, hm2, hw⟩ := hm.drew.del (e := 3) (t := 103) lawCell Tryz.underlying103 hkl 108 0
    unfold cellV at hrun
    dsimp only at hrun
    have HS := Lib.hid ((hS.drewN 1).wr hw hm2 (hg.del (c := ⟨⟨⟨kc, kn⟩, d⟩, cl⟩)))
    have HK := Lib.hid ((Kb.of_below (b := b) hb.drew).wr hw)
    clear hS hm hg hm2 hw hkl b1
    go_wp2
    go_region_law (refine step_del rfl (.tmp 11) (.tmp 12) (by rfl) (by rfl) (by rfl) hrun ?_)
    all_goals
      go_wp2
      first
        | go_end0
        | refine bodyPost_ret (results_none rfl _ _ _) rfl ?_
      exact ⟨rfl, HS.out, HK.out⟩
  · have t0 : (n == 0) = false := by simpa using h0
    obtain ⟨V2, hrun, hm2, hw⟩ := hm.drew.put (v := .int .i64 n) (e := 3) (t := 103) lawCell Tryz.underlying103 hkl
    unfold cellV at hrun
    dsimp only at hrun
    have HS := Lib.hid ((hS.drewN 1).wr hw hm2 (hg.put HO.out h0))
    have HK := Lib.hid ((Kb.of_below (b := b) hb.drew).wr hw)
    clear hS hm hg hm2 hw hkl b1
    go_wp2
    go_region
    all_goals
      go_wp2
      first
        | go_end0
        | refine bodyPost_ret (results_none rfl _ _ _) rfl ?_
      exact ⟨rfl, HS.out, HK.out⟩
set_option maxRecDepth 100000 in
set_option maxHeartbeats 4000000 in
theorem left_any {W : World} {lo hi t p b : Nat} {rs : List FlR} {q : Cel → Int} (h : SK W lo hi t p b rs q) (g : Leg) (cl : Int) (hg : g.ok) (hc : okByte cl) (hq : QB q) (hl : 0 ≤ (levelF (rs.map (·.f)) g cl).1 ∧ (levelF (rs.map (·.f)) g cl).1 ≤ 400) :
    Calls Tryz.prog 20 #[.pointer (some ⟨p, 0, none⟩), .agg #[.string g.key.car, .int .i64 g.key.num, .int .i64 g.day], .int .u8 cl] W fun e w' => e = .returned (.int .i64 ((levelF (rs.map (·.f)) g cl).1 - q ⟨g, cl⟩)) ∧ Below W.heap.size W w' := by
  have HO := Lib.hid (show (⟨g, cl⟩ : Cel).ok from ⟨hg, hc⟩)
  have HG := Lib.hid hg
  have HQ := Lib.hid (hq ⟨g, cl⟩)
  obtain ⟨⟨kc, kn⟩, d⟩ := g
  dsimp only
  have HB := And.intro (box1 W #[.string kc, .int .i64 kn, .int .i64 d] 27) (h.keep ((Below.refl W.heap.size W).alloc (Nat.le_refl _) (.cells #[.string kc, .int .i64 kn, .int .i64 d] 27)))
  generalize hlv : levelF (rs.map (·.f)) ⟨⟨kc, kn⟩, d⟩ cl = lv at hl
  have HLV := Lib.hid hlv
  obtain ⟨l1, l2⟩ := lv
  dsimp only at hl
  generalize hz : q ⟨⟨⟨kc, kn⟩, d⟩, cl⟩ = z at HQ
  have HZ := Lib.hid hz
  obtain ⟨z0, z1⟩ := HQ.out
  clear hlv hz h hg hc hq HQ
  go_enter Tryz.func20, Tryz.ntmps20
  go_upto_region 1 with fail
  refine wp_world (fun V => (Bx V W.heap.size #[.string kc, .int .i64 kn, .int .i64 d] 27 ∧ Below W.heap.size W V) ∧ SK V lo hi t p b rs q) HB ?_
  clear HB
  rintro V ⟨⟨b1, hb⟩, hS⟩
  have c1 := b1.cells
  have z3 := b1.lt
  have cx := hS.box.cells
  have HC := Lib.hid (fun u : Blw V => tlevel_is (t := t) HLV.out (hS.tb.keep u.b) HG.out)
  have HS := Lib.hid hS
  have zp := hS.plt
  clear hS
  refine wp_region_below (by kernel_rfl) (by kernel_rfl) ?_
  intro q9
  repeat
    (refine QH.step (fun K9 hK9 => ?_)
     go_simp
     first
     | (refine hK9 _ ?_; clear hK9 K9)
     | (apply Exists.intro
        refine ⟨fun _ => ?_, hK9 _ ?_⟩
        · first | (exact Calls.blw _ (HC.out _))
        clear hK9 K9))
  refine QH.nil_ ?_
  clear q9
  rintro ⟨V9, hV9⟩
  dsimp only
  have hS := HS.out.keep hV9
  have hb9 := hb.trans (hV9.mono hb.size)
  have b9 := b1.below hV9 z3
  clear c1 cx HS HC b1
  have c1 := b9.cells
  have cx := hS.box.cells
  have hlk := fun m => (hS.drewN m).look ⟨⟨⟨kc, kn⟩, d⟩, cl⟩ HO.out
  dsimp only at hlk
  rw [HZ.out] at hlk
  have HR : Hid (l1 - z = (levelF (rs.map (·.f)) ⟨⟨kc, kn⟩, d⟩ cl).1 - q ⟨⟨⟨kc, kn⟩, d⟩, cl⟩) := by show _ = _; rw [HLV.out, HZ.out]
  clear hS b9
  go_wp2
  go_quiet (fail)
  go_wp2
  go_ret
  exact ⟨ret_int rfl, below_drewN hb9 _⟩
set_option maxRecDepth 100000 in
set_option maxHeartbeats 8000000 in
theorem sell_any {W : World} {lo hi t p b : Nat} {rs : List FlR} {q : Cel → Int} (h : SK W lo hi t p b rs q) (g : Leg) (cl n : Int) (hg : g.ok) (hc : okByte cl) (hq : QB q) (hl : 0 ≤ (levelF (rs.map (·.f)) g cl).1 ∧ (levelF (rs.map (·.f)) g cl).1 ≤ 400) :
    Calls Tryz.prog 14 #[.pointer (some ⟨p, 0, none⟩), .agg #[.string g.key.car, .int .i64 g.key.num, .int .i64 g.day], .int .u8 cl, .int .i64 n] W (RetSt W lo hi t p b rs q ⟨g, cl⟩ (sellF (levelF (rs.map (·.f)) g cl) (q ⟨g, cl⟩) n)) := by
  have HO := Lib.hid (show (⟨g, cl⟩ : Cel).ok from ⟨hg, hc⟩)
  have HG := Lib.hid hg
  have HQ := Lib.hid (hq ⟨g, cl⟩)
  obtain ⟨⟨kc, kn⟩, d⟩ := g
  dsimp only
  have HB := And.intro (box1 W #[.string kc, .int .i64 kn, .int .i64 d] 27) (h.keep ((Below.refl W.heap.size W).alloc (Nat.le_refl _) (.cells #[.string kc, .int .i64 kn, .int .i64 d] 27)))
  generalize hlv : levelF (rs.map (·.f)) ⟨⟨kc, kn⟩, d⟩ cl = lv at hl
  have HLV := Lib.hid hlv
  obtain ⟨l1, l2⟩ := lv
  dsimp only at hl
  generalize hz : q ⟨⟨⟨kc, kn⟩, d⟩, cl⟩ = z at HQ
  have HZ := Lib.hid hz
  obtain ⟨z0, z1⟩ := HQ.out
  clear hlv hz h hg hc hq HQ
  go_enter Tryz.func14, Tryz.ntmps14
  go_upto_region 1 with fail
  refine wp_world (fun V => (Bx V W.heap.size #[.string kc, .int .i64 kn, .int .i64 d] 27 ∧ Below W.heap.size W V) ∧ SK V lo hi t p b rs q) HB ?_
  clear HB
  rintro V ⟨⟨b1, hb⟩, hS⟩
  have HF := Lib.hid (sellF_is (lv := (l1, l2)) (z := z) (n := n))
  by_cases n1 : n < 1
  · have t1 : decide (n < 1) = true := decide_eq_true n1
    have HR := Lib.hid (HF.out.1 (.inl n1))
    clear n1
    go_wp2
    go_ret
    exact RetSt.same HR.out HZ.out hS hb
  have t1 : decide (n < 1) = false := decide_eq_false n1
  by_cases n2 : n > 9
  · have t2 : decide (n > 9) = true := decide_eq_true n2
    have HR := Lib.hid (HF.out.1 (.inr n2))
    clear n1 n2
    go_wp2
    go_ret
    exact RetSt.same HR.out HZ.out hS hb
  have t2 : decide (n > 9) = false := decide_eq_false n2
  have c1 := b1.cells
  have z3 := b1.lt
  have cx := hS.box.cells
  have HC := Lib.hid (fun u : Blw V => tlevel_is (t := t) HLV.out (hS.tb.keep u.b) HG.out)
  have HS := Lib.hid hS
  have zp := hS.plt
  clear hS
  go_upto_region 3 with fail
  refine wp_region_below (by kernel_rfl) (by kernel_rfl) ?_
  intro q9
  repeat
    (refine QH.step (fun K9 hK9 => ?_)
     go_simp
     first
     | (refine hK9 _ ?_; clear hK9 K9)
     | (apply Exists.intro
        refine ⟨fun _ => ?_, hK9 _ ?_⟩
        · first | (exact Calls.blw _ (HC.out _))
        clear hK9 K9))
  refine QH.nil_ ?_
  clear q9
  rintro ⟨V9, hV9⟩
  dsimp only
  have hS := HS.out.keep hV9
  have hb9 := hb.trans (hV9.mono hb.size)
  have b9 := b1.below hV9 z3
  clear c1 cx HS HC b1
  have c1 := b9.cells
  by_cases he : l2 = 0
  case neg =>
    have t3 : (l2 != 0) = true := by simpa using he
    have HR := Lib.hid (HF.out.2.1 (by omega) (by omega) he)
    clear n1 n2 he
    go_wp2
    go_ret
    exact RetSt.same HR.out HZ.out (hS.keep ((Below.refl _ _).alloc (Nat.le_refl _) _)) (hb9.alloc hb9.size _)
  case pos =>
    subst he
    go_upto_region 7 with fail
    refine wp_world (fun U => (∃ gC, gC < U.heap.size ∧ Bx U V9.heap.size #[.string kc, .int .i64 kn, .int .i64 d, .int .u8 cl] 108) ∧ SK U lo hi t p b rs q ∧ Below W.heap.size W U) ⟨⟨V9.heap.size, by simp, Bx.new _ _ _⟩, hS.keep ((Below.refl _ _).alloc (Nat.le_refl _) _), hb9.alloc hb9.size _⟩ ?_
    clear c1 hS hb9 b9
    rintro U ⟨⟨_, _, bC⟩, hS, hbU⟩
    have hlk := fun m => (hS.drewN m).look ⟨⟨⟨kc, kn⟩, d⟩, cl⟩ HO.out
    dsimp only at hlk
    rw [HZ.out] at hlk
    have c1 := bC.cells
    have cx := hS.box.cells
    by_cases hm : z + n > l1
    · have t4 : decide (z + n > l1) = true := decide_eq_true hm
      have HR := Lib.hid (HF.out.2.2.1 (by omega) (by omega) rfl hm)
      have HS := Lib.hid hS
      clear hS
      go_quiet (fail)
      go_wp2
      go_ret
      exact RetSt.same HR.out HZ.out (HS.out.drewN _) (below_drewN hbU _)
    · have t4 : decide (z + n > l1) = false := decide_eq_false hm
      have HR := Lib.hid (HF.out.2.2.2 (by omega) (by omega) rfl hm)
      have hnn : 0 ≤ z + n := by omega
      have HS := Lib.hid hS
      clear hS
      go_quiet (fail)
      go_upto_region 9 with fail
      refine wp_world (fun U2 => (∀ i : Nat, U2.cell? ⟨V9.heap.size, i, none⟩ = (#[.string kc, .int .i64 kn, .int .i64 d, .int .u8 cl] : Array Value)[i]?) ∧ SK U2 lo hi t p b rs q ∧ Below W.heap.size W U2) ⟨c1, HS.out.drewN _, below_drewN hbU _⟩ ?_
      clear c1 cx hlk HS bC hbU
      rintro U2 ⟨c1, hS, hbU⟩
      have hlk := fun m => (hS.drewN m).look ⟨⟨⟨kc, kn⟩, d⟩, cl⟩ HO.out
      have hlk0 := hS.look ⟨⟨⟨kc, kn⟩, d⟩, cl⟩ HO.out
      have hlk1 := (hS.drewN 1).look ⟨⟨⟨kc, kn⟩, d⟩, cl⟩ HO.out
      dsimp only at hlk hlk0 hlk1
      rw [HZ.out] at hlk hlk0 hlk1
      change (Instr.lookup _ _ _ _).run Tryz.prog U2.drew = .ok _ U2.drew at hlk1
      have cx := hS.box.cells
      have HS := Lib.hid (hS.drewN 1)
      clear hS
      go_still_tail 10, (by kernel_rfl)
      go_wp2_with fail
      refine (put_any HS.out ⟨⟨⟨kc, kn⟩, d⟩, cl⟩ (z + n) HO.out hnn).mono ?_
      rintro e w9 ⟨rfl, hS9, hK9⟩
      have HS9 := Lib.hid hS9
      clear hS9 hlk hlk0 hlk1 c1 cx
      go_wp2
      go_ret
      exact RetSt.new HR.out HS9.out (((Kb.of_below (hbU.drew)).trans (hK9)))
set_option maxRecDepth 100000 in
set_option maxHeartbeats 8000000 in
theorem cancel_any {W : World} {lo hi t p b : Nat} {rs : List FlR} {q : Cel → Int} (h : SK W lo hi t p b rs q) (g : Leg) (cl n : Int) (hg : g.ok) (hc : okByte cl) (hq : QB q) (hl : 0 ≤ (levelF (rs.map (·.f)) g cl).1 ∧ (levelF (rs.map (·.f)) g cl).1 ≤ 400) :
    Calls Tryz.prog 18 #[.pointer (some ⟨p, 0, none⟩), .agg #[.string g.key.car, .int .i64 g.key.num, .int .i64 g.day], .int .u8 cl, .int .i64 n] W (RetSt W lo hi t p b rs q ⟨g, cl⟩ (cancF (levelF (rs.map (·.f)) g cl) (q ⟨g, cl⟩) n)) := by
  have HO := Lib.hid (show (⟨g, cl⟩ : Cel).ok from ⟨hg, hc⟩)
  have HG := Lib.hid hg
  have HQ := Lib.hid (hq ⟨g, cl⟩)
  obtain ⟨⟨kc, kn⟩, d⟩ := g
  dsimp only
  have HB := And.intro (box1 W #[.string kc, .int .i64 kn, .int .i64 d] 27) (h.keep ((Below.refl W.heap.size W).alloc (Nat.le_refl _) (.cells #[.string kc, .int .i64 kn, .int .i64 d] 27)))
  generalize hlv : levelF (rs.map (·.f)) ⟨⟨kc, kn⟩, d⟩ cl = lv at hl
  have HLV := Lib.hid hlv
  obtain ⟨l1, l2⟩ := lv
  dsimp only at hl
  generalize hz : q ⟨⟨⟨kc, kn⟩, d⟩, cl⟩ = z at HQ
  have HZ := Lib.hid hz
  obtain ⟨z0, z1⟩ := HQ.out
  clear hlv hz h hg hc hq HQ
  go_enter Tryz.func18, Tryz.ntmps18
  go_upto_region 1 with fail
  refine wp_world (fun V => (Bx V W.heap.size #[.string kc, .int .i64 kn, .int .i64 d] 27 ∧ Below W.heap.size W V) ∧ SK V lo hi t p b rs q) HB ?_
  clear HB
  rintro V ⟨⟨b1, hb⟩, hS⟩
  have HF := Lib.hid (cancF_is (lv := (l1, l2)) (z := z) (n := n))
  by_cases n1 : n < 1
  · have t1 : decide (n < 1) = true := decide_eq_true n1
    have HR := Lib.hid (HF.out.1 (.inl n1))
    clear n1
    go_wp2
    go_ret
    exact RetSt.same HR.out HZ.out hS hb
  have t1 : decide (n < 1) = false := decide_eq_false n1
  by_cases n2 : n > 9
  · have t2 : decide (n > 9) = true := decide_eq_true n2
    have HR := Lib.hid (HF.out.1 (.inr n2))
    clear n1 n2
    go_wp2
    go_ret
    exact RetSt.same HR.out HZ.out hS hb
  have t2 : decide (n > 9) = false := decide_eq_false n2
  have c1 := b1.cells
  have z3 := b1.lt
  have cx := hS.box.cells
  have HC := Lib.hid (fun u : Blw V => tlevel_is (t := t) HLV.out (hS.tb.keep u.b) HG.out)
  have HS := Lib.hid hS
  have zp := hS.plt
  clear hS
  go_upto_region 3 with fail
  refine wp_region_below (by kernel_rfl) (by kernel_rfl) ?_
  intro q9
  repeat
    (refine QH.step (fun K9 hK9 => ?_)
     go_simp
     first
     | (refine hK9 _ ?_; clear hK9 K9)
     | (apply Exists.intro
        refine ⟨fun _ => ?_, hK9 _ ?_⟩
        · first | (exact Calls.blw _ (HC.out _))
        clear hK9 K9))
  refine QH.nil_ ?_
  clear q9
  rintro ⟨V9, hV9⟩
  dsimp only
  have hS := HS.out.keep hV9
  have hb9 := hb.trans (hV9.mono hb.size)
  have b9 := b1.below hV9 z3
  clear c1 cx HS HC b1
  have c1 := b9.cells
  by_cases he : l2 = 0
  case neg =>
    have t3 : (l2 != 0) = true := by simpa using he
    have HR := Lib.hid (HF.out.2.1 (by omega) (by omega) he)
    clear n1 n2 he
    go_wp2
    go_ret
    exact RetSt.same HR.out HZ.out (hS.keep ((Below.refl _ _).alloc (Nat.le_refl _) _)) (hb9.alloc hb9.size _)
  case pos =>
    subst he
    go_upto_region 7 with fail
    refine wp_world (fun U => (∃ gC, gC < U.heap.size ∧ Bx U V9.heap.size #[.string kc, .int .i64 kn, .int .i64 d, .int .u8 cl] 108) ∧ SK U lo hi t p b rs q ∧ Below W.heap.size W U) ⟨⟨V9.heap.size, by simp, Bx.new _ _ _⟩, hS.keep ((Below.refl _ _).alloc (Nat.le_refl _) _), hb9.alloc hb9.size _⟩ ?_
    clear c1 hS hb9 b9
    rintro U ⟨⟨_, _, bC⟩, hS, hbU⟩
    have hlk := fun m => (hS.drewN m).look ⟨⟨⟨kc, kn⟩, d⟩, cl⟩ HO.out
    dsimp only at hlk
    rw [HZ.out] at hlk
    have c1 := bC.cells
    have cx := hS.box.cells
    by_cases hm : z < n
    · have t4 : decide (z < n) = true := decide_eq_true hm
      have HR := Lib.hid (HF.out.2.2.1 (by omega) (by omega) rfl hm)
      have HS := Lib.hid hS
      clear hS
      go_quiet (fail)
      go_wp2
      go_ret
      exact RetSt.same HR.out HZ.out (HS.out.drewN _) (below_drewN hbU _)
    · have t4 : decide (z < n) = false := decide_eq_false hm
      have HR := Lib.hid (HF.out.2.2.2 (by omega) (by omega) rfl hm)
      have hnn : 0 ≤ z - n := by omega
      have HS := Lib.hid hS
      clear hS
      go_quiet (fail)
      go_upto_region 9 with fail
      refine wp_world (fun U2 => (∀ i : Nat, U2.cell? ⟨V9.heap.size, i, none⟩ = (#[.string kc, .int .i64 kn, .int .i64 d, .int .u8 cl] : Array Value)[i]?) ∧ SK U2 lo hi t p b rs q ∧ Below W.heap.size W U2) ⟨c1, HS.out.drewN _, below_drewN hbU _⟩ ?_
      clear c1 cx hlk HS bC hbU
      rintro U2 ⟨c1, hS, hbU⟩
      have hlk := fun m => (hS.drewN m).look ⟨⟨⟨kc, kn⟩, d⟩, cl⟩ HO.out
      have hlk0 := hS.look ⟨⟨⟨kc, kn⟩, d⟩, cl⟩ HO.out
      have hlk1 := (hS.drewN 1).look ⟨⟨⟨kc, kn⟩, d⟩, cl⟩ HO.out
      dsimp only at hlk hlk0 hlk1
      rw [HZ.out] at hlk hlk0 hlk1
      change (Instr.lookup _ _ _ _).run Tryz.prog U2.drew = .ok _ U2.drew at hlk1
      have cx := hS.box.cells
      have HS := Lib.hid (hS.drewN 1)
      clear hS
      go_still_tail 10, (by kernel_rfl)
      go_wp2_with fail
      refine (put_any HS.out ⟨⟨⟨kc, kn⟩, d⟩, cl⟩ (z - n) HO.out hnn).mono ?_
      rintro e w9 ⟨rfl, hS9, hK9⟩
      have HS9 := Lib.hid hS9
      clear hS9 hlk hlk0 hlk1 c1 cx
      go_wp2
      go_ret
      exact RetSt.new HR.out HS9.out (((Kb.of_below (hbU.drew)).trans (hK9)))
end Go.Proofs.YtlkdefmceghmnaaGreat
