/- The document's Sold, put, Left, Set, Sell, Cancel; the stock's Set; the law's play. By program. -/
import Derived.Test.YtlkdefmceghmnaaGreatStRf
import Derived.Test.YtlkdefmceghmnaaGreatFlRef2
import Derived.Deep.RegionHeld3
namespace Go.Proofs.YtlkdefmceghmnaaGreat
set_option linter.unusedVariables false
open Go Go.RowKit Go.Sort
/-- A parameter in its box, first among the new blocks. -/
def BB (w : World) (cs : Array Value) (t : TypeId) (W : World) : Prop := Bx W w.heap.size cs t ∧ Below w.heap.size w W
section
variable {w W W1 : World} {cs : Array Value} {t : TypeId}
theorem BB.start (w : World) (cs : Array Value) (t : TypeId) : BB w cs t (w.alloc (.cells cs t)) := box1 w cs t
theorem BB.lt (h : BB w cs t W) : w.heap.size + 1 ≤ W.heap.size := h.1.lt
theorem BB.step (h : BB w cs t W) (hb : Below W.heap.size W W1) : BB w cs t W1 := ⟨h.1.below hb h.1.lt, h.2.trans (hb.mono h.2.size)⟩
theorem BB.over (h : BB w cs t W) (hb : Below (w.heap.size + 1) W W1) : BB w cs t W1 := ⟨h.1.below hb (by omega), h.2.trans (hb.mono (by omega))⟩
theorem BB.drewN (h : BB w cs t W) (n : Nat) : BB w cs t (W.drewN n) := ⟨h.1.drewN n, below_drewN h.2 n⟩
end
set_option maxRecDepth 100000 in
set_option maxHeartbeats 4000000 in
theorem rsold_any (m : List Row10) (A : Option Addr) (n c : Nat) (g : Leg) (cl : Int) (w : World) (lo hi : Nat) (hs : Sl w lo hi tRow A n m) (hn : n ≤ 100000) (hhi : hi ≤ w.heap.size) :
    Calls Tryz.prog 57 #[.slice A n c, .agg #[.string g.key.car, .int .i64 g.key.num, .int .i64 g.day], .int .u8 cl] w fun e w' => e = .returned (.int .i64 (soldR m ⟨g, cl⟩)) ∧ Below w.heap.size w w' := by
  have HS := Lib.hid hs
  have HL := Lib.hid hs.len
  obtain ⟨⟨kc, kn⟩, d⟩ := g
  dsimp only
  have HB := BB.start w #[.string kc, .int .i64 kn, .int .i64 d] 27
  clear hs
  go_enter Tryz.func57, Tryz.ntmps57
  go_upto_region 1 with fail
  refine wp_world (BB w #[.string kc, .int .i64 kn, .int .i64 d] 27) HB ?_
  clear HB
  intro W hG
  go_wp2
  go_loopw [7] (fun i wr => ∃ j : Nat, j ≤ n ∧ i = .int .i64 j ∧ Hid (noC m ⟨⟨⟨kc, kn⟩, d⟩, cl⟩ j) ∧ BB w #[.string kc, .int .i64 kn, .int .i64 d] 27 wr) (fun i _ => n - (intOf i).toNat)
  case atStart => exact ⟨0, by omega, rfl, fun j r hj => absurd hj (by omega), hG⟩
  case round =>
    clear hG
    obtain ⟨j, hj, rfl, HN, hG⟩ := hrel
    by_cases hlt : j < n
    · obtain ⟨b0, o0, ⟨⟨⟨⟨xc, xn⟩, xd⟩, xl⟩, xz⟩, hA, _, _, hx, hok, d0, d1, d2, d3, d4⟩ := (HS.out.below hG.2 hhi).row_ hlt
      subst hA
      dsimp only at d0 d1 d2 d3 d4
      have c1 := hG.1.cells
      have i0 : (0 : Int) ≤ j := by omega
      have i1 : (j : Int) < n := by omega
      have hk := fun u => eql_lg ⟨⟨xc, xn⟩, xd⟩ ⟨⟨kc, kn⟩, d⟩ u
      dsimp only at hk
      by_cases q1 : (⟨⟨xc, xn⟩, xd⟩ : Leg) = ⟨⟨kc, kn⟩, d⟩
      · rw [decide_eq_true q1] at hk
        by_cases q2 : xl = cl
        · have hq2 : (xl == cl) = true := by simp [q2]
          have hf := Lib.hid (soldR_at (c := ⟨⟨⟨kc, kn⟩, d⟩, cl⟩) HN.out hx.out (by show Cel.mk _ _ = _; rw [q1, q2]))
          clear q1 q2
          go_wp2
          go_quiet (fail)
          go_wp2
          go_ret
          exact ⟨ret_int hf.out.symm, below_drewN hG.2 _⟩
        · have hq2 : (xl == cl) = false := by simp [q2]
          have hno := Lib.hid (HN.out.next hx.out (fun e => q2 (by injection e)))
          clear q1 q2
          go_wp2
          go_quiet (fail)
          go_wp2
          go_roundw
          case rel => exact ⟨j + 1, by omega, by go_num, hno, hG.drewN _⟩
          case measure => simp [intOf]; omega
      · rw [decide_eq_false q1] at hk
        have hno := Lib.hid (HN.out.next hx.out (fun e => q1 (by injection e)))
        clear q1
        go_wp2
        go_quiet (fail)
        go_wp2
        go_roundw
        case rel => exact ⟨j + 1, by omega, by go_num, hno, hG.drewN _⟩
        case measure => simp [intOf]; omega
    · obtain rfl : n = j := by omega
      have hf := Lib.hid (soldR_no (m := m) (c := ⟨⟨⟨kc, kn⟩, d⟩, cl⟩) (by rw [HL.out]; exact HN.out))
      go_wp2
      go_ret
      exact ⟨ret_int hf.out.symm, hG.2⟩
set_option maxRecDepth 100000 in
set_option maxHeartbeats 4000000 in
theorem rput_any (m : List Row10) (A : Option Addr) (n c : Nat) (g : Leg) (cl z : Int) (w : World) (lo hi : Nat) (hs : Sl w lo hi tRow A n m) (hg : g.ok) (hc : okByte cl) (hz : okInt z) (hn : n ≤ 100000) (hhi : hi ≤ w.heap.size) :
    Calls Tryz.prog 93 #[.slice A n c, .agg #[.string g.key.car, .int .i64 g.key.num, .int .i64 g.day], .int .u8 cl, .int .i64 z] w (RetOwn w 122 tRow (putR m ⟨g, cl⟩ z)) := by
  have HS := Lib.hid hs
  have HL := Lib.hid hs.len
  have HOK := Lib.hid (show Row10.ok ⟨⟨g, cl⟩, z⟩ from ⟨⟨hg, hc⟩, hz⟩)
  obtain ⟨⟨kc, kn⟩, d⟩ := g
  dsimp only
  have HB := BB.start w #[.string kc, .int .i64 kn, .int .i64 d] 27
  clear hs hg hc hz
  go_enter Tryz.func93, Tryz.ntmps93
  go_upto_region 1 with fail
  refine wp_world (BB w #[.string kc, .int .i64 kn, .int .i64 d] 27) HB ?_
  clear HB
  intro W hG
  go_wp2
  go_loopw [9, 10] (fun v i wr => ∃ k : Nat, k ≤ n ∧ i = .int .i64 k ∧ Own wr (w.heap.size + 1) 122 tRow v (keepR (m.take k) ⟨⟨⟨kc, kn⟩, d⟩, cl⟩) ∧ BB w #[.string kc, .int .i64 kn, .int .i64 d] 27 wr) (fun _ i _ => n - (intOf i).toNat)
  case atStart => exact ⟨0, by omega, rfl, Own.nil_ _ _ _ _, hG⟩
  case round =>
    clear hG
    obtain ⟨k, hk, rfl, ho, hG⟩ := hrel
    have hlen : (keepR (m.take k) ⟨⟨⟨kc, kn⟩, d⟩, cl⟩).length ≤ n := by
      have h1 := keepR_len (m.take k) ⟨⟨⟨kc, kn⟩, d⟩, cl⟩
      rw [List.length_take, HL.out] at h1
      omega
    have hzz : w.heap.size + 1 ≤ wr.heap.size := hG.lt
    by_cases hlt : k < n
    · obtain ⟨b0, o0, ⟨⟨⟨⟨xc, xn⟩, xd⟩, xl⟩, xz⟩, hA, _, _, hx, hok, d0, d1, d2, d3, d4⟩ := (HS.out.below hG.2 hhi).row_ hlt
      subst hA
      dsimp only at d0 d1 d2 d3 d4
      have c1 := hG.1.cells
      have i0 : (0 : Int) ≤ k := by omega
      have i1 : (k : Int) < n := by omega
      have hst := Lib.hid (keepR_next (c := ⟨⟨⟨kc, kn⟩, d⟩, cl⟩) hx.out)
      have hk := fun u => neq_lg ⟨⟨xc, xn⟩, xd⟩ ⟨⟨kc, kn⟩, d⟩ u
      dsimp only at hk
      generalize hout : keepR (m.take k) ⟨⟨⟨kc, kn⟩, d⟩, cl⟩ = out at ho hlen hst
      clear hout
      by_cases q1 : (⟨⟨xc, xn⟩, xd⟩ : Leg) = ⟨⟨kc, kn⟩, d⟩
      · rw [decide_eq_true q1] at hk
        by_cases q2 : xl = cl
        · have hq2 : (xl != cl) = false := by simp [q2]
          have hf := Lib.hid (show keepR (m.take (k + 1)) ⟨⟨⟨kc, kn⟩, d⟩, cl⟩ = out by rw [hst.out, if_pos (by show Cel.mk _ _ = _; rw [q1, q2]), List.append_nil])
          clear q1 q2
          go_wp2
          go_quiet (fail)
          go_wp2
          go_roundw
          case rel => exact ⟨k + 1, by omega, by go_num, by rw [hf.out]; exact ho.drewN _, hG.drewN _⟩
          case measure => simp [intOf]; omega
        · have hq2 : (xl != cl) = true := by simp [q2]
          have hf := Lib.hid (show keepR (m.take (k + 1)) ⟨⟨⟨kc, kn⟩, d⟩, cl⟩ = out ++ [⟨⟨⟨⟨xc, xn⟩, xd⟩, xl⟩, xz⟩] by rw [hst.out, if_neg (fun e => q2 (by injection e))])
          clear q1 q2
          go_wp2
          go_quiet (fail)
          go_wp2_with (at_builtin; refine push_law (W := wr.drewN _) rfl (.tmp 33) (.tmp 38) rfl sl_row rfl (ho.drewN _) (⟨⟨⟨⟨xc, xn⟩, xd⟩, xl⟩, xz⟩ : Row10) hok _ rfl rfl (by exact hzz) (by omega) ?_; intro v1 w1 ho1 hb1)
          go_roundw
          case rel => exact ⟨k + 1, by omega, by go_num, by rw [hf.out]; exact ho1, (hG.drewN _).over hb1⟩
          case measure => simp [intOf]; omega
      · rw [decide_eq_false q1] at hk
        have hf := Lib.hid (show keepR (m.take (k + 1)) ⟨⟨⟨kc, kn⟩, d⟩, cl⟩ = out ++ [⟨⟨⟨⟨xc, xn⟩, xd⟩, xl⟩, xz⟩] by rw [hst.out, if_neg (fun e => q1 (by injection e))])
        clear q1
        go_wp2
        go_quiet (fail)
        go_wp2_with (at_builtin; refine push_law (W := wr.drewN _) rfl (.tmp 33) (.tmp 38) rfl sl_row rfl (ho.drewN _) (⟨⟨⟨⟨xc, xn⟩, xd⟩, xl⟩, xz⟩ : Row10) hok _ rfl rfl (by exact hzz) (by omega) ?_; intro v1 w1 ho1 hb1)
        go_roundw
        case rel => exact ⟨k + 1, by omega, by go_num, by rw [hf.out]; exact ho1, (hG.drewN _).over hb1⟩
        case measure => simp [intOf]; omega
    · obtain rfl : n = k := by omega
      have HF : Hid (m.take n = m) := List.take_of_length_le (Nat.le_of_eq HL.out)
      rw [HF.out] at ho hlen
      have c1 := hG.1.cells
      by_cases hp : 0 < z
      · have t1 : decide (z > 0) = true := decide_eq_true hp
        have hfin := Lib.hid (show putR m ⟨⟨⟨kc, kn⟩, d⟩, cl⟩ z = keepR m ⟨⟨⟨kc, kn⟩, d⟩, cl⟩ ++ [⟨⟨⟨⟨kc, kn⟩, d⟩, cl⟩, z⟩] by unfold putR; rw [if_pos hp])
        generalize hout : keepR m ⟨⟨⟨kc, kn⟩, d⟩, cl⟩ = out at ho hlen hfin
        clear hout
        go_wp2_with (at_builtin; refine push_law (W := wr) rfl (.tmp 42) (.tmp 47) rfl sl_row rfl ho (⟨⟨⟨⟨kc, kn⟩, d⟩, cl⟩, z⟩ : Row10) HOK.out _ rfl rfl (by exact hzz) (by omega) ?_; intro v1 w1 ho1 hb1)
        go_ret
        refine RetOwn.mk' ?_ (hG.2.trans (hb1.mono (by omega)))
        rw [hfin.out]
        exact ho1.more (by omega)
      · have t1 : decide (z > 0) = false := decide_eq_false hp
        have hfin := Lib.hid (show putR m ⟨⟨⟨kc, kn⟩, d⟩, cl⟩ z = keepR m ⟨⟨⟨kc, kn⟩, d⟩, cl⟩ by unfold putR; rw [if_neg hp, List.append_nil])
        go_wp2
        go_ret
        refine RetOwn.mk' ?_ hG.2
        rw [hfin.out]
        exact ho.more (by omega)
/-- The law's flights, as they lie. -/
structure FA (w : World) (hi : Nat) (A : Option Addr) (n : Nat) (rl : List FlR) : Prop where
  fl : FlS w 0 hi A n rl
  few : n ≤ 100000
  cls : ∀ r ∈ rl, r.n ≤ 100000
  le : hi ≤ w.heap.size
theorem FA.keep {w W : World} {hi n : Nat} {A : Option Addr} {rl : List FlR} (h : FA w hi A n rl) (hb : Below w.heap.size w W) : FA W hi A n rl :=
  ⟨h.fl.below hb h.le, h.few, h.cls, Nat.le_trans h.le hb.size⟩
theorem FA.kb {w W : World} {b hi n : Nat} {A : Option Addr} {rl : List FlR} (h : FA w hi A n rl) (hb : Kb b w W) (hle : hi ≤ b) : FA W hi A n rl :=
  ⟨h.fl.below (hb.below (Below.refl hi w) hle h.le) (Nat.le_refl _), h.few, h.cls, Nat.le_trans h.le hb.size⟩
theorem rlev_is {w : World} {hi n : Nat} {A : Option Addr} {rl : List FlR} (h : FA w hi A n rl) (c : Nat) (g : Leg) (cl : Int) {l1 l2 : Int} (hlv : levelF (rl.map (·.f)) g cl = (l1, l2)) :
    Calls Tryz.prog 19 #[.slice A n c, .agg #[.string g.key.car, .int .i64 g.key.num, .int .i64 g.day], .int .u8 cl] w fun e w' => e = .returned (.tuple #[.int .i64 l1, .int .i64 l2]) ∧ Below w.heap.size w w' := by
  have h1 := rlevel_any rl A n c g cl w 0 hi h.fl h.few h.le h.cls
  rw [hlv] at h1
  exact h1
/-- Rows, as they lie. -/
structure RA (w : World) (lo : Nat) (A : Option Addr) (n : Nat) (m : List Row10) : Prop where
  sl : Sl w lo w.heap.size tRow A n m
  few : n ≤ 100000
theorem RA.keep {w W : World} {lo n : Nat} {A : Option Addr} {m : List Row10} (h : RA w lo A n m) (hb : Below w.heap.size w W) : RA W lo A n m :=
  ⟨(h.sl.below hb (Nat.le_refl _)).more (Nat.le_refl _) hb.size, h.few⟩
theorem RA.kb {w W : World} {b lo n : Nat} {A : Option Addr} {m : List Row10} (h : RA w lo A n m) (hb : Kb b w W) (hlt : b < lo) : RA W lo A n m :=
  ⟨(h.sl.keep fun p h1 h2 => World.cell?_of_block (hb.block p.block h2 (by omega))).more (Nat.le_refl _) hb.size, h.few⟩
theorem rsold_is {w : World} {lo n : Nat} {A : Option Addr} {m : List Row10} {q : Cel → Int} (h : RA w lo A n m) (hq : RQ m q) (c : Nat) (g : Leg) (cl : Int) {z : Int} (hz : q ⟨g, cl⟩ = z) :
    Calls Tryz.prog 57 #[.slice A n c, .agg #[.string g.key.car, .int .i64 g.key.num, .int .i64 g.day], .int .u8 cl] w fun e w' => e = .returned (.int .i64 z) ∧ Below w.heap.size w w' := by
  have h1 := rsold_any m A n c g cl w lo w.heap.size h.sl h.few (Nat.le_refl _)
  rw [hq.sold, hz] at h1
  exact h1
set_option maxRecDepth 100000 in
set_option maxHeartbeats 4000000 in
theorem rleft_is {w : World} {lo hi n n2 : Nat} {A A2 : Option Addr} {rl : List FlR} {m : List Row10} {q : Cel → Int} (hf : FA w hi A n rl) (hm : RA w lo A2 n2 m) (hq : RQ m q) (c c2 : Nat) (g : Leg) (cl : Int) {l1 l2 z y : Int}
    (hlv : levelF (rl.map (·.f)) g cl = (l1, l2)) (hz : q ⟨g, cl⟩ = z) (h0 : 0 ≤ l1) (h1 : l1 ≤ 400) (h2 : 0 ≤ z) (h3 : z ≤ 400) (hy : l1 - z = y) :
    Calls Tryz.prog 58 #[.slice A n c, .slice A2 n2 c2, .agg #[.string g.key.car, .int .i64 g.key.num, .int .i64 g.day], .int .u8 cl] w fun e w' => e = .returned (.int .i64 y) ∧ Below w.heap.size w w' := by
  subst hy
  have HF := Lib.hid hf
  have HM := Lib.hid hm
  have HQ := Lib.hid hq
  have HLV := Lib.hid hlv
  have HZ := Lib.hid hz
  obtain ⟨⟨kc, kn⟩, d⟩ := g
  dsimp only
  have HB := BB.start w #[.string kc, .int .i64 kn, .int .i64 d] 27
  clear hf hm hq hlv hz
  go_enter Tryz.func58, Tryz.ntmps58
  go_upto_region 1 with fail
  refine wp_world (BB w #[.string kc, .int .i64 kn, .int .i64 d] 27) HB ?_
  clear HB
  intro W hG
  have c1 := hG.1.cells
  go_wp2_with fail
  refine (rlev_is (HF.out.keep hG.2) c ⟨⟨kc, kn⟩, d⟩ cl HLV.out).mono ?_
  rintro e w1 ⟨rfl, hb1⟩
  have hG1 := hG.step hb1
  clear c1 hG hb1
  have c1 := hG1.1.cells
  go_wp2_with fail
  refine (rsold_is (HM.out.keep hG1.2) HQ.out c2 ⟨⟨kc, kn⟩, d⟩ cl HZ.out).mono ?_
  rintro e w2 ⟨rfl, hb2⟩
  have hG2 := hG1.step hb2
  go_wp2
  go_ret
  exact ⟨rfl, hG2.2⟩
/-- What Set answers, and how many are sold then. -/
def setZ (lv : Int × Int) (z n : Int) : Int × Int := if lv.2 ≠ 0 then (lv.2, z) else if n < 0 ∨ n > lv.1 then (1, z) else (0, n)
theorem setZ_is {lv : Int × Int} {z n : Int} : (lv.2 ≠ 0 → setZ lv z n = (lv.2, z)) ∧ (lv.2 = 0 → n < 0 ∨ n > lv.1 → setZ lv z n = (1, z)) ∧ (lv.2 = 0 → 0 ≤ n → n ≤ lv.1 → setZ lv z n = (0, n)) := by
  unfold setZ
  refine ⟨fun h => if_pos h, fun h h2 => ?_, fun h h2 h3 => ?_⟩
  · rw [if_neg (by omega), if_pos h2]
  · rw [if_neg (by omega), if_neg (by omega)]
/-- Rows that a call hands back, and a number. -/
def RetR (w : World) (lo n : Nat) (q : Cel → Int) (c : Cel) (r : Int × Int) (e : Ending) (w' : World) : Prop :=
  ∃ A' n' c' m', e = .returned (.tuple #[.slice A' n' c', .int .i64 r.1]) ∧ Hid (RA w' lo A' n' m' ∧ RQ m' (updQ q c r.2)) ∧ n' ≤ n + 1 ∧ Below w.heap.size w w'
theorem RetR.same {w W : World} {lo n c2 : Nat} {A : Option Addr} {m : List Row10} {q : Cel → Int} {c : Cel} {r : Int × Int} {k z : Int} (hr : r = (k, z)) (hz : q c = z) (hm : RA W lo A n m) (hq : RQ m q) (hb : Below w.heap.size w W) :
    RetR w lo n q c r (.returned (.tuple #[.slice A n c2, .int .i64 k])) W := by
  subst hr
  subst hz
  exact ⟨A, n, c2, m, rfl, ⟨hm, by rw [updQ_self]; exact hq⟩, by omega, hb⟩
theorem RetR.new {w W : World} {lo n n' c2 : Nat} {A : Option Addr} {m : List Row10} {q : Cel → Int} {c : Cel} {r : Int × Int} {k z : Int} (hr : r = (k, z)) (hz : 0 ≤ z) (hm : RA W lo A n' (putR m c z)) (hn : n' ≤ n + 1) (hq : RQ m q) (hb : Below w.heap.size w W) :
    RetR w lo n q c r (.returned (.tuple #[.slice A n' c2, .int .i64 k])) W := by
  subst hr
  exact ⟨A, n', c2, _, rfl, ⟨hm, hq.put c hz⟩, hn, hb⟩
/-- What put hands back. -/
def RetP10 (w : World) (lo n : Nat) (m : List Row10) (e : Ending) (w' : World) : Prop :=
  ∃ A' n' c', e = .returned (.slice A' n' c') ∧ Hid (RA w' lo A' n' m) ∧ n' ≤ n + 1 ∧ Below w.heap.size w w'
theorem rput_is {w : World} {lo n : Nat} {A : Option Addr} {m : List Row10} (h : RA w lo A n m) (c : Nat) (g : Leg) (cl z : Int) (hg : g.ok) (hc : okByte cl) (h0 : 0 ≤ z) (h1 : z ≤ 400) (hn : n ≤ 1000) (hlo : lo ≤ w.heap.size) :
    Calls Tryz.prog 93 #[.slice A n c, .agg #[.string g.key.car, .int .i64 g.key.num, .int .i64 g.day], .int .u8 cl, .int .i64 z] w (RetP10 w lo n (putR m ⟨g, cl⟩ z)) := by
  refine (rput_any m A n c g cl z w lo w.heap.size h.sl hg hc (by unfold okInt; omega) h.few (Nat.le_refl _)).mono ?_
  rintro e w' ⟨A', c', rfl, ho, hb⟩
  have h2 := putR_len m ⟨g, cl⟩ z
  rw [h.sl.len] at h2
  exact ⟨A', _, c', rfl, ⟨ho.sl.more hlo (Nat.le_refl _), by omega⟩, h2, hb⟩
set_option maxRecDepth 100000 in
set_option maxHeartbeats 4000000 in
theorem set_any {W : World} {lo hi t p b : Nat} {rs : List FlR} {q : Cel → Int} (h : SK W lo hi t p b rs q) (g : Leg) (cl n : Int) (hg : g.ok) (hc : okByte cl) (hl : 0 ≤ (levelF (rs.map (·.f)) g cl).1 ∧ (levelF (rs.map (·.f)) g cl).1 ≤ 400) :
    Calls Tryz.prog 56 #[.pointer (some ⟨p, 0, none⟩), .agg #[.string g.key.car, .int .i64 g.key.num, .int .i64 g.day], .int .u8 cl, .int .i64 n] W (RetSt W lo hi t p b rs q ⟨g, cl⟩ (setZ (levelF (rs.map (·.f)) g cl) (q ⟨g, cl⟩) n)) := by
  have HO := Lib.hid (show (⟨g, cl⟩ : Cel).ok from ⟨hg, hc⟩)
  have HG := Lib.hid hg
  obtain ⟨⟨kc, kn⟩, d⟩ := g
  dsimp only
  have HB := And.intro (box1 W #[.string kc, .int .i64 kn, .int .i64 d] 27) (h.keep ((Below.refl W.heap.size W).alloc (Nat.le_refl _) (.cells #[.string kc, .int .i64 kn, .int .i64 d] 27)))
  generalize hlv : levelF (rs.map (·.f)) ⟨⟨kc, kn⟩, d⟩ cl = lv at hl
  have HLV := Lib.hid hlv
  obtain ⟨l1, l2⟩ := lv
  dsimp only at hl
  generalize hz : q ⟨⟨⟨kc, kn⟩, d⟩, cl⟩ = z
  have HZ := Lib.hid hz
  clear hlv hz h hg hc
  go_enter Tryz.func56, Tryz.ntmps56
  go_upto_region 1 with fail
  refine wp_world (fun V => (Bx V W.heap.size #[.string kc, .int .i64 kn, .int .i64 d] 27 ∧ Below W.heap.size W V) ∧ SK V lo hi t p b rs q) HB ?_
  clear HB
  rintro V ⟨⟨b1, hb⟩, hS⟩
  have HF := Lib.hid (setZ_is (lv := (l1, l2)) (z := z) (n := n))
  have c1 := b1.cells
  have z3 := b1.lt
  have cx := hS.box.cells
  have HC := Lib.hid (fun u : Blw V => tlevel_is (t := t) HLV.out (hS.tb.keep u.b) HG.out)
  have HS := Lib.hid hS
  have zp := hS.plt
  clear hS
  refine wp_region_below (by kernel_rfl) (by kernel_rfl) ?_
  intro q9
  repeat
    (refine QH.step (fun K9 hK9 => ?_)
     go_simp
     first
     | (refine hK9 _ ?_; clear hK9 K9)
     | (apply Exists.intro
        refine ⟨fun _ => ?_, hK9 _ ?_⟩
        · first | (exact Calls.blw _ (HC.out _))
        clear hK9 K9))
  refine QH.nil_ ?_
  clear q9
  rintro ⟨V9, hV9⟩
  dsimp only
  have hS := HS.out.keep hV9
  have hb9 := hb.trans (hV9.mono hb.size)
  have b9 := b1.below hV9 z3
  clear c1 cx HS HC b1
  have c1 := b9.cells
  by_cases he : l2 = 0
  case neg =>
    have t3 : (l2 != 0) = true := by simpa using he
    have HR := Lib.hid (HF.out.1 he)
    clear he
    go_wp2
    go_ret
    exact RetSt.same HR.out HZ.out hS hb9
  case pos =>
    subst he
    by_cases n1 : n < 0
    · have t1 : decide (n < 0) = true := decide_eq_true n1
      have HR := Lib.hid (HF.out.2.1 rfl (.inl n1))
      clear n1
      go_wp2
      go_ret
      exact RetSt.same HR.out HZ.out hS hb9
    have t1 : decide (n < 0) = false := decide_eq_false n1
    by_cases n2 : n > l1
    · have t2 : decide (n > l1) = true := decide_eq_true n2
      have HR := Lib.hid (HF.out.2.1 rfl (.inr n2))
      clear n1 n2
      go_wp2
      go_ret
      exact RetSt.same HR.out HZ.out hS hb9
    have t2 : decide (n > l1) = false := decide_eq_false n2
    have HR := Lib.hid (HF.out.2.2 rfl (by omega) (by omega))
    have hnn : 0 ≤ n := by omega
    have HS := Lib.hid hS
    clear hS
    go_wp2_with fail
    refine (put_any HS.out ⟨⟨⟨kc, kn⟩, d⟩, cl⟩ n HO.out hnn).mono ?_
    rintro e w9 ⟨rfl, hS9, hK9⟩
    have HS9 := Lib.hid hS9
    clear hS9 c1
    go_wp2
    go_ret
    exact RetSt.new HR.out HS9.out ((Kb.of_below hb9).trans hK9)
set_option maxRecDepth 100000 in
set_option maxHeartbeats 8000000 in
theorem rsell_is {w : World} {lo hi n n2 : Nat} {A A2 : Option Addr} {rl : List FlR} {m : List Row10} {q : Cel → Int} (hf : FA w hi A n rl) (hm : RA w lo A2 n2 m) (hq : RQ m q) (c c2 : Nat) (g : Leg) (cl z : Int) (hg : g.ok) (hc : okByte cl) {lv : Int × Int}
    (hlv : levelF (rl.map (·.f)) g cl = lv) {z0 : Int} (hz : q ⟨g, cl⟩ = z0) (h0 : 0 ≤ lv.1) (h1 : lv.1 ≤ 400) (h2 : 0 ≤ z0) (h3 : z0 ≤ 400) (hn2 : n2 ≤ 1000) (hlo : lo ≤ w.heap.size) :
    Calls Tryz.prog 53 #[.slice A n c, .slice A2 n2 c2, .agg #[.string g.key.car, .int .i64 g.key.num, .int .i64 g.day], .int .u8 cl, .int .i64 z] w (RetR w lo n2 q ⟨g, cl⟩ (sellF lv z0 z)) := by
  have HF := Lib.hid hf
  have HM := Lib.hid hm
  have HQ := Lib.hid hq
  have HLV := Lib.hid hlv
  have HZ := Lib.hid hz
  have HG := Lib.hid hg
  have HOC := Lib.hid hc
  have HR := Lib.hid (sellF_is (lv := lv) (z := z0) (n := z))
  obtain ⟨l1, l2⟩ := lv
  obtain ⟨⟨kc, kn⟩, d⟩ := g
  dsimp only at h0 h1 ⊢
  have HB := BB.start w #[.string kc, .int .i64 kn, .int .i64 d] 27
  clear hf hm hq hlv hz hg hc
  go_enter Tryz.func53, Tryz.ntmps53
  go_upto_region 1 with fail
  refine wp_world (BB w #[.string kc, .int .i64 kn, .int .i64 d] 27) HB ?_
  clear HB
  intro W hG
  by_cases n1 : z < 1
  · have t1 : decide (z < 1) = true := decide_eq_true n1
    have HE := Lib.hid (HR.out.1 (.inl n1))
    clear n1
    go_wp2
    go_ret2
    exact RetR.same HE.out HZ.out (HM.out.keep hG.2) HQ.out hG.2
  have t1 : decide (z < 1) = false := decide_eq_false n1
  by_cases n2' : z > 9
  · have t2 : decide (z > 9) = true := decide_eq_true n2'
    have HE := Lib.hid (HR.out.1 (.inr n2'))
    clear n1 n2'
    go_wp2
    go_ret2
    exact RetR.same HE.out HZ.out (HM.out.keep hG.2) HQ.out hG.2
  have t2 : decide (z > 9) = false := decide_eq_false n2'
  have c1 := hG.1.cells
  go_wp2_with fail
  refine (rlev_is (HF.out.keep hG.2) c ⟨⟨kc, kn⟩, d⟩ cl HLV.out).mono ?_
  rintro e w1 ⟨rfl, hb1⟩
  have hG1 := hG.step hb1
  clear c1 hG hb1
  by_cases he : l2 = 0
  case neg =>
    have t3 : (l2 != 0) = true := by simpa using he
    have HE := Lib.hid (HR.out.2.1 (by omega) (by omega) he)
    clear he
    go_wp2
    go_ret2
    exact RetR.same HE.out HZ.out (HM.out.keep hG1.2) HQ.out hG1.2
  subst he
  have c1 := hG1.1.cells
  go_wp2_with fail
  refine (rleft_is (HF.out.keep hG1.2) (HM.out.keep hG1.2) HQ.out c c2 ⟨⟨kc, kn⟩, d⟩ cl HLV.out HZ.out h0 h1 h2 h3 rfl).mono ?_
  rintro e w2 ⟨rfl, hb2⟩
  have hG2 := hG1.step hb2
  clear c1 hG1 hb2
  by_cases n3 : z > l1 - z0
  · have t4 : decide (z > l1 - z0) = true := decide_eq_true n3
    have HE := Lib.hid (HR.out.2.2.1 (by omega) (by omega) (by simp) (by omega))
    clear n3
    go_wp2
    go_ret2
    exact RetR.same HE.out HZ.out (HM.out.keep hG2.2) HQ.out hG2.2
  have t4 : decide (z > l1 - z0) = false := decide_eq_false n3
  have HE := Lib.hid (HR.out.2.2.2 (by omega) (by omega) (by simp) (by omega))
  have hz2 : w.heap.size + 1 ≤ w2.heap.size := hG2.lt
  have hnn : 0 ≤ z0 + z := by omega
  have h400 : z0 + z ≤ 400 := by omega
  have HC1 := Lib.hid (fun (V : World) (hV : Below w2.heap.size w2 V) => rsold_is ((HM.out.keep hG2.2).keep hV) HQ.out c2 ⟨⟨kc, kn⟩, d⟩ cl HZ.out)
  have HC2 : Hid (∀ V : World, Below w2.heap.size w2 V → Calls Tryz.prog 93 #[.slice A2 n2 c2, .agg #[.string kc, .int .i64 kn, .int .i64 d], .int .u8 cl, .int .i64 (IntKind.i64.wrap (z0 + z))] V (RetP10 V lo n2 (putR m ⟨⟨⟨kc, kn⟩, d⟩, cl⟩ (z0 + z)))) := fun V hV => by
    rw [show IntKind.i64.wrap (z0 + z) = z0 + z by (rw [IntKind.wrap_i64]; omega)]
    exact rput_is ((HM.out.keep hG2.2).keep hV) c2 ⟨⟨kc, kn⟩, d⟩ cl (z0 + z) HG.out HOC.out hnn h400 hn2 (Nat.le_trans (Nat.le_trans hlo (by omega)) hV.size)
  have c1 := hG2.1.cells
  go_upto_region 8 with fail
  have X0 : Hid (∀ i : Nat, w2.cell? ⟨w.heap.size, i, none⟩ = (#[.string kc, .int .i64 kn, .int .i64 d] : Array Value)[i]?) := c1
  have X6 : Hid (∀ i : Nat, w2.drew.cell? ⟨w.heap.size, i, none⟩ = (#[.string kc, .int .i64 kn, .int .i64 d] : Array Value)[i]?) := c1
  clear c1
  go_region_held3 (fun w' => ∀ i : Nat, w'.cell? ⟨w.heap.size, i, none⟩ = (#[.string kc, .int .i64 kn, .int .i64 d] : Array Value)[i]?) (first | (with_reducible exact X6.out) | (with_reducible exact X7.out) | (with_reducible exact X8.out)) (first
    | (go_at_call 57; (with_reducible refine (HC1.out _ (Below.refl _ _).drew).mono ?_); rintro e w7 ⟨rfl, h7⟩; have h7' : Below w2.heap.size w2 w7 := ((Below.refl w2.heap.size w2).drew).trans h7; have H7 := Lib.hid h7'; have X7 : Hid (∀ i : Nat, w7.cell? ⟨w.heap.size, i, none⟩ = (#[.string kc, .int .i64 kn, .int .i64 d] : Array Value)[i]?) := (hG2.step h7').1.cells; clear h7 h7')
    | (go_at_call 93; (with_reducible refine (HC2.out _ H7.out).mono ?_); rintro e w8 ⟨A8, n8, c8, rfl, HM8, hn8, h8⟩; have h8' : Below w2.heap.size w2 w8 := H7.out.trans (h8.mono H7.out.size); have H8 := Lib.hid h8'; have X8 : Hid (∀ i : Nat, w8.cell? ⟨w.heap.size, i, none⟩ = (#[.string kc, .int .i64 kn, .int .i64 d] : Array Value)[i]?) := (hG2.step h8').1.cells; clear h8 h8'))
  have hG8 := hG2.step H8.out
  clear X6 X7 X8
  go_wp2
  go_ret2
  exact RetR.new HE.out hnn HM8.out hn8 HQ.out hG8.2
set_option maxRecDepth 100000 in
set_option maxHeartbeats 8000000 in
theorem rcancel_is {w : World} {lo hi n n2 : Nat} {A A2 : Option Addr} {rl : List FlR} {m : List Row10} {q : Cel → Int} (hf : FA w hi A n rl) (hm : RA w lo A2 n2 m) (hq : RQ m q) (c c2 : Nat) (g : Leg) (cl z : Int) (hg : g.ok) (hc : okByte cl) {lv : Int × Int}
    (hlv : levelF (rl.map (·.f)) g cl = lv) {z0 : Int} (hz : q ⟨g, cl⟩ = z0) (h0 : 0 ≤ lv.1) (h1 : lv.1 ≤ 400) (h2 : 0 ≤ z0) (h3 : z0 ≤ 400) (hn2 : n2 ≤ 1000) (hlo : lo ≤ w.heap.size) :
    Calls Tryz.prog 54 #[.slice A n c, .slice A2 n2 c2, .agg #[.string g.key.car, .int .i64 g.key.num, .int .i64 g.day], .int .u8 cl, .int .i64 z] w (RetR w lo n2 q ⟨g, cl⟩ (cancF lv z0 z)) := by
  have HF := Lib.hid hf
  have HM := Lib.hid hm
  have HQ := Lib.hid hq
  have HLV := Lib.hid hlv
  have HZ := Lib.hid hz
  have HG := Lib.hid hg
  have HOC := Lib.hid hc
  have HR := Lib.hid (cancF_is (lv := lv) (z := z0) (n := z))
  obtain ⟨l1, l2⟩ := lv
  obtain ⟨⟨kc, kn⟩, d⟩ := g
  dsimp only at h0 h1 ⊢
  have HB := BB.start w #[.string kc, .int .i64 kn, .int .i64 d] 27
  clear hf hm hq hlv hz hg hc
  go_enter Tryz.func54, Tryz.ntmps54
  go_upto_region 1 with fail
  refine wp_world (BB w #[.string kc, .int .i64 kn, .int .i64 d] 27) HB ?_
  clear HB
  intro W hG
  by_cases n1 : z < 1
  · have t1 : decide (z < 1) = true := decide_eq_true n1
    have HE := Lib.hid (HR.out.1 (.inl n1))
    clear n1
    go_wp2
    go_ret2
    exact RetR.same HE.out HZ.out (HM.out.keep hG.2) HQ.out hG.2
  have t1 : decide (z < 1) = false := decide_eq_false n1
  by_cases n2' : z > 9
  · have t2 : decide (z > 9) = true := decide_eq_true n2'
    have HE := Lib.hid (HR.out.1 (.inr n2'))
    clear n1 n2'
    go_wp2
    go_ret2
    exact RetR.same HE.out HZ.out (HM.out.keep hG.2) HQ.out hG.2
  have t2 : decide (z > 9) = false := decide_eq_false n2'
  have c1 := hG.1.cells
  go_wp2_with fail
  refine (rlev_is (HF.out.keep hG.2) c ⟨⟨kc, kn⟩, d⟩ cl HLV.out).mono ?_
  rintro e w1 ⟨rfl, hb1⟩
  have hG1 := hG.step hb1
  clear c1 hG hb1
  by_cases he : l2 = 0
  case neg =>
    have t3 : (l2 != 0) = true := by simpa using he
    have HE := Lib.hid (HR.out.2.1 (by omega) (by omega) he)
    clear he
    go_wp2
    go_ret2
    exact RetR.same HE.out HZ.out (HM.out.keep hG1.2) HQ.out hG1.2
  subst he
  have c1 := hG1.1.cells
  go_wp2_with fail
  refine (rsold_is (HM.out.keep hG1.2) HQ.out c2 ⟨⟨kc, kn⟩, d⟩ cl HZ.out).mono ?_
  rintro e w2 ⟨rfl, hb2⟩
  have hG2 := hG1.step hb2
  clear c1 hG1 hb2
  by_cases n3 : z0 < z
  · have t4 : decide (z0 < z) = true := decide_eq_true n3
    have HE := Lib.hid (HR.out.2.2.1 (by omega) (by omega) (by simp) (by omega))
    clear n3
    go_wp2
    go_ret2
    exact RetR.same HE.out HZ.out (HM.out.keep hG2.2) HQ.out hG2.2
  have t4 : decide (z0 < z) = false := decide_eq_false n3
  have HE := Lib.hid (HR.out.2.2.2 (by omega) (by omega) (by simp) (by omega))
  have hz2 : w.heap.size + 1 ≤ w2.heap.size := hG2.lt
  have hnn : 0 ≤ z0 - z := by omega
  have h400 : z0 - z ≤ 400 := by omega
  have HC1 := Lib.hid (fun (V : World) (hV : Below w2.heap.size w2 V) => rsold_is ((HM.out.keep hG2.2).keep hV) HQ.out c2 ⟨⟨kc, kn⟩, d⟩ cl HZ.out)
  have HC2 : Hid (∀ V : World, Below w2.heap.size w2 V → Calls Tryz.prog 93 #[.slice A2 n2 c2, .agg #[.string kc, .int .i64 kn, .int .i64 d], .int .u8 cl, .int .i64 (IntKind.i64.wrap (z0 - z))] V (RetP10 V lo n2 (putR m ⟨⟨⟨kc, kn⟩, d⟩, cl⟩ (z0 - z)))) := fun V hV => by
    rw [show IntKind.i64.wrap (z0 - z) = z0 - z by (rw [IntKind.wrap_i64]; omega)]
    exact rput_is ((HM.out.keep hG2.2).keep hV) c2 ⟨⟨kc, kn⟩, d⟩ cl (z0 - z) HG.out HOC.out hnn h400 hn2 (Nat.le_trans (Nat.le_trans hlo (by omega)) hV.size)
  have c1 := hG2.1.cells
  go_upto_region 8 with fail
  have X0 : Hid (∀ i : Nat, w2.cell? ⟨w.heap.size, i, none⟩ = (#[.string kc, .int .i64 kn, .int .i64 d] : Array Value)[i]?) := c1
  have X6 : Hid (∀ i : Nat, w2.drew.cell? ⟨w.heap.size, i, none⟩ = (#[.string kc, .int .i64 kn, .int .i64 d] : Array Value)[i]?) := c1
  clear c1
  go_region_held3 (fun w' => ∀ i : Nat, w'.cell? ⟨w.heap.size, i, none⟩ = (#[.string kc, .int .i64 kn, .int .i64 d] : Array Value)[i]?) (first | (with_reducible exact X6.out) | (with_reducible exact X7.out) | (with_reducible exact X8.out)) (first
    | (go_at_call 57; (with_reducible refine (HC1.out _ (Below.refl _ _).drew).mono ?_); rintro e w7 ⟨rfl, h7⟩; have h7' : Below w2.heap.size w2 w7 := ((Below.refl w2.heap.size w2).drew).trans h7; have H7 := Lib.hid h7'; have X7 : Hid (∀ i : Nat, w7.cell? ⟨w.heap.size, i, none⟩ = (#[.string kc, .int .i64 kn, .int .i64 d] : Array Value)[i]?) := (hG2.step h7').1.cells; clear h7 h7')
    | (go_at_call 93; (with_reducible refine (HC2.out _ H7.out).mono ?_); rintro e w8 ⟨A8, n8, c8, rfl, HM8, hn8, h8⟩; have h8' : Below w2.heap.size w2 w8 := H7.out.trans (h8.mono H7.out.size); have H8 := Lib.hid h8'; have X8 : Hid (∀ i : Nat, w8.cell? ⟨w.heap.size, i, none⟩ = (#[.string kc, .int .i64 kn, .int .i64 d] : Array Value)[i]?) := (hG2.step h8').1.cells; clear h8 h8'))
  have hG8 := hG2.step H8.out
  clear X6 X7 X8
  go_wp2
  go_ret2
  exact RetR.new HE.out hnn HM8.out hn8 HQ.out hG8.2
set_option maxRecDepth 100000 in
set_option maxHeartbeats 8000000 in
theorem rset_is {w : World} {lo hi n n2 : Nat} {A A2 : Option Addr} {rl : List FlR} {m : List Row10} {q : Cel → Int} (hf : FA w hi A n rl) (hm : RA w lo A2 n2 m) (hq : RQ m q) (c c2 : Nat) (g : Leg) (cl z : Int) (hg : g.ok) (hc : okByte cl) {lv : Int × Int}
    (hlv : levelF (rl.map (·.f)) g cl = lv) {z0 : Int} (hz : q ⟨g, cl⟩ = z0) (h0 : 0 ≤ lv.1) (h1 : lv.1 ≤ 400) (h2 : 0 ≤ z0) (h3 : z0 ≤ 400) (hn2 : n2 ≤ 1000) (hlo : lo ≤ w.heap.size) :
    Calls Tryz.prog 55 #[.slice A n c, .slice A2 n2 c2, .agg #[.string g.key.car, .int .i64 g.key.num, .int .i64 g.day], .int .u8 cl, .int .i64 z] w (RetR w lo n2 q ⟨g, cl⟩ (setZ lv z0 z)) := by
  have HF := Lib.hid hf
  have HM := Lib.hid hm
  have HQ := Lib.hid hq
  have HLV := Lib.hid hlv
  have HZ := Lib.hid hz
  have HG := Lib.hid hg
  have HOC := Lib.hid hc
  have HR := Lib.hid (setZ_is (lv := lv) (z := z0) (n := z))
  obtain ⟨l1, l2⟩ := lv
  obtain ⟨⟨kc, kn⟩, d⟩ := g
  dsimp only at h0 h1 ⊢
  have HB := BB.start w #[.string kc, .int .i64 kn, .int .i64 d] 27
  clear hf hm hq hlv hz hg hc
  go_enter Tryz.func55, Tryz.ntmps55
  go_upto_region 1 with fail
  refine wp_world (BB w #[.string kc, .int .i64 kn, .int .i64 d] 27) HB ?_
  clear HB
  intro W hG
  have c1 := hG.1.cells
  go_wp2_with fail
  refine (rlev_is (HF.out.keep hG.2) c ⟨⟨kc, kn⟩, d⟩ cl HLV.out).mono ?_
  rintro e w1 ⟨rfl, hb1⟩
  have hG1 := hG.step hb1
  clear c1 hG hb1
  by_cases he : l2 = 0
  case neg =>
    have t3 : (l2 != 0) = true := by simpa using he
    have HE := Lib.hid (HR.out.1 he)
    clear he
    go_wp2
    go_ret2
    exact RetR.same HE.out HZ.out (HM.out.keep hG1.2) HQ.out hG1.2
  subst he
  have c1 := hG1.1.cells
  by_cases n1 : z < 0
  · have t1 : decide (z < 0) = true := decide_eq_true n1
    have HE := Lib.hid (HR.out.2.1 (by simp) (.inl n1))
    clear n1
    go_wp2
    go_ret2
    exact RetR.same HE.out HZ.out (HM.out.keep hG1.2) HQ.out hG1.2
  have t1 : decide (z < 0) = false := decide_eq_false n1
  by_cases n2' : z > l1
  · have t2 : decide (z > l1) = true := decide_eq_true n2'
    have HE := Lib.hid (HR.out.2.1 (by simp) (.inr n2'))
    clear n1 n2'
    go_wp2
    go_ret2
    exact RetR.same HE.out HZ.out (HM.out.keep hG1.2) HQ.out hG1.2
  have t2 : decide (z > l1) = false := decide_eq_false n2'
  have HE := Lib.hid (HR.out.2.2 (by simp) (by omega) (by omega))
  have hz1 : w.heap.size + 1 ≤ w1.heap.size := hG1.lt
  have hnn : 0 ≤ z := by omega
  go_wp2_with fail
  refine (rput_is (HM.out.keep hG1.2) c2 ⟨⟨kc, kn⟩, d⟩ cl z HG.out HOC.out (by omega) (by omega) hn2 (by omega)).mono ?_
  rintro e w8 ⟨A8, n8, c8, rfl, HM8, hn8, h8⟩
  have hG8 := hG1.step h8
  go_wp2
  go_ret2
  exact RetR.new HE.out hnn HM8.out hn8 HQ.out hG8.2
theorem sellF_in {lv : Int × Int} {z n : Int} (h0 : 0 ≤ z) (h1 : z ≤ lv.1) : 0 ≤ (sellF lv z n).2 ∧ (sellF lv z n).2 ≤ lv.1 := by
  unfold sellF
  repeat' split
  all_goals (simp only; omega)
theorem cancF_in {lv : Int × Int} {z n : Int} (h0 : 0 ≤ z) (h1 : z ≤ lv.1) : 0 ≤ (cancF lv z n).2 ∧ (cancF lv z n).2 ≤ lv.1 := by
  unfold cancF
  repeat' split
  all_goals (simp only; omega)
theorem setZ_in {lv : Int × Int} {z n : Int} (h0 : 0 ≤ z) (h1 : z ≤ lv.1) : 0 ≤ (setZ lv z n).2 ∧ (setZ lv z n).2 ≤ lv.1 := by
  unfold setZ
  repeat' split
  all_goals (simp only; omega)
theorem sold_at {W : World} {lo hi t p b : Nat} {rs : List FlR} {q : Cel → Int} (h : SK W lo hi t p b rs q) (g : Leg) (cl : Int) (hg : g.ok) (hc : okByte cl) {z : Int} (hz : q ⟨g, cl⟩ = z) :
    Calls Tryz.prog 17 #[.pointer (some ⟨p, 0, none⟩), .agg #[.string g.key.car, .int .i64 g.key.num, .int .i64 g.day], .int .u8 cl] W fun e w' => e = .returned (.int .i64 z) ∧ Below W.heap.size W w' := by
  subst hz
  exact sold_any h g cl hg hc
theorem left_at {W : World} {lo hi t p b : Nat} {rs : List FlR} {q : Cel → Int} (h : SK W lo hi t p b rs q) (g : Leg) (cl : Int) (hg : g.ok) (hc : okByte cl) (hq : QB q) {lv : Int × Int} (hlv : levelF (rs.map (·.f)) g cl = lv) (h0 : 0 ≤ lv.1) (h1 : lv.1 ≤ 400) {z y : Int} (hz : q ⟨g, cl⟩ = z) (hy : lv.1 - z = y) :
    Calls Tryz.prog 20 #[.pointer (some ⟨p, 0, none⟩), .agg #[.string g.key.car, .int .i64 g.key.num, .int .i64 g.day], .int .u8 cl] W fun e w' => e = .returned (.int .i64 y) ∧ Below W.heap.size W w' := by
  subst hlv
  subst hz
  subst hy
  exact left_any h g cl hg hc hq ⟨h0, h1⟩
/-- What play hands back: the rows tell what is sold. -/
def RetPl (w : World) (lo hi t p b : Nat) (rs : List FlR) (l : List Flt) (lo2 n2 : Nat) (e : Ending) (w' : World) : Prop :=
  ∃ A' n' c' m' q', e = .returned (.tuple #[.slice A' n' c', .bool true]) ∧ Hid (SK w' lo hi t p b rs q' ∧ RA w' lo2 A' n' m' ∧ RQ m' q' ∧ NV l q') ∧ n' ≤ n2 + 1 ∧ Kb b w w'
set_option maxRecDepth 100000 in
set_option maxHeartbeats 16000000 in
theorem play_any {w : World} {lo hi hi0 t p b lo2 n n2 : Nat} {rs rl : List FlR} {q : Cel → Int} {A A2 : Option Addr} {m : List Row10} (hf : FA w hi0 A n rl) (hs : SK w lo hi t p b rs q) (hm : RA w lo2 A2 n2 m) (hq : RQ m q) (hn : NV (rl.map (·.f)) q)
    (hr : ∀ f ∈ rl.map (·.f), rightB f = true) (ht : Tab (rl.map (·.f)) (rs.map (·.f))) (hok : ∀ f ∈ rl.map (·.f), f.ok) (c c2 : Nat) (a : SAct) (ha : a.ok) (hn2 : n2 ≤ 900) (h02 : lo2 ≤ w.heap.size) (hb2 : b < lo2) (hb0 : hi0 ≤ b) :
    Calls Tryz.prog 21 #[.slice A n c, .pointer (some ⟨p, 0, none⟩), .slice A2 n2 c2, sactV a] w (RetPl w lo hi t p b rs (rl.map (·.f)) lo2 n2) := by
  have HF := Lib.hid hf
  have HS := Lib.hid hs
  have HM := Lib.hid hm
  have HQ := Lib.hid hq
  have HNV := Lib.hid hn
  have HR := Lib.hid hr
  have HT := Lib.hid ht
  have HFO := Lib.hid hok
  have HOA := Lib.hid ha
  have HB := BB.start w #[.int .i64 a.kind, .int .i64 a.fl, .int .i64 a.n, .string a.leg.key.car, .int .i64 a.leg.key.num, .int .i64 a.leg.day, .int .u8 a.cl] 29
  clear hf hs hm hq hn hr ht hok ha
  unfold sactV
  go_enter Tryz.func21, Tryz.ntmps21
  go_upto_region 1 with fail
  refine wp_world (BB w #[.int .i64 a.kind, .int .i64 a.fl, .int .i64 a.n, .string a.leg.key.car, .int .i64 a.leg.key.num, .int .i64 a.leg.day, .int .u8 a.cl] 29) HB ?_
  clear HB
  intro V hG
  have HG0 := Lib.hid hG
  have HLEG := leg_any rl A n c V 0 hi0 (HF.out.keep hG.2).fl (HF.out.keep hG.2).le a
  unfold sactV at HLEG
  have HG := Lib.hid (legA_ok HOA.out HFO.out)
  generalize legA (rl.map (·.f)) a = g at HLEG HG
  have HLEG := Lib.hid HLEG
  have c1 := hG.1.cells
  clear hG
  go_wp2_with fail
  refine HLEG.out.mono ?_
  rintro e w3 ⟨rfl, h3⟩
  have HG3 := Lib.hid (HG0.out.step h3)
  clear h3 HLEG HG0 c1
  go_upto_region 4 with fail
  refine wp_world (fun V2 => (Bx V2 w.heap.size #[.int .i64 a.kind, .int .i64 a.fl, .int .i64 a.n, .string a.leg.key.car, .int .i64 a.leg.key.num, .int .i64 a.leg.day, .int .u8 a.cl] 29 ∧ Bx V2 w3.heap.size #[.string g.key.car, .int .i64 g.key.num, .int .i64 g.day] 27) ∧ Below w.heap.size w V2) ⟨⟨HG3.out.1.alloc _, Bx.new _ _ _⟩, HG3.out.2.alloc HG3.out.2.size _⟩ ?_
  have z3 := HG3.out.2.size
  clear HG3
  rintro V2 ⟨⟨bA, bX⟩, hb⟩
  have HF2 := Lib.hid (HF.out.keep hb)
  have HS2 := Lib.hid (HS.out.keep hb)
  have HM2 := Lib.hid (HM.out.keep hb)
  have HB2 := Lib.hid hb
  have z2 := hb.size
  have BA2 := Lib.hid bA
  have BX2 := Lib.hid bX
  have c1 := bA.cells
  have c2' := bX.cells
  have zA := bA.lt
  have zX := bX.lt
  clear hb bA bX
  have HLT := Lib.hid (HT.out.level g a.cl)
  have HLB0 := level_le HR.out g a.cl
  have HNVc := HNV.out ⟨g, a.cl⟩
  generalize hlv : levelF (rl.map (·.f)) g a.cl = lv at HLT HNVc HLB0
  have HLV := Lib.hid hlv
  have HLB := Lib.hid (show 0 ≤ (levelF (rs.map (·.f)) g a.cl).1 ∧ (levelF (rs.map (·.f)) g a.cl).1 ≤ 400 by rw [HLT.out]; exact HLB0)
  obtain ⟨hl0, hl1⟩ := HLB0
  have HQB := Lib.hid (HNV.out.qb HR.out)
  generalize hz : q ⟨g, a.cl⟩ = z at HNVc
  have HZ := Lib.hid hz
  obtain ⟨hz0, hz1⟩ := HNVc
  clear hlv hz
  by_cases k0 : a.kind = 0
  · rw [k0] at c1
    rw [k0] at BA2
    have hin := sellF_in (lv := lv) (n := a.n) hz0 hz1
    go_wp2_with fail
    refine (rsell_is HF2.out HM2.out HQ.out c c2 g a.cl a.n HG.out HOA.out.cl HLV.out HZ.out hl0 hl1 hz0 (by omega) (by omega) (by omega)).mono ?_
    rintro e w5 ⟨A5, n5, c5, m5, rfl, H5, hn5, h5⟩
    have HS5 := Lib.hid (HS2.out.keep h5)
    have HF5 := Lib.hid (HF2.out.keep h5)
    have bA5 := BA2.out.below h5 zA
    have bX5 := BX2.out.below h5 zX
    have BA5 := Lib.hid bA5
    have BX5 := Lib.hid bX5
    have HB5 := Lib.hid (HB2.out.trans (h5.mono z2))
    have z5 := h5.size
    clear h5 c1 c2' HS2 HF2 BA2 BX2
    have c1 := bA5.cells
    have c2' := bX5.cells
    have zA5 := bA5.lt
    have zX5 := bX5.lt
    clear bA5 bX5
    generalize hrr : sellF lv z a.n = rr at H5 hin
    have HRR := Lib.hid hrr
    obtain ⟨r1, r2⟩ := rr
    obtain ⟨hr0, hr1⟩ := hin
    dsimp only at hr0 hr1
    clear hrr
    have hblt := HS5.out.blt
    go_wp2_with fail
    refine (sell_any HS5.out g a.cl a.n HG.out HOA.out.cl HQB.out HLB.out).mono ?_
    rintro e w6 h6
    rw [HLT.out, HZ.out, HRR.out] at h6
    obtain ⟨rfl, hS6, hK6⟩ := h6
    have HS6 := Lib.hid hS6
    have HM6 := Lib.hid (H5.out.1.kb hK6 hb2)
    have HQ6 := Lib.hid H5.out.2
    have HF6 := Lib.hid (HF5.out.kb hK6 hb0)
    have bA6 := BA5.out.kb hK6 (by omega)
    have bX6 := BX5.out.kb hK6 (by omega)
    have HK6 := Lib.hid ((Kb.of_below (b := b) (HB5.out)).trans hK6)
    clear hS6 hK6 H5 c1 c2' HS5 HF5 BA5 BX5 HB5
    have c1 := bA6.cells
    have c2' := bX6.cells
    have zA6 := bA6.lt
    have zX6 := bX6.lt
    clear bA6 bX6
    have HNV6 := Lib.hid (HNV.out.upd (c := ⟨g, a.cl⟩) (z := r2) hr0 (by rw [HLV.out]; exact hr1))
    have HC6 := Lib.hid (updQ_same q ⟨g, a.cl⟩ r2)
    have t1 : (r1 == r1) = true := by simp
    have t2 : (r2 == r2) = true := by simp
    obtain ⟨y, hy⟩ : ∃ y, lv.1 - r2 = y := ⟨_, rfl⟩
    have HY := Lib.hid hy
    have t3 : (y == y) = true := by simp
    have HX1 := Lib.hid (fun u : Blw w6 => sold_at (HS6.out.keep u.b) g a.cl HG.out HOA.out.cl HC6.out)
    have HX2 := Lib.hid (fun u : Blw w6 => rsold_is (HM6.out.keep u.b) HQ6.out c5 g a.cl HC6.out)
    have HX3 := Lib.hid (fun u : Blw w6 => left_at (HS6.out.keep u.b) g a.cl HG.out HOA.out.cl (HNV6.out.qb HR.out) HLT.out hl0 hl1 HC6.out HY.out)
    have HX4 := Lib.hid (fun u : Blw w6 => rleft_is (HF6.out.keep u.b) (HM6.out.keep u.b) HQ6.out c c5 g a.cl (l1 := lv.1) (l2 := lv.2) HLV.out HC6.out hl0 hl1 hr0 (by omega) HY.out)
    clear hy
    go_upto_region 14 with fail
    refine wp_region_below (by kernel_rfl) (by kernel_rfl) ?_
    intro q9
    repeat
      (refine QH.step (fun K9 hK9 => ?_)
       go_simp
       first
       | (refine hK9 _ ?_; clear hK9 K9)
       | (apply Exists.intro
          refine ⟨fun _ => ?_, hK9 _ ?_⟩
          · first | (exact Calls.blw _ (HX1.out _)) | (exact Calls.blw _ (HX2.out _)) | (exact Calls.blw _ (HX3.out _)) | (exact Calls.blw _ (HX4.out _))
          clear hK9 K9))
    refine QH.nil_ ?_
    clear q9
    rintro ⟨V9, hV9⟩
    dsimp only
    have HSF := Lib.hid (HS6.out.keep hV9)
    have HMF := Lib.hid (HM6.out.keep hV9)
    have HKF := Lib.hid (HK6.out.trans (Kb.of_below (b := b) hV9))
    clear hV9 c1 c2' HX1 HX2 HX3 HX4
    go_wp2
    go_ret2
    exact ⟨_, _, _, _, _, rfl, ⟨HSF.out, HMF.out, HQ6.out, HNV6.out⟩, hn5, HKF.out⟩
  · by_cases k1 : a.kind = 1
    · rw [k1] at c1
      rw [k1] at BA2
      have hin := cancF_in (lv := lv) (n := a.n) hz0 hz1
      go_wp2_with fail
      refine (rcancel_is HF2.out HM2.out HQ.out c c2 g a.cl a.n HG.out HOA.out.cl HLV.out HZ.out hl0 hl1 hz0 (by omega) (by omega) (by omega)).mono ?_
      rintro e w5 ⟨A5, n5, c5, m5, rfl, H5, hn5, h5⟩
      have HS5 := Lib.hid (HS2.out.keep h5)
      have HF5 := Lib.hid (HF2.out.keep h5)
      have bA5 := BA2.out.below h5 zA
      have bX5 := BX2.out.below h5 zX
      have BA5 := Lib.hid bA5
      have BX5 := Lib.hid bX5
      have HB5 := Lib.hid (HB2.out.trans (h5.mono z2))
      have z5 := h5.size
      clear h5 c1 c2' HS2 HF2 BA2 BX2
      have c1 := bA5.cells
      have c2' := bX5.cells
      have zA5 := bA5.lt
      have zX5 := bX5.lt
      clear bA5 bX5
      generalize hrr : cancF lv z a.n = rr at H5 hin
      have HRR := Lib.hid hrr
      obtain ⟨r1, r2⟩ := rr
      obtain ⟨hr0, hr1⟩ := hin
      dsimp only at hr0 hr1
      clear hrr
      have hblt := HS5.out.blt
      go_wp2_with fail
      refine (cancel_any HS5.out g a.cl a.n HG.out HOA.out.cl HQB.out HLB.out).mono ?_
      rintro e w6 h6
      rw [HLT.out, HZ.out, HRR.out] at h6
      obtain ⟨rfl, hS6, hK6⟩ := h6
      have HS6 := Lib.hid hS6
      have HM6 := Lib.hid (H5.out.1.kb hK6 hb2)
      have HQ6 := Lib.hid H5.out.2
      have HF6 := Lib.hid (HF5.out.kb hK6 hb0)
      have bA6 := BA5.out.kb hK6 (by omega)
      have bX6 := BX5.out.kb hK6 (by omega)
      have HK6 := Lib.hid ((Kb.of_below (b := b) (HB5.out)).trans hK6)
      clear hS6 hK6 H5 c1 c2' HS5 HF5 BA5 BX5 HB5
      have c1 := bA6.cells
      have c2' := bX6.cells
      have zA6 := bA6.lt
      have zX6 := bX6.lt
      clear bA6 bX6
      have HNV6 := Lib.hid (HNV.out.upd (c := ⟨g, a.cl⟩) (z := r2) hr0 (by rw [HLV.out]; exact hr1))
      have HC6 := Lib.hid (updQ_same q ⟨g, a.cl⟩ r2)
      have t1 : (r1 == r1) = true := by simp
      have t2 : (r2 == r2) = true := by simp
      obtain ⟨y, hy⟩ : ∃ y, lv.1 - r2 = y := ⟨_, rfl⟩
      have HY := Lib.hid hy
      have t3 : (y == y) = true := by simp
      have HX1 := Lib.hid (fun u : Blw w6 => sold_at (HS6.out.keep u.b) g a.cl HG.out HOA.out.cl HC6.out)
      have HX2 := Lib.hid (fun u : Blw w6 => rsold_is (HM6.out.keep u.b) HQ6.out c5 g a.cl HC6.out)
      have HX3 := Lib.hid (fun u : Blw w6 => left_at (HS6.out.keep u.b) g a.cl HG.out HOA.out.cl (HNV6.out.qb HR.out) HLT.out hl0 hl1 HC6.out HY.out)
      have HX4 := Lib.hid (fun u : Blw w6 => rleft_is (HF6.out.keep u.b) (HM6.out.keep u.b) HQ6.out c c5 g a.cl (l1 := lv.1) (l2 := lv.2) HLV.out HC6.out hl0 hl1 hr0 (by omega) HY.out)
      clear hy
      go_upto_region 14 with fail
      refine wp_region_below (by kernel_rfl) (by kernel_rfl) ?_
      intro q9
      repeat
        (refine QH.step (fun K9 hK9 => ?_)
         go_simp
         first
         | (refine hK9 _ ?_; clear hK9 K9)
         | (apply Exists.intro
            refine ⟨fun _ => ?_, hK9 _ ?_⟩
            · first | (exact Calls.blw _ (HX1.out _)) | (exact Calls.blw _ (HX2.out _)) | (exact Calls.blw _ (HX3.out _)) | (exact Calls.blw _ (HX4.out _))
            clear hK9 K9))
      refine QH.nil_ ?_
      clear q9
      rintro ⟨V9, hV9⟩
      dsimp only
      have HSF := Lib.hid (HS6.out.keep hV9)
      have HMF := Lib.hid (HM6.out.keep hV9)
      have HKF := Lib.hid (HK6.out.trans (Kb.of_below (b := b) hV9))
      clear hV9 c1 c2' HX1 HX2 HX3 HX4
      go_wp2
      go_ret2
      exact ⟨_, _, _, _, _, rfl, ⟨HSF.out, HMF.out, HQ6.out, HNV6.out⟩, hn5, HKF.out⟩
    · by_cases k2 : a.kind = 2
      · rw [k2] at c1
        rw [k2] at BA2
        have hin := setZ_in (lv := lv) (n := a.n) hz0 hz1
        go_wp2_with fail
        refine (rset_is HF2.out HM2.out HQ.out c c2 g a.cl a.n HG.out HOA.out.cl HLV.out HZ.out hl0 hl1 hz0 (by omega) (by omega) (by omega)).mono ?_
        rintro e w5 ⟨A5, n5, c5, m5, rfl, H5, hn5, h5⟩
        have HS5 := Lib.hid (HS2.out.keep h5)
        have HF5 := Lib.hid (HF2.out.keep h5)
        have bA5 := BA2.out.below h5 zA
        have bX5 := BX2.out.below h5 zX
        have BA5 := Lib.hid bA5
        have BX5 := Lib.hid bX5
        have HB5 := Lib.hid (HB2.out.trans (h5.mono z2))
        have z5 := h5.size
        clear h5 c1 c2' HS2 HF2 BA2 BX2
        have c1 := bA5.cells
        have c2' := bX5.cells
        have zA5 := bA5.lt
        have zX5 := bX5.lt
        clear bA5 bX5
        generalize hrr : setZ lv z a.n = rr at H5 hin
        have HRR := Lib.hid hrr
        obtain ⟨r1, r2⟩ := rr
        obtain ⟨hr0, hr1⟩ := hin
        dsimp only at hr0 hr1
        clear hrr
        have hblt := HS5.out.blt
        go_wp2_with fail
        refine (set_any HS5.out g a.cl a.n HG.out HOA.out.cl HLB.out).mono ?_
        rintro e w6 h6
        rw [HLT.out, HZ.out, HRR.out] at h6
        obtain ⟨rfl, hS6, hK6⟩ := h6
        have HS6 := Lib.hid hS6
        have HM6 := Lib.hid (H5.out.1.kb hK6 hb2)
        have HQ6 := Lib.hid H5.out.2
        have HF6 := Lib.hid (HF5.out.kb hK6 hb0)
        have bA6 := BA5.out.kb hK6 (by omega)
        have bX6 := BX5.out.kb hK6 (by omega)
        have HK6 := Lib.hid ((Kb.of_below (b := b) (HB5.out)).trans hK6)
        clear hS6 hK6 H5 c1 c2' HS5 HF5 BA5 BX5 HB5
        have c1 := bA6.cells
        have c2' := bX6.cells
        have zA6 := bA6.lt
        have zX6 := bX6.lt
        clear bA6 bX6
        have HNV6 := Lib.hid (HNV.out.upd (c := ⟨g, a.cl⟩) (z := r2) hr0 (by rw [HLV.out]; exact hr1))
        have HC6 := Lib.hid (updQ_same q ⟨g, a.cl⟩ r2)
        have t1 : (r1 == r1) = true := by simp
        have t2 : (r2 == r2) = true := by simp
        obtain ⟨y, hy⟩ : ∃ y, lv.1 - r2 = y := ⟨_, rfl⟩
        have HY := Lib.hid hy
        have t3 : (y == y) = true := by simp
        have HX1 := Lib.hid (fun u : Blw w6 => sold_at (HS6.out.keep u.b) g a.cl HG.out HOA.out.cl HC6.out)
        have HX2 := Lib.hid (fun u : Blw w6 => rsold_is (HM6.out.keep u.b) HQ6.out c5 g a.cl HC6.out)
        have HX3 := Lib.hid (fun u : Blw w6 => left_at (HS6.out.keep u.b) g a.cl HG.out HOA.out.cl (HNV6.out.qb HR.out) HLT.out hl0 hl1 HC6.out HY.out)
        have HX4 := Lib.hid (fun u : Blw w6 => rleft_is (HF6.out.keep u.b) (HM6.out.keep u.b) HQ6.out c c5 g a.cl (l1 := lv.1) (l2 := lv.2) HLV.out HC6.out hl0 hl1 hr0 (by omega) HY.out)
        clear hy
        go_upto_region 14 with fail
        refine wp_region_below (by kernel_rfl) (by kernel_rfl) ?_
        intro q9
        repeat
          (refine QH.step (fun K9 hK9 => ?_)
           go_simp
           first
           | (refine hK9 _ ?_; clear hK9 K9)
           | (apply Exists.intro
              refine ⟨fun _ => ?_, hK9 _ ?_⟩
              · first | (exact Calls.blw _ (HX1.out _)) | (exact Calls.blw _ (HX2.out _)) | (exact Calls.blw _ (HX3.out _)) | (exact Calls.blw _ (HX4.out _))
              clear hK9 K9))
        refine QH.nil_ ?_
        clear q9
        rintro ⟨V9, hV9⟩
        dsimp only
        have HSF := Lib.hid (HS6.out.keep hV9)
        have HMF := Lib.hid (HM6.out.keep hV9)
        have HKF := Lib.hid (HK6.out.trans (Kb.of_below (b := b) hV9))
        clear hV9 c1 c2' HX1 HX2 HX3 HX4
        go_wp2
        go_ret2
        exact ⟨_, _, _, _, _, rfl, ⟨HSF.out, HMF.out, HQ6.out, HNV6.out⟩, hn5, HKF.out⟩
      · have hblt := HS2.out.blt
        have HNV6 := HNV
        have HC6 := HZ
        have t1 : ((0 : Int) == 0) = true := by simp
        have t2 : (z == z) = true := by simp
        obtain ⟨y, hy⟩ : ∃ y, lv.1 - z = y := ⟨_, rfl⟩
        have HY := Lib.hid hy
        have t3 : (y == y) = true := by simp
        have HX1 := Lib.hid (fun u : Blw V2 => sold_at (HS2.out.keep u.b) g a.cl HG.out HOA.out.cl HC6.out)
        have HX2 := Lib.hid (fun u : Blw V2 => rsold_is (HM2.out.keep u.b) HQ.out c2 g a.cl HC6.out)
        have HX3 := Lib.hid (fun u : Blw V2 => left_at (HS2.out.keep u.b) g a.cl HG.out HOA.out.cl (HNV6.out.qb HR.out) HLT.out hl0 hl1 HC6.out HY.out)
        have HX4 := Lib.hid (fun u : Blw V2 => rleft_is (HF2.out.keep u.b) (HM2.out.keep u.b) HQ.out c c2 g a.cl (l1 := lv.1) (l2 := lv.2) HLV.out HC6.out hl0 hl1 hz0 (by omega) HY.out)
        clear hy
        go_upto_region 14 with fail
        refine wp_region_below (by kernel_rfl) (by kernel_rfl) ?_
        intro q9
        repeat
          (refine QH.step (fun K9 hK9 => ?_)
           go_simp
           first
           | (refine hK9 _ ?_; clear hK9 K9)
           | (apply Exists.intro
              refine ⟨fun _ => ?_, hK9 _ ?_⟩
              · first | (exact Calls.blw _ (HX1.out _)) | (exact Calls.blw _ (HX2.out _)) | (exact Calls.blw _ (HX3.out _)) | (exact Calls.blw _ (HX4.out _))
              clear hK9 K9))
        refine QH.nil_ ?_
        clear q9
        rintro ⟨V9, hV9⟩
        dsimp only
        have HSF := Lib.hid (HS2.out.keep hV9)
        have HMF := Lib.hid (HM2.out.keep hV9)
        have HKF := Lib.hid ((Kb.of_below (b := b) HB2.out).trans (Kb.of_below (b := b) hV9))
        clear hV9 c1 c2' HX1 HX2 HX3 HX4
        go_wp2
        go_ret2
        exact ⟨_, _, _, _, _, rfl, ⟨HSF.out, HMF.out, HQ.out, HNV.out⟩, by omega, HKF.out⟩
end Go.Proofs.YtlkdefmceghmnaaGreat
