/- Package plan: is a plan right? By program. -/
import Derived.Test.YtlkdefmceghmnaaGreatDoorPn1
namespace Go.Proofs.YtlkdefmceghmnaaGreatDoor
set_option linter.unusedVariables false
open Go Go.RowKit
/-- A plan of a cabin; as a row: with its slices. -/
structure Pln where
  first : Int
  last : Int
  letters : ByteArray
  exits : List Int
  blocked : List Sit
structure PlR where
  p : Pln
  Ae : Option Addr
  ne : Nat
  ce : Nat
  Ab : Option Addr
  nb : Nat
  cb : Nat
structure PlR.ok (r : PlR) : Prop where
  first : okInt r.p.first
  last : okInt r.p.last
  letters : okStr r.p.letters
structure PlAt (w : World) (lo hi : Nat) (r : PlR) : Prop where
  ex : Sl w lo hi tInt r.Ae r.ne r.p.exits
  bk : Sl w lo hi tSit r.Ab r.nb r.p.blocked
theorem PlAt.below {w W : World} {lo hi B : Nat} {r : PlR} (h : PlAt w lo hi r) (hb : Below B w W) (hB : hi ≤ B) : PlAt W lo hi r := ⟨h.ex.below hb hB, h.bk.below hb hB⟩
def exP (p : Pln) (k : Nat) : Bool := match p.exits[k]? with
  | some x => decide (p.first ≤ x) && (decide (x ≤ p.last) && (decide (k = 0) || (match p.exits[k - 1]? with | some y => decide (y < x) | none => false)))
  | none => false
def bkP (p : Pln) (l : ByteArray) (k : Nat) : Bool := match p.blocked[k]? with
  | some x => decide (p.first ≤ x.row) && (decide (x.row ≤ p.last) && (decide (0 ≤ atI l x.let_) && (decide (k = 0) || (match p.blocked[k - 1]? with | some y => ltSit y x | none => false))))
  | none => false
def hdP (p : Pln) : Bool := (letF p.letters).2 && (decide (1 ≤ p.first) && (decide (p.first ≤ p.last) && (decide (p.last ≤ 60) && decide (p.blocked.length ≤ 40))))
def chkP (p : Pln) : Bool := (hdP p && allP (exP p) p.exits.length) && allP (bkP p (letF p.letters).1) p.blocked.length
theorem exP_at {p : Pln} {k : Nat} {x : Int} (hx : p.exits[k]? = some x) : exP p k = (decide (p.first ≤ x) && (decide (x ≤ p.last) && (decide (k = 0) || (match p.exits[k - 1]? with | some y => decide (y < x) | none => false)))) := by unfold exP; rw [hx]
theorem bkP_at {p : Pln} {l : ByteArray} {k : Nat} {x : Sit} (hx : p.blocked[k]? = some x) : bkP p l k = (decide (p.first ≤ x.row) && (decide (x.row ≤ p.last) && (decide (0 ≤ atI l x.let_) && (decide (k = 0) || (match p.blocked[k - 1]? with | some y => ltSit y x | none => false))))) := by unfold bkP; rw [hx]
/-- Is it right so far? -/
def OkQ (g : Bool) (P : Nat → Bool) (k : Nat) (v : Value) : Prop := ∃ q, v = .bool q ∧ (g && allP P k) = q
def errP (q : Bool) : Int := if q then 0 else 4
theorem allP_and (h : Bool) (P : Nat → Bool) (k : Nat) {q : Bool} (hq : (h && allP P k) = q) : (h && allP P (k + 1)) = (q && P k) := by subst hq; simp only [allP, Bool.and_assoc]
set_option maxRecDepth 100000 in
set_option maxHeartbeats 16000000 in
theorem check_is (r : PlR) (w : World) (lo hi : Nat) (hok : r.ok) (hat : PlAt w lo hi r) (hhi : hi ≤ w.heap.size) (hne : r.ne ≤ 9223372036854775807) (hnb : r.nb ≤ 9223372036854775807) {q0 : Bool} (hq0 : chkP r.p = q0) :
    Calls Tryz.prog 42 #[.agg #[.int .i64 r.p.first, .int .i64 r.p.last, .string r.p.letters, .slice r.Ae r.ne r.ce, .slice r.Ab r.nb r.cb]] w fun e w' => e = .returned (.int .i64 (errP q0)) ∧ Below w.heap.size w w' := by
  have HOK := Lib.hid hok
  have HAT := Lib.hid hat
  have HQ0 := Lib.hid hq0
  have HNE := Lib.hid hat.ex.len
  have HNB := Lib.hid hat.bk.len
  have HB := box1 w #[.int .i64 r.p.first, .int .i64 r.p.last, .string r.p.letters, .slice r.Ae r.ne r.ce, .slice r.Ab r.nb r.cb] 59
  clear hok hat hq0
  go_enter Tryz.func42, Tryz.ntmps42
  go_upto_region 1 with fail
  refine wp_world (fun V => Bx V w.heap.size #[.int .i64 r.p.first, .int .i64 r.p.last, .string r.p.letters, .slice r.Ae r.ne r.ce, .slice r.Ab r.nb r.cb] 59 ∧ Below w.heap.size w V) HB ?_
  clear HB
  rintro V ⟨bP, hb⟩
  have c1 := bP.cells
  have zP := bP.lt
  generalize hlf : letF r.p.letters = lf
  have HLF := Lib.hid hlf
  obtain ⟨l, q1⟩ := lf
  clear hlf
  have hz1 := hb.size
  go_wp2_with fail
  refine (letters_is r.p.letters V HOK.out.letters HLF.out).mono ?_
  rintro e w1 ⟨rfl, h1⟩
  have bP1 := bP.below h1 zP
  have hb1 := hb.trans (h1.mono hz1)
  have zP1 := bP1.lt
  clear c1 bP hb h1
  have c1 := bP1.cells
  have HB1 := Lib.hid hb1
  have BP1 := Lib.hid bP1
  have hz := hb1.size
  have HHD := Lib.hid (show hdP r.p = (q1 && (decide (1 ≤ r.p.first) && (decide (r.p.first ≤ r.p.last) && (decide (r.p.last ≤ 60) && decide (r.p.blocked.length ≤ 40))))) by unfold hdP; rw [HLF.out])
  clear hb1 bP1
  go_upto_region 2 with fail
  go_cut [4] (fun t w' => (∃ q, t = .bool q ∧ Hid (hdP r.p = q)) ∧ w1 = w')
  case first =>
    rcases q1 with _ | _
    · go_wp2
      go_meet
      exact ⟨⟨_, rfl, by show _ = _; rw [HHD.out]; rfl⟩, rfl⟩
    · by_cases h1 : 1 ≤ r.p.first
      rotate_left
      · have t0 : decide (r.p.first ≥ 1) = false := by simp; omega
        go_wp2
        go_meet
        exact ⟨⟨_, rfl, by show _ = _; rw [HHD.out]; rw [decide_eq_false (show ¬ (1 ≤ r.p.first) by omega)]; rfl⟩, rfl⟩
      have t0 : decide (r.p.first ≥ 1) = true := by simp; omega
      by_cases h2 : r.p.first ≤ r.p.last
      rotate_left
      · have t1 : decide (r.p.first ≤ r.p.last) = false := by simp; omega
        go_wp2
        go_meet
        exact ⟨⟨_, rfl, by show _ = _; rw [HHD.out]; rw [decide_eq_true (show 1 ≤ r.p.first by omega), decide_eq_false (show ¬ (r.p.first ≤ r.p.last) by omega)]; rfl⟩, rfl⟩
      have t1 : decide (r.p.first ≤ r.p.last) = true := by simp; omega
      by_cases h3 : r.p.last ≤ 60
      rotate_left
      · have t2 : decide (r.p.last ≤ 60) = false := by simp; omega
        go_wp2
        go_meet
        exact ⟨⟨_, rfl, by show _ = _; rw [HHD.out]; rw [decide_eq_true (show 1 ≤ r.p.first by omega), decide_eq_true (show r.p.first ≤ r.p.last by omega), decide_eq_false (show ¬ (r.p.last ≤ 60) by omega)]; rfl⟩, rfl⟩
      have t2 : decide (r.p.last ≤ 60) = true := by simp; omega
      by_cases h4 : r.nb ≤ 40
      rotate_left
      · have t3 : decide ((r.nb : Int) ≤ 40) = false := by simp; omega
        go_wp2
        go_meet
        exact ⟨⟨_, rfl, by show _ = _; rw [HHD.out]; rw [HNB.out]; rw [decide_eq_true (show 1 ≤ r.p.first by omega), decide_eq_true (show r.p.first ≤ r.p.last by omega), decide_eq_true (show r.p.last ≤ 60 by omega), decide_eq_false (show ¬ (r.nb ≤ 40) by omega)]; rfl⟩, rfl⟩
      have t3 : decide ((r.nb : Int) ≤ 40) = true := by simp; omega
      go_wp2
      go_meet
      exact ⟨⟨_, rfl, by show _ = _; rw [HHD.out, HNB.out, decide_eq_true (show 1 ≤ r.p.first by omega), decide_eq_true (show r.p.first ≤ r.p.last by omega), decide_eq_true (show r.p.last ≤ 60 by omega), decide_eq_true (show r.nb ≤ 40 by omega)]; rfl⟩, rfl⟩
  obtain ⟨⟨q, rfl, HQ⟩, rfl⟩ := hcut
  generalize hh0 : hdP r.p = h0 at HHD HQ
  have HH0 := Lib.hid hh0
  clear HHD hh0
  go_wp2
  clear c1
  go_loopw [4, 5, 6, 42] (fun okv _ _ i wr => ∃ k : Nat, k ≤ r.ne ∧ i = .int .i64 k ∧ (∃ q, okv = .bool q ∧ Hid ((h0 && allP (exP r.p) k) = q)) ∧ wr = w1) (fun _ _ _ i _ => r.ne - (intOf i).toNat)
  case atStart => exact ⟨0, Nat.zero_le _, rfl, ⟨q, rfl, by show _ = _; rw [HQ.out]; simp [allP]⟩, rfl⟩
  case round =>
    obtain ⟨k, hk, rfl, ⟨q, rfl, HQ⟩, rfl⟩ := hrel
    have c1 := BP1.out.cells
    by_cases hlt : k < r.ne
    · obtain ⟨b0, o0, x, hA, _, hb0, hx, hokx, d0⟩ := (HAT.out.ex.below HB1.out hhi).int_ hlt
      have HST := Lib.hid (allP_and h0 (exP r.p) k HQ.out)
      have HXP := Lib.hid (exP_at hx.out)
      have i0 : (0 : Int) ≤ k := by omega
      have i1 : (k : Int) < r.ne := by omega
      obtain ⟨P0, P1, P2, P3⟩ : okInt x ∧ okInt r.p.first ∧ okInt r.p.last ∧ True := ⟨hokx, HOK.out.first, HOK.out.last, trivial⟩
      rcases q with _ | _
      · have HN := Lib.hid (HST.out.trans (Bool.false_and _))
        go_wp2
        all_goals first | (exfalso; omega) | exact ⟨⟨k + 1, by omega, by go_num, ⟨_, rfl, HN⟩, (by trivial)⟩, by simp [intOf]; omega⟩
      by_cases h1 : r.p.first ≤ x
      rotate_left
      · have HN := Lib.hid (show (h0 && allP (exP r.p) (k + 1)) = false by rw [HST.out, HXP.out, decide_eq_false h1]; rfl)
        have t1 : decide (x ≥ r.p.first) = false := by simp; omega
        go_wp2
        all_goals first | (exfalso; omega) | exact ⟨⟨k + 1, by omega, by go_num, ⟨_, rfl, HN⟩, (by trivial)⟩, by simp [intOf]; omega⟩
      have t1 : decide (x ≥ r.p.first) = true := by simp; omega
      by_cases h2 : x ≤ r.p.last
      rotate_left
      · have HN := Lib.hid (show (h0 && allP (exP r.p) (k + 1)) = false by rw [HST.out, HXP.out, decide_eq_true h1, decide_eq_false h2]; rfl)
        have t2 : decide (x ≤ r.p.last) = false := by simp; omega
        go_wp2
        all_goals first | (exfalso; omega) | exact ⟨⟨k + 1, by omega, by go_num, ⟨_, rfl, HN⟩, (by trivial)⟩, by simp [intOf]; omega⟩
      have t2 : decide (x ≤ r.p.last) = true := by simp; omega
      by_cases h3 : k = 0
      · have HN := Lib.hid (show (h0 && allP (exP r.p) (k + 1)) = true by rw [HST.out, HXP.out, decide_eq_true h1, decide_eq_true h2, decide_eq_true h3]; rfl)
        have t3 : ((k : Int) == 0) = true := by simp [h3]
        clear h3
        go_wp2
        all_goals first | (exfalso; omega) | exact ⟨⟨k + 1, by omega, by go_num, ⟨_, rfl, HN⟩, (by trivial)⟩, by simp [intOf]; omega⟩
      obtain ⟨j, rfl⟩ : ∃ j, k = j + 1 := ⟨k - 1, by omega⟩
      obtain ⟨b1, o1, y, hA1, _, hb1, hy, hoky, d1⟩ := (HAT.out.ex.below HB1.out hhi).int_ (show j < r.ne by omega)
      rw [hA] at hA1
      injection hA1 with hA1
      injection hA1 with g1 g2
      subst g1 g2
      have e1 : ((j + 1 : Nat) : Int) - 1 = (j : Int) := by omega
      have t3 : (((j + 1 : Nat) : Int) == 0) = false := by simp; omega
      by_cases h4 : y < x
      · have HN := Lib.hid (show (h0 && allP (exP r.p) (j + 1 + 1)) = true by rw [HST.out, HXP.out, decide_eq_true h1, decide_eq_true h2, show j + 1 - 1 = j from rfl, hy.out]; simp [h4])
        have t4 : decide (y < x) = true := decide_eq_true h4
        go_wp2
        all_goals first | (exfalso; omega) | exact ⟨⟨j + 1 + 1, by omega, by go_num, ⟨_, rfl, HN⟩, (by trivial)⟩, by simp [intOf]; omega⟩
      · have HN := Lib.hid (show (h0 && allP (exP r.p) (j + 1 + 1)) = false by rw [HST.out, HXP.out, decide_eq_true h1, decide_eq_true h2, show j + 1 - 1 = j from rfl, hy.out]; simp [h4])
        have t4 : decide (y < x) = false := decide_eq_false h4
        go_wp2
        all_goals first | (exfalso; omega) | exact ⟨⟨j + 1 + 1, by omega, by go_num, ⟨_, rfl, HN⟩, (by trivial)⟩, by simp [intOf]; omega⟩
    · obtain rfl : r.ne = k := by omega
      obtain ⟨wo, rfl⟩ : ∃ wo : World, wo = wr := ⟨_, rfl⟩
      have bP := BP1.out
      have zb := bP.lt
      have zw := HB1.out.size
      generalize hg1 : (h0 && allP (exP r.p) r.ne) = g1 at HQ
      have HG1 := Lib.hid hg1
      clear hg1
      go_wp2
      clear c1
      go_loopw [4, 7, 8, 78] (fun okv _ _ i wr => ∃ k : Nat, k ≤ r.nb ∧ i = .int .i64 k ∧ Hid (OkQ g1 (bkP r.p l) k okv) ∧ Below wo.heap.size wo wr) (fun _ _ _ i _ => r.nb - (intOf i).toNat)
      case atStart => exact ⟨0, Nat.zero_le _, rfl, ⟨q, rfl, by rw [HQ.out]; simp [allP]⟩, Below.refl _ _⟩
      case round =>
        obtain ⟨k, hk, rfl, HOQ, hbv⟩ := hrel
        obtain ⟨q, rfl, hq9⟩ := HOQ.out
        have HQ := Lib.hid hq9
        clear HOQ hq9
        have HBV := Lib.hid (HB1.out.trans (hbv.mono zw))
        have HBR := Lib.hid hbv
        have zv := HBV.out.size
        have zwv := hbv.size
        have bPv := bP.below hbv zb
        have c1 := bPv.cells
        have zbv := bPv.lt
        by_cases hlt : k < r.nb
        · obtain ⟨b0, o0, ⟨xr, xl⟩, hA, _, hb0, hx, hokx, d0, d1⟩ := (HAT.out.bk.below HBV.out hhi).sit_ hlt
          dsimp only at d0 d1
          have HST := Lib.hid (allP_and g1 (bkP r.p l) k HQ.out)
          have HXP := Lib.hid (bkP_at (l := l) hx.out)
          have i0 : (0 : Int) ≤ k := by omega
          have i1 : (k : Int) < r.nb := by omega
          have zb0 : b0 < wr.heap.size := by omega
          obtain ⟨P0, P1, P2⟩ : okInt xr ∧ okInt r.p.first ∧ okInt r.p.last := ⟨hokx.1, HOK.out.first, HOK.out.last⟩
          have HPREV : Hid (∀ j, k = j + 1 → ∃ y : Sit, r.p.blocked[j]? = some y ∧ wr.cell? ⟨b0, o0 + j * 2, none⟩ = some (.int .i64 y.row) ∧ wr.cell? ⟨b0, o0 + j * 2 + 1, none⟩ = some (.int .u8 y.let_)) := fun j hj => by
            obtain ⟨b1, o1, y, hA1, _, hb1, hy, hoky, f0, f1⟩ := (HAT.out.bk.below HBV.out hhi).sit_ (show j < r.nb by omega)
            rw [hA] at hA1
            injection hA1 with hA1
            injection hA1 with g1 g2
            subst g1 g2
            exact ⟨y, hy.out, f0, f1⟩
          go_upto_region 11 with fail
          refine wp_world (fun U => Bx U wr.heap.size #[.int .i64 xr, .int .u8 xl] 82 ∧ Below wr.heap.size wr U) ⟨Bx.new _ _ _, (Below.refl _ _).alloc (Nat.le_refl _) _⟩ ?_
          rintro U ⟨bS, hbU⟩
          have HRU := Lib.hid (HBR.out.trans (hbU.mono zwv))
          have zU := hbU.size
          have zS := bS.lt
          have zbU : w.heap.size < U.heap.size := by omega
          have zb0U : b0 < U.heap.size := by omega
          have bPU := bPv.below hbU zbv
          have HBU := Lib.hid hbU
          clear c1 d0 d1
          have c1 := bPU.cells
          have c2 := bS.cells
          have HIX := Lib.hid (fun u : Blw U => (index_any l xl u.W).mono (R' := fun e w' => e = .returned (.int .i64 (atI l xl)) ∧ Below u.W.heap.size u.W w') fun e w' h => ⟨h.1, h.2 ▸ Below.refl _ _⟩)
          generalize hai : atI l xl = ai at HIX HXP
          clear hai hbU
          rcases q with _ | _
          · have HN := Lib.hid (HST.out.trans (Bool.false_and _))
            refine wp_region_below (by kernel_rfl) (by kernel_rfl) ?_
            intro q9
            repeat
              (refine QH.step (fun K9 hK9 => ?_)
               go_simp
               first
               | (refine hK9 _ ?_; clear hK9 K9)
               | (apply Exists.intro
                  refine ⟨fun _ => ?_, hK9 _ ?_⟩
                  · first | fail
                  clear hK9 K9))
            refine QH.nil_ ?_
            clear q9
            rintro ⟨V9, hV9⟩
            dsimp only
            have HB9 := Lib.hid (HRU.out.trans (hV9.mono (Nat.le_trans zwv zU)))
            clear c1 c2 hV9
            go_wp2
            all_goals first | exact ⟨⟨k + 1, by omega, by go_num, ⟨_, rfl, HN.out⟩, HB9.out⟩, by simp [intOf]; omega⟩ | (refine ⟨⟨_, _, _, _, ⟨k + 1, by omega, rfl, ⟨_, rfl, HN.out⟩, HB9.out⟩, rfl, rfl, rfl, by go_num⟩, by simp [intOf]; omega⟩) | (exfalso; omega)
          by_cases h1 : r.p.first ≤ xr
          rotate_left
          · have HN := Lib.hid (show (g1 && allP (bkP r.p l) (k + 1)) = false by rw [HST.out, HXP.out, decide_eq_false h1]; rfl)
            have t1 : decide (xr ≥ r.p.first) = false := by simp; omega
            refine wp_region_below (by kernel_rfl) (by kernel_rfl) ?_
            intro q9
            repeat
              (refine QH.step (fun K9 hK9 => ?_)
               go_simp
               first
               | (refine hK9 _ ?_; clear hK9 K9)
               | (apply Exists.intro
                  refine ⟨fun _ => ?_, hK9 _ ?_⟩
                  · first | fail
                  clear hK9 K9))
            refine QH.nil_ ?_
            clear q9
            rintro ⟨V9, hV9⟩
            dsimp only
            have HB9 := Lib.hid (HRU.out.trans (hV9.mono (Nat.le_trans zwv zU)))
            clear c1 c2 hV9
            go_wp2
            all_goals first | exact ⟨⟨k + 1, by omega, by go_num, ⟨_, rfl, HN.out⟩, HB9.out⟩, by simp [intOf]; omega⟩ | (refine ⟨⟨_, _, _, _, ⟨k + 1, by omega, rfl, ⟨_, rfl, HN.out⟩, HB9.out⟩, rfl, rfl, rfl, by go_num⟩, by simp [intOf]; omega⟩) | (exfalso; omega)
          have t1 : decide (xr ≥ r.p.first) = true := by simp; omega
          by_cases h2 : xr ≤ r.p.last
          rotate_left
          · have HN := Lib.hid (show (g1 && allP (bkP r.p l) (k + 1)) = false by rw [HST.out, HXP.out, decide_eq_true h1, decide_eq_false h2]; rfl)
            have t2 : decide (xr ≤ r.p.last) = false := by simp; omega
            refine wp_region_below (by kernel_rfl) (by kernel_rfl) ?_
            intro q9
            repeat
              (refine QH.step (fun K9 hK9 => ?_)
               go_simp
               first
               | (refine hK9 _ ?_; clear hK9 K9)
               | (apply Exists.intro
                  refine ⟨fun _ => ?_, hK9 _ ?_⟩
                  · first | fail
                  clear hK9 K9))
            refine QH.nil_ ?_
            clear q9
            rintro ⟨V9, hV9⟩
            dsimp only
            have HB9 := Lib.hid (HRU.out.trans (hV9.mono (Nat.le_trans zwv zU)))
            clear c1 c2 hV9
            go_wp2
            all_goals first | exact ⟨⟨k + 1, by omega, by go_num, ⟨_, rfl, HN.out⟩, HB9.out⟩, by simp [intOf]; omega⟩ | (refine ⟨⟨_, _, _, _, ⟨k + 1, by omega, rfl, ⟨_, rfl, HN.out⟩, HB9.out⟩, rfl, rfl, rfl, by go_num⟩, by simp [intOf]; omega⟩) | (exfalso; omega)
          have t2 : decide (xr ≤ r.p.last) = true := by simp; omega
          by_cases h3 : 0 ≤ ai
          rotate_left
          · have HN := Lib.hid (show (g1 && allP (bkP r.p l) (k + 1)) = false by rw [HST.out, HXP.out, decide_eq_true h1, decide_eq_true h2, decide_eq_false h3]; rfl)
            have t3 : decide (ai ≥ 0) = false := by simp; omega
            refine wp_region_below (by kernel_rfl) (by kernel_rfl) ?_
            intro q9
            repeat
              (refine QH.step (fun K9 hK9 => ?_)
               go_simp
               first
               | (refine hK9 _ ?_; clear hK9 K9)
               | (apply Exists.intro
                  refine ⟨fun _ => ?_, hK9 _ ?_⟩
                  · first | (exact Calls.blw _ (HIX.out _))
                  clear hK9 K9))
            refine QH.nil_ ?_
            clear q9
            rintro ⟨V9, hV9⟩
            dsimp only
            have HB9 := Lib.hid (HRU.out.trans (hV9.mono (Nat.le_trans zwv zU)))
            clear c1 c2 hV9
            go_wp2
            all_goals first | exact ⟨⟨k + 1, by omega, by go_num, ⟨_, rfl, HN.out⟩, HB9.out⟩, by simp [intOf]; omega⟩ | (refine ⟨⟨_, _, _, _, ⟨k + 1, by omega, rfl, ⟨_, rfl, HN.out⟩, HB9.out⟩, rfl, rfl, rfl, by go_num⟩, by simp [intOf]; omega⟩) | (exfalso; omega)
          have t3 : decide (ai ≥ 0) = true := by simp; omega
          by_cases h4 : k = 0
          · have HN := Lib.hid (show (g1 && allP (bkP r.p l) (k + 1)) = true by rw [HST.out, HXP.out, decide_eq_true h1, decide_eq_true h2, decide_eq_true h3, decide_eq_true h4]; rfl)
            have t4 : ((k : Int) == 0) = true := by simp [h4]
            clear h4
            refine wp_region_below (by kernel_rfl) (by kernel_rfl) ?_
            intro q9
            repeat
              (refine QH.step (fun K9 hK9 => ?_)
               go_simp
               first
               | (refine hK9 _ ?_; clear hK9 K9)
               | (apply Exists.intro
                  refine ⟨fun _ => ?_, hK9 _ ?_⟩
                  · first | (exact Calls.blw _ (HIX.out _))
                  clear hK9 K9))
            refine QH.nil_ ?_
            clear q9
            rintro ⟨V9, hV9⟩
            dsimp only
            have HB9 := Lib.hid (HRU.out.trans (hV9.mono (Nat.le_trans zwv zU)))
            clear c1 c2 hV9
            go_wp2
            all_goals first | exact ⟨⟨k + 1, by omega, by go_num, ⟨_, rfl, HN.out⟩, HB9.out⟩, by simp [intOf]; omega⟩ | (refine ⟨⟨_, _, _, _, ⟨k + 1, by omega, rfl, ⟨_, rfl, HN.out⟩, HB9.out⟩, rfl, rfl, rfl, by go_num⟩, by simp [intOf]; omega⟩) | (exfalso; omega)
          obtain ⟨j, rfl⟩ : ∃ j, k = j + 1 := ⟨k - 1, by omega⟩
          obtain ⟨⟨yr, yl⟩, hy, f0, f1⟩ := HPREV.out j rfl
          dsimp only at f0 f1
          replace f0 := (HBU.out.cell (p := ⟨b0, o0 + j * 2, none⟩) zb0).trans f0
          replace f1 := (HBU.out.cell (p := ⟨b0, o0 + j * 2 + 1, none⟩) zb0).trans f1
          have HY := Lib.hid hy
          have e1 : ((j + 1 : Nat) : Int) - 1 = (j : Int) := by omega
          have t4 : (((j + 1 : Nat) : Int) == 0) = false := by simp; omega
          have j1 : (j : Int) < r.nb := by omega
          have j0 : (0 : Int) ≤ j := by omega
          have w1 : IntKind.i64.wrap (j : Int) = j := by rw [IntKind.wrap_i64]; omega
          have w2 : IntKind.i64.wrap ((j : Int) + 1 - 1) = j := by rw [IntKind.wrap_i64]; omega
          generalize hls : ltSit ⟨yr, yl⟩ ⟨xr, xl⟩ = ls
          have HLS := Lib.hid (fun u : Blw U => less_is ⟨yr, yl⟩ ⟨xr, xl⟩ hls u.W)
          have HN := Lib.hid (show (g1 && allP (bkP r.p l) (j + 1 + 1)) = ls by rw [HST.out, HXP.out, decide_eq_true h1, decide_eq_true h2, decide_eq_true h3, show j + 1 - 1 = j from rfl, HY.out]; simp [hls])
          clear hls hy
          rw [hA] at c1
          go_upto_region 11 with fail
          refine wp_region_below (by kernel_rfl) (by kernel_rfl) ?_
          intro q9
          repeat
            (refine QH.step (fun K9 hK9 => ?_)
             go_simp
             first
             | (refine hK9 _ ?_; clear hK9 K9)
             | (apply Exists.intro
                refine ⟨fun _ => ?_, hK9 _ ?_⟩
                · first | (with_reducible exact Calls.blw _ (HIX.out _)) | (with_reducible exact Calls.blw _ (HLS.out _))
                clear hK9 K9))
          refine QH.nil_ ?_
          clear q9
          rintro ⟨V9, hV9⟩
          dsimp only
          have HB9 := Lib.hid (HRU.out.trans (hV9.mono (Nat.le_trans zwv zU)))
          clear c1 c2 hV9
          go_wp2
          all_goals first | exact ⟨⟨j + 1 + 1, by omega, by go_num, ⟨_, rfl, HN.out⟩, HB9.out⟩, by simp [intOf]; omega⟩ | (refine ⟨⟨_, _, _, _, ⟨j + 1 + 1, by omega, rfl, ⟨_, rfl, HN.out⟩, HB9.out⟩, rfl, rfl, rfl, by go_num⟩, by simp [intOf]; omega⟩) | (exfalso; omega)
        · obtain rfl : r.nb = k := by omega
          have HN := Lib.hid (show q0 = q by rw [← HQ0.out]; unfold chkP; rw [HLF.out, HNE.out, HNB.out, HH0.out, HG1.out]; exact HQ.out)
          rcases q with _ | _
          · go_wp2
            go_ret
            exact ⟨by rw [HN.out]; rfl, HBV.out⟩
          · go_wp2
            go_ret
            exact ⟨by rw [HN.out]; rfl, HBV.out⟩
end Go.Proofs.YtlkdefmceghmnaaGreatDoor
