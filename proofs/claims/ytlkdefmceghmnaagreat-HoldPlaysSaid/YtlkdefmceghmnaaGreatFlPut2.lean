/- The document's put: a flight into a list in its place, by time or by key. By program. -/
import Derived.Test.YtlkdefmceghmnaaGreatFlPut
import Derived.Test.YtlkdefmceghmnaaGreatQuietB
namespace Go.Proofs.YtlkdefmceghmnaaGreat
set_option linter.unusedVariables false
open Go Go.RowKit Go.Sort
section
variable {α : Type} (lt : α → α → Bool) (r : α)
/-- What the rounds make: the list so far, and whether the thing stands in it. -/
def stepP (p : List α × Bool) (x : α) : List α × Bool := if p.2 then (p.1 ++ [x], true) else if lt r x then (p.1 ++ [r] ++ [x], true) else (p.1 ++ [x], false)
def putP (l : List α) : List α × Bool := l.foldl (stepP lt r) ([], false)
theorem putP_snoc (l : List α) (x : α) : putP lt r (l ++ [x]) = stepP lt r (putP lt r l) x := by simp [putP]
theorem foldP_true : ∀ (l acc : List α), l.foldl (stepP lt r) (acc, true) = (acc ++ l, true) := by
  intro l
  induction l with
  | nil => intro acc; simp
  | cons x l ih => intro acc; rw [List.foldl_cons]; show l.foldl _ (acc ++ [x], true) = _; rw [ih]; simp
theorem foldP_fin : ∀ (l acc : List α), (let p := l.foldl (stepP lt r) (acc, false); if p.2 then p.1 else p.1 ++ [r]) = acc ++ insL lt r l := by
  intro l
  induction l with
  | nil => intro acc; simp [insL]
  | cons x l ih =>
    intro acc
    rw [List.foldl_cons]
    unfold insL
    by_cases h : lt r x = true
    · rw [show stepP lt r (acc, false) x = (acc ++ [r] ++ [x], true) by simp [stepP, h], foldP_true, if_pos h]
      simp
    · rw [show stepP lt r (acc, false) x = (acc ++ [x], false) by simp [stepP, h], if_neg h]
      have := ih (acc ++ [x])
      rw [this]
      simp
theorem putP_yes {l : List α} (h : (putP lt r l).2 = true) : insL lt r l = (putP lt r l).1 := by
  have := foldP_fin lt r l []
  unfold putP at h ⊢
  simp only [h, if_true, List.nil_append] at this
  exact this.symm
theorem putP_no {l : List α} (h : (putP lt r l).2 = false) : insL lt r l = (putP lt r l).1 ++ [r] := by
  have := foldP_fin lt r l []
  unfold putP at h ⊢
  simp only [h, List.nil_append] at this
  exact this.symm
theorem putP_len : ∀ (l acc : List α) (b : Bool), (l.foldl (stepP lt r) (acc, b)).1.length ≤ acc.length + l.length + 1
  | [], acc, b => by simp
  | x :: l, acc, b => by
    rw [List.foldl_cons]
    cases b with
    | true =>
      have := putP_len l (acc ++ [x]) true
      rw [show stepP lt r (acc, true) x = (acc ++ [x], true) from rfl]
      simp at this ⊢
      omega
    | false =>
      by_cases h : lt r x = true
      · rw [show stepP lt r (acc, false) x = (acc ++ [r] ++ [x], true) by simp [stepP, h], foldP_true]
        simp
        omega
      · rw [show stepP lt r (acc, false) x = (acc ++ [x], false) by simp [stepP, h]]
        have := putP_len l (acc ++ [x]) false
        simp at this ⊢
        omega
end
theorem FB.over {w W W1 : World} {r : FlR} (h : FB w r W) (hb : Below (w.heap.size + 1) W W1) : FB w r W1 := ⟨h.1.below hb (by omega), h.2.trans (hb.mono (by omega))⟩
def byF (lt : Flt → Flt → Bool) (a b : FlR) : Bool := lt a.f b.f
theorem sooner_any_is (r s : FlR) (q : Bool) (h : byF ltT r s = q) (W : World) : Calls Tryz.prog 126 #[.agg #[.string r.f.car, .int .i64 r.f.num, .string r.f.frm, .string r.f.to_, .int .u8 r.f.days, .int .i64 r.f.dep, .int .i64 r.f.arr, .slice r.A r.n r.c, .int .i64 r.f.pln], .agg #[.string s.f.car, .int .i64 s.f.num, .string s.f.frm, .string s.f.to_, .int .u8 s.f.days, .int .i64 s.f.dep, .int .i64 s.f.arr, .slice s.A s.n s.c, .int .i64 s.f.pln]] W fun e w' => e = .returned (.bool q) ∧ Below W.heap.size W w' :=
  (sooner_any r s W).mono fun e w' ⟨h1, h2⟩ => ⟨by rw [h1]; exact congrArg (fun b => Ending.returned (.bool b)) h, h2⟩
theorem ahead_any_is (r s : FlR) (q : Bool) (h : byF ltF r s = q) (W : World) : Calls Tryz.prog 127 #[.agg #[.string r.f.car, .int .i64 r.f.num, .string r.f.frm, .string r.f.to_, .int .u8 r.f.days, .int .i64 r.f.dep, .int .i64 r.f.arr, .slice r.A r.n r.c, .int .i64 r.f.pln], .agg #[.string s.f.car, .int .i64 s.f.num, .string s.f.frm, .string s.f.to_, .int .u8 s.f.days, .int .i64 s.f.dep, .int .i64 s.f.arr, .slice s.A s.n s.c, .int .i64 s.f.pln]] W fun e w' => e = .returned (.bool q) ∧ Below W.heap.size W w' :=
  (ahead_any r s W).mono fun e w' ⟨h1, h2⟩ => ⟨by rw [h1]; exact congrArg (fun b => Ending.returned (.bool b)) h, h2⟩
theorem take_snoc' {α : Type} {l : List α} {k : Nat} {x : α} (h : l[k]? = some x) : l.take (k + 1) = l.take k ++ [x] := by
  rw [List.take_add_one, h]; rfl

set_option maxRecDepth 100000 in
set_option maxHeartbeats 4000000 in
theorem put_t (rl : List FlR) (A : Option Addr) (n c : Nat) (r : FlR) (w : World) (lo hi : Nat) (hs : FlS w lo hi A n rl) (hr : r.ok) (hn : n ≤ 100000) (hhi : hi ≤ w.heap.size) :
    Calls Tryz.prog 100 #[.slice A n c, .agg #[.string r.f.car, .int .i64 r.f.num, .string r.f.frm, .string r.f.to_, .int .u8 r.f.days, .int .i64 r.f.dep, .int .i64 r.f.arr, .slice r.A r.n r.c, .int .i64 r.f.pln], .bool true] w (RetOwn w 96 tFl (insL (byF ltT) r rl)) := by
  have HS := Lib.hid hs
  have HR := Lib.hid hr
  have HL := Lib.hid hs.sl.len
  have HB := FB.start w r
  clear hs hr
  go_enter Tryz.func100, Tryz.ntmps100
  go_upto_region 1 with fail
  refine wp_world (FB w r) HB ?_
  clear HB
  intro W hF
  go_wp2
  go_loopw [7, 8, 9] (fun v d i wr => ∃ k : Nat, k ≤ n ∧ i = .int .i64 k ∧ (∃ q, d = .bool q ∧ Hid ((putP (byF ltT) r (rl.take k)).2 = q)) ∧ Own wr (w.heap.size + 1) 96 tFl v (putP (byF ltT) r (rl.take k)).1 ∧ FB w r wr) (fun _ _ i _ => n - (intOf i).toNat)
  case atStart => exact ⟨0, by omega, rfl, ⟨false, rfl, rfl⟩, Own.nil_ _ _ _ _, hF⟩
  case round =>
    obtain ⟨k, hk, rfl, ⟨q, rfl, HQ⟩, ho, hG⟩ := hrel
    clear hF
    have zl := putP_len (byF ltT) r (rl.take k) [] false
    have zl2 : (rl.take k).length ≤ n := by rw [List.length_take, HL.out]; omega
    have hlen : (putP (byF ltT) r (rl.take k)).1.length ≤ n + 1 := by simp only [List.length_nil, Nat.zero_add] at zl; exact Nat.le_trans zl (by omega)
    clear zl zl2
    have hz : w.heap.size + 1 ≤ wr.heap.size := hG.lt
    by_cases hlt : k < n
    · obtain ⟨b0, o0, s, hA, _, _, hx, hok, hcl, d0, d1, d2, d3, d4, d5, d6, d7, d8⟩ := (HS.out.below hG.2 hhi).at_ hlt
      subst hA
      have HX := Lib.hid (take_snoc' hx.out)
      have c1 := hG.1.cells
      have i0 : (0 : Int) ≤ k := by omega
      have i1 : (k : Int) < n := by omega
      rcases q with _ | _
      rotate_left
      · have hst := Lib.hid (show putP (byF ltT) r (rl.take (k + 1)) = ((putP (byF ltT) r (rl.take k)).1 ++ [s], true) by rw [HX.out, putP_snoc]; unfold stepP; rw [HQ.out]; rfl)
        generalize (putP (byF ltT) r (rl.take k)).1 = out at ho hlen hst
        clear HQ
        go_wp2
        go_quiet (fail)
        go_wp2_with (at_builtin; refine push_law (W := wr.drewN _) rfl (.tmp 45) (.tmp 50) rfl sl_flt rfl (ho.drewN _) s hok _ rfl rfl (by exact hz) (by omega) ?_; intro v1 w1 ho1 hb1)
        go_roundw
        case rel => exact ⟨k + 1, by omega, by go_num, ⟨true, rfl, by show _ = _; rw [hst.out]⟩, by rw [hst.out]; exact ho1, (hG.drewN _).over hb1⟩
        case measure => simp [intOf]; omega
      · generalize hq : byF ltT r s = q
        have HS2 := Lib.hid (show putP (byF ltT) r (rl.take (k + 1)) = if q then ((putP (byF ltT) r (rl.take k)).1 ++ [r] ++ [s], true) else ((putP (byF ltT) r (rl.take k)).1 ++ [s], false) by rw [HX.out, putP_snoc]; unfold stepP; rw [HQ.out, hq]; simp)
        have HC := Lib.hid (sooner_any_is r s q hq)
        clear hq
        generalize (putP (byF ltT) r (rl.take k)).1 = out at ho hlen HS2
        clear HQ
        go_upto_region 6 with fail
        go_cut [40] (fun t w' => t = .bool q ∧ Below wr.heap.size wr w')
        case first =>
          have zb : b0 < wr.heap.size := by omega
          have zw : w.heap.size < wr.heap.size := by omega
          rcases q with _ | _
          · skip
            refine wp_region_below (by kernel_rfl) (by kernel_rfl) ?_
            intro q9
            repeat
              (refine QH.step (fun K9 hK9 => ?_)
               go_simp
               first
               | (refine hK9 _ ?_; clear hK9 K9)
               | (apply Exists.intro
                  refine ⟨fun _ => ?_, hK9 _ ?_⟩
                  · first | (exact Calls.blw _ (HC.out _))
                  clear hK9 K9))
            refine QH.nil_ ?_
            clear q9
            rintro ⟨V9, hV9⟩
            dsimp only
            go_wp2
            go_meet
            exact ⟨rfl, hV9⟩
          · skip
            refine wp_region_below (by kernel_rfl) (by kernel_rfl) ?_
            intro q9
            repeat
              (refine QH.step (fun K9 hK9 => ?_)
               go_simp
               first
               | (refine hK9 _ ?_; clear hK9 K9)
               | (apply Exists.intro
                  refine ⟨fun _ => ?_, hK9 _ ?_⟩
                  · first | (exact Calls.blw _ (HC.out _))
                  clear hK9 K9))
            refine QH.nil_ ?_
            clear q9
            rintro ⟨V9, hV9⟩
            dsimp only
            go_wp2
            go_meet
            exact ⟨rfl, hV9⟩
        case rest =>
          obtain ⟨rfl, hw9⟩ := hcut
          have hG2 := hG.step hw9
          have ho2 := ho.keep hw9
          have hz2 : w.heap.size + 1 ≤ wc.heap.size := Nat.le_trans hz hw9.size
          have zb : b0 < wr.heap.size := by omega
          have zw : w.heap.size < wr.heap.size := by omega
          have q9 := (bcell hw9).1
          clear ho hG hw9
          rcases q with _ | _
          · go_wp2_with (at_builtin; refine push_law (W := wc) rfl (.tmp 45) (.tmp 50) rfl sl_flt rfl ho2 s hok _ rfl rfl (by exact hz2) (by omega) ?_; intro v1 w1 ho1 hb1)
            go_roundw
            case rel => exact ⟨k + 1, by omega, by go_num, ⟨false, rfl, by show _ = _; rw [HS2.out]; rfl⟩, by rw [HS2.out]; exact ho1, hG2.over hb1⟩
            case measure => simp [intOf]; omega
          · have zb2 : b0 < w.heap.size + 1 := by omega
            have zw2 : w.heap.size < w.heap.size + 1 := by omega
            go_wp2_with (first
              | (at_builtin; refine push_law (W := wc) rfl (.tmp 41) (.tmp 43) rfl sl_flt rfl ho2 r HR.out _ rfl rfl (by exact hz2) (by omega) ?_; intro v1 w1 ho1 hb1; have q1 : ∀ b o, b < w.heap.size + 1 → w1.cell? ⟨b, o, none⟩ = wc.cell? ⟨b, o, none⟩ := fun b o h => hb1.cell (p := ⟨b, o, none⟩) h; have hz3 : w.heap.size + 1 ≤ w1.heap.size := Nat.le_trans hz2 hb1.size; have hl1 : (out ++ [r]).length ≤ n + 2 := (by simp; omega))
              | (at_builtin; refine push_law (W := w1) rfl (.tmp 45) (.tmp 50) rfl sl_flt rfl ho1 s hok _ rfl rfl (by exact hz3) (by omega) ?_; intro v2' w2' ho2' hb2'))
            go_roundw
            case rel => exact ⟨k + 1, by omega, by go_num, ⟨true, rfl, by show _ = _; rw [HS2.out]; rfl⟩, by rw [HS2.out]; exact ho2', (hG2.over hb1).over hb2'⟩
            case measure => simp [intOf]; omega
    · obtain rfl : n = k := by omega
      have HF : Hid (rl.take n = rl) := List.take_of_length_le (Nat.le_of_eq HL.out)
      have c1 := hG.1.cells
      rcases q with _ | _
      · have hfin := Lib.hid (putP_no (byF ltT) r (l := rl) (by rw [← HQ.out, HF.out]))
        generalize hp : (putP (byF ltT) r (rl.take n)).1 = out at ho hlen
        have HP := Lib.hid hp
        clear hp
        go_wp2_with (at_builtin; refine push_law (W := wr) rfl (.tmp 54) (.tmp 56) rfl sl_flt rfl ho r HR.out _ rfl rfl (by exact hz) (by omega) ?_; intro v1 w1 ho1 hb1)
        go_ret
        refine RetOwn.mk' ?_ (hG.2.trans (hb1.mono (by omega)))
        rw [hfin.out, ← HF.out, HP.out]
        exact ho1.more (by omega)
      · have hfin := Lib.hid (putP_yes (byF ltT) r (l := rl) (by rw [← HQ.out, HF.out]))
        go_wp2
        go_ret
        refine RetOwn.mk' ?_ hG.2
        rw [hfin.out]
        rw [HF.out] at ho
        exact ho.more (by omega)

set_option maxRecDepth 100000 in
set_option maxHeartbeats 4000000 in
theorem put_f (rl : List FlR) (A : Option Addr) (n c : Nat) (r : FlR) (w : World) (lo hi : Nat) (hs : FlS w lo hi A n rl) (hr : r.ok) (hn : n ≤ 100000) (hhi : hi ≤ w.heap.size) :
    Calls Tryz.prog 100 #[.slice A n c, .agg #[.string r.f.car, .int .i64 r.f.num, .string r.f.frm, .string r.f.to_, .int .u8 r.f.days, .int .i64 r.f.dep, .int .i64 r.f.arr, .slice r.A r.n r.c, .int .i64 r.f.pln], .bool false] w (RetOwn w 96 tFl (insL (byF ltF) r rl)) := by
  have HS := Lib.hid hs
  have HR := Lib.hid hr
  have HL := Lib.hid hs.sl.len
  have HB := FB.start w r
  clear hs hr
  go_enter Tryz.func100, Tryz.ntmps100
  go_upto_region 1 with fail
  refine wp_world (FB w r) HB ?_
  clear HB
  intro W hF
  go_wp2
  go_loopw [7, 8, 9] (fun v d i wr => ∃ k : Nat, k ≤ n ∧ i = .int .i64 k ∧ (∃ q, d = .bool q ∧ Hid ((putP (byF ltF) r (rl.take k)).2 = q)) ∧ Own wr (w.heap.size + 1) 96 tFl v (putP (byF ltF) r (rl.take k)).1 ∧ FB w r wr) (fun _ _ i _ => n - (intOf i).toNat)
  case atStart => exact ⟨0, by omega, rfl, ⟨false, rfl, rfl⟩, Own.nil_ _ _ _ _, hF⟩
  case round =>
    obtain ⟨k, hk, rfl, ⟨q, rfl, HQ⟩, ho, hG⟩ := hrel
    clear hF
    have zl := putP_len (byF ltF) r (rl.take k) [] false
    have zl2 : (rl.take k).length ≤ n := by rw [List.length_take, HL.out]; omega
    have hlen : (putP (byF ltF) r (rl.take k)).1.length ≤ n + 1 := by simp only [List.length_nil, Nat.zero_add] at zl; exact Nat.le_trans zl (by omega)
    clear zl zl2
    have hz : w.heap.size + 1 ≤ wr.heap.size := hG.lt
    by_cases hlt : k < n
    · obtain ⟨b0, o0, s, hA, _, _, hx, hok, hcl, d0, d1, d2, d3, d4, d5, d6, d7, d8⟩ := (HS.out.below hG.2 hhi).at_ hlt
      subst hA
      have HX := Lib.hid (take_snoc' hx.out)
      have c1 := hG.1.cells
      have i0 : (0 : Int) ≤ k := by omega
      have i1 : (k : Int) < n := by omega
      rcases q with _ | _
      rotate_left
      · have hst := Lib.hid (show putP (byF ltF) r (rl.take (k + 1)) = ((putP (byF ltF) r (rl.take k)).1 ++ [s], true) by rw [HX.out, putP_snoc]; unfold stepP; rw [HQ.out]; rfl)
        generalize (putP (byF ltF) r (rl.take k)).1 = out at ho hlen hst
        clear HQ
        go_wp2
        go_quiet (fail)
        go_wp2_with (at_builtin; refine push_law (W := wr.drewN _) rfl (.tmp 45) (.tmp 50) rfl sl_flt rfl (ho.drewN _) s hok _ rfl rfl (by exact hz) (by omega) ?_; intro v1 w1 ho1 hb1)
        go_roundw
        case rel => exact ⟨k + 1, by omega, by go_num, ⟨true, rfl, by show _ = _; rw [hst.out]⟩, by rw [hst.out]; exact ho1, (hG.drewN _).over hb1⟩
        case measure => simp [intOf]; omega
      · generalize hq : byF ltF r s = q
        have HS2 := Lib.hid (show putP (byF ltF) r (rl.take (k + 1)) = if q then ((putP (byF ltF) r (rl.take k)).1 ++ [r] ++ [s], true) else ((putP (byF ltF) r (rl.take k)).1 ++ [s], false) by rw [HX.out, putP_snoc]; unfold stepP; rw [HQ.out, hq]; simp)
        have HC := Lib.hid (ahead_any_is r s q hq)
        clear hq
        generalize (putP (byF ltF) r (rl.take k)).1 = out at ho hlen HS2
        clear HQ
        go_upto_region 6 with fail
        go_cut [40] (fun t w' => t = .bool q ∧ Below wr.heap.size wr w')
        case first =>
          have zb : b0 < wr.heap.size := by omega
          have zw : w.heap.size < wr.heap.size := by omega
          rcases q with _ | _
          · skip
            refine wp_region_below (by kernel_rfl) (by kernel_rfl) ?_
            intro q9
            repeat
              (refine QH.step (fun K9 hK9 => ?_)
               go_simp
               first
               | (refine hK9 _ ?_; clear hK9 K9)
               | (apply Exists.intro
                  refine ⟨fun _ => ?_, hK9 _ ?_⟩
                  · first | (exact Calls.blw _ (HC.out _))
                  clear hK9 K9))
            refine QH.nil_ ?_
            clear q9
            rintro ⟨V9, hV9⟩
            dsimp only
            go_wp2
            go_meet
            exact ⟨rfl, hV9⟩
          · skip
            refine wp_region_below (by kernel_rfl) (by kernel_rfl) ?_
            intro q9
            repeat
              (refine QH.step (fun K9 hK9 => ?_)
               go_simp
               first
               | (refine hK9 _ ?_; clear hK9 K9)
               | (apply Exists.intro
                  refine ⟨fun _ => ?_, hK9 _ ?_⟩
                  · first | (exact Calls.blw _ (HC.out _))
                  clear hK9 K9))
            refine QH.nil_ ?_
            clear q9
            rintro ⟨V9, hV9⟩
            dsimp only
            go_wp2
            go_meet
            exact ⟨rfl, hV9⟩
        case rest =>
          obtain ⟨rfl, hw9⟩ := hcut
          have hG2 := hG.step hw9
          have ho2 := ho.keep hw9
          have hz2 : w.heap.size + 1 ≤ wc.heap.size := Nat.le_trans hz hw9.size
          have zb : b0 < wr.heap.size := by omega
          have zw : w.heap.size < wr.heap.size := by omega
          have q9 := (bcell hw9).1
          clear ho hG hw9
          rcases q with _ | _
          · go_wp2_with (at_builtin; refine push_law (W := wc) rfl (.tmp 45) (.tmp 50) rfl sl_flt rfl ho2 s hok _ rfl rfl (by exact hz2) (by omega) ?_; intro v1 w1 ho1 hb1)
            go_roundw
            case rel => exact ⟨k + 1, by omega, by go_num, ⟨false, rfl, by show _ = _; rw [HS2.out]; rfl⟩, by rw [HS2.out]; exact ho1, hG2.over hb1⟩
            case measure => simp [intOf]; omega
          · have zb2 : b0 < w.heap.size + 1 := by omega
            have zw2 : w.heap.size < w.heap.size + 1 := by omega
            go_wp2_with (first
              | (at_builtin; refine push_law (W := wc) rfl (.tmp 41) (.tmp 43) rfl sl_flt rfl ho2 r HR.out _ rfl rfl (by exact hz2) (by omega) ?_; intro v1 w1 ho1 hb1; have q1 : ∀ b o, b < w.heap.size + 1 → w1.cell? ⟨b, o, none⟩ = wc.cell? ⟨b, o, none⟩ := fun b o h => hb1.cell (p := ⟨b, o, none⟩) h; have hz3 : w.heap.size + 1 ≤ w1.heap.size := Nat.le_trans hz2 hb1.size; have hl1 : (out ++ [r]).length ≤ n + 2 := (by simp; omega))
              | (at_builtin; refine push_law (W := w1) rfl (.tmp 45) (.tmp 50) rfl sl_flt rfl ho1 s hok _ rfl rfl (by exact hz3) (by omega) ?_; intro v2' w2' ho2' hb2'))
            go_roundw
            case rel => exact ⟨k + 1, by omega, by go_num, ⟨true, rfl, by show _ = _; rw [HS2.out]; rfl⟩, by rw [HS2.out]; exact ho2', (hG2.over hb1).over hb2'⟩
            case measure => simp [intOf]; omega
    · obtain rfl : n = k := by omega
      have HF : Hid (rl.take n = rl) := List.take_of_length_le (Nat.le_of_eq HL.out)
      have c1 := hG.1.cells
      rcases q with _ | _
      · have hfin := Lib.hid (putP_no (byF ltF) r (l := rl) (by rw [← HQ.out, HF.out]))
        generalize hp : (putP (byF ltF) r (rl.take n)).1 = out at ho hlen
        have HP := Lib.hid hp
        clear hp
        go_wp2_with (at_builtin; refine push_law (W := wr) rfl (.tmp 54) (.tmp 56) rfl sl_flt rfl ho r HR.out _ rfl rfl (by exact hz) (by omega) ?_; intro v1 w1 ho1 hb1)
        go_ret
        refine RetOwn.mk' ?_ (hG.2.trans (hb1.mono (by omega)))
        rw [hfin.out, ← HF.out, HP.out]
        exact ho1.more (by omega)
      · have hfin := Lib.hid (putP_yes (byF ltF) r (l := rl) (by rw [← HQ.out, HF.out]))
        go_wp2
        go_ret
        refine RetOwn.mk' ?_ hG.2
        rw [hfin.out]
        rw [HF.out] at ho
        exact ho.more (by omega)

end Go.Proofs.YtlkdefmceghmnaaGreat
