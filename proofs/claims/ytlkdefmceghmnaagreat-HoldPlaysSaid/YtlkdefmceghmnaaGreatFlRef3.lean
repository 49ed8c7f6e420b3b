/- The document's All and Between. -/
import Derived.Test.YtlkdefmceghmnaaGreatFlRef2
namespace Go.Proofs.YtlkdefmceghmnaaGreat
set_option linter.unusedVariables false
open Go Go.RowKit Go.Sort
section
variable {α : Type} (lt : α → α → Bool)
theorem allL_snoc (l : List α) (x : α) : allL lt (l ++ [x]) = insL lt x (allL lt l) := by simp [allL]
theorem mem_foldIns : ∀ (l acc : List α) (y : α), y ∈ l.foldl (fun acc x => insL lt x acc) acc ↔ y ∈ acc ∨ y ∈ l
  | [], acc, y => by simp
  | a :: l, acc, y => by
    rw [List.foldl_cons, mem_foldIns l, mem_insL, List.mem_cons]
    constructor
    · rintro ((h | h) | h)
      · exact .inr (.inl h)
      · exact .inl h
      · exact .inr (.inr h)
    · rintro (h | h | h)
      · exact .inl (.inr h)
      · exact .inl (.inl h)
      · exact .inr h
theorem mem_allL (l : List α) (y : α) : y ∈ allL lt l ↔ y ∈ l := by unfold allL; rw [mem_foldIns]; simp
theorem len_foldIns : ∀ (l acc : List α), (l.foldl (fun acc x => insL lt x acc) acc).length = acc.length + l.length
  | [], acc => by simp
  | a :: l, acc => by rw [List.foldl_cons, len_foldIns l, length_insL, List.length_cons]; omega
theorem len_allL (l : List α) : (allL lt l).length = l.length := by unfold allL; rw [len_foldIns]; simp
end
theorem insL_f (lt : Flt → Flt → Bool) (r : FlR) : ∀ l : List FlR, (insL (byF lt) r l).map (·.f) = insL lt r.f (l.map (·.f))
  | [] => rfl
  | s :: l => by
    unfold insL
    rw [List.map_cons]
    by_cases h : lt r.f s.f = true
    · rw [if_pos (show byF lt r s = true from h)]
      simp only [h, if_true, List.map_cons]
    · rw [if_neg (show ¬ byF lt r s = true from h)]
      rw [List.map_cons, insL_f lt r l]
      simp only [h]
      rfl
theorem foldIns_f (lt : Flt → Flt → Bool) : ∀ l acc : List FlR, (l.foldl (fun acc x => insL (byF lt) x acc) acc).map (·.f) = (l.map (·.f)).foldl (fun acc x => insL lt x acc) (acc.map (·.f))
  | [], acc => rfl
  | a :: l, acc => by rw [List.foldl_cons, foldIns_f lt l, insL_f]; rfl
theorem allL_f (lt : Flt → Flt → Bool) (l : List FlR) : (allL (byF lt) l).map (·.f) = allL lt (l.map (·.f)) := foldIns_f lt l []
theorem filter_f (p : Flt → Bool) (l : List FlR) : (l.filter fun r => p r.f).map (·.f) = (l.map (·.f)).filter p := by
  rw [List.filter_map]; rfl
/-- A list of rows out of an old one, in new memory. -/
theorem fls_own {w W : World} {lo hi n c B : Nat} {A A' : Option Addr} {m : Nat} {rl out : List FlR} {E : TypeId} (hs : FlS w lo hi A n rl) (hb : Below w.heap.size w W) (hhi : hi ≤ w.heap.size) (ho : Own W B E tFl (.slice A' m c) out) (hm : ∀ r ∈ out, r ∈ rl) : FlS W 0 W.heap.size A' m out :=
  ⟨ho.sl.more (Nat.zero_le _) (Nat.le_refl _), fun r hr => ((hs.cl r (hm r hr)).below hb hhi).more (Nat.zero_le _) (Nat.le_trans hhi hb.size)⟩
set_option maxRecDepth 100000 in
set_option maxHeartbeats 4000000 in
theorem rbetween_any (rl : List FlR) (A : Option Addr) (n c : Nat) (d : Int) (fr to_ : ByteArray) (w : World) (lo hi : Nat) (hs : FlS w lo hi A n rl) (hn : n ≤ 100000) (hhi : hi ≤ w.heap.size) :
    Calls Tryz.prog 65 #[.slice A n c, .int .i64 d, .string fr, .string to_] w (RetOwn w 96 tFl (allL (byF ltT) (rl.filter fun r => wayB d fr to_ r.f))) := by
  have HS := Lib.hid hs
  have HL := Lib.hid hs.sl.len
  clear hs
  go_enter Tryz.func65, Tryz.ntmps65
  go_wp2
  go_loopw [9, 10] (fun v i wr => ∃ k : Nat, k ≤ n ∧ i = .int .i64 k ∧ (∃ A' c' l', v = .slice A' l' c' ∧ Own wr w.heap.size 96 tFl (.slice A' l' c') (allL (byF ltT) ((rl.take k).filter fun r => wayB d fr to_ r.f))) ∧ Below w.heap.size w wr) (fun _ i _ => n - (intOf i).toNat)
  case atStart => exact ⟨0, by omega, rfl, ⟨none, 0, 0, rfl, Own.nil_ _ _ _ _⟩, Below.refl _ _⟩
  case round =>
    obtain ⟨k, hk, rfl, ⟨A', c', l', rfl, ho⟩, hb⟩ := hrel
    by_cases hlt : k < n
    · obtain ⟨b0, o0, s, hA, _, _, hx, hok, hcl, d0, d1, d2, d3, d4, d5, d6, d7, d8⟩ := (HS.out.below hb hhi).at_ hlt
      subst hA
      have i0 : (0 : Int) ≤ k := by omega
      have i1 : (k : Int) < n := by omega
      have HX := Lib.hid (take_snoc' hx.out)
      have hll : l' ≤ 100000 := by
        have h1 := ho.sl.len
        rw [len_allL] at h1
        have h2 := List.length_filter_le (fun r : FlR => wayB d fr to_ r.f) (rl.take k)
        rw [List.length_take] at h2
        omega
      have HO := Lib.hid ho
      clear ho
      have HW := Lib.hid (show wayB d fr to_ s.f = (onB s.f d && (eqTx s.f.frm fr && eqTx s.f.to_ to_)) from rfl)
      have e1 := eqTx_l s.f.frm fr
      have e2 := eqTx_l s.f.to_ to_
      generalize eqTx s.f.frm fr = q1 at e1 HW
      generalize eqTx s.f.to_ to_ = q2 at e2 HW
      go_wp2_with fail
      refine (on_any s d wr hok.f.days).mono ?_
      generalize hq : onB s.f d = q0 at HW
      have HQ := Lib.hid hq
      clear hq
      rintro e w1 ⟨rfl, h1⟩
      have hb1 := hb.trans (h1.mono hb.size)
      have q9 := (bcell h1).1
      have zb : b0 < wr.heap.size := by have := hb.size; omega
      by_cases hall : q0 = true ∧ q1 = true ∧ q2 = true
      · obtain ⟨rfl, rfl, rfl⟩ := hall
        have HN := Lib.hid (show (rl.take (k + 1)).filter (fun r => wayB d fr to_ r.f) = (rl.take k).filter (fun r => wayB d fr to_ r.f) ++ [s] by rw [HX.out, List.filter_append]; simp [HW.out])
        go_wp2_with fail
        refine (put_t (allL (byF ltT) ((rl.take k).filter fun r => wayB d fr to_ r.f)) A' l' c' s w1 0 w1.heap.size (fls_own HS.out hb1 hhi (HO.out.keep h1) fun r hr => List.mem_of_mem_take (List.mem_filter.1 ((mem_allL _ _ _).1 hr)).1) hok hll (Nat.le_refl _)).mono ?_
        rintro e w2 ⟨A1, c1, rfl, ho1, h2⟩
        have HO1 : Hid (Own w2 w.heap.size 96 tFl (.slice A1 (insL (byF ltT) s (allL (byF ltT) ((rl.take k).filter fun r => wayB d fr to_ r.f))).length c1) (allL (byF ltT) ((rl.take (k + 1)).filter fun r => wayB d fr to_ r.f))) := by
          show Own _ _ _ _ _ _
          rw [HN.out, allL_snoc]
          exact ho1.more hb1.size
        clear ho1
        generalize (insL (byF ltT) s (allL (byF ltT) ((rl.take k).filter fun r => wayB d fr to_ r.f))).length = l1 at HO1 ⊢
        go_wp2
        go_roundw
        case rel => exact ⟨k + 1, by omega, by go_num, ⟨_, _, _, rfl, HO1.out⟩, hb1.trans (h2.mono hb1.size)⟩
        case measure => simp [intOf]; omega
      · have HN := Lib.hid (show (rl.take (k + 1)).filter (fun r => wayB d fr to_ r.f) = (rl.take k).filter (fun r => wayB d fr to_ r.f) by
          rw [HX.out, List.filter_append, List.filter_cons_of_neg (by rw [HW.out]; simpa using hall)]; simp)
        have HO1 := Lib.hid (HO.out.keep h1)
        have HALL := Lib.hid hall
        clear hall
        go_wp2
        all_goals first
          | (exfalso; apply HALL.out; refine ⟨by first | rfl | assumption, by first | rfl | assumption, by first | rfl | assumption⟩; done)
          | skip
        all_goals go_roundw
        all_goals first
          | (case rel => exact ⟨k + 1, by omega, by go_num, ⟨_, _, _, rfl, by rw [HN.out]; exact HO1.out⟩, hb1⟩)
          | (case measure => simp [intOf]; omega)
    · obtain rfl : n = k := by omega
      have HF : Hid (rl.take n = rl) := List.take_of_length_le (Nat.le_of_eq HL.out)
      go_wp2
      go_ret
      rw [HF.out] at ho
      exact RetOwn.mk' ho hb
end Go.Proofs.YtlkdefmceghmnaaGreat
