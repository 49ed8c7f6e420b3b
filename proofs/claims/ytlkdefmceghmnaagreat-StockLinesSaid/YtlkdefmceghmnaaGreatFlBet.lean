/- Package flight: Between. -/
import Derived.Test.YtlkdefmceghmnaaGreatFlTab3
namespace Go.Proofs.YtlkdefmceghmnaaGreat
set_option linter.unusedVariables false
open Go Go.RowKit Go.Sort
set_option maxRecDepth 100000 in
set_option maxHeartbeats 8000000 in
theorem tbetween_any (rl : List FlR) (p lo : Nat) (d : Int) (fr to_ : ByteArray) (w : World) (ht : TB w lo p rl) (hnok : Nok (rl.map (·.f))) :
    Calls Tryz.prog 62 #[.pointer (some ⟨p, 0, none⟩), .int .i64 d, .string fr, .string to_] w (RetL w (betwF (rl.map (·.f)) d fr to_)) := by
  obtain ⟨mp, A, n, c, hx, hs, hn, _, _⟩ := ht.open_
  have HS := Lib.hid hs
  have HSM := Lib.hid ht.small
  have HL := Lib.hid hs.sl.len
  have cx := hx.cells
  have HNOK := Lib.hid hnok
  clear hs ht hnok
  go_enter Tryz.func62, Tryz.ntmps62
  go_wp2
  go_loopw [9, 17] (fun v i wr => ∃ k : Nat, k ≤ n ∧ i = .int .i64 k ∧ Col w ((rl.take k).filter fun r => wayB d fr to_ r.f) v wr) (fun _ i _ => n - (intOf i).toNat)
  case atStart => exact ⟨0, by omega, rfl, Col.zero w⟩
  case round =>
    obtain ⟨k, hk, rfl, hC⟩ := hrel
    by_cases hlt : k < n
    · obtain ⟨b0, o0, s, hA, _, _, hx', hok, hcl, d0, d1, d2, d3, d4, d5, d6, d7, d8⟩ := (HS.out.below hC.B (Nat.le_refl _)).at_ hlt
      subst hA
      have HX := Lib.hid (take_snoc' hx'.out)
      have i0 : (0 : Int) ≤ k := by omega
      have i1 : (k : Int) < n := by omega
      have hsn : s.n ≤ 100000 := by have := HSM.out s (List.mem_of_getElem? hx'.out); omega
      have hC2 := hC.step ((Below.refl wr.heap.size wr).alloc (Nat.le_refl _) (.cells #[.string s.f.car, .int .i64 s.f.num, .string s.f.frm, .string s.f.to_, .int .u8 s.f.days, .int .i64 s.f.dep, .int .i64 s.f.arr, .slice s.A s.n s.c, .int .i64 s.f.pln] 96))
      have hbx := Bx.new wr #[.string s.f.car, .int .i64 s.f.num, .string s.f.frm, .string s.f.to_, .int .u8 s.f.days, .int .i64 s.f.dep, .int .i64 s.f.arr, .slice s.A s.n s.c, .int .i64 s.f.pln] 96
      have hCL := Lib.hid (ClAt.below hcl ((Below.refl wr.heap.size wr).alloc (Nat.le_refl _) (.cells #[.string s.f.car, .int .i64 s.f.num, .string s.f.frm, .string s.f.to_, .int .u8 s.f.days, .int .i64 s.f.dep, .int .i64 s.f.arr, .slice s.A s.n s.c, .int .i64 s.f.pln] 96)) hC.B.size)
      have hz := hC.B.size
      have HW := Lib.hid (show wayB d fr to_ s.f = (onB s.f d && (eqTx s.f.frm fr && eqTx s.f.to_ to_)) from rfl)
      have e1 := eqTx_l s.f.frm fr
      have e2 := eqTx_l s.f.to_ to_
      generalize eqTx s.f.frm fr = q1 at e1 HW
      generalize eqTx s.f.to_ to_ = q2 at e2 HW
      clear hcl
      go_wp2_with fail
      refine (flies_any s d _ hok.f.days).mono ?_
      generalize hq : onB s.f d = q0 at HW
      have HQ := Lib.hid hq
      clear hq
      rintro e w1 ⟨rfl, h1⟩
      have hC3 := hC2.step h1
      have hbx1 := hbx.below h1 hbx.lt
      have hz1 : w.heap.size ≤ w1.heap.size := hC3.B.size
      have HCL := Lib.hid (ClAt.below hCL.out (h1.mono (Nat.le_refl _)) (show w.heap.size ≤ _ by simp; omega))
      clear d0 d1 d2 d3 d4 d5 d6 d7 d8 hbx hCL
      have c1 := hbx1.cells
      by_cases hall : q0 = true ∧ q1 = true ∧ q2 = true
      · obtain ⟨rfl, rfl, rfl⟩ := hall
        have HN := Lib.hid (show (rl.take (k + 1)).filter (fun r => wayB d fr to_ r.f) = (rl.take k).filter (fun r => wayB d fr to_ r.f) ++ [s] by rw [HX.out, List.filter_append]; simp [HW.out])
        obtain ⟨out, ho, hm⟩ := hC3.out
        have HO := Lib.hid ho
        have HM := Lib.hid hm
        have hlo : out.length ≤ 100000 := by
          have h1 := congrArg List.length hm
          have h2 := List.length_filter_le (fun r : FlR => wayB d fr to_ r.f) (rl.take k)
          simp only [List.length_map] at h1
          rw [List.length_take] at h2
          omega
        clear ho hm
        go_wp2_with (first
          | (go_at_call 87; refine (copied_any s _ lo w.heap.size hok HCL.out hsn hz1).mono ?_; rintro e w2 ⟨A1, c2, rfl, hsok, hso, h2⟩)
          | (at_builtin; refine push_told rfl (.tmp 36) (.tmp 39) rfl sl_flt rfl (HO.out.keep h2).own (FlR.mk s.f A1 s.n c2) hsok _ rfl rfl (by have := h2.size; omega) (by omega) ?_; intro v' w3 hown' hgr hb'))
        go_roundw
        case rel => exact ⟨k + 1, by omega, by go_num, by rw [HN.out]; exact Col.next HO.out HM.out hC3.B h2 hso hown' hgr hb'⟩
        case measure => simp [intOf]; omega
      · have HN := Lib.hid (show (rl.take (k + 1)).filter (fun r => wayB d fr to_ r.f) = (rl.take k).filter (fun r => wayB d fr to_ r.f) by
          rw [HX.out, List.filter_append, List.filter_cons_of_neg (by rw [HW.out]; simpa using hall)]; simp)
        have HALL := Lib.hid hall
        clear hall
        go_wp2
        all_goals first
          | (exfalso; apply HALL.out; refine ⟨by first | rfl | assumption, by first | rfl | assumption, by first | rfl | assumption⟩; done)
          | skip
        all_goals go_roundw
        all_goals first
          | (case rel => exact ⟨k + 1, by omega, by go_num, by rw [HN.out]; exact hC3⟩)
          | (case measure => simp [intOf]; omega)
    · obtain rfl : n = k := by omega
      have HF : Hid (rl.take n = rl) := List.take_of_length_le (Nat.le_of_eq HL.out)
      rw [HF.out] at hC
      obtain ⟨out, ho, hm⟩ := hC.out
      have hlo : out.length ≤ 100 := by
        have h1 := congrArg List.length hm
        have h2 := List.length_filter_le (fun r : FlR => wayB d fr to_ r.f) rl
        have h3 := HL.out
        simp only [List.length_map] at h1
        omega
      obtain ⟨A9, c9, rfl⟩ := ho.own.form
      have HO := Lib.hid ho
      have HM := Lib.hid hm
      clear hm ho
      generalize out.length = l9 at HO hlo ⊢
      go_wp2_with fail
      refine (sortF_time HO.out (by omega)).mono ?_
      rintro e w1 ⟨rfl, rs, hS⟩
      have HR := Lib.hid (betw_eq (R := rs.map (·.f)) HNOK.out (d := d) (a := fr) (b := to_) (by rw [← filter_f, ← HM.out]; exact hS.perm.map _) (by rw [List.pairwise_map]; exact hS.ris))
      have hB1 := hC.B.grown hS.gr hC.B.size (fun k hk => (HO.out.own.lt k hk).1)
      go_wp2
      go_ret
      exact ⟨_, _, _, rs, rfl, hS.own, HR.out, hB1⟩
end Go.Proofs.YtlkdefmceghmnaaGreat
