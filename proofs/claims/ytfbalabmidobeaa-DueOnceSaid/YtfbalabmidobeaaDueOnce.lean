/- DueOnce: the walk. -/
import Derived.Test.YtfbalabmidobeaaDueB
import Derived.StillTailTactics
namespace Go.Proofs.Ytfbalabmidobeaa
set_option linter.unusedVariables false
open Go Go.RowKit Go.Sort Go.Shelf
set_option maxRecDepth 100000 in
set_option maxHeartbeats 8000000 in
theorem dueOnce_any (l : List DAct) (A : Option Addr) (n c : Nat) (a b : Int) (s : ByteArray) (w : World) (hs : Sl w 0 w.heap.size tDAct A n l) (hok : okStr s) :
    Calls Try.prog 6 #[.slice A n c, .int .i64 a, .int .i64 b, .string s] w (RetB w true) := by
  have HS := Lib.hid hs
  have HOS := Lib.hid hok
  clear hs hok
  by_cases hbig : 200 < n
  · have h1 : (200 : Int) < n := by omega
    clear hbig
    go_enter Try.func6, Try.ntmps6
    go_wp2_with fail
    refine (awake16_any _).mono ?_
    rintro e w1 ⟨rfl, hb1⟩
    go_wp2
    go_ret
    exact ⟨rfl, hb1⟩
  · have h1 : ¬ (200 : Int) < n := by omega
    go_enter Try.func6, Try.ntmps6
    go_wp2_with fail
    refine (awake16_any _).mono ?_
    rintro e w1 ⟨rfl, hb1⟩
    go_wp2_with fail
    refine (new_db hb1).mono ?_
    rintro e w2 ⟨D, rfl, h2⟩
    have H2 := Lib.hid h2
    clear h2 hb1
    go_wp2
    go_loopw [10] (fun i wr => ∃ (k : Nat) (L : List It), k ≤ n ∧ i = .int .i64 k ∧ Hid (L.length ≤ k ∧ ∀ x ∈ L, okStr x.name ∧ isMom x.mom = true) ∧ DB w D L wr) (fun i _ => n - (intOf i).toNat)
    case atStart => exact ⟨0, [], Nat.zero_le _, rfl, ⟨Nat.le_refl _, fun x h => absurd h List.not_mem_nil⟩, H2.out⟩
    case round =>
      clear H2
      obtain ⟨k, L, hk, rfl, HI, hd⟩ := hrel
      have HD := Lib.hid hd
      clear hd
      by_cases hlt : k < n
      · obtain ⟨b', o, x, rfl, _, hb, hx, hok, c0, c1, c2⟩ := HS.out.dact hlt
        have HB := Lib.hid HD.out.b
        replace c1 := (HB.out.cell (p := ⟨b', o + k * 3 + 1, none⟩) hb).trans c1
        replace c2 := (HB.out.cell (p := ⟨b', o + k * 3 + 2, none⟩) hb).trans c2
        have hk0 : (0 : Int) ≤ k := by omega
        have hk1 : (k : Int) < n := by omega
        have hlen : L.length ≤ 200 := by have := HI.out.1; omega
        replace hok := Lib.hid hok
        clear c0
        go_wp2
        go_still_tail 11, (by kernel_rfl)
        go_wp2_with fail
        refine (set_db (W := wr.drew) (HD.out.step ((Below.refl _ _).drew)) (by omega) x.name hok.out.2.2 x.mom rfl rfl).mono ?_
        rintro e w3 ⟨rfl, h3⟩
        have H3 := Lib.hid h3
        clear h3 c1 c2
        go_wp2
        exact ⟨⟨k + 1, stF L x.name x.mom, by omega, by go_num, ⟨Nat.le_trans (stF_len _ _ _) (by have := HI.out.1; omega), fun y hy => mem_stF hy hok.out.2.2 HI.out.2⟩, H3.out⟩, by simp [intOf]; omega⟩
      · obtain rfl : n = k := by omega
        have hL2 : L.length ≤ 200 := by have := HI.out.1; omega
        have hL2i : (L.length : Int) ≤ 200 := by omega
        have HNO : Hid (∀ y ∈ dropF L s, y.name ≠ s) := no_name
        have HRI : Hid (Ris (dropF L s)) := HD.out.d.ris.drop s
        have HOK1 : Hid (∀ x ∈ dropF L s, okStr x.name) := fun x hx => (HI.out.2 x (mem_dropF.1 hx).1).1
        have hl1 : (dropF L s).length ≤ L.length := List.length_filter_le _ _
        have HON : Hid (Once L) := HD.out.d.once
        go_wp2_with fail
        refine (len_n HD.out.d (by omega) rfl).mono ?_
        rintro e w3 ⟨rfl, rfl⟩
        cases hh : hasF L s with
        | true =>
          have hcnt : (L.length : Int) - 1 = (dropF L s).length := by have := length_dropF HON.out hh; omega
          replace hh := Lib.hid hh
          go_wp2_with fail
          refine (drop_dbn HD.out (by omega) s HOS.out hh.out rfl).mono ?_
          rintro e w4 ⟨rfl, h4⟩
          have H4 := Lib.hid h4
          clear h4
          generalize dropF L s = L1 at *
          cases ha : isMom a with
          | false =>
            cases hb : isMom b with
            | false =>
              have HAT : Hid (atF L1 s = none) := atF_none fun y hy => HNO.out y hy
              have HS1 : Hid (stF L1 s a = L1) := by show _ = _; unfold stF; rw [ha]; rfl
              have HS2 : Hid (stF L1 s b = L1) := by show _ = _; unfold stF; rw [hb]; rfl
              replace ha := Lib.hid ha
              replace hb := Lib.hid hb
              go_wp2_with fail
              refine (set_db (c := 1) H4.out (by omega) s HOS.out a (by rw [ha.out]; rfl) HS1.out).mono ?_
              rintro e w5 ⟨rfl, h5⟩
              have H5 := Lib.hid h5
              clear h5
              go_wp2_with fail
              refine (set_db (c := 1) H5.out (by omega) s HOS.out b (by rw [hb.out]; rfl) HS2.out).mono ?_
              rintro e w6 ⟨rfl, h6⟩
              have H6 := Lib.hid h6
              clear h6
              go_wp2_with fail
              refine (at_db H6.out s HOS.out HAT.out).mono ?_
              rintro e w7 ⟨rfl, rfl⟩
              go_wp2_with fail
              refine (len_n H6.out.d (by omega) rfl).mono ?_
              rintro e w8 ⟨rfl, rfl⟩
              go_wp2
              go_ret
              exact ⟨rfl, H6.out.b⟩
            | true =>
              have HQ : Hid (OnceQ L1 s b (stF (stF L1 s a) s b)) := once_b HNO.out HRI.out hb
              have HX : Hid (stF L1 s a = L1) := by show _ = _; unfold stF; rw [ha]; rfl
              have hm1 : 0 ≤ b := by have h := hb; simp [isMom] at h; exact h.1
              have hm2 : b ≤ 527039 := by have h := hb; simp [isMom] at h; exact h.2
              have HXL : Hid ((stF L1 s a).length ≤ 99999) := by have := stF_len L1 s a; show _ ≤ _; omega
              have HC1 : Hid ((if isMom a then (0 : Int) else 1) = 1) := by show _ = _; rw [ha]; rfl
              have HC2 : Hid ((if isMom b then (0 : Int) else 1) = 0) := by show _ = _; rw [hb]; rfl
              clear ha hb
              have hll : L1.length ≤ 200 := by omega
              have hlli : (L1.length : Int) ≤ 200 := by omega
              go_wp2_with fail
              refine (set_db H4.out (by omega) s HOS.out a HC1.out rfl).mono ?_
              rintro e w5 ⟨rfl, h5⟩
              have H5 := Lib.hid h5
              clear h5
              go_wp2_with fail
              refine (set_db H5.out HXL.out s HOS.out b HC2.out rfl).mono ?_
              rintro e w6 ⟨rfl, h6⟩
              have H6 := Lib.hid h6
              clear h6
              have HOK2 : Hid (∀ x ∈ stF (stF L1 s a) s b, okStr x.name) := fun x hx => by
                rw [HQ.out.e] at hx
                rcases (mem_insF _ _ _).1 hx with rfl | hx
                · exact HOS.out
                · exact HOK1.out x hx
              generalize stF (stF L1 s a) s b = L3 at *
              have hl3 : L3.length = L1.length + 1 := HQ.out.len
              have HL3 : Hid (L3.length ≤ 100000) := by show _ ≤ _; omega
              replace hl3 := Lib.hid hl3
              have HAT := Lib.hid HQ.out.at
              go_wp2_with fail
              refine (at_db H6.out s HOS.out HAT.out).mono ?_
              rintro e w7 ⟨rfl, rfl⟩
              go_wp2_with fail
              refine (len_n H6.out.d HL3.out hl3.out).mono ?_
              rintro e w8 ⟨rfl, rfl⟩
              go_wp2_with fail
              refine (ripe_db H6.out HL3.out HOK2.out _).mono ?_
              rintro e w9 ⟨A1, n1, c1, hn1, rfl, s1, h9⟩
              have H9 := Lib.hid h9
              have S1 := Lib.hid s1
              clear h9 s1
              go_wp2_with fail
              refine (in_any _ _ _ _ s _ _ _ S1.out hn1 HQ.out.before).mono ?_
              rintro e w10 ⟨rfl, rfl⟩
              go_wp2_with fail
              refine (ripe_db H9.out HL3.out HOK2.out _).mono ?_
              rintro e w11 ⟨A2, n2, c2, hn2, rfl, s2, h11⟩
              have H11 := Lib.hid h11
              have S2 := Lib.hid s2
              clear h11 s2
              go_wp2_with fail
              refine (in_any _ _ _ _ s _ _ _ S2.out hn2 HQ.out.then_).mono ?_
              rintro e w12 ⟨rfl, rfl⟩
              go_wp2_with fail
              refine (drop_dbn H11.out HL3.out s HOS.out HQ.out.has HQ.out.drop).mono ?_
              rintro e w13 ⟨rfl, h13⟩
              have H13 := Lib.hid h13
              clear h13
              go_wp2_with fail
              refine (drop_dbn H13.out (by omega) s HOS.out (has_no HNO.out) (drop_again HNO.out)).mono ?_
              rintro e w14 ⟨rfl, h14⟩
              have H14 := Lib.hid h14
              clear h14
              go_wp2_with fail
              refine (len_n H14.out.d (by omega) rfl).mono ?_
              rintro e w15 ⟨rfl, rfl⟩
              go_wp2_with fail
              refine (ripe_db H14.out (by omega) HOK1.out _).mono ?_
              rintro e w16 ⟨A3, n3, c3, hn3, rfl, s3, h16⟩
              have H16 := Lib.hid h16
              have S3 := Lib.hid s3
              clear h16 s3
              go_wp2_with fail
              refine (in_any _ _ _ _ s _ _ _ S3.out hn3 (OnceQ.after HNO.out _)).mono ?_
              rintro e w17 ⟨rfl, rfl⟩
              go_wp2
              go_ret
              exact ⟨rfl, H16.out.b⟩

          | true =>
            cases hb : isMom b with
            | false =>
              have HQ : Hid (OnceQ L1 s a (stF (stF L1 s a) s b)) := once_a HNO.out HRI.out ha hb
              have hm1 : 0 ≤ a := by have h := ha; simp [isMom] at h; exact h.1
              have hm2 : a ≤ 527039 := by have h := ha; simp [isMom] at h; exact h.2
              have HXL : Hid ((stF L1 s a).length ≤ 99999) := by have := stF_len L1 s a; show _ ≤ _; omega
              have HC1 : Hid ((if isMom a then (0 : Int) else 1) = 0) := by show _ = _; rw [ha]; rfl
              have HC2 : Hid ((if isMom b then (0 : Int) else 1) = 1) := by show _ = _; rw [hb]; rfl
              clear ha hb
              have hll : L1.length ≤ 200 := by omega
              have hlli : (L1.length : Int) ≤ 200 := by omega
              go_wp2_with fail
              refine (set_db H4.out (by omega) s HOS.out a HC1.out rfl).mono ?_
              rintro e w5 ⟨rfl, h5⟩
              have H5 := Lib.hid h5
              clear h5
              go_wp2_with fail
              refine (set_db H5.out HXL.out s HOS.out b HC2.out rfl).mono ?_
              rintro e w6 ⟨rfl, h6⟩
              have H6 := Lib.hid h6
              clear h6
              have HOK2 : Hid (∀ x ∈ stF (stF L1 s a) s b, okStr x.name) := fun x hx => by
                rw [HQ.out.e] at hx
                rcases (mem_insF _ _ _).1 hx with rfl | hx
                · exact HOS.out
                · exact HOK1.out x hx
              generalize stF (stF L1 s a) s b = L3 at *
              have hl3 : L3.length = L1.length + 1 := HQ.out.len
              have HL3 : Hid (L3.length ≤ 100000) := by show _ ≤ _; omega
              replace hl3 := Lib.hid hl3
              have HAT := Lib.hid HQ.out.at
              go_wp2_with fail
              refine (at_db H6.out s HOS.out HAT.out).mono ?_
              rintro e w7 ⟨rfl, rfl⟩
              go_wp2_with fail
              refine (len_n H6.out.d HL3.out hl3.out).mono ?_
              rintro e w8 ⟨rfl, rfl⟩
              go_wp2_with fail
              refine (ripe_db H6.out HL3.out HOK2.out _).mono ?_
              rintro e w9 ⟨A1, n1, c1, hn1, rfl, s1, h9⟩
              have H9 := Lib.hid h9
              have S1 := Lib.hid s1
              clear h9 s1
              go_wp2_with fail
              refine (in_any _ _ _ _ s _ _ _ S1.out hn1 HQ.out.before).mono ?_
              rintro e w10 ⟨rfl, rfl⟩
              go_wp2_with fail
              refine (ripe_db H9.out HL3.out HOK2.out _).mono ?_
              rintro e w11 ⟨A2, n2, c2, hn2, rfl, s2, h11⟩
              have H11 := Lib.hid h11
              have S2 := Lib.hid s2
              clear h11 s2
              go_wp2_with fail
              refine (in_any _ _ _ _ s _ _ _ S2.out hn2 HQ.out.then_).mono ?_
              rintro e w12 ⟨rfl, rfl⟩
              go_wp2_with fail
              refine (drop_dbn H11.out HL3.out s HOS.out HQ.out.has HQ.out.drop).mono ?_
              rintro e w13 ⟨rfl, h13⟩
              have H13 := Lib.hid h13
              clear h13
              go_wp2_with fail
              refine (drop_dbn H13.out (by omega) s HOS.out (has_no HNO.out) (drop_again HNO.out)).mono ?_
              rintro e w14 ⟨rfl, h14⟩
              have H14 := Lib.hid h14
              clear h14
              go_wp2_with fail
              refine (len_n H14.out.d (by omega) rfl).mono ?_
              rintro e w15 ⟨rfl, rfl⟩
              go_wp2_with fail
              refine (ripe_db H14.out (by omega) HOK1.out _).mono ?_
              rintro e w16 ⟨A3, n3, c3, hn3, rfl, s3, h16⟩
              have H16 := Lib.hid h16
              have S3 := Lib.hid s3
              clear h16 s3
              go_wp2_with fail
              refine (in_any _ _ _ _ s _ _ _ S3.out hn3 (OnceQ.after HNO.out _)).mono ?_
              rintro e w17 ⟨rfl, rfl⟩
              go_wp2
              go_ret
              exact ⟨rfl, H16.out.b⟩

            | true =>
              have HQ : Hid (OnceQ L1 s b (stF (stF L1 s a) s b)) := once_b HNO.out HRI.out hb
              have hm1 : 0 ≤ b := by have h := hb; simp [isMom] at h; exact h.1
              have hm2 : b ≤ 527039 := by have h := hb; simp [isMom] at h; exact h.2
              have HXL : Hid ((stF L1 s a).length ≤ 99999) := by have := stF_len L1 s a; show _ ≤ _; omega
              have HC1 : Hid ((if isMom a then (0 : Int) else 1) = 0) := by show _ = _; rw [ha]; rfl
              have HC2 : Hid ((if isMom b then (0 : Int) else 1) = 0) := by show _ = _; rw [hb]; rfl
              clear ha hb
              have hll : L1.length ≤ 200 := by omega
              have hlli : (L1.length : Int) ≤ 200 := by omega
              go_wp2_with fail
              refine (set_db H4.out (by omega) s HOS.out a HC1.out rfl).mono ?_
              rintro e w5 ⟨rfl, h5⟩
              have H5 := Lib.hid h5
              clear h5
              go_wp2_with fail
              refine (set_db H5.out HXL.out s HOS.out b HC2.out rfl).mono ?_
              rintro e w6 ⟨rfl, h6⟩
              have H6 := Lib.hid h6
              clear h6
              have HOK2 : Hid (∀ x ∈ stF (stF L1 s a) s b, okStr x.name) := fun x hx => by
                rw [HQ.out.e] at hx
                rcases (mem_insF _ _ _).1 hx with rfl | hx
                · exact HOS.out
                · exact HOK1.out x hx
              generalize stF (stF L1 s a) s b = L3 at *
              have hl3 : L3.length = L1.length + 1 := HQ.out.len
              have HL3 : Hid (L3.length ≤ 100000) := by show _ ≤ _; omega
              replace hl3 := Lib.hid hl3
              have HAT := Lib.hid HQ.out.at
              go_wp2_with fail
              refine (at_db H6.out s HOS.out HAT.out).mono ?_
              rintro e w7 ⟨rfl, rfl⟩
              go_wp2_with fail
              refine (len_n H6.out.d HL3.out hl3.out).mono ?_
              rintro e w8 ⟨rfl, rfl⟩
              go_wp2_with fail
              refine (ripe_db H6.out HL3.out HOK2.out _).mono ?_
              rintro e w9 ⟨A1, n1, c1, hn1, rfl, s1, h9⟩
              have H9 := Lib.hid h9
              have S1 := Lib.hid s1
              clear h9 s1
              go_wp2_with fail
              refine (in_any _ _ _ _ s _ _ _ S1.out hn1 HQ.out.before).mono ?_
              rintro e w10 ⟨rfl, rfl⟩
              go_wp2_with fail
              refine (ripe_db H9.out HL3.out HOK2.out _).mono ?_
              rintro e w11 ⟨A2, n2, c2, hn2, rfl, s2, h11⟩
              have H11 := Lib.hid h11
              have S2 := Lib.hid s2
              clear h11 s2
              go_wp2_with fail
              refine (in_any _ _ _ _ s _ _ _ S2.out hn2 HQ.out.then_).mono ?_
              rintro e w12 ⟨rfl, rfl⟩
              go_wp2_with fail
              refine (drop_dbn H11.out HL3.out s HOS.out HQ.out.has HQ.out.drop).mono ?_
              rintro e w13 ⟨rfl, h13⟩
              have H13 := Lib.hid h13
              clear h13
              go_wp2_with fail
              refine (drop_dbn H13.out (by omega) s HOS.out (has_no HNO.out) (drop_again HNO.out)).mono ?_
              rintro e w14 ⟨rfl, h14⟩
              have H14 := Lib.hid h14
              clear h14
              go_wp2_with fail
              refine (len_n H14.out.d (by omega) rfl).mono ?_
              rintro e w15 ⟨rfl, rfl⟩
              go_wp2_with fail
              refine (ripe_db H14.out (by omega) HOK1.out _).mono ?_
              rintro e w16 ⟨A3, n3, c3, hn3, rfl, s3, h16⟩
              have H16 := Lib.hid h16
              have S3 := Lib.hid s3
              clear h16 s3
              go_wp2_with fail
              refine (in_any _ _ _ _ s _ _ _ S3.out hn3 (OnceQ.after HNO.out _)).mono ?_
              rintro e w17 ⟨rfl, rfl⟩
              go_wp2
              go_ret
              exact ⟨rfl, H16.out.b⟩

        | false =>
          have hcnt : (L.length : Int) = (dropF L s).length := by rw [dropF_none hh]
          replace hh := Lib.hid hh
          go_wp2_with fail
          refine (drop_dbn HD.out (by omega) s HOS.out hh.out rfl).mono ?_
          rintro e w4 ⟨rfl, h4⟩
          have H4 := Lib.hid h4
          clear h4
          generalize dropF L s = L1 at *
          cases ha : isMom a with
          | false =>
            cases hb : isMom b with
            | false =>
              have HAT : Hid (atF L1 s = none) := atF_none fun y hy => HNO.out y hy
              have HS1 : Hid (stF L1 s a = L1) := by show _ = _; unfold stF; rw [ha]; rfl
              have HS2 : Hid (stF L1 s b = L1) := by show _ = _; unfold stF; rw [hb]; rfl
              replace ha := Lib.hid ha
              replace hb := Lib.hid hb
              go_wp2_with fail
              refine (set_db (c := 1) H4.out (by omega) s HOS.out a (by rw [ha.out]; rfl) HS1.out).mono ?_
              rintro e w5 ⟨rfl, h5⟩
              have H5 := Lib.hid h5
              clear h5
              go_wp2_with fail
              refine (set_db (c := 1) H5.out (by omega) s HOS.out b (by rw [hb.out]; rfl) HS2.out).mono ?_
              rintro e w6 ⟨rfl, h6⟩
              have H6 := Lib.hid h6
              clear h6
              go_wp2_with fail
              refine (at_db H6.out s HOS.out HAT.out).mono ?_
              rintro e w7 ⟨rfl, rfl⟩
              go_wp2_with fail
              refine (len_n H6.out.d (by omega) rfl).mono ?_
              rintro e w8 ⟨rfl, rfl⟩
              go_wp2
              go_ret
              exact ⟨rfl, H6.out.b⟩
            | true =>
              have HQ : Hid (OnceQ L1 s b (stF (stF L1 s a) s b)) := once_b HNO.out HRI.out hb
              have HX : Hid (stF L1 s a = L1) := by show _ = _; unfold stF; rw [ha]; rfl
              have hm1 : 0 ≤ b := by have h := hb; simp [isMom] at h; exact h.1
              have hm2 : b ≤ 527039 := by have h := hb; simp [isMom] at h; exact h.2
              have HXL : Hid ((stF L1 s a).length ≤ 99999) := by have := stF_len L1 s a; show _ ≤ _; omega
              have HC1 : Hid ((if isMom a then (0 : Int) else 1) = 1) := by show _ = _; rw [ha]; rfl
              have HC2 : Hid ((if isMom b then (0 : Int) else 1) = 0) := by show _ = _; rw [hb]; rfl
              clear ha hb
              have hll : L1.length ≤ 200 := by omega
              have hlli : (L1.length : Int) ≤ 200 := by omega
              go_wp2_with fail
              refine (set_db H4.out (by omega) s HOS.out a HC1.out rfl).mono ?_
              rintro e w5 ⟨rfl, h5⟩
              have H5 := Lib.hid h5
              clear h5
              go_wp2_with fail
              refine (set_db H5.out HXL.out s HOS.out b HC2.out rfl).mono ?_
              rintro e w6 ⟨rfl, h6⟩
              have H6 := Lib.hid h6
              clear h6
              have HOK2 : Hid (∀ x ∈ stF (stF L1 s a) s b, okStr x.name) := fun x hx => by
                rw [HQ.out.e] at hx
                rcases (mem_insF _ _ _).1 hx with rfl | hx
                · exact HOS.out
                · exact HOK1.out x hx
              generalize stF (stF L1 s a) s b = L3 at *
              have hl3 : L3.length = L1.length + 1 := HQ.out.len
              have HL3 : Hid (L3.length ≤ 100000) := by show _ ≤ _; omega
              replace hl3 := Lib.hid hl3
              have HAT := Lib.hid HQ.out.at
              go_wp2_with fail
              refine (at_db H6.out s HOS.out HAT.out).mono ?_
              rintro e w7 ⟨rfl, rfl⟩
              go_wp2_with fail
              refine (len_n H6.out.d HL3.out hl3.out).mono ?_
              rintro e w8 ⟨rfl, rfl⟩
              go_wp2_with fail
              refine (ripe_db H6.out HL3.out HOK2.out _).mono ?_
              rintro e w9 ⟨A1, n1, c1, hn1, rfl, s1, h9⟩
              have H9 := Lib.hid h9
              have S1 := Lib.hid s1
              clear h9 s1
              go_wp2_with fail
              refine (in_any _ _ _ _ s _ _ _ S1.out hn1 HQ.out.before).mono ?_
              rintro e w10 ⟨rfl, rfl⟩
              go_wp2_with fail
              refine (ripe_db H9.out HL3.out HOK2.out _).mono ?_
              rintro e w11 ⟨A2, n2, c2, hn2, rfl, s2, h11⟩
              have H11 := Lib.hid h11
              have S2 := Lib.hid s2
              clear h11 s2
              go_wp2_with fail
              refine (in_any _ _ _ _ s _ _ _ S2.out hn2 HQ.out.then_).mono ?_
              rintro e w12 ⟨rfl, rfl⟩
              go_wp2_with fail
              refine (drop_dbn H11.out HL3.out s HOS.out HQ.out.has HQ.out.drop).mono ?_
              rintro e w13 ⟨rfl, h13⟩
              have H13 := Lib.hid h13
              clear h13
              go_wp2_with fail
              refine (drop_dbn H13.out (by omega) s HOS.out (has_no HNO.out) (drop_again HNO.out)).mono ?_
              rintro e w14 ⟨rfl, h14⟩
              have H14 := Lib.hid h14
              clear h14
              go_wp2_with fail
              refine (len_n H14.out.d (by omega) rfl).mono ?_
              rintro e w15 ⟨rfl, rfl⟩
              go_wp2_with fail
              refine (ripe_db H14.out (by omega) HOK1.out _).mono ?_
              rintro e w16 ⟨A3, n3, c3, hn3, rfl, s3, h16⟩
              have H16 := Lib.hid h16
              have S3 := Lib.hid s3
              clear h16 s3
              go_wp2_with fail
              refine (in_any _ _ _ _ s _ _ _ S3.out hn3 (OnceQ.after HNO.out _)).mono ?_
              rintro e w17 ⟨rfl, rfl⟩
              go_wp2
              go_ret
              exact ⟨rfl, H16.out.b⟩

          | true =>
            cases hb : isMom b with
            | false =>
              have HQ : Hid (OnceQ L1 s a (stF (stF L1 s a) s b)) := once_a HNO.out HRI.out ha hb
              have hm1 : 0 ≤ a := by have h := ha; simp [isMom] at h; exact h.1
              have hm2 : a ≤ 527039 := by have h := ha; simp [isMom] at h; exact h.2
              have HXL : Hid ((stF L1 s a).length ≤ 99999) := by have := stF_len L1 s a; show _ ≤ _; omega
              have HC1 : Hid ((if isMom a then (0 : Int) else 1) = 0) := by show _ = _; rw [ha]; rfl
              have HC2 : Hid ((if isMom b then (0 : Int) else 1) = 1) := by show _ = _; rw [hb]; rfl
              clear ha hb
              have hll : L1.length ≤ 200 := by omega
              have hlli : (L1.length : Int) ≤ 200 := by omega
              go_wp2_with fail
              refine (set_db H4.out (by omega) s HOS.out a HC1.out rfl).mono ?_
              rintro e w5 ⟨rfl, h5⟩
              have H5 := Lib.hid h5
              clear h5
              go_wp2_with fail
              refine (set_db H5.out HXL.out s HOS.out b HC2.out rfl).mono ?_
              rintro e w6 ⟨rfl, h6⟩
              have H6 := Lib.hid h6
              clear h6
              have HOK2 : Hid (∀ x ∈ stF (stF L1 s a) s b, okStr x.name) := fun x hx => by
                rw [HQ.out.e] at hx
                rcases (mem_insF _ _ _).1 hx with rfl | hx
                · exact HOS.out
                · exact HOK1.out x hx
              generalize stF (stF L1 s a) s b = L3 at *
              have hl3 : L3.length = L1.length + 1 := HQ.out.len
              have HL3 : Hid (L3.length ≤ 100000) := by show _ ≤ _; omega
              replace hl3 := Lib.hid hl3
              have HAT := Lib.hid HQ.out.at
              go_wp2_with fail
              refine (at_db H6.out s HOS.out HAT.out).mono ?_
              rintro e w7 ⟨rfl, rfl⟩
              go_wp2_with fail
              refine (len_n H6.out.d HL3.out hl3.out).mono ?_
              rintro e w8 ⟨rfl, rfl⟩
              go_wp2_with fail
              refine (ripe_db H6.out HL3.out HOK2.out _).mono ?_
              rintro e w9 ⟨A1, n1, c1, hn1, rfl, s1, h9⟩
              have H9 := Lib.hid h9
              have S1 := Lib.hid s1
              clear h9 s1
              go_wp2_with fail
              refine (in_any _ _ _ _ s _ _ _ S1.out hn1 HQ.out.before).mono ?_
              rintro e w10 ⟨rfl, rfl⟩
              go_wp2_with fail
              refine (ripe_db H9.out HL3.out HOK2.out _).mono ?_
              rintro e w11 ⟨A2, n2, c2, hn2, rfl, s2, h11⟩
              have H11 := Lib.hid h11
              have S2 := Lib.hid s2
              clear h11 s2
              go_wp2_with fail
              refine (in_any _ _ _ _ s _ _ _ S2.out hn2 HQ.out.then_).mono ?_
              rintro e w12 ⟨rfl, rfl⟩
              go_wp2_with fail
              refine (drop_dbn H11.out HL3.out s HOS.out HQ.out.has HQ.out.drop).mono ?_
              rintro e w13 ⟨rfl, h13⟩
              have H13 := Lib.hid h13
              clear h13
              go_wp2_with fail
              refine (drop_dbn H13.out (by omega) s HOS.out (has_no HNO.out) (drop_again HNO.out)).mono ?_
              rintro e w14 ⟨rfl, h14⟩
              have H14 := Lib.hid h14
              clear h14
              go_wp2_with fail
              refine (len_n H14.out.d (by omega) rfl).mono ?_
              rintro e w15 ⟨rfl, rfl⟩
              go_wp2_with fail
              refine (ripe_db H14.out (by omega) HOK1.out _).mono ?_
              rintro e w16 ⟨A3, n3, c3, hn3, rfl, s3, h16⟩
              have H16 := Lib.hid h16
              have S3 := Lib.hid s3
              clear h16 s3
              go_wp2_with fail
              refine (in_any _ _ _ _ s _ _ _ S3.out hn3 (OnceQ.after HNO.out _)).mono ?_
              rintro e w17 ⟨rfl, rfl⟩
              go_wp2
              go_ret
              exact ⟨rfl, H16.out.b⟩

            | true =>
              have HQ : Hid (OnceQ L1 s b (stF (stF L1 s a) s b)) := once_b HNO.out HRI.out hb
              have hm1 : 0 ≤ b := by have h := hb; simp [isMom] at h; exact h.1
              have hm2 : b ≤ 527039 := by have h := hb; simp [isMom] at h; exact h.2
              have HXL : Hid ((stF L1 s a).length ≤ 99999) := by have := stF_len L1 s a; show _ ≤ _; omega
              have HC1 : Hid ((if isMom a then (0 : Int) else 1) = 0) := by show _ = _; rw [ha]; rfl
              have HC2 : Hid ((if isMom b then (0 : Int) else 1) = 0) := by show _ = _; rw [hb]; rfl
              clear ha hb
              have hll : L1.length ≤ 200 := by omega
              have hlli : (L1.length : Int) ≤ 200 := by omega
              go_wp2_with fail
              refine (set_db H4.out (by omega) s HOS.out a HC1.out rfl).mono ?_
              rintro e w5 ⟨rfl, h5⟩
              have H5 := Lib.hid h5
              clear h5
              go_wp2_with fail
              refine (set_db H5.out HXL.out s HOS.out b HC2.out rfl).mono ?_
              rintro e w6 ⟨rfl, h6⟩
              have H6 := Lib.hid h6
              clear h6
              have HOK2 : Hid (∀ x ∈ stF (stF L1 s a) s b, okStr x.name) := fun x hx => by
                rw [HQ.out.e] at hx
                rcases (mem_insF _ _ _).1 hx with rfl | hx
                · exact HOS.out
                · exact HOK1.out x hx
              generalize stF (stF L1 s a) s b = L3 at *
              have hl3 : L3.length = L1.length + 1 := HQ.out.len
              have HL3 : Hid (L3.length ≤ 100000) := by show _ ≤ _; omega
              replace hl3 := Lib.hid hl3
              have HAT := Lib.hid HQ.out.at
              go_wp2_with fail
              refine (at_db H6.out s HOS.out HAT.out).mono ?_
              rintro e w7 ⟨rfl, rfl⟩
              go_wp2_with fail
              refine (len_n H6.out.d HL3.out hl3.out).mono ?_
              rintro e w8 ⟨rfl, rfl⟩
              go_wp2_with fail
              refine (ripe_db H6.out HL3.out HOK2.out _).mono ?_
              rintro e w9 ⟨A1, n1, c1, hn1, rfl, s1, h9⟩
              have H9 := Lib.hid h9
              have S1 := Lib.hid s1
              clear h9 s1
              go_wp2_with fail
              refine (in_any _ _ _ _ s _ _ _ S1.out hn1 HQ.out.before).mono ?_
              rintro e w10 ⟨rfl, rfl⟩
              go_wp2_with fail
              refine (ripe_db H9.out HL3.out HOK2.out _).mono ?_
              rintro e w11 ⟨A2, n2, c2, hn2, rfl, s2, h11⟩
              have H11 := Lib.hid h11
              have S2 := Lib.hid s2
              clear h11 s2
              go_wp2_with fail
              refine (in_any _ _ _ _ s _ _ _ S2.out hn2 HQ.out.then_).mono ?_
              rintro e w12 ⟨rfl, rfl⟩
              go_wp2_with fail
              refine (drop_dbn H11.out HL3.out s HOS.out HQ.out.has HQ.out.drop).mono ?_
              rintro e w13 ⟨rfl, h13⟩
              have H13 := Lib.hid h13
              clear h13
              go_wp2_with fail
              refine (drop_dbn H13.out (by omega) s HOS.out (has_no HNO.out) (drop_again HNO.out)).mono ?_
              rintro e w14 ⟨rfl, h14⟩
              have H14 := Lib.hid h14
              clear h14
              go_wp2_with fail
              refine (len_n H14.out.d (by omega) rfl).mono ?_
              rintro e w15 ⟨rfl, rfl⟩
              go_wp2_with fail
              refine (ripe_db H14.out (by omega) HOK1.out _).mono ?_
              rintro e w16 ⟨A3, n3, c3, hn3, rfl, s3, h16⟩
              have H16 := Lib.hid h16
              have S3 := Lib.hid s3
              clear h16 s3
              go_wp2_with fail
              refine (in_any _ _ _ _ s _ _ _ S3.out hn3 (OnceQ.after HNO.out _)).mono ?_
              rintro e w17 ⟨rfl, rfl⟩
              go_wp2
              go_ret
              exact ⟨rfl, H16.out.b⟩
end Go.Proofs.Ytfbalabmidobeaa
