/- DueTake: the walk. -/
import Derived.Test.YtfbalabmidobeaaDueA
import Derived.StillTailTactics
import Derived.IntWalk
import Derived.Deep.RegionWith
import Derived.BigRegion
namespace Go.Proofs.Ytfbalabmidobeaa
set_option linter.unusedVariables false
open Go Go.RowKit Go.Sort Go.Shelf
set_option maxRecDepth 100000 in
set_option maxHeartbeats 8000000 in
theorem dueTake_any (l : List DAct) (A : Option Addr) (n c : Nat) (now : Int) (w : World) (hs : Sl w 0 w.heap.size tDAct A n l) :
    Calls Try.prog 3 #[.slice A n c, .int .i64 now] w (RetB w true) := by
  have HS := Lib.hid hs
  clear hs
  by_cases hbig : 200 < n
  · have h1 : (200 : Int) < n := by omega
    clear hbig
    go_enter Try.func3, Try.ntmps3
    go_wp2_with fail
    refine (awake16_any _).mono ?_
    rintro e w1 ⟨rfl, hb1⟩
    go_wp2
    go_ret
    exact ⟨rfl, hb1⟩
  · have h1 : ¬ (200 : Int) < n := by omega
    go_enter Try.func3, Try.ntmps3
    go_wp2_with fail
    refine (awake16_any _).mono ?_
    rintro e w1 ⟨rfl, hb1⟩
    go_wp2_with fail
    refine (new_db hb1).mono ?_
    rintro e w2 ⟨D, rfl, h2⟩
    have H2 := Lib.hid h2
    clear h2 hb1
    go_wp2
    go_loopw [6] (fun i wr => ∃ (k : Nat) (L : List It), k ≤ n ∧ i = .int .i64 k ∧ Hid (L.length ≤ k ∧ ∀ x ∈ L, okStr x.name ∧ isMom x.mom = true) ∧ DB w D L wr) (fun i _ => n - (intOf i).toNat)
    case atStart => exact ⟨0, [], Nat.zero_le _, rfl, ⟨Nat.le_refl _, fun x h => absurd h List.not_mem_nil⟩, H2.out⟩
    case round =>
      clear H2
      obtain ⟨k, L, hk, rfl, HI, hd⟩ := hrel
      have HD := Lib.hid hd
      clear hd
      by_cases hlt : k < n
      · obtain ⟨b, o, x, rfl, _, hb, hx, hok, c0, c1, c2⟩ := HS.out.dact hlt
        have HB := Lib.hid HD.out.b
        replace c0 := (HB.out.cell (p := ⟨b, o + k * 3, none⟩) hb).trans c0
        replace c1 := (HB.out.cell (p := ⟨b, o + k * 3 + 1, none⟩) hb).trans c1
        replace c2 := (HB.out.cell (p := ⟨b, o + k * 3 + 2, none⟩) hb).trans c2
        have hk0 : (0 : Int) ≤ k := by omega
        have hk1 : (k : Int) < n := by omega
        have hlen : L.length ≤ 200 := by have := HI.out.1; omega
        replace hok := Lib.hid hok
        by_cases h1 : x.kind = 1
        · have q1 : (x.kind == 1) = true := by rw [beq_iff_eq]; exact h1
          clear h1
          go_wp2_with fail
          refine (drop_db HD.out (by omega) x.name hok.out.2.2).mono ?_
          rintro e w3 ⟨rfl, h3⟩
          have H3 := Lib.hid h3
          clear h3 c0 c1 c2
          go_wp2
          exact ⟨⟨k + 1, dropF L x.name, by omega, by go_num, ⟨Nat.le_trans (List.length_filter_le _ _) (by have := HI.out.1; omega), fun y hy => HI.out.2 y (mem_dropF.1 hy).1⟩, H3.out⟩, by simp [intOf]; omega⟩
        · have q1 : (x.kind == 1) = false := by rw [beq_eq_false_iff_ne]; exact h1
          clear h1
          go_wp2
          go_still_tail 11, (by kernel_rfl)
          go_wp2_with fail
          refine (set_db (W := wr.drew) (HD.out.step ((Below.refl _ _).drew)) (by omega) x.name hok.out.2.2 x.mom rfl rfl).mono ?_
          rintro e w3 ⟨rfl, h3⟩
          have H3 := Lib.hid h3
          clear h3 c0 c1 c2
          go_wp2
          exact ⟨⟨k + 1, stF L x.name x.mom, by omega, by go_num, ⟨Nat.le_trans (stF_len _ _ _) (by have := HI.out.1; omega), fun y hy => mem_stF hy hok.out.2.2 HI.out.2⟩, H3.out⟩, by simp [intOf]; omega⟩
      · obtain rfl : n = k := by omega
        have hL2 : L.length ≤ 200 := by have := HI.out.1; omega
        have hLi : (L.length : Int) ≤ 200 := by omega
        have HOK : Hid (∀ x ∈ L, okStr x.name) := fun x hx => (HI.out.2 x hx).1
        have HALL : Hid (ripeF L 527039 = L) := ripe_all fun x hx => (HI.out.2 x hx).2
        have hrl : (ripeF L now).length ≤ L.length := (List.takeWhile_sublist _).length_le
        have HRR : Hid (ripeF L now ++ restF L now = L) := ripe_rest L now
        have HRN : Hid (ripeF (restF L now) now = []) := (rest_facts now L).1
        have HNX : Hid (restF L now = [] ∨ now < ((restF L now).headD ⟨⟨#[]⟩, 0⟩).mom) := (rest_facts now L).2
        have HRA : Hid (ripeF (restF L now) 527039 = restF L now) := ripe_all fun x hx => (HI.out.2 x ((List.dropWhile_sublist _).subset hx)).2
        have HOKR : Hid (∀ x ∈ restF L now, okStr x.name) := fun x hx => (HI.out.2 x ((List.dropWhile_sublist _).subset hx)).1
        have hd0 := HD.out.d
        have B0 := HD.out.b
        have hS0 : ∀ b, SB w.heap.size wr b → b < wr.heap.size := SB.lt
        have hSB : ∀ b, SB w.heap.size wr b → w.heap.size ≤ b := fun b h => h.1
        generalize SB w.heap.size wr = S at hd0 hS0 hSB
        generalize hrq : ripeF L now = rp at *
        generalize hrt : restF L now = rs at *
        generalize hrn : rp.length = nr at *
        have hsl : rs.length + nr = L.length := by rw [← HRR.out, List.length_append]; omega
        replace hrq := Lib.hid hrq
        replace hrt := Lib.hid hrt
        replace hrn := Lib.hid hrn
        replace hsl := Lib.hid hsl
        replace hd0 := Lib.hid hd0
        replace hS0 := Lib.hid hS0
        replace hSB := Lib.hid hSB
        replace B0 := Lib.hid B0
        clear HI
        generalize hLn : L.length = nL at *
        replace hLn := Lib.hid hLn
        go_wp2_with fail
        refine (ripe_n hd0.out hS0.out (by have := hLn.out; omega) HOK.out 527039 HALL.out hLn.out).mono ?_
        rintro e w3 ⟨Aa, ca, rfl, oa, b3⟩
        have OA := Lib.hid oa
        have D3 := Lib.hid (hd0.out.step b3)
        have S3 := Lib.hid (fun b h => Nat.lt_of_lt_of_le (hS0.out b h) b3.size)
        have B3 := Lib.hid (RetB.step B0.out b3)
        have LA := own_le oa
        have z3 := b3.size
        clear oa b3
        go_wp2_with fail
        refine (ripe_n D3.out S3.out (by have := hLn.out; omega) HOK.out now hrq.out hrn.out).mono ?_
        rintro e w4 ⟨Ar, cr, rfl, or_, b4⟩
        have OR := Lib.hid or_
        have OA4 := Lib.hid (OA.out.keep b4)
        have D4 := Lib.hid (D3.out.step b4)
        have S4 := Lib.hid (fun b h => Nat.lt_of_lt_of_le (S3.out b h) b4.size)
        have B4 := Lib.hid (RetB.step B3.out b4)
        have LR := own_le or_
        have z4 := b4.size
        clear or_ b4 OA
        go_wp2_with fail
        refine (len_any D4.out (by have := hLn.out; omega)).mono ?_
        rintro e w5 ⟨rfl, rfl⟩
        have hca1 : (nr : Int) ≤ ca := by have := LA.1; omega
        have hca2 : (ca : Int) ≤ 9223372036854775807 := by have := LA.2.1; unfold maxLen at this; omega
        have hnr : (nr : Int) ≤ 200 := by omega
        have hnl : (nr : Int) ≤ nL := by omega
        have HLA := Lib.hid LA
        have HLR := Lib.hid LR
        have q1 : ((nL : Int) != (nL : Int)) = false := by simp
        rw [hLn.out]
        clear LA LR
        go_wp2_with fail
        have HTK : Hid ((L.map (·.name)).take nr = rp.map (·.name)) := by
          show _ = _
          rw [← HRR.out, List.map_append, List.take_append_of_le_length (by rw [List.length_map, hrn.out]; exact Nat.le_refl _), List.take_of_length_le (by rw [List.length_map, hrn.out]; exact Nat.le_refl _)]
        have HDK : Hid ((L.map (·.name)).drop nr = rs.map (·.name)) := by
          show _ = _
          rw [← HRR.out, List.map_append, List.drop_append_of_le_length (by rw [List.length_map, hrn.out]; exact Nat.le_refl _), List.drop_of_length_le (by rw [List.length_map, hrn.out]; exact Nat.le_refl _), List.nil_append]
        refine (texts_same OR.out.sl (by have h := (OA4.out.sl).take_ (k := nr) (by omega); rw [HTK.out] at h; exact h) (by omega) (Nat.le_refl _) (Nat.le_refl _)).mono ?_
        rintro e w5 ⟨rfl, b5⟩
        have OR5 := Lib.hid (OR.out.keep b5)
        have OA5 := Lib.hid (OA4.out.keep b5)
        have D5 := Lib.hid (D4.out.step b5)
        have S5 := Lib.hid (fun b h => Nat.lt_of_lt_of_le (S4.out b h) b5.size)
        have B5 := Lib.hid (RetB.step B4.out b5)
        have z5 := b5.size
        clear b5 OR OA4
        go_wp2_with fail
        refine (take_n D5.out S5.out (by have := hLn.out; omega) HOK.out now hrq.out hrt.out hrn.out).mono ?_
        rintro e w6 ⟨At, ct, rfl, ot, d6, k6⟩
        have OT := Lib.hid ot
        have OR6 := Lib.hid (OR5.out.kp k6 fun b h => by have := hS0.out b h; omega)
        have OA6 := Lib.hid (OA5.out.kp k6 fun b h => hS0.out b h)
        have D6 := Lib.hid d6
        have S6 := Lib.hid (fun b h => Nat.lt_of_lt_of_le (S5.out b h) k6.size)
        have B6 := Lib.hid (k6.below B5.out (Nat.le_refl _) fun b _ h => hSB.out b h)
        have z6 := k6.size
        clear ot d6 k6 OR5 OA5
        go_wp2_with fail
        refine (texts_same OT.out.sl OR6.out.sl (by omega) (Nat.le_refl _) (Nat.le_refl _)).mono ?_
        rintro e w7 ⟨rfl, b7⟩
        have OA7 := Lib.hid (OA6.out.keep b7)
        have D7 := Lib.hid (D6.out.step b7)
        have S7 := Lib.hid (fun b h => Nat.lt_of_lt_of_le (S6.out b h) b7.size)
        have B7 := Lib.hid (RetB.step B6.out b7)
        have z7 := b7.size
        clear b7 OT OR6 OA6
        have hrs : rs.length ≤ 200 := by have := hsl.out; omega
        go_wp2_with fail
        have HMV : Hid (rs = [] ∨ now < (rs.headD ⟨⟨#[]⟩, 0⟩).mom) := HNX.out
        generalize hmv : (rs.headD ⟨⟨#[]⟩, 0⟩).mom = mv at HMV
        generalize hbq : decide (0 < rs.length) = bq
        have HBQ : Hid (bq = false ∨ now < mv) := by
          rcases HMV.out with h | h
          · exact .inl (by rw [← hbq, h]; rfl)
          · exact .inr h
        replace hmv := Lib.hid hmv
        replace hbq := Lib.hid hbq
        refine (next_n D7.out (by omega) hmv.out hbq.out).mono ?_
        rintro e w8 ⟨rfl, rfl⟩
        clear HMV HNX
        have hnt : Hid (rs.length = nL - nr) := by show _ = _; have := hsl.out; omega
        have hnt2 : ((nL - nr : Nat) : Int) ≤ 200 := by omega
        have hsub : IntKind.i64.wrap ((nL : Int) - (nr : Int)) = ((nL - nr : Nat) : Int) := by
          rw [show (nL : Int) - (nr : Int) = ((nL - nr : Nat) : Int) by omega]
          exact IntWalk.i64_in _ (by omega)
        have q5 : (((nL - nr : Nat) : Int) == ((nL - nr : Nat) : Int)) = true := by simp
        have HAC : Hid (nr = ca → nL - nr = 0 ∧ nL = ca) := fun h => by have := HLA.out.1; omega
        have HAN : Hid (¬ nr = ca → ∃ g, Aa = some ⟨g, 0, none⟩) := fun h => by
          cases Aa with
          | none => have := HLA.out.2.2.1 rfl; have := HLA.out.1; omega
          | some a => obtain ⟨g, cur, h1, _⟩ := OA7.out.open_; exact ⟨g, congrArg some h1⟩
        have hcn : (nL : Int) ≤ ca := by have := HLA.out.1; omega
        have HMN : Hid (bq = true → now < mv) := fun h => by rcases HBQ.out with h2 | h2; rw [h] at h2; cases h2; exact h2
        go_wp2_with fail
        by_cases hc : nr = ca
        · obtain ⟨_, hc2⟩ := HAC.out hc
          subst hc
          subst hc2
          have hnt : Hid (rs.length = 0) := by have h := hnt.out; rw [Nat.sub_self] at h; exact h
          have HR0 : Hid (rs.map (·.name) = []) := by show rs.map (·.name) = []; rw [List.eq_nil_of_length_eq_zero hnt.out]; rfl
          clear hsub hnt2 q5 HAC HAN hca1 hnl hcn hrl q1
          cases bq with
          | false =>
            refine wp_region_held_drew (S := fun _ => True) (by kernel_rfl) trivial (fun _ => ?_)
            refine wpAnyH_take (i := 0) (oi := { dst := some 88, op := Op.move (Operand.tmp 5), type := 24, pos := "law.go:189", after := #[], guard := none }) (v := ?_) rfl (by kernel_rfl) (by kernel_rfl) (by kernel_rfl) (fun _ _ _ h => h) (Or.inl ⟨by rfl, ?_⟩) trivial ?_
            rotate_left
            · intro w9 hSw9; go_simp; try with_reducible rfl
            try simp only [Act.put]
            try simp only [List.setIfInBounds_toArray]
            try simp only [List.set_cons_zero]
            try simp only [List.set_cons_succ, List.set_cons_zero]
            refine wpAnyH_take (i := 2) (oi := { dst := some 90, op := Op.move (Operand.tmp 9), type := 3, pos := "law.go:189", after := #[], guard := none }) (v := ?_) rfl (by kernel_rfl) (by kernel_rfl) (by kernel_rfl) (fun _ _ _ h => h) (Or.inl ⟨by rfl, ?_⟩) trivial ?_
            rotate_left
            · intro w9 hSw9; go_simp; try with_reducible rfl
            try simp only [Act.put]
            try simp only [List.setIfInBounds_toArray]
            try simp only [List.set_cons_zero]
            try simp only [List.set_cons_succ, List.set_cons_zero]
            refine wpAnyH_take (i := 3) (oi := { dst := some 91, op := Op.move (Operand.tmp 8), type := 31, pos := "law.go:189", after := #[], guard := none }) (v := ?_) rfl (by kernel_rfl) (by kernel_rfl) (by kernel_rfl) (fun _ _ _ h => h) (Or.inl ⟨by rfl, ?_⟩) trivial ?_
            rotate_left
            · intro w9 hSw9; go_simp; try with_reducible rfl
            try simp only [Act.put]
            try simp only [List.setIfInBounds_toArray]
            try simp only [List.set_cons_zero]
            try simp only [List.set_cons_succ, List.set_cons_zero]
            refine wpAnyH_take (i := 4) (oi := { dst := some 92, op := Op.call { callee := Callee.builtin Builtin.len, args := #[Operand.tmp 91], argTypes := #[31] }, type := 3, pos := "law.go:189", after := #[{ on := 3, ground := Ground.data }], guard := none }) (v := ?_) rfl (by kernel_rfl) (by kernel_rfl) (by kernel_rfl) (fun _ _ _ h => h) (Or.inl ⟨by rfl, ?_⟩) trivial ?_
            rotate_left
            · intro w9 hSw9; go_simp; try with_reducible rfl
            try simp only [Act.put]
            try simp only [List.setIfInBounds_toArray]
            try simp only [List.set_cons_zero]
            try simp only [List.set_cons_succ, List.set_cons_zero]
            refine wpAnyH_take (i := 5) (oi := { dst := some 93, op := Op.binOp BinOp.sub 3 (Operand.tmp 90) (Operand.tmp 92) 3, type := 3, pos := "law.go:189", after := #[{ on := 2, ground := Ground.data }, { on := 4, ground := Ground.data }], guard := none }) (v := ?_) rfl (by kernel_rfl) (by kernel_rfl) (by kernel_rfl) (fun _ _ _ h => h) (Or.inl ⟨by rfl, ?_⟩) trivial ?_
            rotate_left
            · intro w9 hSw9; go_simp; try with_reducible rfl
            try simp only [Act.put]
            try simp only [List.setIfInBounds_toArray]
            try simp only [List.set_cons_zero]
            try simp only [List.set_cons_succ, List.set_cons_zero]
            refine wpAnyH_ready (rs := [1]) (by kernel_rfl) (by simp) ?_
            refine AllReadyH.cons (o := { dst := some 89, op := Op.call { callee := Callee.value (Operand.func 12), args := #[Operand.tmp 88], argTypes := #[24] }, type := 3, pos := "law.go:189", after := #[{ on := 0, ground := Ground.data }], guard := none }) rfl (fun K9 hK9 => ?_) AllReadyH.nil
            go_simp
            refine (len_n D7.out.drew (by rw [hnt.out]; omega) hnt.out).mono ?_
            rintro e w' ⟨rfl, rfl⟩
            refine hK9.out _ _ trivial (fun _ => ?_)
            clear hK9 K9
            try simp only [Act.put]
            try simp only [List.setIfInBounds_toArray]
            try simp only [List.set_cons_zero]
            try simp only [List.set_cons_succ, List.set_cons_zero]
            refine wpAnyH_take (i := 6) (oi := { dst := some 94, op := Op.binOp BinOp.eql 3 (Operand.tmp 89) (Operand.tmp 93) 3, type := 4, pos := "law.go:189", after := #[{ on := 1, ground := Ground.data }, { on := 5, ground := Ground.data }], guard := none }) (v := ?_) rfl (by kernel_rfl) (by kernel_rfl) (by kernel_rfl) (fun _ _ _ h => h) (Or.inl ⟨by rfl, ?_⟩) trivial ?_
            rotate_left
            · intro w9 hSw9; go_simp; try with_reducible rfl
            try simp only [Act.put]
            try simp only [List.setIfInBounds_toArray]
            try simp only [List.set_cons_zero]
            try simp only [List.set_cons_succ, List.set_cons_zero]
            refine wpAnyH_take (i := 7) (oi := { dst := some 95, op := Op.move (Operand.tmp 94), type := 4, pos := "law.go:189", after := #[{ on := 6, ground := Ground.data }, { on := 1, ground := Ground.chain }], guard := none }) (v := ?_) rfl (by kernel_rfl) (by kernel_rfl) (by kernel_rfl) (fun _ _ _ h => h) (Or.inl ⟨by rfl, ?_⟩) trivial ?_
            rotate_left
            · intro w9 hSw9; go_simp; try with_reducible rfl
            try simp only [Act.put]
            try simp only [List.setIfInBounds_toArray]
            try simp only [List.set_cons_zero]
            try simp only [List.set_cons_succ, List.set_cons_zero]
            refine wpAnyH_take (i := 8) (oi := { dst := some 96, op := Op.move (Operand.tmp 5), type := 24, pos := "law.go:189", after := #[{ on := 7, ground := Ground.guard }], guard := some (7, true) }) (v := ?_) rfl (by kernel_rfl) (by kernel_rfl) (by kernel_rfl) (fun _ _ _ h => h) (Or.inl ⟨by rfl, ?_⟩) trivial ?_
            rotate_left
            · intro w9 hSw9; go_simp; try with_reducible rfl
            try simp only [Act.put]
            try simp only [List.setIfInBounds_toArray]
            try simp only [List.set_cons_zero]
            try simp only [List.set_cons_succ, List.set_cons_zero]
            refine wpAnyH_take (i := 9) (oi := { dst := some 97, op := Op.move (Operand.tmp 1), type := 3, pos := "law.go:189", after := #[{ on := 7, ground := Ground.guard }], guard := some (7, true) }) (v := ?_) rfl (by kernel_rfl) (by kernel_rfl) (by kernel_rfl) (fun _ _ _ h => h) (Or.inl ⟨by rfl, ?_⟩) trivial ?_
            rotate_left
            · intro w9 hSw9; go_simp; try with_reducible rfl
            try simp only [Act.put]
            try simp only [List.setIfInBounds_toArray]
            try simp only [List.set_cons_zero]
            try simp only [List.set_cons_succ, List.set_cons_zero]
            refine wpAnyH_ready (rs := [10]) (by kernel_rfl) (by simp) ?_
            refine AllReadyH.cons (o := { dst := some 98, op := Op.call { callee := Callee.value (Operand.func 11), args := #[Operand.tmp 96, Operand.tmp 97], argTypes := #[24, 3] }, type := 31, pos := "law.go:189", after := #[{ on := 8, ground := Ground.data }, { on := 9, ground := Ground.data }, { on := 7, ground := Ground.chain }, { on := 7, ground := Ground.guard }], guard := some (7, true) }) rfl (fun K9 hK9 => ?_) AllReadyH.nil
            go_simp
            refine (ripe_n D7.out.drew S7.out (by rw [hnt.out]; omega) HOKR.out now HRN.out (n := 0) rfl).mono ?_
            rintro e w8 ⟨A1, c1, rfl, o1, b8⟩
            have D8 := Lib.hid (D7.out.drew.step b8)
            have S8 := Lib.hid (fun b h => Nat.lt_of_lt_of_le (S7.out b h) b8.size)
            refine hK9.out _ _ trivial (fun _ => ?_)
            clear hK9 K9
            try simp only [Act.put]
            try simp only [List.setIfInBounds_toArray]
            try simp only [List.set_cons_zero]
            try simp only [List.set_cons_succ, List.set_cons_zero]
            refine wpAnyH_take (i := 11) (oi := { dst := some 99, op := Op.call { callee := Callee.builtin Builtin.len, args := #[Operand.tmp 98], argTypes := #[31] }, type := 3, pos := "law.go:189", after := #[{ on := 10, ground := Ground.data }, { on := 7, ground := Ground.guard }], guard := some (7, true) }) (v := ?_) rfl (by kernel_rfl) (by kernel_rfl) (by kernel_rfl) (fun _ _ _ h => h) (Or.inl ⟨by rfl, ?_⟩) trivial ?_
            rotate_left
            · intro w9 hSw9; go_simp; try with_reducible rfl
            try simp only [Act.put]
            try simp only [List.setIfInBounds_toArray]
            try simp only [List.set_cons_zero]
            try simp only [List.set_cons_succ, List.set_cons_zero]
            refine wpAnyH_take (i := 12) (oi := { dst := some 100, op := Op.binOp BinOp.eql 3 (Operand.tmp 99) (Operand.const (Value.int IntKind.i64 0)) 3, type := 4, pos := "law.go:189", after := #[{ on := 11, ground := Ground.data }, { on := 7, ground := Ground.guard }], guard := some (7, true) }) (v := ?_) rfl (by kernel_rfl) (by kernel_rfl) (by kernel_rfl) (fun _ _ _ h => h) (Or.inl ⟨by rfl, ?_⟩) trivial ?_
            rotate_left
            · intro w9 hSw9; go_simp; try with_reducible rfl
            try simp only [Act.put]
            try simp only [List.setIfInBounds_toArray]
            try simp only [List.set_cons_zero]
            try simp only [List.set_cons_succ, List.set_cons_zero]
            refine wpAnyH_take (i := 13) (oi := { dst := some 101, op := Op.pick (Operand.tmp 95) (Operand.tmp 100) (Operand.const (Value.bool false)), type := 4, pos := "law.go:189", after := #[{ on := 7, ground := Ground.data }, { on := 12, ground := Ground.data }], guard := none }) (v := ?_) rfl (by kernel_rfl) (by kernel_rfl) (by kernel_rfl) (fun _ _ _ h => h) (Or.inl ⟨by rfl, ?_⟩) trivial ?_
            rotate_left
            · intro w9 hSw9; go_simp; try with_reducible rfl
            try simp only [Act.put]
            try simp only [List.setIfInBounds_toArray]
            try simp only [List.set_cons_zero]
            try simp only [List.set_cons_succ, List.set_cons_zero]
            refine wpAnyH_take (i := 14) (oi := { dst := some 102, op := Op.move (Operand.tmp 101), type := 4, pos := "law.go:189", after := #[{ on := 13, ground := Ground.data }, { on := 10, ground := Ground.chain }], guard := none }) (v := ?_) rfl (by kernel_rfl) (by kernel_rfl) (by kernel_rfl) (fun _ _ _ h => h) (Or.inl ⟨by rfl, ?_⟩) trivial ?_
            rotate_left
            · intro w9 hSw9; go_simp; try with_reducible rfl
            try simp only [Act.put]
            try simp only [List.setIfInBounds_toArray]
            try simp only [List.set_cons_zero]
            try simp only [List.set_cons_succ, List.set_cons_zero]
            refine wpAnyH_take (i := 15) (oi := { dst := some 103, op := Op.move (Operand.tmp 5), type := 24, pos := "law.go:189", after := #[{ on := 14, ground := Ground.guard }], guard := some (14, true) }) (v := ?_) rfl (by kernel_rfl) (by kernel_rfl) (by kernel_rfl) (fun _ _ _ h => h) (Or.inl ⟨by rfl, ?_⟩) trivial ?_
            rotate_left
            · intro w9 hSw9; go_simp; try with_reducible rfl
            try simp only [Act.put]
            try simp only [List.setIfInBounds_toArray]
            try simp only [List.set_cons_zero]
            try simp only [List.set_cons_succ, List.set_cons_zero]
            refine wpAnyH_take (i := 17) (oi := { dst := some 105, op := Op.move (Operand.tmp 7), type := 31, pos := "law.go:189", after := #[{ on := 14, ground := Ground.guard }], guard := some (14, true) }) (v := ?_) rfl (by kernel_rfl) (by kernel_rfl) (by kernel_rfl) (fun _ _ _ h => h) (Or.inl ⟨by rfl, ?_⟩) trivial ?_
            rotate_left
            · intro w9 hSw9; go_simp; try with_reducible rfl
            try simp only [Act.put]
            try simp only [List.setIfInBounds_toArray]
            try simp only [List.set_cons_zero]
            try simp only [List.set_cons_succ, List.set_cons_zero]
            refine wpAnyH_take (i := 18) (oi := { dst := some 106, op := Op.move (Operand.tmp 8), type := 31, pos := "law.go:189", after := #[{ on := 14, ground := Ground.guard }], guard := some (14, true) }) (v := ?_) rfl (by kernel_rfl) (by kernel_rfl) (by kernel_rfl) (fun _ _ _ h => h) (Or.inl ⟨by rfl, ?_⟩) trivial ?_
            rotate_left
            · intro w9 hSw9; go_simp; try with_reducible rfl
            try simp only [Act.put]
            try simp only [List.setIfInBounds_toArray]
            try simp only [List.set_cons_zero]
            try simp only [List.set_cons_succ, List.set_cons_zero]
            refine wpAnyH_take (i := 19) (oi := { dst := some 107, op := Op.call { callee := Callee.builtin Builtin.len, args := #[Operand.tmp 106], argTypes := #[31] }, type := 3, pos := "law.go:189", after := #[{ on := 18, ground := Ground.data }, { on := 14, ground := Ground.guard }], guard := some (14, true) }) (v := ?_) rfl (by kernel_rfl) (by kernel_rfl) (by kernel_rfl) (fun _ _ _ h => h) (Or.inl ⟨by rfl, ?_⟩) trivial ?_
            rotate_left
            · intro w9 hSw9; go_simp; try with_reducible rfl
            try simp only [Act.put]
            try simp only [List.setIfInBounds_toArray]
            try simp only [List.set_cons_zero]
            try simp only [List.set_cons_succ, List.set_cons_zero]
            refine wpAnyH_take (i := 20) (oi := { dst := some 108, op := Op.slice 31 (Operand.tmp 105) (some (Operand.tmp 107)) none none, type := 31, pos := "law.go:189", after := #[{ on := 17, ground := Ground.data }, { on := 19, ground := Ground.data }, { on := 14, ground := Ground.guard }], guard := some (14, true) }) (v := ?_) rfl (by kernel_rfl) (by kernel_rfl) (by kernel_rfl) (fun _ _ _ h => h) (Or.inl ⟨by rfl, ?_⟩) trivial ?_
            rotate_left
            · intro w9 hSw9; go_simp; try with_reducible rfl
            try simp only [Act.put]
            try simp only [List.setIfInBounds_toArray]
            try simp only [List.set_cons_zero]
            try simp only [List.set_cons_succ, List.set_cons_zero]
            refine wpAnyH_ready (rs := [16]) (by kernel_rfl) (by simp) ?_
            refine AllReadyH.cons (o := { dst := some 104, op := Op.call { callee := Callee.value (Operand.func 11), args := #[Operand.tmp 103, Operand.const (Value.int IntKind.i64 527039)], argTypes := #[24, 3] }, type := 31, pos := "law.go:189", after := #[{ on := 15, ground := Ground.data }, { on := 14, ground := Ground.chain }, { on := 14, ground := Ground.guard }], guard := some (14, true) }) rfl (fun K9 hK9 => ?_) AllReadyH.nil
            go_simp
            refine (ripe_n D8.out S8.out (by rw [hnt.out]; omega) HOKR.out 527039 HRA.out hnt.out).mono ?_
            rintro e w9 ⟨A2, c2, rfl, o2, b9⟩
            have OA9 := Lib.hid ((OA7.out.drew.keep b8).keep b9)
            have O2 := Lib.hid o2
            have B9 := Lib.hid (RetB.step (RetB.step (B7.out.drew) b8) b9)
            refine hK9.out _ _ trivial (fun _ => ?_)
            clear hK9 K9
            try simp only [Act.put]
            try simp only [List.setIfInBounds_toArray]
            try simp only [List.set_cons_zero]
            try simp only [List.set_cons_succ, List.set_cons_zero]
            refine wpAnyH_ready (rs := [21]) (by kernel_rfl) (by simp) ?_
            refine AllReadyH.cons (o := { dst := some 109, op := Op.call { callee := Callee.value (Operand.func 13), args := #[Operand.tmp 104, Operand.tmp 108], argTypes := #[31, 31] }, type := 4, pos := "law.go:189", after := #[{ on := 16, ground := Ground.data }, { on := 20, ground := Ground.data }, { on := 16, ground := Ground.chain }, { on := 14, ground := Ground.guard }], guard := some (14, true) }) rfl (fun K9 hK9 => ?_) AllReadyH.nil
            go_simp
            refine (texts_same O2.out.sl (by rw [HR0.out]; exact Sl.nil_ (lo := 0) (hi := 0) _) (by omega) (Nat.le_refl _) (Nat.zero_le _)).mono ?_
            rintro e w10 ⟨rfl, b10⟩
            refine hK9.out _ _ trivial (fun _ => ?_)
            clear hK9 K9
            try simp only [Act.put]
            try simp only [List.setIfInBounds_toArray]
            try simp only [List.set_cons_zero]
            try simp only [List.set_cons_succ, List.set_cons_zero]
            refine wpAnyH_take (i := 22) (oi := { dst := some 110, op := Op.pick (Operand.tmp 102) (Operand.tmp 109) (Operand.const (Value.bool false)), type := 4, pos := "law.go:189", after := #[{ on := 14, ground := Ground.data }, { on := 21, ground := Ground.data }], guard := none }) (v := ?_) rfl (by kernel_rfl) (by kernel_rfl) (by kernel_rfl) (fun _ _ _ h => h) (Or.inl ⟨by rfl, ?_⟩) trivial ?_
            rotate_left
            · intro w9 hSw9; go_simp; try with_reducible rfl
            try simp only [Act.put]
            try simp only [List.setIfInBounds_toArray]
            try simp only [List.set_cons_zero]
            try simp only [List.set_cons_succ, List.set_cons_zero]
            refine wpAnyH_take (i := 23) (oi := { dst := some 111, op := Op.move (Operand.tmp 110), type := 4, pos := "law.go:189", after := #[{ on := 22, ground := Ground.data }, { on := 21, ground := Ground.chain }], guard := none }) (v := ?_) rfl (by kernel_rfl) (by kernel_rfl) (by kernel_rfl) (fun _ _ _ h => h) (Or.inl ⟨by rfl, ?_⟩) trivial ?_
            rotate_left
            · intro w9 hSw9; go_simp; try with_reducible rfl
            try simp only [Act.put]
            try simp only [List.setIfInBounds_toArray]
            try simp only [List.set_cons_zero]
            try simp only [List.set_cons_succ, List.set_cons_zero]
            refine wpAnyH_take (i := 24) (oi := { dst := some 112, op := Op.move (Operand.tmp 11), type := 4, pos := "law.go:189", after := #[{ on := 23, ground := Ground.guard }], guard := some (23, true) }) (v := ?_) rfl (by kernel_rfl) (by kernel_rfl) (by kernel_rfl) (fun _ _ _ h => h) (Or.inl ⟨by rfl, ?_⟩) trivial ?_
            rotate_left
            · intro w9 hSw9; go_simp; try with_reducible rfl
            try simp only [Act.put]
            try simp only [List.setIfInBounds_toArray]
            try simp only [List.set_cons_zero]
            try simp only [List.set_cons_succ, List.set_cons_zero]
            refine wpAnyH_take (i := 25) (oi := { dst := some 113, op := Op.unOp UnOp.not 4 (Operand.tmp 112), type := 4, pos := "law.go:189", after := #[{ on := 24, ground := Ground.data }, { on := 23, ground := Ground.guard }], guard := some (23, true) }) (v := ?_) rfl (by kernel_rfl) (by kernel_rfl) (by kernel_rfl) (fun _ _ _ h => h) (Or.inl ⟨by rfl, ?_⟩) trivial ?_
            rotate_left
            · intro w9 hSw9; go_simp; try with_reducible rfl
            try simp only [Act.put]
            try simp only [List.setIfInBounds_toArray]
            try simp only [List.set_cons_zero]
            try simp only [List.set_cons_succ, List.set_cons_zero]
            refine wpAnyH_take (i := 26) (oi := { dst := some 114, op := Op.move (Operand.tmp 113), type := 4, pos := "law.go:189", after := #[{ on := 25, ground := Ground.data }, { on := 23, ground := Ground.chain }, { on := 23, ground := Ground.guard }], guard := some (23, true) }) (v := ?_) rfl (by kernel_rfl) (by kernel_rfl) (by kernel_rfl) (fun _ _ _ h => h) (Or.inl ⟨by rfl, ?_⟩) trivial ?_
            rotate_left
            · intro w9 hSw9; go_simp; try with_reducible rfl
            try simp only [Act.put]
            try simp only [List.setIfInBounds_toArray]
            try simp only [List.set_cons_zero]
            try simp only [List.set_cons_succ, List.set_cons_zero]
            refine wpAnyH_take (i := 27) (oi := { dst := some 115, op := Op.move (Operand.tmp 10), type := 3, pos := "law.go:189", after := #[{ on := 26, ground := Ground.guard }], guard := some (26, false) }) (v := undef) rfl (by kernel_rfl) (by kernel_rfl) (by kernel_rfl) (fun _ _ _ h => h) (Or.inr ⟨by rfl, rfl⟩) trivial ?_
            try simp only [Act.put]
            try simp only [List.setIfInBounds_toArray]
            try simp only [List.set_cons_zero]
            try simp only [List.set_cons_succ, List.set_cons_zero]
            refine wpAnyH_take (i := 28) (oi := { dst := some 116, op := Op.move (Operand.tmp 1), type := 3, pos := "law.go:189", after := #[{ on := 26, ground := Ground.guard }], guard := some (26, false) }) (v := undef) rfl (by kernel_rfl) (by kernel_rfl) (by kernel_rfl) (fun _ _ _ h => h) (Or.inr ⟨by rfl, rfl⟩) trivial ?_
            try simp only [Act.put]
            try simp only [List.setIfInBounds_toArray]
            try simp only [List.set_cons_zero]
            try simp only [List.set_cons_succ, List.set_cons_zero]
            refine wpAnyH_take (i := 29) (oi := { dst := some 117, op := Op.binOp BinOp.gtr 3 (Operand.tmp 115) (Operand.tmp 116) 3, type := 4, pos := "law.go:189", after := #[{ on := 27, ground := Ground.data }, { on := 28, ground := Ground.data }, { on := 26, ground := Ground.guard }], guard := some (26, false) }) (v := undef) rfl (by kernel_rfl) (by kernel_rfl) (by kernel_rfl) (fun _ _ _ h => h) (Or.inr ⟨by rfl, rfl⟩) trivial ?_
            try simp only [Act.put]
            try simp only [List.setIfInBounds_toArray]
            try simp only [List.set_cons_zero]
            try simp only [List.set_cons_succ, List.set_cons_zero]
            refine wpAnyH_take (i := 30) (oi := { dst := some 118, op := Op.pick (Operand.tmp 114) (Operand.const (Value.bool true)) (Operand.tmp 117), type := 4, pos := "law.go:189", after := #[{ on := 26, ground := Ground.data }, { on := 29, ground := Ground.data }, { on := 23, ground := Ground.guard }], guard := some (23, true) }) (v := ?_) rfl (by kernel_rfl) (by kernel_rfl) (by kernel_rfl) (fun _ _ _ h => h) (Or.inl ⟨by rfl, ?_⟩) trivial ?_
            rotate_left
            · intro w9 hSw9; go_simp; try with_reducible rfl
            try simp only [Act.put]
            try simp only [List.setIfInBounds_toArray]
            try simp only [List.set_cons_zero]
            try simp only [List.set_cons_succ, List.set_cons_zero]
            refine wpAnyH_take (i := 31) (oi := { dst := some 119, op := Op.pick (Operand.tmp 111) (Operand.tmp 118) (Operand.const (Value.bool false)), type := 4, pos := "law.go:189", after := #[{ on := 23, ground := Ground.data }, { on := 30, ground := Ground.data }], guard := none }) (v := ?_) rfl (by kernel_rfl) (by kernel_rfl) (by kernel_rfl) (fun _ _ _ h => h) (Or.inl ⟨by rfl, ?_⟩) trivial ?_
            rotate_left
            · intro w9 hSw9; go_simp; try with_reducible rfl
            try simp only [Act.put]
            try simp only [List.setIfInBounds_toArray]
            try simp only [List.set_cons_zero]
            try simp only [List.set_cons_succ, List.set_cons_zero]
            refine wpAnyH_take (i := 32) (oi := { dst := some 4, op := Op.assign (Operand.tmp 119), type := 4, pos := "law.go:189", after := #[{ on := 31, ground := Ground.data }, { on := 26, ground := Ground.chain }, { on := 0, ground := Ground.phase }, { on := 1, ground := Ground.phase }, { on := 2, ground := Ground.phase }, { on := 3, ground := Ground.phase }, { on := 4, ground := Ground.phase }, { on := 5, ground := Ground.phase }, { on := 6, ground := Ground.phase }, { on := 7, ground := Ground.phase }, { on := 8, ground := Ground.phase }, { on := 9, ground := Ground.phase }, { on := 10, ground := Ground.phase }, { on := 11, ground := Ground.phase }, { on := 12, ground := Ground.phase }, { on := 13, ground := Ground.phase }, { on := 14, ground := Ground.phase }, { on := 15, ground := Ground.phase }, { on := 16, ground := Ground.phase }, { on := 17, ground := Ground.phase }, { on := 18, ground := Ground.phase }, { on := 19, ground := Ground.phase }, { on := 20, ground := Ground.phase }, { on := 21, ground := Ground.phase }, { on := 22, ground := Ground.phase }, { on := 23, ground := Ground.phase }, { on := 24, ground := Ground.phase }, { on := 25, ground := Ground.phase }, { on := 26, ground := Ground.phase }, { on := 27, ground := Ground.phase }, { on := 28, ground := Ground.phase }, { on := 29, ground := Ground.phase }, { on := 30, ground := Ground.phase }, { on := 31, ground := Ground.phase }], guard := none }) (v := ?_) rfl (by kernel_rfl) (by kernel_rfl) (by kernel_rfl) (fun _ _ _ h => h) (Or.inl ⟨by rfl, ?_⟩) trivial ?_
            rotate_left
            · intro w9 hSw9; go_simp; try with_reducible rfl
            try simp only [Act.put]
            try simp only [List.setIfInBounds_toArray]
            try simp only [List.set_cons_zero]
            try simp only [List.set_cons_succ, List.set_cons_zero]
            refine wpAnyH_done (by kernel_rfl) ?_ _
            go_wp2
            go_ret
            exact ⟨rfl, RetB.step B9.out b10⟩
          | true =>
            have hmn : now < mv := HMN.out rfl
            refine wp_region_held_drew (S := fun _ => True) (by kernel_rfl) trivial (fun _ => ?_)
            refine wpAnyH_take (i := 0) (oi := { dst := some 88, op := Op.move (Operand.tmp 5), type := 24, pos := "law.go:189", after := #[], guard := none }) (v := ?_) rfl (by kernel_rfl) (by kernel_rfl) (by kernel_rfl) (fun _ _ _ h => h) (Or.inl ⟨by rfl, ?_⟩) trivial ?_
            rotate_left
            · intro w9 hSw9; go_simp; try with_reducible rfl
            try simp only [Act.put]
            try simp only [List.setIfInBounds_toArray]
            try simp only [List.set_cons_zero]
            try simp only [List.set_cons_succ, List.set_cons_zero]
            refine wpAnyH_take (i := 2) (oi := { dst := some 90, op := Op.move (Operand.tmp 9), type := 3, pos := "law.go:189", after := #[], guard := none }) (v := ?_) rfl (by kernel_rfl) (by kernel_rfl) (by kernel_rfl) (fun _ _ _ h => h) (Or.inl ⟨by rfl, ?_⟩) trivial ?_
            rotate_left
            · intro w9 hSw9; go_simp; try with_reducible rfl
            try simp only [Act.put]
            try simp only [List.setIfInBounds_toArray]
            try simp only [List.set_cons_zero]
            try simp only [List.set_cons_succ, List.set_cons_zero]
            refine wpAnyH_take (i := 3) (oi := { dst := some 91, op := Op.move (Operand.tmp 8), type := 31, pos := "law.go:189", after := #[], guard := none }) (v := ?_) rfl (by kernel_rfl) (by kernel_rfl) (by kernel_rfl) (fun _ _ _ h => h) (Or.inl ⟨by rfl, ?_⟩) trivial ?_
            rotate_left
            · intro w9 hSw9; go_simp; try with_reducible rfl
            try simp only [Act.put]
            try simp only [List.setIfInBounds_toArray]
            try simp only [List.set_cons_zero]
            try simp only [List.set_cons_succ, List.set_cons_zero]
            refine wpAnyH_take (i := 4) (oi := { dst := some 92, op := Op.call { callee := Callee.builtin Builtin.len, args := #[Operand.tmp 91], argTypes := #[31] }, type := 3, pos := "law.go:189", after := #[{ on := 3, ground := Ground.data }], guard := none }) (v := ?_) rfl (by kernel_rfl) (by kernel_rfl) (by kernel_rfl) (fun _ _ _ h => h) (Or.inl ⟨by rfl, ?_⟩) trivial ?_
            rotate_left
            · intro w9 hSw9; go_simp; try with_reducible rfl
            try simp only [Act.put]
            try simp only [List.setIfInBounds_toArray]
            try simp only [List.set_cons_zero]
            try simp only [List.set_cons_succ, List.set_cons_zero]
            refine wpAnyH_take (i := 5) (oi := { dst := some 93, op := Op.binOp BinOp.sub 3 (Operand.tmp 90) (Operand.tmp 92) 3, type := 3, pos := "law.go:189", after := #[{ on := 2, ground := Ground.data }, { on := 4, ground := Ground.data }], guard := none }) (v := ?_) rfl (by kernel_rfl) (by kernel_rfl) (by kernel_rfl) (fun _ _ _ h => h) (Or.inl ⟨by rfl, ?_⟩) trivial ?_
            rotate_left
            · intro w9 hSw9; go_simp; try with_reducible rfl
            try simp only [Act.put]
            try simp only [List.setIfInBounds_toArray]
            try simp only [List.set_cons_zero]
            try simp only [List.set_cons_succ, List.set_cons_zero]
            refine wpAnyH_ready (rs := [1]) (by kernel_rfl) (by simp) ?_
            refine AllReadyH.cons (o := { dst := some 89, op := Op.call { callee := Callee.value (Operand.func 12), args := #[Operand.tmp 88], argTypes := #[24] }, type := 3, pos := "law.go:189", after := #[{ on := 0, ground := Ground.data }], guard := none }) rfl (fun K9 hK9 => ?_) AllReadyH.nil
            go_simp
            refine (len_n D7.out.drew (by rw [hnt.out]; omega) hnt.out).mono ?_
            rintro e w' ⟨rfl, rfl⟩
            refine hK9.out _ _ trivial (fun _ => ?_)
            clear hK9 K9
            try simp only [Act.put]
            try simp only [List.setIfInBounds_toArray]
            try simp only [List.set_cons_zero]
            try simp only [List.set_cons_succ, List.set_cons_zero]
            refine wpAnyH_take (i := 6) (oi := { dst := some 94, op := Op.binOp BinOp.eql 3 (Operand.tmp 89) (Operand.tmp 93) 3, type := 4, pos := "law.go:189", after := #[{ on := 1, ground := Ground.data }, { on := 5, ground := Ground.data }], guard := none }) (v := ?_) rfl (by kernel_rfl) (by kernel_rfl) (by kernel_rfl) (fun _ _ _ h => h) (Or.inl ⟨by rfl, ?_⟩) trivial ?_
            rotate_left
            · intro w9 hSw9; go_simp; try with_reducible rfl
            try simp only [Act.put]
            try simp only [List.setIfInBounds_toArray]
            try simp only [List.set_cons_zero]
            try simp only [List.set_cons_succ, List.set_cons_zero]
            refine wpAnyH_take (i := 7) (oi := { dst := some 95, op := Op.move (Operand.tmp 94), type := 4, pos := "law.go:189", after := #[{ on := 6, ground := Ground.data }, { on := 1, ground := Ground.chain }], guard := none }) (v := ?_) rfl (by kernel_rfl) (by kernel_rfl) (by kernel_rfl) (fun _ _ _ h => h) (Or.inl ⟨by rfl, ?_⟩) trivial ?_
            rotate_left
            · intro w9 hSw9; go_simp; try with_reducible rfl
            try simp only [Act.put]
            try simp only [List.setIfInBounds_toArray]
            try simp only [List.set_cons_zero]
            try simp only [List.set_cons_succ, List.set_cons_zero]
            refine wpAnyH_take (i := 8) (oi := { dst := some 96, op := Op.move (Operand.tmp 5), type := 24, pos := "law.go:189", after := #[{ on := 7, ground := Ground.guard }], guard := some (7, true) }) (v := ?_) rfl (by kernel_rfl) (by kernel_rfl) (by kernel_rfl) (fun _ _ _ h => h) (Or.inl ⟨by rfl, ?_⟩) trivial ?_
            rotate_left
            · intro w9 hSw9; go_simp; try with_reducible rfl
            try simp only [Act.put]
            try simp only [List.setIfInBounds_toArray]
            try simp only [List.set_cons_zero]
            try simp only [List.set_cons_succ, List.set_cons_zero]
            refine wpAnyH_take (i := 9) (oi := { dst := some 97, op := Op.move (Operand.tmp 1), type := 3, pos := "law.go:189", after := #[{ on := 7, ground := Ground.guard }], guard := some (7, true) }) (v := ?_) rfl (by kernel_rfl) (by kernel_rfl) (by kernel_rfl) (fun _ _ _ h => h) (Or.inl ⟨by rfl, ?_⟩) trivial ?_
            rotate_left
            · intro w9 hSw9; go_simp; try with_reducible rfl
            try simp only [Act.put]
            try simp only [List.setIfInBounds_toArray]
            try simp only [List.set_cons_zero]
            try simp only [List.set_cons_succ, List.set_cons_zero]
            refine wpAnyH_ready (rs := [10]) (by kernel_rfl) (by simp) ?_
            refine AllReadyH.cons (o := { dst := some 98, op := Op.call { callee := Callee.value (Operand.func 11), args := #[Operand.tmp 96, Operand.tmp 97], argTypes := #[24, 3] }, type := 31, pos := "law.go:189", after := #[{ on := 8, ground := Ground.data }, { on := 9, ground := Ground.data }, { on := 7, ground := Ground.chain }, { on := 7, ground := Ground.guard }], guard := some (7, true) }) rfl (fun K9 hK9 => ?_) AllReadyH.nil
            go_simp
            refine (ripe_n D7.out.drew S7.out (by rw [hnt.out]; omega) HOKR.out now HRN.out (n := 0) rfl).mono ?_
            rintro e w8 ⟨A1, c1, rfl, o1, b8⟩
            have D8 := Lib.hid (D7.out.drew.step b8)
            have S8 := Lib.hid (fun b h => Nat.lt_of_lt_of_le (S7.out b h) b8.size)
            refine hK9.out _ _ trivial (fun _ => ?_)
            clear hK9 K9
            try simp only [Act.put]
            try simp only [List.setIfInBounds_toArray]
            try simp only [List.set_cons_zero]
            try simp only [List.set_cons_succ, List.set_cons_zero]
            refine wpAnyH_take (i := 11) (oi := { dst := some 99, op := Op.call { callee := Callee.builtin Builtin.len, args := #[Operand.tmp 98], argTypes := #[31] }, type := 3, pos := "law.go:189", after := #[{ on := 10, ground := Ground.data }, { on := 7, ground := Ground.guard }], guard := some (7, true) }) (v := ?_) rfl (by kernel_rfl) (by kernel_rfl) (by kernel_rfl) (fun _ _ _ h => h) (Or.inl ⟨by rfl, ?_⟩) trivial ?_
            rotate_left
            · intro w9 hSw9; go_simp; try with_reducible rfl
            try simp only [Act.put]
            try simp only [List.setIfInBounds_toArray]
            try simp only [List.set_cons_zero]
            try simp only [List.set_cons_succ, List.set_cons_zero]
            refine wpAnyH_take (i := 12) (oi := { dst := some 100, op := Op.binOp BinOp.eql 3 (Operand.tmp 99) (Operand.const (Value.int IntKind.i64 0)) 3, type := 4, pos := "law.go:189", after := #[{ on := 11, ground := Ground.data }, { on := 7, ground := Ground.guard }], guard := some (7, true) }) (v := ?_) rfl (by kernel_rfl) (by kernel_rfl) (by kernel_rfl) (fun _ _ _ h => h) (Or.inl ⟨by rfl, ?_⟩) trivial ?_
            rotate_left
            · intro w9 hSw9; go_simp; try with_reducible rfl
            try simp only [Act.put]
            try simp only [List.setIfInBounds_toArray]
            try simp only [List.set_cons_zero]
            try simp only [List.set_cons_succ, List.set_cons_zero]
            refine wpAnyH_take (i := 13) (oi := { dst := some 101, op := Op.pick (Operand.tmp 95) (Operand.tmp 100) (Operand.const (Value.bool false)), type := 4, pos := "law.go:189", after := #[{ on := 7, ground := Ground.data }, { on := 12, ground := Ground.data }], guard := none }) (v := ?_) rfl (by kernel_rfl) (by kernel_rfl) (by kernel_rfl) (fun _ _ _ h => h) (Or.inl ⟨by rfl, ?_⟩) trivial ?_
            rotate_left
            · intro w9 hSw9; go_simp; try with_reducible rfl
            try simp only [Act.put]
            try simp only [List.setIfInBounds_toArray]
            try simp only [List.set_cons_zero]
            try simp only [List.set_cons_succ, List.set_cons_zero]
            refine wpAnyH_take (i := 14) (oi := { dst := some 102, op := Op.move (Operand.tmp 101), type := 4, pos := "law.go:189", after := #[{ on := 13, ground := Ground.data }, { on := 10, ground := Ground.chain }], guard := none }) (v := ?_) rfl (by kernel_rfl) (by kernel_rfl) (by kernel_rfl) (fun _ _ _ h => h) (Or.inl ⟨by rfl, ?_⟩) trivial ?_
            rotate_left
            · intro w9 hSw9; go_simp; try with_reducible rfl
            try simp only [Act.put]
            try simp only [List.setIfInBounds_toArray]
            try simp only [List.set_cons_zero]
            try simp only [List.set_cons_succ, List.set_cons_zero]
            refine wpAnyH_take (i := 15) (oi := { dst := some 103, op := Op.move (Operand.tmp 5), type := 24, pos := "law.go:189", after := #[{ on := 14, ground := Ground.guard }], guard := some (14, true) }) (v := ?_) rfl (by kernel_rfl) (by kernel_rfl) (by kernel_rfl) (fun _ _ _ h => h) (Or.inl ⟨by rfl, ?_⟩) trivial ?_
            rotate_left
            · intro w9 hSw9; go_simp; try with_reducible rfl
            try simp only [Act.put]
            try simp only [List.setIfInBounds_toArray]
            try simp only [List.set_cons_zero]
            try simp only [List.set_cons_succ, List.set_cons_zero]
            refine wpAnyH_take (i := 17) (oi := { dst := some 105, op := Op.move (Operand.tmp 7), type := 31, pos := "law.go:189", after := #[{ on := 14, ground := Ground.guard }], guard := some (14, true) }) (v := ?_) rfl (by kernel_rfl) (by kernel_rfl) (by kernel_rfl) (fun _ _ _ h => h) (Or.inl ⟨by rfl, ?_⟩) trivial ?_
            rotate_left
            · intro w9 hSw9; go_simp; try with_reducible rfl
            try simp only [Act.put]
            try simp only [List.setIfInBounds_toArray]
            try simp only [List.set_cons_zero]
            try simp only [List.set_cons_succ, List.set_cons_zero]
            refine wpAnyH_take (i := 18) (oi := { dst := some 106, op := Op.move (Operand.tmp 8), type := 31, pos := "law.go:189", after := #[{ on := 14, ground := Ground.guard }], guard := some (14, true) }) (v := ?_) rfl (by kernel_rfl) (by kernel_rfl) (by kernel_rfl) (fun _ _ _ h => h) (Or.inl ⟨by rfl, ?_⟩) trivial ?_
            rotate_left
            · intro w9 hSw9; go_simp; try with_reducible rfl
            try simp only [Act.put]
            try simp only [List.setIfInBounds_toArray]
            try simp only [List.set_cons_zero]
            try simp only [List.set_cons_succ, List.set_cons_zero]
            refine wpAnyH_take (i := 19) (oi := { dst := some 107, op := Op.call { callee := Callee.builtin Builtin.len, args := #[Operand.tmp 106], argTypes := #[31] }, type := 3, pos := "law.go:189", after := #[{ on := 18, ground := Ground.data }, { on := 14, ground := Ground.guard }], guard := some (14, true) }) (v := ?_) rfl (by kernel_rfl) (by kernel_rfl) (by kernel_rfl) (fun _ _ _ h => h) (Or.inl ⟨by rfl, ?_⟩) trivial ?_
            rotate_left
            · intro w9 hSw9; go_simp; try with_reducible rfl
            try simp only [Act.put]
            try simp only [List.setIfInBounds_toArray]
            try simp only [List.set_cons_zero]
            try simp only [List.set_cons_succ, List.set_cons_zero]
            refine wpAnyH_take (i := 20) (oi := { dst := some 108, op := Op.slice 31 (Operand.tmp 105) (some (Operand.tmp 107)) none none, type := 31, pos := "law.go:189", after := #[{ on := 17, ground := Ground.data }, { on := 19, ground := Ground.data }, { on := 14, ground := Ground.guard }], guard := some (14, true) }) (v := ?_) rfl (by kernel_rfl) (by kernel_rfl) (by kernel_rfl) (fun _ _ _ h => h) (Or.inl ⟨by rfl, ?_⟩) trivial ?_
            rotate_left
            · intro w9 hSw9; go_simp; try with_reducible rfl
            try simp only [Act.put]
            try simp only [List.setIfInBounds_toArray]
            try simp only [List.set_cons_zero]
            try simp only [List.set_cons_succ, List.set_cons_zero]
            refine wpAnyH_ready (rs := [16]) (by kernel_rfl) (by simp) ?_
            refine AllReadyH.cons (o := { dst := some 104, op := Op.call { callee := Callee.value (Operand.func 11), args := #[Operand.tmp 103, Operand.const (Value.int IntKind.i64 527039)], argTypes := #[24, 3] }, type := 31, pos := "law.go:189", after := #[{ on := 15, ground := Ground.data }, { on := 14, ground := Ground.chain }, { on := 14, ground := Ground.guard }], guard := some (14, true) }) rfl (fun K9 hK9 => ?_) AllReadyH.nil
            go_simp
            refine (ripe_n D8.out S8.out (by rw [hnt.out]; omega) HOKR.out 527039 HRA.out hnt.out).mono ?_
            rintro e w9 ⟨A2, c2, rfl, o2, b9⟩
            have OA9 := Lib.hid ((OA7.out.drew.keep b8).keep b9)
            have O2 := Lib.hid o2
            have B9 := Lib.hid (RetB.step (RetB.step (B7.out.drew) b8) b9)
            refine hK9.out _ _ trivial (fun _ => ?_)
            clear hK9 K9
            try simp only [Act.put]
            try simp only [List.setIfInBounds_toArray]
            try simp only [List.set_cons_zero]
            try simp only [List.set_cons_succ, List.set_cons_zero]
            refine wpAnyH_ready (rs := [21]) (by kernel_rfl) (by simp) ?_
            refine AllReadyH.cons (o := { dst := some 109, op := Op.call { callee := Callee.value (Operand.func 13), args := #[Operand.tmp 104, Operand.tmp 108], argTypes := #[31, 31] }, type := 4, pos := "law.go:189", after := #[{ on := 16, ground := Ground.data }, { on := 20, ground := Ground.data }, { on := 16, ground := Ground.chain }, { on := 14, ground := Ground.guard }], guard := some (14, true) }) rfl (fun K9 hK9 => ?_) AllReadyH.nil
            go_simp
            refine (texts_same O2.out.sl (by rw [HR0.out]; exact Sl.nil_ (lo := 0) (hi := 0) _) (by omega) (Nat.le_refl _) (Nat.zero_le _)).mono ?_
            rintro e w10 ⟨rfl, b10⟩
            refine hK9.out _ _ trivial (fun _ => ?_)
            clear hK9 K9
            try simp only [Act.put]
            try simp only [List.setIfInBounds_toArray]
            try simp only [List.set_cons_zero]
            try simp only [List.set_cons_succ, List.set_cons_zero]
            refine wpAnyH_take (i := 22) (oi := { dst := some 110, op := Op.pick (Operand.tmp 102) (Operand.tmp 109) (Operand.const (Value.bool false)), type := 4, pos := "law.go:189", after := #[{ on := 14, ground := Ground.data }, { on := 21, ground := Ground.data }], guard := none }) (v := ?_) rfl (by kernel_rfl) (by kernel_rfl) (by kernel_rfl) (fun _ _ _ h => h) (Or.inl ⟨by rfl, ?_⟩) trivial ?_
            rotate_left
            · intro w9 hSw9; go_simp; try with_reducible rfl
            try simp only [Act.put]
            try simp only [List.setIfInBounds_toArray]
            try simp only [List.set_cons_zero]
            try simp only [List.set_cons_succ, List.set_cons_zero]
            refine wpAnyH_take (i := 23) (oi := { dst := some 111, op := Op.move (Operand.tmp 110), type := 4, pos := "law.go:189", after := #[{ on := 22, ground := Ground.data }, { on := 21, ground := Ground.chain }], guard := none }) (v := ?_) rfl (by kernel_rfl) (by kernel_rfl) (by kernel_rfl) (fun _ _ _ h => h) (Or.inl ⟨by rfl, ?_⟩) trivial ?_
            rotate_left
            · intro w9 hSw9; go_simp; try with_reducible rfl
            try simp only [Act.put]
            try simp only [List.setIfInBounds_toArray]
            try simp only [List.set_cons_zero]
            try simp only [List.set_cons_succ, List.set_cons_zero]
            refine wpAnyH_take (i := 24) (oi := { dst := some 112, op := Op.move (Operand.tmp 11), type := 4, pos := "law.go:189", after := #[{ on := 23, ground := Ground.guard }], guard := some (23, true) }) (v := ?_) rfl (by kernel_rfl) (by kernel_rfl) (by kernel_rfl) (fun _ _ _ h => h) (Or.inl ⟨by rfl, ?_⟩) trivial ?_
            rotate_left
            · intro w9 hSw9; go_simp; try with_reducible rfl
            try simp only [Act.put]
            try simp only [List.setIfInBounds_toArray]
            try simp only [List.set_cons_zero]
            try simp only [List.set_cons_succ, List.set_cons_zero]
            refine wpAnyH_take (i := 25) (oi := { dst := some 113, op := Op.unOp UnOp.not 4 (Operand.tmp 112), type := 4, pos := "law.go:189", after := #[{ on := 24, ground := Ground.data }, { on := 23, ground := Ground.guard }], guard := some (23, true) }) (v := ?_) rfl (by kernel_rfl) (by kernel_rfl) (by kernel_rfl) (fun _ _ _ h => h) (Or.inl ⟨by rfl, ?_⟩) trivial ?_
            rotate_left
            · intro w9 hSw9; go_simp; try with_reducible rfl
            try simp only [Act.put]
            try simp only [List.setIfInBounds_toArray]
            try simp only [List.set_cons_zero]
            try simp only [List.set_cons_succ, List.set_cons_zero]
            refine wpAnyH_take (i := 26) (oi := { dst := some 114, op := Op.move (Operand.tmp 113), type := 4, pos := "law.go:189", after := #[{ on := 25, ground := Ground.data }, { on := 23, ground := Ground.chain }, { on := 23, ground := Ground.guard }], guard := some (23, true) }) (v := ?_) rfl (by kernel_rfl) (by kernel_rfl) (by kernel_rfl) (fun _ _ _ h => h) (Or.inl ⟨by rfl, ?_⟩) trivial ?_
            rotate_left
            · intro w9 hSw9; go_simp; try with_reducible rfl
            try simp only [Act.put]
            try simp only [List.setIfInBounds_toArray]
            try simp only [List.set_cons_zero]
            try simp only [List.set_cons_succ, List.set_cons_zero]
            refine wpAnyH_take (i := 27) (oi := { dst := some 115, op := Op.move (Operand.tmp 10), type := 3, pos := "law.go:189", after := #[{ on := 26, ground := Ground.guard }], guard := some (26, false) }) (v := ?_) rfl (by kernel_rfl) (by kernel_rfl) (by kernel_rfl) (fun _ _ _ h => h) (Or.inl ⟨by rfl, ?_⟩) trivial ?_
            rotate_left
            · intro w9 hSw9; go_simp; try with_reducible rfl
            try simp only [Act.put]
            try simp only [List.setIfInBounds_toArray]
            try simp only [List.set_cons_zero]
            try simp only [List.set_cons_succ, List.set_cons_zero]
            refine wpAnyH_take (i := 28) (oi := { dst := some 116, op := Op.move (Operand.tmp 1), type := 3, pos := "law.go:189", after := #[{ on := 26, ground := Ground.guard }], guard := some (26, false) }) (v := ?_) rfl (by kernel_rfl) (by kernel_rfl) (by kernel_rfl) (fun _ _ _ h => h) (Or.inl ⟨by rfl, ?_⟩) trivial ?_
            rotate_left
            · intro w9 hSw9; go_simp; try with_reducible rfl
            try simp only [Act.put]
            try simp only [List.setIfInBounds_toArray]
            try simp only [List.set_cons_zero]
            try simp only [List.set_cons_succ, List.set_cons_zero]
            refine wpAnyH_take (i := 29) (oi := { dst := some 117, op := Op.binOp BinOp.gtr 3 (Operand.tmp 115) (Operand.tmp 116) 3, type := 4, pos := "law.go:189", after := #[{ on := 27, ground := Ground.data }, { on := 28, ground := Ground.data }, { on := 26, ground := Ground.guard }], guard := some (26, false) }) (v := ?_) rfl (by kernel_rfl) (by kernel_rfl) (by kernel_rfl) (fun _ _ _ h => h) (Or.inl ⟨by rfl, ?_⟩) trivial ?_
            rotate_left
            · intro w9 hSw9; go_simp; try with_reducible rfl
            try simp only [Act.put]
            try simp only [List.setIfInBounds_toArray]
            try simp only [List.set_cons_zero]
            try simp only [List.set_cons_succ, List.set_cons_zero]
            refine wpAnyH_take (i := 30) (oi := { dst := some 118, op := Op.pick (Operand.tmp 114) (Operand.const (Value.bool true)) (Operand.tmp 117), type := 4, pos := "law.go:189", after := #[{ on := 26, ground := Ground.data }, { on := 29, ground := Ground.data }, { on := 23, ground := Ground.guard }], guard := some (23, true) }) (v := ?_) rfl (by kernel_rfl) (by kernel_rfl) (by kernel_rfl) (fun _ _ _ h => h) (Or.inl ⟨by rfl, ?_⟩) trivial ?_
            rotate_left
            · intro w9 hSw9; go_simp; try with_reducible rfl
            try simp only [Act.put]
            try simp only [List.setIfInBounds_toArray]
            try simp only [List.set_cons_zero]
            try simp only [List.set_cons_succ, List.set_cons_zero]
            refine wpAnyH_take (i := 31) (oi := { dst := some 119, op := Op.pick (Operand.tmp 111) (Operand.tmp 118) (Operand.const (Value.bool false)), type := 4, pos := "law.go:189", after := #[{ on := 23, ground := Ground.data }, { on := 30, ground := Ground.data }], guard := none }) (v := ?_) rfl (by kernel_rfl) (by kernel_rfl) (by kernel_rfl) (fun _ _ _ h => h) (Or.inl ⟨by rfl, ?_⟩) trivial ?_
            rotate_left
            · intro w9 hSw9; go_simp; try with_reducible rfl
            try simp only [Act.put]
            try simp only [List.setIfInBounds_toArray]
            try simp only [List.set_cons_zero]
            try simp only [List.set_cons_succ, List.set_cons_zero]
            refine wpAnyH_take (i := 32) (oi := { dst := some 4, op := Op.assign (Operand.tmp 119), type := 4, pos := "law.go:189", after := #[{ on := 31, ground := Ground.data }, { on := 26, ground := Ground.chain }, { on := 0, ground := Ground.phase }, { on := 1, ground := Ground.phase }, { on := 2, ground := Ground.phase }, { on := 3, ground := Ground.phase }, { on := 4, ground := Ground.phase }, { on := 5, ground := Ground.phase }, { on := 6, ground := Ground.phase }, { on := 7, ground := Ground.phase }, { on := 8, ground := Ground.phase }, { on := 9, ground := Ground.phase }, { on := 10, ground := Ground.phase }, { on := 11, ground := Ground.phase }, { on := 12, ground := Ground.phase }, { on := 13, ground := Ground.phase }, { on := 14, ground := Ground.phase }, { on := 15, ground := Ground.phase }, { on := 16, ground := Ground.phase }, { on := 17, ground := Ground.phase }, { on := 18, ground := Ground.phase }, { on := 19, ground := Ground.phase }, { on := 20, ground := Ground.phase }, { on := 21, ground := Ground.phase }, { on := 22, ground := Ground.phase }, { on := 23, ground := Ground.phase }, { on := 24, ground := Ground.phase }, { on := 25, ground := Ground.phase }, { on := 26, ground := Ground.phase }, { on := 27, ground := Ground.phase }, { on := 28, ground := Ground.phase }, { on := 29, ground := Ground.phase }, { on := 30, ground := Ground.phase }, { on := 31, ground := Ground.phase }], guard := none }) (v := ?_) rfl (by kernel_rfl) (by kernel_rfl) (by kernel_rfl) (fun _ _ _ h => h) (Or.inl ⟨by rfl, ?_⟩) trivial ?_
            rotate_left
            · intro w9 hSw9; go_simp; try with_reducible rfl
            try simp only [Act.put]
            try simp only [List.setIfInBounds_toArray]
            try simp only [List.set_cons_zero]
            try simp only [List.set_cons_succ, List.set_cons_zero]
            refine wpAnyH_done (by kernel_rfl) ?_ _
            go_wp2
            go_ret
            exact ⟨rfl, RetB.step B9.out b10⟩
        · obtain ⟨ga, rfl⟩ := HAN.out hc
          have hc4 : ¬ ca = nr := fun h => hc h.symm
          have hc3 : (nr : Int) < ca := by omega
          clear HAC HAN
          cases bq with
          | false =>
            refine wp_region_held_drew (S := fun _ => True) (by kernel_rfl) trivial (fun _ => ?_)
            refine wpAnyH_take (i := 0) (oi := { dst := some 88, op := Op.move (Operand.tmp 5), type := 24, pos := "law.go:189", after := #[], guard := none }) (v := ?_) rfl (by kernel_rfl) (by kernel_rfl) (by kernel_rfl) (fun _ _ _ h => h) (Or.inl ⟨by rfl, ?_⟩) trivial ?_
            rotate_left
            · intro w9 hSw9; go_simp; try with_reducible rfl
            try simp only [Act.put]
            try simp only [List.setIfInBounds_toArray]
            try simp only [List.set_cons_zero]
            try simp only [List.set_cons_succ, List.set_cons_zero]
            refine wpAnyH_take (i := 2) (oi := { dst := some 90, op := Op.move (Operand.tmp 9), type := 3, pos := "law.go:189", after := #[], guard := none }) (v := ?_) rfl (by kernel_rfl) (by kernel_rfl) (by kernel_rfl) (fun _ _ _ h => h) (Or.inl ⟨by rfl, ?_⟩) trivial ?_
            rotate_left
            · intro w9 hSw9; go_simp; try with_reducible rfl
            try simp only [Act.put]
            try simp only [List.setIfInBounds_toArray]
            try simp only [List.set_cons_zero]
            try simp only [List.set_cons_succ, List.set_cons_zero]
            refine wpAnyH_take (i := 3) (oi := { dst := some 91, op := Op.move (Operand.tmp 8), type := 31, pos := "law.go:189", after := #[], guard := none }) (v := ?_) rfl (by kernel_rfl) (by kernel_rfl) (by kernel_rfl) (fun _ _ _ h => h) (Or.inl ⟨by rfl, ?_⟩) trivial ?_
            rotate_left
            · intro w9 hSw9; go_simp; try with_reducible rfl
            try simp only [Act.put]
            try simp only [List.setIfInBounds_toArray]
            try simp only [List.set_cons_zero]
            try simp only [List.set_cons_succ, List.set_cons_zero]
            refine wpAnyH_take (i := 4) (oi := { dst := some 92, op := Op.call { callee := Callee.builtin Builtin.len, args := #[Operand.tmp 91], argTypes := #[31] }, type := 3, pos := "law.go:189", after := #[{ on := 3, ground := Ground.data }], guard := none }) (v := ?_) rfl (by kernel_rfl) (by kernel_rfl) (by kernel_rfl) (fun _ _ _ h => h) (Or.inl ⟨by rfl, ?_⟩) trivial ?_
            rotate_left
            · intro w9 hSw9; go_simp; try with_reducible rfl
            try simp only [Act.put]
            try simp only [List.setIfInBounds_toArray]
            try simp only [List.set_cons_zero]
            try simp only [List.set_cons_succ, List.set_cons_zero]
            refine wpAnyH_take (i := 5) (oi := { dst := some 93, op := Op.binOp BinOp.sub 3 (Operand.tmp 90) (Operand.tmp 92) 3, type := 3, pos := "law.go:189", after := #[{ on := 2, ground := Ground.data }, { on := 4, ground := Ground.data }], guard := none }) (v := ?_) rfl (by kernel_rfl) (by kernel_rfl) (by kernel_rfl) (fun _ _ _ h => h) (Or.inl ⟨by rfl, ?_⟩) trivial ?_
            rotate_left
            · intro w9 hSw9; go_simp; try with_reducible rfl
            try simp only [Act.put]
            try simp only [List.setIfInBounds_toArray]
            try simp only [List.set_cons_zero]
            try simp only [List.set_cons_succ, List.set_cons_zero]
            refine wpAnyH_ready (rs := [1]) (by kernel_rfl) (by simp) ?_
            refine AllReadyH.cons (o := { dst := some 89, op := Op.call { callee := Callee.value (Operand.func 12), args := #[Operand.tmp 88], argTypes := #[24] }, type := 3, pos := "law.go:189", after := #[{ on := 0, ground := Ground.data }], guard := none }) rfl (fun K9 hK9 => ?_) AllReadyH.nil
            go_simp
            refine (len_n D7.out.drew (by rw [hnt.out]; omega) hnt.out).mono ?_
            rintro e w' ⟨rfl, rfl⟩
            refine hK9.out _ _ trivial (fun _ => ?_)
            clear hK9 K9
            try simp only [Act.put]
            try simp only [List.setIfInBounds_toArray]
            try simp only [List.set_cons_zero]
            try simp only [List.set_cons_succ, List.set_cons_zero]
            refine wpAnyH_take (i := 6) (oi := { dst := some 94, op := Op.binOp BinOp.eql 3 (Operand.tmp 89) (Operand.tmp 93) 3, type := 4, pos := "law.go:189", after := #[{ on := 1, ground := Ground.data }, { on := 5, ground := Ground.data }], guard := none }) (v := ?_) rfl (by kernel_rfl) (by kernel_rfl) (by kernel_rfl) (fun _ _ _ h => h) (Or.inl ⟨by rfl, ?_⟩) trivial ?_
            rotate_left
            · intro w9 hSw9; go_simp; try with_reducible rfl
            try simp only [Act.put]
            try simp only [List.setIfInBounds_toArray]
            try simp only [List.set_cons_zero]
            try simp only [List.set_cons_succ, List.set_cons_zero]
            refine wpAnyH_take (i := 7) (oi := { dst := some 95, op := Op.move (Operand.tmp 94), type := 4, pos := "law.go:189", after := #[{ on := 6, ground := Ground.data }, { on := 1, ground := Ground.chain }], guard := none }) (v := ?_) rfl (by kernel_rfl) (by kernel_rfl) (by kernel_rfl) (fun _ _ _ h => h) (Or.inl ⟨by rfl, ?_⟩) trivial ?_
            rotate_left
            · intro w9 hSw9; go_simp; try with_reducible rfl
            try simp only [Act.put]
            try simp only [List.setIfInBounds_toArray]
            try simp only [List.set_cons_zero]
            try simp only [List.set_cons_succ, List.set_cons_zero]
            refine wpAnyH_take (i := 8) (oi := { dst := some 96, op := Op.move (Operand.tmp 5), type := 24, pos := "law.go:189", after := #[{ on := 7, ground := Ground.guard }], guard := some (7, true) }) (v := ?_) rfl (by kernel_rfl) (by kernel_rfl) (by kernel_rfl) (fun _ _ _ h => h) (Or.inl ⟨by rfl, ?_⟩) trivial ?_
            rotate_left
            · intro w9 hSw9; go_simp; try with_reducible rfl
            try simp only [Act.put]
            try simp only [List.setIfInBounds_toArray]
            try simp only [List.set_cons_zero]
            try simp only [List.set_cons_succ, List.set_cons_zero]
            refine wpAnyH_take (i := 9) (oi := { dst := some 97, op := Op.move (Operand.tmp 1), type := 3, pos := "law.go:189", after := #[{ on := 7, ground := Ground.guard }], guard := some (7, true) }) (v := ?_) rfl (by kernel_rfl) (by kernel_rfl) (by kernel_rfl) (fun _ _ _ h => h) (Or.inl ⟨by rfl, ?_⟩) trivial ?_
            rotate_left
            · intro w9 hSw9; go_simp; try with_reducible rfl
            try simp only [Act.put]
            try simp only [List.setIfInBounds_toArray]
            try simp only [List.set_cons_zero]
            try simp only [List.set_cons_succ, List.set_cons_zero]
            refine wpAnyH_ready (rs := [10]) (by kernel_rfl) (by simp) ?_
            refine AllReadyH.cons (o := { dst := some 98, op := Op.call { callee := Callee.value (Operand.func 11), args := #[Operand.tmp 96, Operand.tmp 97], argTypes := #[24, 3] }, type := 31, pos := "law.go:189", after := #[{ on := 8, ground := Ground.data }, { on := 9, ground := Ground.data }, { on := 7, ground := Ground.chain }, { on := 7, ground := Ground.guard }], guard := some (7, true) }) rfl (fun K9 hK9 => ?_) AllReadyH.nil
            go_simp
            refine (ripe_n D7.out.drew S7.out (by rw [hnt.out]; omega) HOKR.out now HRN.out (n := 0) rfl).mono ?_
            rintro e w8 ⟨A1, c1, rfl, o1, b8⟩
            have D8 := Lib.hid (D7.out.drew.step b8)
            have S8 := Lib.hid (fun b h => Nat.lt_of_lt_of_le (S7.out b h) b8.size)
            refine hK9.out _ _ trivial (fun _ => ?_)
            clear hK9 K9
            try simp only [Act.put]
            try simp only [List.setIfInBounds_toArray]
            try simp only [List.set_cons_zero]
            try simp only [List.set_cons_succ, List.set_cons_zero]
            refine wpAnyH_take (i := 11) (oi := { dst := some 99, op := Op.call { callee := Callee.builtin Builtin.len, args := #[Operand.tmp 98], argTypes := #[31] }, type := 3, pos := "law.go:189", after := #[{ on := 10, ground := Ground.data }, { on := 7, ground := Ground.guard }], guard := some (7, true) }) (v := ?_) rfl (by kernel_rfl) (by kernel_rfl) (by kernel_rfl) (fun _ _ _ h => h) (Or.inl ⟨by rfl, ?_⟩) trivial ?_
            rotate_left
            · intro w9 hSw9; go_simp; try with_reducible rfl
            try simp only [Act.put]
            try simp only [List.setIfInBounds_toArray]
            try simp only [List.set_cons_zero]
            try simp only [List.set_cons_succ, List.set_cons_zero]
            refine wpAnyH_take (i := 12) (oi := { dst := some 100, op := Op.binOp BinOp.eql 3 (Operand.tmp 99) (Operand.const (Value.int IntKind.i64 0)) 3, type := 4, pos := "law.go:189", after := #[{ on := 11, ground := Ground.data }, { on := 7, ground := Ground.guard }], guard := some (7, true) }) (v := ?_) rfl (by kernel_rfl) (by kernel_rfl) (by kernel_rfl) (fun _ _ _ h => h) (Or.inl ⟨by rfl, ?_⟩) trivial ?_
            rotate_left
            · intro w9 hSw9; go_simp; try with_reducible rfl
            try simp only [Act.put]
            try simp only [List.setIfInBounds_toArray]
            try simp only [List.set_cons_zero]
            try simp only [List.set_cons_succ, List.set_cons_zero]
            refine wpAnyH_take (i := 13) (oi := { dst := some 101, op := Op.pick (Operand.tmp 95) (Operand.tmp 100) (Operand.const (Value.bool false)), type := 4, pos := "law.go:189", after := #[{ on := 7, ground := Ground.data }, { on := 12, ground := Ground.data }], guard := none }) (v := ?_) rfl (by kernel_rfl) (by kernel_rfl) (by kernel_rfl) (fun _ _ _ h => h) (Or.inl ⟨by rfl, ?_⟩) trivial ?_
            rotate_left
            · intro w9 hSw9; go_simp; try with_reducible rfl
            try simp only [Act.put]
            try simp only [List.setIfInBounds_toArray]
            try simp only [List.set_cons_zero]
            try simp only [List.set_cons_succ, List.set_cons_zero]
            refine wpAnyH_take (i := 14) (oi := { dst := some 102, op := Op.move (Operand.tmp 101), type := 4, pos := "law.go:189", after := #[{ on := 13, ground := Ground.data }, { on := 10, ground := Ground.chain }], guard := none }) (v := ?_) rfl (by kernel_rfl) (by kernel_rfl) (by kernel_rfl) (fun _ _ _ h => h) (Or.inl ⟨by rfl, ?_⟩) trivial ?_
            rotate_left
            · intro w9 hSw9; go_simp; try with_reducible rfl
            try simp only [Act.put]
            try simp only [List.setIfInBounds_toArray]
            try simp only [List.set_cons_zero]
            try simp only [List.set_cons_succ, List.set_cons_zero]
            refine wpAnyH_take (i := 15) (oi := { dst := some 103, op := Op.move (Operand.tmp 5), type := 24, pos := "law.go:189", after := #[{ on := 14, ground := Ground.guard }], guard := some (14, true) }) (v := ?_) rfl (by kernel_rfl) (by kernel_rfl) (by kernel_rfl) (fun _ _ _ h => h) (Or.inl ⟨by rfl, ?_⟩) trivial ?_
            rotate_left
            · intro w9 hSw9; go_simp; try with_reducible rfl
            try simp only [Act.put]
            try simp only [List.setIfInBounds_toArray]
            try simp only [List.set_cons_zero]
            try simp only [List.set_cons_succ, List.set_cons_zero]
            refine wpAnyH_take (i := 17) (oi := { dst := some 105, op := Op.move (Operand.tmp 7), type := 31, pos := "law.go:189", after := #[{ on := 14, ground := Ground.guard }], guard := some (14, true) }) (v := ?_) rfl (by kernel_rfl) (by kernel_rfl) (by kernel_rfl) (fun _ _ _ h => h) (Or.inl ⟨by rfl, ?_⟩) trivial ?_
            rotate_left
            · intro w9 hSw9; go_simp; try with_reducible rfl
            try simp only [Act.put]
            try simp only [List.setIfInBounds_toArray]
            try simp only [List.set_cons_zero]
            try simp only [List.set_cons_succ, List.set_cons_zero]
            refine wpAnyH_take (i := 18) (oi := { dst := some 106, op := Op.move (Operand.tmp 8), type := 31, pos := "law.go:189", after := #[{ on := 14, ground := Ground.guard }], guard := some (14, true) }) (v := ?_) rfl (by kernel_rfl) (by kernel_rfl) (by kernel_rfl) (fun _ _ _ h => h) (Or.inl ⟨by rfl, ?_⟩) trivial ?_
            rotate_left
            · intro w9 hSw9; go_simp; try with_reducible rfl
            try simp only [Act.put]
            try simp only [List.setIfInBounds_toArray]
            try simp only [List.set_cons_zero]
            try simp only [List.set_cons_succ, List.set_cons_zero]
            refine wpAnyH_take (i := 19) (oi := { dst := some 107, op := Op.call { callee := Callee.builtin Builtin.len, args := #[Operand.tmp 106], argTypes := #[31] }, type := 3, pos := "law.go:189", after := #[{ on := 18, ground := Ground.data }, { on := 14, ground := Ground.guard }], guard := some (14, true) }) (v := ?_) rfl (by kernel_rfl) (by kernel_rfl) (by kernel_rfl) (fun _ _ _ h => h) (Or.inl ⟨by rfl, ?_⟩) trivial ?_
            rotate_left
            · intro w9 hSw9; go_simp; try with_reducible rfl
            try simp only [Act.put]
            try simp only [List.setIfInBounds_toArray]
            try simp only [List.set_cons_zero]
            try simp only [List.set_cons_succ, List.set_cons_zero]
            refine wpAnyH_take (i := 20) (oi := { dst := some 108, op := Op.slice 31 (Operand.tmp 105) (some (Operand.tmp 107)) none none, type := 31, pos := "law.go:189", after := #[{ on := 17, ground := Ground.data }, { on := 19, ground := Ground.data }, { on := 14, ground := Ground.guard }], guard := some (14, true) }) (v := ?_) rfl (by kernel_rfl) (by kernel_rfl) (by kernel_rfl) (fun _ _ _ h => h) (Or.inl ⟨by rfl, ?_⟩) trivial ?_
            rotate_left
            · intro w9 hSw9; go_simp; try with_reducible rfl
            try simp only [Act.put]
            try simp only [List.setIfInBounds_toArray]
            try simp only [List.set_cons_zero]
            try simp only [List.set_cons_succ, List.set_cons_zero]
            refine wpAnyH_ready (rs := [16]) (by kernel_rfl) (by simp) ?_
            refine AllReadyH.cons (o := { dst := some 104, op := Op.call { callee := Callee.value (Operand.func 11), args := #[Operand.tmp 103, Operand.const (Value.int IntKind.i64 527039)], argTypes := #[24, 3] }, type := 31, pos := "law.go:189", after := #[{ on := 15, ground := Ground.data }, { on := 14, ground := Ground.chain }, { on := 14, ground := Ground.guard }], guard := some (14, true) }) rfl (fun K9 hK9 => ?_) AllReadyH.nil
            go_simp
            refine (ripe_n D8.out S8.out (by rw [hnt.out]; omega) HOKR.out 527039 HRA.out hnt.out).mono ?_
            rintro e w9 ⟨A2, c2, rfl, o2, b9⟩
            have OA9 := Lib.hid ((OA7.out.drew.keep b8).keep b9)
            have O2 := Lib.hid o2
            have B9 := Lib.hid (RetB.step (RetB.step (B7.out.drew) b8) b9)
            refine hK9.out _ _ trivial (fun _ => ?_)
            clear hK9 K9
            try simp only [Act.put]
            try simp only [List.setIfInBounds_toArray]
            try simp only [List.set_cons_zero]
            try simp only [List.set_cons_succ, List.set_cons_zero]
            refine wpAnyH_ready (rs := [21]) (by kernel_rfl) (by simp) ?_
            refine AllReadyH.cons (o := { dst := some 109, op := Op.call { callee := Callee.value (Operand.func 13), args := #[Operand.tmp 104, Operand.tmp 108], argTypes := #[31, 31] }, type := 4, pos := "law.go:189", after := #[{ on := 16, ground := Ground.data }, { on := 20, ground := Ground.data }, { on := 16, ground := Ground.chain }, { on := 14, ground := Ground.guard }], guard := some (14, true) }) rfl (fun K9 hK9 => ?_) AllReadyH.nil
            go_simp
            refine (texts_same O2.out.sl (by have h := (OA9.out.sl).drop_ (k := nr) (by omega); rw [HDK.out, Nat.zero_add, show nr * tStr.sz = nr from Nat.mul_one nr] at h; exact h) (by omega) (Nat.le_refl _) (Nat.le_refl _)).mono ?_
            rintro e w10 ⟨rfl, b10⟩
            refine hK9.out _ _ trivial (fun _ => ?_)
            clear hK9 K9
            try simp only [Act.put]
            try simp only [List.setIfInBounds_toArray]
            try simp only [List.set_cons_zero]
            try simp only [List.set_cons_succ, List.set_cons_zero]
            refine wpAnyH_take (i := 22) (oi := { dst := some 110, op := Op.pick (Operand.tmp 102) (Operand.tmp 109) (Operand.const (Value.bool false)), type := 4, pos := "law.go:189", after := #[{ on := 14, ground := Ground.data }, { on := 21, ground := Ground.data }], guard := none }) (v := ?_) rfl (by kernel_rfl) (by kernel_rfl) (by kernel_rfl) (fun _ _ _ h => h) (Or.inl ⟨by rfl, ?_⟩) trivial ?_
            rotate_left
            · intro w9 hSw9; go_simp; try with_reducible rfl
            try simp only [Act.put]
            try simp only [List.setIfInBounds_toArray]
            try simp only [List.set_cons_zero]
            try simp only [List.set_cons_succ, List.set_cons_zero]
            refine wpAnyH_take (i := 23) (oi := { dst := some 111, op := Op.move (Operand.tmp 110), type := 4, pos := "law.go:189", after := #[{ on := 22, ground := Ground.data }, { on := 21, ground := Ground.chain }], guard := none }) (v := ?_) rfl (by kernel_rfl) (by kernel_rfl) (by kernel_rfl) (fun _ _ _ h => h) (Or.inl ⟨by rfl, ?_⟩) trivial ?_
            rotate_left
            · intro w9 hSw9; go_simp; try with_reducible rfl
            try simp only [Act.put]
            try simp only [List.setIfInBounds_toArray]
            try simp only [List.set_cons_zero]
            try simp only [List.set_cons_succ, List.set_cons_zero]
            refine wpAnyH_take (i := 24) (oi := { dst := some 112, op := Op.move (Operand.tmp 11), type := 4, pos := "law.go:189", after := #[{ on := 23, ground := Ground.guard }], guard := some (23, true) }) (v := ?_) rfl (by kernel_rfl) (by kernel_rfl) (by kernel_rfl) (fun _ _ _ h => h) (Or.inl ⟨by rfl, ?_⟩) trivial ?_
            rotate_left
            · intro w9 hSw9; go_simp; try with_reducible rfl
            try simp only [Act.put]
            try simp only [List.setIfInBounds_toArray]
            try simp only [List.set_cons_zero]
            try simp only [List.set_cons_succ, List.set_cons_zero]
            refine wpAnyH_take (i := 25) (oi := { dst := some 113, op := Op.unOp UnOp.not 4 (Operand.tmp 112), type := 4, pos := "law.go:189", after := #[{ on := 24, ground := Ground.data }, { on := 23, ground := Ground.guard }], guard := some (23, true) }) (v := ?_) rfl (by kernel_rfl) (by kernel_rfl) (by kernel_rfl) (fun _ _ _ h => h) (Or.inl ⟨by rfl, ?_⟩) trivial ?_
            rotate_left
            · intro w9 hSw9; go_simp; try with_reducible rfl
            try simp only [Act.put]
            try simp only [List.setIfInBounds_toArray]
            try simp only [List.set_cons_zero]
            try simp only [List.set_cons_succ, List.set_cons_zero]
            refine wpAnyH_take (i := 26) (oi := { dst := some 114, op := Op.move (Operand.tmp 113), type := 4, pos := "law.go:189", after := #[{ on := 25, ground := Ground.data }, { on := 23, ground := Ground.chain }, { on := 23, ground := Ground.guard }], guard := some (23, true) }) (v := ?_) rfl (by kernel_rfl) (by kernel_rfl) (by kernel_rfl) (fun _ _ _ h => h) (Or.inl ⟨by rfl, ?_⟩) trivial ?_
            rotate_left
            · intro w9 hSw9; go_simp; try with_reducible rfl
            try simp only [Act.put]
            try simp only [List.setIfInBounds_toArray]
            try simp only [List.set_cons_zero]
            try simp only [List.set_cons_succ, List.set_cons_zero]
            refine wpAnyH_take (i := 27) (oi := { dst := some 115, op := Op.move (Operand.tmp 10), type := 3, pos := "law.go:189", after := #[{ on := 26, ground := Ground.guard }], guard := some (26, false) }) (v := undef) rfl (by kernel_rfl) (by kernel_rfl) (by kernel_rfl) (fun _ _ _ h => h) (Or.inr ⟨by rfl, rfl⟩) trivial ?_
            try simp only [Act.put]
            try simp only [List.setIfInBounds_toArray]
            try simp only [List.set_cons_zero]
            try simp only [List.set_cons_succ, List.set_cons_zero]
            refine wpAnyH_take (i := 28) (oi := { dst := some 116, op := Op.move (Operand.tmp 1), type := 3, pos := "law.go:189", after := #[{ on := 26, ground := Ground.guard }], guard := some (26, false) }) (v := undef) rfl (by kernel_rfl) (by kernel_rfl) (by kernel_rfl) (fun _ _ _ h => h) (Or.inr ⟨by rfl, rfl⟩) trivial ?_
            try simp only [Act.put]
            try simp only [List.setIfInBounds_toArray]
            try simp only [List.set_cons_zero]
            try simp only [List.set_cons_succ, List.set_cons_zero]
            refine wpAnyH_take (i := 29) (oi := { dst := some 117, op := Op.binOp BinOp.gtr 3 (Operand.tmp 115) (Operand.tmp 116) 3, type := 4, pos := "law.go:189", after := #[{ on := 27, ground := Ground.data }, { on := 28, ground := Ground.data }, { on := 26, ground := Ground.guard }], guard := some (26, false) }) (v := undef) rfl (by kernel_rfl) (by kernel_rfl) (by kernel_rfl) (fun _ _ _ h => h) (Or.inr ⟨by rfl, rfl⟩) trivial ?_
            try simp only [Act.put]
            try simp only [List.setIfInBounds_toArray]
            try simp only [List.set_cons_zero]
            try simp only [List.set_cons_succ, List.set_cons_zero]
            refine wpAnyH_take (i := 30) (oi := { dst := some 118, op := Op.pick (Operand.tmp 114) (Operand.const (Value.bool true)) (Operand.tmp 117), type := 4, pos := "law.go:189", after := #[{ on := 26, ground := Ground.data }, { on := 29, ground := Ground.data }, { on := 23, ground := Ground.guard }], guard := some (23, true) }) (v := ?_) rfl (by kernel_rfl) (by kernel_rfl) (by kernel_rfl) (fun _ _ _ h => h) (Or.inl ⟨by rfl, ?_⟩) trivial ?_
            rotate_left
            · intro w9 hSw9; go_simp; try with_reducible rfl
            try simp only [Act.put]
            try simp only [List.setIfInBounds_toArray]
            try simp only [List.set_cons_zero]
            try simp only [List.set_cons_succ, List.set_cons_zero]
            refine wpAnyH_take (i := 31) (oi := { dst := some 119, op := Op.pick (Operand.tmp 111) (Operand.tmp 118) (Operand.const (Value.bool false)), type := 4, pos := "law.go:189", after := #[{ on := 23, ground := Ground.data }, { on := 30, ground := Ground.data }], guard := none }) (v := ?_) rfl (by kernel_rfl) (by kernel_rfl) (by kernel_rfl) (fun _ _ _ h => h) (Or.inl ⟨by rfl, ?_⟩) trivial ?_
            rotate_left
            · intro w9 hSw9; go_simp; try with_reducible rfl
            try simp only [Act.put]
            try simp only [List.setIfInBounds_toArray]
            try simp only [List.set_cons_zero]
            try simp only [List.set_cons_succ, List.set_cons_zero]
            refine wpAnyH_take (i := 32) (oi := { dst := some 4, op := Op.assign (Operand.tmp 119), type := 4, pos := "law.go:189", after := #[{ on := 31, ground := Ground.data }, { on := 26, ground := Ground.chain }, { on := 0, ground := Ground.phase }, { on := 1, ground := Ground.phase }, { on := 2, ground := Ground.phase }, { on := 3, ground := Ground.phase }, { on := 4, ground := Ground.phase }, { on := 5, ground := Ground.phase }, { on := 6, ground := Ground.phase }, { on := 7, ground := Ground.phase }, { on := 8, ground := Ground.phase }, { on := 9, ground := Ground.phase }, { on := 10, ground := Ground.phase }, { on := 11, ground := Ground.phase }, { on := 12, ground := Ground.phase }, { on := 13, ground := Ground.phase }, { on := 14, ground := Ground.phase }, { on := 15, ground := Ground.phase }, { on := 16, ground := Ground.phase }, { on := 17, ground := Ground.phase }, { on := 18, ground := Ground.phase }, { on := 19, ground := Ground.phase }, { on := 20, ground := Ground.phase }, { on := 21, ground := Ground.phase }, { on := 22, ground := Ground.phase }, { on := 23, ground := Ground.phase }, { on := 24, ground := Ground.phase }, { on := 25, ground := Ground.phase }, { on := 26, ground := Ground.phase }, { on := 27, ground := Ground.phase }, { on := 28, ground := Ground.phase }, { on := 29, ground := Ground.phase }, { on := 30, ground := Ground.phase }, { on := 31, ground := Ground.phase }], guard := none }) (v := ?_) rfl (by kernel_rfl) (by kernel_rfl) (by kernel_rfl) (fun _ _ _ h => h) (Or.inl ⟨by rfl, ?_⟩) trivial ?_
            rotate_left
            · intro w9 hSw9; go_simp; try with_reducible rfl
            try simp only [Act.put]
            try simp only [List.setIfInBounds_toArray]
            try simp only [List.set_cons_zero]
            try simp only [List.set_cons_succ, List.set_cons_zero]
            refine wpAnyH_done (by kernel_rfl) ?_ _
            go_wp2
            go_ret
            exact ⟨rfl, RetB.step B9.out b10⟩
          | true =>
            have hmn : now < mv := HMN.out rfl
            refine wp_region_held_drew (S := fun _ => True) (by kernel_rfl) trivial (fun _ => ?_)
            refine wpAnyH_take (i := 0) (oi := { dst := some 88, op := Op.move (Operand.tmp 5), type := 24, pos := "law.go:189", after := #[], guard := none }) (v := ?_) rfl (by kernel_rfl) (by kernel_rfl) (by kernel_rfl) (fun _ _ _ h => h) (Or.inl ⟨by rfl, ?_⟩) trivial ?_
            rotate_left
            · intro w9 hSw9; go_simp; try with_reducible rfl
            try simp only [Act.put]
            try simp only [List.setIfInBounds_toArray]
            try simp only [List.set_cons_zero]
            try simp only [List.set_cons_succ, List.set_cons_zero]
            refine wpAnyH_take (i := 2) (oi := { dst := some 90, op := Op.move (Operand.tmp 9), type := 3, pos := "law.go:189", after := #[], guard := none }) (v := ?_) rfl (by kernel_rfl) (by kernel_rfl) (by kernel_rfl) (fun _ _ _ h => h) (Or.inl ⟨by rfl, ?_⟩) trivial ?_
            rotate_left
            · intro w9 hSw9; go_simp; try with_reducible rfl
            try simp only [Act.put]
            try simp only [List.setIfInBounds_toArray]
            try simp only [List.set_cons_zero]
            try simp only [List.set_cons_succ, List.set_cons_zero]
            refine wpAnyH_take (i := 3) (oi := { dst := some 91, op := Op.move (Operand.tmp 8), type := 31, pos := "law.go:189", after := #[], guard := none }) (v := ?_) rfl (by kernel_rfl) (by kernel_rfl) (by kernel_rfl) (fun _ _ _ h => h) (Or.inl ⟨by rfl, ?_⟩) trivial ?_
            rotate_left
            · intro w9 hSw9; go_simp; try with_reducible rfl
            try simp only [Act.put]
            try simp only [List.setIfInBounds_toArray]
            try simp only [List.set_cons_zero]
            try simp only [List.set_cons_succ, List.set_cons_zero]
            refine wpAnyH_take (i := 4) (oi := { dst := some 92, op := Op.call { callee := Callee.builtin Builtin.len, args := #[Operand.tmp 91], argTypes := #[31] }, type := 3, pos := "law.go:189", after := #[{ on := 3, ground := Ground.data }], guard := none }) (v := ?_) rfl (by kernel_rfl) (by kernel_rfl) (by kernel_rfl) (fun _ _ _ h => h) (Or.inl ⟨by rfl, ?_⟩) trivial ?_
            rotate_left
            · intro w9 hSw9; go_simp; try with_reducible rfl
            try simp only [Act.put]
            try simp only [List.setIfInBounds_toArray]
            try simp only [List.set_cons_zero]
            try simp only [List.set_cons_succ, List.set_cons_zero]
            refine wpAnyH_take (i := 5) (oi := { dst := some 93, op := Op.binOp BinOp.sub 3 (Operand.tmp 90) (Operand.tmp 92) 3, type := 3, pos := "law.go:189", after := #[{ on := 2, ground := Ground.data }, { on := 4, ground := Ground.data }], guard := none }) (v := ?_) rfl (by kernel_rfl) (by kernel_rfl) (by kernel_rfl) (fun _ _ _ h => h) (Or.inl ⟨by rfl, ?_⟩) trivial ?_
            rotate_left
            · intro w9 hSw9; go_simp; try with_reducible rfl
            try simp only [Act.put]
            try simp only [List.setIfInBounds_toArray]
            try simp only [List.set_cons_zero]
            try simp only [List.set_cons_succ, List.set_cons_zero]
            refine wpAnyH_ready (rs := [1]) (by kernel_rfl) (by simp) ?_
            refine AllReadyH.cons (o := { dst := some 89, op := Op.call { callee := Callee.value (Operand.func 12), args := #[Operand.tmp 88], argTypes := #[24] }, type := 3, pos := "law.go:189", after := #[{ on := 0, ground := Ground.data }], guard := none }) rfl (fun K9 hK9 => ?_) AllReadyH.nil
            go_simp
            refine (len_n D7.out.drew (by rw [hnt.out]; omega) hnt.out).mono ?_
            rintro e w' ⟨rfl, rfl⟩
            refine hK9.out _ _ trivial (fun _ => ?_)
            clear hK9 K9
            try simp only [Act.put]
            try simp only [List.setIfInBounds_toArray]
            try simp only [List.set_cons_zero]
            try simp only [List.set_cons_succ, List.set_cons_zero]
            refine wpAnyH_take (i := 6) (oi := { dst := some 94, op := Op.binOp BinOp.eql 3 (Operand.tmp 89) (Operand.tmp 93) 3, type := 4, pos := "law.go:189", after := #[{ on := 1, ground := Ground.data }, { on := 5, ground := Ground.data }], guard := none }) (v := ?_) rfl (by kernel_rfl) (by kernel_rfl) (by kernel_rfl) (fun _ _ _ h => h) (Or.inl ⟨by rfl, ?_⟩) trivial ?_
            rotate_left
            · intro w9 hSw9; go_simp; try with_reducible rfl
            try simp only [Act.put]
            try simp only [List.setIfInBounds_toArray]
            try simp only [List.set_cons_zero]
            try simp only [List.set_cons_succ, List.set_cons_zero]
            refine wpAnyH_take (i := 7) (oi := { dst := some 95, op := Op.move (Operand.tmp 94), type := 4, pos := "law.go:189", after := #[{ on := 6, ground := Ground.data }, { on := 1, ground := Ground.chain }], guard := none }) (v := ?_) rfl (by kernel_rfl) (by kernel_rfl) (by kernel_rfl) (fun _ _ _ h => h) (Or.inl ⟨by rfl, ?_⟩) trivial ?_
            rotate_left
            · intro w9 hSw9; go_simp; try with_reducible rfl
            try simp only [Act.put]
            try simp only [List.setIfInBounds_toArray]
            try simp only [List.set_cons_zero]
            try simp only [List.set_cons_succ, List.set_cons_zero]
            refine wpAnyH_take (i := 8) (oi := { dst := some 96, op := Op.move (Operand.tmp 5), type := 24, pos := "law.go:189", after := #[{ on := 7, ground := Ground.guard }], guard := some (7, true) }) (v := ?_) rfl (by kernel_rfl) (by kernel_rfl) (by kernel_rfl) (fun _ _ _ h => h) (Or.inl ⟨by rfl, ?_⟩) trivial ?_
            rotate_left
            · intro w9 hSw9; go_simp; try with_reducible rfl
            try simp only [Act.put]
            try simp only [List.setIfInBounds_toArray]
            try simp only [List.set_cons_zero]
            try simp only [List.set_cons_succ, List.set_cons_zero]
            refine wpAnyH_take (i := 9) (oi := { dst := some 97, op := Op.move (Operand.tmp 1), type := 3, pos := "law.go:189", after := #[{ on := 7, ground := Ground.guard }], guard := some (7, true) }) (v := ?_) rfl (by kernel_rfl) (by kernel_rfl) (by kernel_rfl) (fun _ _ _ h => h) (Or.inl ⟨by rfl, ?_⟩) trivial ?_
            rotate_left
            · intro w9 hSw9; go_simp; try with_reducible rfl
            try simp only [Act.put]
            try simp only [List.setIfInBounds_toArray]
            try simp only [List.set_cons_zero]
            try simp only [List.set_cons_succ, List.set_cons_zero]
            refine wpAnyH_ready (rs := [10]) (by kernel_rfl) (by simp) ?_
            refine AllReadyH.cons (o := { dst := some 98, op := Op.call { callee := Callee.value (Operand.func 11), args := #[Operand.tmp 96, Operand.tmp 97], argTypes := #[24, 3] }, type := 31, pos := "law.go:189", after := #[{ on := 8, ground := Ground.data }, { on := 9, ground := Ground.data }, { on := 7, ground := Ground.chain }, { on := 7, ground := Ground.guard }], guard := some (7, true) }) rfl (fun K9 hK9 => ?_) AllReadyH.nil
            go_simp
            refine (ripe_n D7.out.drew S7.out (by rw [hnt.out]; omega) HOKR.out now HRN.out (n := 0) rfl).mono ?_
            rintro e w8 ⟨A1, c1, rfl, o1, b8⟩
            have D8 := Lib.hid (D7.out.drew.step b8)
            have S8 := Lib.hid (fun b h => Nat.lt_of_lt_of_le (S7.out b h) b8.size)
            refine hK9.out _ _ trivial (fun _ => ?_)
            clear hK9 K9
            try simp only [Act.put]
            try simp only [List.setIfInBounds_toArray]
            try simp only [List.set_cons_zero]
            try simp only [List.set_cons_succ, List.set_cons_zero]
            refine wpAnyH_take (i := 11) (oi := { dst := some 99, op := Op.call { callee := Callee.builtin Builtin.len, args := #[Operand.tmp 98], argTypes := #[31] }, type := 3, pos := "law.go:189", after := #[{ on := 10, ground := Ground.data }, { on := 7, ground := Ground.guard }], guard := some (7, true) }) (v := ?_) rfl (by kernel_rfl) (by kernel_rfl) (by kernel_rfl) (fun _ _ _ h => h) (Or.inl ⟨by rfl, ?_⟩) trivial ?_
            rotate_left
            · intro w9 hSw9; go_simp; try with_reducible rfl
            try simp only [Act.put]
            try simp only [List.setIfInBounds_toArray]
            try simp only [List.set_cons_zero]
            try simp only [List.set_cons_succ, List.set_cons_zero]
            refine wpAnyH_take (i := 12) (oi := { dst := some 100, op := Op.binOp BinOp.eql 3 (Operand.tmp 99) (Operand.const (Value.int IntKind.i64 0)) 3, type := 4, pos := "law.go:189", after := #[{ on := 11, ground := Ground.data }, { on := 7, ground := Ground.guard }], guard := some (7, true) }) (v := ?_) rfl (by kernel_rfl) (by kernel_rfl) (by kernel_rfl) (fun _ _ _ h => h) (Or.inl ⟨by rfl, ?_⟩) trivial ?_
            rotate_left
            · intro w9 hSw9; go_simp; try with_reducible rfl
            try simp only [Act.put]
            try simp only [List.setIfInBounds_toArray]
            try simp only [List.set_cons_zero]
            try simp only [List.set_cons_succ, List.set_cons_zero]
            refine wpAnyH_take (i := 13) (oi := { dst := some 101, op := Op.pick (Operand.tmp 95) (Operand.tmp 100) (Operand.const (Value.bool false)), type := 4, pos := "law.go:189", after := #[{ on := 7, ground := Ground.data }, { on := 12, ground := Ground.data }], guard := none }) (v := ?_) rfl (by kernel_rfl) (by kernel_rfl) (by kernel_rfl) (fun _ _ _ h => h) (Or.inl ⟨by rfl, ?_⟩) trivial ?_
            rotate_left
            · intro w9 hSw9; go_simp; try with_reducible rfl
            try simp only [Act.put]
            try simp only [List.setIfInBounds_toArray]
            try simp only [List.set_cons_zero]
            try simp only [List.set_cons_succ, List.set_cons_zero]
            refine wpAnyH_take (i := 14) (oi := { dst := some 102, op := Op.move (Operand.tmp 101), type := 4, pos := "law.go:189", after := #[{ on := 13, ground := Ground.data }, { on := 10, ground := Ground.chain }], guard := none }) (v := ?_) rfl (by kernel_rfl) (by kernel_rfl) (by kernel_rfl) (fun _ _ _ h => h) (Or.inl ⟨by rfl, ?_⟩) trivial ?_
            rotate_left
            · intro w9 hSw9; go_simp; try with_reducible rfl
            try simp only [Act.put]
            try simp only [List.setIfInBounds_toArray]
            try simp only [List.set_cons_zero]
            try simp only [List.set_cons_succ, List.set_cons_zero]
            refine wpAnyH_take (i := 15) (oi := { dst := some 103, op := Op.move (Operand.tmp 5), type := 24, pos := "law.go:189", after := #[{ on := 14, ground := Ground.guard }], guard := some (14, true) }) (v := ?_) rfl (by kernel_rfl) (by kernel_rfl) (by kernel_rfl) (fun _ _ _ h => h) (Or.inl ⟨by rfl, ?_⟩) trivial ?_
            rotate_left
            · intro w9 hSw9; go_simp; try with_reducible rfl
            try simp only [Act.put]
            try simp only [List.setIfInBounds_toArray]
            try simp only [List.set_cons_zero]
            try simp only [List.set_cons_succ, List.set_cons_zero]
            refine wpAnyH_take (i := 17) (oi := { dst := some 105, op := Op.move (Operand.tmp 7), type := 31, pos := "law.go:189", after := #[{ on := 14, ground := Ground.guard }], guard := some (14, true) }) (v := ?_) rfl (by kernel_rfl) (by kernel_rfl) (by kernel_rfl) (fun _ _ _ h => h) (Or.inl ⟨by rfl, ?_⟩) trivial ?_
            rotate_left
            · intro w9 hSw9; go_simp; try with_reducible rfl
            try simp only [Act.put]
            try simp only [List.setIfInBounds_toArray]
            try simp only [List.set_cons_zero]
            try simp only [List.set_cons_succ, List.set_cons_zero]
            refine wpAnyH_take (i := 18) (oi := { dst := some 106, op := Op.move (Operand.tmp 8), type := 31, pos := "law.go:189", after := #[{ on := 14, ground := Ground.guard }], guard := some (14, true) }) (v := ?_) rfl (by kernel_rfl) (by kernel_rfl) (by kernel_rfl) (fun _ _ _ h => h) (Or.inl ⟨by rfl, ?_⟩) trivial ?_
            rotate_left
            · intro w9 hSw9; go_simp; try with_reducible rfl
            try simp only [Act.put]
            try simp only [List.setIfInBounds_toArray]
            try simp only [List.set_cons_zero]
            try simp only [List.set_cons_succ, List.set_cons_zero]
            refine wpAnyH_take (i := 19) (oi := { dst := some 107, op := Op.call { callee := Callee.builtin Builtin.len, args := #[Operand.tmp 106], argTypes := #[31] }, type := 3, pos := "law.go:189", after := #[{ on := 18, ground := Ground.data }, { on := 14, ground := Ground.guard }], guard := some (14, true) }) (v := ?_) rfl (by kernel_rfl) (by kernel_rfl) (by kernel_rfl) (fun _ _ _ h => h) (Or.inl ⟨by rfl, ?_⟩) trivial ?_
            rotate_left
            · intro w9 hSw9; go_simp; try with_reducible rfl
            try simp only [Act.put]
            try simp only [List.setIfInBounds_toArray]
            try simp only [List.set_cons_zero]
            try simp only [List.set_cons_succ, List.set_cons_zero]
            refine wpAnyH_take (i := 20) (oi := { dst := some 108, op := Op.slice 31 (Operand.tmp 105) (some (Operand.tmp 107)) none none, type := 31, pos := "law.go:189", after := #[{ on := 17, ground := Ground.data }, { on := 19, ground := Ground.data }, { on := 14, ground := Ground.guard }], guard := some (14, true) }) (v := ?_) rfl (by kernel_rfl) (by kernel_rfl) (by kernel_rfl) (fun _ _ _ h => h) (Or.inl ⟨by rfl, ?_⟩) trivial ?_
            rotate_left
            · intro w9 hSw9; go_simp; try with_reducible rfl
            try simp only [Act.put]
            try simp only [List.setIfInBounds_toArray]
            try simp only [List.set_cons_zero]
            try simp only [List.set_cons_succ, List.set_cons_zero]
            refine wpAnyH_ready (rs := [16]) (by kernel_rfl) (by simp) ?_
            refine AllReadyH.cons (o := { dst := some 104, op := Op.call { callee := Callee.value (Operand.func 11), args := #[Operand.tmp 103, Operand.const (Value.int IntKind.i64 527039)], argTypes := #[24, 3] }, type := 31, pos := "law.go:189", after := #[{ on := 15, ground := Ground.data }, { on := 14, ground := Ground.chain }, { on := 14, ground := Ground.guard }], guard := some (14, true) }) rfl (fun K9 hK9 => ?_) AllReadyH.nil
            go_simp
            refine (ripe_n D8.out S8.out (by rw [hnt.out]; omega) HOKR.out 527039 HRA.out hnt.out).mono ?_
            rintro e w9 ⟨A2, c2, rfl, o2, b9⟩
            have OA9 := Lib.hid ((OA7.out.drew.keep b8).keep b9)
            have O2 := Lib.hid o2
            have B9 := Lib.hid (RetB.step (RetB.step (B7.out.drew) b8) b9)
            refine hK9.out _ _ trivial (fun _ => ?_)
            clear hK9 K9
            try simp only [Act.put]
            try simp only [List.setIfInBounds_toArray]
            try simp only [List.set_cons_zero]
            try simp only [List.set_cons_succ, List.set_cons_zero]
            refine wpAnyH_ready (rs := [21]) (by kernel_rfl) (by simp) ?_
            refine AllReadyH.cons (o := { dst := some 109, op := Op.call { callee := Callee.value (Operand.func 13), args := #[Operand.tmp 104, Operand.tmp 108], argTypes := #[31, 31] }, type := 4, pos := "law.go:189", after := #[{ on := 16, ground := Ground.data }, { on := 20, ground := Ground.data }, { on := 16, ground := Ground.chain }, { on := 14, ground := Ground.guard }], guard := some (14, true) }) rfl (fun K9 hK9 => ?_) AllReadyH.nil
            go_simp
            refine (texts_same O2.out.sl (by have h := (OA9.out.sl).drop_ (k := nr) (by omega); rw [HDK.out, Nat.zero_add, show nr * tStr.sz = nr from Nat.mul_one nr] at h; exact h) (by omega) (Nat.le_refl _) (Nat.le_refl _)).mono ?_
            rintro e w10 ⟨rfl, b10⟩
            refine hK9.out _ _ trivial (fun _ => ?_)
            clear hK9 K9
            try simp only [Act.put]
            try simp only [List.setIfInBounds_toArray]
            try simp only [List.set_cons_zero]
            try simp only [List.set_cons_succ, List.set_cons_zero]
            refine wpAnyH_take (i := 22) (oi := { dst := some 110, op := Op.pick (Operand.tmp 102) (Operand.tmp 109) (Operand.const (Value.bool false)), type := 4, pos := "law.go:189", after := #[{ on := 14, ground := Ground.data }, { on := 21, ground := Ground.data }], guard := none }) (v := ?_) rfl (by kernel_rfl) (by kernel_rfl) (by kernel_rfl) (fun _ _ _ h => h) (Or.inl ⟨by rfl, ?_⟩) trivial ?_
            rotate_left
            · intro w9 hSw9; go_simp; try with_reducible rfl
            try simp only [Act.put]
            try simp only [List.setIfInBounds_toArray]
            try simp only [List.set_cons_zero]
            try simp only [List.set_cons_succ, List.set_cons_zero]
            refine wpAnyH_take (i := 23) (oi := { dst := some 111, op := Op.move (Operand.tmp 110), type := 4, pos := "law.go:189", after := #[{ on := 22, ground := Ground.data }, { on := 21, ground := Ground.chain }], guard := none }) (v := ?_) rfl (by kernel_rfl) (by kernel_rfl) (by kernel_rfl) (fun _ _ _ h => h) (Or.inl ⟨by rfl, ?_⟩) trivial ?_
            rotate_left
            · intro w9 hSw9; go_simp; try with_reducible rfl
            try simp only [Act.put]
            try simp only [List.setIfInBounds_toArray]
            try simp only [List.set_cons_zero]
            try simp only [List.set_cons_succ, List.set_cons_zero]
            refine wpAnyH_take (i := 24) (oi := { dst := some 112, op := Op.move (Operand.tmp 11), type := 4, pos := "law.go:189", after := #[{ on := 23, ground := Ground.guard }], guard := some (23, true) }) (v := ?_) rfl (by kernel_rfl) (by kernel_rfl) (by kernel_rfl) (fun _ _ _ h => h) (Or.inl ⟨by rfl, ?_⟩) trivial ?_
            rotate_left
            · intro w9 hSw9; go_simp; try with_reducible rfl
            try simp only [Act.put]
            try simp only [List.setIfInBounds_toArray]
            try simp only [List.set_cons_zero]
            try simp only [List.set_cons_succ, List.set_cons_zero]
            refine wpAnyH_take (i := 25) (oi := { dst := some 113, op := Op.unOp UnOp.not 4 (Operand.tmp 112), type := 4, pos := "law.go:189", after := #[{ on := 24, ground := Ground.data }, { on := 23, ground := Ground.guard }], guard := some (23, true) }) (v := ?_) rfl (by kernel_rfl) (by kernel_rfl) (by kernel_rfl) (fun _ _ _ h => h) (Or.inl ⟨by rfl, ?_⟩) trivial ?_
            rotate_left
            · intro w9 hSw9; go_simp; try with_reducible rfl
            try simp only [Act.put]
            try simp only [List.setIfInBounds_toArray]
            try simp only [List.set_cons_zero]
            try simp only [List.set_cons_succ, List.set_cons_zero]
            refine wpAnyH_take (i := 26) (oi := { dst := some 114, op := Op.move (Operand.tmp 113), type := 4, pos := "law.go:189", after := #[{ on := 25, ground := Ground.data }, { on := 23, ground := Ground.chain }, { on := 23, ground := Ground.guard }], guard := some (23, true) }) (v := ?_) rfl (by kernel_rfl) (by kernel_rfl) (by kernel_rfl) (fun _ _ _ h => h) (Or.inl ⟨by rfl, ?_⟩) trivial ?_
            rotate_left
            · intro w9 hSw9; go_simp; try with_reducible rfl
            try simp only [Act.put]
            try simp only [List.setIfInBounds_toArray]
            try simp only [List.set_cons_zero]
            try simp only [List.set_cons_succ, List.set_cons_zero]
            refine wpAnyH_take (i := 27) (oi := { dst := some 115, op := Op.move (Operand.tmp 10), type := 3, pos := "law.go:189", after := #[{ on := 26, ground := Ground.guard }], guard := some (26, false) }) (v := ?_) rfl (by kernel_rfl) (by kernel_rfl) (by kernel_rfl) (fun _ _ _ h => h) (Or.inl ⟨by rfl, ?_⟩) trivial ?_
            rotate_left
            · intro w9 hSw9; go_simp; try with_reducible rfl
            try simp only [Act.put]
            try simp only [List.setIfInBounds_toArray]
            try simp only [List.set_cons_zero]
            try simp only [List.set_cons_succ, List.set_cons_zero]
            refine wpAnyH_take (i := 28) (oi := { dst := some 116, op := Op.move (Operand.tmp 1), type := 3, pos := "law.go:189", after := #[{ on := 26, ground := Ground.guard }], guard := some (26, false) }) (v := ?_) rfl (by kernel_rfl) (by kernel_rfl) (by kernel_rfl) (fun _ _ _ h => h) (Or.inl ⟨by rfl, ?_⟩) trivial ?_
            rotate_left
            · intro w9 hSw9; go_simp; try with_reducible rfl
            try simp only [Act.put]
            try simp only [List.setIfInBounds_toArray]
            try simp only [List.set_cons_zero]
            try simp only [List.set_cons_succ, List.set_cons_zero]
            refine wpAnyH_take (i := 29) (oi := { dst := some 117, op := Op.binOp BinOp.gtr 3 (Operand.tmp 115) (Operand.tmp 116) 3, type := 4, pos := "law.go:189", after := #[{ on := 27, ground := Ground.data }, { on := 28, ground := Ground.data }, { on := 26, ground := Ground.guard }], guard := some (26, false) }) (v := ?_) rfl (by kernel_rfl) (by kernel_rfl) (by kernel_rfl) (fun _ _ _ h => h) (Or.inl ⟨by rfl, ?_⟩) trivial ?_
            rotate_left
            · intro w9 hSw9; go_simp; try with_reducible rfl
            try simp only [Act.put]
            try simp only [List.setIfInBounds_toArray]
            try simp only [List.set_cons_zero]
            try simp only [List.set_cons_succ, List.set_cons_zero]
            refine wpAnyH_take (i := 30) (oi := { dst := some 118, op := Op.pick (Operand.tmp 114) (Operand.const (Value.bool true)) (Operand.tmp 117), type := 4, pos := "law.go:189", after := #[{ on := 26, ground := Ground.data }, { on := 29, ground := Ground.data }, { on := 23, ground := Ground.guard }], guard := some (23, true) }) (v := ?_) rfl (by kernel_rfl) (by kernel_rfl) (by kernel_rfl) (fun _ _ _ h => h) (Or.inl ⟨by rfl, ?_⟩) trivial ?_
            rotate_left
            · intro w9 hSw9; go_simp; try with_reducible rfl
            try simp only [Act.put]
            try simp only [List.setIfInBounds_toArray]
            try simp only [List.set_cons_zero]
            try simp only [List.set_cons_succ, List.set_cons_zero]
            refine wpAnyH_take (i := 31) (oi := { dst := some 119, op := Op.pick (Operand.tmp 111) (Operand.tmp 118) (Operand.const (Value.bool false)), type := 4, pos := "law.go:189", after := #[{ on := 23, ground := Ground.data }, { on := 30, ground := Ground.data }], guard := none }) (v := ?_) rfl (by kernel_rfl) (by kernel_rfl) (by kernel_rfl) (fun _ _ _ h => h) (Or.inl ⟨by rfl, ?_⟩) trivial ?_
            rotate_left
            · intro w9 hSw9; go_simp; try with_reducible rfl
            try simp only [Act.put]
            try simp only [List.setIfInBounds_toArray]
            try simp only [List.set_cons_zero]
            try simp only [List.set_cons_succ, List.set_cons_zero]
            refine wpAnyH_take (i := 32) (oi := { dst := some 4, op := Op.assign (Operand.tmp 119), type := 4, pos := "law.go:189", after := #[{ on := 31, ground := Ground.data }, { on := 26, ground := Ground.chain }, { on := 0, ground := Ground.phase }, { on := 1, ground := Ground.phase }, { on := 2, ground := Ground.phase }, { on := 3, ground := Ground.phase }, { on := 4, ground := Ground.phase }, { on := 5, ground := Ground.phase }, { on := 6, ground := Ground.phase }, { on := 7, ground := Ground.phase }, { on := 8, ground := Ground.phase }, { on := 9, ground := Ground.phase }, { on := 10, ground := Ground.phase }, { on := 11, ground := Ground.phase }, { on := 12, ground := Ground.phase }, { on := 13, ground := Ground.phase }, { on := 14, ground := Ground.phase }, { on := 15, ground := Ground.phase }, { on := 16, ground := Ground.phase }, { on := 17, ground := Ground.phase }, { on := 18, ground := Ground.phase }, { on := 19, ground := Ground.phase }, { on := 20, ground := Ground.phase }, { on := 21, ground := Ground.phase }, { on := 22, ground := Ground.phase }, { on := 23, ground := Ground.phase }, { on := 24, ground := Ground.phase }, { on := 25, ground := Ground.phase }, { on := 26, ground := Ground.phase }, { on := 27, ground := Ground.phase }, { on := 28, ground := Ground.phase }, { on := 29, ground := Ground.phase }, { on := 30, ground := Ground.phase }, { on := 31, ground := Ground.phase }], guard := none }) (v := ?_) rfl (by kernel_rfl) (by kernel_rfl) (by kernel_rfl) (fun _ _ _ h => h) (Or.inl ⟨by rfl, ?_⟩) trivial ?_
            rotate_left
            · intro w9 hSw9; go_simp; try with_reducible rfl
            try simp only [Act.put]
            try simp only [List.setIfInBounds_toArray]
            try simp only [List.set_cons_zero]
            try simp only [List.set_cons_succ, List.set_cons_zero]
            refine wpAnyH_done (by kernel_rfl) ?_ _
            go_wp2
            go_ret
            exact ⟨rfl, RetB.step B9.out b10⟩
end Go.Proofs.Ytfbalabmidobeaa
