/- Package flight: Links. -/
import Derived.Test.YtlkdefmceghmnaaGreatFlLink
namespace Go.Proofs.YtlkdefmceghmnaaGreat
set_option linter.unusedVariables false
open Go Go.RowKit Go.Sort
theorem Colp.next {w W V V' : World} {l out : List Par} {v v' : Value} {a b : FlR} {A1 A2 : Option Addr} {c1 c2 : Nat} (ho : OwnP W w.heap.size v out) (hm : out.map parF = l.map parF) (hB : Below w.heap.size w W) (hk : Below W.heap.size W V)
    (h1 : ClOwn V 93 W.heap.size (FlR.mk a.f A1 a.n c1)) (h2 : ClOwn V 93 W.heap.size (FlR.mk b.f A2 b.n c2)) (hne : ∀ k, (FlR.mk a.f A1 a.n c1).blk = some k → (FlR.mk b.f A2 b.n c2).blk ≠ some k)
    {X : Array Value} {t : TypeId} (h3 : Own V' w.heap.size 133 tPar v' (out ++ [(FlR.mk a.f A1 a.n c1, FlR.mk b.f A2 b.n c2)])) (hg : (V.alloc (.cells X t)).grownBy V' v.ownBlock)
    (hv : v'.ownBlock = v.ownBlock ∨ v'.ownBlock = some (V.alloc (.cells X t)).heap.size) : Colp w (l ++ [(a, b)]) v' V' := by
  have hk' : Below W.heap.size W (V.alloc (.cells X t)) := hk.alloc hk.size _
  refine ⟨⟨_, OwnP.push (x := (FlR.mk a.f A1 a.n c1, FlR.mk b.f A2 b.n c2)) ho hk' (Own.alloc h1 _) (Own.alloc h2 _) hne hB.size h3 hg (hv.imp id fun h k hk => by rw [h] at hk; injection hk with hk; omega), by rw [List.map_append, List.map_append, hm]; rfl⟩, ?_⟩
  exact (hB.trans (hk'.mono hB.size)).grown hg (Nat.le_trans hB.size hk'.size) fun k hk => (ho.own.lt k hk).1
theorem Colp.ab {w W wa wb V' : World} {l out : List Par} {v v' : Value} {a b : FlR} {A1 A2 : Option Addr} {c1 c2 : Nat} (ho : OwnP W w.heap.size v out) (hm : out.map parF = l.map parF) (hB : Below w.heap.size w W) (ha : Below W.heap.size W.drew wa) (hb : Below wa.heap.size wa wb)
    (h1 : ClOwn wa 93 W.heap.size (FlR.mk a.f A1 a.n c1)) (h2 : ClOwn wb 93 wa.heap.size (FlR.mk b.f A2 b.n c2))
    {X : Array Value} {t : TypeId} (h3 : Own V' w.heap.size 133 tPar v' (out ++ [(FlR.mk a.f A1 a.n c1, FlR.mk b.f A2 b.n c2)])) (hg : (wb.alloc (.cells X t)).grownBy V' v.ownBlock)
    (hv : v'.ownBlock = v.ownBlock ∨ v'.ownBlock = some (wb.alloc (.cells X t)).heap.size) : Colp w (l ++ [(a, b)]) v' V' := by
  have hs : W.heap.size ≤ wa.heap.size := ha.size
  have hWa : Below W.heap.size W wa := ((Below.refl _ _).drew).trans ha
  exact Colp.next ho hm hB (hWa.trans (hb.mono hs)) (Own.keep h1 hb) (Own.more h2 hs) (fun k e1 e2 => by have := (h1.lt k e1).2; have := (h2.lt k e2).1; omega) h3 hg hv
theorem Colp.ba {w W wa wb V' : World} {l out : List Par} {v v' : Value} {a b : FlR} {A1 A2 : Option Addr} {c1 c2 : Nat} (ho : OwnP W w.heap.size v out) (hm : out.map parF = l.map parF) (hB : Below w.heap.size w W) (hb : Below W.heap.size W.drew wb) (ha : Below wb.heap.size wb wa)
    (h1 : ClOwn wa 93 wb.heap.size (FlR.mk a.f A1 a.n c1)) (h2 : ClOwn wb 93 W.heap.size (FlR.mk b.f A2 b.n c2))
    {X : Array Value} {t : TypeId} (h3 : Own V' w.heap.size 133 tPar v' (out ++ [(FlR.mk a.f A1 a.n c1, FlR.mk b.f A2 b.n c2)])) (hg : (wa.alloc (.cells X t)).grownBy V' v.ownBlock)
    (hv : v'.ownBlock = v.ownBlock ∨ v'.ownBlock = some (wa.alloc (.cells X t)).heap.size) : Colp w (l ++ [(a, b)]) v' V' := by
  have hs : W.heap.size ≤ wb.heap.size := hb.size
  have hWb : Below W.heap.size W wb := ((Below.refl _ _).drew).trans hb
  exact Colp.next ho hm hB (hWb.trans (ha.mono hs)) (Own.more h1 hs) (Own.keep h2 ha) (fun k e1 e2 => by have := (h1.lt k e1).1; have := (h2.lt k e2).2; omega) h3 hg hv
/-- The block of a list is not this one. -/
def Nob (v : Value) (g : Nat) : Prop := ∀ k, v.ownBlock = some k → k ≠ g
/-- Links that are sorted. -/
structure SortedP (W W' : World) (B : Nat) (v : Value) (l l' : List Par) : Prop where
  perm : l'.Perm l
  ris : l'.Pairwise fun x y => ltP (parF y) (parF x) = false
  own : OwnP W' B v l'
  gr : W.grownBy W' v.ownBlock
theorem flatP_perm {l m : List Par} (h : l.Perm m) : (flatP l).Perm (flatP m) := h.flatMap_right _
theorem SortedP.of {W W' : World} {B : Nat} {v : Value} {l l' : List Par} (h : OwnP W B v l) (s : Sorted (fun x y => ltP (parF x) (parF y)) W W' B 133 tPar v l l') : SortedP W W' B v l l' :=
  ⟨s.perm, s.ris, ⟨s.own, fun r hr => Own.kept (h.cl r ((flatP_perm s.perm).mem_iff.1 hr)) s.gr fun k hk hv => h.off r ((flatP_perm s.perm).mem_iff.1 hr) k hv hk,
    ((flatP_perm s.perm).pairwise_iff fun {x y} h k h1 h2 => h k h2 h1).2 h.apt, fun r hr => h.off r ((flatP_perm s.perm).mem_iff.1 hr)⟩, s.gr⟩
theorem sortP_links {W : World} {B : Nat} {A : Option Addr} {n c : Nat} {l : List Par} (h : OwnP W B (.slice A n c) l) (hn : n ≤ 1000000) :
    Calls Tryz.prog 98 #[.slice A n c, .func (.func 99) #[] #[]] W fun e w' => e = .returned (.tuple #[]) ∧ ∃ l', SortedP W w' B (.slice A n c) l l' :=
  (sort_own sortPr tPar Tryz.isAgg133 Tryz.sizeOf133 (lt := fun x y => ltP (parF x) (parF y)) (cf := fun x y => cmpP (parF x) (parF y)) (fun x y => cmpP_lt _ _) (lts_pull lts_p parF) 99 (enters_of Tryz.func99 (by kernel_rfl) rfl) (fun x y w => lclos_any x y w) h.own hn).mono fun e w' ⟨he, l', hs⟩ => ⟨he, l', SortedP.of h hs⟩
/-- Links that a call hands back. -/
def RetP (w : World) (L : List (Flt × Flt)) (e : Ending) (w' : World) : Prop :=
  ∃ A n c out, e = .returned (.slice A n c) ∧ OwnP w' w.heap.size (.slice A n c) out ∧ out.map parF = L ∧ Below w.heap.size w w'
set_option maxRecDepth 100000 in
set_option maxHeartbeats 16000000 in
theorem tlinks_any (rl : List FlR) (p lo : Nat) (d : Int) (fr to_ : ByteArray) (w : World) (ht : TB w lo p rl) (hnok : Nok (rl.map (·.f))) (hright : ∀ r ∈ rl, rightB r.f = true) :
    Calls Tryz.prog 64 #[.pointer (some ⟨p, 0, none⟩), .int .i64 d, .string fr, .string to_] w (RetP w (linksF (rl.map (·.f)) d fr to_)) := by
  have hmost := ht.most
  obtain ⟨mp, A, n, c, hx, hs, hn, _, _⟩ := ht.open_
  have HS := Lib.hid hs
  have HSM := Lib.hid ht.small
  have HL := Lib.hid hs.sl.len
  have HX0 := Lib.hid hx
  have HNOK := Lib.hid hnok
  have HRT := Lib.hid hright
  have cx := hx.cells
  have zx := hx.lt
  clear hs ht hnok hright hx
  go_enter Tryz.func64, Tryz.ntmps64
  go_wp2
  clear cx
  go_loopw [9, 19] (fun v i wr => ∃ k : Nat, k ≤ n ∧ i = .int .i64 k ∧ Colp w (allP2 rl (rl.take k) d fr to_) v wr) (fun _ i _ => n - (intOf i).toNat)
  case atStart => exact ⟨0, by omega, rfl, Colp.zero w⟩
  case round =>
    obtain ⟨k, hk, rfl, hC⟩ := hrel
    by_cases hlt : k < n
    · obtain ⟨b0, o0, a, hA, _, _, hx', hok, hcl, d0, d1, d2, d3, d4, d5, d6, d7, d8⟩ := (HS.out.below hC.B (Nat.le_refl _)).at_ hlt
      subst hA
      have HX := Lib.hid (take_snoc' hx'.out)
      have HMA := Lib.hid (List.mem_of_getElem? hx'.out)
      have i0 : (0 : Int) ≤ k := by omega
      have i1 : (k : Int) < n := by omega
      obtain ⟨m1, m2, m3, m4⟩ := right_min (HRT.out a HMA.out)
      have hC2 := hC.step ((Below.refl wr.heap.size wr).alloc (Nat.le_refl _) (.cells #[.string a.f.car, .int .i64 a.f.num, .string a.f.frm, .string a.f.to_, .int .u8 a.f.days, .int .i64 a.f.dep, .int .i64 a.f.arr, .slice a.A a.n a.c, .int .i64 a.f.pln] 96))
      have hbx := Bx.new wr #[.string a.f.car, .int .i64 a.f.num, .string a.f.frm, .string a.f.to_, .int .u8 a.f.days, .int .i64 a.f.dep, .int .i64 a.f.arr, .slice a.A a.n a.c, .int .i64 a.f.pln] 96
      have hz := hC.B.size
      have HOK := Lib.hid hok
      have HW := Lib.hid (show cA d fr a.f = (onB a.f d && (eqTx a.f.frm fr && decide (a.f.dep ≤ a.f.arr))) from rfl)
      generalize hq1 : eqTx a.f.frm fr = q1 at HW
      have HQ1 := Lib.hid hq1
      clear hq1 hcl hok
      go_wp2_with fail
      refine (flies_any a d _ HOK.out.f.days).mono ?_
      generalize hq : onB a.f d = q0 at HW
      have HQ := Lib.hid hq
      clear hq
      rintro e w1 ⟨rfl, h1⟩
      have hC3 := hC2.step h1
      have hbx1 := hbx.below h1 hbx.lt
      have hz1 : w.heap.size ≤ w1.heap.size := hC3.B.size
      have hzb : wr.heap.size < w1.heap.size := hbx1.lt
      obtain ⟨out0, ho0, _⟩ := hC.out
      have HV0 := Lib.hid (fun (q : Nat) h => Nat.ne_of_lt (ho0.own.lt q h).2)
      clear d0 d1 d2 d3 d4 d5 d6 d7 d8 hbx hC hC2 ho0
      have c1 := hbx1.cells
      by_cases hall : q0 = true ∧ q1 = true ∧ a.f.dep ≤ a.f.arr
      · obtain ⟨rfl, rfl, hle⟩ := hall
        have HN := Lib.hid (show allP2 rl (rl.take (k + 1)) d fr to_ = allP2 rl (rl.take k) d fr to_ ++ rowP rl d to_ a by rw [HX.out, allP2_snoc, HW.out]; simp [hle])
        have cx := (HX0.out.below hC3.B zx).cells
        have hle' : decide (a.f.arr < a.f.dep) = false := by simpa using hle
        have e1 := eqTx_yes HQ1.out
        clear hle
        go_wp2
        clear cx c1
        generalize hL0 : allP2 rl (rl.take k) d fr to_ = L0 at hC3 HN
        have hL0n : L0.length ≤ 100000 := by
          rw [← hL0]
          have h5 := allP2_len rl d fr to_ (rl.take k)
          have h6 : (rl.take k).length * rl.length ≤ 64 * 64 := Nat.mul_le_mul (by rw [List.length_take]; omega) hmost
          omega
        clear hL0
        obtain ⟨wo, rfl⟩ : ∃ wo : World, wo = wr := ⟨_, rfl⟩
        go_loopw [9, 45] (fun v i wr => ∃ j : Nat, j ≤ n ∧ i = .int .i64 j ∧ Colp w (L0 ++ rowP (rl.take j) d to_ a) v wr ∧ Bx wr wo.heap.size #[.string a.f.car, .int .i64 a.f.num, .string a.f.frm, .string a.f.to_, .int .u8 a.f.days, .int .i64 a.f.dep, .int .i64 a.f.arr, .slice a.A a.n a.c, .int .i64 a.f.pln] 96 ∧ Nob v wo.heap.size) (fun _ i _ => n - (intOf i).toNat)
        case atStart => exact ⟨0, by omega, rfl, by simpa [rowP] using hC3, hbx1, HV0.out⟩
        case round =>
          clear hC3 hbx1 hle' e1
          obtain ⟨j, hj, rfl, hC4, hbx2, hnob⟩ := hrel
          have HNB := Lib.hid hnob
          clear hnob
          by_cases hlt2 : j < n
          · obtain ⟨b1, o1, b, hA, _, _, hy', hokb, hclb, d0, d1, d2, d3, d4, d5, d6, d7, d8⟩ := (HS.out.below hC4.B (Nat.le_refl _)).at_ hlt2
            injection hA with hA
            injection hA with g1 g2
            subst g1 g2
            have HY := Lib.hid (take_snoc' hy'.out)
            have HMB := Lib.hid (List.mem_of_getElem? hy'.out)
            have j0 : (0 : Int) ≤ j := by omega
            have j1 : (j : Int) < n := by omega
            have HOKB := Lib.hid hokb
            have hz4 := hC4.B.size
            have hC5 := hC4.step ((Below.refl wr.heap.size wr).alloc (Nat.le_refl _) (.cells #[.string b.f.car, .int .i64 b.f.num, .string b.f.frm, .string b.f.to_, .int .u8 b.f.days, .int .i64 b.f.dep, .int .i64 b.f.arr, .slice b.A b.n b.c, .int .i64 b.f.pln] 96))
            have hby := Bx.new wr #[.string b.f.car, .int .i64 b.f.num, .string b.f.frm, .string b.f.to_, .int .u8 b.f.days, .int .i64 b.f.dep, .int .i64 b.f.arr, .slice b.A b.n b.c, .int .i64 b.f.pln] 96
            have hbx3 := hbx2.alloc (.cells #[.string b.f.car, .int .i64 b.f.num, .string b.f.frm, .string b.f.to_, .int .u8 b.f.days, .int .i64 b.f.dep, .int .i64 b.f.arr, .slice b.A b.n b.c, .int .i64 b.f.pln] 96)
            have HWB := Lib.hid (show cB d to_ a.f b.f = (onB b.f d && (eqTx b.f.frm a.f.to_ && (eqTx b.f.to_ to_ && decide (a.f.arr + 45 ≤ b.f.dep)))) from rfl)
            have e1 := eqTx_l b.f.frm a.f.to_
            have e2 := eqTx_l b.f.to_ to_
            generalize eqTx b.f.frm a.f.to_ = r1 at e1 HWB
            generalize eqTx b.f.to_ to_ = r2 at e2 HWB
            clear hclb hokb
            go_wp2_with fail
            refine (flies_any b d _ HOKB.out.f.days).mono ?_
            generalize hq : onB b.f d = r0 at HWB
            have HQB := Lib.hid hq
            clear hq
            rintro e w2 ⟨rfl, h2⟩
            have hC6 := hC5.step h2
            have hby2 := hby.below h2 hby.lt
            have hbx4 := hbx3.below h2 hbx3.lt
            have hz2 : w.heap.size ≤ w2.heap.size := hC6.B.size
            have zy := hby2.lt
            have zx2 := hbx4.lt
            clear d0 d1 d2 d3 d4 d5 d6 d7 d8 hby hbx3 hC4 hC5 hbx2
            have c1 := hbx4.cells
            have c2 := hby2.cells
            by_cases hall : r0 = true ∧ r1 = true ∧ r2 = true ∧ a.f.arr + 45 ≤ b.f.dep
            · obtain ⟨rfl, rfl, rfl, hle⟩ := hall
              have hle2 : decide (a.f.arr + 45 ≤ b.f.dep) = true := by simpa using hle
              have HN2 := Lib.hid (show rowP (rl.take (j + 1)) d to_ a = rowP (rl.take j) d to_ a ++ [(a, b)] by
                unfold rowP
                rw [HY.out, List.filter_append, List.map_append]; simp [HWB.out, hle])
              clear hle
              obtain ⟨out, ho, hm⟩ := hC6.out
              have HO := Lib.hid ho
              have HM := Lib.hid hm
              have HB6 := Lib.hid hC6.B
              have hlo : out.length ≤ 200000 := by
                have h5 := congrArg List.length hm
                have h6 := rowP_len (rl.take j) d to_ a
                rw [List.length_take] at h6
                simp only [List.length_map, List.length_append] at h5
                omega
              have HCA := Lib.hid (ClAt.below (HS.out.cl a HMA.out) hC6.B (Nat.le_refl _))
              have HCB := Lib.hid (ClAt.below (HS.out.cl b HMB.out) hC6.B (Nat.le_refl _))
              have hna : a.n ≤ 100000 := by have := HSM.out a HMA.out; omega
              have hnb : b.n ≤ 100000 := by have := HSM.out b HMB.out; omega
              have D0 := Lib.hid ((Below.refl w2.heap.size w2).drew)
              have EX := Lib.hid hbx4
              have EY := Lib.hid hby2
              clear ho hm hC6
              go_upto_region 10 with fail
              have hzd : w.heap.size ≤ w2.drew.heap.size := hz2
              clear hbx4 hby2
              go_region_law (first
                | (go_simp; go_at_call 87; (with_reducible refine (copied_any a _ lo w.heap.size HOK.out (by first | exact ClAt.below HCA.out D0.out hz2 | exact ClAt.below HCA.out DB.out hz2) hna (by first | exact hzd | exact Nat.le_trans hz2 DB.out.size)).mono ?_); rintro e wa ⟨A1, c11, rfl, oka, hsa, ha⟩; have DA : Hid (Below w2.heap.size w2 wa) := (by first | exact D0.out.trans (ha.mono (show w2.heap.size ≤ w2.drew.heap.size from Nat.le_refl _)) | exact DB.out.trans (ha.mono DB.out.size)); have c1a := (EX.out.below DA.out zx2).cells; have c2a := (EY.out.below DA.out zy).cells)
                | (go_simp; go_at_call 87; (with_reducible refine (copied_any b _ lo w.heap.size HOKB.out (by first | exact ClAt.below HCB.out D0.out hz2 | exact ClAt.below HCB.out DA.out hz2) hnb (by first | exact hzd | exact Nat.le_trans hz2 DA.out.size)).mono ?_); rintro e wb ⟨A2, c22, rfl, okb, hsb, hb⟩; have DB : Hid (Below w2.heap.size w2 wb) := (by first | exact D0.out.trans (hb.mono (show w2.heap.size ≤ w2.drew.heap.size from Nat.le_refl _)) | exact DA.out.trans (hb.mono DA.out.size)); have c1b := (EX.out.below DB.out zx2).cells; have c2b := (EY.out.below DB.out zy).cells)
                | (refine step_push (T := tPar) rfl (.tmp 73) (.tmp 79) (by rfl) sl_par (by rfl) (by first | exact (HO.out.keep DB.out).own.alloc _ | exact (HO.out.keep DA.out).own.alloc _) (FlR.mk a.f A1 a.n c11, FlR.mk b.f A2 b.n c22) ⟨oka, okb⟩ (by exact heap_alloc_new _ _) (by rfl) (by rfl) (by have := DA.out.size; have := DB.out.size; simp; omega) (by omega) ?_; intro v' w3 hown' hgr hb'))
              all_goals
                have hnob' : Nob v' wo.heap.size := fun q hq => by
                  rcases hb' with h5 | h5
                  · exact HNB.out q (h5 ▸ hq)
                  · rw [h5] at hq
                    injection hq with hq
                    have := DA.out.size
                    have := DB.out.size
                    simp at hq
                    omega
                go_wp2
                refine ⟨⟨j + 1, by omega, by go_num, ?_, ?_, hnob'⟩, by simp [intOf]; omega⟩
                · rw [HN2.out, ← List.append_assoc]
                  first
                    | exact Colp.ab HO.out HM.out HB6.out ha hb hsa hsb hown' hgr hb'
                    | exact Colp.ba HO.out HM.out HB6.out hb ha hsa hsb hown' hgr hb'
                · first
                    | exact ((EX.out.below DB.out zx2).alloc _).grown hgr (fun e => HNB.out _ e rfl)
                    | exact ((EX.out.below DA.out zx2).alloc _).grown hgr (fun e => HNB.out _ e rfl)
            · have HALL := Lib.hid hall
              have HN2 := Lib.hid (show rowP (rl.take (j + 1)) d to_ a = rowP (rl.take j) d to_ a by
                unfold rowP
                rw [HY.out, List.filter_append, List.filter_cons_of_neg (by rw [HWB.out]; simpa using hall)]; simp)
              clear hall
              go_wp2
              all_goals first
                | (go_roundw; (case measure => simp [intOf]; omega); exact ⟨j + 1, by omega, by go_num, by rw [HN2.out]; exact hC6, hbx4, HNB.out⟩)
                | skip
              all_goals (exfalso; apply HALL.out; refine ⟨by first | rfl | assumption, by first | rfl | assumption, by first | rfl | assumption, by first | assumption | omega⟩)
          · obtain rfl : n = j := by omega
            have HF : Hid (rl.take n = rl) := List.take_of_length_le (Nat.le_of_eq HL.out)
            rw [HF.out] at hC4
            go_wp2
            go_roundw
            case rel => exact ⟨k + 1, by omega, by go_num, by rw [HN.out]; exact hC4⟩
            case measure => simp [intOf]; omega
      · have HALL := Lib.hid hall
        have HN := Lib.hid (show allP2 rl (rl.take (k + 1)) d fr to_ = allP2 rl (rl.take k) d fr to_ by
          rw [HX.out, allP2_snoc, HW.out, if_neg (by simpa using hall)]; simp)
        clear hall
        have cx := (HX0.out.below hC3.B zx).cells
        go_wp2
        all_goals first
          | (go_roundw; (case measure => simp [intOf]; omega); exact ⟨k + 1, by omega, by go_num, by rw [HN.out]; exact hC3⟩)
          | skip
        all_goals (exfalso; apply HALL.out; refine ⟨by first | rfl | assumption, (by rw [← HQ1.out]; exact eqTx_of (by assumption)), by first | assumption | omega⟩)
    · obtain rfl : n = k := by omega
      have HF : Hid (rl.take n = rl) := List.take_of_length_le (Nat.le_of_eq HL.out)
      rw [HF.out] at hC
      obtain ⟨out, ho, hm⟩ := hC.out
      have hlo : out.length ≤ 100000 := by
        have h1 := congrArg List.length hm
        have h5 := allP2_len rl d fr to_ rl
        have h6 : rl.length * rl.length ≤ 64 * 64 := Nat.mul_le_mul hmost hmost
        simp only [List.length_map] at h1
        omega
      obtain ⟨A9, c9, rfl⟩ := ho.own.form
      have HO := Lib.hid ho
      have HM := Lib.hid hm
      clear hm ho
      generalize out.length = l9 at HO hlo ⊢
      go_wp2_with fail
      refine (sortP_links HO.out (by omega)).mono ?_
      rintro e w1 ⟨rfl, rs, hS⟩
      have HR := Lib.hid (links_eq (R := rs.map parF) HNOK.out (d := d) (a := fr) (b := to_) (by rw [← allP2_f, ← HM.out]; exact hS.perm.map _) (by rw [List.pairwise_map]; exact hS.ris))
      have hB1 := hC.B.grown hS.gr hC.B.size (fun k hk => (HO.out.own.lt k hk).1)
      go_wp2
      go_ret
      exact ⟨_, _, _, rs, rfl, hS.own, HR.out, hB1⟩
end Go.Proofs.YtlkdefmceghmnaaGreat
