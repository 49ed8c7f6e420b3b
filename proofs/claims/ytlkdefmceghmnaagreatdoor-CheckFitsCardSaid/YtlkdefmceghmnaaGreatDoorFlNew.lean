/- Package flight: New: a table of some flights, or what is wrong with them. -/
import Derived.Test.YtlkdefmceghmnaaGreatDoorFlTab
import Derived.BigRegion
namespace Go.Proofs.YtlkdefmceghmnaaGreatDoor
set_option linter.unusedVariables false
open Go Go.RowKit Go.Sort
/-- What New hands back: an error's number, or a table. -/
def NewQ (w : World) (rl : List FlR) (e : Ending) (w' : World) : Prop :=
  Below w.heap.size w w' ∧ ((newF (rl.map (·.f)) ≠ 0 ∧ e = .returned (.tuple #[.pointer none, .int .i64 (newF (rl.map (·.f)))])) ∨
    (newF (rl.map (·.f)) = 0 ∧ ∃ p rl', e = .returned (.tuple #[.pointer (some ⟨p, 0, none⟩), .int .i64 0]) ∧ TB w' w.heap.size p rl' ∧ Tab (rl.map (·.f)) (rl'.map (·.f))))
theorem NewQ.bad {w w' : World} {rl : List FlR} {c : Int} (h : newF (rl.map (·.f)) = c) (h0 : c ≠ 0) (hb : Below w.heap.size w w') : NewQ w rl (.returned (.tuple #[.pointer none, .int .i64 c])) w' := by
  subst h
  exact ⟨hb, .inl ⟨h0, rfl⟩⟩
/-- While the flights are taken in. -/
structure NL (w : World) (rl : List FlR) (k : Nat) (A : Option Addr) (m c : Nat) (W : World) : Prop where
  out : ∃ out, OwnF W 55 99 (w.heap.size + 1 + 1) (.slice A m c) out ∧ out.map (·.f) = (rl.take k).map (·.f)
  x : Bx W (w.heap.size + 1) #[.map (some w.heap.size), .slice A m c] 66
  mp : Mp Tryz.prog 52 W w.heap.size (fun _ => none)
  B : Below w.heap.size w W
theorem NL.next {w wr w1 w2 w3 : World} {rl out : List FlR} {k : Nat} {A' A1 A9 : Option Addr} {m' c' c1 c9 : Nat} {s : FlR} {X : Array Value} {t : TypeId} (hL : NL w rl k A' m' c' wr) (hb1 : Below wr.heap.size wr w1) (HO : OwnF w1 55 99 (w.heap.size + 1 + 1) (.slice A' m' c') out)
    (hmap : out.map (·.f) = (rl.take k).map (·.f)) (hx : rl[k]? = some s) (h2 : Below w1.drew.heap.size w1.drew w2) (hso : ClOwn w2 99 w1.drew.heap.size (FlR.mk s.f A1 s.n c1))
    (hown' : Own w3 (w.heap.size + 1 + 1) 55 tFl (.slice A9 (m' + 1) c9) (out ++ [FlR.mk s.f A1 s.n c1])) (hgr : (w2.alloc (.cells X t)).grownBy w3 (Value.slice A' m' c').ownBlock)
    (hb' : (Value.slice A9 (m' + 1) c9).ownBlock = (Value.slice A' m' c').ownBlock ∨ (Value.slice A9 (m' + 1) c9).ownBlock = some (w2.alloc (.cells X t)).heap.size) (hT3 : Bx w3 (w.heap.size + 1) #[.map (some w.heap.size), .slice A' m' c'] 66) :
    NL w rl (k + 1) A9 (m' + 1) c9 (w3.setCell ⟨w.heap.size + 1, 1, none⟩ (.slice A9 (m' + 1) c9)) := by
  have hz := hL.x.lt
  have hz1 := hb1.size
  have hz2 : w1.heap.size ≤ w2.heap.size := h2.size
  have hrow : ∀ j, (Value.slice A' m' c').ownBlock = some j → w.heap.size + 1 + 1 ≤ j := fun j hj => (HO.own.lt j hj).1
  have hV : Below w1.drew.heap.size w1.drew (w2.alloc (.cells X t)) := h2.alloc hz2 _
  have hO3 := OwnF.push (HO.drewN 1) hV (Own.alloc hso _) (show w.heap.size + 1 + 1 ≤ w1.heap.size by omega) hown' hgr (hb'.imp id fun h k hk => by rw [h] at hk; injection hk with hk; omega)
  have hB2 : Below w.heap.size w (w2.alloc (.cells X t)) := (((hL.B.trans (hb1.mono hL.B.size)).drew).trans (h2.mono (show w.heap.size ≤ w1.heap.size by omega))).alloc (by omega) _
  refine ⟨⟨_, hO3.setCell (by show w.heap.size + 1 < w.heap.size + 1 + 1; omega) _, ?_⟩, hT3.put 1 _, ?_, ?_⟩
  · rw [take_snoc' hx, List.map_append, List.map_append, hmap]
    rfl
  · have m1 := (hL.mp.below hb1 (by omega)).drew
    have m2 := (m1.below h2 (show w.heap.size < w1.heap.size by omega)).alloc (.cells X t)
    have m3 : Mp Tryz.prog 52 w3 w.heap.size (fun _ => none) := m2.keep (hgr.block _ m2.size fun e => by have := hrow _ e.symm; omega)
    exact m3.setCell _ (by simp) _
  · exact (hB2.grown hgr (by show w.heap.size ≤ (w2.alloc _).heap.size; simp; omega) fun j hj => by have := hrow j hj; omega).setCell (by simp) _
/-- While the map is made. -/
structure NM (w : World) (rs : List FlR) (j : Nat) (A : Option Addr) (m c : Nat) (W : World) : Prop where
  own : OwnF W 55 99 (w.heap.size + 1 + 1) (.slice A m c) rs
  x : Bx W (w.heap.size + 1) #[.map (some w.heap.size), .slice A m c] 66
  mp : ∃ g, Mp Tryz.prog 52 W w.heap.size g ∧ ∀ k, g (keyV k) = (idxR rs j k).map fun i => .int .i64 (i : Nat)
  B : Below w.heap.size w W
theorem NM.step {w W W1 : World} {rs : List FlR} {j : Nat} {A : Option Addr} {m c : Nat} (h : NM w rs j A m c W) (hb : Below W.heap.size W W1) : NM w rs j A m c W1 := by
  obtain ⟨g, h1, h2⟩ := h.mp
  exact ⟨h.own.keep hb, h.x.below hb h.x.lt, ⟨g, h1.below hb h1.size, h2⟩, h.B.trans (hb.mono h.B.size)⟩
theorem NM.drewN {w W : World} {rs : List FlR} {j : Nat} {A : Option Addr} {m c : Nat} (h : NM w rs j A m c W) (n : Nat) : NM w rs j A m c (W.drewN n) := h.step (below_drewN (Below.refl _ _) n)
theorem updK_key (g : Value → Option Value) (k k' : Key) (u : Option Value) : updK g (keyV k) u (keyV k') = if k' = k then u else g (keyV k') := by
  by_cases h : k' = k
  · rw [if_pos h, h, updK_same]
  · rw [if_neg h, updK_other _ _ _ fun e => h (keyV_inj e)]
theorem NM.put {w V V2 : World} {rs : List FlR} {j n : Nat} {A : Option Addr} {m c : Nat} {s : FlR} {g : Value → Option Value} (h : NM w rs j A m c V) (hx : rs[j]? = some s) (hi : idxR rs j s.key = none)
    (h2 : Mp Tryz.prog 52 V2 w.heap.size (updK g (keyV s.key) (some (.int .i64 (j : Nat))))) (hg : ∀ k, g (keyV k) = (idxR rs j k).map fun i => .int .i64 (i : Nat)) (hwr : Wr w.heap.size (V.drewN n) V2) : NM w rs (j + 1) A m c V2 := by
  have h' := h.drewN n
  refine ⟨h'.own.keepB fun k hk _ => hwr.block (by omega), h'.x.wr hwr (by omega), ⟨_, h2, fun k => ?_⟩, hwr.below h'.B (Nat.le_refl _)⟩
  rw [updK_key, idxR_succ hx hi]
  by_cases e : k = s.key
  · rw [if_pos e, if_pos e]; rfl
  · rw [if_neg e, if_neg e, hg]
theorem nodup_perm {rl out rs : List FlR} (hm : out.map (·.f) = rl.map (·.f)) (hp : rs.Perm out) : ((rs.map (·.f)).map Flt.key).Nodup ↔ ((rl.map (·.f)).map Flt.key).Nodup := by
  rw [← hm]
  exact ((hp.map _).map _).nodup_iff
set_option maxRecDepth 100000 in
set_option maxHeartbeats 8000000 in
theorem new_any (rl : List FlR) (A : Option Addr) (n c : Nat) (w : World) (lo hi : Nat) (hs : FlS w lo hi A n rl) (hn : n ≤ 100000) (hhi : hi ≤ w.heap.size) (hsm : ∀ r ∈ rl, r.n ≤ 100000) :
    Calls Tryz.prog 8 #[.slice A n c] w (NewQ w rl) := by
  have HS := Lib.hid hs
  have HM := Lib.hid hsm
  have HL := Lib.hid hs.sl.len
  clear hsm hs
  by_cases hm : 64 < n
  · have h64 := Lib.hid (newF_many (l := rl.map (·.f)) (by rw [List.length_map, HL.out]; exact hm))
    have hm' : (64 : Int) < n := by omega
    go_enter Tryz.func8, Tryz.ntmps8
    go_wp2
    go_ret2
    exact NewQ.bad h64.out (by omega) (Below.refl _ _)
  have H64 : Hid (¬ 64 < (rl.map (·.f)).length) := by show ¬ _; rw [List.length_map, HL.out]; exact hm
  have hm' : (n : Int) ≤ 64 := by omega
  have HB : NL w rl 0 none 0 0 ((w.alloc (.map #[] 0)).alloc (.cells #[.map (some w.heap.size), .slice none 0 0] 66)) :=
    ⟨⟨[], OwnF.nil_ _ _ _ _, rfl⟩, by have := Bx.new (w.alloc (.map #[] 0)) #[.map (some w.heap.size), .slice none 0 0] 66; rw [World.size_alloc] at this; exact this, (Mp.made w).alloc _, ((Below.refl _ _).alloc (Nat.le_refl _) _).alloc (by simp) _⟩
  have hmm := @run_makeMap Tryz.prog
  go_enter Tryz.func8, Tryz.ntmps8
  go_upto_region 4 with fail
  refine wp_world (NL w rl 0 none 0 0) HB ?_
  clear HB hmm
  intro W HW
  go_wp2
  go_loopw [20] (fun i wr => ∃ k : Nat, k ≤ n ∧ i = .int .i64 k ∧ Hid (rgt rl k) ∧ ∃ A' m' c', NL w rl k A' m' c' wr) (fun i _ => n - (intOf i).toNat)
  case atStart => exact ⟨0, by omega, rfl, fun j r hj => absurd hj (by omega), none, 0, 0, HW⟩
  case round =>
    clear HW
    obtain ⟨k, hk, rfl, HN, A', m', c', hL⟩ := hrel
    by_cases hlt : k < n
    · obtain ⟨b0, o0, s, hA, _, _, hx, hok, hcl, d0, d1, d2, d3, d4, d5, d6, d7, d8⟩ := (HS.out.below hL.B hhi).at_ hlt
      subst hA
      have i0 : (0 : Int) ≤ k := by omega
      have i1 : (k : Int) < n := by omega
      have hsn := HM.out s (List.mem_of_getElem? hx.out)
      have hz := hL.B.size
      have hzx := hL.x.lt
      go_wp2_with fail
      refine (check_any s _ lo hi hok (ClAt.below hcl ((Below.refl _ _).alloc (Nat.le_refl _) _) (Nat.le_trans hhi hz)) hsn (by simp; omega)).mono ?_
      generalize hq : rightB s.f = q
      have HQ := Lib.hid hq
      clear hq
      rintro e w1 ⟨rfl, h1⟩
      have hb1 : Below wr.heap.size wr w1 := ((Below.refl _ _).alloc (Nat.le_refl _) _).trans (h1.mono (by simp))
      rcases q with _ | _
      · have hfin := Lib.hid (newF_form H64.out (List.mem_map_of_mem (List.mem_of_getElem? hx.out)) HQ.out)
        have hb9 := hL.B.trans (hb1.mono hz)
        clear d0 d1 d2 d3 d4 d5 d6 d7 d8
        unfold chkN
        go_wp2
        go_ret2
        exact NewQ.bad hfin.out (by omega) hb9
      · have hno := Lib.hid (show rgt rl (k + 1) from fun i r hi hr => by
          rcases Nat.lt_succ_iff_lt_or_eq.1 hi with h | h
          · exact HN.out i r h hr
          · rw [h, hx.out] at hr
            injection hr with hr
            subst hr
            exact HQ.out)
        have e6 := (Bx.new wr #[.string s.f.car, .int .i64 s.f.num, .string s.f.frm, .string s.f.to_, .int .u8 s.f.days, .int .i64 s.f.dep, .int .i64 s.f.arr, .slice s.A s.n s.c, .int .i64 s.f.pln] 55).below h1 (by simp)
        have hT := hL.x.below hb1 hzx
        have c6 := e6.cells
        have cT := hT.cells
        have fT := hT.free
        have z6 := e6.lt
        have zT := hT.lt
        unfold chkN
        clear d0 d1 d2 d3 d4 d5 d6 d7 d8
        go_upto_region 10 with fail
        obtain ⟨out, ho, hmap⟩ := hL.out
        have HO := Lib.hid (ho.keep hb1)
        have HMAP := Lib.hid hmap
        have HT := Lib.hid hT
        have HCL := Lib.hid (ClAt.below (ClAt.below hcl hb1 (Nat.le_trans hhi hz)) ((Below.refl _ _).drew (B := w1.heap.size)) (by have := hb1.size; omega))
        have hlo : out.length ≤ 100 := by
          have h1 := congrArg List.length hmap
          simp only [List.length_map, List.length_take] at h1
          omega
        have hm2 : m' = out.length := by obtain ⟨A9, c9, e9⟩ := ho.own.form; injection e9
        have HM2 := Lib.hid hm2
        have zz1 : w.heap.size + 1 + 1 ≤ w1.heap.size := by omega
        have hhi1 : hi ≤ w1.drew.heap.size := by show hi ≤ w1.heap.size; omega
        clear ho hmap hT e6 hcl hm2
        go_region_law (first
          | (go_simp; go_at_call 18; refine (copied_any s _ lo hi hok HCL.out hsn hhi1).mono ?_; rintro e w2 ⟨A1, c1, rfl, hsok, hso, h2⟩; have HT2 := Lib.hid ((HT.out.drewN 1).below h2 zT); have cT2 := HT2.out.cells; have fT2 := HT2.out.free; have zz2 : w1.heap.size ≤ w2.heap.size := h2.size; have zT2 : w.heap.size + 1 < w2.heap.size := (by omega))
          | (refine step_push (T := tFl) rfl (.tmp 33) (.tmp 36) (by rfl) sl_flt (by rfl) (((HO.out.drewN 1).keep h2).alloc _).own (FlR.mk s.f A1 s.n c1) hsok (by exact heap_alloc_new _ _) (by rfl) (by rfl) (by simp; omega) (by omega) ?_; intro v' w3 hown' hgr hb'; obtain ⟨A9, c9, hv9⟩ := hown'.form; rw [show (out ++ [FlR.mk s.f A1 s.n c1]).length = m' + 1 by rw [HM2.out]; simp] at hv9; subst hv9; have HT3 := Lib.hid ((HT2.out.alloc _).grown hgr (fun e => by have := (HO.out.own.lt _ e).1; omega)); have cT3 := HT3.out.cells; have fT3 := HT3.out.free))
        all_goals
          go_wp2
          exact ⟨⟨k + 1, by omega, by go_num, hno, A9, m' + 1, c9, NL.next hL hb1 HO.out HMAP.out hx.out h2 hso hown' hgr hb' HT3.out⟩, by simp [intOf]; omega⟩
    · obtain rfl : n = k := by omega
      clear hm'
      have HF : Hid (rl.take n = rl) := List.take_of_length_le (Nat.le_of_eq HL.out)
      have HR := Lib.hid (rgt_all (by rw [HL.out]; exact HN.out))
      obtain ⟨out, ho, hmap⟩ := hL.out
      rw [HF.out] at hmap
      have hlen : out.length = n := by have := congrArg List.length hmap; simpa [HL.out] using this
      have hm2 : m' = out.length := by obtain ⟨A9, c9, e9⟩ := ho.own.form; injection e9
      obtain rfl : m' = n := by omega
      have HLEN := Lib.hid hlen
      have HMAP := Lib.hid hmap
      have HN64 : Hid (m' ≤ 64) := by show _ ≤ _; omega
      clear hmap hlen hm2 HF
      have cT := hL.x.cells
      have zT := hL.x.lt
      go_wp2_with fail
      refine (sortF_order ho (by have := HN64.out; omega)).mono ?_
      rintro e w1 ⟨rfl, rs, hS⟩
      have hrow : ∀ j, (Value.slice A' m' c').ownBlock = some j → w.heap.size + 1 + 1 ≤ j := fun j hj => (ho.own.lt j hj).1
      have hT1 := hL.x.grown hS.gr (fun e => by have := hrow _ e; omega)
      have hM1 : Mp Tryz.prog 52 w1 w.heap.size (fun _ => none) := hL.mp.keep (hS.gr.block _ hL.mp.size fun e => by have := hrow _ e.symm; omega)
      have hB1 : Below w.heap.size w w1 := hL.B.grown hS.gr hL.B.size (fun j hj => by have := hrow j hj; omega)
      clear cT zT
      have cT := hT1.cells
      have zT := hT1.lt
      have hNM : NM w rs 0 A' m' c' w1 := ⟨hS.own, hT1, ⟨_, hM1, fun k => by rw [idxR_zero]; rfl⟩, hB1⟩
      have HPERM := Lib.hid hS.perm
      have HRIS := Lib.hid hS.ris
      have HRL : Hid (rs.length = m') := by show _ = _; rw [hS.perm.length_eq]; exact HLEN.out
      go_wp2
      clear hT1 hM1 hB1 hS cT zT hrow ho hL
      go_loopw [51] (fun i wr => ∃ j : Nat, j ≤ m' ∧ i = .int .i64 j ∧ Hid (apk rs j) ∧ NM w rs j A' m' c' wr) (fun i _ => m' - (intOf i).toNat)
      case atStart => exact ⟨0, by omega, rfl, fun i j r s hij hj => absurd hj (by omega), hNM⟩
      case round =>
        clear hNM
        obtain ⟨j, hj, rfl, HA, hNM⟩ := hrel
        by_cases hlt : j < m'
        · obtain ⟨b0, o0, s, hA, _, _, hx, hok, hcl, d0, d1, d2, d3, d4, d5, d6, d7, d8⟩ := hNM.own.sl.at_ hlt
          subst hA
          have i0 : (0 : Int) ≤ j := by omega
          have i1 : (j : Int) < m' := by omega
          go_upto_region 16 with fail
          refine wp_world (fun V => NM w rs j (some ⟨b0, o0, none⟩) m' c' V ∧ Bx V wr.heap.size #[.string s.f.car, .int .i64 s.f.num, .string s.f.frm, .string s.f.to_, .int .u8 s.f.days, .int .i64 s.f.dep, .int .i64 s.f.arr, .slice s.A s.n s.c, .int .i64 s.f.pln] 55) ⟨hNM.step ((Below.refl _ _).alloc (Nat.le_refl _) _), Bx.new _ _ _⟩ ?_
          have zr := hNM.x.lt
          clear hNM d0 d1 d2 d3 d4 d5 d6 d7 d8
          rintro V ⟨hNM, hbx⟩
          have c1 := hNM.x.cells
          have c2 := hbx.cells
          obtain ⟨g, hmp, hg⟩ := hNM.mp
          have HG := Lib.hid hg
          clear hg
          obtain ⟨kl, hkl⟩ := keyKey s.key ⟨hok.f.car, hok.f.num⟩
          have HKL := Lib.hid hkl
          clear hkl
          cases hi : idxR rs j s.key with
          | some i =>
            have hgk : g (keyV s.key) = some (.int .i64 (i : Nat)) := by rw [HG.out, hi]; rfl
            have hlk : ∀ n, (Instr.lookup 64 (.map (some w.heap.size)) (.agg #[.string s.f.car, .int .i64 s.f.num]) true).run Tryz.prog (V.drewN n) = .ok (.tuple #[.int .i64 (i : Nat), .bool true]) (V.drewN n) := fun n => by
              have := (hmp.drewN n).look lawKey Tryz.underlying64 zeroInt HKL.out true
              rw [hgk] at this
              exact this
            obtain ⟨hij, r, hr, hrk⟩ := idxR_some hi
            have hfin := Lib.hid (newF_twice H64.out HR.out fun hnd => apk_not hij hr hx.out hrk ((nodup_perm HMAP.out HPERM.out).2 hnd))
            clear hgk hi hr hrk
            go_quiet (fail)
            go_wp2
            go_ret2
            exact NewQ.bad hfin.out (by omega) (below_drewN hNM.B _)
          | none =>
            have hgk : g (keyV s.key) = none := by rw [HG.out, hi]; rfl
            have hlk : ∀ n, (Instr.lookup 64 (.map (some w.heap.size)) (.agg #[.string s.f.car, .int .i64 s.f.num]) true).run Tryz.prog (V.drewN n) = .ok (.tuple #[.int .i64 0, .bool false]) (V.drewN n) := fun n => by
              have := (hmp.drewN n).look lawKey Tryz.underlying64 zeroInt HKL.out true
              rw [hgk] at this
              exact this
            have HI := Lib.hid hi
            clear hgk hi
            go_quiet (fail)
            clear hlk
            go_upto_region 19 with fail
            obtain ⟨V2, hrun, hmp2, hwr⟩ := ((hmp.drewN (nq + 1)).put (v := .int .i64 (j : Nat)) lawKey Tryz.underlying64 HKL.out)
            unfold keyV FlR.key Flt.key at hrun
            dsimp only at hrun
            have hap := Lib.hid (show apk rs (j + 1) from fun i j' r s' hij hj' hr hs' => by
              rcases Nat.lt_succ_iff_lt_or_eq.1 hj' with h | h
              · exact HA.out i j' r s' hij h hr hs'
              · subst h
                rw [hx.out] at hs'
                injection hs' with hs'
                subst hs'
                exact idxR_none HI.out i r hij hr)
            have hNM2 := Lib.hid (NM.put hNM hx.out HI.out (n := nq + 1) hmp2 HG.out hwr)
            clear hmp hmp2
            go_region
            all_goals
              go_wp2
              exact ⟨⟨j + 1, by omega, by go_num, hap, hNM2.out⟩, by simp [intOf]; omega⟩
        · obtain rfl : m' = j := by omega
          have hnd := (nodup_perm HMAP.out HPERM.out).1 (apk_nodup (by rw [HRL.out]; exact HA.out))
          have hperm : (rs.map (·.f)).Perm (rl.map (·.f)) := by rw [← HMAP.out]; exact HPERM.out.map _
          have hfin := newF_ok H64.out HR.out hnd
          have htab : Tab (rl.map (·.f)) (rs.map (·.f)) := tab_of hperm (by rw [List.pairwise_map]; exact HRIS.out) (List.all_eq_true.2 HR.out) hnd (Nat.le_of_not_lt H64.out)
          have HQ : Hid (NewQ w rl (.returned (.tuple #[.pointer (some ⟨w.heap.size + 1, 0, none⟩), .int .i64 0])) wr) := by
            show NewQ _ _ _ _
            refine ⟨hNM.B, .inr ⟨hfin, _, rs, rfl, ?_, htab⟩⟩
            obtain ⟨g, hmp, hg⟩ := hNM.mp
            refine ⟨⟨_, _, _, _, g, hNM.x, hNM.own.more (by omega), hmp, fun k => by rw [hg, HRL.out], by omega, by omega⟩, by rw [HRL.out]; exact HN64.out, fun r hr => ?_⟩
            have h1 := HR.out r.f (hperm.mem_iff.1 (List.mem_map_of_mem hr))
            have h2 := (hNM.own.own.wf r hr).len
            unfold rightB rightC at h1
            simp only [Bool.and_eq_true, decide_eq_true_eq] at h1
            omega
          clear hnd hperm hfin htab hNM
          go_wp2
          go_ret2
          exact HQ.out
end Go.Proofs.YtlkdefmceghmnaaGreatDoor
