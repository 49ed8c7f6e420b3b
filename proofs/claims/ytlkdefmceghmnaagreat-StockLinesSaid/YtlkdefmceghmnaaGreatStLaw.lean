/- Stock's laws: the stock that they begin with; the leg of an act. -/
import Derived.Test.YtlkdefmceghmnaaGreatStAwake
import Derived.Test.YtlkdefmceghmnaaGreatFlRef2
namespace Go.Proofs.YtlkdefmceghmnaaGreat
set_option linter.unusedVariables false
open Go Go.RowKit Go.Sort
/-- What begun hands back. -/
def BgQ (w : World) (rl : List FlR) (e : Ending) (w' : World) : Prop :=
  Below w.heap.size w w' ∧ ((newF (rl.map (·.f)) ≠ 0 ∧ e = .returned (.tuple #[.pointer none, .bool false])) ∨
    (newF (rl.map (·.f)) = 0 ∧ ∃ lo hi t p b rs, e = .returned (.tuple #[.pointer (some ⟨p, 0, none⟩), .bool true]) ∧ SK w' lo hi t p b rs (fun _ => 0) ∧ w.heap.size ≤ hi ∧ Tab (rl.map (·.f)) (rs.map (·.f))))
theorem newF_right {l : List Flt} (h : newF l = 0) : l.length ≤ 64 ∧ ∀ f ∈ l, rightB f = true := by
  unfold newF at h
  split at h
  · cases h
  · split at h
    · rename_i h1 h2
      exact ⟨by omega, List.all_eq_true.1 h2⟩
    · cases h
set_option maxRecDepth 100000 in
set_option maxHeartbeats 8000000 in
theorem begun_any (rl : List FlR) (A : Option Addr) (n c : Nat) (w : World) (lo hi : Nat) (hs : FlS w lo hi A n rl) (hhi : hi ≤ w.heap.size) :
    Calls Tryz.prog 13 #[.slice A n c] w (BgQ w rl) := by
  have HS := Lib.hid hs
  have HL := Lib.hid hs.sl.len
  have HOK := Lib.hid hs.sl.wf
  have hnl := eql_tab
  have hns := neq_stk
  clear hs
  by_cases hm : 64 < n
  · have h64 := Lib.hid (newF_many (l := rl.map (·.f)) (by rw [List.length_map, HL.out]; exact hm))
    have hm' : (64 : Int) < n := by omega
    go_enter Tryz.func13, Tryz.ntmps13
    go_wp2
    go_ret2
    exact ⟨Below.refl _ _, .inl ⟨by rw [h64.out]; decide, rfl⟩⟩
  have hm' : (n : Int) ≤ 64 := by omega
  go_enter Tryz.func13, Tryz.ntmps13
  go_wp2_with fail
  refine (rnew_all rl A n c w lo hi HS.out hhi).mono ?_
  generalize hz : newF (rl.map (·.f)) = z
  have HZ := Lib.hid hz
  clear hz
  rintro e w1 ⟨rfl, h1⟩
  have H1 := Lib.hid h1
  by_cases hz : z = 0
  · subst hz
    have hsm : ∀ r ∈ rl, r.n ≤ 100000 := fun r hr => by
      have h5 := right_few ((newF_right HZ.out).2 _ (List.mem_map_of_mem hr))
      have h6 := (HOK.out r hr).len
      omega
    have HSM := Lib.hid hsm
    have zz := h1.size
    clear hsm h1
    go_wp2_with fail
    refine (new_any rl A n c w1 lo hi (HS.out.below H1.out hhi) (by omega) (by omega) HSM.out).mono ?_
    rintro e w2 ⟨h2, hq⟩
    rcases hq with ⟨hbad, _⟩ | ⟨_, t, rs, rfl, ht, htab⟩
    · exact absurd HZ.out hbad
    have HT := Lib.hid htab
    have HTB := Lib.hid ht
    have H2 := Lib.hid (H1.out.trans (h2.mono zz))
    have z2 := H2.out.size
    clear ht htab h2
    go_wp2_with fail
    refine (snew_any t w2).mono ?_
    rintro e w3 ⟨p, b, rfl, hp, hb, hne, hx4, hm4, h4⟩
    have HSK := Lib.hid (SK.begin HTB.out hp hb hne hx4 hm4 h4)
    have H3 := Lib.hid (H2.out.trans (h4.mono z2))
    clear hx4 hm4 h4
    go_wp2
    go_ret2
    exact ⟨H3.out, .inr ⟨HZ.out, _, _, t, p, b, rs, rfl, HSK.out, z2, HT.out⟩⟩
  · go_wp2
    go_ret2
    exact ⟨H1.out, .inl ⟨by rw [HZ.out]; exact hz, rfl⟩⟩
/-- An act of a script. -/
structure SAct where
  kind : Int
  fl : Int
  n : Int
  leg : Leg
  cl : Int
structure SAct.ok (a : SAct) : Prop where
  kind : okInt a.kind
  fl : okInt a.fl
  n : okInt a.n
  leg : a.leg.ok
  cl : okByte a.cl
def sactV (a : SAct) : Value := .agg #[.int .i64 a.kind, .int .i64 a.fl, .int .i64 a.n, .string a.leg.key.car, .int .i64 a.leg.key.num, .int .i64 a.leg.day, .int .u8 a.cl]
/-- The leg of an act, over some flights. -/
def legA (l : List Flt) (a : SAct) : Leg := if 0 ≤ a.fl then (match l[a.fl.toNat]? with | some f => ⟨f.key, a.leg.day⟩ | none => a.leg) else a.leg
theorem info_lg : (Tryz.prog.info? 27).map (·.size) = some 3 := by kernel_rfl
theorem ret_lg {fn : Func} {p : Tmp} (h : fn.results = #[.cell p 27]) {R : Ending → World → Prop} {a : Act} {w : World} {g : Nat} {cs : Array Value}
    (hr : Bx w g cs 27) (hs : cs.size = 3) (hp : a.tmps.getD p undef = .pointer (some ⟨g, 0, none⟩)) (hd : a.defers = []) (hR : R (.returned (.agg cs)) w) : bodyPost Tryz.prog fn R .ret a w := by
  refine bodyPost_ret (v := .agg cs) ?_ hd hR
  rw [res_cell1 h, hp]
  have hl := run_loadVar_row (P := Tryz.prog) w g 27 27 cs (0, 0) _ hr Tryz.underlying27 rfl (by rw [hs]; exact info_lg)
  simp [asAddr, hl, Result.andThen]
set_option maxRecDepth 100000 in
set_option maxHeartbeats 4000000 in
theorem leg_any (rl : List FlR) (A : Option Addr) (n c : Nat) (w : World) (lo hi : Nat) (hs : FlS w lo hi A n rl) (hhi : hi ≤ w.heap.size) (a : SAct) :
    Calls Tryz.prog 15 #[.slice A n c, sactV a] w fun e w' => e = .returned (.agg #[.string (legA (rl.map (·.f)) a).key.car, .int .i64 (legA (rl.map (·.f)) a).key.num, .int .i64 (legA (rl.map (·.f)) a).day]) ∧ Below w.heap.size w w' := by
  have HL := Lib.hid hs.sl.len
  obtain ⟨kind, fl, m, ⟨⟨kc, kn⟩, d⟩, cl⟩ := a
  unfold sactV
  dsimp only
  have HS := Lib.hid hs
  clear hs
  by_cases h0 : 0 ≤ fl ∧ fl < n
  · obtain ⟨k, rfl⟩ := Int.eq_ofNat_of_zero_le h0.1
    have hlt : k < n := by omega
    obtain ⟨b0, o0, s, hA, _, hb0, hx, hok, hcl, d0, d1, _⟩ := HS.out.at_ hlt
    subst hA
    have HF := Lib.hid (show legA (rl.map (·.f)) ⟨kind, (k : Nat), m, ⟨⟨kc, kn⟩, d⟩, cl⟩ = ⟨⟨s.f.car, s.f.num⟩, d⟩ by
      unfold legA
      rw [if_pos (by exact h0.1)]
      simp only [Int.toNat_natCast, List.getElem?_map, hx.out]
      rfl)
    have i0 : (0 : Int) ≤ k := h0.1
    have i1 : (k : Int) < n := h0.2
    have hbw : b0 < w.heap.size := by omega
    clear hx hcl h0
    go_enter Tryz.func15, Tryz.ntmps15
    go_upto_region 2 with fail
    refine wp_world (fun V => (Bx V w.heap.size #[.int .i64 kind, .int .i64 k, .int .i64 m, .string kc, .int .i64 kn, .int .i64 d, .int .u8 cl] 29 ∧ Bx V (w.heap.size + 1) #[.string ⟨#[]⟩, .int .i64 0, .int .i64 0] 27 ∧ Bx V (w.heap.size + 1 + 1) #[.string kc, .int .i64 kn, .int .i64 d] 27) ∧ Below w.heap.size w V) ⟨⟨((Bx.new w _ _).alloc _).alloc _, by have h := (Bx.new (w.alloc (.cells #[.int .i64 kind, .int .i64 k, .int .i64 m, .string kc, .int .i64 kn, .int .i64 d, .int .u8 cl] 29)) #[.string ⟨#[]⟩, .int .i64 0, .int .i64 0] 27).alloc (.cells #[.string kc, .int .i64 kn, .int .i64 d] 27); rw [World.size_alloc] at h; exact h, by have h := Bx.new ((w.alloc (.cells #[.int .i64 kind, .int .i64 k, .int .i64 m, .string kc, .int .i64 kn, .int .i64 d, .int .u8 cl] 29)).alloc (.cells #[.string ⟨#[]⟩, .int .i64 0, .int .i64 0] 27)) #[.string kc, .int .i64 kn, .int .i64 d] 27; rw [World.size_alloc, World.size_alloc] at h; exact h⟩, (((Below.refl _ _).alloc (Nat.le_refl _) _).alloc (by simp) _).alloc (by simp; omega) _⟩ ?_
    rintro V ⟨⟨bA, bZ, bL⟩, hb⟩
    have c1 := bA.cells
    have c2 := bL.cells
    have c3 := bZ.cells
    have f2 := bL.free
    have f3 := bZ.free
    have zL := bL.lt
    have zZ := bZ.lt
    have e0 := (hb.cell (p := ⟨b0, o0 + k * 9, none⟩) hbw).trans d0
    have e1 := (hb.cell (p := ⟨b0, o0 + k * 9 + 1, none⟩) hbw).trans d1
    clear d0 d1
    go_wp2
    have hZ2 := (((((bZ.other (p := ⟨w.heap.size + 1 + 1, 0, none⟩) (by simp) (.string s.f.car)).other (p := ⟨w.heap.size + 1 + 1, 1, none⟩) (by simp) (.int .i64 s.f.num)).put 0 (.string s.f.car)).put 1 (.int .i64 s.f.num)).put 2 (.int .i64 d))
    refine ret_lg Tryz.results15 hZ2 rfl rfl rfl ?_
    exact ⟨by rw [HF.out]; rfl, ((((hb.setCell (by simp <;> omega) _).setCell (by simp <;> omega) _).setCell (by simp <;> omega) _).setCell (by simp <;> omega) _).setCell (by simp <;> omega) _⟩
  · have HF : Hid (legA (rl.map (·.f)) ⟨kind, fl, m, ⟨⟨kc, kn⟩, d⟩, cl⟩ = ⟨⟨kc, kn⟩, d⟩) := by
      show legA _ _ = _
      unfold legA
      dsimp only
      split
      · rename_i h1
        have h2 : (rl.map (·.f))[fl.toNat]? = none := List.getElem?_eq_none (by rw [List.length_map, HL.out]; omega)
        rw [h2]
      · rfl
    by_cases h1 : 0 ≤ fl
    · have h2 : (n : Int) ≤ fl := by omega
      clear h0
      go_enter Tryz.func15, Tryz.ntmps15
      go_upto_region 2 with fail
      refine wp_world (fun V => (Bx V w.heap.size #[.int .i64 kind, .int .i64 fl, .int .i64 m, .string kc, .int .i64 kn, .int .i64 d, .int .u8 cl] 29 ∧ Bx V (w.heap.size + 1) #[.string ⟨#[]⟩, .int .i64 0, .int .i64 0] 27 ∧ Bx V (w.heap.size + 1 + 1) #[.string kc, .int .i64 kn, .int .i64 d] 27) ∧ Below w.heap.size w V) ⟨⟨((Bx.new w _ _).alloc _).alloc _, by have h := (Bx.new (w.alloc (.cells #[.int .i64 kind, .int .i64 fl, .int .i64 m, .string kc, .int .i64 kn, .int .i64 d, .int .u8 cl] 29)) #[.string ⟨#[]⟩, .int .i64 0, .int .i64 0] 27).alloc (.cells #[.string kc, .int .i64 kn, .int .i64 d] 27); rw [World.size_alloc] at h; exact h, by have h := Bx.new ((w.alloc (.cells #[.int .i64 kind, .int .i64 fl, .int .i64 m, .string kc, .int .i64 kn, .int .i64 d, .int .u8 cl] 29)).alloc (.cells #[.string ⟨#[]⟩, .int .i64 0, .int .i64 0] 27)) #[.string kc, .int .i64 kn, .int .i64 d] 27; rw [World.size_alloc, World.size_alloc] at h; exact h⟩, (((Below.refl _ _).alloc (Nat.le_refl _) _).alloc (by simp) _).alloc (by simp; omega) _⟩ ?_
      rintro V ⟨⟨bA, bZ, bL⟩, hb⟩
      have c1 := bA.cells
      have c2 := bL.cells
      have c3 := bZ.cells
      have f2 := bL.free
      have f3 := bZ.free
      have zL := bL.lt
      have zZ := bZ.lt
      go_wp2
      have hZ2 := ((bZ.put 0 (.string kc)).put 1 (.int .i64 kn)).put 2 (.int .i64 d)
      refine ret_lg Tryz.results15 hZ2 rfl rfl rfl ?_
      exact ⟨by rw [HF.out]; rfl, ((hb.setCell (by simp <;> omega) _).setCell (by simp <;> omega) _).setCell (by simp <;> omega) _⟩
    · have h2 : fl < 0 := by omega
      clear h0
      go_enter Tryz.func15, Tryz.ntmps15
      go_upto_region 2 with fail
      refine wp_world (fun V => (Bx V w.heap.size #[.int .i64 kind, .int .i64 fl, .int .i64 m, .string kc, .int .i64 kn, .int .i64 d, .int .u8 cl] 29 ∧ Bx V (w.heap.size + 1) #[.string ⟨#[]⟩, .int .i64 0, .int .i64 0] 27 ∧ Bx V (w.heap.size + 1 + 1) #[.string kc, .int .i64 kn, .int .i64 d] 27) ∧ Below w.heap.size w V) ⟨⟨((Bx.new w _ _).alloc _).alloc _, by have h := (Bx.new (w.alloc (.cells #[.int .i64 kind, .int .i64 fl, .int .i64 m, .string kc, .int .i64 kn, .int .i64 d, .int .u8 cl] 29)) #[.string ⟨#[]⟩, .int .i64 0, .int .i64 0] 27).alloc (.cells #[.string kc, .int .i64 kn, .int .i64 d] 27); rw [World.size_alloc] at h; exact h, by have h := Bx.new ((w.alloc (.cells #[.int .i64 kind, .int .i64 fl, .int .i64 m, .string kc, .int .i64 kn, .int .i64 d, .int .u8 cl] 29)).alloc (.cells #[.string ⟨#[]⟩, .int .i64 0, .int .i64 0] 27)) #[.string kc, .int .i64 kn, .int .i64 d] 27; rw [World.size_alloc, World.size_alloc] at h; exact h⟩, (((Below.refl _ _).alloc (Nat.le_refl _) _).alloc (by simp) _).alloc (by simp; omega) _⟩ ?_
      rintro V ⟨⟨bA, bZ, bL⟩, hb⟩
      have c1 := bA.cells
      have c2 := bL.cells
      have c3 := bZ.cells
      have f2 := bL.free
      have f3 := bZ.free
      have zL := bL.lt
      have zZ := bZ.lt
      go_wp2
      have hZ2 := ((bZ.put 0 (.string kc)).put 1 (.int .i64 kn)).put 2 (.int .i64 d)
      refine ret_lg Tryz.results15 hZ2 rfl rfl rfl ?_
      exact ⟨by rw [HF.out]; rfl, ((hb.setCell (by simp <;> omega) _).setCell (by simp <;> omega) _).setCell (by simp <;> omega) _⟩
def tSA : Ty SAct := ⟨fun a => [.int .i64 a.kind, .int .i64 a.fl, .int .i64 a.n, .string a.leg.key.car, .int .i64 a.leg.key.num, .int .i64 a.leg.day, .int .u8 a.cl], 7, SAct.ok, fun _ => rfl, fun x u h => by simp at h; rcases h with h | h | h | h | h | h | h <;> subst h <;> rfl, by omega⟩
theorem Sl.act_ {w : World} {lo hi k n : Nat} {A : Option Addr} {l : List SAct} (h : Sl w lo hi tSA A n l) (hk : k < n) :
    ∃ b o x, A = some ⟨b, o, none⟩ ∧ lo ≤ b ∧ b < hi ∧ Hid (l[k]? = some x) ∧ x.ok ∧ w.cell? ⟨b, o + k * 7, none⟩ = some (.int .i64 x.kind) ∧ w.cell? ⟨b, o + k * 7 + 1, none⟩ = some (.int .i64 x.fl) ∧ w.cell? ⟨b, o + k * 7 + 2, none⟩ = some (.int .i64 x.n) ∧ w.cell? ⟨b, o + k * 7 + 3, none⟩ = some (.string x.leg.key.car) ∧ w.cell? ⟨b, o + k * 7 + 4, none⟩ = some (.int .i64 x.leg.key.num) ∧ w.cell? ⟨b, o + k * 7 + 5, none⟩ = some (.int .i64 x.leg.day) ∧ w.cell? ⟨b, o + k * 7 + 6, none⟩ = some (.int .u8 x.cl) := by
  obtain ⟨b, o, x, h1, h2, h3, h4, h5, hc⟩ := h.at_ hk
  exact ⟨b, o, x, h1, h2, h3, h4, h5, by simpa [tSA] using hc 0 _ rfl, hc 1 _ rfl, hc 2 _ rfl, hc 3 _ rfl, hc 4 _ rfl, hc 5 _ rfl, hc 6 _ rfl⟩
theorem legA_ok {l : List Flt} {a : SAct} (ha : a.ok) (hl : ∀ f ∈ l, f.ok) : (legA l a).ok := by
  unfold legA
  split
  · split
    · rename_i f hf
      exact ⟨⟨(hl f (List.mem_of_getElem? hf)).car, (hl f (List.mem_of_getElem? hf)).num⟩, ha.leg.2⟩
    · exact ha.leg
  · exact ha.leg
end Go.Proofs.YtlkdefmceghmnaaGreat
