/- Hold's laws: acts, the leg of an act, the book that they begin with. By program. -/
import Derived.Test.YtlkdefmceghmnaaGreatHd6
import Derived.Test.YtlkdefmceghmnaaGreatFlRef2
namespace Go.Proofs.YtlkdefmceghmnaaGreat
set_option linter.unusedVariables false
open Go Go.RowKit Go.Sort
theorem four_boxes (w : World) (A B C D : Array Value) (s t u v : TypeId) : (Bx ((((w.alloc (.cells A s)).alloc (.cells B t)).alloc (.cells C u)).alloc (.cells D v)) w.heap.size A s ∧ Bx ((((w.alloc (.cells A s)).alloc (.cells B t)).alloc (.cells C u)).alloc (.cells D v)) (w.heap.size + 1) B t ∧ Bx ((((w.alloc (.cells A s)).alloc (.cells B t)).alloc (.cells C u)).alloc (.cells D v)) (w.heap.size + 1 + 1) C u ∧ Bx ((((w.alloc (.cells A s)).alloc (.cells B t)).alloc (.cells C u)).alloc (.cells D v)) (w.heap.size + 1 + 1 + 1) D v) ∧ Below w.heap.size w ((((w.alloc (.cells A s)).alloc (.cells B t)).alloc (.cells C u)).alloc (.cells D v)) := by
  have h2 := two_boxes w A B s t
  have h3 := Bx.new ((w.alloc (.cells A s)).alloc (.cells B t)) C u
  have h4 := Bx.new (((w.alloc (.cells A s)).alloc (.cells B t)).alloc (.cells C u)) D v
  rw [World.size_alloc, World.size_alloc] at h3
  rw [World.size_alloc, World.size_alloc, World.size_alloc] at h4
  exact ⟨⟨(h2.1.alloc _).alloc _, (h2.2.1.alloc _).alloc _, h3.alloc _, h4⟩, (h2.2.2.below.alloc (by simp; omega) _).alloc (by simp; omega) _⟩
theorem eql_tab (w : World) (a : Addr) : (binOp .eql 97 (.pointer (some a)) (.pointer none)).run Tryz.prog w = .ok (.bool false) w := by kernel_rfl
theorem neq_bk (w : World) (a : Addr) : (binOp .neq 62 (.pointer (some a)) (.pointer none)).run Tryz.prog w = .ok (.bool true) w := by kernel_rfl
theorem eql_bk (w : World) (a : Addr) : (binOp .eql 62 (.pointer (some a)) (.pointer none)).run Tryz.prog w = .ok (.bool false) w := by kernel_rfl
theorem newF_right {l : List Flt} (h : newF l = 0) : l.length ≤ 64 ∧ ∀ f ∈ l, rightB f = true := by
  unfold newF at h
  split at h
  · cases h
  · split at h
    · rename_i h1 h2
      exact ⟨by omega, List.all_eq_true.1 h2⟩
    · cases h
theorem TB.more {W : World} {lo lo' p : Nat} {rl : List FlR} (h : TB W lo p rl) (hl : lo' ≤ lo) : TB W lo' p rl := by
  obtain ⟨mp, A, n, c, g, h1, h2, h3, h4, h5, h6⟩ := h.ex
  exact ⟨⟨mp, A, n, c, g, h1, h2.more hl, h3, h4, Nat.le_trans hl h5, Nat.le_trans hl h6⟩, h.most, h.small⟩
theorem PLS.more {w : World} {lo hi hi' : Nat} {A : Option Addr} {n : Nat} {ps : List PlM} (h : PLS w lo hi A n ps) (hh : hi ≤ hi') : PLS w lo hi' A n ps :=
  ⟨h.sl.more (Nat.le_refl _) hh, fun x hx => ⟨(h.at_ x hx).1, ⟨(h.at_ x hx).2.1.1, Nat.lt_of_lt_of_le (h.at_ x hx).2.1.2 hh⟩, (h.at_ x hx).2.2.1, Nat.lt_of_lt_of_le (h.at_ x hx).2.2.2 hh⟩⟩
theorem right_few {f : Flt} (h : rightB f = true) : f.cls.length ≤ 6 := by
  unfold rightB rightC at h
  simp only [Bool.and_eq_true, decide_eq_true_eq] at h
  exact h.2.1.2.2.2.2.2
/-- An act of a script. -/
structure HAct where
  kind : Int
  fl : Int
  leg : Leg
  seat : Sit
  hol : Hol
structure HAct.ok (a : HAct) : Prop where
  kind : okInt a.kind
  fl : okInt a.fl
  leg : a.leg.ok
  seat : a.seat.ok
  hol : a.hol.ok
def hactV (a : HAct) : Value := .agg #[.int .i64 a.kind, .int .i64 a.fl, .string a.leg.key.car, .int .i64 a.leg.key.num, .int .i64 a.leg.day, .int .i64 a.seat.row, .int .u8 a.seat.let_, .string a.hol.loc, .int .i64 a.hol.pax]
/-- The leg of an act, over some flights. -/
def legH (l : List Flt) (a : HAct) : Leg := if 0 ≤ a.fl then (match l[a.fl.toNat]? with | some f => ⟨f.key, a.leg.day⟩ | none => a.leg) else a.leg
theorem info_lg : (Tryz.prog.info? 27).map (·.size) = some 3 := by kernel_rfl
theorem ret_lg {fn : Func} {p : Tmp} (h : fn.results = #[.cell p 27]) {R : Ending → World → Prop} {a : Act} {w : World} {g : Nat} {cs : Array Value}
    (hr : Bx w g cs 27) (hs : cs.size = 3) (hp : a.tmps.getD p undef = .pointer (some ⟨g, 0, none⟩)) (hd : a.defers = []) (hR : R (.returned (.agg cs)) w) : bodyPost Tryz.prog fn R .ret a w := by
  refine bodyPost_ret (v := .agg cs) ?_ hd hR
  rw [res_cell1 h, hp]
  have hl := run_loadVar_row (P := Tryz.prog) w g 27 27 cs (0, 0) _ hr Tryz.underlying27 rfl (by rw [hs]; exact info_lg)
  simp [asAddr, hl, Result.andThen]
set_option maxRecDepth 100000 in
set_option maxHeartbeats 4000000 in
theorem hleg_any (rl : List FlR) (A : Option Addr) (n c : Nat) (A2 : Option Addr) (n2 c2 : Nat) (w : World) (lo hi : Nat) (hs : FlS w lo hi A n rl) (hhi : hi ≤ w.heap.size) (a : HAct) :
    Calls Tryz.prog 30 #[.agg #[.slice A n c, .slice A2 n2 c2], hactV a] w fun e w' => e = .returned (.agg #[.string (legH (rl.map (·.f)) a).key.car, .int .i64 (legH (rl.map (·.f)) a).key.num, .int .i64 (legH (rl.map (·.f)) a).day]) ∧ Below w.heap.size w w' := by
  have HL := Lib.hid hs.sl.len
  obtain ⟨kind, fl, ⟨⟨kc, kn⟩, d⟩, ⟨sr, sl⟩, ⟨hl, hx⟩⟩ := a
  unfold hactV
  dsimp only
  have HS := Lib.hid hs
  clear hs
  by_cases h0 : 0 ≤ fl ∧ fl < n
  · obtain ⟨k, rfl⟩ := Int.eq_ofNat_of_zero_le h0.1
    have hlt : k < n := by omega
    obtain ⟨b0, o0, s, hA, _, hb0, hx0, hok, hcl, d0, d1, _⟩ := HS.out.at_ hlt
    subst hA
    have HF := Lib.hid (show legH (rl.map (·.f)) ⟨kind, (k : Nat), ⟨⟨kc, kn⟩, d⟩, ⟨sr, sl⟩, ⟨hl, hx⟩⟩ = ⟨⟨s.f.car, s.f.num⟩, d⟩ by
      unfold legH
      rw [if_pos (by exact h0.1)]
      simp only [Int.toNat_natCast, List.getElem?_map, hx0.out]
      rfl)
    have i0 : (0 : Int) ≤ k := h0.1
    have i1 : (k : Int) < n := h0.2
    have hbw : b0 < w.heap.size := by omega
    clear hx0 hcl h0
    go_enter Tryz.func30, Tryz.ntmps30
    go_upto_region 2 with fail
    refine wp_world (fun V => (Bx V w.heap.size #[.slice (some ⟨b0, o0, none⟩) n c, .slice A2 n2 c2] 60 ∧ Bx V (w.heap.size + 1) #[.int .i64 kind, .int .i64 k, .string kc, .int .i64 kn, .int .i64 d, .int .i64 sr, .int .u8 sl, .string hl, .int .i64 hx] 71 ∧ Bx V (w.heap.size + 1 + 1) #[.string ⟨#[]⟩, .int .i64 0, .int .i64 0] 27 ∧ Bx V (w.heap.size + 1 + 1 + 1) #[.string kc, .int .i64 kn, .int .i64 d] 27) ∧ Below w.heap.size w V) (four_boxes w _ _ _ _ _ _ _ _) ?_
    rintro V ⟨⟨bW, bA, bZ, bX⟩, hb⟩
    have c0 := bW.cells
    have c1 := bA.cells
    have c2 := bX.cells
    have c3 := bZ.cells
    have f2 := bX.free
    have f3 := bZ.free
    have zL := bX.lt
    have zZ := bZ.lt
    have e0 := (hb.cell (p := ⟨b0, o0 + k * 9, none⟩) hbw).trans d0
    have e1 := (hb.cell (p := ⟨b0, o0 + k * 9 + 1, none⟩) hbw).trans d1
    clear d0 d1
    go_wp2
    have hZ2 := (((((bZ.other (p := ⟨w.heap.size + 1 + 1 + 1, 0, none⟩) (by simp) (.string s.f.car)).other (p := ⟨w.heap.size + 1 + 1 + 1, 1, none⟩) (by simp) (.int .i64 s.f.num)).put 0 (.string s.f.car)).put 1 (.int .i64 s.f.num)).put 2 (.int .i64 d))
    refine ret_lg Tryz.results30 hZ2 rfl rfl rfl ?_
    exact ⟨by rw [HF.out]; rfl, ((((hb.setCell (by simp <;> omega) _).setCell (by simp <;> omega) _).setCell (by simp <;> omega) _).setCell (by simp <;> omega) _).setCell (by simp <;> omega) _⟩
  · have HF : Hid (legH (rl.map (·.f)) ⟨kind, fl, ⟨⟨kc, kn⟩, d⟩, ⟨sr, sl⟩, ⟨hl, hx⟩⟩ = ⟨⟨kc, kn⟩, d⟩) := by
      show legH _ _ = _
      unfold legH
      dsimp only
      split
      · rename_i h1
        have h2 : (rl.map (·.f))[fl.toNat]? = none := List.getElem?_eq_none (by rw [List.length_map, HL.out]; omega)
        rw [h2]
      · rfl
    by_cases h1 : 0 ≤ fl
    · have h2 : (n : Int) ≤ fl := by omega
      clear h0
      go_enter Tryz.func30, Tryz.ntmps30
      go_upto_region 2 with fail
      refine wp_world (fun V => (Bx V w.heap.size #[.slice A n c, .slice A2 n2 c2] 60 ∧ Bx V (w.heap.size + 1) #[.int .i64 kind, .int .i64 fl, .string kc, .int .i64 kn, .int .i64 d, .int .i64 sr, .int .u8 sl, .string hl, .int .i64 hx] 71 ∧ Bx V (w.heap.size + 1 + 1) #[.string ⟨#[]⟩, .int .i64 0, .int .i64 0] 27 ∧ Bx V (w.heap.size + 1 + 1 + 1) #[.string kc, .int .i64 kn, .int .i64 d] 27) ∧ Below w.heap.size w V) (four_boxes w _ _ _ _ _ _ _ _) ?_
      rintro V ⟨⟨bW, bA, bZ, bX⟩, hb⟩
      have c0 := bW.cells
      have c1 := bA.cells
      have c2 := bX.cells
      have c3 := bZ.cells
      have f2 := bX.free
      have f3 := bZ.free
      have zL := bX.lt
      have zZ := bZ.lt
      go_wp2
      have hZ2 := ((bZ.put 0 (.string kc)).put 1 (.int .i64 kn)).put 2 (.int .i64 d)
      refine ret_lg Tryz.results30 hZ2 rfl rfl rfl ?_
      exact ⟨by rw [HF.out]; rfl, ((hb.setCell (by simp <;> omega) _).setCell (by simp <;> omega) _).setCell (by simp <;> omega) _⟩
    · have h2 : fl < 0 := by omega
      clear h0
      go_enter Tryz.func30, Tryz.ntmps30
      go_upto_region 2 with fail
      refine wp_world (fun V => (Bx V w.heap.size #[.slice A n c, .slice A2 n2 c2] 60 ∧ Bx V (w.heap.size + 1) #[.int .i64 kind, .int .i64 fl, .string kc, .int .i64 kn, .int .i64 d, .int .i64 sr, .int .u8 sl, .string hl, .int .i64 hx] 71 ∧ Bx V (w.heap.size + 1 + 1) #[.string ⟨#[]⟩, .int .i64 0, .int .i64 0] 27 ∧ Bx V (w.heap.size + 1 + 1 + 1) #[.string kc, .int .i64 kn, .int .i64 d] 27) ∧ Below w.heap.size w V) (four_boxes w _ _ _ _ _ _ _ _) ?_
      rintro V ⟨⟨bW, bA, bZ, bX⟩, hb⟩
      have c0 := bW.cells
      have c1 := bA.cells
      have c2 := bX.cells
      have c3 := bZ.cells
      have f2 := bX.free
      have f3 := bZ.free
      have zL := bX.lt
      have zZ := bZ.lt
      go_wp2
      have hZ2 := ((bZ.put 0 (.string kc)).put 1 (.int .i64 kn)).put 2 (.int .i64 d)
      refine ret_lg Tryz.results30 hZ2 rfl rfl rfl ?_
      exact ⟨by rw [HF.out]; rfl, ((hb.setCell (by simp <;> omega) _).setCell (by simp <;> omega) _).setCell (by simp <;> omega) _⟩
def tHA : Ty HAct := ⟨fun a => [.int .i64 a.kind, .int .i64 a.fl, .string a.leg.key.car, .int .i64 a.leg.key.num, .int .i64 a.leg.day, .int .i64 a.seat.row, .int .u8 a.seat.let_, .string a.hol.loc, .int .i64 a.hol.pax], 9, HAct.ok, fun _ => rfl, fun x u h => by simp at h; rcases h with h | h | h | h | h | h | h | h | h <;> subst h <;> rfl, by omega⟩
theorem Sl.ha_ {w : World} {lo hi k n : Nat} {A : Option Addr} {l : List HAct} (h : Sl w lo hi tHA A n l) (hk : k < n) :
    ∃ b o x, A = some ⟨b, o, none⟩ ∧ lo ≤ b ∧ b < hi ∧ Hid (l[k]? = some x) ∧ HAct.ok x ∧ w.cell? ⟨b, o + k * 9, none⟩ = some (.int .i64 x.kind) ∧ w.cell? ⟨b, o + k * 9 + 1, none⟩ = some (.int .i64 x.fl) ∧ w.cell? ⟨b, o + k * 9 + 2, none⟩ = some (.string x.leg.key.car) ∧ w.cell? ⟨b, o + k * 9 + 3, none⟩ = some (.int .i64 x.leg.key.num) ∧ w.cell? ⟨b, o + k * 9 + 4, none⟩ = some (.int .i64 x.leg.day) ∧ w.cell? ⟨b, o + k * 9 + 5, none⟩ = some (.int .i64 x.seat.row) ∧ w.cell? ⟨b, o + k * 9 + 6, none⟩ = some (.int .u8 x.seat.let_) ∧ w.cell? ⟨b, o + k * 9 + 7, none⟩ = some (.string x.hol.loc) ∧ w.cell? ⟨b, o + k * 9 + 8, none⟩ = some (.int .i64 x.hol.pax) := by
  obtain ⟨b, o, x, h1, h2, h3, h4, h5, hc⟩ := h.at_ hk
  exact ⟨b, o, x, h1, h2, h3, h4, h5, by simpa [tHA] using hc 0 _ rfl, hc 1 _ rfl, hc 2 _ rfl, hc 3 _ rfl, hc 4 _ rfl, hc 5 _ rfl, hc 6 _ rfl, hc 7 _ rfl, hc 8 _ rfl⟩
theorem legH_ok {l : List Flt} {a : HAct} (ha : a.ok) (hl : ∀ f ∈ l, f.ok) : (legH l a).ok := by
  unfold legH
  split
  · split
    · rename_i f hf
      exact ⟨⟨(hl f (List.mem_of_getElem? hf)).car, (hl f (List.mem_of_getElem? hf)).num⟩, ha.leg.2⟩
    · exact ha.leg
  · exact ha.leg
/-- What begun hands back. -/
def HbgQ (w : World) (rl : List FlR) (pl : List PlR) (e : Ending) (w' : World) : Prop :=
  Below w.heap.size w w' ∧ (((newF (rl.map (·.f)) ≠ 0 ∨ 8 < pl.length ∨ ∃ r ∈ pl, ¬ goodP r.p) ∧ e = .returned (.tuple #[.pointer none, .bool false])) ∨
    (newF (rl.map (·.f)) = 0 ∧ ∃ lo hi t p b rs ps, e = .returned (.tuple #[.pointer (some ⟨p, 0, none⟩), .bool true]) ∧ HK w' lo hi t p b rs ps (fun _ => none) ∧ w.heap.size ≤ hi ∧ Tab (rl.map (·.f)) (rs.map (·.f)) ∧ PlKs pl ps pl.length))
set_option maxRecDepth 100000 in
set_option maxHeartbeats 8000000 in
theorem hbegun_any (rl : List FlR) (A : Option Addr) (n c : Nat) (pl : List PlR) (A2 : Option Addr) (n2 c2 : Nat) (w : World) (lo hi : Nat) (hs : FlS w lo hi A n rl) (hp : PlS w lo hi A2 n2 pl) (hhi : hi ≤ w.heap.size) :
    Calls Tryz.prog 29 #[.agg #[.slice A n c, .slice A2 n2 c2]] w (HbgQ w rl pl) := by
  have HS := Lib.hid hs
  have HP := Lib.hid hp
  have HL := Lib.hid hs.sl.len
  have HOK := Lib.hid hs.sl.wf
  have hnl := eql_tab
  have hns := neq_bk
  have HB := box1 w #[.slice A n c, .slice A2 n2 c2] 60
  clear hs hp
  go_enter Tryz.func29, Tryz.ntmps29
  go_upto_region 1 with fail
  refine wp_world (fun V => Bx V w.heap.size #[.slice A n c, .slice A2 n2 c2] 60 ∧ Below w.heap.size w V) HB ?_
  clear HB
  rintro V ⟨bW, hb⟩
  have BW := Lib.hid bW
  have HB := Lib.hid hb
  have zV := hb.size
  have zW := bW.lt
  have cW := bW.cells
  clear bW hb
  by_cases hm : 64 < n
  · have h64 := Lib.hid (newF_many (l := rl.map (·.f)) (by rw [List.length_map, HL.out]; exact hm))
    have hm' : (64 : Int) < n := by omega
    go_wp2
    go_ret2
    exact ⟨HB.out, .inl ⟨.inl (by rw [h64.out]; decide), rfl⟩⟩
  have hm' : (n : Int) ≤ 64 := by omega
  go_wp2_with fail
  refine (rnew_all rl A n c V lo hi (HS.out.below HB.out hhi) (Nat.le_trans hhi zV)).mono ?_
  generalize hz : newF (rl.map (·.f)) = z
  have HZ := Lib.hid hz
  clear hz
  rintro e w1 ⟨rfl, h1⟩
  have H1 := Lib.hid (HB.out.trans (h1.mono zV))
  have b1 := BW.out.below h1 zW
  have B1 := Lib.hid b1
  have z1 := H1.out.size
  clear cW h1
  have c1 := b1.cells
  clear b1
  by_cases hz : z = 0
  · subst hz
    have hsm : ∀ r ∈ rl, r.n ≤ 100000 := fun r hr => by
      have h5 := right_few ((newF_right HZ.out).2 _ (List.mem_map_of_mem hr))
      have h6 := (HOK.out r hr).len
      omega
    have HSM := Lib.hid hsm
    clear hsm
    go_wp2_with fail
    refine (maps_any pl A2 n2 c2 w1 lo hi (HP.out.below H1.out hhi) (Nat.le_trans hhi z1)).mono ?_
    rintro e w2 ⟨h2, hq⟩
    have H2 := Lib.hid (H1.out.trans (h2.mono z1))
    have b2 := B1.out.below h2 B1.out.lt
    have B2 := Lib.hid b2
    have z2 := H2.out.size
    have z12 := h2.size
    clear c1 h2
    have c2 := b2.cells
    clear b2
    rcases hq with ⟨hbad, rfl⟩ | ⟨A9, n9, c9, ps, rfl, hpl, hn9, hc9, hks⟩
    · have HBAD := Lib.hid hbad
      clear hbad
      go_wp2_with fail
      refine (new_any rl A n c w2 lo hi (HS.out.below H2.out hhi) (by omega) (Nat.le_trans hhi z2) HSM.out).mono ?_
      rintro e w3 ⟨h3, hq⟩
      have H3 := Lib.hid (H2.out.trans (h3.mono z2))
      clear c2 h3
      rcases hq with ⟨hbad, _⟩ | ⟨_, t, rs, rfl, ht, htab⟩
      · exact absurd HZ.out hbad
      clear ht htab
      go_wp2
      go_ret2
      exact ⟨H3.out, .inl ⟨.inr HBAD.out, rfl⟩⟩
    · have HPL := Lib.hid hpl
      have HKS := Lib.hid hks
      have HC9 := Lib.hid hc9
      clear hpl hks hc9
      go_wp2_with fail
      refine (new_any rl A n c w2 lo hi (HS.out.below H2.out hhi) (by omega) (Nat.le_trans hhi z2) HSM.out).mono ?_
      rintro e w3 ⟨h3, hq⟩
      have H3 := Lib.hid (H2.out.trans (h3.mono z2))
      have z3 := H3.out.size
      have H23 := Lib.hid h3
      have z23 := h3.size
      clear c2 h3
      rcases hq with ⟨hbad, _⟩ | ⟨_, t, rs, rfl, ht, htab⟩
      · exact absurd HZ.out hbad
      have HT := Lib.hid htab
      have HTB := Lib.hid ht
      clear ht htab
      go_wp2_with fail
      refine (hnew_any rs ps t w1.heap.size A9 n9 c9 w3 (HTB.out.more z12) ((HPL.out.keepB fun k _ h2 => H23.out.block k h2).more H23.out.size) (by omega) (by omega) HC9.out).mono ?_
      rintro e w4 ⟨hi4, p, b, rfl, hHK, hz4, h4⟩
      have HHK := Lib.hid hHK
      have H4 := Lib.hid (H3.out.trans (h4.mono z3))
      clear hHK h4
      go_wp2
      go_ret2
      exact ⟨H4.out, .inr ⟨HZ.out, _, hi4, t, p, b, rs, ps, rfl, HHK.out, by omega, HT.out, HKS.out⟩⟩
  · go_wp2
    go_ret2
    exact ⟨H1.out, .inl ⟨.inl (by rw [HZ.out]; exact hz), rfl⟩⟩
end Go.Proofs.YtlkdefmceghmnaaGreat
