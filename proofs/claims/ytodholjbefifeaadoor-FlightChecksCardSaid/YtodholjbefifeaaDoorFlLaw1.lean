/- The laws' own helpers: few, Copied, one. -/
import Derived.Test.YtodholjbefifeaaDoorFlLinks
namespace Go.Proofs.YtodholjbefifeaaDoor
set_option linter.unusedVariables false
open Go Go.RowKit Go.Sort
def FewQ (n : Nat) (rl : List FlR) (w : World) (e : Ending) (w' : World) : Prop := ∃ b, e = .returned (.bool b) ∧ w = w' ∧ (b = true → n ≤ 3000 ∧ ∀ r ∈ rl, r.n ≤ 3000)
set_option maxRecDepth 100000 in
set_option maxHeartbeats 4000000 in
theorem few_any (rl : List FlR) (A : Option Addr) (n c : Nat) (w : World) (lo hi : Nat) (hs : FlS w lo hi A n rl) (hn : n ≤ 9223372036854775807) :
    Calls Tryd.prog 14 #[.slice A n c] w (FewQ n rl w) := by
  have HS := Lib.hid hs
  have HL := Lib.hid hs.sl.len
  clear hs
  go_enter Tryd.func14, Tryd.ntmps14
  go_wp2
  go_loop [3, 4] (fun s i => ∃ (k : Nat) (m : Nat), k ≤ n ∧ i = .int .i64 k ∧ s = .int .i64 m ∧ n ≤ m ∧ (n ≤ 3000 → m ≤ 6000) ∧ Hid (m ≤ 3000 → ∀ j r, j < k → rl[j]? = some r → r.n ≤ 3000)) (fun _ i => n - (intOf i).toNat)
  case atStart => exact ⟨0, n, by omega, rfl, rfl, by omega, by omega, fun _ j r hj => absurd hj (by omega)⟩
  case round =>
    obtain ⟨k, m, hk, rfl, rfl, hm, hm2, HM⟩ := hrel
    by_cases hlt : k < n
    · have t1 : decide ((k : Int) < n) = true := by simp; omega
      by_cases h3 : m ≤ 3000
      · have t2 : decide ((m : Int) ≤ 3000) = true := by simp; omega
        obtain ⟨b0, o0, s, hA, _, _, hx, hok, hcl, d0, d1, d2, d3, d4, d5, d6, d7, d8⟩ := HS.out.at_ hlt
        subst hA
        have i0 : (0 : Int) ≤ k := by omega
        have i1 : (k : Int) < n := by omega
        go_wp2
        refine ⟨⟨k + 1, m + min s.n 3000, by omega, by go_num, by simp; omega, by omega, by omega, fun hm3 j r hj hr => ?_⟩, by simp [intOf]; omega⟩
        rcases Nat.lt_succ_iff_lt_or_eq.1 hj with h | h
        · exact HM.out h3 j r h hr
        · rw [h, hx.out] at hr
          injection hr with hr
          subst hr
          omega
      · have t2 : decide ((m : Int) ≤ 3000) = false := by simp; omega
        go_wp2
        go_ret
        exact ⟨false, rfl, rfl, fun h => by cases h⟩
    · obtain rfl : n = k := by omega
      have t1 : decide ((n : Int) < n) = false := by simp
      by_cases h3 : m ≤ 3000
      · have t2 : decide ((m : Int) ≤ 3000) = true := by simp; omega
        go_wp2
        go_ret
        refine ⟨true, rfl, rfl, fun _ => ⟨by omega, fun r hr => ?_⟩⟩
        obtain ⟨j, hj⟩ := List.mem_iff_getElem?.1 hr
        exact HM.out h3 j r (by rw [← HL.out]; exact (List.getElem?_eq_some_iff.1 hj).1) hj
      · have t2 : decide ((m : Int) ≤ 3000) = false := by simp; omega
        go_wp2
        go_ret
        exact ⟨false, rfl, rfl, fun h => by cases h⟩
set_option maxRecDepth 100000 in
set_option maxHeartbeats 4000000 in
theorem copied_law (rl : List FlR) (A : Option Addr) (n c : Nat) (w : World) (lo hi : Nat) (hs : FlS w lo hi A n rl) (hn : n ≤ 100000) (hhi : hi ≤ w.heap.size) (hsm : ∀ r ∈ rl, r.n ≤ 100000) :
    Calls Tryd.prog 16 #[.slice A n c] w (RetL w (rl.map (·.f))) := by
  have HS := Lib.hid hs
  have HM := Lib.hid hsm
  have HL := Lib.hid hs.sl.len
  clear hs hsm
  go_enter Tryd.func16, Tryd.ntmps16
  go_wp2
  go_loopw [3, 4] (fun v i wr => ∃ k : Nat, k ≤ n ∧ i = .int .i64 k ∧ Col w (rl.take k) v wr) (fun _ i _ => n - (intOf i).toNat)
  case atStart => exact ⟨0, by omega, rfl, Col.zero w⟩
  case round =>
    obtain ⟨k, hk, rfl, hC⟩ := hrel
    by_cases hlt : k < n
    · obtain ⟨b0, o0, s, hA, _, _, hx', hok, hcl, d0, d1, d2, d3, d4, d5, d6, d7, d8⟩ := (HS.out.below hC.B hhi).at_ hlt
      subst hA
      have HX := Lib.hid (take_snoc' hx'.out)
      have i0 : (0 : Int) ≤ k := by omega
      have i1 : (k : Int) < n := by omega
      have hsn : s.n ≤ 100000 := HM.out s (List.mem_of_getElem? hx'.out)
      have HOK := Lib.hid hok
      obtain ⟨out, ho, hm⟩ := hC.out
      have HO := Lib.hid ho
      have HMM := Lib.hid hm
      have hlo : out.length ≤ 100000 := by
        have h1 := congrArg List.length hm
        simp only [List.length_map, List.length_take] at h1
        omega
      have hz := hC.B.size
      have hzh := Nat.le_trans hhi hz
      have hm0 : World.ownsRow ((wr.alloc (.cells #[.string s.f.car, .int .i64 s.f.num, .string s.f.frm, .string s.f.to_, .int .u8 s.f.days, .int .i64 s.f.dep, .int .i64 s.f.arr, .slice s.A s.n s.c, .int .i64 s.f.pln] 26)).alloc (.cells #[] 54)) (wr.heap.size + 1) 54 2 (.slice (some ⟨(wr.alloc (.cells #[.string s.f.car, .int .i64 s.f.num, .string s.f.frm, .string s.f.to_, .int .u8 s.f.days, .int .i64 s.f.dep, .int .i64 s.f.arr, .slice s.A s.n s.c, .int .i64 s.f.pln] 26)).heap.size, 0, none⟩) 0 0) 0 [] := World.ownsRow_made _ #[] 0 (by simp) (by unfold maxLen; omega) rfl
      have hown : Own ((wr.alloc (.cells #[.string s.f.car, .int .i64 s.f.num, .string s.f.frm, .string s.f.to_, .int .u8 s.f.days, .int .i64 s.f.dep, .int .i64 s.f.arr, .slice s.A s.n s.c, .int .i64 s.f.pln] 26)).alloc (.cells #[] 54)) (wr.heap.size + 1) 54 tCls (.slice (some ⟨wr.heap.size + 1, 0, none⟩) 0 0) [] := ⟨(fun _ h => absurd h List.not_mem_nil), by rw [World.size_alloc] at hm0; exact hm0⟩
      have hbx := (Bx.new wr #[.string s.f.car, .int .i64 s.f.num, .string s.f.frm, .string s.f.to_, .int .u8 s.f.days, .int .i64 s.f.dep, .int .i64 s.f.arr, .slice s.A s.n s.c, .int .i64 s.f.pln] 26).alloc (.cells #[] 54)
      have hCL := Lib.hid (ClAt.below hcl (((Below.refl wr.heap.size wr).alloc (Nat.le_refl _) (.cells #[.string s.f.car, .int .i64 s.f.num, .string s.f.frm, .string s.f.to_, .int .u8 s.f.days, .int .i64 s.f.dep, .int .i64 s.f.arr, .slice s.A s.n s.c, .int .i64 s.f.pln] 26)).alloc (by simp) (.cells #[] 54)) hzh)
      clear ho hm hcl hm0 hok
      go_upto_region 7 with (at_builtin; go_must (refine append_law (l := []) rfl (.tmp 16) (.tmp 18) rfl sl_cls rfl hown rfl hCL.out HOK.out.nil (by simp) (by simp; omega) ?_); intro v' w2 hown' hgr hb'; rw [List.nil_append] at hown'; obtain ⟨A1, c1, hv1⟩ := hown'.form; rw [HOK.out.len] at hv1; subst hv1; have hbx2 := hbx.grown hgr (fun e => by have e3 : (some (wr.heap.size + 1) : Option Nat) = some wr.heap.size := e; injection e3 with e3; omega); have c2 := hbx2.cells; have f2 := hbx2.free)
      have hB2 : Below wr.heap.size wr w2 := (((Below.refl wr.heap.size wr).alloc (Nat.le_refl _) (.cells #[.string s.f.car, .int .i64 s.f.num, .string s.f.frm, .string s.f.to_, .int .u8 s.f.days, .int .i64 s.f.dep, .int .i64 s.f.arr, .slice s.A s.n s.c, .int .i64 s.f.pln] 26)).alloc (by simp) (.cells #[] 54)).grown hgr (by simp; omega) (fun q hq => by have e3 : (some (wr.heap.size + 1) : Option Nat) = some q := hq; injection e3 with e3; omega)
      refine wp_world (fun V => Bx V wr.heap.size #[.string s.f.car, .int .i64 s.f.num, .string s.f.frm, .string s.f.to_, .int .u8 s.f.days, .int .i64 s.f.dep, .int .i64 s.f.arr, .slice A1 s.n c1, .int .i64 s.f.pln] 26 ∧ Own V (wr.heap.size + 1) 54 tCls (.slice A1 s.n c1) s.f.cls ∧ Below wr.heap.size wr V) ⟨hbx2.put 7 (.slice A1 s.n c1), hown'.setCell (by simp) _, hB2.setCell (by simp) _⟩ ?_
      clear hbx hbx2 c2 f2 hB2 hgr hb' hown' hown d0 d1 d2 d3 d4 d5 d6 d7 d8
      rintro V ⟨hbx, hso, hB2⟩
      have c2 := hbx.cells
      have hok2 := ok_of_own HOK.out.f hso
      go_wp2_with (at_builtin; refine push_told rfl (.tmp 21) (.tmp 23) rfl sl_flt rfl (HO.out.keep hB2).own (FlR.mk s.f A1 s.n c1) hok2 _ rfl rfl (by have := hB2.size; omega) (by omega) ?_; intro v' w3 hown' hgr hb')
      go_roundw
      case rel => exact ⟨k + 1, by omega, by go_num, by rw [HX.out]; exact Col.next HO.out HMM.out hC.B hB2 (Own.more hso (by omega)) hown' hgr hb'⟩
      case measure => simp [intOf]; omega
    · obtain rfl : n = k := by omega
      have HF : Hid (rl.take n = rl) := List.take_of_length_le (Nat.le_of_eq HL.out)
      rw [HF.out] at hC
      obtain ⟨out, ho, hm⟩ := hC.out
      obtain ⟨A9, c9, rfl⟩ := ho.own.form
      have HM2 := Lib.hid hm
      clear hm
      generalize out.length = l9 at ho ⊢
      go_wp2
      go_ret
      exact ⟨_, _, _, out, rfl, ho, HM2.out, hC.B⟩
end Go.Proofs.YtodholjbefifeaaDoor
