/- Avail. -/
import Derived.Test.YtlkdefmceghmnaaGreatStAv
import Derived.Test.YtlkdefmceghmnaaGreatFlLinkL
namespace Go.Proofs.YtlkdefmceghmnaaGreat
set_option linter.unusedVariables false
open Go Go.RowKit Go.Sort
theorem right_few {f : Flt} (h : rightB f = true) : f.cls.length ≤ 6 := by
  unfold rightB rightC at h
  simp only [Bool.and_eq_true, decide_eq_true_eq] at h
  exact h.2.1.2.2.2.2.2
/-- A list of lines, each with a row of its own. -/
structure OwnL (w : World) (B : Nat) (v : Value) (l : List Ln) : Prop where
  own : Own w B 127 tLn v l
  cl : ∀ x ∈ l, Own w B 185 tSld (.slice x.A x.n x.c) x.left
  off : ∀ x ∈ l, ∀ k, v.ownBlock = some k → (Value.slice x.A x.n x.c).ownBlock ≠ some k
section
variable {w W V V' : World} {B : Nat} {v v' : Value} {l : List Ln}
theorem OwnL.nil_ (w : World) (B : Nat) : OwnL w B (.slice none 0 0) [] := ⟨Own.nil_ _ _ _ _, by simp, by simp⟩
theorem OwnL.keep (h : OwnL w B v l) (hb : Below w.heap.size w W) : OwnL W B v l := ⟨h.own.keep hb, fun r hr => Own.keep (h.cl r hr) hb, h.off⟩
theorem OwnL.more {B' : Nat} (h : OwnL w B v l) (hB : B' ≤ B) : OwnL w B' v l := ⟨h.own.more hB, fun r hr => Own.more (h.cl r hr) hB, h.off⟩
theorem OwnL.push {x : Ln} (h : OwnL W B v l) (hk : Below W.heap.size W V) (h1 : Own V W.heap.size 185 tSld (.slice x.A x.n x.c) x.left) (hB : B ≤ W.heap.size)
    (ho : Own V' B 127 tLn v' (l ++ [x])) (hg : V.grownBy V' v.ownBlock) (hv : v'.ownBlock = v.ownBlock ∨ ∀ k, v'.ownBlock = some k → V.heap.size ≤ k) : OwnL V' B v' (l ++ [x]) := by
  have hV := h.keep hk
  refine ⟨ho, fun y hy => ?_, fun y hy k hk' => ?_⟩
  · rcases List.mem_append.1 hy with h3 | h3
    · exact Own.kept (hV.cl y h3) hg fun k hk2 hv2 => h.off y h3 k hv2 hk2
    · rw [List.mem_singleton.1 h3]
      refine Own.kept (Own.more h1 hB) hg fun k hk2 hv2 => ?_
      have := (h.own.lt k hv2).2
      have := (h1.lt k hk2).1
      omega
  · rcases List.mem_append.1 hy with h3 | h3
    · rcases hv with h4 | h4
      · exact h.off y h3 k (h4 ▸ hk')
      · intro e
        have h5 := ((h.cl y h3).lt k e).2
        have h6 := h4 k hk'
        have h7 := hk.size
        omega
    · rw [List.mem_singleton.1 h3]
      intro e
      have h5 := h1.lt k e
      rcases hv with h4 | h4
      · have h6 := (h.own.lt k (h4 ▸ hk')).2
        omega
      · have h6 := h4 k hk'
        omega
end
/-- A line, in plain. -/
structure LnF where
  f : Flt
  lk : Bool
  left : List Cls
def lnF (x : Ln) : LnF := ⟨x.f, x.lk, x.left⟩
def lineF (fs : List Flt) (q : Cel → Int) (d : Int) (lk : Bool) (f : Flt) : LnF := ⟨f, lk, solF fs q f d⟩
theorem betw_len (l : List Flt) (d : Int) (a b : ByteArray) : (betwF l d a b).length ≤ l.length := by
  unfold betwF
  rw [len_allL]
  exact List.length_filter_le _ _
def RetA (w : World) (L : List LnF) (e : Ending) (w' : World) : Prop := ∃ A n c out, e = .returned (.slice A n c) ∧ OwnL w' w.heap.size (.slice A n c) out ∧ out.map lnF = L ∧ Below w.heap.size w w'
/-- Lines that are collected. -/
structure ColA (w : World) (L : List LnF) (v : Value) (W : World) : Prop where
  out : ∃ out, OwnL W w.heap.size v out ∧ out.map lnF = L
  B : Below w.heap.size w W
theorem ColA.step {w W V : World} {L : List LnF} {v : Value} (h : ColA w L v W) (hb : Below W.heap.size W V) : ColA w L v V := by
  obtain ⟨out, ho, hm⟩ := h.out
  exact ⟨⟨out, ho.keep hb, hm⟩, h.B.trans (hb.mono h.B.size)⟩
theorem betw_mem {fs : List Flt} (h : Nok fs) {d : Int} {a b : ByteArray} {x : Flt} (hx : x ∈ betwF fs d a b) : x ∈ fs := ((mem_betw h).1 hx).1
set_option maxRecDepth 100000 in
set_option maxHeartbeats 8000000 in
theorem avail0_any {W : World} {lo hi t p b : Nat} {rs : List FlR} {q : Cel → Int} (h : SK W lo hi t p b rs q) (hq : QB q) (hright : ∀ f ∈ rs.map (·.f), rightB f = true) (hnok : Nok (rs.map (·.f))) (h64 : rs.length ≤ 64) (d : Int) (fr to_ : ByteArray) (hd : okInt d) (hno : linksF (rs.map (·.f)) d fr to_ = []) :
    Calls Tryz.prog 26 #[.pointer (some ⟨p, 0, none⟩), .int .i64 d, .string fr, .string to_] W (RetA W ((betwF (rs.map (·.f)) d fr to_).map (lineF (rs.map (·.f)) q d false))) := by
  have HQ := Lib.hid hq
  have HR := Lib.hid hright
  have HRR := Lib.hid (fun (r : FlR) (hr : r ∈ rs) => hright r.f (List.mem_map_of_mem hr))
  have HNK := Lib.hid hnok
  have HS := Lib.hid h
  have HNO := Lib.hid hno
  have HD := Lib.hid hd
  have zp := h.plt
  have cx := h.box.cells
  have HT := Lib.hid h.tb
  have HM := Lib.hid (fun (x : Flt) => @betw_mem (rs.map (·.f)) hnok d fr to_ x)
  have HLB := Lib.hid (show (betwF (rs.map (·.f)) d fr to_).length ≤ 64 by have h1 := betw_len (rs.map (·.f)) d fr to_; rw [List.length_map] at h1; omega)
  clear h hq hright hnok hno hd
  go_enter Tryz.func26, Tryz.ntmps26
  go_wp2_with fail
  refine (tbetween_any rs t lo d fr to_ W HT.out HNK.out).mono ?_
  generalize hL1 : betwF (rs.map (·.f)) d fr to_ = L1 at HM HLB
  have HEQ := Lib.hid hL1
  clear hL1
  rintro e w1 ⟨A1, n1, c1, o1, rfl, hO1, hm1, h1⟩
  have HL1 := Lib.hid hO1.own.sl.len
  have HO1 := Lib.hid hO1.sl
  have HM1 := Lib.hid hm1
  have hn1 : n1 ≤ 64 := by have h5 := congrArg List.length hm1; rw [List.length_map] at h5; have h6 := HLB.out; have h7 := HL1.out; omega
  have z1 := h1.size
  have H1 := Lib.hid h1
  clear hO1 hm1 h1 cx
  go_wp2
  go_loopw [9, 23] (fun v i wr => ∃ k : Nat, k ≤ n1 ∧ i = .int .i64 k ∧ ColA w1 (((o1.take k).map (·.f)).map (lineF (rs.map (·.f)) q d false)) v wr) (fun _ i _ => n1 - (intOf i).toNat)
  case atStart => exact ⟨0, Nat.zero_le _, rfl, ⟨⟨[], OwnL.nil_ _ _, rfl⟩, Below.refl _ _⟩⟩
  case round =>
    obtain ⟨k, hk, rfl, hC⟩ := hrel
    have HC := Lib.hid hC
    have hb1 := hC.B
    have HB1 := Lib.hid hb1
    by_cases hlt : k < n1
    · obtain ⟨b0, o0, s, hA, _, _, hx', hok, hcl, d0, d1, d2, d3, d4, d5, d6, d7, d8⟩ := (HO1.out.below hb1 (Nat.le_refl _)).at_ hlt
      subst hA
      have i0 : (0 : Int) ≤ k := by omega
      have i1 : (k : Int) < n1 := by omega
      have HX := Lib.hid (show ((o1.take (k + 1)).map (·.f)).map (lineF (rs.map (·.f)) q d false) = ((o1.take k).map (·.f)).map (lineF (rs.map (·.f)) q d false) ++ [lineF (rs.map (·.f)) q d false s.f] by rw [List.take_add_one, hx'.out]; simp)
      have hmem : s.f ∈ rs.map (·.f) := HM.out _ (by rw [← HM1.out]; exact List.mem_map_of_mem (List.mem_of_getElem? hx'.out))
      have hsn : s.n ≤ 1000 := by have h5 := right_few (HR.out _ hmem); have h6 := hok.len; omega
      have z2 := hb1.size
      have hA1 : Below W.heap.size W (wr.alloc (.cells #[.string s.f.car, .int .i64 s.f.num, .string s.f.frm, .string s.f.to_, .int .u8 s.f.days, .int .i64 s.f.dep, .int .i64 s.f.arr, .slice s.A s.n s.c, .int .i64 s.f.pln] 96)) := (H1.out.trans (hb1.mono z1)).alloc (by omega) _
      have HSK := Lib.hid (HS.out.keep hA1)
      have HCL := Lib.hid (ClAt.below hcl ((Below.refl wr.heap.size wr).alloc (Nat.le_refl _) (.cells #[.string s.f.car, .int .i64 s.f.num, .string s.f.frm, .string s.f.to_, .int .u8 s.f.days, .int .i64 s.f.dep, .int .i64 s.f.arr, .slice s.A s.n s.c, .int .i64 s.f.pln] 96)) (show w1.heap.size ≤ wr.heap.size from z2))
      have HC2 := Lib.hid (hC.step ((Below.refl wr.heap.size wr).alloc (Nat.le_refl _) (.cells #[.string s.f.car, .int .i64 s.f.num, .string s.f.frm, .string s.f.to_, .int .u8 s.f.days, .int .i64 s.f.dep, .int .i64 s.f.arr, .slice s.A s.n s.c, .int .i64 s.f.pln] 96)))
      clear hcl hC hb1 hmem
      go_wp2_with fail
      refine (line_any HSK.out HQ.out HR.out s d false W.heap.size w1.heap.size hok HCL.out (by simp; omega) hsn HD.out).mono ?_
      rintro e w2 ⟨A2, n2, c2, rfl, ho2, h2⟩
      obtain ⟨out, ho, hm⟩ := HC2.out.out
      have hlo : out.length ≤ 1000 := by
        have h5 := congrArg List.length hm
        simp only [List.length_map] at h5
        have h6 := List.length_take_le k o1
        omega
      have HO := Lib.hid ho
      have HMM := Lib.hid hm
      have HO2 := Lib.hid ho2
      have H2 := Lib.hid h2
      have z3 := h2.size
      have z4 : w1.heap.size ≤ w2.heap.size := by have h5 := z3; simp at h5; omega
      have HB2 := Lib.hid (HC2.out.step h2).B
      clear ho hm ho2 h2 d0 d1 d2 d3 d4 d5 d6 d7 d8
      go_wp2_with (at_builtin; refine push_told rfl (.tmp 27) (.tmp 32) rfl sl_ln rfl (HO.out.keep H2.out).own (⟨s.f, false, A2, n2, c2, solF (rs.map (·.f)) q s.f d⟩ : Ln) trivial _ rfl rfl z4 (by omega) ?_; intro v' w3 hown' hgr hb')
      go_roundw
      case rel =>
        exact ⟨k + 1, by omega, by go_num, ⟨⟨_, HO.out.push H2.out (HO2.out.more (by omega)) (by simp; omega) hown' hgr hb', by rw [HX.out, List.map_append, HMM.out]; rfl⟩, HB2.out.grown hgr (by omega) (fun k hk => (HO.out.own.lt k hk).1)⟩⟩
      case measure => simp [intOf]; omega
    · obtain rfl : n1 = k := by omega
      have HF : Hid (o1.take n1 = o1) := List.take_of_length_le (Nat.le_of_eq HL1.out)
      rw [HF.out, HM1.out] at hC
      have HCC := Lib.hid hC
      have hbW : Below W.heap.size W wr := H1.out.trans (hb1.mono z1)
      have HBW := Lib.hid hbW
      have cx := (HS.out.keep hbW).box.cells
      clear hC hb1 hbW
      go_wp2_with fail
      refine (tlinks_any rs t lo d fr to_ wr (HT.out.keep HBW.out) HNK.out HRR.out).mono ?_
      rintro e w2 ⟨A2, n2, c2, o2, rfl, hO2, hm2, h2⟩
      rw [HNO.out] at hm2
      obtain rfl : o2 = [] := by simpa using hm2
      obtain rfl : n2 = 0 := hO2.own.sl.len.symm
      have HC2 := Lib.hid (HCC.out.step h2)
      have HB2 := Lib.hid (HBW.out.trans (h2.mono HBW.out.size))
      clear hO2 hm2 h2 cx
      go_wp2
      go_loopw [9, 44] (fun v i wr => i = .int .i64 0 ∧ ColA w1 (L1.map (lineF (rs.map (·.f)) q d false)) v wr ∧ Below W.heap.size W wr) (fun _ i _ => 0)
      case atStart => exact ⟨rfl, HC2.out, HB2.out⟩
      case round =>
        obtain ⟨rfl, hC, hB⟩ := hrel
        obtain ⟨out, ho, hm⟩ := hC.out
        obtain ⟨A9, c9, rfl⟩ := ho.own.form
        go_wp2
        go_ret
        exact ⟨_, _, _, out, rfl, ho.more z1, by rw [HEQ.out]; exact hm, hB⟩
end Go.Proofs.YtlkdefmceghmnaaGreat
