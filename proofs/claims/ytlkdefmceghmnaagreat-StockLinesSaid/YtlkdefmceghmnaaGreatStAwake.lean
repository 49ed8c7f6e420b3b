/- Stock's awake: it answers true. -/
import Derived.Test.YtlkdefmceghmnaaGreatStAvl
import Derived.Test.YtlkdefmceghmnaaGreatStLegs
import Derived.Test.YtlkdefmceghmnaaGreatFlNew
namespace Go.Proofs.YtlkdefmceghmnaaGreat
set_option linter.unusedVariables false
open Go Go.RowKit Go.Sort
def lonS : ByteArray := ⟨#[76, 79, 78]⟩
def parS : ByteArray := ⟨#[80, 65, 82]⟩
def fS : Flt := ⟨⟨#[66, 65]⟩, 1, lonS, parS, 127, 0, 0, [⟨89, 3⟩], 0⟩
def gS : Leg := ⟨⟨⟨#[66, 65]⟩, 1⟩, 5⟩
theorem newS : newF [fS] = 0 := by kernel_rfl
theorem levS : levelF [fS] gS 89 = (3, 0) := by kernel_rfl
theorem betS : betwF [fS] 5 lonS parS = [fS] := by kernel_rfl
theorem lnkS : linksF [fS] 5 lonS parS = [] := by kernel_rfl
theorem gS_ok : gS.ok := ⟨⟨(show okStr ⟨#[66, 65]⟩ by unfold okStr; decide), (show okInt 1 by unfold okInt; decide)⟩, (show okInt 5 by unfold okInt; decide)⟩
theorem y_ok : okByte 89 := by unfold okByte; decide
theorem Sl.ofRow {α : Type} {T : Ty α} {W : World} {g : Nat} {news : Array Value} {t : TypeId} {l : List α} (hg : W.heap[g]? = some (.cells news t (0, 0))) (hl : news.toList = l.flatMap T.enc) (hw : ∀ x ∈ l, T.wf x) : Sl W g (g + 1) T (some ⟨g, 0, none⟩) l.length l :=
  ⟨rfl, hw, fun _ => ⟨g, 0, rfl, Nat.le_refl _, by omega, fun k x hx j u hu => by
    have h1 := flatMap_at T l k x hx j u hu
    rw [← hl] at h1
    rw [Nat.zero_add, cell_of_row _ _ _ news t (0, 0) hg, ← h1]
    simp⟩⟩
theorem eql_tab (w : World) (a : Addr) : (binOp .eql 97 (.pointer (some a)) (.pointer none)).run Tryz.prog w = .ok (.bool false) w := by kernel_rfl
theorem eql_tab0 (w : World) : (binOp .eql 97 (.pointer none) (.pointer none)).run Tryz.prog w = .ok (.bool true) w := by kernel_rfl
theorem neq_stk (w : World) (a : Addr) : (binOp .neq 31 (.pointer (some a)) (.pointer none)).run Tryz.prog w = .ok (.bool true) w := by kernel_rfl
theorem RetSt.is {W : World} {lo hi t p b : Nat} {rs : List FlR} {q : Cel → Int} {c : Cel} {r : Int × Int} {k z : Int} (hr : r = (k, z)) {e : Ending} {w' : World} (h : RetSt W lo hi t p b rs q c r e w') : e = .returned (.int .i64 k) ∧ SK w' lo hi t p b rs (updQ q c z) ∧ Kb b W w' := by
  subst hr
  exact h
/-- The stock of a new table is empty. -/
theorem SK.begin {W W' : World} {lo t p b : Nat} {rs : List FlR} (ht : TB W lo t rs) (hp : W.heap.size ≤ p) (hb : W.heap.size ≤ b) (hne : p ≠ b) (hx : Bx W' p #[.pointer (some ⟨t, 0, none⟩), .map (some b)] 105) (hm : Mp Tryz.prog 108 W' b (fun _ => none)) (h : Below W.heap.size W W') : SK W' lo W.heap.size t p b rs (fun _ => 0) :=
  ⟨⟨W, ht, rfl, fun k _ h2 => h.block k h2⟩, hx, ⟨_, hm, GQ.none_⟩, hp, hb, hne⟩
theorem Bx.kb {W W' : World} {b g : Nat} {cs : Array Value} {t : TypeId} (h : Bx W g cs t) (hk : Kb b W W') (hne : g ≠ b) : Bx W' g cs t := (hk.block g h.lt hne).trans h
set_option maxRecDepth 100000 in
set_option maxHeartbeats 8000000 in
theorem awake10_any (w : World) : Calls Tryz.prog 12 #[] w (RetB w true) := by
  have hnl := eql_tab
  have hns := neq_stk
  go_enter Tryz.func12, Tryz.ntmps12
  go_wp2_with fail
  have hb3 : Below w.heap.size w (((w.alloc (.cells #[.int .u8 89, .int .i64 3] 93)).alloc (.cells #[.string ⟨#[66, 65]⟩, .int .i64 1, .string ⟨#[76, 79, 78]⟩, .string ⟨#[80, 65, 82]⟩, .int .u8 127, .int .i64 0, .int .i64 0, .slice (some ⟨w.heap.size, 0, none⟩) 1 1, .int .i64 0] 96)).alloc (.cells #[.string ⟨#[66, 65]⟩, .int .i64 1, .string ⟨#[76, 79, 78]⟩, .string ⟨#[80, 65, 82]⟩, .int .u8 127, .int .i64 0, .int .i64 0, .slice (some ⟨w.heap.size, 0, none⟩) 1 1, .int .i64 0] 96)) := (((Below.refl _ _).alloc (Nat.le_refl _) _).alloc (by simp) _).alloc (by simp; omega) _
  have hcl := (Sl.one (T := tCls) w (⟨89, 3⟩ : Cls) (by unfold tCls Cls.ok okByte okInt; simp) #[.int .u8 89, .int .i64 3] rfl 93)
  have hbx := (Bx.new (w.alloc (.cells #[.int .u8 89, .int .i64 3] 93)) #[.string ⟨#[66, 65]⟩, .int .i64 1, .string ⟨#[76, 79, 78]⟩, .string ⟨#[80, 65, 82]⟩, .int .u8 127, .int .i64 0, .int .i64 0, .slice (some ⟨w.heap.size, 0, none⟩) 1 1, .int .i64 0] 96).alloc (.cells #[.string ⟨#[66, 65]⟩, .int .i64 1, .string ⟨#[76, 79, 78]⟩, .string ⟨#[80, 65, 82]⟩, .int .u8 127, .int .i64 0, .int .i64 0, .slice (some ⟨w.heap.size, 0, none⟩) 1 1, .int .i64 0] 96)
  rw [World.size_alloc] at hbx
  have hfl : FlS (((w.alloc (.cells #[.int .u8 89, .int .i64 3] 93)).alloc (.cells #[.string ⟨#[66, 65]⟩, .int .i64 1, .string ⟨#[76, 79, 78]⟩, .string ⟨#[80, 65, 82]⟩, .int .u8 127, .int .i64 0, .int .i64 0, .slice (some ⟨w.heap.size, 0, none⟩) 1 1, .int .i64 0] 96)).alloc (.cells #[.string ⟨#[66, 65]⟩, .int .i64 1, .string ⟨#[76, 79, 78]⟩, .string ⟨#[80, 65, 82]⟩, .int .u8 127, .int .i64 0, .int .i64 0, .slice (some ⟨w.heap.size, 0, none⟩) 1 1, .int .i64 0] 96)) 0 (w.heap.size + 1 + 1 + 1) (some ⟨w.heap.size + 1 + 1, 0, none⟩) 1 [FlR.mk fS (some ⟨w.heap.size, 0, none⟩) 1 1] := by
    have hrow := heap_alloc_new ((w.alloc (.cells #[.int .u8 89, .int .i64 3] 93)).alloc (.cells #[.string ⟨#[66, 65]⟩, .int .i64 1, .string ⟨#[76, 79, 78]⟩, .string ⟨#[80, 65, 82]⟩, .int .u8 127, .int .i64 0, .int .i64 0, .slice (some ⟨w.heap.size, 0, none⟩) 1 1, .int .i64 0] 96)) (.cells #[.string ⟨#[66, 65]⟩, .int .i64 1, .string ⟨#[76, 79, 78]⟩, .string ⟨#[80, 65, 82]⟩, .int .u8 127, .int .i64 0, .int .i64 0, .slice (some ⟨w.heap.size, 0, none⟩) 1 1, .int .i64 0] 96)
    rw [World.size_alloc, World.size_alloc] at hrow
    refine ⟨(Sl.ofRow (T := tFl) (l := [FlR.mk fS (some ⟨w.heap.size, 0, none⟩) 1 1]) hrow rfl (fun x hx => ?_)).more (Nat.zero_le _) (Nat.le_refl _), fun r hr => ?_⟩
    · rw [List.mem_singleton.1 hx]
      exact ⟨⟨(show okStr ⟨#[66, 65]⟩ by unfold okStr; decide), (show okInt 1 by unfold okInt; decide), (show okStr lonS by unfold okStr lonS; decide), (show okStr parS by unfold okStr parS; decide), (show okByte 127 by unfold okByte; decide), (show okInt 0 by unfold okInt; decide), (show okInt 0 by unfold okInt; decide), (show okInt 0 by unfold okInt; decide)⟩, rfl, (fun h => by cases h), Nat.le_refl _⟩
    · rw [List.mem_singleton.1 hr]
      exact (((hcl.alloc (by simp) _).alloc (by simp) _).more (Nat.zero_le _) (by omega))
  refine (new_any _ _ 1 1 _ 0 _ hfl (by omega) (by simp) (by simp)).mono ?_
  rintro e w3 ⟨h3, hq⟩
  rcases hq with ⟨hbad, _⟩ | ⟨_, t, rl, rfl, ht, htab⟩
  · exact absurd newS hbad
  have hrl : rl.map (·.f) = [fS] := List.perm_singleton.1 htab.perm
  have HRL := Lib.hid hrl
  have HT := Lib.hid htab
  have HTB := Lib.hid ht
  have hB3 := hb3.trans (h3.mono hb3.size)
  have HB3 := Lib.hid hB3
  have hbx3 := hbx.below h3 hbx.lt
  have HBX := Lib.hid hbx3
  have z3 := hB3.size
  clear hcl hfl htab hrl ht hB3 hb3 h3 hbx hbx3
  go_wp2_with fail
  refine (snew_any t w3).mono ?_
  rintro e w4 ⟨p, b, rfl, hp, hb, hne, hx4, hm4, h4⟩
  have hSK := SK.begin HTB.out hp hb hne hx4 hm4 h4
  have hbx4 := HBX.out.below h4 HBX.out.lt
  have HBX4 := Lib.hid hbx4
  have HSK := Lib.hid hSK
  have HB4 := Lib.hid (HB3.out.trans (h4.mono HB3.out.size))
  have zb := HB4.out.size
  have zbb := hSK.blt
  have c4 := hbx4.cells
  clear hx4 hm4 hSK hbx4
  go_wp2_with fail
  have hQ0 : QB (fun _ => 0) := fun c => ⟨Int.le_refl _, (show (0 : Int) ≤ 400 by decide)⟩
  have hLV : levelF (rl.map (·.f)) gS 89 = (3, 0) := by rw [HRL.out]; exact levS
  have HLV := Lib.hid hLV
  have HLB := Lib.hid (show 0 ≤ (levelF (rl.map (·.f)) gS 89).1 ∧ (levelF (rl.map (·.f)) gS 89).1 ≤ 400 by rw [hLV]; decide)
  have hbY := Bx.new w4 #[.string ⟨#[66, 65]⟩, .int .i64 1, .int .i64 5] 27
  have HBY := Lib.hid hbY
  clear hbY c4
  have HS4 := Lib.hid (HSK.out.keep ((Below.refl w4.heap.size w4).alloc (Nat.le_refl _) (.cells #[.string ⟨#[66, 65]⟩, .int .i64 1, .int .i64 5] 27)))
  have HB5 := Lib.hid (HB4.out.alloc zb (.cells #[.string ⟨#[66, 65]⟩, .int .i64 1, .int .i64 5] 27))
  refine (sell_any HS4.out gS 89 2 gS_ok y_ok hQ0 HLB.out).mono ?_
  rintro e w5 h5
  obtain ⟨rfl, hS5, hk5⟩ := h5.is (k := 0) (z := 2) (by rw [hLV]; rfl)
  clear h5
  generalize hq1 : updQ (fun _ => 0) ⟨gS, 89⟩ 2 = q1 at hS5
  have HQ1 := Lib.hid hq1
  have hQ1 : QB q1 := by rw [← hq1]; exact hQ0.upd _ (by decide) (by decide)
  have hq1c : q1 ⟨gS, 89⟩ = 2 := by rw [← hq1]; exact updQ_same _ _ _
  clear hq1
  have HS5 := Lib.hid hS5
  have HK5 := Lib.hid hk5
  have hY5 := HBY.out.kb hk5 (by omega)
  have HY5 := Lib.hid hY5
  have HB6 := Lib.hid (hk5.below HB5.out (by omega) (by simp; omega))
  have z5 := HB6.out.size
  have cY := hY5.cells
  clear hS5 hk5 hY5
  go_wp2_with fail
  refine (left_any HS5.out gS 89 gS_ok y_ok hQ1 HLB.out).mono ?_
  rintro e w6 ⟨he, h6⟩
  obtain rfl : e = .returned (.int .i64 1) := by rw [he, HLV.out, hq1c]; rfl
  have HS6 := Lib.hid (HS5.out.keep h6)
  have hY6 := HY5.out.below h6 HY5.out.lt
  have HY6 := Lib.hid hY6
  have HB7 := Lib.hid (HB6.out.trans (h6.mono z5))
  have z6 := HB7.out.size
  clear cY he h6
  have cY := hY6.cells
  clear hY6
  go_wp2_with fail
  refine (sell_any HS6.out gS 89 2 gS_ok y_ok hQ1 HLB.out).mono ?_
  rintro e w7 h7
  obtain ⟨rfl, hS7, hk7⟩ := h7.is (k := 13) (z := 2) (by rw [HLV.out, hq1c]; rfl)
  have h8 : updQ q1 ⟨gS, 89⟩ 2 = q1 := by rw [← hq1c]; exact updQ_self _ _
  rw [h8] at hS7
  have HS7 := Lib.hid hS7
  have hY7 := HY6.out.kb hk7 (by omega)
  have HB8 := Lib.hid (hk7.below HB7.out (by omega) z6)
  have z7 := HB8.out.size
  clear cY h7 h8 hS7
  have cY := hY7.cells
  clear hY7 hk7
  go_wp2_with fail
  refine (sold_any HS7.out gS 89 gS_ok y_ok).mono ?_
  rintro e w8 ⟨he, h8⟩
  obtain rfl : e = .returned (.int .i64 2) := by rw [he, hq1c]
  have HS8 := Lib.hid (HS7.out.keep h8)
  have HB9 := Lib.hid (HB8.out.trans (h8.mono z7))
  have z8 := HB9.out.size
  clear cY he h8
  go_wp2_with fail
  refine (avail0_any HS8.out hQ1 (by rw [HRL.out]; intro f hf; rw [List.mem_singleton.1 hf]; kernel_rfl) HT.out.nokL (by have h9 := congrArg List.length HRL.out; simp at h9; omega) 5 lonS parS (by unfold okInt; decide) (by rw [HRL.out]; exact lnkS)).mono ?_
  rintro e w9 ⟨A9, n9, c9, o9, rfl, hO9, hm9, h9⟩
  obtain rfl : n9 = 1 := by
    have h10 := congrArg List.length hm9
    rw [HRL.out, betS] at h10
    have h11 := hO9.own.sl.len
    simp only [List.length_map, List.length_cons, List.length_nil] at h10
    omega
  have HS9 := Lib.hid (HS8.out.keep h9)
  have HB10 := Lib.hid (HB9.out.trans (h9.mono z8))
  have z9 := HB10.out.size
  clear hO9 hm9 h9
  go_wp2_with fail
  refine (legs_any HS9.out [⟨gS, 89⟩] (by simp) (fun c hc hne => ?_)).mono ?_
  · by_cases e : c = ⟨gS, 89⟩
    · simp [e]
    · exact absurd (by rw [← HQ1.out]; exact updQ_other _ _ _ e) hne
  rintro e w10 ⟨A10, n10, c10, o10, rfl, hO10, hr10, hm10, h10⟩
  have ho : o10 = [gS] := RisL.eq lts_g hr10 (List.pairwise_singleton _ _) (fun g => by
    rw [hm10 g, List.mem_singleton]
    constructor
    · rintro ⟨c, hc, hne, rfl⟩
      by_cases e : c = ⟨gS, 89⟩
      · rw [e]
      · exact absurd (by rw [← HQ1.out]; exact updQ_other _ _ _ e) hne
    · rintro rfl
      exact ⟨⟨gS, 89⟩, ⟨gS_ok, y_ok⟩, by rw [hq1c]; decide, rfl⟩)
  subst ho
  obtain rfl : n10 = 1 := hO10.sl.len.symm
  have HB11 := Lib.hid (HB10.out.trans (h10.mono z9))
  clear hO10 hr10 hm10 h10
  go_wp2
  go_ret
  exact ⟨rfl, HB11.out⟩
end Go.Proofs.YtlkdefmceghmnaaGreat
