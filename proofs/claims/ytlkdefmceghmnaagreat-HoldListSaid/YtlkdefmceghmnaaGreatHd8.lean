/- Hold's awake: it answers true. -/
import Derived.Test.YtlkdefmceghmnaaGreatHd7
namespace Go.Proofs.YtlkdefmceghmnaaGreat
set_option linter.unusedVariables false
open Go Go.RowKit Go.Sort
def lonS : ByteArray := ⟨#[76, 79, 78]⟩
def parS : ByteArray := ⟨#[80, 65, 82]⟩
def fS : Flt := ⟨⟨#[66, 65]⟩, 1, lonS, parS, 127, 0, 0, [⟨89, 3⟩], 0⟩
def gS : Leg := ⟨⟨⟨#[66, 65]⟩, 1⟩, 5⟩
def plS : Pln := ⟨1, 2, ⟨#[65, 66]⟩, [], []⟩
def sS : Sit := ⟨1, 65⟩
def xS : Hol := ⟨⟨#[88]⟩, 1⟩
def yS : Hol := ⟨⟨#[88]⟩, 2⟩
def cS : Hpl := ⟨gS, sS⟩
theorem newS : newF [fS] = 0 := by kernel_rfl
theorem flyS : fliesF [fS] gS = true := by kernel_rfl
theorem hdrS : hdR plS = true := by kernel_rfl
theorem chkS : chkP plS = true := by kernel_rfl
theorem hasS : hasR plS sS = true := by kernel_rfl
theorem takS1 : takeF 0 none xS = (0, some xS) := by kernel_rfl
theorem takS2 : takeF 0 (some xS) xS = (8, some xS) := by kernel_rfl
theorem takS3 : takeF 0 (some xS) yS = (14, some xS) := by kernel_rfl
theorem gS_ok : gS.ok := ⟨⟨(show okStr ⟨#[66, 65]⟩ by unfold okStr; decide), (show okInt 1 by unfold okInt; decide)⟩, (show okInt 5 by unfold okInt; decide)⟩
theorem sS_ok : sS.ok := ⟨(show okInt 1 by unfold okInt; decide), (show okByte 65 by unfold okByte; decide)⟩
theorem xS_ok : xS.ok := ⟨(show okStr ⟨#[88]⟩ by unfold okStr; decide), (show okInt 1 by unfold okInt; decide)⟩
theorem yS_ok : yS.ok := ⟨(show okStr ⟨#[88]⟩ by unfold okStr; decide), (show okInt 2 by unfold okInt; decide)⟩
theorem Sl.ofRow {α : Type} {T : Ty α} {W : World} {g : Nat} {news : Array Value} {t : TypeId} {l : List α} (hg : W.heap[g]? = some (.cells news t (0, 0))) (hl : news.toList = l.flatMap T.enc) (hw : ∀ x ∈ l, T.wf x) : Sl W g (g + 1) T (some ⟨g, 0, none⟩) l.length l :=
  ⟨rfl, hw, fun _ => ⟨g, 0, rfl, Nat.le_refl _, by omega, fun k x hx j u hu => by
    have h1 := flatMap_at T l k x hx j u hu
    rw [← hl] at h1
    rw [Nat.zero_add, cell_of_row _ _ _ news t (0, 0) hg, ← h1]
    simp⟩⟩
theorem RetHd.is {W : World} {lo hi t p b : Nat} {rs : List FlR} {ps : List PlM} {q : Hpl → Option Hol} {c : Hpl} {r : Int × Option Hol} {k : Int} {o : Option Hol} (hr : r = (k, o)) {e : Ending} {w' : World} (h : RetHd W lo hi t p b rs ps q c r e w') : e = .returned (.int .i64 k) ∧ HK w' lo hi t p b rs ps (updH q c o) ∧ Kb b W w' := by
  subst hr
  exact h
theorem Bx.kb {W W' : World} {b g : Nat} {cs : Array Value} {t : TypeId} (h : Bx W g cs t) (hk : Kb b W W') (hne : g ≠ b) : Bx W' g cs t := (hk.block g h.lt hne).trans h
/-- The boxes of a leg, a seat and a holder. -/
structure B3 (W : World) (k : Nat) : Prop where
  l : Bx W k #[.string ⟨#[66, 65]⟩, .int .i64 1, .int .i64 5] 27
  s : Bx W (k + 1) #[.int .i64 1, .int .u8 65] 67
  h : Bx W (k + 1 + 1) #[.string ⟨#[88]⟩, .int .i64 1] 69
theorem B3.below {W W' : World} {k : Nat} (h : B3 W k) (hb : Below W.heap.size W W') : B3 W' k := ⟨h.l.below hb h.l.lt, h.s.below hb h.s.lt, h.h.below hb h.h.lt⟩
theorem B3.kb {W W' : World} {k b : Nat} (h : B3 W k) (hk : Kb b W W') (hb : b < k) : B3 W' k := ⟨h.l.kb hk (by omega), h.s.kb hk (by omega), h.h.kb hk (by omega)⟩
theorem B3.new (W : World) : B3 (((W.alloc (.cells #[.string ⟨#[66, 65]⟩, .int .i64 1, .int .i64 5] 27)).alloc (.cells #[.int .i64 1, .int .u8 65] 67)).alloc (.cells #[.string ⟨#[88]⟩, .int .i64 1] 69)) W.heap.size ∧ Below W.heap.size W (((W.alloc (.cells #[.string ⟨#[66, 65]⟩, .int .i64 1, .int .i64 5] 27)).alloc (.cells #[.int .i64 1, .int .u8 65] 67)).alloc (.cells #[.string ⟨#[88]⟩, .int .i64 1] 69)) := by
  have h2 := two_boxes W #[.string ⟨#[66, 65]⟩, .int .i64 1, .int .i64 5] #[.int .i64 1, .int .u8 65] 27 67
  have h3 := Bx.new ((W.alloc (.cells #[.string ⟨#[66, 65]⟩, .int .i64 1, .int .i64 5] 27)).alloc (.cells #[.int .i64 1, .int .u8 65] 67)) #[.string ⟨#[88]⟩, .int .i64 1] 69
  rw [World.size_alloc, World.size_alloc] at h3
  exact ⟨⟨h2.1.alloc _, h2.2.1.alloc _, h3⟩, h2.2.2.below.alloc (by simp; omega) _⟩
theorem Tab.right_rs {l : List Flt} {rs : List FlR} (h : Tab l (rs.map (·.f))) : ∀ r ∈ rs, rightB r.f = true := fun r hr => h.right _ (h.perm.mem_iff.1 (List.mem_map_of_mem hr))
theorem hasB_is {rs : List FlR} {pl : List PlR} {ps : List PlM} {c : Hpl} {r : FlR} {p : PlR} (hr : findR rs c.leg.key = some r) (hf : fliesF (rs.map (·.f)) c.leg = true) (hp : pl[r.f.pln.toNat]? = some p) (hk : PlKs pl ps pl.length) : hasB rs ps c = hasR p.p c.seat := by
  unfold hasB plnF
  rw [hf, hr]
  obtain ⟨x, h1, h2⟩ := hk.2 _ _ (List.getElem?_eq_some_iff.1 hp).1 hp
  dsimp only
  rw [h1]
  exact h2.2 c.seat
theorem wrong_no {rs : List FlR} {ps : List PlM} {c : Hpl} (h : hasB rs ps c = true) : wrongB rs ps c = 0 := by
  unfold wrongB
  have h1 : fliesF (rs.map (·.f)) c.leg = true := by
    unfold hasB at h
    simp only [Bool.and_eq_true] at h
    exact h.1
  rw [h1, h]
  rfl
set_option maxRecDepth 100000 in
set_option maxHeartbeats 8000000 in
theorem awake11_any (w : World) : Calls Tryz.prog 28 #[] w (RetB w true) := by
  have hol1 := eql_hol
  go_enter Tryz.func28, Tryz.ntmps28
  go_wp2_with fail
  have hb5 : Below w.heap.size w ((((w.alloc (.cells #[.int .u8 89, .int .i64 3] 93)).alloc (.cells #[.string ⟨#[66, 65]⟩, .int .i64 1, .string ⟨#[76, 79, 78]⟩, .string ⟨#[80, 65, 82]⟩, .int .u8 127, .int .i64 0, .int .i64 0, .slice (some ⟨w.heap.size, 0, none⟩) 1 1, .int .i64 0] 96)).alloc (.cells #[.string ⟨#[66, 65]⟩, .int .i64 1, .string ⟨#[76, 79, 78]⟩, .string ⟨#[80, 65, 82]⟩, .int .u8 127, .int .i64 0, .int .i64 0, .slice (some ⟨w.heap.size, 0, none⟩) 1 1, .int .i64 0] 96)).alloc (.cells #[.int .i64 1, .int .i64 2, .string ⟨#[65, 66]⟩, .slice none 0 0, .slice none 0 0] 140)) := ((((Below.refl _ _).alloc (Nat.le_refl _) _).alloc (by simp) _).alloc (by simp; omega) _).alloc (by simp; omega) _
  have hcl := (Sl.one (T := tCls) w (⟨89, 3⟩ : Cls) (by unfold tCls Cls.ok okByte okInt; simp) #[.int .u8 89, .int .i64 3] rfl 93)
  have hbx := ((Bx.new (w.alloc (.cells #[.int .u8 89, .int .i64 3] 93)) #[.string ⟨#[66, 65]⟩, .int .i64 1, .string ⟨#[76, 79, 78]⟩, .string ⟨#[80, 65, 82]⟩, .int .u8 127, .int .i64 0, .int .i64 0, .slice (some ⟨w.heap.size, 0, none⟩) 1 1, .int .i64 0] 96).alloc (.cells #[.string ⟨#[66, 65]⟩, .int .i64 1, .string ⟨#[76, 79, 78]⟩, .string ⟨#[80, 65, 82]⟩, .int .u8 127, .int .i64 0, .int .i64 0, .slice (some ⟨w.heap.size, 0, none⟩) 1 1, .int .i64 0] 96)).alloc (.cells #[.int .i64 1, .int .i64 2, .string ⟨#[65, 66]⟩, .slice none 0 0, .slice none 0 0] 140)
  rw [World.size_alloc] at hbx
  have hrow := heap_alloc_new ((w.alloc (.cells #[.int .u8 89, .int .i64 3] 93)).alloc (.cells #[.string ⟨#[66, 65]⟩, .int .i64 1, .string ⟨#[76, 79, 78]⟩, .string ⟨#[80, 65, 82]⟩, .int .u8 127, .int .i64 0, .int .i64 0, .slice (some ⟨w.heap.size, 0, none⟩) 1 1, .int .i64 0] 96)) (.cells #[.string ⟨#[66, 65]⟩, .int .i64 1, .string ⟨#[76, 79, 78]⟩, .string ⟨#[80, 65, 82]⟩, .int .u8 127, .int .i64 0, .int .i64 0, .slice (some ⟨w.heap.size, 0, none⟩) 1 1, .int .i64 0] 96)
  have hrow2 := heap_alloc_new (((w.alloc (.cells #[.int .u8 89, .int .i64 3] 93)).alloc (.cells #[.string ⟨#[66, 65]⟩, .int .i64 1, .string ⟨#[76, 79, 78]⟩, .string ⟨#[80, 65, 82]⟩, .int .u8 127, .int .i64 0, .int .i64 0, .slice (some ⟨w.heap.size, 0, none⟩) 1 1, .int .i64 0] 96)).alloc (.cells #[.string ⟨#[66, 65]⟩, .int .i64 1, .string ⟨#[76, 79, 78]⟩, .string ⟨#[80, 65, 82]⟩, .int .u8 127, .int .i64 0, .int .i64 0, .slice (some ⟨w.heap.size, 0, none⟩) 1 1, .int .i64 0] 96)) (.cells #[.int .i64 1, .int .i64 2, .string ⟨#[65, 66]⟩, .slice none 0 0, .slice none 0 0] 140)
  rw [World.size_alloc, World.size_alloc] at hrow
  rw [World.size_alloc, World.size_alloc, World.size_alloc] at hrow2
  generalize hV : (((w.alloc (.cells #[.int .u8 89, .int .i64 3] 93)).alloc (.cells #[.string ⟨#[66, 65]⟩, .int .i64 1, .string ⟨#[76, 79, 78]⟩, .string ⟨#[80, 65, 82]⟩, .int .u8 127, .int .i64 0, .int .i64 0, .slice (some ⟨w.heap.size, 0, none⟩) 1 1, .int .i64 0] 96)).alloc (.cells #[.string ⟨#[66, 65]⟩, .int .i64 1, .string ⟨#[76, 79, 78]⟩, .string ⟨#[80, 65, 82]⟩, .int .u8 127, .int .i64 0, .int .i64 0, .slice (some ⟨w.heap.size, 0, none⟩) 1 1, .int .i64 0] 96)) = V3 at hrow hrow2 hb5 hbx ⊢
  have hz3 : V3.heap.size = w.heap.size + 1 + 1 + 1 := by rw [← hV]; simp
  have hfl : FlS V3 0 (w.heap.size + 1 + 1 + 1) (some ⟨w.heap.size + 1 + 1, 0, none⟩) 1 [FlR.mk fS (some ⟨w.heap.size, 0, none⟩) 1 1] := by
    refine ⟨(Sl.ofRow (T := tFl) (l := [FlR.mk fS (some ⟨w.heap.size, 0, none⟩) 1 1]) hrow rfl (fun x hx => ?_)).more (Nat.zero_le _) (Nat.le_refl _), fun r hr => ?_⟩
    · rw [List.mem_singleton.1 hx]
      exact ⟨⟨(show okStr ⟨#[66, 65]⟩ by unfold okStr; decide), (show okInt 1 by unfold okInt; decide), (show okStr lonS by unfold okStr lonS; decide), (show okStr parS by unfold okStr parS; decide), (show okByte 127 by unfold okByte; decide), (show okInt 0 by unfold okInt; decide), (show okInt 0 by unfold okInt; decide), (show okInt 0 by unfold okInt; decide)⟩, rfl, (fun h => by cases h), Nat.le_refl _⟩
    · rw [List.mem_singleton.1 hr, ← hV]
      exact (((hcl.alloc (by simp) _).alloc (by simp) _).more (Nat.zero_le _) (by omega))
  have hplt : PlS (V3.alloc (.cells #[.int .i64 1, .int .i64 2, .string ⟨#[65, 66]⟩, .slice none 0 0, .slice none 0 0] 140)) 0 (w.heap.size + 1 + 1 + 1 + 1) (some ⟨w.heap.size + 1 + 1 + 1, 0, none⟩) 1 [PlR.mk plS none 0 0 none 0 0] := by
    refine ⟨(Sl.ofRow (T := tPl) (l := [PlR.mk plS none 0 0 none 0 0]) hrow2 rfl (fun x hx => ?_)).more (Nat.zero_le _) (Nat.le_refl _), fun r hr => ?_⟩
    · rw [List.mem_singleton.1 hx]
      exact ⟨⟨(show okInt 1 by unfold okInt; decide), (show okInt 2 by unfold okInt; decide), (show okStr ⟨#[65, 66]⟩ by unfold okStr; decide)⟩, by decide, by decide⟩
    · rw [List.mem_singleton.1 hr]
      exact ⟨Sl.nil_ _, Sl.nil_ _⟩
  have hfl4 : FlS (V3.alloc (.cells #[.int .i64 1, .int .i64 2, .string ⟨#[65, 66]⟩, .slice none 0 0, .slice none 0 0] 140)) 0 (w.heap.size + 1 + 1 + 1 + 1) (some ⟨w.heap.size + 1 + 1, 0, none⟩) 1 [FlR.mk fS (some ⟨w.heap.size, 0, none⟩) 1 1] := by
    have h := hfl.below ((Below.refl V3.heap.size V3).alloc (Nat.le_refl _) (.cells #[.int .i64 1, .int .i64 2, .string ⟨#[65, 66]⟩, .slice none 0 0, .slice none 0 0] 140)) (by omega)
    exact ⟨h.sl.more (Nat.le_refl _) (by omega), fun r hr => Sl.more (h.cl r hr) (Nat.le_refl _) (by omega)⟩
  clear hcl hrow hrow2 hfl hV
  refine (hbegun_any _ _ 1 1 _ _ 1 1 _ 0 _ hfl4 hplt (by simp; omega)).mono ?_
  rintro e w5 ⟨h5, hq⟩
  rcases hq with ⟨hbad, _⟩ | ⟨_, lo, hi, t, p, b, rs, ps, rfl, hHK, hzh, htab, hks⟩
  · exfalso
    rcases hbad with hbad | hbad | ⟨r, hr, hbad⟩
    · exact hbad newS
    · simp at hbad
    · rw [List.mem_singleton.1 hr] at hbad
      exact hbad ⟨by decide, rfl, rfl, hdrS, chkS⟩
  have hHB : hasB rs ps cS = true := by
    have hp : rs.map (·.f) = [fS] := List.perm_singleton.1 htab.perm
    obtain ⟨r, rfl⟩ : ∃ r, rs = [r] := List.length_eq_one_iff.1 (by have h := congrArg List.length hp; simpa using h)
    have hr : r.f = fS := by simpa using hp
    have hfr : findR [r] gS.key = some r := by
      unfold findR FlR.key
      rw [List.find?_cons_of_pos]
      rw [hr]
      kernel_rfl
    rw [hasB_is (c := cS) (r := r) (p := PlR.mk plS none 0 0 none 0 0) hfr (by show fliesF [r.f] gS = true; rw [hr]; exact flyS) (by rw [hr]; rfl) hks]
    exact hasS
  have HW := Lib.hid (wrong_no hHB)
  have HHB := Lib.hid hHB
  have HR := Lib.hid (htab.right_rs)
  have HHK := Lib.hid hHK
  have hB5 := hb5.trans (h5.mono hb5.size)
  have HB5 := Lib.hid hB5
  have hbx5 := hbx.below h5 hbx.lt
  have HBX := Lib.hid hbx5
  have z5 := hB5.size
  have zb5 := hHK.blt
  have zhb := hHK.hb
  have z4 := h5.size
  rw [World.size_alloc, hz3] at z4 hzh
  have c5 := hbx5.cells
  clear hplt hfl4 hB5 hb5 h5 hbx hbx5 hHB htab hks hHK
  go_upto_region 8 with fail
  refine wp_world (fun V => B3 V w5.heap.size ∧ HK V lo hi t p b rs ps (fun _ => none) ∧ Below w.heap.size w V) ⟨(B3.new w5).1, HHK.out.keep (B3.new w5).2, HB5.out.trans ((B3.new w5).2.mono z5)⟩ ?_
  clear HHK HB5 HBX c5
  rintro V ⟨hb3, hHK, hb⟩
  have H3 := Lib.hid hb3
  have HHK := Lib.hid hHK
  have HB := Lib.hid hb
  have zV := hb.size
  have c1 := hb3.l.cells
  have c2 := hb3.s.cells
  have c3 := hb3.h.cells
  clear hb3 hHK hb
  go_wp2_with fail
  refine (take_any HHK.out HR.out gS sS xS gS_ok sS_ok xS_ok).mono ?_
  rintro e w6 h6
  obtain ⟨rfl, hH6, hk6⟩ := h6.is (k := 0) (o := some xS) (by show takeF (wrongB rs ps cS) none xS = _; rw [HW.out]; exact takS1)
  clear h6
  generalize hq1 : updH (fun _ => none) ⟨gS, sS⟩ (some xS) = q1 at hH6
  have hqc : q1 cS = some xS := by rw [← hq1]; exact updH_same _ _ _
  have HQC := Lib.hid hqc
  have HQO : Hid (∀ d, d ≠ cS → q1 d = none) := fun d hd => by rw [← hq1]; exact updH_other _ _ _ hd
  clear hq1 hqc
  have H36 := Lib.hid (H3.out.kb hk6 zb5)
  have HH6 := Lib.hid hH6
  have HB6 := Lib.hid (hk6.below HB.out (by omega) zV)
  have z6 := HB6.out.size
  clear c1 c2 c3 hH6 hk6 H3 HHK HB
  have c1 := H36.out.l.cells
  have c2 := H36.out.s.cells
  have c3 := H36.out.h.cells
  go_wp2_with fail
  refine (take_any HH6.out HR.out gS sS xS gS_ok sS_ok xS_ok).mono ?_
  rintro e w7 h7
  obtain ⟨rfl, hH7, hk7⟩ := h7.is (k := 8) (o := some xS) (by show takeF (wrongB rs ps cS) (q1 cS) xS = _; rw [HW.out, HQC.out]; exact takS2)
  clear h7
  rw [show updH q1 ⟨gS, sS⟩ (some xS) = q1 by rw [← HQC.out]; exact updH_self _ _] at hH7
  have H37 := Lib.hid (H36.out.kb hk7 zb5)
  have HH7 := Lib.hid hH7
  have HB7 := Lib.hid (hk7.below HB6.out (by omega) z6)
  have z7 := HB7.out.size
  clear c1 c2 c3 hH7 hk7 H36 HH6 HB6
  have c1 := H37.out.l.cells
  have c2 := H37.out.s.cells
  have c3 := H37.out.h.cells
  go_wp2_with fail
  refine (take_any HH7.out HR.out gS sS yS gS_ok sS_ok yS_ok).mono ?_
  rintro e w8 h8
  obtain ⟨rfl, hH8, hk8⟩ := h8.is (k := 14) (o := some xS) (by show takeF (wrongB rs ps cS) (q1 cS) yS = _; rw [HW.out, HQC.out]; exact takS3)
  clear h8
  rw [show updH q1 ⟨gS, sS⟩ (some xS) = q1 by rw [← HQC.out]; exact updH_self _ _] at hH8
  have H38 := Lib.hid (H37.out.kb hk8 zb5)
  have HH8 := Lib.hid hH8
  have HB8 := Lib.hid (hk8.below HB7.out (by omega) z7)
  have z8 := HB8.out.size
  clear c1 c2 c3 hH8 hk8 H37 HH7 HB7
  have c1 := H38.out.l.cells
  have c2 := H38.out.s.cells
  have c3 := H38.out.h.cells
  go_wp2_with fail
  refine (who_any HH8.out gS sS gS_ok sS_ok).mono ?_
  rintro e w9 ⟨he, h9⟩
  obtain rfl : e = .returned (.tuple #[.agg #[.string ⟨#[88]⟩, .int .i64 1], .bool true]) := by rw [he, show q1 ⟨gS, sS⟩ = some xS from HQC.out]; rfl
  have H39 := Lib.hid (H38.out.below h9)
  have HH9 := Lib.hid (HH8.out.keep h9)
  have HB9 := Lib.hid (HB8.out.trans (h9.mono z8))
  have z9 := HB9.out.size
  clear c1 c2 c3 h9 he H38 HH8 HB8
  go_upto_region 11 with fail
  refine wp_world (fun V => (B3 V w5.heap.size ∧ Bx V w9.heap.size #[.string ⟨#[88]⟩, .int .i64 1] 69) ∧ HK V lo hi t p b rs ps q1 ∧ Below w.heap.size w V) ⟨⟨H39.out.below ((Below.refl _ _).alloc (Nat.le_refl _) _), Bx.new _ _ _⟩, HH9.out.keep ((Below.refl _ _).alloc (Nat.le_refl _) _), HB9.out.alloc z9 _⟩ ?_
  clear H39 HH9 HB9
  rintro V2 ⟨⟨hb3, hb4⟩, hHK, hb⟩
  have H3 := Lib.hid hb3
  have HHK := Lib.hid hHK
  have HB := Lib.hid hb
  have zV2 := hb.size
  have c1 := hb3.l.cells
  have c2 := hb3.s.cells
  have c3 := hb3.h.cells
  have c4 := hb4.cells
  clear hb3 hb4 hHK hb
  go_wp2_with fail
  refine (hon_any HHK.out gS [cS] (by simp) (fun c hne => ?_)).mono ?_
  · by_cases e : c = cS
    · simp [e]
    · exact absurd (HQO.out c e) hne
  rintro e w10 ⟨A10, n10, c10, o10, rfl, hO10, hr10, hm10, h10⟩
  have ho : o10 = [Hld.mk sS xS] := RisL.eq lts_hd hr10 (List.pairwise_singleton _ _) (fun x => by
    rw [hm10 x, List.mem_singleton]
    constructor
    · intro hx
      replace hx : q1 ⟨gS, x.seat⟩ = some x.hol := hx
      by_cases e : (⟨gS, x.seat⟩ : Hpl) = cS
      · rw [e, HQC.out] at hx
        injection hx with hx
        injection e with _ e2
        obtain ⟨xs, xh⟩ := x
        dsimp only at e2 hx
        rw [e2, hx]
      · rw [HQO.out _ e] at hx
        cases hx
    · rintro rfl
      exact HQC.out)
  subst ho
  obtain rfl : n10 = 1 := hO10.sl.len.symm
  have H310 := Lib.hid (H3.out.below h10)
  have HH10 := Lib.hid (HHK.out.keep h10)
  have HB10 := Lib.hid (HB.out.trans (h10.mono zV2))
  have z10 := HB10.out.size
  clear c1 c2 c3 c4 hO10 hr10 hm10 h10 H3 HHK HB
  have c1 := H310.out.l.cells
  have c2 := H310.out.s.cells
  go_wp2_with fail
  refine (hlegs_any HH10.out [cS] (by simp) (fun c hne => ?_)).mono ?_
  · by_cases e : c = cS
    · simp [e]
    · exact absurd (HQO.out c e) hne
  rintro e w11 ⟨A11, n11, c11, o11, rfl, hO11, hr11, hm11, h11⟩
  have ho : o11 = [gS] := RisL.eq lts_g hr11 (List.pairwise_singleton _ _) (fun g => by
    rw [hm11 g, List.mem_singleton]
    constructor
    · rintro ⟨c, hne, rfl⟩
      by_cases e : c = cS
      · rw [e]; rfl
      · exact absurd (HQO.out c e) hne
    · rintro rfl
      exact ⟨cS, by rw [HQC.out]; simp, rfl⟩)
  subst ho
  obtain rfl : n11 = 1 := hO11.sl.len.symm
  have H311 := Lib.hid (H310.out.below h11)
  have HH11 := Lib.hid (HH10.out.keep h11)
  have HB11 := Lib.hid (HB10.out.trans (h11.mono z10))
  have z11 := HB11.out.size
  clear c1 c2 hO11 hr11 hm11 h11 H310 HH10 HB10
  have c1 := H311.out.l.cells
  have c2 := H311.out.s.cells
  go_wp2_with fail
  refine (hhas_any HH11.out HR.out gS sS gS_ok sS_ok HHB.out).mono ?_
  rintro e w12 ⟨rfl, h12⟩
  have HB12 := Lib.hid (HB11.out.trans (h12.mono z11))
  clear h12
  go_wp2
  go_ret
  exact ⟨rfl, HB12.out⟩
end Go.Proofs.YtlkdefmceghmnaaGreat
