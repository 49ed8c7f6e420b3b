/- The laws' awake: it answers true. -/
import Derived.Test.YtodholjbefifeaaDoorFlAwake
namespace Go.Proofs.YtodholjbefifeaaDoor
set_option linter.unusedVariables false
open Go Go.RowKit Go.Sort
theorem Sl.ofRow {α : Type} {T : Ty α} {W : World} {g : Nat} {news : Array Value} {t : TypeId} {l : List α} (hg : W.heap[g]? = some (.cells news t (0, 0))) (hl : news.toList = l.flatMap T.enc) (hw : ∀ x ∈ l, T.wf x) : Sl W g (g + 1) T (some ⟨g, 0, none⟩) l.length l :=
  ⟨rfl, hw, fun _ => ⟨g, 0, rfl, Nat.le_refl _, by omega, fun k x hx j u hu => by
    have h1 := flatMap_at T l k x hx j u hu
    rw [← hl] at h1
    rw [Nat.zero_add, cell_of_row _ _ _ news t (0, 0) hg, ← h1]
    simp⟩⟩
theorem eql_tab (w : World) (a : Addr) : (binOp .eql 34 (.pointer (some a)) (.pointer none)).run Tryd.prog w = .ok (.bool false) w := by kernel_rfl
theorem eql_tab0 (w : World) : (binOp .eql 34 (.pointer none) (.pointer none)).run Tryd.prog w = .ok (.bool true) w := by kernel_rfl
theorem ok_f (num dep arr : Int) (fr to_ : ByteArray) (g : Nat) (h1 : okInt num) (h2 : okInt dep) (h3 : okInt arr) (h4 : okStr fr) (h5 : okStr to_) : (FlR.mk (fOne num fr to_ dep arr) (some ⟨g, 0, none⟩) 1 1).ok :=
  ⟨⟨(show okStr ⟨#[66, 65]⟩ by unfold okStr; decide), h1, h4, h5, (show okByte 65 by unfold okByte; decide), h2, h3, (show okInt 0 by unfold okInt; decide)⟩, rfl, (fun h => by cases h), Nat.le_refl _⟩
theorem TB.right {l : List Flt} {rl : List FlR} (h : Tab l (rl.map (·.f))) : ∀ r ∈ rl, rightB r.f = true := fun r hr => h.right r.f (h.perm.mem_iff.1 (List.mem_map_of_mem hr))
set_option maxRecDepth 100000 in
set_option maxHeartbeats 8000000 in
theorem awake_any (w : World) : Calls Tryd.prog 9 #[] w (RetB w true) := by
  have hnl := eql_tab
  go_enter Tryd.func9, Tryd.ntmps9
  go_wp2_with fail
  refine (one_any 2 par rom 645 700 w).mono ?_
  rintro e w1 ⟨rfl, s1, h1⟩
  have HS1 := Lib.hid s1
  clear s1
  go_wp2_with fail
  refine (one_any 1 lon par 540 600 w1).mono ?_
  rintro e w2 ⟨rfl, s2, h2⟩
  have HS2 := Lib.hid s2
  clear s2
  go_wp2_with fail
  have hz1 := h1.size
  have hz2 := h2.size
  have hfl : FlS (w2.alloc (.cells #[.string ⟨#[66, 65]⟩, .int .i64 2, .string par, .string rom, .int .u8 65, .int .i64 645, .int .i64 700, .slice (some ⟨w.heap.size + 1, 0, none⟩) 1 1, .int .i64 0, .string ⟨#[66, 65]⟩, .int .i64 1, .string lon, .string par, .int .u8 65, .int .i64 540, .int .i64 600, .slice (some ⟨w1.heap.size + 1, 0, none⟩) 1 1, .int .i64 0] 26)) 0 (w2.heap.size + 1) (some ⟨w2.heap.size, 0, none⟩) 2 [FlR.mk f2 (some ⟨w.heap.size + 1, 0, none⟩) 1 1, FlR.mk f1 (some ⟨w1.heap.size + 1, 0, none⟩) 1 1] := by
    refine ⟨(Sl.ofRow (T := tFl) (l := [FlR.mk f2 (some ⟨w.heap.size + 1, 0, none⟩) 1 1, FlR.mk f1 (some ⟨w1.heap.size + 1, 0, none⟩) 1 1]) (heap_alloc_new w2 _) rfl (fun x hx => ?_)).more (Nat.zero_le _) (Nat.le_refl _), fun r hr => ?_⟩
    · rcases List.mem_cons.1 hx with rfl | hx
      · exact ok_f _ _ _ _ _ _ (by unfold okInt; decide) (by unfold okInt; decide) (by unfold okInt; decide) (by unfold okStr; decide) (by unfold okStr; decide)
      · rw [List.mem_singleton.1 hx]
        exact ok_f _ _ _ _ _ _ (by unfold okInt; decide) (by unfold okInt; decide) (by unfold okInt; decide) (by unfold okStr; decide) (by unfold okStr; decide)
    · rcases List.mem_cons.1 hr with rfl | hr
      · exact ((HS1.out.below h2 (Nat.le_refl _)).more (Nat.le_refl _) hz2).alloc (Nat.le_refl _) _ |>.more (Nat.le_refl _) (Nat.le_succ _)
      · rw [List.mem_singleton.1 hr]
        exact (HS2.out.alloc (Nat.le_refl _) _).more (Nat.le_refl _) (Nat.le_succ _)
  refine (new_any _ _ 2 2 _ 0 _ hfl (by omega) (by simp) (by simp)).mono ?_
  rintro e w3 ⟨h3, hq⟩
  rcases hq with ⟨hbad, _⟩ | ⟨_, p, rl, rfl, ht, htab⟩
  · exact absurd new2 hbad
  have HT := Lib.hid htab
  have hb3 : Below w.heap.size w w3 := ((h1.trans (h2.mono hz1)).alloc (by omega) _).trans (h3.mono (by simp; omega))
  clear htab hfl h1 h2 h3 hz1 hz2
  go_wp2_with fail
  refine (tlinks_any rl p _ 6 lon rom w3 ht HT.out.nokL (TB.right HT.out)).mono ?_
  rintro e w4 ⟨A, n, c, out, rfl, ho, hm, h4⟩
  have HM := Lib.hid (hm.trans ((links_same nok2 HT.out.nokL (fun x => HT.out.mem x) 6 lon rom).trans link2))
  have ht4 := ht.keep h4
  have hb4 := hb3.trans (h4.mono hb3.size)
  obtain ⟨x, rfl⟩ : ∃ x, out = [x] := by
    have := congrArg List.length HM.out
    simp only [List.length_map] at this
    exact List.length_eq_one_iff.1 this
  obtain rfl : n = 1 := ho.own.sl.len.symm
  obtain ⟨b0, o0, y, hA, _, hb0, hx, _, hc⟩ := ho.own.sl.at_ (k := 0) (by omega)
  subst hA
  have hxy : x = y := by have := hx.out; simpa using this
  subst hxy
  have hp : parF x = (f1, f2) := by have := HM.out; simpa using this
  have hp1 : x.1.f = f1 := congrArg Prod.fst hp
  have hp2 : x.2.f = f2 := congrArg Prod.snd hp
  have g0 := hc 0 _ rfl
  have g1 := hc 1 _ rfl
  have g2 := hc 10 _ rfl
  rw [hp1] at g0 g1
  rw [hp2] at g2
  simp only [Nat.zero_mul, Nat.add_zero] at g0 g1 g2
  have g0 : w4.cell? ⟨b0, o0, none⟩ = some (.string ⟨#[66, 65]⟩) := g0
  have g1 : w4.cell? ⟨b0, o0 + 1, none⟩ = some (.int .i64 1) := g1
  have g2 : w4.cell? ⟨b0, o0 + 10, none⟩ = some (.int .i64 2) := g2
  clear hc hx hp hp1 hp2 ho hm ht HM h4 hb3
  go_wp2_with fail
  refine (tbetween_any rl p _ 0 lon par w4 ht4 HT.out.nokL).mono ?_
  rintro e w5 ⟨A5, n5, c5, out5, rfl, ho5, hm5, h5⟩
  have hm5' := hm5.trans ((betw_same nok2 HT.out.nokL (fun x => HT.out.mem x) 0 lon par).trans bet0)
  obtain rfl : n5 = 1 := by
    have h7 := congrArg List.length hm5'
    have h8 := ho5.own.sl.len
    simp only [List.length_map, List.length_nil, List.length_cons] at h7
    omega
  have q5 := (bcell h5).1
  have hz5 := h5.size
  have ht5 := ht4.keep h5
  have hb5 := hb4.trans (h5.mono hb4.size)
  clear ho5 hm5 hm5'
  go_wp2_with fail
  refine (tbetween_any rl p _ 1 lon par w5 ht5 HT.out.nokL).mono ?_
  rintro e w6 ⟨A6, n6, c6, out6, rfl, ho6, hm6, h6⟩
  have hm6' := hm6.trans ((betw_same nok2 HT.out.nokL (fun x => HT.out.mem x) 1 lon par).trans bet1)
  obtain rfl : n6 = 0 := by
    have h7 := congrArg List.length hm6'
    have h8 := ho6.own.sl.len
    simp only [List.length_map, List.length_nil] at h7
    omega
  have q6 := (bcell h6).1
  have hz6 := h6.size
  have hb6 := hb5.trans (h6.mono hb5.size)
  have zb5 : b0 < w5.heap.size := by omega
  clear ho6 hm6 hm6' h5 h6 ht4 ht5
  go_wp2_with fail
  refine (text_one w6).mono ?_
  rintro e w7 ⟨rfl, h7⟩
  have hb7 := hb6.trans (h7.mono hb6.size)
  go_wp2
  go_ret
  exact ⟨rfl, hb7⟩
end Go.Proofs.YtodholjbefifeaaDoor
