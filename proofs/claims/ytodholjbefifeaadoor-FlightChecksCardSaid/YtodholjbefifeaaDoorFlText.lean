/- A key's text: the program's and the document's. -/
import Derived.Test.YtodholjbefifeaaDoorFlDig
import Derived.Test.YtodholjbefifeaaDoorItoa
import Derived.Test.YtodholjbefifeaaDoorRows
import Derived.Lib.AppendIntMem
import Derived.Lib.ItoaLen
import Derived.Test.YtodholjbefifeaaDoorQuietB
namespace Go.Proofs.YtodholjbefifeaaDoor
set_option linter.unusedVariables false
open Go Go.RowKit
/-- The table that strconv reads. -/
def Tab10 (w : World) : Prop := Lib.TabIs Tryd.prog w "internal/strconv.uint64pow10" .u64 Lib.pow10Tab
theorem Tab10.keep {w W : World} (h : Tab10 w) (hb : Below w.heap.size w W) : Tab10 W := Lib.tabBelow_of_tabIs h W hb
theorem pow_of {P : Program} {W : World} {name : String} {k : IntKind} {zs : List Int} {rest : List (String × DataW Unit)} {g : Nat} {t e : TypeId} {n : Nat} {ps : List MemPlace}
    (hg : P.globalNamed name = some g) (hty : (P.globals[g]?).map (·.type) = some t) (ht : P.underlying t = some (.array n e)) (he : P.underlying e = some (.int k)) (hce : P.cellsOf e = 1) (hct : P.cellsOf t = n)
    (h : DataW.LaidVars P W ((name, Lib.tabData k zs) :: rest) ps) : Lib.TabIs P W name k zs := by
  obtain ⟨g', t', cs, fuel, p, q, hg', ht', hvar, hd, _, _⟩ := h
  obtain rfl := Option.some.inj (hg.symm.trans hg')
  obtain rfl := Option.some.inj (hty.symm.trans ht')
  unfold Lib.TabIs
  rw [hvar, ← Lib.cells_of_tab ht he hce hct hd]
theorem laid_tail {P : Program} {W : World} {x : String × DataW Unit} {rest : List (String × DataW Unit)} {ps : List MemPlace} (h : DataW.LaidVars P W (x :: rest) ps) : ∃ qs, DataW.LaidVars P W rest qs := by
  obtain ⟨g', t', cs, fuel, p, q, hg', ht', hvar, hd, h1, h2⟩ := h
  first | exact ⟨_, h1⟩ | exact ⟨_, h2⟩
theorem tab10_of {W : World} (h : laidMet Tryd.prog Rows.flightChecksRow.laid W) : Tab10 W := by
  obtain ⟨ps, h, _⟩ := h
  obtain ⟨qs, h⟩ := laid_tail h
  obtain ⟨qs, h⟩ := laid_tail h
  exact pow_of (g := 0) (t := 127) (e := 107) (n := 20) (by kernel_rfl) (by kernel_rfl) (by kernel_rfl) (by kernel_rfl) (by kernel_rfl) (by kernel_rfl) h
theorem itoa_law (u : Nat) (hu : u ≤ 9223372036854775807) (w : World) (hT : Tab10 w) :
    Calls Tryd.prog 40 #[.int .i64 u] w fun e w' => e = .returned (.string ⟨(Lib.decDigits u).toArray⟩) ∧ Below w.heap.size w w' := by
  refine (Go.Proofs.Any.strconv_Itoa laysItoa (u : Int) (by omega) (by omega) w hT).mono ?_
  rintro e w' ⟨rfl, k, os, rfl⟩
  exact ⟨by rw [Lib.itoa_nonneg], Lib.below_grow _ w (Nat.le_refl _) k os⟩
/-- The text of a key. -/
def textF (kc : ByteArray) (kn : Int) : ByteArray := if kn < 1 then kc else kc ++ ⟨(Lib.decDigits kn.toNat).toArray⟩
theorem dec_len {u : Nat} (hu : u ≤ 9223372036854775807) : (Lib.decDigits u).length ≤ 21 := by
  have h := Lib.itoa_length_le (u : Int) (by omega) (by omega)
  rw [Lib.itoa_nonneg] at h
  exact h
set_option maxRecDepth 100000 in
set_option maxHeartbeats 4000000 in
theorem text_any (kc : ByteArray) (kn : Int) (w : World) (hc : kc.size ≤ 140737488355328) (hk : okInt kn) (hT : Tab10 w) :
    Calls Tryd.prog 12 #[.agg #[.string kc, .int .i64 kn]] w fun e w' => e = .returned (.string (textF kc kn)) ∧ Below w.heap.size w w' := by
  have HB := box1 w #[.string kc, .int .i64 kn] 23
  have HK := Lib.hid hk
  go_enter Tryd.func12, Tryd.ntmps12
  go_upto_region 1 with fail
  refine wp_world (fun W => Bx W w.heap.size #[.string kc, .int .i64 kn] 23 ∧ Below w.heap.size w W) HB ?_
  clear HB
  rintro W ⟨bx, hb⟩
  have c1 := bx.cells
  have hbx := bx.lt
  by_cases h1 : kn < 1
  · have t1 : decide (kn < 1) = true := decide_eq_true h1
    have HE : Hid (textF kc kn = kc) := by show _ = _; unfold textF; rw [if_pos h1]
    clear h1
    go_wp2
    go_ret
    exact ⟨by rw [HE.out]; rfl, hb⟩
  · have t1 : decide (kn < 1) = false := decide_eq_false h1
    obtain ⟨u, rfl⟩ : ∃ u : Nat, kn = u := ⟨kn.toNat, by omega⟩
    have hu : u ≤ 9223372036854775807 := by have := hk.2; omega
    have HE : Hid (textF kc (u : Int) = kc ++ ⟨(Lib.decDigits u).toArray⟩) := by show _ = _; unfold textF; rw [if_neg h1, Int.toNat_natCast]
    have HL := dec_len hu
    have hl : ¬ 9223372036854775807 < kc.size + (Lib.decDigits u).length := by omega
    have HI := Lib.hid (fun t : Blw W => itoa_law u hu t.W (hT.keep (hb.trans (t.b.mono hb.size))))
    generalize Lib.decDigits u = dd at HE HL hl HI
    clear h1 hk
    go_upto_region 3 with fail
    refine wp_region_below (by kernel_rfl) (by kernel_rfl) ?_
    intro q9
    repeat
      (refine QH.step (fun K9 hK9 => ?_)
       go_simp
       first
       | (refine hK9 _ ?_; clear hK9 K9)
       | (apply Exists.intro
          refine ⟨fun _ => ?_, hK9 _ ?_⟩
          · first | (exact Calls.blw _ (HI.out _))
          clear hK9 K9))
    refine QH.nil_ ?_
    clear q9
    rintro ⟨V9, hV9⟩
    dsimp only
    go_wp2
    go_ret
    exact ⟨by rw [HE.out]; rfl, hb.trans (hV9.mono hb.size)⟩
set_option maxRecDepth 100000 in
set_option maxHeartbeats 4000000 in
theorem rtext_any (kc : ByteArray) (kn : Int) (w : World) (hc : kc.size ≤ 140737488355328) (hk : okInt kn) :
    Calls Tryd.prog 13 #[.agg #[.string kc, .int .i64 kn]] w fun e w' => e = .returned (.string (textF kc kn)) ∧ Below w.heap.size w w' := by
  have HB := box1 w #[.string kc, .int .i64 kn] 23
  have HK := Lib.hid hk
  go_enter Tryd.func13, Tryd.ntmps13
  go_upto_region 1 with fail
  refine wp_world (fun W => Bx W w.heap.size #[.string kc, .int .i64 kn] 23 ∧ Below w.heap.size w W) HB ?_
  clear HB
  rintro W ⟨bx, hb⟩
  have c1 := bx.cells
  have hbx := bx.lt
  by_cases h1 : kn < 1
  · have t1 : decide (kn < 1) = true := decide_eq_true h1
    have HE : Hid (textF kc kn = kc) := by show _ = _; unfold textF; rw [if_pos h1]
    clear h1
    go_wp2
    go_ret
    exact ⟨by rw [HE.out]; rfl, hb⟩
  · have t1 : decide (kn < 1) = false := decide_eq_false h1
    obtain ⟨u, rfl⟩ : ∃ u : Nat, kn = u := ⟨kn.toNat, by omega⟩
    have hu : u ≤ 9223372036854775807 := by have := hk.2; omega
    have HE : Hid (textF kc (u : Int) = kc ++ ⟨(Lib.decDigits u).toArray⟩) := by show _ = _; unfold textF; rw [if_neg h1, Int.toNat_natCast]
    have HL := dec_len hu
    have hl : ¬ 9223372036854775807 < kc.size + (Lib.decDigits u).length := by omega
    have HI := Lib.hid (fun t : Blw W => digits_any u hu t.W)
    generalize Lib.decDigits u = dd at HE HL hl HI
    clear h1 hk
    go_upto_region 3 with fail
    refine wp_region_below (by kernel_rfl) (by kernel_rfl) ?_
    intro q9
    repeat
      (refine QH.step (fun K9 hK9 => ?_)
       go_simp
       first
       | (refine hK9 _ ?_; clear hK9 K9)
       | (apply Exists.intro
          refine ⟨fun _ => ?_, hK9 _ ?_⟩
          · first | (exact Calls.blw _ (HI.out _))
          clear hK9 K9))
    refine QH.nil_ ?_
    clear q9
    rintro ⟨V9, hV9⟩
    dsimp only
    go_wp2
    go_ret
    exact ⟨by rw [HE.out]; rfl, hb.trans (hV9.mono hb.size)⟩
end Go.Proofs.YtodholjbefifeaaDoor
