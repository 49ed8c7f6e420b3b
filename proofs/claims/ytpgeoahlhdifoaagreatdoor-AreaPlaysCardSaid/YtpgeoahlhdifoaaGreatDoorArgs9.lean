/- From the arguments as data to what the walks ask of them: a PNR, an edit, a slice of edits; and a law's last step. -/
import Derived.Test.YtpgeoahlhdifoaaGreatDoorMLib
import Derived.Test.YtpgeoahlhdifoaaGreatDoorCards
import Derived.Test.YtpgeoahlhdifoaaGreatDoorTie
import Derived.ProofKit
import Derived.Deep.DeepHandedRow
import Derived.Deep.Slices
namespace Go.Proofs.YtpgeoahlhdifoaaGreatDoor
set_option linter.unusedVariables false
open Go Go.RowKit Go.ChangeShapes Go.WideShapes Go.ChangeAt

section
variable {H : Type} {enc : TypeId × Value → H} {P : Program} {W : World} {base : Nat} {spare : Nat → Bool} {held : Bool}
theorem trod_fld {t : TypeId} {fs : Array Field} {fuel : Nat} {cs : List Value} {x : DataW H × List MemPlace} (ht : P.underlying t = some (.struct fs)) (h : DataW.trod enc P W base spare held fuel t cs = some x) :
    cs.length = P.cellsOf t ∧ ∀ (i : Nat) (f : Field), fs[i]? = some f → ∃ n y, DataW.trod enc P W base spare held n f.type ((cs.drop f.offset).take (P.cellsOf f.type)) = some y := by
  obtain ⟨xs, n, _, _, hl, hxl, hf⟩ := DataW.trod_struct ht h
  refine ⟨hl, fun i f hi => ?_⟩
  have hlt : i < xs.length := by rw [hxl]; exact (Array.getElem?_eq_some_iff.1 hi).1
  exact ⟨n, _, (hf i f hi).trans (List.getElem?_eq_getElem hlt)⟩

theorem list_of {α : Type} {p : Nat → α → Prop} : ∀ n, (∀ i, i < n → ∃ x, p i x) → ∃ l : List α, l.length = n ∧ ∀ k x, l[k]? = some x → p k x
  | 0, _ => ⟨[], rfl, fun k x h => by simp at h⟩
  | n + 1, h => by
    obtain ⟨l, hl, hp⟩ := list_of n (fun i hi => h i (by omega))
    obtain ⟨x, hx⟩ := h n (by omega)
    refine ⟨l ++ [x], by simp [hl], fun k y hk => ?_⟩
    by_cases hkn : k < l.length
    · rw [List.getElem?_append_left hkn] at hk
      exact hp k y hk
    · rw [List.getElem?_append_right (by omega)] at hk
      have h0 : k - l.length = 0 := by
        have := (List.getElem?_eq_some_iff.1 hk).1
        simp at this; omega
      rw [h0] at hk
      simp only [List.getElem?_cons_zero, Option.some.injEq] at hk
      have hk' : k = n := by omega
      subst hk'; subst hk
      exact hx

/-- A slice among the data: what it reads as, cell by cell. -/
theorem Sl.of_trod {α : Type} (T : Ty α) {t e : TypeId} (ht : P.underlying t = some (.slice e)) (hC : P.cellsOf e = T.sz)
    (hdec : ∀ n cs' y, DataW.trod enc P W 0 (fun _ => true) held n e cs' = some y → ∃ x, cs' = T.enc x ∧ T.wf x)
    {fuel : Nat} {v : Value} {x : DataW H × List MemPlace} (h : DataW.trod enc P W 0 (fun _ => true) held fuel t [v] = some x) :
    ∃ A n c l, v = .slice A n c ∧ Sl W 0 W.heap.size T A n l := by
  rcases Go.Deep.open_slice ht h with ⟨h0, _⟩ | ⟨a, len, cap, m, n, D, Pl, hcs, _, hl, _, hm, _, hi⟩
  · simp only [List.cons.injEq, and_true] at h0
    exact ⟨none, 0, 0, [], h0, Sl.nil_ _⟩
  · simp only [List.cons.injEq, and_true] at hcs
    simp only [if_true] at hm
    have hel : ∀ i, i < len → ∃ x, T.wf x ∧ ∀ j u, (T.enc x)[j]? = some u → W.cell? (a.add (i * T.sz + j)) = some u := by
      intro i hlt
      obtain ⟨cs', hc, htr⟩ := hi i (by omega)
      obtain ⟨x, rfl, hw⟩ := hdec _ _ _ htr
      obtain ⟨_, hcl, hat⟩ := World.cells?_some hc
      refine ⟨x, hw, fun j u hu => ?_⟩
      have hj : j < (T.enc x).length := (List.getElem?_eq_some_iff.1 hu).1
      rw [← hC, ← Go.Deep.add_add, hat j (by omega), hu]
    obtain ⟨l, hll, hlp⟩ := list_of len hel
    refine ⟨some a, len, cap, l, hcs, hll, fun x hx => ?_, fun hpos => ?_⟩
    · obtain ⟨k, hk⟩ := List.getElem?_of_mem hx
      exact (hlp k x hk).1
    · obtain ⟨x, _, hx⟩ := hel 0 hpos
      have hp0 : 0 < (T.enc x).length := by rw [T.len]; exact T.pos
      have h0 := hx 0 _ (List.getElem?_eq_getElem hp0)
      simp only [Nat.zero_mul, Nat.zero_add] at h0
      have ha0 : a.add 0 = a := by simp [Addr.add]
      rw [ha0] at h0
      obtain ⟨b, o, sp⟩ := a
      have hsp : sp = none := by
        cases sp with
        | none => rfl
        | some s =>
          unfold World.cell? at h0
          split at h0
          · simp at h0
          · cases h0
      subst hsp
      refine ⟨b, o, rfl, Nat.zero_le _, World.block_lt_of_cell? W _ h0, fun k x hk j u hu => ?_⟩
      have h1 := (hlp k x hk).2 j u hu
      have hadd : ∀ n, (⟨b, o, none⟩ : Addr).add n = ⟨b, o + n, none⟩ := fun n => by unfold Addr.add; split <;> simp_all
      rw [hadd] at h1
      rw [show o + k * T.sz + j = o + (k * T.sz + j) by omega]
      exact h1
end

section
variable {H : Type} {enc : TypeId × Value → H} {P : Program} {W W' : World} {sp : Nat → Bool}
theorem trodAll_stays (hl : laidOutB P = true) : ∀ {ts : List TypeId} {vs : List Value} {ds : List (DataW H)} {ps : List MemPlace}, (∀ t, t ∈ ts → P.readableRec t = true ∧ t < P.types.size) →
    DataW.TrodAll enc P W 0 (fun _ => true) true ts vs ds ps → (∀ x ∈ ps, W.sameAt W' x) → (∀ x ∈ ps, sp x.block = true) → DataW.TrodAll enc P W' 0 sp true ts vs ds ps
  | [], _, _, _, _, h, _, _ => by
    obtain ⟨rfl, rfl, rfl⟩ := trodAll_nil h
    exact h
  | t :: ts, _, _, _, hr, h, hs, hsp => by
    obtain ⟨v, vs, d, ds, p, q, rfl, rfl, rfl, h1, h2⟩ := trodAll_cons h
    obtain ⟨r1, r2⟩ := hr t (by simp)
    exact ⟨p, q, WideElems.Trod_stays hl r1 r2 h1 (fun x hx => hs x (by simp [hx])) (fun x hx => hsp x (by simp [hx])), trodAll_stays hl (fun t' ht' => hr t' (by simp [ht'])) h2 (fun x hx => hs x (by simp [hx])) (fun x hx => hsp x (by simp [hx])), rfl⟩

/-- A LAW's LAST STEP: it handed back true, and of what was there when it began nothing has turned. -/
theorem law_post {f : Func} {s : ChangeSpec} {tb : TypeId} {apart fresh handsOn : Bool} {args : Array Value} {ds gs : List (DataW H)} {before : List MemPlace} (hl : laidOutB P = true)
    (hr : ∀ t, t ∈ f.params.toList → P.readableRec t = true ∧ t < P.types.size) (hb : P.underlying tb = some .bool) (hrt : f.resultTypes = #[tb]) (hvs : s.vars = [])
    (hfn : s.fn H (ds ++ gs) = { results := [.lit (.bool true)], args := ds }) (hW : DataW.Whole enc P f.params.toList s.vars apart W args.toList ds gs before) (hbl : Below W.heap.size W W') :
    s.post enc P f apart fresh handsOn false W args (.bool true) W' := by
  have hlt : ∀ x ∈ before, x.block < W.heap.size := fun x hx => by simpa using hW.lt x hx
  have hW' := hW
  obtain ⟨p, q, hA, hV, rfl, hz, hn⟩ := hW
  rw [hvs] at hV
  obtain ⟨rfl, rfl⟩ := trodVars_none hV
  simp only [List.append_nil] at hlt hfn hW'
  refine ⟨ds, [], p, [], p, [], hW', ?_, ?_, ?_, hbl.frame _, fun h => by cases h⟩
  · simp only [List.append_nil]
    rw [hfn, hrt]
    exact trodAll_mk1 (shut_bool hb _)
  · simp only [List.append_nil]
    rw [hfn]
    exact trodAll_stays hl hr hA (fun x hx => hbl.same (hlt x hx)) (fun x hx => by simpa using hlt x hx)
  · simp only [List.append_nil]
    rw [hvs, hfn]
    rfl
end

theorem cells_str : Tryz.prog.cellsOf 9 = 1 := by kernel_rfl
theorem cells_int : Tryz.prog.cellsOf 3 = 1 := by kernel_rfl
theorem cells_byte : Tryz.prog.cellsOf 5 = 1 := by kernel_rfl
theorem cells_bool : Tryz.prog.cellsOf 4 = 1 := by kernel_rfl
theorem ok_str {s : ByteArray} (h : s.size ≤ maxLen) : okStr s := by unfold okStr; unfold maxLen at h; omega
theorem ok_int {n : Int} (h : (Lit.int .i64 n).wf = true) : okInt n := by
  simp only [Lit.wf, Bool.and_eq_true, decide_eq_true_eq] at h
  exact h
theorem ok_byte {n : Int} (h : (Lit.int .u8 n).wf = true) : okByte n := by
  simp only [Lit.wf, Bool.and_eq_true, decide_eq_true_eq] at h
  exact h
theorem list2 {α : Type} {l : List α} (h : l.length = 2) : ∃ c0 c1, l = [c0, c1] := by
  match l, h with
  | [c0, c1], _ => exact ⟨c0, c1, rfl⟩
theorem list3 {α : Type} {l : List α} (h : l.length = 3) : ∃ c0 c1 c2, l = [c0, c1, c2] := by
  match l, h with
  | [c0, c1, c2], _ => exact ⟨c0, c1, c2, rfl⟩
theorem list4 {α : Type} {l : List α} (h : l.length = 4) : ∃ c0 c1 c2 c3, l = [c0, c1, c2, c3] := by
  match l, h with
  | [c0, c1, c2, c3], _ => exact ⟨c0, c1, c2, c3, rfl⟩
theorem list5 {α : Type} {l : List α} (h : l.length = 5) : ∃ c0 c1 c2 c3 c4, l = [c0, c1, c2, c3, c4] := by
  match l, h with
  | [c0, c1, c2, c3, c4], _ => exact ⟨c0, c1, c2, c3, c4, rfl⟩
theorem list12 {α : Type} {l : List α} (h : l.length = 12) : ∃ c0 c1 c2 c3 c4 c5 c6 c7 c8 c9 c10 c11, l = [c0, c1, c2, c3, c4, c5, c6, c7, c8, c9, c10, c11] := by
  match l, h with
  | [c0, c1, c2, c3, c4, c5, c6, c7, c8, c9, c10, c11], _ => exact ⟨c0, c1, c2, c3, c4, c5, c6, c7, c8, c9, c10, c11, rfl⟩
theorem list16 {α : Type} {l : List α} (h : l.length = 16) : ∃ c0 c1 c2 c3 c4 c5 c6 c7 c8 c9 c10 c11 c12 c13 c14 c15, l = [c0, c1, c2, c3, c4, c5, c6, c7, c8, c9, c10, c11, c12, c13, c14, c15] := by
  match l, h with
  | [c0, c1, c2, c3, c4, c5, c6, c7, c8, c9, c10, c11, c12, c13, c14, c15], _ => exact ⟨c0, c1, c2, c3, c4, c5, c6, c7, c8, c9, c10, c11, c12, c13, c14, c15, rfl⟩
theorem cells_Key : Tryz.prog.cellsOf 42 = 2 := by kernel_rfl
theorem dec_Key {H : Type} {enc : TypeId × Value → H} {W : World} {base : Nat} {spare : Nat → Bool} {held : Bool} {fuel : Nat} {cs : List Value} {x : DataW H × List MemPlace} (h : DataW.trod enc Tryz.prog W base spare held fuel 42 cs = some x) :
    ∃ (a0 : ByteArray) (a1 : Int), cs = [.string a0, .int .i64 a1] ∧ okStr a0 ∧ okInt a1 := by
  obtain ⟨hl, hf⟩ := trod_fld Tryz.underlying42 h
  rw [cells_Key] at hl
  obtain ⟨c0, c1, rfl⟩ := list2 hl
  obtain ⟨n0, y0, g0⟩ := hf 0 _ rfl
  replace g0 : DataW.trod enc Tryz.prog W base spare held n0 9 [c0] = some y0 := by have e : DataW.trod enc Tryz.prog W base spare held n0 9 (([c0, c1].drop 0).take (Tryz.prog.cellsOf 9)) = some y0 := g0; rw [cells_str] at e; exact e
  obtain ⟨b0, e0, _, w0⟩ := DataW.trod_string Tryz.underlying9 g0
  obtain rfl : c0 = .string b0 := by simpa using e0
  obtain ⟨n1, y1, g1⟩ := hf 1 _ rfl
  replace g1 : DataW.trod enc Tryz.prog W base spare held n1 3 [c1] = some y1 := by have e : DataW.trod enc Tryz.prog W base spare held n1 3 (([.string b0, c1].drop 1).take (Tryz.prog.cellsOf 3)) = some y1 := g1; rw [cells_int] at e; exact e
  obtain ⟨b1, e1, _, w1⟩ := DataW.trod_int Tryz.underlying3 g1
  obtain rfl : c1 = .int .i64 b1 := by simpa using e1
  exact ⟨_, _, rfl, ok_str w0, ok_int w1⟩
theorem cells_Leg : Tryz.prog.cellsOf 44 = 3 := by kernel_rfl
theorem dec_Leg {H : Type} {enc : TypeId × Value → H} {W : World} {base : Nat} {spare : Nat → Bool} {held : Bool} {fuel : Nat} {cs : List Value} {x : DataW H × List MemPlace} (h : DataW.trod enc Tryz.prog W base spare held fuel 44 cs = some x) :
    ∃ (a0 : ByteArray) (a1 : Int) (a2 : Int), cs = [.string a0, .int .i64 a1, .int .i64 a2] ∧ okStr a0 ∧ okInt a1 ∧ okInt a2 := by
  obtain ⟨hl, hf⟩ := trod_fld Tryz.underlying44 h
  rw [cells_Leg] at hl
  obtain ⟨c0, c1, c2, rfl⟩ := list3 hl
  obtain ⟨n0, y0, g0⟩ := hf 0 _ rfl
  replace g0 : DataW.trod enc Tryz.prog W base spare held n0 42 [c0, c1] = some y0 := by have e : DataW.trod enc Tryz.prog W base spare held n0 42 (([c0, c1, c2].drop 0).take (Tryz.prog.cellsOf 42)) = some y0 := g0; rw [cells_Key] at e; exact e
  obtain ⟨b0_0, b0_1, e0, w0_0, w0_1⟩ := dec_Key g0
  simp only [List.cons.injEq, and_true] at e0
  obtain ⟨rfl, rfl⟩ := e0
  obtain ⟨n1, y1, g1⟩ := hf 1 _ rfl
  replace g1 : DataW.trod enc Tryz.prog W base spare held n1 3 [c2] = some y1 := by have e : DataW.trod enc Tryz.prog W base spare held n1 3 (([.string b0_0, .int .i64 b0_1, c2].drop 2).take (Tryz.prog.cellsOf 3)) = some y1 := g1; rw [cells_int] at e; exact e
  obtain ⟨b1, e1, _, w1⟩ := DataW.trod_int Tryz.underlying3 g1
  obtain rfl : c2 = .int .i64 b1 := by simpa using e1
  exact ⟨_, _, _, rfl, w0_0, w0_1, ok_int w1⟩
theorem cells_Segment : Tryz.prog.cellsOf 46 = 5 := by kernel_rfl
theorem dec_Segment {H : Type} {enc : TypeId × Value → H} {W : World} {base : Nat} {spare : Nat → Bool} {held : Bool} {fuel : Nat} {cs : List Value} {x : DataW H × List MemPlace} (h : DataW.trod enc Tryz.prog W base spare held fuel 46 cs = some x) :
    ∃ (a0 : ByteArray) (a1 : Int) (a2 : Int) (a3 : Int) (a4 : Bool), cs = [.string a0, .int .i64 a1, .int .i64 a2, .int .u8 a3, .bool a4] ∧ okStr a0 ∧ okInt a1 ∧ okInt a2 ∧ okByte a3 := by
  obtain ⟨hl, hf⟩ := trod_fld Tryz.underlying46 h
  rw [cells_Segment] at hl
  obtain ⟨c0, c1, c2, c3, c4, rfl⟩ := list5 hl
  obtain ⟨n0, y0, g0⟩ := hf 0 _ rfl
  replace g0 : DataW.trod enc Tryz.prog W base spare held n0 44 [c0, c1, c2] = some y0 := by have e : DataW.trod enc Tryz.prog W base spare held n0 44 (([c0, c1, c2, c3, c4].drop 0).take (Tryz.prog.cellsOf 44)) = some y0 := g0; rw [cells_Leg] at e; exact e
  obtain ⟨b0_0, b0_1, b0_2, e0, w0_0, w0_1, w0_2⟩ := dec_Leg g0
  simp only [List.cons.injEq, and_true] at e0
  obtain ⟨rfl, rfl, rfl⟩ := e0
  obtain ⟨n1, y1, g1⟩ := hf 1 _ rfl
  replace g1 : DataW.trod enc Tryz.prog W base spare held n1 5 [c3] = some y1 := by have e : DataW.trod enc Tryz.prog W base spare held n1 5 (([.string b0_0, .int .i64 b0_1, .int .i64 b0_2, c3, c4].drop 3).take (Tryz.prog.cellsOf 5)) = some y1 := g1; rw [cells_byte] at e; exact e
  obtain ⟨b1, e1, _, w1⟩ := DataW.trod_int Tryz.underlying5 g1
  obtain rfl : c3 = .int .u8 b1 := by simpa using e1
  obtain ⟨n2, y2, g2⟩ := hf 2 _ rfl
  replace g2 : DataW.trod enc Tryz.prog W base spare held n2 4 [c4] = some y2 := by have e : DataW.trod enc Tryz.prog W base spare held n2 4 (([.string b0_0, .int .i64 b0_1, .int .i64 b0_2, .int .u8 b1, c4].drop 4).take (Tryz.prog.cellsOf 4)) = some y2 := g2; rw [cells_bool] at e; exact e
  obtain ⟨b2, e2, _⟩ := DataW.trod_bool Tryz.underlying4 g2
  obtain rfl : c4 = .bool b2 := by simpa using e2
  exact ⟨_, _, _, _, _, rfl, w0_0, w0_1, w0_2, ok_byte w1⟩
theorem cells_Name : Tryz.prog.cellsOf 40 = 2 := by kernel_rfl
theorem dec_Name {H : Type} {enc : TypeId × Value → H} {W : World} {base : Nat} {spare : Nat → Bool} {held : Bool} {fuel : Nat} {cs : List Value} {x : DataW H × List MemPlace} (h : DataW.trod enc Tryz.prog W base spare held fuel 40 cs = some x) :
    ∃ (a0 : ByteArray) (a1 : ByteArray), cs = [.string a0, .string a1] ∧ okStr a0 ∧ okStr a1 := by
  obtain ⟨hl, hf⟩ := trod_fld Tryz.underlying40 h
  rw [cells_Name] at hl
  obtain ⟨c0, c1, rfl⟩ := list2 hl
  obtain ⟨n0, y0, g0⟩ := hf 0 _ rfl
  replace g0 : DataW.trod enc Tryz.prog W base spare held n0 9 [c0] = some y0 := by have e : DataW.trod enc Tryz.prog W base spare held n0 9 (([c0, c1].drop 0).take (Tryz.prog.cellsOf 9)) = some y0 := g0; rw [cells_str] at e; exact e
  obtain ⟨b0, e0, _, w0⟩ := DataW.trod_string Tryz.underlying9 g0
  obtain rfl : c0 = .string b0 := by simpa using e0
  obtain ⟨n1, y1, g1⟩ := hf 1 _ rfl
  replace g1 : DataW.trod enc Tryz.prog W base spare held n1 9 [c1] = some y1 := by have e : DataW.trod enc Tryz.prog W base spare held n1 9 (([.string b0, c1].drop 1).take (Tryz.prog.cellsOf 9)) = some y1 := g1; rw [cells_str] at e; exact e
  obtain ⟨b1, e1, _, w1⟩ := DataW.trod_string Tryz.underlying9 g1
  obtain rfl : c1 = .string b1 := by simpa using e1
  exact ⟨_, _, rfl, ok_str w0, ok_str w1⟩
theorem cells_Seat : Tryz.prog.cellsOf 48 = 2 := by kernel_rfl
theorem dec_Seat {H : Type} {enc : TypeId × Value → H} {W : World} {base : Nat} {spare : Nat → Bool} {held : Bool} {fuel : Nat} {cs : List Value} {x : DataW H × List MemPlace} (h : DataW.trod enc Tryz.prog W base spare held fuel 48 cs = some x) :
    ∃ (a0 : Int) (a1 : Int), cs = [.int .i64 a0, .int .u8 a1] ∧ okInt a0 ∧ okByte a1 := by
  obtain ⟨hl, hf⟩ := trod_fld Tryz.underlying48 h
  rw [cells_Seat] at hl
  obtain ⟨c0, c1, rfl⟩ := list2 hl
  obtain ⟨n0, y0, g0⟩ := hf 0 _ rfl
  replace g0 : DataW.trod enc Tryz.prog W base spare held n0 3 [c0] = some y0 := by have e : DataW.trod enc Tryz.prog W base spare held n0 3 (([c0, c1].drop 0).take (Tryz.prog.cellsOf 3)) = some y0 := g0; rw [cells_int] at e; exact e
  obtain ⟨b0, e0, _, w0⟩ := DataW.trod_int Tryz.underlying3 g0
  obtain rfl : c0 = .int .i64 b0 := by simpa using e0
  obtain ⟨n1, y1, g1⟩ := hf 1 _ rfl
  replace g1 : DataW.trod enc Tryz.prog W base spare held n1 5 [c1] = some y1 := by have e : DataW.trod enc Tryz.prog W base spare held n1 5 (([.int .i64 b0, c1].drop 1).take (Tryz.prog.cellsOf 5)) = some y1 := g1; rw [cells_byte] at e; exact e
  obtain ⟨b1, e1, _, w1⟩ := DataW.trod_int Tryz.underlying5 g1
  obtain rfl : c1 = .int .u8 b1 := by simpa using e1
  exact ⟨_, _, rfl, ok_int w0, ok_byte w1⟩
theorem cells_Place : Tryz.prog.cellsOf 87 = 4 := by kernel_rfl
theorem dec_Place {H : Type} {enc : TypeId × Value → H} {W : World} {base : Nat} {spare : Nat → Bool} {held : Bool} {fuel : Nat} {cs : List Value} {x : DataW H × List MemPlace} (h : DataW.trod enc Tryz.prog W base spare held fuel 87 cs = some x) :
    ∃ (a0 : Int) (a1 : Int) (a2 : Int) (a3 : Int), cs = [.int .i64 a0, .int .i64 a1, .int .i64 a2, .int .u8 a3] ∧ okInt a0 ∧ okInt a1 ∧ okInt a2 ∧ okByte a3 := by
  obtain ⟨hl, hf⟩ := trod_fld Tryz.underlying87 h
  rw [cells_Place] at hl
  obtain ⟨c0, c1, c2, c3, rfl⟩ := list4 hl
  obtain ⟨n0, y0, g0⟩ := hf 0 _ rfl
  replace g0 : DataW.trod enc Tryz.prog W base spare held n0 3 [c0] = some y0 := by have e : DataW.trod enc Tryz.prog W base spare held n0 3 (([c0, c1, c2, c3].drop 0).take (Tryz.prog.cellsOf 3)) = some y0 := g0; rw [cells_int] at e; exact e
  obtain ⟨b0, e0, _, w0⟩ := DataW.trod_int Tryz.underlying3 g0
  obtain rfl : c0 = .int .i64 b0 := by simpa using e0
  obtain ⟨n1, y1, g1⟩ := hf 1 _ rfl
  replace g1 : DataW.trod enc Tryz.prog W base spare held n1 3 [c1] = some y1 := by have e : DataW.trod enc Tryz.prog W base spare held n1 3 (([.int .i64 b0, c1, c2, c3].drop 1).take (Tryz.prog.cellsOf 3)) = some y1 := g1; rw [cells_int] at e; exact e
  obtain ⟨b1, e1, _, w1⟩ := DataW.trod_int Tryz.underlying3 g1
  obtain rfl : c1 = .int .i64 b1 := by simpa using e1
  obtain ⟨n2, y2, g2⟩ := hf 2 _ rfl
  replace g2 : DataW.trod enc Tryz.prog W base spare held n2 48 [c2, c3] = some y2 := by have e : DataW.trod enc Tryz.prog W base spare held n2 48 (([.int .i64 b0, .int .i64 b1, c2, c3].drop 2).take (Tryz.prog.cellsOf 48)) = some y2 := g2; rw [cells_Seat] at e; exact e
  obtain ⟨b2_0, b2_1, e2, w2_0, w2_1⟩ := dec_Seat g2
  simp only [List.cons.injEq, and_true] at e2
  obtain ⟨rfl, rfl⟩ := e2
  exact ⟨_, _, _, _, rfl, ok_int w0, ok_int w1, w2_0, w2_1⟩
theorem cells_Ticket : Tryz.prog.cellsOf 26 = 3 := by kernel_rfl
theorem dec_Ticket {H : Type} {enc : TypeId × Value → H} {W : World} {base : Nat} {spare : Nat → Bool} {held : Bool} {fuel : Nat} {cs : List Value} {x : DataW H × List MemPlace} (h : DataW.trod enc Tryz.prog W base spare held fuel 26 cs = some x) :
    ∃ (a0 : Int) (a1 : Int) (a2 : Int), cs = [.int .i64 a0, .int .i64 a1, .int .i64 a2] ∧ okInt a0 ∧ okInt a1 ∧ okInt a2 := by
  obtain ⟨hl, hf⟩ := trod_fld Tryz.underlying26 h
  rw [cells_Ticket] at hl
  obtain ⟨c0, c1, c2, rfl⟩ := list3 hl
  obtain ⟨n0, y0, g0⟩ := hf 0 _ rfl
  replace g0 : DataW.trod enc Tryz.prog W base spare held n0 3 [c0] = some y0 := by have e : DataW.trod enc Tryz.prog W base spare held n0 3 (([c0, c1, c2].drop 0).take (Tryz.prog.cellsOf 3)) = some y0 := g0; rw [cells_int] at e; exact e
  obtain ⟨b0, e0, _, w0⟩ := DataW.trod_int Tryz.underlying3 g0
  obtain rfl : c0 = .int .i64 b0 := by simpa using e0
  obtain ⟨n1, y1, g1⟩ := hf 1 _ rfl
  replace g1 : DataW.trod enc Tryz.prog W base spare held n1 3 [c1] = some y1 := by have e : DataW.trod enc Tryz.prog W base spare held n1 3 (([.int .i64 b0, c1, c2].drop 1).take (Tryz.prog.cellsOf 3)) = some y1 := g1; rw [cells_int] at e; exact e
  obtain ⟨b1, e1, _, w1⟩ := DataW.trod_int Tryz.underlying3 g1
  obtain rfl : c1 = .int .i64 b1 := by simpa using e1
  obtain ⟨n2, y2, g2⟩ := hf 2 _ rfl
  replace g2 : DataW.trod enc Tryz.prog W base spare held n2 3 [c2] = some y2 := by have e : DataW.trod enc Tryz.prog W base spare held n2 3 (([.int .i64 b0, .int .i64 b1, c2].drop 2).take (Tryz.prog.cellsOf 3)) = some y2 := g2; rw [cells_int] at e; exact e
  obtain ⟨b2, e2, _, w2⟩ := DataW.trod_int Tryz.underlying3 g2
  obtain rfl : c2 = .int .i64 b2 := by simpa using e2
  exact ⟨_, _, _, rfl, ok_int w0, ok_int w1, ok_int w2⟩
theorem cells_Edit : Tryz.prog.cellsOf 50 = 16 := by kernel_rfl
theorem dec_Edit {H : Type} {enc : TypeId × Value → H} {W : World} {base : Nat} {spare : Nat → Bool} {held : Bool} {fuel : Nat} {cs : List Value} {x : DataW H × List MemPlace} (h : DataW.trod enc Tryz.prog W base spare held fuel 50 cs = some x) :
    ∃ (a0 : Int) (a1 : ByteArray) (a2 : ByteArray) (a3 : ByteArray) (a4 : Int) (a5 : Int) (a6 : Int) (a7 : Bool) (a8 : Int) (a9 : Int) (a10 : Int) (a11 : ByteArray) (a12 : Int) (a13 : Int) (a14 : Int) (a15 : Int), cs = [.int .i64 a0, .string a1, .string a2, .string a3, .int .i64 a4, .int .i64 a5, .int .u8 a6, .bool a7, .int .i64 a8, .int .i64 a9, .int .i64 a10, .string a11, .int .i64 a12, .int .i64 a13, .int .i64 a14, .int .u8 a15] ∧ okInt a0 ∧ okStr a1 ∧ okStr a2 ∧ okStr a3 ∧ okInt a4 ∧ okInt a5 ∧ okByte a6 ∧ okInt a8 ∧ okInt a9 ∧ okInt a10 ∧ okStr a11 ∧ okInt a12 ∧ okInt a13 ∧ okInt a14 ∧ okByte a15 := by
  obtain ⟨hl, hf⟩ := trod_fld Tryz.underlying50 h
  rw [cells_Edit] at hl
  obtain ⟨c0, c1, c2, c3, c4, c5, c6, c7, c8, c9, c10, c11, c12, c13, c14, c15, rfl⟩ := list16 hl
  obtain ⟨n0, y0, g0⟩ := hf 0 _ rfl
  replace g0 : DataW.trod enc Tryz.prog W base spare held n0 3 [c0] = some y0 := by have e : DataW.trod enc Tryz.prog W base spare held n0 3 (([c0, c1, c2, c3, c4, c5, c6, c7, c8, c9, c10, c11, c12, c13, c14, c15].drop 0).take (Tryz.prog.cellsOf 3)) = some y0 := g0; rw [cells_int] at e; exact e
  obtain ⟨b0, e0, _, w0⟩ := DataW.trod_int Tryz.underlying3 g0
  obtain rfl : c0 = .int .i64 b0 := by simpa using e0
  obtain ⟨n1, y1, g1⟩ := hf 1 _ rfl
  replace g1 : DataW.trod enc Tryz.prog W base spare held n1 40 [c1, c2] = some y1 := by have e : DataW.trod enc Tryz.prog W base spare held n1 40 (([.int .i64 b0, c1, c2, c3, c4, c5, c6, c7, c8, c9, c10, c11, c12, c13, c14, c15].drop 1).take (Tryz.prog.cellsOf 40)) = some y1 := g1; rw [cells_Name] at e; exact e
  obtain ⟨b1_0, b1_1, e1, w1_0, w1_1⟩ := dec_Name g1
  simp only [List.cons.injEq, and_true] at e1
  obtain ⟨rfl, rfl⟩ := e1
  obtain ⟨n2, y2, g2⟩ := hf 2 _ rfl
  replace g2 : DataW.trod enc Tryz.prog W base spare held n2 46 [c3, c4, c5, c6, c7] = some y2 := by have e : DataW.trod enc Tryz.prog W base spare held n2 46 (([.int .i64 b0, .string b1_0, .string b1_1, c3, c4, c5, c6, c7, c8, c9, c10, c11, c12, c13, c14, c15].drop 3).take (Tryz.prog.cellsOf 46)) = some y2 := g2; rw [cells_Segment] at e; exact e
  obtain ⟨b2_0, b2_1, b2_2, b2_3, b2_4, e2, w2_0, w2_1, w2_2, w2_3⟩ := dec_Segment g2
  simp only [List.cons.injEq, and_true] at e2
  obtain ⟨rfl, rfl, rfl, rfl, rfl⟩ := e2
  obtain ⟨n3, y3, g3⟩ := hf 3 _ rfl
  replace g3 : DataW.trod enc Tryz.prog W base spare held n3 26 [c8, c9, c10] = some y3 := by have e : DataW.trod enc Tryz.prog W base spare held n3 26 (([.int .i64 b0, .string b1_0, .string b1_1, .string b2_0, .int .i64 b2_1, .int .i64 b2_2, .int .u8 b2_3, .bool b2_4, c8, c9, c10, c11, c12, c13, c14, c15].drop 8).take (Tryz.prog.cellsOf 26)) = some y3 := g3; rw [cells_Ticket] at e; exact e
  obtain ⟨b3_0, b3_1, b3_2, e3, w3_0, w3_1, w3_2⟩ := dec_Ticket g3
  simp only [List.cons.injEq, and_true] at e3
  obtain ⟨rfl, rfl, rfl⟩ := e3
  obtain ⟨n4, y4, g4⟩ := hf 4 _ rfl
  replace g4 : DataW.trod enc Tryz.prog W base spare held n4 9 [c11] = some y4 := by have e : DataW.trod enc Tryz.prog W base spare held n4 9 (([.int .i64 b0, .string b1_0, .string b1_1, .string b2_0, .int .i64 b2_1, .int .i64 b2_2, .int .u8 b2_3, .bool b2_4, .int .i64 b3_0, .int .i64 b3_1, .int .i64 b3_2, c11, c12, c13, c14, c15].drop 11).take (Tryz.prog.cellsOf 9)) = some y4 := g4; rw [cells_str] at e; exact e
  obtain ⟨b4, e4, _, w4⟩ := DataW.trod_string Tryz.underlying9 g4
  obtain rfl : c11 = .string b4 := by simpa using e4
  obtain ⟨n5, y5, g5⟩ := hf 5 _ rfl
  replace g5 : DataW.trod enc Tryz.prog W base spare held n5 3 [c12] = some y5 := by have e : DataW.trod enc Tryz.prog W base spare held n5 3 (([.int .i64 b0, .string b1_0, .string b1_1, .string b2_0, .int .i64 b2_1, .int .i64 b2_2, .int .u8 b2_3, .bool b2_4, .int .i64 b3_0, .int .i64 b3_1, .int .i64 b3_2, .string b4, c12, c13, c14, c15].drop 12).take (Tryz.prog.cellsOf 3)) = some y5 := g5; rw [cells_int] at e; exact e
  obtain ⟨b5, e5, _, w5⟩ := DataW.trod_int Tryz.underlying3 g5
  obtain rfl : c12 = .int .i64 b5 := by simpa using e5
  obtain ⟨n6, y6, g6⟩ := hf 6 _ rfl
  replace g6 : DataW.trod enc Tryz.prog W base spare held n6 3 [c13] = some y6 := by have e : DataW.trod enc Tryz.prog W base spare held n6 3 (([.int .i64 b0, .string b1_0, .string b1_1, .string b2_0, .int .i64 b2_1, .int .i64 b2_2, .int .u8 b2_3, .bool b2_4, .int .i64 b3_0, .int .i64 b3_1, .int .i64 b3_2, .string b4, .int .i64 b5, c13, c14, c15].drop 13).take (Tryz.prog.cellsOf 3)) = some y6 := g6; rw [cells_int] at e; exact e
  obtain ⟨b6, e6, _, w6⟩ := DataW.trod_int Tryz.underlying3 g6
  obtain rfl : c13 = .int .i64 b6 := by simpa using e6
  obtain ⟨n7, y7, g7⟩ := hf 7 _ rfl
  replace g7 : DataW.trod enc Tryz.prog W base spare held n7 48 [c14, c15] = some y7 := by have e : DataW.trod enc Tryz.prog W base spare held n7 48 (([.int .i64 b0, .string b1_0, .string b1_1, .string b2_0, .int .i64 b2_1, .int .i64 b2_2, .int .u8 b2_3, .bool b2_4, .int .i64 b3_0, .int .i64 b3_1, .int .i64 b3_2, .string b4, .int .i64 b5, .int .i64 b6, c14, c15].drop 14).take (Tryz.prog.cellsOf 48)) = some y7 := g7; rw [cells_Seat] at e; exact e
  obtain ⟨b7_0, b7_1, e7, w7_0, w7_1⟩ := dec_Seat g7
  simp only [List.cons.injEq, and_true] at e7
  obtain ⟨rfl, rfl⟩ := e7
  exact ⟨_, _, _, _, _, _, _, _, _, _, _, _, _, _, _, _, rfl, ok_int w0, w1_0, w1_1, w2_0, w2_1, w2_2, w2_3, w3_0, w3_1, w3_2, ok_str w4, ok_int w5, ok_int w6, w7_0, w7_1⟩
theorem cells_slNam : Tryz.prog.cellsOf 22 = 1 := by kernel_rfl
theorem cells_slSeg : Tryz.prog.cellsOf 23 = 1 := by kernel_rfl
theorem cells_slStr : Tryz.prog.cellsOf 24 = 1 := by kernel_rfl
theorem cells_slPlc : Tryz.prog.cellsOf 27 = 1 := by kernel_rfl
theorem cells_pnr : Tryz.prog.cellsOf 29 = 12 := by kernel_rfl
section
variable {H : Type} {enc : TypeId × Value → H} {W : World}
theorem dSl_nam {fuel : Nat} {v : Value} {x : DataW H × List MemPlace} (h : DataW.trod enc Tryz.prog W 0 (fun _ => true) true fuel 22 [v] = some x) : ∃ A n c l, v = .slice A n c ∧ Sl W 0 W.heap.size tNam A n l :=
  Sl.of_trod tNam Tryz.underlying22 cells_Name (fun _ _ _ h => by
    obtain ⟨a0, a1, e, w0, w1⟩ := dec_Name h
    exact ⟨⟨a0, a1⟩, e, w0, w1⟩) h
theorem dSl_seg {fuel : Nat} {v : Value} {x : DataW H × List MemPlace} (h : DataW.trod enc Tryz.prog W 0 (fun _ => true) true fuel 23 [v] = some x) : ∃ A n c l, v = .slice A n c ∧ Sl W 0 W.heap.size tSeg A n l :=
  Sl.of_trod tSeg Tryz.underlying23 cells_Segment (fun _ _ _ h => by
    obtain ⟨a0, a1, a2, a3, a4, e, w0, w1, w2, w3⟩ := dec_Segment h
    exact ⟨⟨a0, a1, a2, a3, a4⟩, e, w0, w1, w2, w3⟩) h
theorem dSl_str {fuel : Nat} {v : Value} {x : DataW H × List MemPlace} (h : DataW.trod enc Tryz.prog W 0 (fun _ => true) true fuel 24 [v] = some x) : ∃ A n c l, v = .slice A n c ∧ Sl W 0 W.heap.size tStr A n l :=
  Sl.of_trod tStr Tryz.underlying24 cells_str (fun _ _ _ h => by
    obtain ⟨s, e, _, w⟩ := DataW.trod_string Tryz.underlying9 h
    exact ⟨s, e, ok_str w⟩) h
theorem dSl_plc {fuel : Nat} {v : Value} {x : DataW H × List MemPlace} (h : DataW.trod enc Tryz.prog W 0 (fun _ => true) true fuel 27 [v] = some x) : ∃ A n c l, v = .slice A n c ∧ Sl W 0 W.heap.size tPlc A n l :=
  Sl.of_trod tPlc Tryz.underlying27 cells_Place (fun _ _ _ h => by
    obtain ⟨a0, a1, a2, a3, e, w0, w1, w2, w3⟩ := dec_Place h
    exact ⟨⟨a0, a1, a2, a3⟩, e, w0, w1, w2, w3⟩) h

set_option maxRecDepth 100000 in
/-- An argument that is a PNR. -/
theorem open_pnr {r : Reach} {b0 : Nat} {v : Value} {d : DataW H} {ps : List MemPlace} (hv : Value.okWide Tryz.prog W r b0 29 v) (h : DataW.Trod enc Tryz.prog W 0 (fun _ => true) true 29 v d ps) :
    ∃ p hd, v = .agg #[.string p.loc, .string p.off, .slice hd.an hd.nn hd.cn, .slice hd.ag hd.ng hd.cg, .slice hd.ap hd.np hd.cp, .int .i64 p.tik.kind, .int .i64 p.tik.day, .int .i64 p.tik.min, .string p.rc, .slice hd.ar hd.nr hd.cr, .slice hd.ae hd.ne hd.ce, .bool p.queued] ∧ PAt W 0 W.heap.size p hd := by
  obtain ⟨cs, rfl, hsz⟩ := okWide_struct Tryz.underlying29 hv
  obtain ⟨fuel, h⟩ := h
  obtain ⟨hl, hf⟩ := trod_fld Tryz.underlying29 h
  obtain ⟨l⟩ := cs
  simp only [Value.cells] at hl hf
  rw [cells_pnr] at hl
  obtain ⟨c0, c1, c2, c3, c4, c5, c6, c7, c8, c9, c10, c11, rfl⟩ := list12 hl
  obtain ⟨n0, y0, g0⟩ := hf 0 _ rfl
  replace g0 : DataW.trod enc Tryz.prog W 0 (fun _ => true) true n0 9 [c0] = some y0 := by have e : DataW.trod enc Tryz.prog W 0 (fun _ => true) true n0 9 (([c0, c1, c2, c3, c4, c5, c6, c7, c8, c9, c10, c11].drop 0).take (Tryz.prog.cellsOf 9)) = some y0 := g0; rw [cells_str] at e; exact e
  obtain ⟨n1, y1, g1⟩ := hf 1 _ rfl
  replace g1 : DataW.trod enc Tryz.prog W 0 (fun _ => true) true n1 9 [c1] = some y1 := by have e : DataW.trod enc Tryz.prog W 0 (fun _ => true) true n1 9 (([c0, c1, c2, c3, c4, c5, c6, c7, c8, c9, c10, c11].drop 1).take (Tryz.prog.cellsOf 9)) = some y1 := g1; rw [cells_str] at e; exact e
  obtain ⟨n2, y2, g2⟩ := hf 2 _ rfl
  replace g2 : DataW.trod enc Tryz.prog W 0 (fun _ => true) true n2 22 [c2] = some y2 := by have e : DataW.trod enc Tryz.prog W 0 (fun _ => true) true n2 22 (([c0, c1, c2, c3, c4, c5, c6, c7, c8, c9, c10, c11].drop 2).take (Tryz.prog.cellsOf 22)) = some y2 := g2; rw [cells_slNam] at e; exact e
  obtain ⟨n3, y3, g3⟩ := hf 3 _ rfl
  replace g3 : DataW.trod enc Tryz.prog W 0 (fun _ => true) true n3 23 [c3] = some y3 := by have e : DataW.trod enc Tryz.prog W 0 (fun _ => true) true n3 23 (([c0, c1, c2, c3, c4, c5, c6, c7, c8, c9, c10, c11].drop 3).take (Tryz.prog.cellsOf 23)) = some y3 := g3; rw [cells_slSeg] at e; exact e
  obtain ⟨n4, y4, g4⟩ := hf 4 _ rfl
  replace g4 : DataW.trod enc Tryz.prog W 0 (fun _ => true) true n4 24 [c4] = some y4 := by have e : DataW.trod enc Tryz.prog W 0 (fun _ => true) true n4 24 (([c0, c1, c2, c3, c4, c5, c6, c7, c8, c9, c10, c11].drop 4).take (Tryz.prog.cellsOf 24)) = some y4 := g4; rw [cells_slStr] at e; exact e
  obtain ⟨n5, y5, g5⟩ := hf 5 _ rfl
  replace g5 : DataW.trod enc Tryz.prog W 0 (fun _ => true) true n5 26 [c5, c6, c7] = some y5 := by have e : DataW.trod enc Tryz.prog W 0 (fun _ => true) true n5 26 (([c0, c1, c2, c3, c4, c5, c6, c7, c8, c9, c10, c11].drop 5).take (Tryz.prog.cellsOf 26)) = some y5 := g5; rw [cells_Ticket] at e; exact e
  obtain ⟨n6, y6, g6⟩ := hf 6 _ rfl
  replace g6 : DataW.trod enc Tryz.prog W 0 (fun _ => true) true n6 9 [c8] = some y6 := by have e : DataW.trod enc Tryz.prog W 0 (fun _ => true) true n6 9 (([c0, c1, c2, c3, c4, c5, c6, c7, c8, c9, c10, c11].drop 8).take (Tryz.prog.cellsOf 9)) = some y6 := g6; rw [cells_str] at e; exact e
  obtain ⟨n7, y7, g7⟩ := hf 7 _ rfl
  replace g7 : DataW.trod enc Tryz.prog W 0 (fun _ => true) true n7 24 [c9] = some y7 := by have e : DataW.trod enc Tryz.prog W 0 (fun _ => true) true n7 24 (([c0, c1, c2, c3, c4, c5, c6, c7, c8, c9, c10, c11].drop 9).take (Tryz.prog.cellsOf 24)) = some y7 := g7; rw [cells_slStr] at e; exact e
  obtain ⟨n8, y8, g8⟩ := hf 8 _ rfl
  replace g8 : DataW.trod enc Tryz.prog W 0 (fun _ => true) true n8 27 [c10] = some y8 := by have e : DataW.trod enc Tryz.prog W 0 (fun _ => true) true n8 27 (([c0, c1, c2, c3, c4, c5, c6, c7, c8, c9, c10, c11].drop 10).take (Tryz.prog.cellsOf 27)) = some y8 := g8; rw [cells_slPlc] at e; exact e
  obtain ⟨n9, y9, g9⟩ := hf 9 _ rfl
  replace g9 : DataW.trod enc Tryz.prog W 0 (fun _ => true) true n9 4 [c11] = some y9 := by have e : DataW.trod enc Tryz.prog W 0 (fun _ => true) true n9 4 (([c0, c1, c2, c3, c4, c5, c6, c7, c8, c9, c10, c11].drop 11).take (Tryz.prog.cellsOf 4)) = some y9 := g9; rw [cells_bool] at e; exact e
  obtain ⟨s0, e0, _, w0⟩ := DataW.trod_string Tryz.underlying9 g0
  obtain ⟨s1, e1, _, w1⟩ := DataW.trod_string Tryz.underlying9 g1
  obtain ⟨an, nn, cn, ln, rfl, h2⟩ := dSl_nam g2
  obtain ⟨ag, ng, cg, lg, rfl, h3⟩ := dSl_seg g3
  obtain ⟨ap, np, cp, lp, rfl, h4⟩ := dSl_str g4
  obtain ⟨t0, t1, t2, e5, w50, w51, w52⟩ := dec_Ticket g5
  obtain ⟨s6, e6, _, w6⟩ := DataW.trod_string Tryz.underlying9 g6
  obtain ⟨ar, nr, cr, lr, rfl, h7⟩ := dSl_str g7
  obtain ⟨ae, ne, ce, le, rfl, h8⟩ := dSl_plc g8
  obtain ⟨q, e9, _⟩ := DataW.trod_bool Tryz.underlying4 g9
  simp only [List.cons.injEq, and_true] at e0 e1 e5 e6 e9
  obtain ⟨rfl, rfl, rfl⟩ := e5
  subst e0 e1 e6 e9
  exact ⟨⟨s0, s1, ln, lg, lp, ⟨t0, t1, t2⟩, s6, lr, le, q⟩, ⟨an, nn, cn, ag, ng, cg, ap, np, cp, ar, nr, cr, ae, ne, ce⟩, rfl,
    ⟨ok_str w0, ok_str w1, ok_str w6, ⟨w50, w51, w52⟩, h2, h3, h4, h7, h8⟩⟩
end
section
variable {H : Type} {enc : TypeId × Value → H} {W : World}
set_option maxRecDepth 100000 in
theorem open_edit {r : Reach} {b0 : Nat} {v : Value} {d : DataW H} {ps : List MemPlace} (hv : Value.okWide Tryz.prog W r b0 50 v) (h : DataW.Trod enc Tryz.prog W 0 (fun _ => true) true 50 v d ps) :
    ∃ e : Edit, v = .agg #[.int .i64 e.kind, .string e.nam.last, .string e.nam.first, .string e.seg.car, .int .i64 e.seg.num, .int .i64 e.seg.day, .int .u8 e.seg.cls, .bool e.seg.live, .int .i64 e.tik.kind, .int .i64 e.tik.day, .int .i64 e.tik.min, .string e.text, .int .i64 e.n, .int .i64 e.pax, .int .i64 e.row, .int .u8 e.let_] ∧ e.ok := by
  obtain ⟨cs, rfl, hsz⟩ := okWide_struct Tryz.underlying50 hv
  obtain ⟨fuel, h⟩ := h
  obtain ⟨l⟩ := cs
  simp only [Value.cells] at h
  obtain ⟨a0, a1, a2, a3, a4, a5, a6, a7, a8, a9, a10, a11, a12, a13, a14, a15, rfl, w0, w1, w2, w3, w4, w5, w6, w8, w9, w10, w11, w12, w13, w14, w15⟩ := dec_Edit h
  exact ⟨⟨a0, ⟨a1, a2⟩, ⟨a3, a4, a5, a6, a7⟩, ⟨a8, a9, a10⟩, a11, a12, a13, a14, a15⟩, rfl, w0, ⟨w1, w2⟩, ⟨w3, w4, w5, w6⟩, ⟨w8, w9, w10⟩, w11, w12, w13, w14, w15⟩
theorem nil_cap {t e : TypeId} {P : Program} {spare : Nat → Bool} {held : Bool} {base : Nat} (ht : P.underlying t = some (.slice e)) {fuel : Nat} {n c : Nat} {x : DataW H × List MemPlace} (h : DataW.trod enc P W base spare held fuel t [.slice none n c] = some x) : c = 0 := by
  rcases Go.Deep.open_slice ht h with ⟨h0, _⟩ | ⟨a, len, cap, m, n', D, Pl, hcs, _⟩
  · simp only [List.cons.injEq, and_true] at h0
    injection h0
  · simp at hcs
set_option maxRecDepth 100000 in
theorem caps_pnr {p : Pnr} {hd : Hd} {d : DataW H} {ps : List MemPlace} (h : DataW.Trod enc Tryz.prog W 0 (fun _ => true) true 29 (.agg #[.string p.loc, .string p.off, .slice hd.an hd.nn hd.cn, .slice hd.ag hd.ng hd.cg, .slice hd.ap hd.np hd.cp, .int .i64 p.tik.kind, .int .i64 p.tik.day, .int .i64 p.tik.min, .string p.rc, .slice hd.ar hd.nr hd.cr, .slice hd.ae hd.ne hd.ce, .bool p.queued]) d ps) : Caps hd := by
  obtain ⟨fuel, h⟩ := h
  obtain ⟨hl, hf⟩ := trod_fld Tryz.underlying29 h
  simp only [Value.cells] at hf
  obtain ⟨an, nn, cn, ag, ng, cg, ap, np, cp, ar, nr, cr, ae, ne, ce⟩ := hd
  dsimp only at hf
  refine ⟨?_, ?_, ?_, ?_, ?_⟩
  · rintro rfl
    obtain ⟨n2, y2, g2⟩ := hf 2 _ rfl
    replace g2 : DataW.trod enc Tryz.prog W 0 (fun _ => true) true n2 22 [.slice none nn cn] = some y2 := by have e : DataW.trod enc Tryz.prog W 0 (fun _ => true) true n2 22 ((([.string p.loc, .string p.off, .slice none nn cn, .slice ag ng cg, .slice ap np cp, .int .i64 p.tik.kind, .int .i64 p.tik.day, .int .i64 p.tik.min, .string p.rc, .slice ar nr cr, .slice ae ne ce, .bool p.queued] : List Value).drop 2).take (Tryz.prog.cellsOf 22)) = some y2 := g2; rw [cells_slNam] at e; exact e
    exact nil_cap Tryz.underlying22 g2
  · rintro rfl
    obtain ⟨n2, y2, g2⟩ := hf 3 _ rfl
    replace g2 : DataW.trod enc Tryz.prog W 0 (fun _ => true) true n2 23 [.slice none ng cg] = some y2 := by have e : DataW.trod enc Tryz.prog W 0 (fun _ => true) true n2 23 ((([.string p.loc, .string p.off, .slice an nn cn, .slice none ng cg, .slice ap np cp, .int .i64 p.tik.kind, .int .i64 p.tik.day, .int .i64 p.tik.min, .string p.rc, .slice ar nr cr, .slice ae ne ce, .bool p.queued] : List Value).drop 3).take (Tryz.prog.cellsOf 23)) = some y2 := g2; rw [cells_slSeg] at e; exact e
    exact nil_cap Tryz.underlying23 g2
  · rintro rfl
    obtain ⟨n2, y2, g2⟩ := hf 4 _ rfl
    replace g2 : DataW.trod enc Tryz.prog W 0 (fun _ => true) true n2 24 [.slice none np cp] = some y2 := by have e : DataW.trod enc Tryz.prog W 0 (fun _ => true) true n2 24 ((([.string p.loc, .string p.off, .slice an nn cn, .slice ag ng cg, .slice none np cp, .int .i64 p.tik.kind, .int .i64 p.tik.day, .int .i64 p.tik.min, .string p.rc, .slice ar nr cr, .slice ae ne ce, .bool p.queued] : List Value).drop 4).take (Tryz.prog.cellsOf 24)) = some y2 := g2; rw [cells_slStr] at e; exact e
    exact nil_cap Tryz.underlying24 g2
  · rintro rfl
    obtain ⟨n2, y2, g2⟩ := hf 7 _ rfl
    replace g2 : DataW.trod enc Tryz.prog W 0 (fun _ => true) true n2 24 [.slice none nr cr] = some y2 := by have e : DataW.trod enc Tryz.prog W 0 (fun _ => true) true n2 24 ((([.string p.loc, .string p.off, .slice an nn cn, .slice ag ng cg, .slice ap np cp, .int .i64 p.tik.kind, .int .i64 p.tik.day, .int .i64 p.tik.min, .string p.rc, .slice none nr cr, .slice ae ne ce, .bool p.queued] : List Value).drop 9).take (Tryz.prog.cellsOf 24)) = some y2 := g2; rw [cells_slStr] at e; exact e
    exact nil_cap Tryz.underlying24 g2
  · rintro rfl
    obtain ⟨n2, y2, g2⟩ := hf 8 _ rfl
    replace g2 : DataW.trod enc Tryz.prog W 0 (fun _ => true) true n2 27 [.slice none ne ce] = some y2 := by have e : DataW.trod enc Tryz.prog W 0 (fun _ => true) true n2 27 ((([.string p.loc, .string p.off, .slice an nn cn, .slice ag ng cg, .slice ap np cp, .int .i64 p.tik.kind, .int .i64 p.tik.day, .int .i64 p.tik.min, .string p.rc, .slice ar nr cr, .slice none ne ce, .bool p.queued] : List Value).drop 10).take (Tryz.prog.cellsOf 27)) = some y2 := g2; rw [cells_slPlc] at e; exact e
    exact nil_cap Tryz.underlying27 g2
end
end Go.Proofs.YtpgeoahlhdifoaaGreatDoor
