/- Parameters of CheckFits: from the data of an argument to plain lists. By program. -/
import Derived.Test.YtlkdefmceghmnaaGreatDoorMHb
import Derived.Test.YtlkdefmceghmnaaGreatDoorMChk
import Derived.Test.YtlkdefmceghmnaaGreatDoorCards
import Derived.Test.YtlkdefmceghmnaaGreatDoorTie
import Derived.ProofKit
import Derived.Deep.DeepHandedRow
import Derived.Deep.Slices
namespace Go.Proofs.YtlkdefmceghmnaaGreatDoor
set_option linter.unusedVariables false
open Go Go.RowKit Go.ChangeShapes Go.WideShapes Go.ChangeAt

section
variable {H : Type} {enc : TypeId × Value → H} {P : Program} {W : World} {base : Nat} {spare : Nat → Bool} {held : Bool}
theorem trod_fld {t : TypeId} {fs : Array Field} {fuel : Nat} {cs : List Value} {x : DataW H × List MemPlace} (ht : P.underlying t = some (.struct fs)) (h : DataW.trod enc P W base spare held fuel t cs = some x) :
    cs.length = P.cellsOf t ∧ ∀ (i : Nat) (f : Field), fs[i]? = some f → ∃ n y, DataW.trod enc P W base spare held n f.type ((cs.drop f.offset).take (P.cellsOf f.type)) = some y := by
  obtain ⟨xs, n, _, _, hl, hxl, hf⟩ := DataW.trod_struct ht h
  refine ⟨hl, fun i f hi => ?_⟩
  have hlt : i < xs.length := by rw [hxl]; exact (Array.getElem?_eq_some_iff.1 hi).1
  exact ⟨n, _, (hf i f hi).trans (List.getElem?_eq_getElem hlt)⟩

theorem list_of {α : Type} {p : Nat → α → Prop} : ∀ n, (∀ i, i < n → ∃ x, p i x) → ∃ l : List α, l.length = n ∧ ∀ k x, l[k]? = some x → p k x
  | 0, _ => ⟨[], rfl, fun k x h => by simp at h⟩
  | n + 1, h => by
    obtain ⟨l, hl, hp⟩ := list_of n (fun i hi => h i (by omega))
    obtain ⟨x, hx⟩ := h n (by omega)
    refine ⟨l ++ [x], by simp [hl], fun k y hk => ?_⟩
    by_cases hkn : k < l.length
    · rw [List.getElem?_append_left hkn] at hk
      exact hp k y hk
    · rw [List.getElem?_append_right (by omega)] at hk
      have h0 : k - l.length = 0 := by
        have := (List.getElem?_eq_some_iff.1 hk).1
        simp at this; omega
      rw [h0] at hk
      simp only [List.getElem?_cons_zero, Option.some.injEq] at hk
      have hk' : k = n := by omega
      subst hk'; subst hk
      exact hx

/-- A slice among the data: what it reads as, cell by cell. -/
theorem Sl.of_trod {α : Type} (T : Ty α) {t e : TypeId} (ht : P.underlying t = some (.slice e)) (hC : P.cellsOf e = T.sz)
    (hdec : ∀ n cs' y, DataW.trod enc P W 0 (fun _ => true) held n e cs' = some y → ∃ x, cs' = T.enc x ∧ T.wf x)
    {fuel : Nat} {v : Value} {x : DataW H × List MemPlace} (h : DataW.trod enc P W 0 (fun _ => true) held fuel t [v] = some x) :
    ∃ A n c l, v = .slice A n c ∧ Sl W 0 W.heap.size T A n l := by
  rcases Go.Deep.open_slice ht h with ⟨h0, _⟩ | ⟨a, len, cap, m, n, D, Pl, hcs, _, hl, _, hm, _, hi⟩
  · simp only [List.cons.injEq, and_true] at h0
    exact ⟨none, 0, 0, [], h0, Sl.nil_ _⟩
  · simp only [List.cons.injEq, and_true] at hcs
    simp only [if_true] at hm
    have hel : ∀ i, i < len → ∃ x, T.wf x ∧ ∀ j u, (T.enc x)[j]? = some u → W.cell? (a.add (i * T.sz + j)) = some u := by
      intro i hlt
      obtain ⟨cs', hc, htr⟩ := hi i (by omega)
      obtain ⟨x, rfl, hw⟩ := hdec _ _ _ htr
      obtain ⟨_, hcl, hat⟩ := World.cells?_some hc
      refine ⟨x, hw, fun j u hu => ?_⟩
      have hj : j < (T.enc x).length := (List.getElem?_eq_some_iff.1 hu).1
      rw [← hC, ← Go.Deep.add_add, hat j (by omega), hu]
    obtain ⟨l, hll, hlp⟩ := list_of len hel
    refine ⟨some a, len, cap, l, hcs, hll, fun x hx => ?_, fun hpos => ?_⟩
    · obtain ⟨k, hk⟩ := List.getElem?_of_mem hx
      exact (hlp k x hk).1
    · obtain ⟨x, _, hx⟩ := hel 0 hpos
      have hp0 : 0 < (T.enc x).length := by rw [T.len]; exact T.pos
      have h0 := hx 0 _ (List.getElem?_eq_getElem hp0)
      simp only [Nat.zero_mul, Nat.zero_add] at h0
      have ha0 : a.add 0 = a := by simp [Addr.add]
      rw [ha0] at h0
      obtain ⟨b, o, sp⟩ := a
      have hsp : sp = none := by
        cases sp with
        | none => rfl
        | some s =>
          unfold World.cell? at h0
          split at h0
          · simp at h0
          · cases h0
      subst hsp
      refine ⟨b, o, rfl, Nat.zero_le _, World.block_lt_of_cell? W _ h0, fun k x hk j u hu => ?_⟩
      have h1 := (hlp k x hk).2 j u hu
      have hadd : ∀ n, (⟨b, o, none⟩ : Addr).add n = ⟨b, o + n, none⟩ := fun n => by unfold Addr.add; split <;> simp_all
      rw [hadd] at h1
      rw [show o + k * T.sz + j = o + (k * T.sz + j) by omega]
      exact h1
end

section
variable {H : Type} {enc : TypeId × Value → H} {P : Program} {W W' : World} {sp : Nat → Bool}
theorem trodAll_stays (hl : laidOutB P = true) : ∀ {ts : List TypeId} {vs : List Value} {ds : List (DataW H)} {ps : List MemPlace}, (∀ t, t ∈ ts → P.readableRec t = true ∧ t < P.types.size) →
    DataW.TrodAll enc P W 0 (fun _ => true) true ts vs ds ps → (∀ x ∈ ps, W.sameAt W' x) → (∀ x ∈ ps, sp x.block = true) → DataW.TrodAll enc P W' 0 sp true ts vs ds ps
  | [], _, _, _, _, h, _, _ => by
    obtain ⟨rfl, rfl, rfl⟩ := trodAll_nil h
    exact h
  | t :: ts, _, _, _, hr, h, hs, hsp => by
    obtain ⟨v, vs, d, ds, p, q, rfl, rfl, rfl, h1, h2⟩ := trodAll_cons h
    obtain ⟨r1, r2⟩ := hr t (by simp)
    exact ⟨p, q, WideElems.Trod_stays hl r1 r2 h1 (fun x hx => hs x (by simp [hx])) (fun x hx => hsp x (by simp [hx])), trodAll_stays hl (fun t' ht' => hr t' (by simp [ht'])) h2 (fun x hx => hs x (by simp [hx])) (fun x hx => hsp x (by simp [hx])), rfl⟩

/-- A LAW's LAST STEP: it handed back true, and of what was there when it began nothing has turned. -/
theorem law_post {f : Func} {s : ChangeSpec} {tb : TypeId} {apart fresh handsOn : Bool} {args : Array Value} {ds gs : List (DataW H)} {before : List MemPlace} (hl : laidOutB P = true)
    (hr : ∀ t, t ∈ f.params.toList → P.readableRec t = true ∧ t < P.types.size) (hb : P.underlying tb = some .bool) (hrt : f.resultTypes = #[tb]) (hvs : s.vars = [])
    (hfn : s.fn H (ds ++ gs) = { results := [.lit (.bool true)], args := ds }) (hW : DataW.Whole enc P f.params.toList s.vars apart W args.toList ds gs before) (hbl : Below W.heap.size W W') :
    s.post enc P f apart fresh handsOn false W args (.bool true) W' := by
  have hlt : ∀ x ∈ before, x.block < W.heap.size := fun x hx => by simpa using hW.lt x hx
  have hW' := hW
  obtain ⟨p, q, hA, hV, rfl, hz, hn⟩ := hW
  rw [hvs] at hV
  obtain ⟨rfl, rfl⟩ := trodVars_none hV
  simp only [List.append_nil] at hlt hfn hW'
  refine ⟨ds, [], p, [], p, [], hW', ?_, ?_, ?_, hbl.frame _, fun h => by cases h⟩
  · simp only [List.append_nil]
    rw [hfn, hrt]
    exact trodAll_mk1 (shut_bool hb _)
  · simp only [List.append_nil]
    rw [hfn]
    exact trodAll_stays hl hr hA (fun x hx => hbl.same (hlt x hx)) (fun x hx => by simpa using hlt x hx)
  · simp only [List.append_nil]
    rw [hvs, hfn]
    rfl
end

theorem cells_str : Tryz.prog.cellsOf 9 = 1 := by kernel_rfl
theorem cells_int : Tryz.prog.cellsOf 3 = 1 := by kernel_rfl
theorem cells_byte : Tryz.prog.cellsOf 5 = 1 := by kernel_rfl
theorem cells_bool : Tryz.prog.cellsOf 4 = 1 := by kernel_rfl
theorem ok_str {s : ByteArray} (h : s.size ≤ maxLen) : okStr s := by unfold okStr; unfold maxLen at h; omega
theorem ok_int {n : Int} (h : (Lit.int .i64 n).wf = true) : okInt n := by
  simp only [Lit.wf, Bool.and_eq_true, decide_eq_true_eq] at h
  exact h
theorem ok_byte {n : Int} (h : (Lit.int .u8 n).wf = true) : okByte n := by
  simp only [Lit.wf, Bool.and_eq_true, decide_eq_true_eq] at h
  exact h
theorem list2 {α : Type} {l : List α} (h : l.length = 2) : ∃ c0 c1, l = [c0, c1] := by
  match l, h with
  | [c0, c1], _ => exact ⟨c0, c1, rfl⟩
theorem list3 {α : Type} {l : List α} (h : l.length = 3) : ∃ c0 c1 c2, l = [c0, c1, c2] := by
  match l, h with
  | [c0, c1, c2], _ => exact ⟨c0, c1, c2, rfl⟩
theorem list4 {α : Type} {l : List α} (h : l.length = 4) : ∃ c0 c1 c2 c3, l = [c0, c1, c2, c3] := by
  match l, h with
  | [c0, c1, c2, c3], _ => exact ⟨c0, c1, c2, c3, rfl⟩
theorem list5 {α : Type} {l : List α} (h : l.length = 5) : ∃ c0 c1 c2 c3 c4, l = [c0, c1, c2, c3, c4] := by
  match l, h with
  | [c0, c1, c2, c3, c4], _ => exact ⟨c0, c1, c2, c3, c4, rfl⟩
theorem list12 {α : Type} {l : List α} (h : l.length = 12) : ∃ c0 c1 c2 c3 c4 c5 c6 c7 c8 c9 c10 c11, l = [c0, c1, c2, c3, c4, c5, c6, c7, c8, c9, c10, c11] := by
  match l, h with
  | [c0, c1, c2, c3, c4, c5, c6, c7, c8, c9, c10, c11], _ => exact ⟨c0, c1, c2, c3, c4, c5, c6, c7, c8, c9, c10, c11, rfl⟩
theorem list16 {α : Type} {l : List α} (h : l.length = 16) : ∃ c0 c1 c2 c3 c4 c5 c6 c7 c8 c9 c10 c11 c12 c13 c14 c15, l = [c0, c1, c2, c3, c4, c5, c6, c7, c8, c9, c10, c11, c12, c13, c14, c15] := by
  match l, h with
  | [c0, c1, c2, c3, c4, c5, c6, c7, c8, c9, c10, c11, c12, c13, c14, c15], _ => exact ⟨c0, c1, c2, c3, c4, c5, c6, c7, c8, c9, c10, c11, c12, c13, c14, c15, rfl⟩
theorem cells_Key : Tryz.prog.cellsOf 52 = 2 := by kernel_rfl
theorem dec_Key {H : Type} {enc : TypeId × Value → H} {W : World} {base : Nat} {spare : Nat → Bool} {held : Bool} {fuel : Nat} {cs : List Value} {x : DataW H × List MemPlace} (h : DataW.trod enc Tryz.prog W base spare held fuel 52 cs = some x) :
    ∃ (a0 : ByteArray) (a1 : Int), cs = [.string a0, .int .i64 a1] ∧ okStr a0 ∧ okInt a1 := by
  obtain ⟨hl, hf⟩ := trod_fld Tryz.underlying52 h
  rw [cells_Key] at hl
  obtain ⟨c0, c1, rfl⟩ := list2 hl
  obtain ⟨n0, y0, g0⟩ := hf 0 _ rfl
  replace g0 : DataW.trod enc Tryz.prog W base spare held n0 9 [c0] = some y0 := by have e : DataW.trod enc Tryz.prog W base spare held n0 9 (([c0, c1].drop 0).take (Tryz.prog.cellsOf 9)) = some y0 := g0; rw [cells_str] at e; exact e
  obtain ⟨b0, e0, _, w0⟩ := DataW.trod_string Tryz.underlying9 g0
  obtain rfl : c0 = .string b0 := by simpa using e0
  obtain ⟨n1, y1, g1⟩ := hf 1 _ rfl
  replace g1 : DataW.trod enc Tryz.prog W base spare held n1 3 [c1] = some y1 := by have e : DataW.trod enc Tryz.prog W base spare held n1 3 (([.string b0, c1].drop 1).take (Tryz.prog.cellsOf 3)) = some y1 := g1; rw [cells_int] at e; exact e
  obtain ⟨b1, e1, _, w1⟩ := DataW.trod_int Tryz.underlying3 g1
  obtain rfl : c1 = .int .i64 b1 := by simpa using e1
  exact ⟨_, _, rfl, ok_str w0, ok_int w1⟩
theorem cells_Leg : Tryz.prog.cellsOf 74 = 3 := by kernel_rfl
theorem dec_Leg {H : Type} {enc : TypeId × Value → H} {W : World} {base : Nat} {spare : Nat → Bool} {held : Bool} {fuel : Nat} {cs : List Value} {x : DataW H × List MemPlace} (h : DataW.trod enc Tryz.prog W base spare held fuel 74 cs = some x) :
    ∃ (a0 : ByteArray) (a1 : Int) (a2 : Int), cs = [.string a0, .int .i64 a1, .int .i64 a2] ∧ okStr a0 ∧ okInt a1 ∧ okInt a2 := by
  obtain ⟨hl, hf⟩ := trod_fld Tryz.underlying74 h
  rw [cells_Leg] at hl
  obtain ⟨c0, c1, c2, rfl⟩ := list3 hl
  obtain ⟨n0, y0, g0⟩ := hf 0 _ rfl
  replace g0 : DataW.trod enc Tryz.prog W base spare held n0 52 [c0, c1] = some y0 := by have e : DataW.trod enc Tryz.prog W base spare held n0 52 (([c0, c1, c2].drop 0).take (Tryz.prog.cellsOf 52)) = some y0 := g0; rw [cells_Key] at e; exact e
  obtain ⟨b0_0, b0_1, e0, w0_0, w0_1⟩ := dec_Key g0
  simp only [List.cons.injEq, and_true] at e0
  obtain ⟨rfl, rfl⟩ := e0
  obtain ⟨n1, y1, g1⟩ := hf 1 _ rfl
  replace g1 : DataW.trod enc Tryz.prog W base spare held n1 3 [c2] = some y1 := by have e : DataW.trod enc Tryz.prog W base spare held n1 3 (([.string b0_0, .int .i64 b0_1, c2].drop 2).take (Tryz.prog.cellsOf 3)) = some y1 := g1; rw [cells_int] at e; exact e
  obtain ⟨b1, e1, _, w1⟩ := DataW.trod_int Tryz.underlying3 g1
  obtain rfl : c2 = .int .i64 b1 := by simpa using e1
  exact ⟨_, _, _, rfl, w0_0, w0_1, ok_int w1⟩
theorem cells_Cls : Tryz.prog.cellsOf 99 = 2 := by kernel_rfl
theorem dec_Cls {H : Type} {enc : TypeId × Value → H} {W : World} {base : Nat} {spare : Nat → Bool} {held : Bool} {fuel : Nat} {cs : List Value} {x : DataW H × List MemPlace} (h : DataW.trod enc Tryz.prog W base spare held fuel 99 cs = some x) :
    ∃ (a0 : Int) (a1 : Int), cs = [.int .u8 a0, .int .i64 a1] ∧ okByte a0 ∧ okInt a1 := by
  obtain ⟨hl, hf⟩ := trod_fld Tryz.underlying99 h
  rw [cells_Cls] at hl
  obtain ⟨c0, c1, rfl⟩ := list2 hl
  obtain ⟨n0, y0, g0⟩ := hf 0 _ rfl
  replace g0 : DataW.trod enc Tryz.prog W base spare held n0 5 [c0] = some y0 := by have e : DataW.trod enc Tryz.prog W base spare held n0 5 (([c0, c1].drop 0).take (Tryz.prog.cellsOf 5)) = some y0 := g0; rw [cells_byte] at e; exact e
  obtain ⟨b0, e0, _, w0⟩ := DataW.trod_int Tryz.underlying5 g0
  obtain rfl : c0 = .int .u8 b0 := by simpa using e0
  obtain ⟨n1, y1, g1⟩ := hf 1 _ rfl
  replace g1 : DataW.trod enc Tryz.prog W base spare held n1 3 [c1] = some y1 := by have e : DataW.trod enc Tryz.prog W base spare held n1 3 (([.int .u8 b0, c1].drop 1).take (Tryz.prog.cellsOf 3)) = some y1 := g1; rw [cells_int] at e; exact e
  obtain ⟨b1, e1, _, w1⟩ := DataW.trod_int Tryz.underlying3 g1
  obtain rfl : c1 = .int .i64 b1 := by simpa using e1
  exact ⟨_, _, rfl, ok_byte w0, ok_int w1⟩
theorem list9 {α : Type} {l : List α} (h : l.length = 9) : ∃ c0 c1 c2 c3 c4 c5 c6 c7 c8, l = [c0, c1, c2, c3, c4, c5, c6, c7, c8] := by
  match l, h with
  | [c0, c1, c2, c3, c4, c5, c6, c7, c8], _ => exact ⟨c0, c1, c2, c3, c4, c5, c6, c7, c8, rfl⟩
theorem cells_Sit : Tryz.prog.cellsOf 82 = 2 := by kernel_rfl
theorem dec_Sit {H : Type} {enc : TypeId × Value → H} {W : World} {base : Nat} {spare : Nat → Bool} {held : Bool} {fuel : Nat} {cs : List Value} {x : DataW H × List MemPlace} (h : DataW.trod enc Tryz.prog W base spare held fuel 82 cs = some x) :
    ∃ (a0 : Int) (a1 : Int), cs = [.int .i64 a0, .int .u8 a1] ∧ okInt a0 ∧ okByte a1 := by
  obtain ⟨hl, hf⟩ := trod_fld Tryz.underlying82 h
  rw [cells_Sit] at hl
  obtain ⟨c0, c1, rfl⟩ := list2 hl
  obtain ⟨n0, y0, g0⟩ := hf 0 _ rfl
  replace g0 : DataW.trod enc Tryz.prog W base spare held n0 3 [c0] = some y0 := by have e : DataW.trod enc Tryz.prog W base spare held n0 3 (([c0, c1].drop 0).take (Tryz.prog.cellsOf 3)) = some y0 := g0; rw [cells_int] at e; exact e
  obtain ⟨b0, e0, _, w0⟩ := DataW.trod_int Tryz.underlying3 g0
  obtain rfl : c0 = .int .i64 b0 := by simpa using e0
  obtain ⟨n1, y1, g1⟩ := hf 1 _ rfl
  replace g1 : DataW.trod enc Tryz.prog W base spare held n1 5 [c1] = some y1 := by have e : DataW.trod enc Tryz.prog W base spare held n1 5 (([.int .i64 b0, c1].drop 1).take (Tryz.prog.cellsOf 5)) = some y1 := g1; rw [cells_byte] at e; exact e
  obtain ⟨b1, e1, _, w1⟩ := DataW.trod_int Tryz.underlying5 g1
  obtain rfl : c1 = .int .u8 b1 := by simpa using e1
  exact ⟨_, _, rfl, ok_int w0, ok_byte w1⟩
section
variable {H : Type} {enc : TypeId × Value → H} {W : World}
set_option maxRecDepth 100000 in
theorem open_str {r : Reach} {b0 : Nat} {v : Value} {d : DataW H} {ps : List MemPlace} (hv : Value.okWide Tryz.prog W r b0 9 v) (h : DataW.Trod enc Tryz.prog W 0 (fun _ => true) true 9 v d ps) :
    ∃ s, v = .string s ∧ okStr s := by
  obtain ⟨s, rfl⟩ := okWide_string Tryz.underlying9 hv
  obtain ⟨fuel, h⟩ := h
  replace h : DataW.trod enc Tryz.prog W 0 (fun _ => true) true fuel 9 [.string s] = some _ := h
  obtain ⟨s0, e0, _, w0⟩ := DataW.trod_string Tryz.underlying9 h
  simp only [List.cons.injEq, and_true] at e0
  injection e0 with e0
  subst e0
  exact ⟨_, rfl, ok_str w0⟩
theorem nil_cap {t e : TypeId} {P : Program} {spare : Nat → Bool} {held : Bool} {base : Nat} (ht : P.underlying t = some (.slice e)) {fuel : Nat} {n c : Nat} {x : DataW H × List MemPlace} (h : DataW.trod enc P W base spare held fuel t [.slice none n c] = some x) : c = 0 := by
  rcases Go.Deep.open_slice ht h with ⟨h0, _⟩ | ⟨a, len, cap, m, n', D, Pl, hcs, _⟩
  · simp only [List.cons.injEq, and_true] at h0
    injection h0
  · simp at hcs
theorem cells_slCls : Tryz.prog.cellsOf 53 = 1 := by kernel_rfl
theorem cells_Flt : Tryz.prog.cellsOf 55 = 9 := by kernel_rfl
theorem cap_of {t e : TypeId} {P : Program} {spare : Nat → Bool} {held : Bool} {base : Nat} (ht : P.underlying t = some (.slice e)) {fuel : Nat} {A : Option Addr} {n c : Nat} {x : DataW H × List MemPlace} (h : DataW.trod enc P W base spare held fuel t [.slice A n c] = some x) : n ≤ c ∧ c ≤ maxLen := by
  rcases Go.Deep.open_slice ht h with ⟨h0, _⟩ | ⟨a, len, cap, m, n', D, Pl, hcs, _, hl, hm, _⟩
  · simp only [List.cons.injEq, and_true] at h0
    injection h0 with _ h1 h2
    subst h1 h2
    exact ⟨Nat.le_refl _, Nat.zero_le _⟩
  · simp only [List.cons.injEq, and_true] at hcs
    injection hcs with _ h1 h2
    subst h1 h2
    exact ⟨hl, hm⟩
set_option maxRecDepth 100000 in
theorem dSl_cls {fuel : Nat} {v : Value} {x : DataW H × List MemPlace} (h : DataW.trod enc Tryz.prog W 0 (fun _ => true) true fuel 53 [v] = some x) : ∃ A n c l, v = .slice A n c ∧ Sl W 0 W.heap.size tCls A n l ∧ (A = none → c = 0) ∧ n ≤ c := by
  obtain ⟨A, n, c, l, rfl, hs⟩ := Sl.of_trod tCls Tryz.underlying53 cells_Cls (fun _ _ _ h => by
    obtain ⟨a0, a1, e, w0, w1⟩ := dec_Cls h
    exact ⟨⟨a0, a1⟩, e, w0, w1⟩) h
  exact ⟨A, n, c, l, rfl, hs, fun hA => by subst hA; exact nil_cap Tryz.underlying53 h, (cap_of Tryz.underlying53 h).1⟩
set_option maxRecDepth 100000 in
theorem dec_Flt {fuel : Nat} {cs : List Value} {x : DataW H × List MemPlace} (h : DataW.trod enc Tryz.prog W 0 (fun _ => true) true fuel 55 cs = some x) :
    ∃ r : FlR, cs = tFl.enc r ∧ r.ok ∧ ClAt W 0 W.heap.size r := by
  obtain ⟨hl, hf⟩ := trod_fld Tryz.underlying55 h
  rw [cells_Flt] at hl
  obtain ⟨c0, c1, c2, c3, c4, c5, c6, c7, c8, rfl⟩ := list9 hl
  obtain ⟨n0, y0, g0⟩ := hf 0 _ rfl
  replace g0 : DataW.trod enc Tryz.prog W 0 (fun _ => true) true n0 52 [c0, c1] = some y0 := by have e : DataW.trod enc Tryz.prog W 0 (fun _ => true) true n0 52 (([c0, c1, c2, c3, c4, c5, c6, c7, c8].drop 0).take (Tryz.prog.cellsOf 52)) = some y0 := g0; rw [cells_Key] at e; exact e
  obtain ⟨n1, y1, g1⟩ := hf 1 _ rfl
  replace g1 : DataW.trod enc Tryz.prog W 0 (fun _ => true) true n1 9 [c2] = some y1 := by have e : DataW.trod enc Tryz.prog W 0 (fun _ => true) true n1 9 (([c0, c1, c2, c3, c4, c5, c6, c7, c8].drop 2).take (Tryz.prog.cellsOf 9)) = some y1 := g1; rw [cells_str] at e; exact e
  obtain ⟨n2, y2, g2⟩ := hf 2 _ rfl
  replace g2 : DataW.trod enc Tryz.prog W 0 (fun _ => true) true n2 9 [c3] = some y2 := by have e : DataW.trod enc Tryz.prog W 0 (fun _ => true) true n2 9 (([c0, c1, c2, c3, c4, c5, c6, c7, c8].drop 3).take (Tryz.prog.cellsOf 9)) = some y2 := g2; rw [cells_str] at e; exact e
  obtain ⟨n3, y3, g3⟩ := hf 3 _ rfl
  replace g3 : DataW.trod enc Tryz.prog W 0 (fun _ => true) true n3 5 [c4] = some y3 := by have e : DataW.trod enc Tryz.prog W 0 (fun _ => true) true n3 5 (([c0, c1, c2, c3, c4, c5, c6, c7, c8].drop 4).take (Tryz.prog.cellsOf 5)) = some y3 := g3; rw [cells_byte] at e; exact e
  obtain ⟨n4, y4, g4⟩ := hf 4 _ rfl
  replace g4 : DataW.trod enc Tryz.prog W 0 (fun _ => true) true n4 3 [c5] = some y4 := by have e : DataW.trod enc Tryz.prog W 0 (fun _ => true) true n4 3 (([c0, c1, c2, c3, c4, c5, c6, c7, c8].drop 5).take (Tryz.prog.cellsOf 3)) = some y4 := g4; rw [cells_int] at e; exact e
  obtain ⟨n5, y5, g5⟩ := hf 5 _ rfl
  replace g5 : DataW.trod enc Tryz.prog W 0 (fun _ => true) true n5 3 [c6] = some y5 := by have e : DataW.trod enc Tryz.prog W 0 (fun _ => true) true n5 3 (([c0, c1, c2, c3, c4, c5, c6, c7, c8].drop 6).take (Tryz.prog.cellsOf 3)) = some y5 := g5; rw [cells_int] at e; exact e
  obtain ⟨n6, y6, g6⟩ := hf 6 _ rfl
  replace g6 : DataW.trod enc Tryz.prog W 0 (fun _ => true) true n6 53 [c7] = some y6 := by have e : DataW.trod enc Tryz.prog W 0 (fun _ => true) true n6 53 (([c0, c1, c2, c3, c4, c5, c6, c7, c8].drop 7).take (Tryz.prog.cellsOf 53)) = some y6 := g6; rw [cells_slCls] at e; exact e
  obtain ⟨n7, y7, g7⟩ := hf 7 _ rfl
  replace g7 : DataW.trod enc Tryz.prog W 0 (fun _ => true) true n7 3 [c8] = some y7 := by have e : DataW.trod enc Tryz.prog W 0 (fun _ => true) true n7 3 (([c0, c1, c2, c3, c4, c5, c6, c7, c8].drop 8).take (Tryz.prog.cellsOf 3)) = some y7 := g7; rw [cells_int] at e; exact e
  obtain ⟨b0, b1, e0, w0, w1⟩ := dec_Key g0
  obtain ⟨b2, e2, _, w2⟩ := DataW.trod_string Tryz.underlying9 g1
  obtain ⟨b3, e3, _, w3⟩ := DataW.trod_string Tryz.underlying9 g2
  obtain ⟨b4, e4, _, w4⟩ := DataW.trod_int Tryz.underlying5 g3
  obtain ⟨b5, e5, _, w5⟩ := DataW.trod_int Tryz.underlying3 g4
  obtain ⟨b6, e6, _, w6⟩ := DataW.trod_int Tryz.underlying3 g5
  obtain ⟨A, n, c, l, rfl, hs, hA, hn⟩ := dSl_cls g6
  obtain ⟨b8, e8, _, w8⟩ := DataW.trod_int Tryz.underlying3 g7
  simp only [List.cons.injEq, and_true] at e0 e2 e3 e4 e5 e6 e8
  obtain ⟨rfl, rfl⟩ := e0
  subst e2 e3 e4 e5 e6 e8
  exact ⟨⟨⟨b0, b1, b2, b3, b4, b5, b6, l, b8⟩, A, n, c⟩, rfl, ⟨⟨w0, w1, ok_str w2, ok_str w3, ok_byte w4, ok_int w5, ok_int w6, ok_int w8⟩, hs.len, hA, hn⟩, hs⟩
set_option maxRecDepth 100000 in
theorem open_flights {r : Reach} {b0 : Nat} {v : Value} {d : DataW H} {ps : List MemPlace} (hv : Value.okWide Tryz.prog W r b0 22 v) (h : DataW.Trod enc Tryz.prog W 0 (fun _ => true) true 22 v d ps) :
    ∃ A n c rl, v = .slice A n c ∧ FlS W 0 W.heap.size A n rl ∧ n ≤ 9223372036854775807 ∧ (A = none → c = 0) ∧ n ≤ c := by
  obtain ⟨a, len, cap, rfl⟩ := okWide_slice Tryz.underlying22 hv
  obtain ⟨fuel, h⟩ := h
  replace h : DataW.trod enc Tryz.prog W 0 (fun _ => true) true fuel 22 [.slice a len cap] = some _ := h
  obtain ⟨A, n, c, l, hA, hs⟩ := Sl.of_trod { tFl with wf := fun r => r.ok ∧ ClAt W 0 W.heap.size r } Tryz.underlying22 cells_Flt (fun _ _ _ hy => by
    obtain ⟨r, e, h1, h2⟩ := dec_Flt hy
    exact ⟨r, e, h1, h2⟩) h
  rw [hA] at h
  obtain ⟨h1, h2⟩ := cap_of Tryz.underlying22 h
  refine ⟨A, n, c, l, hA, ⟨⟨hs.len, fun x hx => (hs.wf x hx).1, hs.cells⟩, fun r hr => (hs.wf r hr).2⟩, by unfold maxLen at h2; omega, fun h0 => ?_, h1⟩
  subst h0
  exact nil_cap Tryz.underlying22 h
set_option maxRecDepth 100000 in
theorem open_flight {r : Reach} {b0 : Nat} {v : Value} {d : DataW H} {ps : List MemPlace} (hv : Value.okWide Tryz.prog W r b0 55 v) (h : DataW.Trod enc Tryz.prog W 0 (fun _ => true) true 55 v d ps) :
    ∃ r : FlR, v = .agg #[.string r.f.car, .int .i64 r.f.num, .string r.f.frm, .string r.f.to_, .int .u8 r.f.days, .int .i64 r.f.dep, .int .i64 r.f.arr, .slice r.A r.n r.c, .int .i64 r.f.pln] ∧ r.ok ∧ ClAt W 0 W.heap.size r := by
  obtain ⟨cs, rfl, hsz⟩ := okWide_struct Tryz.underlying55 hv
  obtain ⟨fuel, h⟩ := h
  obtain ⟨l⟩ := cs
  simp only [Value.cells] at h
  obtain ⟨r, rfl, h1, h2⟩ := dec_Flt h
  exact ⟨r, rfl, h1, h2⟩
set_option maxRecDepth 100000 in
theorem open_leg {r : Reach} {b0 : Nat} {v : Value} {d : DataW H} {ps : List MemPlace} (hv : Value.okWide Tryz.prog W r b0 74 v) (h : DataW.Trod enc Tryz.prog W 0 (fun _ => true) true 74 v d ps) :
    ∃ g : Leg, v = .agg #[.string g.key.car, .int .i64 g.key.num, .int .i64 g.day] ∧ g.ok := by
  obtain ⟨cs, rfl, hsz⟩ := okWide_struct Tryz.underlying74 hv
  obtain ⟨fuel, h⟩ := h
  obtain ⟨l⟩ := cs
  simp only [Value.cells] at h
  obtain ⟨a0, a1, a2, rfl, w0, w1, w2⟩ := dec_Leg h
  exact ⟨⟨⟨a0, a1⟩, a2⟩, rfl, ⟨w0, w1⟩, w2⟩
set_option maxRecDepth 100000 in
theorem open_key {r : Reach} {b0 : Nat} {v : Value} {d : DataW H} {ps : List MemPlace} (hv : Value.okWide Tryz.prog W r b0 52 v) (h : DataW.Trod enc Tryz.prog W 0 (fun _ => true) true 52 v d ps) :
    ∃ k : Key, v = .agg #[.string k.car, .int .i64 k.num] ∧ k.ok := by
  obtain ⟨cs, rfl, hsz⟩ := okWide_struct Tryz.underlying52 hv
  obtain ⟨fuel, h⟩ := h
  obtain ⟨l⟩ := cs
  simp only [Value.cells] at h
  obtain ⟨a0, a1, rfl, w0, w1⟩ := dec_Key h
  exact ⟨⟨a0, a1⟩, rfl, w0, w1⟩
set_option maxRecDepth 100000 in
theorem open_byte {r : Reach} {b0 : Nat} {v : Value} {d : DataW H} {ps : List MemPlace} (hv : Value.okWide Tryz.prog W r b0 5 v) (h : DataW.Trod enc Tryz.prog W 0 (fun _ => true) true 5 v d ps) :
    ∃ x : Int, v = .int .u8 x ∧ okByte x := by
  obtain ⟨x, rfl⟩ := okWide_int Tryz.underlying5 hv
  obtain ⟨fuel, h⟩ := h
  replace h : DataW.trod enc Tryz.prog W 0 (fun _ => true) true fuel 5 [.int .u8 x] = some _ := h
  obtain ⟨b, e, _, w⟩ := DataW.trod_int Tryz.underlying5 h
  simp only [List.cons.injEq, and_true] at e
  injection e with _ e
  subst e
  exact ⟨_, rfl, ok_byte w⟩
theorem cells_Pl : Tryz.prog.cellsOf 59 = 5 := by kernel_rfl
theorem cells_slInt : Tryz.prog.cellsOf 56 = 1 := by kernel_rfl
theorem cells_slSit : Tryz.prog.cellsOf 57 = 1 := by kernel_rfl
theorem cells_slFlt : Tryz.prog.cellsOf 22 = 1 := by kernel_rfl
theorem cells_slPl : Tryz.prog.cellsOf 23 = 1 := by kernel_rfl
theorem cells_Wld : Tryz.prog.cellsOf 25 = 2 := by kernel_rfl
set_option maxRecDepth 100000 in
theorem dSl_int {fuel : Nat} {v : Value} {x : DataW H × List MemPlace} (h : DataW.trod enc Tryz.prog W 0 (fun _ => true) true fuel 56 [v] = some x) : ∃ A n c l, v = .slice A n c ∧ Sl W 0 W.heap.size tInt A n l ∧ n ≤ 9223372036854775807 := by
  obtain ⟨A, n, c, l, rfl, hs⟩ := Sl.of_trod tInt Tryz.underlying56 cells_int (fun _ _ _ h => by
    obtain ⟨b, e, _, w⟩ := DataW.trod_int Tryz.underlying3 h
    exact ⟨b, e, ok_int w⟩) h
  obtain ⟨h1, h2⟩ := cap_of Tryz.underlying56 h
  exact ⟨A, n, c, l, rfl, hs, by unfold maxLen at h2; omega⟩
set_option maxRecDepth 100000 in
theorem dSl_sit {fuel : Nat} {v : Value} {x : DataW H × List MemPlace} (h : DataW.trod enc Tryz.prog W 0 (fun _ => true) true fuel 57 [v] = some x) : ∃ A n c l, v = .slice A n c ∧ Sl W 0 W.heap.size tSit A n l ∧ n ≤ 9223372036854775807 := by
  obtain ⟨A, n, c, l, rfl, hs⟩ := Sl.of_trod tSit Tryz.underlying57 cells_Sit (fun _ _ _ h => by
    obtain ⟨a0, a1, e, w0, w1⟩ := dec_Sit h
    exact ⟨⟨a0, a1⟩, e, w0, w1⟩) h
  obtain ⟨h1, h2⟩ := cap_of Tryz.underlying57 h
  exact ⟨A, n, c, l, rfl, hs, by unfold maxLen at h2; omega⟩
set_option maxRecDepth 100000 in
theorem dec_Pl {fuel : Nat} {cs : List Value} {x : DataW H × List MemPlace} (h : DataW.trod enc Tryz.prog W 0 (fun _ => true) true fuel 59 cs = some x) :
    ∃ r : PlR, cs = tPl.enc r ∧ r.wf ∧ PlAt W 0 W.heap.size r := by
  obtain ⟨hl, hf⟩ := trod_fld Tryz.underlying59 h
  rw [cells_Pl] at hl
  obtain ⟨c0, c1, c2, c3, c4, rfl⟩ := list5 hl
  obtain ⟨n0, y0, g0⟩ := hf 0 _ rfl
  replace g0 : DataW.trod enc Tryz.prog W 0 (fun _ => true) true n0 3 [c0] = some y0 := by have e : DataW.trod enc Tryz.prog W 0 (fun _ => true) true n0 3 (([c0, c1, c2, c3, c4].drop 0).take (Tryz.prog.cellsOf 3)) = some y0 := g0; rw [cells_int] at e; exact e
  obtain ⟨n1, y1, g1⟩ := hf 1 _ rfl
  replace g1 : DataW.trod enc Tryz.prog W 0 (fun _ => true) true n1 3 [c1] = some y1 := by have e : DataW.trod enc Tryz.prog W 0 (fun _ => true) true n1 3 (([c0, c1, c2, c3, c4].drop 1).take (Tryz.prog.cellsOf 3)) = some y1 := g1; rw [cells_int] at e; exact e
  obtain ⟨n2, y2, g2⟩ := hf 2 _ rfl
  replace g2 : DataW.trod enc Tryz.prog W 0 (fun _ => true) true n2 9 [c2] = some y2 := by have e : DataW.trod enc Tryz.prog W 0 (fun _ => true) true n2 9 (([c0, c1, c2, c3, c4].drop 2).take (Tryz.prog.cellsOf 9)) = some y2 := g2; rw [cells_str] at e; exact e
  obtain ⟨n3, y3, g3⟩ := hf 3 _ rfl
  replace g3 : DataW.trod enc Tryz.prog W 0 (fun _ => true) true n3 56 [c3] = some y3 := by have e : DataW.trod enc Tryz.prog W 0 (fun _ => true) true n3 56 (([c0, c1, c2, c3, c4].drop 3).take (Tryz.prog.cellsOf 56)) = some y3 := g3; rw [cells_slInt] at e; exact e
  obtain ⟨n4, y4, g4⟩ := hf 4 _ rfl
  replace g4 : DataW.trod enc Tryz.prog W 0 (fun _ => true) true n4 57 [c4] = some y4 := by have e : DataW.trod enc Tryz.prog W 0 (fun _ => true) true n4 57 (([c0, c1, c2, c3, c4].drop 4).take (Tryz.prog.cellsOf 57)) = some y4 := g4; rw [cells_slSit] at e; exact e
  obtain ⟨b0, e0, _, w0⟩ := DataW.trod_int Tryz.underlying3 g0
  obtain ⟨b1, e1, _, w1⟩ := DataW.trod_int Tryz.underlying3 g1
  obtain ⟨b2, e2, _, w2⟩ := DataW.trod_string Tryz.underlying9 g2
  obtain ⟨A, n, c, l, rfl, hs, hn⟩ := dSl_int g3
  obtain ⟨A2, n2', c2', l2, rfl, hs2, hn2⟩ := dSl_sit g4
  simp only [List.cons.injEq, and_true] at e0 e1 e2
  subst e0 e1 e2
  exact ⟨⟨⟨b0, b1, b2, l, l2⟩, A, n, c, A2, n2', c2'⟩, rfl, ⟨⟨ok_int w0, ok_int w1, ok_str w2⟩, hn, hn2⟩, hs, hs2⟩
set_option maxRecDepth 100000 in
theorem open_world {r : Reach} {b0 : Nat} {v : Value} {d : DataW H} {ps : List MemPlace} (hv : Value.okWide Tryz.prog W r b0 25 v) (h : DataW.Trod enc Tryz.prog W 0 (fun _ => true) true 25 v d ps) :
    ∃ A n c rl A2 n2 c2 pl, v = .agg #[.slice A n c, .slice A2 n2 c2] ∧ FlS W 0 W.heap.size A n rl ∧ PlS W 0 W.heap.size A2 n2 pl ∧ n ≤ 9223372036854775807 ∧ (A = none → c = 0) := by
  obtain ⟨cs, rfl, hsz⟩ := okWide_struct Tryz.underlying25 hv
  obtain ⟨fuel, h⟩ := h
  obtain ⟨l⟩ := cs
  simp only [Value.cells] at h
  obtain ⟨hl, hf⟩ := trod_fld Tryz.underlying25 h
  rw [cells_Wld] at hl
  obtain ⟨c0, c1, rfl⟩ := list2 hl
  obtain ⟨n0, y0, g0⟩ := hf 0 _ rfl
  replace g0 : DataW.trod enc Tryz.prog W 0 (fun _ => true) true n0 22 [c0] = some y0 := by have e : DataW.trod enc Tryz.prog W 0 (fun _ => true) true n0 22 (([c0, c1].drop 0).take (Tryz.prog.cellsOf 22)) = some y0 := g0; rw [cells_slFlt] at e; exact e
  obtain ⟨n1, y1, g1⟩ := hf 1 _ rfl
  replace g1 : DataW.trod enc Tryz.prog W 0 (fun _ => true) true n1 23 [c1] = some y1 := by have e : DataW.trod enc Tryz.prog W 0 (fun _ => true) true n1 23 (([c0, c1].drop 1).take (Tryz.prog.cellsOf 23)) = some y1 := g1; rw [cells_slPl] at e; exact e
  obtain ⟨A, n, c, l, rfl, hs⟩ := Sl.of_trod { tFl with wf := fun r => r.ok ∧ ClAt W 0 W.heap.size r } Tryz.underlying22 cells_Flt (fun _ _ _ hy => by
    obtain ⟨r, e, h1, h2⟩ := dec_Flt hy
    exact ⟨r, e, h1, h2⟩) g0
  obtain ⟨A2, n2, c2, l2, rfl, hs2⟩ := Sl.of_trod { tPl with wf := fun r => r.wf ∧ PlAt W 0 W.heap.size r } Tryz.underlying23 cells_Pl (fun _ _ _ hy => by
    obtain ⟨r, e, h1, h2⟩ := dec_Pl hy
    exact ⟨r, e, h1, h2⟩) g1
  obtain ⟨h1, h2⟩ := cap_of Tryz.underlying22 g0
  exact ⟨A, n, c, l, A2, n2, c2, l2, rfl, ⟨⟨hs.len, fun x hx => (hs.wf x hx).1, hs.cells⟩, fun r hr => (hs.wf r hr).2⟩, ⟨⟨hs2.len, fun x hx => (hs2.wf x hx).1, hs2.cells⟩, fun r hr => (hs2.wf r hr).2⟩, by unfold maxLen at h2; omega, fun h0 => by subst h0; exact nil_cap Tryz.underlying22 g0⟩
theorem cells_Segment : Tryz.prog.cellsOf 76 = 5 := by kernel_rfl
theorem dec_Segment {H : Type} {enc : TypeId × Value → H} {W : World} {base : Nat} {spare : Nat → Bool} {held : Bool} {fuel : Nat} {cs : List Value} {x : DataW H × List MemPlace} (h : DataW.trod enc Tryz.prog W base spare held fuel 76 cs = some x) :
    ∃ (a0 : ByteArray) (a1 : Int) (a2 : Int) (a3 : Int) (a4 : Bool), cs = [.string a0, .int .i64 a1, .int .i64 a2, .int .u8 a3, .bool a4] ∧ okStr a0 ∧ okInt a1 ∧ okInt a2 ∧ okByte a3 := by
  obtain ⟨hl, hf⟩ := trod_fld Tryz.underlying76 h
  rw [cells_Segment] at hl
  obtain ⟨c0, c1, c2, c3, c4, rfl⟩ := list5 hl
  obtain ⟨n0, y0, g0⟩ := hf 0 _ rfl
  replace g0 : DataW.trod enc Tryz.prog W base spare held n0 74 [c0, c1, c2] = some y0 := by have e : DataW.trod enc Tryz.prog W base spare held n0 74 (([c0, c1, c2, c3, c4].drop 0).take (Tryz.prog.cellsOf 74)) = some y0 := g0; rw [cells_Leg] at e; exact e
  obtain ⟨b0_0, b0_1, b0_2, e0, w0_0, w0_1, w0_2⟩ := dec_Leg g0
  simp only [List.cons.injEq, and_true] at e0
  obtain ⟨rfl, rfl, rfl⟩ := e0
  obtain ⟨n1, y1, g1⟩ := hf 1 _ rfl
  replace g1 : DataW.trod enc Tryz.prog W base spare held n1 5 [c3] = some y1 := by have e : DataW.trod enc Tryz.prog W base spare held n1 5 (([.string b0_0, .int .i64 b0_1, .int .i64 b0_2, c3, c4].drop 3).take (Tryz.prog.cellsOf 5)) = some y1 := g1; rw [cells_byte] at e; exact e
  obtain ⟨b1, e1, _, w1⟩ := DataW.trod_int Tryz.underlying5 g1
  obtain rfl : c3 = .int .u8 b1 := by simpa using e1
  obtain ⟨n2, y2, g2⟩ := hf 2 _ rfl
  replace g2 : DataW.trod enc Tryz.prog W base spare held n2 4 [c4] = some y2 := by have e : DataW.trod enc Tryz.prog W base spare held n2 4 (([.string b0_0, .int .i64 b0_1, .int .i64 b0_2, .int .u8 b1, c4].drop 4).take (Tryz.prog.cellsOf 4)) = some y2 := g2; rw [cells_bool] at e; exact e
  obtain ⟨b2, e2, _⟩ := DataW.trod_bool Tryz.underlying4 g2
  obtain rfl : c4 = .bool b2 := by simpa using e2
  exact ⟨_, _, _, _, _, rfl, w0_0, w0_1, w0_2, ok_byte w1⟩
theorem cells_Name : Tryz.prog.cellsOf 93 = 2 := by kernel_rfl
theorem dec_Name {H : Type} {enc : TypeId × Value → H} {W : World} {base : Nat} {spare : Nat → Bool} {held : Bool} {fuel : Nat} {cs : List Value} {x : DataW H × List MemPlace} (h : DataW.trod enc Tryz.prog W base spare held fuel 93 cs = some x) :
    ∃ (a0 : ByteArray) (a1 : ByteArray), cs = [.string a0, .string a1] ∧ okStr a0 ∧ okStr a1 := by
  obtain ⟨hl, hf⟩ := trod_fld Tryz.underlying93 h
  rw [cells_Name] at hl
  obtain ⟨c0, c1, rfl⟩ := list2 hl
  obtain ⟨n0, y0, g0⟩ := hf 0 _ rfl
  replace g0 : DataW.trod enc Tryz.prog W base spare held n0 9 [c0] = some y0 := by have e : DataW.trod enc Tryz.prog W base spare held n0 9 (([c0, c1].drop 0).take (Tryz.prog.cellsOf 9)) = some y0 := g0; rw [cells_str] at e; exact e
  obtain ⟨b0, e0, _, w0⟩ := DataW.trod_string Tryz.underlying9 g0
  obtain rfl : c0 = .string b0 := by simpa using e0
  obtain ⟨n1, y1, g1⟩ := hf 1 _ rfl
  replace g1 : DataW.trod enc Tryz.prog W base spare held n1 9 [c1] = some y1 := by have e : DataW.trod enc Tryz.prog W base spare held n1 9 (([.string b0, c1].drop 1).take (Tryz.prog.cellsOf 9)) = some y1 := g1; rw [cells_str] at e; exact e
  obtain ⟨b1, e1, _, w1⟩ := DataW.trod_string Tryz.underlying9 g1
  obtain rfl : c1 = .string b1 := by simpa using e1
  exact ⟨_, _, rfl, ok_str w0, ok_str w1⟩
theorem cells_Seat : Tryz.prog.cellsOf 82 = 2 := by kernel_rfl
theorem dec_Seat {H : Type} {enc : TypeId × Value → H} {W : World} {base : Nat} {spare : Nat → Bool} {held : Bool} {fuel : Nat} {cs : List Value} {x : DataW H × List MemPlace} (h : DataW.trod enc Tryz.prog W base spare held fuel 82 cs = some x) :
    ∃ (a0 : Int) (a1 : Int), cs = [.int .i64 a0, .int .u8 a1] ∧ okInt a0 ∧ okByte a1 := by
  obtain ⟨hl, hf⟩ := trod_fld Tryz.underlying82 h
  rw [cells_Seat] at hl
  obtain ⟨c0, c1, rfl⟩ := list2 hl
  obtain ⟨n0, y0, g0⟩ := hf 0 _ rfl
  replace g0 : DataW.trod enc Tryz.prog W base spare held n0 3 [c0] = some y0 := by have e : DataW.trod enc Tryz.prog W base spare held n0 3 (([c0, c1].drop 0).take (Tryz.prog.cellsOf 3)) = some y0 := g0; rw [cells_int] at e; exact e
  obtain ⟨b0, e0, _, w0⟩ := DataW.trod_int Tryz.underlying3 g0
  obtain rfl : c0 = .int .i64 b0 := by simpa using e0
  obtain ⟨n1, y1, g1⟩ := hf 1 _ rfl
  replace g1 : DataW.trod enc Tryz.prog W base spare held n1 5 [c1] = some y1 := by have e : DataW.trod enc Tryz.prog W base spare held n1 5 (([.int .i64 b0, c1].drop 1).take (Tryz.prog.cellsOf 5)) = some y1 := g1; rw [cells_byte] at e; exact e
  obtain ⟨b1, e1, _, w1⟩ := DataW.trod_int Tryz.underlying5 g1
  obtain rfl : c1 = .int .u8 b1 := by simpa using e1
  exact ⟨_, _, rfl, ok_int w0, ok_byte w1⟩
theorem cells_Place : Tryz.prog.cellsOf 84 = 4 := by kernel_rfl
theorem dec_Place {H : Type} {enc : TypeId × Value → H} {W : World} {base : Nat} {spare : Nat → Bool} {held : Bool} {fuel : Nat} {cs : List Value} {x : DataW H × List MemPlace} (h : DataW.trod enc Tryz.prog W base spare held fuel 84 cs = some x) :
    ∃ (a0 : Int) (a1 : Int) (a2 : Int) (a3 : Int), cs = [.int .i64 a0, .int .i64 a1, .int .i64 a2, .int .u8 a3] ∧ okInt a0 ∧ okInt a1 ∧ okInt a2 ∧ okByte a3 := by
  obtain ⟨hl, hf⟩ := trod_fld Tryz.underlying84 h
  rw [cells_Place] at hl
  obtain ⟨c0, c1, c2, c3, rfl⟩ := list4 hl
  obtain ⟨n0, y0, g0⟩ := hf 0 _ rfl
  replace g0 : DataW.trod enc Tryz.prog W base spare held n0 3 [c0] = some y0 := by have e : DataW.trod enc Tryz.prog W base spare held n0 3 (([c0, c1, c2, c3].drop 0).take (Tryz.prog.cellsOf 3)) = some y0 := g0; rw [cells_int] at e; exact e
  obtain ⟨b0, e0, _, w0⟩ := DataW.trod_int Tryz.underlying3 g0
  obtain rfl : c0 = .int .i64 b0 := by simpa using e0
  obtain ⟨n1, y1, g1⟩ := hf 1 _ rfl
  replace g1 : DataW.trod enc Tryz.prog W base spare held n1 3 [c1] = some y1 := by have e : DataW.trod enc Tryz.prog W base spare held n1 3 (([.int .i64 b0, c1, c2, c3].drop 1).take (Tryz.prog.cellsOf 3)) = some y1 := g1; rw [cells_int] at e; exact e
  obtain ⟨b1, e1, _, w1⟩ := DataW.trod_int Tryz.underlying3 g1
  obtain rfl : c1 = .int .i64 b1 := by simpa using e1
  obtain ⟨n2, y2, g2⟩ := hf 2 _ rfl
  replace g2 : DataW.trod enc Tryz.prog W base spare held n2 82 [c2, c3] = some y2 := by have e : DataW.trod enc Tryz.prog W base spare held n2 82 (([.int .i64 b0, .int .i64 b1, c2, c3].drop 2).take (Tryz.prog.cellsOf 82)) = some y2 := g2; rw [cells_Seat] at e; exact e
  obtain ⟨b2_0, b2_1, e2, w2_0, w2_1⟩ := dec_Seat g2
  simp only [List.cons.injEq, and_true] at e2
  obtain ⟨rfl, rfl⟩ := e2
  exact ⟨_, _, _, _, rfl, ok_int w0, ok_int w1, w2_0, w2_1⟩
theorem cells_Ticket : Tryz.prog.cellsOf 30 = 3 := by kernel_rfl
theorem dec_Ticket {H : Type} {enc : TypeId × Value → H} {W : World} {base : Nat} {spare : Nat → Bool} {held : Bool} {fuel : Nat} {cs : List Value} {x : DataW H × List MemPlace} (h : DataW.trod enc Tryz.prog W base spare held fuel 30 cs = some x) :
    ∃ (a0 : Int) (a1 : Int) (a2 : Int), cs = [.int .i64 a0, .int .i64 a1, .int .i64 a2] ∧ okInt a0 ∧ okInt a1 ∧ okInt a2 := by
  obtain ⟨hl, hf⟩ := trod_fld Tryz.underlying30 h
  rw [cells_Ticket] at hl
  obtain ⟨c0, c1, c2, rfl⟩ := list3 hl
  obtain ⟨n0, y0, g0⟩ := hf 0 _ rfl
  replace g0 : DataW.trod enc Tryz.prog W base spare held n0 3 [c0] = some y0 := by have e : DataW.trod enc Tryz.prog W base spare held n0 3 (([c0, c1, c2].drop 0).take (Tryz.prog.cellsOf 3)) = some y0 := g0; rw [cells_int] at e; exact e
  obtain ⟨b0, e0, _, w0⟩ := DataW.trod_int Tryz.underlying3 g0
  obtain rfl : c0 = .int .i64 b0 := by simpa using e0
  obtain ⟨n1, y1, g1⟩ := hf 1 _ rfl
  replace g1 : DataW.trod enc Tryz.prog W base spare held n1 3 [c1] = some y1 := by have e : DataW.trod enc Tryz.prog W base spare held n1 3 (([.int .i64 b0, c1, c2].drop 1).take (Tryz.prog.cellsOf 3)) = some y1 := g1; rw [cells_int] at e; exact e
  obtain ⟨b1, e1, _, w1⟩ := DataW.trod_int Tryz.underlying3 g1
  obtain rfl : c1 = .int .i64 b1 := by simpa using e1
  obtain ⟨n2, y2, g2⟩ := hf 2 _ rfl
  replace g2 : DataW.trod enc Tryz.prog W base spare held n2 3 [c2] = some y2 := by have e : DataW.trod enc Tryz.prog W base spare held n2 3 (([.int .i64 b0, .int .i64 b1, c2].drop 2).take (Tryz.prog.cellsOf 3)) = some y2 := g2; rw [cells_int] at e; exact e
  obtain ⟨b2, e2, _, w2⟩ := DataW.trod_int Tryz.underlying3 g2
  obtain rfl : c2 = .int .i64 b2 := by simpa using e2
  exact ⟨_, _, _, rfl, ok_int w0, ok_int w1, ok_int w2⟩
theorem cells_slNam : Tryz.prog.cellsOf 26 = 1 := by kernel_rfl
theorem cells_slSeg : Tryz.prog.cellsOf 27 = 1 := by kernel_rfl
theorem cells_slStr : Tryz.prog.cellsOf 28 = 1 := by kernel_rfl
theorem cells_slPlc : Tryz.prog.cellsOf 31 = 1 := by kernel_rfl
theorem cells_pnr : Tryz.prog.cellsOf 33 = 12 := by kernel_rfl
theorem dSl_nam {fuel : Nat} {v : Value} {x : DataW H × List MemPlace} (h : DataW.trod enc Tryz.prog W 0 (fun _ => true) true fuel 26 [v] = some x) : ∃ A n c l, v = .slice A n c ∧ Sl W 0 W.heap.size tNam A n l :=
  Sl.of_trod tNam Tryz.underlying26 cells_Name (fun _ _ _ h => by
    obtain ⟨a0, a1, e, w0, w1⟩ := dec_Name h
    exact ⟨⟨a0, a1⟩, e, w0, w1⟩) h
theorem dSl_seg {fuel : Nat} {v : Value} {x : DataW H × List MemPlace} (h : DataW.trod enc Tryz.prog W 0 (fun _ => true) true fuel 27 [v] = some x) : ∃ A n c l, v = .slice A n c ∧ Sl W 0 W.heap.size tSeg A n l :=
  Sl.of_trod tSeg Tryz.underlying27 cells_Segment (fun _ _ _ h => by
    obtain ⟨a0, a1, a2, a3, a4, e, w0, w1, w2, w3⟩ := dec_Segment h
    exact ⟨⟨a0, a1, a2, a3, a4⟩, e, w0, w1, w2, w3⟩) h
theorem dSl_str {fuel : Nat} {v : Value} {x : DataW H × List MemPlace} (h : DataW.trod enc Tryz.prog W 0 (fun _ => true) true fuel 28 [v] = some x) : ∃ A n c l, v = .slice A n c ∧ Sl W 0 W.heap.size tStr A n l :=
  Sl.of_trod tStr Tryz.underlying28 cells_str (fun _ _ _ h => by
    obtain ⟨s, e, _, w⟩ := DataW.trod_string Tryz.underlying9 h
    exact ⟨s, e, ok_str w⟩) h
theorem dSl_plc {fuel : Nat} {v : Value} {x : DataW H × List MemPlace} (h : DataW.trod enc Tryz.prog W 0 (fun _ => true) true fuel 31 [v] = some x) : ∃ A n c l, v = .slice A n c ∧ Sl W 0 W.heap.size tPlc A n l :=
  Sl.of_trod tPlc Tryz.underlying31 cells_Place (fun _ _ _ h => by
    obtain ⟨a0, a1, a2, a3, e, w0, w1, w2, w3⟩ := dec_Place h
    exact ⟨⟨a0, a1, a2, a3⟩, e, w0, w1, w2, w3⟩) h

set_option maxRecDepth 100000 in
/-- An argument that is a PNR. -/
theorem open_pnr {r : Reach} {b0 : Nat} {v : Value} {d : DataW H} {ps : List MemPlace} (hv : Value.okWide Tryz.prog W r b0 33 v) (h : DataW.Trod enc Tryz.prog W 0 (fun _ => true) true 33 v d ps) :
    ∃ p hd, v = .agg #[.string p.loc, .string p.off, .slice hd.an hd.nn hd.cn, .slice hd.ag hd.ng hd.cg, .slice hd.ap hd.np hd.cp, .int .i64 p.tik.kind, .int .i64 p.tik.day, .int .i64 p.tik.min, .string p.rc, .slice hd.ar hd.nr hd.cr, .slice hd.ae hd.ne hd.ce, .bool p.queued] ∧ PAt W 0 W.heap.size p hd := by
  obtain ⟨cs, rfl, hsz⟩ := okWide_struct Tryz.underlying33 hv
  obtain ⟨fuel, h⟩ := h
  obtain ⟨hl, hf⟩ := trod_fld Tryz.underlying33 h
  obtain ⟨l⟩ := cs
  simp only [Value.cells] at hl hf
  rw [cells_pnr] at hl
  obtain ⟨c0, c1, c2, c3, c4, c5, c6, c7, c8, c9, c10, c11, rfl⟩ := list12 hl
  obtain ⟨n0, y0, g0⟩ := hf 0 _ rfl
  replace g0 : DataW.trod enc Tryz.prog W 0 (fun _ => true) true n0 9 [c0] = some y0 := by have e : DataW.trod enc Tryz.prog W 0 (fun _ => true) true n0 9 (([c0, c1, c2, c3, c4, c5, c6, c7, c8, c9, c10, c11].drop 0).take (Tryz.prog.cellsOf 9)) = some y0 := g0; rw [cells_str] at e; exact e
  obtain ⟨n1, y1, g1⟩ := hf 1 _ rfl
  replace g1 : DataW.trod enc Tryz.prog W 0 (fun _ => true) true n1 9 [c1] = some y1 := by have e : DataW.trod enc Tryz.prog W 0 (fun _ => true) true n1 9 (([c0, c1, c2, c3, c4, c5, c6, c7, c8, c9, c10, c11].drop 1).take (Tryz.prog.cellsOf 9)) = some y1 := g1; rw [cells_str] at e; exact e
  obtain ⟨n2, y2, g2⟩ := hf 2 _ rfl
  replace g2 : DataW.trod enc Tryz.prog W 0 (fun _ => true) true n2 26 [c2] = some y2 := by have e : DataW.trod enc Tryz.prog W 0 (fun _ => true) true n2 26 (([c0, c1, c2, c3, c4, c5, c6, c7, c8, c9, c10, c11].drop 2).take (Tryz.prog.cellsOf 26)) = some y2 := g2; rw [cells_slNam] at e; exact e
  obtain ⟨n3, y3, g3⟩ := hf 3 _ rfl
  replace g3 : DataW.trod enc Tryz.prog W 0 (fun _ => true) true n3 27 [c3] = some y3 := by have e : DataW.trod enc Tryz.prog W 0 (fun _ => true) true n3 27 (([c0, c1, c2, c3, c4, c5, c6, c7, c8, c9, c10, c11].drop 3).take (Tryz.prog.cellsOf 27)) = some y3 := g3; rw [cells_slSeg] at e; exact e
  obtain ⟨n4, y4, g4⟩ := hf 4 _ rfl
  replace g4 : DataW.trod enc Tryz.prog W 0 (fun _ => true) true n4 28 [c4] = some y4 := by have e : DataW.trod enc Tryz.prog W 0 (fun _ => true) true n4 28 (([c0, c1, c2, c3, c4, c5, c6, c7, c8, c9, c10, c11].drop 4).take (Tryz.prog.cellsOf 28)) = some y4 := g4; rw [cells_slStr] at e; exact e
  obtain ⟨n5, y5, g5⟩ := hf 5 _ rfl
  replace g5 : DataW.trod enc Tryz.prog W 0 (fun _ => true) true n5 30 [c5, c6, c7] = some y5 := by have e : DataW.trod enc Tryz.prog W 0 (fun _ => true) true n5 30 (([c0, c1, c2, c3, c4, c5, c6, c7, c8, c9, c10, c11].drop 5).take (Tryz.prog.cellsOf 30)) = some y5 := g5; rw [cells_Ticket] at e; exact e
  obtain ⟨n6, y6, g6⟩ := hf 6 _ rfl
  replace g6 : DataW.trod enc Tryz.prog W 0 (fun _ => true) true n6 9 [c8] = some y6 := by have e : DataW.trod enc Tryz.prog W 0 (fun _ => true) true n6 9 (([c0, c1, c2, c3, c4, c5, c6, c7, c8, c9, c10, c11].drop 8).take (Tryz.prog.cellsOf 9)) = some y6 := g6; rw [cells_str] at e; exact e
  obtain ⟨n7, y7, g7⟩ := hf 7 _ rfl
  replace g7 : DataW.trod enc Tryz.prog W 0 (fun _ => true) true n7 28 [c9] = some y7 := by have e : DataW.trod enc Tryz.prog W 0 (fun _ => true) true n7 28 (([c0, c1, c2, c3, c4, c5, c6, c7, c8, c9, c10, c11].drop 9).take (Tryz.prog.cellsOf 28)) = some y7 := g7; rw [cells_slStr] at e; exact e
  obtain ⟨n8, y8, g8⟩ := hf 8 _ rfl
  replace g8 : DataW.trod enc Tryz.prog W 0 (fun _ => true) true n8 31 [c10] = some y8 := by have e : DataW.trod enc Tryz.prog W 0 (fun _ => true) true n8 31 (([c0, c1, c2, c3, c4, c5, c6, c7, c8, c9, c10, c11].drop 10).take (Tryz.prog.cellsOf 31)) = some y8 := g8; rw [cells_slPlc] at e; exact e
  obtain ⟨n9, y9, g9⟩ := hf 9 _ rfl
  replace g9 : DataW.trod enc Tryz.prog W 0 (fun _ => true) true n9 4 [c11] = some y9 := by have e : DataW.trod enc Tryz.prog W 0 (fun _ => true) true n9 4 (([c0, c1, c2, c3, c4, c5, c6, c7, c8, c9, c10, c11].drop 11).take (Tryz.prog.cellsOf 4)) = some y9 := g9; rw [cells_bool] at e; exact e
  obtain ⟨s0, e0, _, w0⟩ := DataW.trod_string Tryz.underlying9 g0
  obtain ⟨s1, e1, _, w1⟩ := DataW.trod_string Tryz.underlying9 g1
  obtain ⟨an, nn, cn, ln, rfl, h2⟩ := dSl_nam g2
  obtain ⟨ag, ng, cg, lg, rfl, h3⟩ := dSl_seg g3
  obtain ⟨ap, np, cp, lp, rfl, h4⟩ := dSl_str g4
  obtain ⟨t0, t1, t2, e5, w50, w51, w52⟩ := dec_Ticket g5
  obtain ⟨s6, e6, _, w6⟩ := DataW.trod_string Tryz.underlying9 g6
  obtain ⟨ar, nr, cr, lr, rfl, h7⟩ := dSl_str g7
  obtain ⟨ae, ne, ce, le, rfl, h8⟩ := dSl_plc g8
  obtain ⟨q, e9, _⟩ := DataW.trod_bool Tryz.underlying4 g9
  simp only [List.cons.injEq, and_true] at e0 e1 e5 e6 e9
  obtain ⟨rfl, rfl, rfl⟩ := e5
  subst e0 e1 e6 e9
  exact ⟨⟨s0, s1, ln, lg, lp, ⟨t0, t1, t2⟩, s6, lr, le, q⟩, ⟨an, nn, cn, ag, ng, cg, ap, np, cp, ar, nr, cr, ae, ne, ce⟩, rfl,
    ⟨ok_str w0, ok_str w1, ok_str w6, ⟨w50, w51, w52⟩, h2, h3, h4, h7, h8⟩⟩
end
end Go.Proofs.YtlkdefmceghmnaaGreatDoor
