/- Parameters of the laws of scripts: from the data of an argument to plain things. -/
import Derived.Test.YtggomjfllbljeaaGreatDoorScE
import Derived.Test.YtggomjfllbljeaaGreatDoorCards
import Derived.Test.YtggomjfllbljeaaGreatDoorTie
import Derived.ProofKit
import Derived.Deep.DeepHandedRow
import Derived.Deep.Slices
namespace Go.Proofs.YtggomjfllbljeaaGreatDoor
set_option linter.unusedVariables false
open Go Go.RowKit Go.ChangeShapes Go.WideShapes Go.ChangeAt

section
variable {H : Type} {enc : TypeId × Value → H} {P : Program} {W : World} {base : Nat} {spare : Nat → Bool} {held : Bool}
theorem trod_fld {t : TypeId} {fs : Array Field} {fuel : Nat} {cs : List Value} {x : DataW H × List MemPlace} (ht : P.underlying t = some (.struct fs)) (h : DataW.trod enc P W base spare held fuel t cs = some x) :
    cs.length = P.cellsOf t ∧ ∀ (i : Nat) (f : Field), fs[i]? = some f → ∃ n y, DataW.trod enc P W base spare held n f.type ((cs.drop f.offset).take (P.cellsOf f.type)) = some y := by
  obtain ⟨xs, n, _, _, hl, hxl, hf⟩ := DataW.trod_struct ht h
  refine ⟨hl, fun i f hi => ?_⟩
  have hlt : i < xs.length := by rw [hxl]; exact (Array.getElem?_eq_some_iff.1 hi).1
  exact ⟨n, _, (hf i f hi).trans (List.getElem?_eq_getElem hlt)⟩

theorem list_of {α : Type} {p : Nat → α → Prop} : ∀ n, (∀ i, i < n → ∃ x, p i x) → ∃ l : List α, l.length = n ∧ ∀ k x, l[k]? = some x → p k x
  | 0, _ => ⟨[], rfl, fun k x h => by simp at h⟩
  | n + 1, h => by
    obtain ⟨l, hl, hp⟩ := list_of n (fun i hi => h i (by omega))
    obtain ⟨x, hx⟩ := h n (by omega)
    refine ⟨l ++ [x], by simp [hl], fun k y hk => ?_⟩
    by_cases hkn : k < l.length
    · rw [List.getElem?_append_left hkn] at hk
      exact hp k y hk
    · rw [List.getElem?_append_right (by omega)] at hk
      have h0 : k - l.length = 0 := by
        have := (List.getElem?_eq_some_iff.1 hk).1
        simp at this; omega
      rw [h0] at hk
      simp only [List.getElem?_cons_zero, Option.some.injEq] at hk
      have hk' : k = n := by omega
      subst hk'; subst hk
      exact hx

/-- A slice among the data: what it reads as, cell by cell. -/
theorem Sl.of_trod {α : Type} (T : Ty α) {t e : TypeId} (ht : P.underlying t = some (.slice e)) (hC : P.cellsOf e = T.sz)
    (hdec : ∀ n cs' y, DataW.trod enc P W 0 (fun _ => true) held n e cs' = some y → ∃ x, cs' = T.enc x ∧ T.wf x)
    {fuel : Nat} {v : Value} {x : DataW H × List MemPlace} (h : DataW.trod enc P W 0 (fun _ => true) held fuel t [v] = some x) :
    ∃ A n c l, v = .slice A n c ∧ Sl W 0 W.heap.size T A n l := by
  rcases Go.Deep.open_slice ht h with ⟨h0, _⟩ | ⟨a, len, cap, m, n, D, Pl, hcs, _, hl, _, hm, _, hi⟩
  · simp only [List.cons.injEq, and_true] at h0
    exact ⟨none, 0, 0, [], h0, Sl.nil_ _⟩
  · simp only [List.cons.injEq, and_true] at hcs
    simp only [if_true] at hm
    have hel : ∀ i, i < len → ∃ x, T.wf x ∧ ∀ j u, (T.enc x)[j]? = some u → W.cell? (a.add (i * T.sz + j)) = some u := by
      intro i hlt
      obtain ⟨cs', hc, htr⟩ := hi i (by omega)
      obtain ⟨x, rfl, hw⟩ := hdec _ _ _ htr
      obtain ⟨_, hcl, hat⟩ := World.cells?_some hc
      refine ⟨x, hw, fun j u hu => ?_⟩
      have hj : j < (T.enc x).length := (List.getElem?_eq_some_iff.1 hu).1
      rw [← hC, ← Go.Deep.add_add, hat j (by omega), hu]
    obtain ⟨l, hll, hlp⟩ := list_of len hel
    refine ⟨some a, len, cap, l, hcs, hll, fun x hx => ?_, fun hpos => ?_⟩
    · obtain ⟨k, hk⟩ := List.getElem?_of_mem hx
      exact (hlp k x hk).1
    · obtain ⟨x, _, hx⟩ := hel 0 hpos
      have hp0 : 0 < (T.enc x).length := by rw [T.len]; exact T.pos
      have h0 := hx 0 _ (List.getElem?_eq_getElem hp0)
      simp only [Nat.zero_mul, Nat.zero_add] at h0
      have ha0 : a.add 0 = a := by simp [Addr.add]
      rw [ha0] at h0
      obtain ⟨b, o, sp⟩ := a
      have hsp : sp = none := by
        cases sp with
        | none => rfl
        | some s =>
          unfold World.cell? at h0
          split at h0
          · simp at h0
          · cases h0
      subst hsp
      refine ⟨b, o, rfl, Nat.zero_le _, World.block_lt_of_cell? W _ h0, fun k x hk j u hu => ?_⟩
      have h1 := (hlp k x hk).2 j u hu
      have hadd : ∀ n, (⟨b, o, none⟩ : Addr).add n = ⟨b, o + n, none⟩ := fun n => by unfold Addr.add; split <;> simp_all
      rw [hadd] at h1
      rw [show o + k * T.sz + j = o + (k * T.sz + j) by omega]
      exact h1
end

section
variable {H : Type} {enc : TypeId × Value → H} {P : Program} {W W' : World} {sp : Nat → Bool}
theorem trodAll_stays (hl : laidOutB P = true) : ∀ {ts : List TypeId} {vs : List Value} {ds : List (DataW H)} {ps : List MemPlace}, (∀ t, t ∈ ts → P.readableRec t = true ∧ t < P.types.size) →
    DataW.TrodAll enc P W 0 (fun _ => true) true ts vs ds ps → (∀ x ∈ ps, W.sameAt W' x) → (∀ x ∈ ps, sp x.block = true) → DataW.TrodAll enc P W' 0 sp true ts vs ds ps
  | [], _, _, _, _, h, _, _ => by
    obtain ⟨rfl, rfl, rfl⟩ := trodAll_nil h
    exact h
  | t :: ts, _, _, _, hr, h, hs, hsp => by
    obtain ⟨v, vs, d, ds, p, q, rfl, rfl, rfl, h1, h2⟩ := trodAll_cons h
    obtain ⟨r1, r2⟩ := hr t (by simp)
    exact ⟨p, q, WideElems.Trod_stays hl r1 r2 h1 (fun x hx => hs x (by simp [hx])) (fun x hx => hsp x (by simp [hx])), trodAll_stays hl (fun t' ht' => hr t' (by simp [ht'])) h2 (fun x hx => hs x (by simp [hx])) (fun x hx => hsp x (by simp [hx])), rfl⟩

/-- A LAW's LAST STEP: it handed back true, and of what was there when it began nothing has turned. -/
theorem law_post {f : Func} {s : ChangeSpec} {tb : TypeId} {apart fresh handsOn : Bool} {args : Array Value} {ds gs : List (DataW H)} {before : List MemPlace} (hl : laidOutB P = true)
    (hr : ∀ t, t ∈ f.params.toList → P.readableRec t = true ∧ t < P.types.size) (hb : P.underlying tb = some .bool) (hrt : f.resultTypes = #[tb]) (hvs : s.vars = [])
    (hfn : s.fn H (ds ++ gs) = { results := [.lit (.bool true)], args := ds }) (hW : DataW.Whole enc P f.params.toList s.vars apart W args.toList ds gs before) (hbl : Below W.heap.size W W') :
    s.post enc P f apart fresh handsOn false W args (.bool true) W' := by
  have hlt : ∀ x ∈ before, x.block < W.heap.size := fun x hx => by simpa using hW.lt x hx
  have hW' := hW
  obtain ⟨p, q, hA, hV, rfl, hz, hn⟩ := hW
  rw [hvs] at hV
  obtain ⟨rfl, rfl⟩ := trodVars_none hV
  simp only [List.append_nil] at hlt hfn hW'
  refine ⟨ds, [], p, [], p, [], hW', ?_, ?_, ?_, hbl.frame _, fun h => by cases h⟩
  · simp only [List.append_nil]
    rw [hfn, hrt]
    exact trodAll_mk1 (shut_bool hb _)
  · simp only [List.append_nil]
    rw [hfn]
    exact trodAll_stays hl hr hA (fun x hx => hbl.same (hlt x hx)) (fun x hx => by simpa using hlt x hx)
  · simp only [List.append_nil]
    rw [hvs, hfn]
    rfl
end

theorem cells_str : Tryz.prog.cellsOf 9 = 1 := by kernel_rfl
theorem cells_int : Tryz.prog.cellsOf 3 = 1 := by kernel_rfl
theorem cells_byte : Tryz.prog.cellsOf 5 = 1 := by kernel_rfl
theorem cells_bool : Tryz.prog.cellsOf 4 = 1 := by kernel_rfl
theorem ok_str {s : ByteArray} (h : s.size ≤ maxLen) : okStr s := by unfold okStr; unfold maxLen at h; omega
theorem ok_int {n : Int} (h : (Lit.int .i64 n).wf = true) : okInt n := by
  simp only [Lit.wf, Bool.and_eq_true, decide_eq_true_eq] at h
  exact h
theorem ok_byte {n : Int} (h : (Lit.int .u8 n).wf = true) : okByte n := by
  simp only [Lit.wf, Bool.and_eq_true, decide_eq_true_eq] at h
  exact h
theorem list2 {α : Type} {l : List α} (h : l.length = 2) : ∃ c0 c1, l = [c0, c1] := by
  match l, h with
  | [c0, c1], _ => exact ⟨c0, c1, rfl⟩
theorem list3 {α : Type} {l : List α} (h : l.length = 3) : ∃ c0 c1 c2, l = [c0, c1, c2] := by
  match l, h with
  | [c0, c1, c2], _ => exact ⟨c0, c1, c2, rfl⟩
theorem list4 {α : Type} {l : List α} (h : l.length = 4) : ∃ c0 c1 c2 c3, l = [c0, c1, c2, c3] := by
  match l, h with
  | [c0, c1, c2, c3], _ => exact ⟨c0, c1, c2, c3, rfl⟩
theorem list5 {α : Type} {l : List α} (h : l.length = 5) : ∃ c0 c1 c2 c3 c4, l = [c0, c1, c2, c3, c4] := by
  match l, h with
  | [c0, c1, c2, c3, c4], _ => exact ⟨c0, c1, c2, c3, c4, rfl⟩
theorem list12 {α : Type} {l : List α} (h : l.length = 12) : ∃ c0 c1 c2 c3 c4 c5 c6 c7 c8 c9 c10 c11, l = [c0, c1, c2, c3, c4, c5, c6, c7, c8, c9, c10, c11] := by
  match l, h with
  | [c0, c1, c2, c3, c4, c5, c6, c7, c8, c9, c10, c11], _ => exact ⟨c0, c1, c2, c3, c4, c5, c6, c7, c8, c9, c10, c11, rfl⟩
theorem list16 {α : Type} {l : List α} (h : l.length = 16) : ∃ c0 c1 c2 c3 c4 c5 c6 c7 c8 c9 c10 c11 c12 c13 c14 c15, l = [c0, c1, c2, c3, c4, c5, c6, c7, c8, c9, c10, c11, c12, c13, c14, c15] := by
  match l, h with
  | [c0, c1, c2, c3, c4, c5, c6, c7, c8, c9, c10, c11, c12, c13, c14, c15], _ => exact ⟨c0, c1, c2, c3, c4, c5, c6, c7, c8, c9, c10, c11, c12, c13, c14, c15, rfl⟩
section
variable {H : Type} {enc : TypeId × Value → H} {W : World}
set_option maxRecDepth 100000 in
theorem open_str {r : Reach} {b0 : Nat} {v : Value} {d : DataW H} {ps : List MemPlace} (hv : Value.okWide Tryz.prog W r b0 9 v) (h : DataW.Trod enc Tryz.prog W 0 (fun _ => true) true 9 v d ps) :
    ∃ s, v = .string s ∧ okStr s := by
  obtain ⟨s, rfl⟩ := okWide_string Tryz.underlying9 hv
  obtain ⟨fuel, h⟩ := h
  replace h : DataW.trod enc Tryz.prog W 0 (fun _ => true) true fuel 9 [.string s] = some _ := h
  obtain ⟨s0, e0, _, w0⟩ := DataW.trod_string Tryz.underlying9 h
  simp only [List.cons.injEq, and_true] at e0
  injection e0 with e0
  subst e0
  exact ⟨_, rfl, ok_str w0⟩
theorem nil_cap {t e : TypeId} {P : Program} {spare : Nat → Bool} {held : Bool} {base : Nat} (ht : P.underlying t = some (.slice e)) {fuel : Nat} {n c : Nat} {x : DataW H × List MemPlace} (h : DataW.trod enc P W base spare held fuel t [.slice none n c] = some x) : c = 0 := by
  rcases Go.Deep.open_slice ht h with ⟨h0, _⟩ | ⟨a, len, cap, m, n', D, Pl, hcs, _⟩
  · simp only [List.cons.injEq, and_true] at h0
    injection h0
  · simp at hcs
theorem cells_slCls : Tryz.prog.cellsOf 129 = 1 := by kernel_rfl
theorem cells_Flt : Tryz.prog.cellsOf 131 = 9 := by kernel_rfl
theorem cap_of {t e : TypeId} {P : Program} {spare : Nat → Bool} {held : Bool} {base : Nat} (ht : P.underlying t = some (.slice e)) {fuel : Nat} {A : Option Addr} {n c : Nat} {x : DataW H × List MemPlace} (h : DataW.trod enc P W base spare held fuel t [.slice A n c] = some x) : n ≤ c ∧ c ≤ maxLen := by
  rcases Go.Deep.open_slice ht h with ⟨h0, _⟩ | ⟨a, len, cap, m, n', D, Pl, hcs, _, hl, hm, _⟩
  · simp only [List.cons.injEq, and_true] at h0
    injection h0 with _ h1 h2
    subst h1 h2
    exact ⟨Nat.le_refl _, Nat.zero_le _⟩
  · simp only [List.cons.injEq, and_true] at hcs
    injection hcs with _ h1 h2
    subst h1 h2
    exact ⟨hl, hm⟩
theorem cells_Ev : Tryz.prog.cellsOf 24 = 5 := by kernel_rfl
theorem cells_slBool : Tryz.prog.cellsOf 22 = 1 := by kernel_rfl
set_option maxRecDepth 100000 in
theorem dSl_bool {fuel : Nat} {v : Value} {x : DataW H × List MemPlace} (h : DataW.trod enc Tryz.prog W 0 (fun _ => true) true fuel 22 [v] = some x) : ∃ A n c l, v = .slice A n c ∧ Sl W 0 W.heap.size tBool A n l ∧ (A = none → c = 0) := by
  obtain ⟨A, n, c, l, rfl, hs⟩ := Sl.of_trod tBool Tryz.underlying22 cells_bool (fun _ _ _ h => by
    obtain ⟨b, e, _⟩ := DataW.trod_bool Tryz.underlying4 h
    exact ⟨b, e, trivial⟩) h
  exact ⟨A, n, c, l, rfl, hs, fun hA => by subst hA; exact nil_cap Tryz.underlying22 h⟩
set_option maxRecDepth 100000 in
theorem open_event {r : Reach} {b0 : Nat} {v : Value} {d : DataW H} {ps : List MemPlace} (hv : Value.okWide Tryz.prog W r b0 24 v) (h : DataW.Trod enc Tryz.prog W 0 (fun _ => true) true 24 v d ps) :
    ∃ (x : Ev) (A : Option Addr) (n c : Nat), v = .agg (evC x.kind x.agent x.entry x.n (.slice A n c)) ∧ Sl W 0 W.heap.size tBool A n x.keep ∧ okInt x.n ∧ okInt x.agent ∧ (A = none → c = 0) := by
  obtain ⟨cs, rfl, hsz⟩ := okWide_struct Tryz.underlying24 hv
  obtain ⟨fuel, h⟩ := h
  obtain ⟨l⟩ := cs
  simp only [Value.cells] at h
  obtain ⟨hl, hf⟩ := trod_fld Tryz.underlying24 h
  rw [cells_Ev] at hl
  obtain ⟨c0, c1, c2, c3, c4, rfl⟩ := list5 hl
  obtain ⟨n0, y0, g0⟩ := hf 0 _ rfl
  replace g0 : DataW.trod enc Tryz.prog W 0 (fun _ => true) true n0 3 [c0] = some y0 := by have e : DataW.trod enc Tryz.prog W 0 (fun _ => true) true n0 3 (([c0, c1, c2, c3, c4].drop 0).take (Tryz.prog.cellsOf 3)) = some y0 := g0; rw [cells_int] at e; exact e
  obtain ⟨n1, y1, g1⟩ := hf 1 _ rfl
  replace g1 : DataW.trod enc Tryz.prog W 0 (fun _ => true) true n1 3 [c1] = some y1 := by have e : DataW.trod enc Tryz.prog W 0 (fun _ => true) true n1 3 (([c0, c1, c2, c3, c4].drop 1).take (Tryz.prog.cellsOf 3)) = some y1 := g1; rw [cells_int] at e; exact e
  obtain ⟨n2, y2, g2⟩ := hf 2 _ rfl
  replace g2 : DataW.trod enc Tryz.prog W 0 (fun _ => true) true n2 9 [c2] = some y2 := by have e : DataW.trod enc Tryz.prog W 0 (fun _ => true) true n2 9 (([c0, c1, c2, c3, c4].drop 2).take (Tryz.prog.cellsOf 9)) = some y2 := g2; rw [cells_str] at e; exact e
  obtain ⟨n3, y3, g3⟩ := hf 3 _ rfl
  replace g3 : DataW.trod enc Tryz.prog W 0 (fun _ => true) true n3 3 [c3] = some y3 := by have e : DataW.trod enc Tryz.prog W 0 (fun _ => true) true n3 3 (([c0, c1, c2, c3, c4].drop 3).take (Tryz.prog.cellsOf 3)) = some y3 := g3; rw [cells_int] at e; exact e
  obtain ⟨n4, y4, g4⟩ := hf 4 _ rfl
  replace g4 : DataW.trod enc Tryz.prog W 0 (fun _ => true) true n4 22 [c4] = some y4 := by have e : DataW.trod enc Tryz.prog W 0 (fun _ => true) true n4 22 (([c0, c1, c2, c3, c4].drop 4).take (Tryz.prog.cellsOf 22)) = some y4 := g4; rw [cells_slBool] at e; exact e
  obtain ⟨b0, e0, _, w0⟩ := DataW.trod_int Tryz.underlying3 g0
  obtain ⟨b1, e1, _, w1⟩ := DataW.trod_int Tryz.underlying3 g1
  obtain ⟨b2, e2, _, w2⟩ := DataW.trod_string Tryz.underlying9 g2
  obtain ⟨b3, e3, _, w3⟩ := DataW.trod_int Tryz.underlying3 g3
  obtain rfl : c0 = .int .i64 b0 := by simpa using e0
  obtain rfl : c1 = .int .i64 b1 := by simpa using e1
  obtain rfl : c2 = .string b2 := by simpa using e2
  obtain rfl : c3 = .int .i64 b3 := by simpa using e3
  obtain ⟨A, n, c, l, rfl, hs, hn⟩ := dSl_bool g4
  exact ⟨⟨b0, b1, b2, b3, l⟩, A, n, c, rfl, hs, ok_int w3, ok_int w1, hn⟩
end
end Go.Proofs.YtggomjfllbljeaaGreatDoor
