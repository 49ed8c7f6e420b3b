/- Put together by program of: ScP, ScQ, ScK. -/
import Derived.Test.YtggomjfllbljeaaGreatDoorGen
import Derived.Lib.ItoaLen
namespace Go.Proofs.YtggomjfllbljeaaGreatDoor
set_option linter.unusedVariables false
open Go Go.RowKit
/-- Is a digit there? -/
def dgB (s : ByteArray) (i : Nat) : Bool := decide (48 ≤ bat s i) && decide (bat s i ≤ 57)
def runT (s : ByteArray) : Nat → Nat → Nat
  | 0, i => i
  | f + 1, i => if dgB s i then runT s f (i + 1) else i
/-- Behind the digits that stand from i on. -/
def runTo (s : ByteArray) (i : Nat) : Nat := runT s (s.size - i) i
theorem runT_bd (s : ByteArray) : ∀ (f i : Nat), i ≤ runT s f i ∧ runT s f i ≤ i + f
  | 0, i => ⟨Nat.le_refl _, Nat.le_refl _⟩
  | f + 1, i => by
    unfold runT
    split
    · have := runT_bd s f (i + 1); omega
    · omega
theorem runTo_bd {s : ByteArray} {i : Nat} (h : i ≤ s.size) : i ≤ runTo s i ∧ runTo s i ≤ s.size := by
  have := runT_bd s (s.size - i) i
  unfold runTo; omega
theorem runTo_step {s : ByteArray} {i : Nat} (h : i < s.size) (hd : dgB s i = true) : runTo s i = runTo s (i + 1) := by
  unfold runTo
  rw [show s.size - i = (s.size - (i + 1)) + 1 by omega, runT, if_pos hd]
theorem runTo_stop {s : ByteArray} {i : Nat} (h : dgB s i = false ∨ s.size ≤ i) : runTo s i = i := by
  unfold runTo
  rcases hn : s.size - i with _ | f
  · rfl
  · rw [runT]
    rcases h with h | h
    · rw [h]; rfl
    · omega
theorem runTo_all {s : ByteArray} {i : Nat} : ∀ j, i ≤ j → j < runTo s i → dgB s j = true := by
  unfold runTo
  generalize s.size - i = f
  induction f generalizing i with
  | zero => intro j h1 h2; rw [runT] at h2; omega
  | succ f ih =>
    intro j h1 h2
    rw [runT] at h2
    split at h2
    · rename_i hd
      by_cases e : j = i
      · subst e; exact hd
      · exact ih j (by omega) h2
    · omega
theorem runTo_end {s : ByteArray} {i : Nat} (h : i ≤ s.size) : runTo s i = s.size ∨ dgB s (runTo s i) = false := by
  unfold runTo
  generalize hf : s.size - i = f
  induction f generalizing i with
  | zero => left; rw [runT]; omega
  | succ f ih =>
    rw [runT]
    split
    · exact ih (by omega) (by omega)
    · rename_i hd; right; simpa using hd
/-- The number that k digits from a on say. -/
def valD (s : ByteArray) (a : Nat) : Nat → Int
  | 0 => 0
  | k + 1 => valD s a k * 10 + (bat s (a + k) - 48)
theorem valD_bd {s : ByteArray} {a : Nat} : ∀ k, (∀ j, j < k → dgB s (a + j) = true) → 0 ≤ valD s a k ∧ valD s a k < 10 ^ k
  | 0, _ => by simp [valD]
  | k + 1, h => by
    obtain ⟨h1, h2⟩ := valD_bd k (fun j hj => h j (by omega))
    have hd := h k (by omega)
    simp only [dgB, Bool.and_eq_true, decide_eq_true_eq] at hd
    rw [valD, Int.pow_succ]
    generalize (10 : Int) ^ k = p at h2 ⊢
    omega
/-- A number at a place: at most so great, without a leading nought, of nine digits at most. -/
def numF (s : ByteArray) (a : Nat) (most : Int) : Int × Nat × Bool :=
  if runTo s a - a < 1 ∨ 9 < runTo s a - a ∨ (1 < runTo s a - a ∧ bat s a = 48) ∨ most < valD s a (runTo s a - a) then (0, a, false) else (valD s a (runTo s a - a), runTo s a, true)
/-- The tail of a text. -/
def tailB (s : ByteArray) (a : Nat) : ByteArray := s.extract a s.size
theorem tail_size {s : ByteArray} {a : Nat} (h : a ≤ s.size) : (tailB s a).size = s.size - a := by
  simp [tailB]
theorem tail_bat {s : ByteArray} {a : Nat} (h : a ≤ s.size) (i : Nat) : bat (tailB s a) i = bat s (a + i) := by
  have e : (tailB s a).data.toList = s.data.toList.drop a := by
    simp only [tailB, ByteArray.data_extract, Array.toList_extract, List.extract_eq_take_drop]
    rw [List.take_of_length_le]
    simp
  unfold bat
  rw [e, List.getElem?_drop]
theorem tail_dgB {s : ByteArray} {a : Nat} (h : a ≤ s.size) (i : Nat) : dgB (tailB s a) i = dgB s (a + i) := by
  unfold dgB; rw [tail_bat h]
theorem tail_runT {s : ByteArray} {a : Nat} (h : a ≤ s.size) : ∀ (f i : Nat), a + runT (tailB s a) f i = runT s f (a + i)
  | 0, i => rfl
  | f + 1, i => by
    rw [runT, runT, tail_dgB h]
    split
    · rw [tail_runT h f (i + 1)]; rfl
    · rfl
theorem tail_runTo {s : ByteArray} {a : Nat} (h : a ≤ s.size) (i : Nat) : a + runTo (tailB s a) i = runTo s (a + i) := by
  unfold runTo
  rw [tail_size h, tail_runT h, show s.size - a - i = s.size - (a + i) by omega]
theorem tail_val {s : ByteArray} {a : Nat} (h : a ≤ s.size) (i : Nat) : ∀ k, valD (tailB s a) i k = valD s (a + i) k
  | 0 => rfl
  | k + 1 => by
    rw [valD, valD, tail_val h i k, tail_bat h, show a + (i + k) = a + i + k by omega]
theorem tail_num {s : ByteArray} {a : Nat} (h : a ≤ s.size) (most : Int) : (numF (tailB s a) 0 most).1 = (numF s a most).1 ∧ a + (numF (tailB s a) 0 most).2.1 = (numF s a most).2.1 ∧ (numF (tailB s a) 0 most).2.2 = (numF s a most).2.2 := by
  have h1 := tail_runTo h 0
  have h2 : runTo (tailB s a) 0 - 0 = runTo s a - a := by rw [Nat.add_zero] at h1; omega
  unfold numF
  rw [h2, tail_val h 0, Nat.add_zero, tail_bat h 0, Nat.add_zero]
  split
  · exact ⟨rfl, rfl, rfl⟩
  · exact ⟨rfl, by simpa using h1, rfl⟩
/-- An event. -/
structure Ev where
  kind : Int
  agent : Int
  entry : ByteArray
  n : Int
  keep : List Bool
def ev0 : Ev := ⟨0, 0, ⟨#[]⟩, 0, []⟩
instance : DecidableEq Ev := fun a b => decidable_of_iff (a.kind = b.kind ∧ a.agent = b.agent ∧ a.entry = b.entry ∧ a.n = b.n ∧ a.keep = b.keep) (by cases a; cases b; simp)
/-- Does a text begin with a word? -/
def begB (s : ByteArray) (w : List UInt8) : Bool := decide (s.data.toList.take w.length = w)
def wTick : List UInt8 := [116, 105, 99, 107, 32]
def wFuse : List UInt8 := [102, 117, 115, 101, 32]
def wCrash : List UInt8 := [99, 114, 97, 115, 104, 32]
/-- A number and nothing else, from a place on. -/
def wholeF (s : ByteArray) (a : Nat) : Option Int :=
  if (numF s a 999999999).2.2 && decide ((numF s a 999999999).2.1 = s.size) then some (numF s a 999999999).1 else none
/-- The bits from a place on, up to another. -/
def bitsF (s : ByteArray) (a : Nat) (k : Nat) : List Bool := (List.range k).map fun j => decide (bat s (a + j) = 49)
/-- What stands behind 'crash '. -/
def crashTo (s : ByteArray) : Nat := if bat s 6 = 45 ∧ 6 < s.size then 7 else runTo s 6
def crashF (s : ByteArray) : Option Ev :=
  if bat s 6 = 45 ∧ 6 < s.size ∨ (6 < runTo s 6 ∧ ∀ j, j < runTo s 6 → 6 ≤ j → bat s j ≤ 49) then
    let keep := if bat s 6 = 45 ∧ 6 < s.size then [] else bitsF s 6 (runTo s 6 - 6)
    if crashTo s = s.size then some ⟨3, 0, ⟨#[]⟩, 0, keep⟩
    else if bat s (crashTo s) = 32 then
      match wholeF s (crashTo s + 1) with
      | some n => if 0 < n then some ⟨3, 0, ⟨#[]⟩, n, keep⟩ else none
      | none => none
    else none
  else none
def noLf (s : ByteArray) : Bool := decide (∀ j, j < s.size → bat s j ≠ 10)
/-- The event of a line. -/
def parseF (s : ByteArray) : Option Ev :=
  if begB s wTick then (wholeF s 5).map fun n => ⟨2, 0, ⟨#[]⟩, n, []⟩
  else if begB s wFuse then (wholeF s 5).map fun n => ⟨4, 0, ⟨#[]⟩, n, []⟩
  else if begB s wCrash then crashF s
  else if (numF s 0 99).2.2 && (decide ((numF s 0 99).2.1 < s.size) && (decide (bat s (numF s 0 99).2.1 = 32) && noLf s)) then some ⟨1, (numF s 0 99).1, tailB s ((numF s 0 99).2.1 + 1), 0, []⟩
  else none
theorem numF_bd {s : ByteArray} {a : Nat} {most : Int} (h : (numF s a most).2.2 = true) : 0 ≤ (numF s a most).1 ∧ (numF s a most).1 ≤ most := by
  unfold numF at h ⊢
  split at h
  · cases h
  · rename_i hc
    rw [if_neg hc]
    have := (valD_bd (s := s) (a := a) (runTo s a - a) (fun j hj => runTo_all (i := a) (a + j) (by omega) (by omega))).1
    exact ⟨this, by simp only; omega⟩
theorem whole_bd {s : ByteArray} {a : Nat} {n : Int} (h : wholeF s a = some n) : 0 ≤ n ∧ n ≤ 999999999 := by
  unfold wholeF at h
  split at h
  · rename_i hc
    injection h with h
    subst h
    simp only [Bool.and_eq_true] at hc
    exact numF_bd hc.1
  · cases h
theorem parse_bd {s : ByteArray} {x : Ev} (h : parseF s = some x) : 0 ≤ x.n ∧ x.n ≤ 999999999 ∧ 0 ≤ x.agent ∧ x.agent ≤ 99 := by
  unfold parseF at h
  split at h
  · obtain ⟨n, hn, rfl⟩ := Option.map_eq_some_iff.1 h
    have := whole_bd hn
    exact ⟨this.1, this.2, (by simp), (by simp)⟩
  split at h
  · obtain ⟨n, hn, rfl⟩ := Option.map_eq_some_iff.1 h
    have := whole_bd hn
    exact ⟨this.1, this.2, (by simp), (by simp)⟩
  split at h
  · unfold crashF at h
    split at h
    · dsimp only at h
      split at h
      · injection h with h; subst h; exact ⟨(by simp), (by simp), (by simp), (by simp)⟩
      · split at h
        · split at h
          · rename_i n hn
            split at h
            · injection h with h; subst h
              have := whole_bd hn
              exact ⟨this.1, this.2, (by simp), (by simp)⟩
            · cases h
          · cases h
        · cases h
    · cases h
  split at h
  · rename_i hc
    injection h with h; subst h
    simp only [Bool.and_eq_true] at hc
    have := numF_bd hc.1
    exact ⟨(by simp), (by simp), this.1, this.2⟩
  · cases h
/-- What the line of an event would be: the program's text, the document's. -/
def bitL (l : List Bool) : List UInt8 := l.map fun b => if b then 49 else 48
def crashL (e : Ev) (d : List UInt8) : List UInt8 := wCrash ++ (if e.keep = [] then [45] else bitL e.keep) ++ (if e.n = 0 then [] else 32 :: d)
def textF (e : Ev) : ByteArray :=
  ⟨(if e.kind = 2 then wTick ++ Lib.itoa e.n else if e.kind = 4 then wFuse ++ Lib.itoa e.n else if e.kind = 3 then crashL e (Lib.itoa e.n) else Lib.itoa e.agent ++ 32 :: e.entry.data.toList).toArray⟩
def digF (n most : Int) : List UInt8 := if n < 0 ∨ most < n then [] else Lib.decDigits n.toNat
def lineL (e : Ev) : ByteArray :=
  ⟨(if e.kind = 2 then wTick ++ digF e.n 999999999 else if e.kind = 4 then wFuse ++ digF e.n 999999999 else if e.kind = 3 then crashL e (digF e.n 999999999) else if e.agent < 0 ∨ 99 < e.agent then [] else digF e.agent 99 ++ 32 :: e.entry.data.toList).toArray⟩
theorem text_line {e : Ev} (h1 : 0 ≤ e.n) (h2 : e.n ≤ 999999999) (h3 : 0 ≤ e.agent) (h4 : e.agent ≤ 99) : textF e = lineL e := by
  have e1 : Lib.itoa e.n = digF e.n 999999999 := by unfold Lib.itoa digF; rw [if_neg (by omega), if_neg (by omega)]
  have e2 : Lib.itoa e.agent = digF e.agent 99 := by unfold Lib.itoa digF; rw [if_neg (by omega), if_neg (by omega)]
  unfold textF lineL
  rw [e1, e2, if_neg (show ¬ (e.agent < 0 ∨ 99 < e.agent) by omega)]
/-- The line of an event, by a text that is tried. -/
def printF (f : Ev → ByteArray) (e : Ev) : Option ByteArray := if parseF (f e) = some e then some (f e) else none
theorem print_same (e : Ev) : printF textF e = printF lineL e := by
  unfold printF
  by_cases h : 0 ≤ e.n ∧ e.n ≤ 999999999 ∧ 0 ≤ e.agent ∧ e.agent ≤ 99
  · rw [text_line h.1 h.2.1 h.2.2.1 h.2.2.2]
  · rw [if_neg (fun hp => h (parse_bd hp)), if_neg (fun hp => h (parse_bd hp))]
end Go.Proofs.YtggomjfllbljeaaGreatDoor
namespace Go.Proofs.YtggomjfllbljeaaGreatDoor
set_option linter.unusedVariables false
open Go Go.RowKit
/-- The bytes of a text. -/
def bl (s : ByteArray) : List UInt8 := s.data.toList
theorem bl_size (s : ByteArray) : (bl s).length = s.size := Array.length_toList
theorem bl_get {s : ByteArray} {i : Nat} (h : i < s.size) : (bl s)[i]? = some (UInt8.ofNat (bat s i).toNat) := by
  have hl : i < (bl s).length := by rw [bl_size]; exact h
  rw [List.getElem?_eq_getElem hl]
  have e : bat s i = ((bl s)[i].toNat : Int) := by
    unfold bat
    have : s.data.toList[i]? = some (bl s)[i] := List.getElem?_eq_getElem hl
    rw [this]
    rfl
  rw [e]
  congr 1
  apply UInt8.toNat_inj.1
  simp
theorem bl_eq {s : ByteArray} {i : Nat} {v : Nat} (h : i < s.size) (hv : bat s i = v) : (bl s)[i]? = some (UInt8.ofNat v) := by
  rw [bl_get h, hv]; rfl
theorem drop_cons {s : ByteArray} {i v : Nat} (h : i < s.size) (hv : bat s i = v) : (bl s).drop i = UInt8.ofNat v :: (bl s).drop (i + 1) := by
  rw [List.drop_eq_getElem_cons (by rw [bl_size]; exact h)]
  have e := bl_eq h hv
  rw [List.getElem?_eq_getElem (by rw [bl_size]; exact h)] at e
  injection e with e
  rw [e]
/-- The digits of a number without a leading nought are its decimal digits. -/
theorem dec_val {s : ByteArray} {a : Nat} : ∀ k, a + (k + 1) ≤ s.size → (∀ j, j < k + 1 → dgB s (a + j) = true) → (0 < k → bat s a ≠ 48) → Lib.decDigits (valD s a (k + 1)).toNat = ((bl s).drop a).take (k + 1)
  | 0, hs, hd, _ => by
    have h0 := hd 0 (by omega)
    simp only [dgB, Bool.and_eq_true, decide_eq_true_eq, Nat.add_zero] at h0
    have e : valD s a 1 = bat s a - 48 := by simp [valD]
    rw [e, Lib.decDigits, dif_pos (by omega)]
    obtain ⟨v, hv⟩ : ∃ v : Nat, bat s a = v := ⟨(bat s a).toNat, by omega⟩
    rw [drop_cons (by omega) hv, show 0 + 1 = 1 from rfl, List.take_succ_cons, List.take_zero]
    congr 2
    omega
  | k + 1, hs, hd, h0 => by
    have ih := dec_val (s := s) (a := a) k (by omega) (fun j hj => hd j (by omega)) (fun _ => h0 (by omega))
    have hk := hd (k + 1) (by omega)
    simp only [dgB, Bool.and_eq_true, decide_eq_true_eq] at hk
    have hv0 := valD_bd (s := s) (a := a) (k + 1) (fun j hj => hd j (by omega))
    have hpos : 0 < valD s a (k + 1) := by
      have hq := hd 0 (by omega)
      simp only [dgB, Bool.and_eq_true, decide_eq_true_eq, Nat.add_zero] at hq
      have hne := h0 (by omega)
      have key : ∀ m, m ≤ k → 0 < valD s a (m + 1) := fun m => by
        induction m with
        | zero => intro _; simp only [valD, Nat.add_zero]; omega
        | succ m ihm =>
          intro hm
          have h1 := ihm (by omega)
          have h2 := hd (m + 1) (by omega)
          simp only [dgB, Bool.and_eq_true, decide_eq_true_eq] at h2
          rw [valD]
          omega
      exact key k (Nat.le_refl _)
    have e : valD s a (k + 1 + 1) = valD s a (k + 1) * 10 + (bat s (a + (k + 1)) - 48) := rfl
    obtain ⟨v, hv⟩ : ∃ v : Nat, valD s a (k + 1) = v := ⟨(valD s a (k + 1)).toNat, by omega⟩
    obtain ⟨c, hc⟩ : ∃ c : Nat, bat s (a + (k + 1)) = c := ⟨(bat s (a + (k + 1))).toNat, by omega⟩
    rw [hv] at ih hpos e
    rw [hc] at e hk
    rw [e, show ((v : Int) * 10 + ((c : Int) - 48)).toNat = v * 10 + (c - 48) by omega, Lib.decDigits, dif_neg (by omega), show (v * 10 + (c - 48)) / 10 = v by omega, show (v * 10 + (c - 48)) % 10 = c - 48 by omega]
    rw [show ((v : Int)).toNat = v from rfl] at ih
    rw [ih, show ((bl s).drop a).take (k + 1 + 1) = ((bl s).drop a).take (k + 1) ++ ((bl s).drop a)[k + 1]?.toList from List.take_add_one]
    congr 1
    rw [List.getElem?_drop, bl_eq (by omega) hc]
    show _ = [UInt8.ofNat c]
    rw [show 48 + (c - 48) = c by omega]
theorem num_dec {s : ByteArray} {a : Nat} {most : Int} (ha : a ≤ s.size) (h : (numF s a most).2.2 = true) : Lib.itoa (numF s a most).1 = ((bl s).drop a).take ((numF s a most).2.1 - a) ∧ a < (numF s a most).2.1 ∧ (numF s a most).2.1 ≤ s.size := by
  have hb := runTo_bd ha
  have h0 := numF_bd h
  unfold numF at h h0 ⊢
  split at h
  · cases h
  · rename_i hc
    rw [if_neg hc] at h0 ⊢
    dsimp only at h0 ⊢
    obtain ⟨k, hk⟩ : ∃ k, runTo s a - a = k + 1 := ⟨runTo s a - a - 1, by omega⟩
    have e := dec_val (s := s) (a := a) k (by omega) (fun j hj => runTo_all (i := a) (a + j) (by omega) (by omega)) (fun h1 h2 => hc (.inr (.inr (.inl ⟨by omega, h2⟩))))
    refine ⟨?_, by omega, hb.2⟩
    rw [hk] at h0 ⊢
    unfold Lib.itoa
    rw [if_neg (by omega)]
    exact e
theorem whole_dec {s : ByteArray} {a : Nat} {n : Int} (ha : a ≤ s.size) (h : wholeF s a = some n) : Lib.itoa n = (bl s).drop a := by
  unfold wholeF at h
  split at h
  · rename_i hc
    injection h with h
    subst h
    simp only [Bool.and_eq_true, decide_eq_true_eq] at hc
    obtain ⟨h1, h2, h3⟩ := num_dec ha hc.1
    rw [h1, hc.2, List.take_of_length_le]
    rw [List.length_drop, bl_size]
    omega
  · cases h
theorem beg_split {s : ByteArray} {w : List UInt8} (h : begB s w = true) : bl s = w ++ (bl s).drop w.length ∧ w.length ≤ s.size := by
  unfold begB at h
  simp only [decide_eq_true_eq] at h
  have e : (bl s).take w.length = w := h
  refine ⟨?_, ?_⟩
  · conv => lhs; rw [← List.take_append_drop w.length (bl s)]
    rw [e]
  · have := congrArg List.length e
    rw [List.length_take, bl_size] at this
    omega
theorem of_list {s : ByteArray} {l : List UInt8} (h : bl s = l) : (⟨l.toArray⟩ : ByteArray) = s := by
  subst h
  unfold bl
  rfl
theorem bits_dec {s : ByteArray} {a : Nat} : ∀ k, a + k ≤ s.size → (∀ j, j < k → bat s (a + j) = 48 ∨ bat s (a + j) = 49) → bitL (bitsF s a k) = ((bl s).drop a).take k
  | 0, _, _ => rfl
  | k + 1, hs, hd => by
    have ih := bits_dec (s := s) (a := a) k (by omega) (fun j hj => hd j (by omega))
    unfold bitsF bitL at ih ⊢
    rw [List.range_succ, List.map_append, List.map_append, ih, List.take_add_one]
    congr 1
    rw [List.getElem?_drop]
    rcases hd k (by omega) with h | h
    · rw [bl_eq (v := 48) (by omega) h]
      simp [h]
    · rw [bl_eq (v := 49) (by omega) h]
      simp [h]
set_option maxHeartbeats 1000000 in
theorem crash_dec {s : ByteArray} {x : Ev} (hb : begB s wCrash = true) (h : crashF s = some x) : textF x = s := by
  obtain ⟨h1, h2⟩ := beg_split hb
  have h2' : 6 ≤ s.size := h2
  have hb6 := runTo_bd h2'
  unfold crashF at h
  split at h
  case isFalse => cases h
  rename_i hc
  dsimp only at h
  -- what stands up to the end of the bits
  obtain ⟨K, hK, hK2⟩ : ∃ K : List Bool, K = (if bat s 6 = 45 ∧ 6 < s.size then [] else bitsF s 6 (runTo s 6 - 6)) ∧ (if K = [] then [45] else bitL K) = ((bl s).drop 6).take (crashTo s - 6) ∧ 6 ≤ crashTo s ∧ crashTo s ≤ s.size := by
    refine ⟨_, rfl, ?_⟩
    by_cases hd : bat s 6 = 45 ∧ 6 < s.size
    · rw [if_pos hd, if_pos rfl]
      have e : crashTo s = 7 := by unfold crashTo; rw [if_pos hd]
      rw [e, drop_cons (v := 45) hd.2 hd.1]
      refine ⟨rfl, by omega, by omega⟩
    · rw [if_neg hd]
      have e : crashTo s = runTo s 6 := by unfold crashTo; rw [if_neg hd]
      rcases hc with hc | hc
      · exact absurd hc hd
      have hne : bitsF s 6 (runTo s 6 - 6) ≠ [] := by
        intro h0
        have := congrArg List.length h0
        simp [bitsF] at this
        omega
      rw [if_neg hne, e]
      refine ⟨bits_dec _ (by omega) (fun j hj => ?_), hb6.1, hb6.2⟩
      have hd1 := runTo_all (s := s) (i := 6) (6 + j) (by omega) (by omega)
      have hd2 := hc.2 (6 + j) (by omega) (by omega)
      simp only [dgB, Bool.and_eq_true, decide_eq_true_eq] at hd1
      omega
  rw [← hK] at h
  have e6 : (bl s).drop 6 = ((bl s).drop 6).take (crashTo s - 6) ++ (bl s).drop (crashTo s) := by
    conv => lhs; rw [← List.take_append_drop (crashTo s - 6) ((bl s).drop 6)]
    rw [List.drop_drop, show 6 + (crashTo s - 6) = crashTo s by omega]
  have h1' : bl s = wCrash ++ (bl s).drop 6 := h1
  split at h
  · rename_i he
    injection h with h
    subst h
    refine of_list ?_
    show _ = crashL _ _
    unfold crashL
    dsimp only
    rw [if_pos rfl, hK2.1, List.append_nil]
    have e7 : (bl s).drop (crashTo s) = [] := List.drop_of_length_le (by rw [bl_size, he]; exact Nat.le_refl _)
    rw [e7, List.append_nil] at e6
    rw [← e6]
    exact h1'
  · rename_i he
    split at h
    case isFalse => cases h
    rename_i h32
    split at h
    case h_2 => cases h
    rename_i n hn
    split at h
    case isFalse => cases h
    rename_i hpos
    injection h with h
    subst h
    have hlt : crashTo s < s.size := by omega
    refine of_list ?_
    show _ = crashL _ _
    unfold crashL
    dsimp only
    rw [if_neg (show ¬ n = 0 by omega), hK2.1, whole_dec (by omega) hn, show (32 : UInt8) = UInt8.ofNat 32 from rfl, ← drop_cons (v := 32) hlt h32, List.append_assoc, ← e6]
    exact h1'
theorem parse_text {s : ByteArray} {x : Ev} (h : parseF s = some x) : textF x = s := by
  unfold parseF at h
  split at h
  · rename_i hb
    obtain ⟨n, hn, rfl⟩ := Option.map_eq_some_iff.1 h
    obtain ⟨h1, h2⟩ := beg_split hb
    refine of_list ?_
    show _ = wTick ++ Lib.itoa n
    rw [whole_dec h2 hn]
    exact h1
  split at h
  · rename_i hb
    obtain ⟨n, hn, rfl⟩ := Option.map_eq_some_iff.1 h
    obtain ⟨h1, h2⟩ := beg_split hb
    refine of_list ?_
    show _ = wFuse ++ Lib.itoa n
    rw [whole_dec h2 hn]
    exact h1
  split at h
  · rename_i hb
    exact crash_dec hb h
  split at h
  · rename_i hc
    injection h with h
    subst h
    simp only [Bool.and_eq_true, decide_eq_true_eq] at hc
    obtain ⟨c1, c2, c3, _⟩ := hc
    obtain ⟨h1, h2, h3⟩ := num_dec (Nat.zero_le _) c1
    refine of_list ?_
    show _ = Lib.itoa _ ++ 32 :: (tailB s _).data.toList
    have e : (tailB s ((numF s 0 99).2.1 + 1)).data.toList = (bl s).drop ((numF s 0 99).2.1 + 1) := by
      simp only [tailB, ByteArray.data_extract, Array.toList_extract, List.extract_eq_take_drop]
      rw [List.take_of_length_le]
      · rfl
      · simp
    rw [e, show (32 : UInt8) = UInt8.ofNat 32 from rfl, ← drop_cons (v := 32) c2 c3, h1, List.drop_zero, Nat.sub_zero, List.take_append_drop]
  · cases h
/-- A line that is read is not empty, and begins with no '#'. -/
theorem parse_head {s : ByteArray} {x : Ev} (h : parseF s = some x) : 0 < s.size ∧ bat s 0 ≠ 35 := by
  have hw : ∀ (w : List UInt8) (c : UInt8) (r : List UInt8), w = c :: r → c ≠ 35 → begB s w = true → 0 < s.size ∧ bat s 0 ≠ 35 := fun w c r hw hc hb => by
    obtain ⟨h1, h2⟩ := beg_split hb
    subst hw
    simp only [List.length_cons] at h2
    refine ⟨by omega, fun h0 => ?_⟩
    have e := bl_eq (v := 35) (show 0 < s.size by omega) h0
    rw [h1] at e
    simp only [List.cons_append, List.getElem?_cons_zero] at e
    injection e with e
    exact hc e
  unfold parseF at h
  split at h
  · rename_i hb; exact hw wTick _ _ rfl (by decide) hb
  split at h
  · rename_i hb; exact hw wFuse _ _ rfl (by decide) hb
  split at h
  · rename_i hb; exact hw wCrash _ _ rfl (by decide) hb
  split at h
  · rename_i hc
    simp only [Bool.and_eq_true, decide_eq_true_eq] at hc
    obtain ⟨h1, h2, h3⟩ := num_dec (Nat.zero_le _) hc.1
    have hd : dgB s 0 = true := by
      have hc1 := hc.1
      unfold numF at hc1 h2
      split at hc1
      · cases hc1
      · rename_i hq
        rw [if_neg hq] at h2
        exact runTo_all (i := 0) 0 (Nat.le_refl _) (by simpa using h2)
    simp only [dgB, Bool.and_eq_true, decide_eq_true_eq] at hd
    exact ⟨by omega, by omega⟩
  · cases h
end Go.Proofs.YtggomjfllbljeaaGreatDoor
namespace Go.Proofs.YtggomjfllbljeaaGreatDoor
set_option linter.unusedVariables false
open Go Go.RowKit
theorem tail_le (s : ByteArray) (a : Nat) : (tailB s a).size ≤ s.size := by
  simp [tailB]
theorem parse_kind {s : ByteArray} {x : Ev} (h : parseF s = some x) : x.entry.size ≤ s.size ∧ (x.kind = 3 ∨ x.keep = []) := by
  have he : (⟨#[]⟩ : ByteArray).size ≤ s.size := Nat.zero_le _
  unfold parseF at h
  split at h
  · obtain ⟨_, _, rfl⟩ := Option.map_eq_some_iff.1 h; exact ⟨he, .inr rfl⟩
  split at h
  · obtain ⟨_, _, rfl⟩ := Option.map_eq_some_iff.1 h; exact ⟨he, .inr rfl⟩
  split at h
  · unfold crashF at h
    split at h
    · dsimp only at h
      split at h
      · injection h with h; subst h; exact ⟨he, .inl rfl⟩
      · split at h
        · split at h
          · split at h
            · injection h with h; subst h; exact ⟨he, .inl rfl⟩
            · cases h
          · cases h
        · cases h
    · cases h
  split at h
  · injection h with h; subst h; exact ⟨tail_le _ _, .inr rfl⟩
  · cases h
theorem parse_len {s : ByteArray} {x : Ev} (h : parseF s = some x) : x.entry.size ≤ s.size ∧ x.keep.length ≤ s.size := by
  obtain ⟨h1, h2⟩ := parse_kind h
  refine ⟨h1, ?_⟩
  rcases h2 with hk | hk
  · have h := congrArg ByteArray.size (parse_text h)
    have e : (textF x).size = (if x.kind = 2 then wTick ++ Lib.itoa x.n else if x.kind = 4 then wFuse ++ Lib.itoa x.n else if x.kind = 3 then crashL x (Lib.itoa x.n) else Lib.itoa x.agent ++ 32 :: x.entry.data.toList).length := rfl
    rw [e, if_neg (by omega), if_neg (by omega), if_pos hk] at h
    unfold crashL at h
    by_cases hke : x.keep = []
    · rw [hke]; simp
    · rw [if_neg hke, List.length_append, List.length_append] at h
      have : (bitL x.keep).length = x.keep.length := by unfold bitL; rw [List.length_map]
      omega
  · rw [hk]; simp
/-- What the line of an event reads back. -/
theorem print_parse {x : Ev} {s : ByteArray} (h : printF textF x = some s) : parseF s = some x := by
  unfold printF at h
  split at h
  · rename_i hp; injection h with h; subst h; exact hp
  · cases h
theorem print_text {x : Ev} {s : ByteArray} (h : printF textF x = some s) : s = textF x := by
  unfold printF at h
  split at h
  · injection h with h; exact h.symm
  · cases h
theorem parse_print {x : Ev} {s : ByteArray} (h : parseF s = some x) : printF textF x = some s := by
  unfold printF
  rw [parse_text h, if_pos h]
end Go.Proofs.YtggomjfllbljeaaGreatDoor
