/- Package plan: the letters of a text; where a byte is in a text; which seat comes first. -/
import Derived.Test.YtlkdefmceghmnaaGreatDoorFlRight
import Derived.Test.YtlkdefmceghmnaaGreatDoorQuietB
import Derived.Laws.Externs
import Derived.Laws.Runes
namespace Go.Proofs.YtlkdefmceghmnaaGreatDoor
set_option linter.unusedVariables false
open Go Go.RowKit
attribute [local go_sem] bat_get
/-- A seat. -/
structure Sit where
  row : Int
  let_ : Int
instance : DecidableEq Sit := fun a b => decidable_of_iff (a.row = b.row ∧ a.let_ = b.let_) (by cases a; cases b; simp)
def Sit.ok (s : Sit) : Prop := okInt s.row ∧ okByte s.let_
def tSit : Ty Sit := ⟨fun s => [.int .i64 s.row, .int .u8 s.let_], 2, Sit.ok, fun _ => rfl, fun x u h => by simp at h; rcases h with h | h <;> subst h <;> rfl, by omega⟩
theorem Sl.sit_ {w : World} {lo hi n k : Nat} {A : Option Addr} {l : List Sit} (h : Sl w lo hi tSit A n l) (hk : k < n) :
    ∃ b o x, A = some ⟨b, o, none⟩ ∧ lo ≤ b ∧ b < hi ∧ Hid (l[k]? = some x) ∧ Sit.ok x ∧ w.cell? ⟨b, o + k * 2, none⟩ = some (.int .i64 x.row) ∧ w.cell? ⟨b, o + k * 2 + 1, none⟩ = some (.int .u8 x.let_) := by
  obtain ⟨b, o, x, h1, h2, h3, h4, h5, hc⟩ := h.at_ hk
  exact ⟨b, o, x, h1, h2, h3, h4, h5, by simpa [tSit] using hc 0 _ rfl, hc 1 _ rfl⟩
/-- Where a byte is in a text. -/
def atI (l : ByteArray) (c : Int) : Int := firstIdx l c.toNat.toUInt8
theorem atI_bd (l : ByteArray) (c : Int) : -1 ≤ atI l c ∧ atI l c < l.size := by
  unfold atI firstIdx
  split
  · rename_i i h
    have := List.mem_range.1 (List.mem_of_find?_eq_some h)
    omega
  · omega
set_option maxRecDepth 100000 in
theorem index_any (s : ByteArray) (c : Int) (w : World) :
    Calls Tryz.prog 69 #[.string s, .int .u8 c] w fun e w' => e = .returned (.int .i64 (atI s c)) ∧ w = w' := by
  have h1 : Calls Tryz.prog 87 #[.string s, .int .u8 c] w fun e w' => e = .returned (.int .i64 (atI s c)) ∧ w = w' := by
    go_enter Tryz.func87, Tryz.ntmps87
    go_wp2
    rw [run_callFunc_extern Tryz.func95 (by kernel_rfl) (by kernel_rfl) (by kernel_rfl) (e := Extern.BytealgIndexByte.indexByte) (by kernel_rfl), run_indexByte_string s c w]
    simp only [Result.andThen]
    rw [Oper.upon_value]
    go_wp2
    go_ret
    exact ⟨rfl, rfl⟩
  go_enter Tryz.func69, Tryz.ntmps69
  go_wp2_with fail
  refine h1.mono ?_
  rintro e w' ⟨rfl, rfl⟩
  go_wp2
  go_ret
  exact ⟨rfl, rfl⟩
/-- Which seat comes first. -/
def ltSit (a b : Sit) : Bool := decide (a.row < b.row) || (decide (a.row = b.row) && decide (a.let_ < b.let_))
set_option maxRecDepth 100000 in
theorem less_is (a b : Sit) {q : Bool} (hq : ltSit a b = q) (w : World) :
    Calls Tryz.prog 70 #[.agg #[.int .i64 a.row, .int .u8 a.let_], .agg #[.int .i64 b.row, .int .u8 b.let_]] w fun e w' => e = .returned (.bool q) ∧ Below w.heap.size w w' := by
  have HQ := Lib.hid hq
  obtain ⟨ar, al⟩ := a
  obtain ⟨br, bl⟩ := b
  dsimp only
  have HB : (Bx ((w.alloc (.cells #[.int .i64 ar, .int .u8 al] 82)).alloc (.cells #[.int .i64 br, .int .u8 bl] 82)) w.heap.size #[.int .i64 ar, .int .u8 al] 82 ∧ Bx ((w.alloc (.cells #[.int .i64 ar, .int .u8 al] 82)).alloc (.cells #[.int .i64 br, .int .u8 bl] 82)) (w.heap.size + 1) #[.int .i64 br, .int .u8 bl] 82) ∧ Below w.heap.size w ((w.alloc (.cells #[.int .i64 ar, .int .u8 al] 82)).alloc (.cells #[.int .i64 br, .int .u8 bl] 82)) := by
    have h := two_boxes w #[.int .i64 ar, .int .u8 al] #[.int .i64 br, .int .u8 bl] 82 82
    exact ⟨⟨h.1, h.2.1⟩, h.2.2.below⟩
  clear hq
  go_enter Tryz.func70, Tryz.ntmps70
  go_upto_region 1 with fail
  refine wp_world (fun V => (Bx V w.heap.size #[.int .i64 ar, .int .u8 al] 82 ∧ Bx V (w.heap.size + 1) #[.int .i64 br, .int .u8 bl] 82) ∧ Below w.heap.size w V) HB ?_
  clear HB
  rintro V ⟨⟨b1, b2⟩, hb⟩
  have c1 := b1.cells
  have c2 := b2.cells
  by_cases h1 : ar < br
  · have t1 : decide (ar < br) = true := decide_eq_true h1
    have HE := Lib.hid (show q = true by have h := HQ.out; unfold ltSit at h; rw [t1] at h; exact h.symm)
    clear h1
    go_wp2
    go_ret
    exact ⟨ret_bool HE.out.symm, hb⟩
  · have t1 : decide (ar < br) = false := decide_eq_false h1
    by_cases h2 : ar = br
    · have t2 : (ar == br) = true := by simp [h2]
      have HE := Lib.hid (show q = decide (al < bl) by have h := HQ.out; unfold ltSit at h; rw [t1, decide_eq_true h2] at h; simpa using h.symm)
      clear h1 h2
      go_wp2
      go_ret
      exact ⟨ret_bool HE.out.symm, hb⟩
    · have t2 : (ar == br) = false := by simp [h2]
      have HE := Lib.hid (show q = false by have h := HQ.out; unfold ltSit at h; rw [t1, decide_eq_false h2] at h; simpa using h.symm)
      clear h1 h2
      go_wp2
      go_ret
      exact ⟨ret_bool HE.out.symm, hb⟩
/-- One byte more of a text of letters and points: the letters so far, or it isn't right. -/
def letS (s l : ByteArray) (i : Nat) : Option ByteArray :=
  (if bat s i = 46 then (if i = 0 ∨ i + 1 = s.size ∨ bat s (i - 1) = 46 then none else some l)
   else if isL (bat s i) = false ∨ (l.size ≠ 0 ∧ bat s i ≤ bat l (l.size - 1)) then none else some (l ++ ⟨#[UInt8.ofNat (bat s i).toNat]⟩)).bind fun m => if 10 < m.size then none else some m
def letL (s : ByteArray) : Nat → Option ByteArray
  | 0 => some ⟨#[]⟩
  | k + 1 => (letL s k).bind fun l => letS s l k
theorem letL_none {s : ByteArray} {k : Nat} (h : letL s k = none) : ∀ n, k ≤ n → letL s n = none
  | 0, hn => by obtain rfl : k = 0 := by omega
                exact h
  | n + 1, hn => by
    rcases Nat.lt_succ_iff_lt_or_eq.1 (Nat.lt_succ_of_le hn) with h1 | rfl
    · simp only [letL]
      rw [letL_none h n (by omega)]
      rfl
    · exact h
def letF (s : ByteArray) : ByteArray × Bool := match letL s s.size with | some l => (l, decide (l.size ≠ 0)) | none => (⟨#[]⟩, false)
theorem letF_none {s : ByteArray} {k : Nat} (hk : k ≤ s.size) (h : letL s k = none) : letF s = (⟨#[]⟩, false) := by unfold letF; rw [letL_none h _ hk]
theorem letF_some {s l : ByteArray} (h : letL s s.size = some l) : letF s = (l, decide (l.size ≠ 0)) := by unfold letF; rw [h]
theorem letS_size {s l m : ByteArray} {i : Nat} (h : letS s l i = some m) : m.size ≤ 10 := by
  unfold letS at h
  rw [Option.bind_eq_some_iff] at h
  obtain ⟨x, _, h2⟩ := h
  split at h2
  · cases h2
  · injection h2 with h2
    subst h2
    omega
theorem letL_size {s : ByteArray} : ∀ {k : Nat} {l : ByteArray}, letL s k = some l → l.size ≤ 10
  | 0, l, h => by injection h with h; subst h; decide
  | k + 1, l, h => by
    simp only [letL] at h
    rw [Option.bind_eq_some_iff] at h
    obtain ⟨x, _, h2⟩ := h
    exact letS_size h2
theorem sub65 (c : Int) (h0 : 0 ≤ c) (h1 : c ≤ 255) : decide ((c - 65) % 256 > 25) = !isL c := by
  unfold isL
  rw [Bool.eq_iff_iff]
  simp
  omega
theorem letS_dot {s l : ByteArray} {k : Nat} (h : bat s k = 46) : letS s l k = (if k = 0 ∨ k + 1 = s.size ∨ bat s (k - 1) = 46 then none else some l).bind fun m => if 10 < m.size then none else some m := by unfold letS; rw [if_pos h]
theorem letS_let {s l : ByteArray} {k : Nat} (h : bat s k ≠ 46) : letS s l k = (if isL (bat s k) = false ∨ (l.size ≠ 0 ∧ bat s k ≤ bat l (l.size - 1)) then none else some (l ++ ⟨#[UInt8.ofNat (bat s k).toNat]⟩)).bind fun m => if 10 < m.size then none else some m := by unfold letS; rw [if_neg h]
theorem size_one (c : UInt8) : (⟨#[c]⟩ : ByteArray).size = 1 := rfl
theorem bytes_append_size (a b : ByteArray) : (a ++ b).size = a.size + b.size := by simp
set_option maxRecDepth 100000 in
set_option maxHeartbeats 8000000 in
theorem letters_is (s : ByteArray) (w : World) (hs : s.size ≤ 9223372036854775807) {l0 : ByteArray} {q0 : Bool} (hq : letF s = (l0, q0)) :
    Calls Tryz.prog 43 #[.string s] w fun e w' => e = .returned (.tuple #[.string l0, .bool q0]) ∧ Below w.heap.size w w' := by
  have HQ := Lib.hid hq
  obtain ⟨w1, cc, hrun, hb, hz, hcell⟩ := bytes_of (P := Tryz.prog) w 9 108 5 s Tryz.underlying9 Tryz.underlying108 Tryz.underlying5
  have HC := Lib.hid hcell
  have HB := Lib.hid hb
  clear hcell hb hq
  go_enter Tryz.func43, Tryz.ntmps43
  go_wp2
  go_loopw [4, 5, 6, 10] (fun lv _ _ i wr => ∃ (k : Nat) (l : ByteArray), k ≤ s.size ∧ i = .int .i64 k ∧ lv = .string l ∧ Hid (letL s k = some l) ∧ Below w1.heap.size w1 wr) (fun _ _ _ i _ => s.size - (intOf i).toNat)
  case atStart => exact ⟨0, _, Nat.zero_le _, rfl, rfl, rfl, Below.refl _ _⟩
  case round =>
    obtain ⟨k, l, hk, rfl, rfl, HL, hb⟩ := hrel
    have HBR := Lib.hid (HB.out.trans (hb.mono HB.out.size))
    have hls := letL_size HL.out
    by_cases hlt : k < s.size
    · have c0 := (hb.cell (p := ⟨w.heap.size, k, none⟩) hz).trans (HC.out k hlt)
      have HST := Lib.hid (show letL s (k + 1) = letS s l k by simp only [letL]; rw [HL.out]; rfl)
      have hbd := bat_bd s k
      have i0 : (0 : Int) ≤ k := by omega
      have i1 : (k : Int) < s.size := by omega
      by_cases hd : bat s k = 46
      · have HS2 := Lib.hid (HST.out.trans (letS_dot hd))
        rw [hd] at c0
        clear hd hbd
        by_cases hk0 : k = 0
        · have HN := Lib.hid (HQ.out.symm.trans (letF_none (s := s) (k := k + 1) (by omega) (by rw [HS2.out, if_pos (.inl hk0)]; rfl)))
          subst hk0
          go_wp2
          all_goals first | (exfalso; omega) | (go_ret2; exact ⟨by have h := HN.out; rw [Prod.mk.injEq] at h; rw [h.1, h.2]; rfl, HBR.out⟩)
        obtain ⟨j, rfl⟩ : ∃ j, k = j + 1 := ⟨k - 1, by omega⟩
        have t0 : (((j + 1 : Nat) : Int) == 0) = false := by simp; omega
        by_cases hk1 : j + 1 + 1 = s.size
        · have HN := Lib.hid (HQ.out.symm.trans (letF_none (s := s) (k := j + 1 + 1) (by omega) (by rw [HS2.out, if_pos (.inr (.inl hk1))]; rfl)))
          have t1 : (((j + 1 : Nat) : Int) == (s.size : Int) - 1) = true := by simp; omega
          clear hk1
          go_wp2
          all_goals first | (exfalso; omega) | (go_ret2; exact ⟨by have h := HN.out; rw [Prod.mk.injEq] at h; rw [h.1, h.2]; rfl, HBR.out⟩)
        have t1 : (((j + 1 : Nat) : Int) == (s.size : Int) - 1) = false := by simp; omega
        have e1 : ((j + 1 : Nat) : Int) - 1 = (j : Int) := by omega
        by_cases hk2 : bat s j = 46
        · have HN := Lib.hid (HQ.out.symm.trans (letF_none (s := s) (k := j + 1 + 1) (by omega) (by rw [HS2.out, if_pos (.inr (.inr hk2))]; rfl)))
          have t2 : (bat s j == 46) = true := by simp [hk2]
          clear hk2
          go_wp2
          all_goals first | (exfalso; omega) | (go_ret2; exact ⟨by have h := HN.out; rw [Prod.mk.injEq] at h; rw [h.1, h.2]; rfl, HBR.out⟩)
        have t2 : (bat s j == 46) = false := by simp [hk2]
        have HL2 := Lib.hid (show letL s (j + 1 + 1) = some l by rw [HS2.out, if_neg (by simp [hk2]; omega)]; show (if 10 < l.size then none else some l) = _; rw [if_neg (by omega)])
        clear hk2
        have t3 : decide ((l.size : Int) > 10) = false := by simp; omega
        go_wp2
        all_goals first | (exfalso; omega) | exact ⟨⟨j + 1 + 1, l, by omega, by go_num, rfl, HL2, hb⟩, by simp [intOf]; omega⟩
      · have HS2 := Lib.hid (HST.out.trans (letS_let hd))
        have t0 : (bat s k == 46) = false := by simp [hd]
        obtain ⟨hb0, hb1⟩ := hbd
        have e65 := sub65 (bat s k) hb0 hb1
        generalize hch : bat s k = ch at c0 HS2 t0 hb0 hb1 e65
        have HCH := Lib.hid hch
        clear hd hch
        by_cases hl : isL ch = true
        rotate_left
        · have hl' : isL ch = false := by simpa using hl
          rw [hl'] at e65
          have HN := Lib.hid (HQ.out.symm.trans (letF_none (s := s) (k := k + 1) (by omega) (by rw [HS2.out, if_pos (.inl hl')]; rfl)))
          clear hl hl'
          go_wp2
          all_goals first | (exfalso; omega) | (go_ret2; exact ⟨by have h := HN.out; rw [Prod.mk.injEq] at h; rw [h.1, h.2]; rfl, HBR.out⟩)
        rw [hl] at e65
        have hsz : (⟨#[UInt8.ofNat ch.toNat]⟩ : ByteArray).size = 1 := rfl
        have hcv := fun W => one_byte (P := Tryz.prog) W 108 9 5 wr.heap.size ch hb0 hb1 Tryz.underlying108 Tryz.underlying5 Tryz.underlying9
        by_cases hl0 : l.size = 0
        · obtain rfl : l = ⟨#[]⟩ := by
            obtain ⟨⟨x⟩⟩ := l
            have : x = [] := List.eq_nil_of_length_eq_zero hl0
            rw [this]
          have HL2 := Lib.hid (show letL s (k + 1) = some (⟨#[]⟩ ++ ⟨#[UInt8.ofNat ch.toNat]⟩) by rw [HS2.out, if_neg (by rw [hl]; rintro (h | ⟨h, _⟩) <;> simp_all)]; rfl)
          clear hl hl0
          go_wp2
          all_goals first | (exfalso; omega) | exact ⟨⟨k + 1, _, by omega, by go_num, rfl, HL2, hb.alloc hb.size _⟩, by simp [intOf]; omega⟩
        · have e2 : l.toList.isEmpty = false := by rw [isEmpty_size]; simp [hl0]
          have e3 : (l.size : Int) - 1 = ((l.size - 1 : Nat) : Int) := by omega
          have e4 : l.size - 1 < l.size := by omega
          have hls1 : (l ++ ⟨#[UInt8.ofNat ch.toNat]⟩ : ByteArray).size = l.size + 1 := by rw [bytes_append_size]; rfl
          have hbb := bat_bd l (l.size - 1)
          by_cases hge : ch ≤ bat l (l.size - 1)
          · have HN := Lib.hid (HQ.out.symm.trans (letF_none (s := s) (k := k + 1) (by omega) (by rw [HS2.out, if_pos (.inr ⟨hl0, hge⟩)]; rfl)))
            clear hl
            go_wp2
            all_goals first | (exfalso; omega) | (go_ret2; exact ⟨by have h := HN.out; rw [Prod.mk.injEq] at h; rw [h.1, h.2]; rfl, HBR.out⟩) | (go_ret2; exact ⟨by have h := HN.out; rw [Prod.mk.injEq] at h; rw [h.1, h.2]; rfl, HBR.out.alloc HBR.out.size _⟩)
          by_cases hbig : l.size = 10
          · have HN := Lib.hid (HQ.out.symm.trans (letF_none (s := s) (k := k + 1) (by omega) (by rw [HS2.out, if_neg (by rw [hl]; rintro (h | ⟨_, h⟩); exact absurd h (by simp); exact hge h)]; show (if 10 < (l ++ ⟨#[UInt8.ofNat ch.toNat]⟩ : ByteArray).size then none else some _) = none; rw [if_pos (by omega)])))
            clear hl
            go_wp2
            all_goals first | (exfalso; omega) | (go_ret2; exact ⟨by have h := HN.out; rw [Prod.mk.injEq] at h; rw [h.1, h.2]; rfl, HBR.out⟩) | (go_ret2; exact ⟨by have h := HN.out; rw [Prod.mk.injEq] at h; rw [h.1, h.2]; rfl, HBR.out.alloc HBR.out.size _⟩)
          · have HL2 := Lib.hid (show letL s (k + 1) = some (l ++ ⟨#[UInt8.ofNat ch.toNat]⟩) by rw [HS2.out, if_neg (by rw [hl]; rintro (h | ⟨_, h⟩); exact absurd h (by simp); exact hge h)]; show (if 10 < (l ++ ⟨#[UInt8.ofNat ch.toNat]⟩ : ByteArray).size then none else some _) = some _; rw [if_neg (by omega)])
            clear hl
            go_wp2
            all_goals first | (exfalso; omega) | exact ⟨⟨k + 1, _, by omega, by go_num, rfl, HL2, hb.alloc hb.size _⟩, by simp [intOf]; omega⟩
    · obtain rfl : s.size = k := by omega
      have HN := Lib.hid (HQ.out.symm.trans (letF_some HL.out))
      go_wp2
      go_ret2
      have e4 : (!l.toList.isEmpty) = decide (l.size ≠ 0) := by rw [isEmpty_size]; simp
      exact ⟨by have h := HN.out; rw [Prod.mk.injEq] at h; rw [h.1, h.2, ← e4]; rfl, HBR.out⟩
end Go.Proofs.YtlkdefmceghmnaaGreatDoor
