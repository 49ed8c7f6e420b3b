/- Put together by program of: Pr1, Pr2, Pr3, Pr4z. -/
import Derived.Test.YtlkdefmceghmnaaGreatDoorMPn
import Derived.Test.YtlkdefmceghmnaaGreatDoorFlEq
import Derived.Test.YtlkdefmceghmnaaGreatDoorFCode
namespace Go.Proofs.YtlkdefmceghmnaaGreatDoor
set_option linter.unusedVariables false
open Go Go.RowKit Go.Sort
attribute [local go_sem] bat_get
set_option maxHeartbeats 1000000 in
theorem eqi_sit (d : Nat) (a0 b0 : Int) (a1 b1 : Int) (u : World) : (Op.equalIn (d + 2) 82 (.agg #[.int .i64 a0, .int .u8 a1]) (.agg #[.int .i64 b0, .int .u8 b1])).run Tryz.prog u = .ok (decide (a0 = b0) && (decide (a1 = b1))) u := by
  have uint := Tryz.underlying3
  have ubyte := Tryz.underlying5
  have hS : Tryz.prog.underlying 82 = some (.struct (Tryz.prog.fieldsOf 82)) := by kernel_rfl
  have hp : Tryz.prog.stoodInHeld 82 = false := by kernel_rfl
  rw [run_equalIn_agg u (d + 1) _ _ _ hS hp]
  simp only [Program.fieldsOf, Tryz.underlying82]
  go_simp
  try simp only [toL]
  by_cases h0 : a0 = b0 <;> by_cases h1 : a1 = b1 <;> simp [h0, h1]
theorem eql_sit (a0 b0 : Int) (a1 b1 : Int) (u : World) : (binOp .eql 82 (.agg #[.int .i64 a0, .int .u8 a1]) (.agg #[.int .i64 b0, .int .u8 b1])).run Tryz.prog u = .ok (.bool ((decide (a0 = b0) && (decide (a1 = b1))))) u := by
  rw [run_eql_struct, show (10000 : Nat) = 9998 + 2 from rfl, eqi_sit]
  rfl
theorem neq_sit (a0 b0 : Int) (a1 b1 : Int) (u : World) : (binOp .neq 82 (.agg #[.int .i64 a0, .int .u8 a1]) (.agg #[.int .i64 b0, .int .u8 b1])).run Tryz.prog u = .ok (.bool (!(decide (a0 = b0) && (decide (a1 = b1))))) u := by
  rw [run_neq_struct, show (10000 : Nat) = 9998 + 2 from rfl, eqi_sit]
  rfl
theorem dec_sit (a b : Sit) : (decide (a.row = b.row) && (decide (a.let_ = b.let_))) = decide (a = b) := by
  obtain ⟨x, y⟩ := a
  obtain ⟨x', y'⟩ := b
  rw [Bool.eq_iff_iff]; simp
/-- Where a seat is in a list. -/
def atS (s : Sit) : List Sit → Nat → Int
  | [], _ => -1
  | x :: t, i => if x = s then i else atS s t (i + 1)
theorem atS_bd (s : Sit) : ∀ (l : List Sit) (i : Nat), -1 ≤ atS s l i ∧ atS s l i < i + l.length
  | [], i => by simp [atS]; omega
  | x :: t, i => by
    have h := atS_bd s t (i + 1)
    unfold atS
    split
    · simp; omega
    · simp only [List.length_cons]; omega
theorem atS_mem (s : Sit) : ∀ (l : List Sit) (i : Nat), 0 ≤ atS s l i ↔ s ∈ l
  | [], i => by simp [atS]
  | x :: t, i => by
    unfold atS
    split
    · rename_i e
      simp [e]
    · rename_i e
      rw [atS_mem s t (i + 1), List.mem_cons]
      exact ⟨.inr, fun h => h.resolve_left (fun e2 => e e2.symm)⟩
set_option maxRecDepth 100000 in
set_option maxHeartbeats 2000000 in
theorem pat_any (l : List Sit) (A : Option Addr) (n c : Nat) (s : Sit) (w : World) (lo hi : Nat) (hs : Sl w lo hi tSit A n l) (hhi : hi ≤ w.heap.size) (hn : n ≤ 9223372036854775807) :
    Calls Tryz.prog 41 #[.slice A n c, .agg #[.int .i64 s.row, .int .u8 s.let_]] w fun e w' => e = .returned (.int .i64 (atS s l 0)) ∧ Below w.heap.size w w' := by
  have HS := Lib.hid hs
  have HL := Lib.hid hs.len
  have hdec := dec_sit
  obtain ⟨sr, sl⟩ := s
  dsimp only
  have HB := box1 w #[.int .i64 sr, .int .u8 sl] 82
  clear hs
  go_enter Tryz.func41, Tryz.ntmps41
  go_upto_region 1 with fail
  refine wp_world (fun W => Bx W w.heap.size #[.int .i64 sr, .int .u8 sl] 82 ∧ Below w.heap.size w W) HB ?_
  clear HB
  rintro W ⟨b1, hb⟩
  go_wp2
  go_loopw [5] (fun i wr => ∃ j : Nat, j ≤ n ∧ i = .int .i64 j ∧ Hid (atS ⟨sr, sl⟩ l 0 = atS ⟨sr, sl⟩ (l.drop j) j) ∧ Bx wr w.heap.size #[.int .i64 sr, .int .u8 sl] 82 ∧ Below w.heap.size w wr) (fun i _ => n - (intOf i).toNat)
  case atStart => exact ⟨0, by omega, rfl, rfl, b1, hb⟩
  case round =>
    clear b1 hb
    obtain ⟨j, hj, rfl, HN, b1, hb⟩ := hrel
    by_cases hlt : j < n
    · obtain ⟨b0, o0, ⟨xr, xl⟩, hA, _, _, hx, hok, d0, d1⟩ := (HS.out.below hb hhi).sit_ hlt
      subst hA
      dsimp only at d0 d1
      have c1 := b1.cells
      have i0 : (0 : Int) ≤ j := by omega
      have i1 : (j : Int) < n := by omega
      have hk := fun u => eql_sit xr sr xl sl u
      rw [show (decide (xr = sr) && decide (xl = sl)) = decide ((⟨xr, xl⟩ : Sit) = ⟨sr, sl⟩) from dec_sit ⟨xr, xl⟩ ⟨sr, sl⟩] at hk
      have HDR := Lib.hid (show l.drop j = ⟨xr, xl⟩ :: l.drop (j + 1) by
        obtain ⟨h1, h2⟩ := List.getElem?_eq_some_iff.1 hx.out
        rw [List.drop_eq_getElem_cons h1, h2])
      clear hdec
      by_cases q : (⟨xr, xl⟩ : Sit) = ⟨sr, sl⟩
      · rw [decide_eq_true q] at hk
        have HF := Lib.hid (show atS ⟨sr, sl⟩ l 0 = j by rw [HN.out, HDR.out]; unfold atS; rw [if_pos q])
        clear q
        go_wp2
        go_quiet (fail)
        go_wp2
        go_ret
        exact ⟨ret_int HF.out.symm, below_drewN hb _⟩
      · rw [decide_eq_false q] at hk
        have HF := Lib.hid (show atS ⟨sr, sl⟩ l 0 = atS ⟨sr, sl⟩ (l.drop (j + 1)) (j + 1) by rw [HN.out, HDR.out]; show atS _ (_ :: _) _ = _; rw [atS, if_neg q])
        clear q
        go_wp2
        go_quiet (fail)
        go_wp2
        go_roundw
        case rel => exact ⟨j + 1, by omega, by go_num, HF, b1.drewN _, below_drewN hb _⟩
        case measure => simp [intOf]; omega
    · obtain rfl : n = j := by omega
      have HF := Lib.hid (show atS ⟨sr, sl⟩ l 0 = -1 by rw [HN.out, List.drop_of_length_le (Nat.le_of_eq HL.out)]; rfl)
      go_wp2
      go_ret
      exact ⟨ret_int HF.out.symm, hb⟩
/-- The document's letters of a text. -/
def letQ (s l : ByteArray) (i : Nat) : Option ByteArray :=
  if bat s i = 46 then (if bat s (i - 1) = 46 then none else some l)
  else if isL (bat s i) = false ∨ (l.size ≠ 0 ∧ bat s i ≤ bat l (l.size - 1)) then none else some (l ++ ⟨#[UInt8.ofNat (bat s i).toNat]⟩)
def letRL (s : ByteArray) : Nat → Option ByteArray
  | 0 => some ⟨#[]⟩
  | k + 1 => (letRL s k).bind fun l => letQ s l k
def letR (s : ByteArray) : ByteArray × Bool :=
  if s.size = 0 ∨ 20 < s.size ∨ bat s 0 = 46 ∨ bat s (s.size - 1) = 46 then (⟨#[]⟩, false)
  else match letRL s s.size with | some l => (l, decide (l.size ≤ 10)) | none => (⟨#[]⟩, false)
theorem letRL_none {s : ByteArray} {k : Nat} (h : letRL s k = none) : ∀ n, k ≤ n → letRL s n = none
  | 0, hn => by obtain rfl : k = 0 := by omega
                exact h
  | n + 1, hn => by
    rcases Nat.lt_succ_iff_lt_or_eq.1 (Nat.lt_succ_of_le hn) with h1 | rfl
    · simp only [letRL]
      rw [letRL_none h n (by omega)]
      rfl
    · exact h
theorem letQ_of {s l m : ByteArray} {i : Nat} (h : letS s l i = some m) : letQ s l i = some m := by
  unfold letS at h
  rw [Option.bind_eq_some_iff] at h
  obtain ⟨x, h1, h2⟩ := h
  have hx : x = m := by
    split at h2
    · cases h2
    · injection h2
  subst hx
  unfold letQ
  split at h1
  · rename_i hd
    rw [if_pos hd]
    split at h1
    · cases h1
    · rename_i hn
      rw [if_neg (fun e => hn (.inr (.inr e)))]
      exact h1
  · rename_i hd
    rw [if_neg hd]
    exact h1
theorem letRL_of {s : ByteArray} : ∀ {k : Nat} {l : ByteArray}, letL s k = some l → letRL s k = some l
  | 0, l, h => h
  | k + 1, l, h => by
    simp only [letL] at h
    rw [Option.bind_eq_some_iff] at h
    obtain ⟨x, h1, h2⟩ := h
    simp only [letRL]
    rw [letRL_of h1]
    exact letQ_of h2
/-- Where both find letters, they are the same. -/
theorem letR_letF {s l m : ByteArray} (h : letF s = (l, true)) (h2 : letR s = (m, true)) : l = m := by
  unfold letF at h
  unfold letR at h2
  split at h2
  · cases h2
  · cases hl : letL s s.size with
    | none => rw [hl] at h; cases h
    | some x =>
      rw [hl] at h
      rw [letRL_of hl] at h2
      injection h with h _
      injection h2 with h2 _
      rw [← h, ← h2]
end Go.Proofs.YtlkdefmceghmnaaGreatDoor
namespace Go.Proofs.YtlkdefmceghmnaaGreatDoor
set_option linter.unusedVariables false
open Go Go.RowKit Go.Sort
attribute [local go_sem] bat_get
theorem letR_early {s : ByteArray} (h : s.size = 0 ∨ 20 < s.size ∨ bat s 0 = 46 ∨ bat s (s.size - 1) = 46) : letR s = (⟨#[]⟩, false) := by unfold letR; rw [if_pos h]
theorem letR_go {s : ByteArray} (h : ¬ (s.size = 0 ∨ 20 < s.size ∨ bat s 0 = 46 ∨ bat s (s.size - 1) = 46)) : letR s = match letRL s s.size with | some l => (l, decide (l.size ≤ 10)) | none => (⟨#[]⟩, false) := by unfold letR; rw [if_neg h]; try (cases letRL s s.size <;> rfl)
theorem letR_match {s : ByteArray} (h : letRL s s.size = none) : (match letRL s s.size with | some l => (l, decide (l.size ≤ 10)) | none => ((⟨#[]⟩ : ByteArray), false)) = (⟨#[]⟩, false) := by rw [h]
theorem ext_one {s : ByteArray} {k : Nat} (h : k < s.size) : s.extract k (k + 1) = ⟨#[UInt8.ofNat (bat s k).toNat]⟩ := by
  have h2 : k < s.data.size := h
  apply ByteArray.ext
  apply Array.ext
  · simp
    omega
  · intro i h3 h4
    have h5 : i = 0 := by
      have h6 : i < 1 := h4
      omega
    subst h5
    simp only [bat]
    simp
    rw [Array.getElem?_eq_getElem h2]
    rfl
theorem letQ_size {s l m : ByteArray} {i : Nat} (h : letQ s l i = some m) : m.size ≤ l.size + 1 := by
  unfold letQ at h
  split at h
  · split at h
    · cases h
    · injection h with h
      subst h
      omega
  · split at h
    · cases h
    · injection h with h
      subst h
      rw [bytes_append_size]
      exact Nat.le_refl _
set_option maxRecDepth 100000 in
set_option maxHeartbeats 8000000 in
theorem rletters_is (s : ByteArray) (w : World) (hs : s.size ≤ 9223372036854775807) {l0 : ByteArray} {q0 : Bool} (hq : letR s = (l0, q0)) :
    Calls Tryz.prog 39 #[.string s] w fun e w' => e = .returned (.tuple #[.string l0, .bool q0]) ∧ Below w.heap.size w w' := by
  have HQ := Lib.hid hq
  have HBR := Lib.hid (Below.refl w.heap.size w)
  clear hq
  by_cases h0 : s.size = 0
  · have HN := Lib.hid (HQ.out.symm.trans (letR_early (.inl h0)))
    have t0 : ((s.size : Int) == 0) = true := by simp [h0]
    clear h0
    go_enter Tryz.func39, Tryz.ntmps39
    go_wp2
    all_goals first | (exfalso; omega) | (go_ret2; exact ⟨by have h := HN.out; rw [Prod.mk.injEq] at h; rw [h.1, h.2]; rfl, HBR.out⟩)
  have t0 : ((s.size : Int) == 0) = false := beq_eq_false_iff_ne.2 (by omega)
  by_cases h20 : 20 < s.size
  · have HN := Lib.hid (HQ.out.symm.trans (letR_early (.inr (.inl h20))))
    have t1 : decide ((s.size : Int) > 20) = true := decide_eq_true (by omega)
    go_enter Tryz.func39, Tryz.ntmps39
    go_wp2
    all_goals first | (exfalso; omega) | (go_ret2; exact ⟨by have h := HN.out; rw [Prod.mk.injEq] at h; rw [h.1, h.2]; rfl, HBR.out⟩)
  have t1 : decide ((s.size : Int) > 20) = false := decide_eq_false (by omega)
  have p0 : 0 < s.size := by omega
  by_cases hf : bat s 0 = 46
  · have HN := Lib.hid (HQ.out.symm.trans (letR_early (.inr (.inr (.inl hf)))))
    have t2 : (bat s 0 == 46) = true := by simp [hf]
    clear hf
    go_enter Tryz.func39, Tryz.ntmps39
    go_wp2
    all_goals first | (exfalso; omega) | (go_ret2; exact ⟨by have h := HN.out; rw [Prod.mk.injEq] at h; rw [h.1, h.2]; rfl, HBR.out⟩)
  have t2 : (bat s 0 == 46) = false := by simp [hf]
  have e1 : (s.size : Int) - 1 = ((s.size - 1 : Nat) : Int) := by omega
  have p1 : s.size - 1 < s.size := by omega
  by_cases hl : bat s (s.size - 1) = 46
  · have HN := Lib.hid (HQ.out.symm.trans (letR_early (.inr (.inr (.inr hl)))))
    have t3 : (bat s (s.size - 1) == 46) = true := by simp [hl]
    clear hl hf
    go_enter Tryz.func39, Tryz.ntmps39
    go_wp2
    all_goals first | (exfalso; omega) | (go_ret2; exact ⟨by have h := HN.out; rw [Prod.mk.injEq] at h; rw [h.1, h.2]; rfl, HBR.out⟩)
  have t3 : (bat s (s.size - 1) == 46) = false := by simp [hl]
  have HGO := Lib.hid (HQ.out.symm.trans (letR_go (by rintro (h | h | h | h); exact h0 h; exact h20 h; exact hf h; exact hl h)))
  have HF0 := Lib.hid hf
  clear hl hf HBR HQ
  go_enter Tryz.func39, Tryz.ntmps39
  go_wp2
  clear t0 t1 t2 t3
  go_loopw [4, 5] (fun lv i wr => ∃ (k : Nat) (l : ByteArray), k ≤ s.size ∧ i = .int .i64 k ∧ lv = .string l ∧ Hid (letRL s k = some l) ∧ l.size ≤ k ∧ Hid (Below w.heap.size w wr)) (fun _ i _ => s.size - (intOf i).toNat)
  case atStart => exact ⟨0, _, Nat.zero_le _, rfl, rfl, rfl, Nat.le_refl _, Below.refl _ _⟩
  case round =>
    obtain ⟨k, l, hk, rfl, rfl, HL, hlk, HBR⟩ := hrel
    by_cases hlt : k < s.size
    · have HST := Lib.hid (show letRL s (k + 1) = letQ s l k by simp only [letRL]; rw [HL.out]; rfl)
      have hbd := bat_bd s k
      have i0 : (0 : Int) ≤ k := by omega
      have i1 : (k : Int) < s.size := by omega
      by_cases hd : bat s k = 46
      · have t4 : (bat s k == 46) = true := by simp [hd]
        obtain ⟨j, rfl⟩ : ∃ j, k = j + 1 := by
          rcases k with _ | j
          · exact absurd hd HF0.out
          · exact ⟨j, rfl⟩
        have e2 : ((j + 1 : Nat) : Int) - 1 = (j : Int) := by omega
        have j1 : j < s.size := by omega
        by_cases hp : bat s j = 46
        · have HN := Lib.hid (HGO.out.trans (show (match letRL s s.size with | some l => (l, decide (l.size ≤ 10)) | none => (⟨#[]⟩, false)) = (⟨#[]⟩, false) by rw [letRL_none (k := j + 1 + 1) (by rw [HST.out]; unfold letQ; rw [if_pos hd, show j + 1 - 1 = j from rfl, if_pos hp]) s.size (by omega)]))
          have t5 : (bat s j == 46) = true := by simp [hp]
          clear hp hd
          go_wp2
          all_goals first | (exfalso; omega) | (go_ret2; exact ⟨by have h := HN.out; rw [Prod.mk.injEq] at h; rw [h.1, h.2]; rfl, HBR.out⟩)
        · have HL2 := Lib.hid (show letRL s (j + 1 + 1) = some l by rw [HST.out]; unfold letQ; rw [if_pos hd, show j + 1 - 1 = j from rfl, if_neg hp])
          have t5 : (bat s j == 46) = false := by simp [hp]
          clear hp hd
          go_wp2
          all_goals first | (exfalso; omega) | exact ⟨⟨j + 1 + 1, l, by omega, by go_num, rfl, HL2, by omega, HBR⟩, by simp [intOf]; omega⟩
      · have t4 : (bat s k == 46) = false := by simp [hd]
        have HLT := Lib.hid (fun u : Blw wr => (rletter_any (bat s k) u.W).mono (R' := fun e w' => e = .returned (.bool (isL (bat s k))) ∧ Below u.W.heap.size u.W w') fun e w' h => ⟨h.1, h.2 ▸ Below.refl _ _⟩)
        have HSQ := Lib.hid (show letQ s l k = if isL (bat s k) = false ∨ (l.size ≠ 0 ∧ bat s k ≤ bat l (l.size - 1)) then none else some (l ++ ⟨#[UInt8.ofNat (bat s k).toNat]⟩) by unfold letQ; rw [if_neg hd])
        clear hd
        generalize hch : bat s k = ch at t4 HLT HSQ hbd
        have HCH := Lib.hid hch
        obtain ⟨hb0, hb1⟩ := hbd
        by_cases hl : isL ch = true
        rotate_left
        · have hl' : isL ch = false := by simpa using hl
          rw [hl'] at HLT
          have HN := Lib.hid (HGO.out.trans (letR_match (letRL_none (k := k + 1) (by rw [HST.out, HSQ.out, if_pos (.inl hl')]) s.size (by omega))))
          clear hl hl'
          go_wp2
          · skip
            refine wp_region_below (by kernel_rfl) (by kernel_rfl) ?_
            intro q9
            repeat
              (refine QH.step (fun K9 hK9 => ?_)
               go_simp
               first
               | (refine hK9 _ ?_; clear hK9 K9)
               | (apply Exists.intro
                  refine ⟨fun _ => ?_, hK9 _ ?_⟩
                  · first | (exact Calls.blw _ (HLT.out _))
                  clear hK9 K9))
            refine QH.nil_ ?_
            clear q9
            rintro ⟨V9, hV9⟩
            dsimp only
            go_wp2
            go_ret2
            exact ⟨by have h := HN.out; rw [Prod.mk.injEq] at h; rw [h.1, h.2]; rfl, HBR.out.trans (hV9.mono HBR.out.size)⟩
          all_goals (exfalso; omega)
        rw [hl] at HLT
        by_cases hl0 : l.size = 0
        · have t5 : decide ((l.size : Int) > 0) = false := decide_eq_false (by omega)
          have t5b : decide (0 < l.size) = false := decide_eq_false (by omega)
          have t5c : decide ((0 : Int) < (l.size : Int)) = false := decide_eq_false (by omega)
          have HL2 := Lib.hid (show letRL s (k + 1) = some (l ++ ⟨#[UInt8.ofNat ch.toNat]⟩) by rw [HST.out, HSQ.out, if_neg (by rw [hl]; rintro (h | ⟨h, _⟩); exact absurd h (by simp); exact h hl0)])
          clear hl hl0
          go_wp2
          · skip
            refine wp_region_below (by kernel_rfl) (by kernel_rfl) ?_
            intro q9
            repeat
              (refine QH.step (fun K9 hK9 => ?_)
               go_simp
               first
               | (refine hK9 _ ?_; clear hK9 K9)
               | (apply Exists.intro
                  refine ⟨fun _ => ?_, hK9 _ ?_⟩
                  · first | (exact Calls.blw _ (HLT.out _))
                  clear hK9 K9))
            refine QH.nil_ ?_
            clear q9
            rintro ⟨V9, hV9⟩
            dsimp only
            go_wp2
            exact ⟨⟨k + 1, l ++ ⟨#[UInt8.ofNat ch.toNat]⟩, by omega, by go_num, by rw [ext_one hlt, HCH.out], HL2, by rw [bytes_append_size]; show l.size + 1 ≤ k + 1; omega, HBR.out.trans (hV9.mono HBR.out.size)⟩, by simp [intOf]; omega⟩
          all_goals (exfalso; omega)
        · have t5 : decide ((l.size : Int) > 0) = true := decide_eq_true (by omega)
          have t5b : decide (0 < l.size) = true := decide_eq_true (by omega)
          have t5c : decide ((0 : Int) < (l.size : Int)) = true := decide_eq_true (by omega)
          have e3 : (l.size : Int) - 1 = ((l.size - 1 : Nat) : Int) := by omega
          have e5 : IntKind.i64.wrap ((l.size : Int) - 1) = ((l.size - 1 : Nat) : Int) := by rw [e3]; exact IntWalk.i64_in _ (by omega)
          have e8 : IntKind.i64.wrap ((l.size - 1 : Nat) : Int) = ((l.size - 1 : Nat) : Int) := IntWalk.i64_in _ (by omega)
          have e4 : l.size - 1 < l.size := by omega
          have e6 : (0 : Int) ≤ ((l.size - 1 : Nat) : Int) := by omega
          have e7 : ((l.size - 1 : Nat) : Int) < l.size := by omega
          by_cases hge : ch ≤ bat l (l.size - 1)
          · have t6 : decide (ch ≤ bat l (l.size - 1)) = true := decide_eq_true hge
            have HN := Lib.hid (HGO.out.trans (letR_match (letRL_none (k := k + 1) (by rw [HST.out, HSQ.out, if_pos (.inr ⟨hl0, hge⟩)]) s.size (by omega))))
            clear hl hl0 hge
            go_wp2
            · skip
              refine wp_region_below (by kernel_rfl) (by kernel_rfl) ?_
              intro q9
              repeat
                (refine QH.step (fun K9 hK9 => ?_)
                 go_simp
                 first
                 | (refine hK9 _ ?_; clear hK9 K9)
                 | (apply Exists.intro
                    refine ⟨fun _ => ?_, hK9 _ ?_⟩
                    · first | (exact Calls.blw _ (HLT.out _))
                    clear hK9 K9))
              refine QH.nil_ ?_
              clear q9
              rintro ⟨V9, hV9⟩
              dsimp only
              go_wp2
              go_ret2
              exact ⟨by have h := HN.out; rw [Prod.mk.injEq] at h; rw [h.1, h.2]; rfl, HBR.out.trans (hV9.mono HBR.out.size)⟩
            all_goals (exfalso; omega)
          · have t6 : decide (ch ≤ bat l (l.size - 1)) = false := decide_eq_false hge
            have HL2 := Lib.hid (show letRL s (k + 1) = some (l ++ ⟨#[UInt8.ofNat ch.toNat]⟩) by rw [HST.out, HSQ.out, if_neg (by rw [hl]; rintro (h | ⟨_, h⟩); exact absurd h (by simp); exact hge h)])
            clear hl hl0 hge
            go_wp2
            · skip
              refine wp_region_below (by kernel_rfl) (by kernel_rfl) ?_
              intro q9
              repeat
                (refine QH.step (fun K9 hK9 => ?_)
                 go_simp
                 first
                 | (refine hK9 _ ?_; clear hK9 K9)
                 | (apply Exists.intro
                    refine ⟨fun _ => ?_, hK9 _ ?_⟩
                    · first | (exact Calls.blw _ (HLT.out _))
                    clear hK9 K9))
              refine QH.nil_ ?_
              clear q9
              rintro ⟨V9, hV9⟩
              dsimp only
              go_wp2
              exact ⟨⟨k + 1, l ++ ⟨#[UInt8.ofNat ch.toNat]⟩, by omega, by go_num, by rw [ext_one hlt, HCH.out], HL2, by rw [bytes_append_size]; show l.size + 1 ≤ k + 1; omega, HBR.out.trans (hV9.mono HBR.out.size)⟩, by simp [intOf]; omega⟩
            all_goals (exfalso; omega)
    · obtain rfl : s.size = k := by omega
      have HN := Lib.hid (HGO.out.trans (show (match letRL s s.size with | some l => (l, decide (l.size ≤ 10)) | none => (⟨#[]⟩, false)) = (l, decide (l.size ≤ 10)) by rw [HL.out]))
      go_wp2
      go_ret2
      exact ⟨by have h := HN.out; rw [Prod.mk.injEq] at h; rw [h.1, h.2, show decide ((l.size : Int) ≤ 10) = decide (l.size ≤ 10) from decide_eq_decide.2 (by omega)]; rfl, HBR.out⟩
end Go.Proofs.YtlkdefmceghmnaaGreatDoor
namespace Go.Proofs.YtlkdefmceghmnaaGreatDoor
set_option linter.unusedVariables false
open Go Go.RowKit Go.Sort
attribute [local go_sem] bat_get
/-- How many rows a plan has. -/
def nrow (p : Pln) : Nat := (p.last + 1 - p.first).toNat
/-- The places of a plan, by the document. -/
def plcR (p : Pln) : List Sit := plcP (letR p.letters).1 p.first (nrow p)
set_option maxRecDepth 100000 in
set_option maxHeartbeats 8000000 in
theorem places_any (r : PlR) (w : World) (hok : r.ok) (f1 : 1 ≤ r.p.first) (f2 : r.p.first ≤ r.p.last) (f3 : r.p.last ≤ 60) {l : ByteArray} {q : Bool} (hl : letR r.p.letters = (l, q)) (hl10 : l.size ≤ 10) :
    Calls Tryz.prog 40 #[.agg #[.int .i64 r.p.first, .int .i64 r.p.last, .string r.p.letters, .slice r.Ae r.ne r.ce, .slice r.Ab r.nb r.cb]] w (RetOwn w 82 tSit (plcR r.p)) := by
  have HOK := Lib.hid hok
  have HLF := Lib.hid hl
  have HR : Hid (plcR r.p = plcP l r.p.first (nrow r.p)) := by show _ = _; unfold plcR; rw [hl]
  obtain ⟨N, hN⟩ : ∃ N : Nat, N = nrow r.p := ⟨_, rfl⟩
  have hN0 : (N : Int) = r.p.last + 1 - r.p.first := by rw [hN]; unfold nrow; omega
  rw [← hN] at HR
  have HB := box1 w #[.int .i64 r.p.first, .int .i64 r.p.last, .string r.p.letters, .slice r.Ae r.ne r.ce, .slice r.Ab r.nb r.cb] 59
  clear hok hl hN
  go_enter Tryz.func40, Tryz.ntmps40
  go_upto_region 1 with fail
  refine wp_world (fun V => Bx V w.heap.size #[.int .i64 r.p.first, .int .i64 r.p.last, .string r.p.letters, .slice r.Ae r.ne r.ce, .slice r.Ab r.nb r.cb] 59 ∧ Below w.heap.size w V) HB ?_
  clear HB
  rintro V ⟨bP, hb⟩
  have c1 := bP.cells
  have zP := bP.lt
  have hz := hb.size
  go_wp2_with fail
  refine (rletters_is r.p.letters V HOK.out.letters HLF.out).mono ?_
  rintro e w1 ⟨rfl, h1⟩
  have BP1 := Lib.hid (bP.below h1 zP)
  have HB1 := Lib.hid (hb.trans (h1.mono hz))
  have zP1 := BP1.out.lt
  clear c1 bP hb h1
  have c1 := BP1.out.cells
  go_wp2
  clear c1
  go_loopw [5, 6, 7] (fun v rv _ wr => ∃ (i : Nat) (A : Option Addr) (n c : Nat), i ≤ N ∧ rv = .int .i64 (r.p.first + i) ∧ v = .slice A n c ∧ Own wr (w.heap.size + 1) 82 tSit (.slice A n c) (plcP l r.p.first i) ∧ Bx wr w.heap.size #[.int .i64 r.p.first, .int .i64 r.p.last, .string r.p.letters, .slice r.Ae r.ne r.ce, .slice r.Ab r.nb r.cb] 59 ∧ Below w.heap.size w wr) (fun _ rv _ _ => (r.p.last + 1 - intOf rv).toNat)
  case atStart => exact ⟨0, none, 0, 0, Nat.zero_le _, by simp, rfl, Own.nil_ _ _ _ _, BP1.out, HB1.out⟩
  case round =>
    clear BP1 HB1 zP1 hz zP
    obtain ⟨i, A, n, c, hi, rfl, rfl, hO, bP, hb⟩ := hrel
    have c1 := bP.cells
    have zw := bP.lt
    by_cases hlt : i < N
    · have t1 : decide (r.p.first + (i : Int) ≤ r.p.last) = true := by simp; omega
      have HO := Lib.hid hO
      have BP := Lib.hid bP
      have HBB := Lib.hid hb
      clear hO bP hb
      go_wp2
      clear c1
      go_loopw [5, 7] (fun v iv wr => ∃ (j : Nat) (A' : Option Addr) (n' c' : Nat), j ≤ l.size ∧ iv = .int .i64 j ∧ v = .slice A' n' c' ∧ Own wr (w.heap.size + 1) 82 tSit (.slice A' n' c') (plcP l r.p.first i ++ rowP l (r.p.first + i) j) ∧ Bx wr w.heap.size #[.int .i64 r.p.first, .int .i64 r.p.last, .string r.p.letters, .slice r.Ae r.ne r.ce, .slice r.Ab r.nb r.cb] 59 ∧ Below w.heap.size w wr) (fun _ iv _ => l.size - (intOf iv).toNat)
      case atStart => exact ⟨0, A, n, c, Nat.zero_le _, rfl, rfl, by simpa [rowP] using HO.out, BP.out, HBB.out⟩
      case round =>
        clear HO BP HBB zw
        obtain ⟨j, A', n', c', hj, rfl, rfl, hO, bP, hb⟩ := hrel
        by_cases hlt2 : j < l.size
        · have hlen2 := hO.sl.len
          rw [List.length_append, plcP_len, rowP_len] at hlen2
          have hn2 : (plcP l r.p.first i ++ rowP l (r.p.first + i) j).length < 2147483648 := by
            have h6 : i * l.size ≤ 60 * 10 := Nat.mul_le_mul (by omega) hl10
            rw [List.length_append, plcP_len, rowP_len]
            omega
          have HNX : Hid (plcP l r.p.first i ++ rowP l (r.p.first + i) (j + 1) = (plcP l r.p.first i ++ rowP l (r.p.first + i) j) ++ [⟨r.p.first + i, bat l j⟩]) := by show _ = _; rw [rowP_next, List.append_assoc]
          have j0 : (0 : Int) ≤ j := by omega
          have j1 : (j : Int) < l.size := by omega
          have HSOK : Hid (Sit.ok ⟨r.p.first + (i : Int), bat l j⟩) := ⟨by unfold okInt; dsimp only; omega, bat_bd l j⟩
          generalize plcP l r.p.first i ++ rowP l (r.p.first + i) j = L at hO HNX hn2
          have zw := bP.lt
          have BP := Lib.hid bP
          have HBB := Lib.hid hb
          have HO := Lib.hid hO
          clear hlen2 hO bP hb
          go_wp2_with (at_builtin; refine push_law (T := tSit) (W := wr) rfl (.tmp 28) (.tmp 34) rfl sl_sit rfl HO.out ⟨r.p.first + (i : Int), bat l j⟩ HSOK.out _ rfl rfl (by omega) hn2 ?_; intro v1 w1 ho1 hb1)
          obtain ⟨A1, c2, rfl⟩ := ho1.form
          exact ⟨⟨j + 1, A1, _, c2, by omega, by go_num, rfl, by rw [HNX.out]; exact ho1, BP.out.below hb1 (by omega), HBB.out.trans (hb1.mono (by omega))⟩, by simp [intOf]; omega⟩
        · obtain rfl : l.size = j := by omega
          have hO2 : Own wr (w.heap.size + 1) 82 tSit (.slice A' n' c') (plcP l r.p.first (i + 1)) := hO
          have HO2 := Lib.hid hO2
          have BP := Lib.hid bP
          have HBB := Lib.hid hb
          clear hO hO2 bP hb
          go_wp2
          exact ⟨⟨i + 1, A', n', c', by omega, by go_num, rfl, HO2.out, BP.out, HBB.out⟩, by simp [intOf]; omega⟩
    · obtain rfl : N = i := by omega
      have t1 : decide (r.p.first + (N : Int) ≤ r.p.last) = false := by simp; omega
      have HO := Lib.hid hO
      have HBB := Lib.hid hb
      clear hO hb
      go_wp2
      go_ret
      exact HR.out ▸ RetOwn.mk' (HO.out.more (by omega)) HBB.out
end Go.Proofs.YtlkdefmceghmnaaGreatDoor
namespace Go.Proofs.YtlkdefmceghmnaaGreatDoor
set_option linter.unusedVariables false
open Go Go.RowKit Go.Sort
attribute [local go_sem] bat_get
theorem letR_size {s l : ByteArray} (h : letR s = (l, true)) : l.size ≤ 10 := by
  unfold letR at h
  split at h
  · cases h
  · cases hl : letRL s s.size with
    | none => rw [hl] at h; cases h
    | some m =>
      rw [hl] at h
      injection h with h1 h2
      subst h1
      exact of_decide_eq_true h2
theorem plcR_len {p : Pln} (f1 : 1 ≤ p.first) (f3 : p.last ≤ 60) {l : ByteArray} {q : Bool} (hl : letR p.letters = (l, q)) (hl10 : l.size ≤ 10) : (plcR p).length ≤ 600 := by
  unfold plcR
  rw [plcP_len, hl]
  exact Nat.mul_le_mul (show nrow p ≤ 60 by unfold nrow; omega) hl10
/-- What Right asks first. -/
def hdR (p : Pln) : Bool := (letR p.letters).2 && (decide (1 ≤ p.first) && (decide (p.first ≤ p.last) && (decide (p.last ≤ 60) && decide (p.blocked.length ≤ 40))))
/-- What is needed of Right's answer. -/
structure RgtQ (p : Pln) (q : Bool) : Prop where
  hd : q = true → hdR p = true
  yes : hdR p = true → p.exits = [] → p.blocked = [] → q = true
theorem hdR_facts {p : Pln} (h : hdR p = true) : ∃ l, letR p.letters = (l, true) ∧ l.size ≤ 10 ∧ 1 ≤ p.first ∧ p.first ≤ p.last ∧ p.last ≤ 60 ∧ p.blocked.length ≤ 40 := by
  unfold hdR at h
  simp only [Bool.and_eq_true, decide_eq_true_eq] at h
  have h1 : letR p.letters = ((letR p.letters).1, true) := Prod.ext rfl h.1
  exact ⟨_, h1, letR_size h1, h.2⟩
theorem RgtQ.no {p : Pln} (h : hdR p = false) : RgtQ p false := ⟨fun e => (by cases e), fun e => by rw [h] at e; cases e⟩
theorem RgtQ.ex {p : Pln} (h : 0 < p.exits.length) : RgtQ p false := ⟨fun e => (by cases e), fun _ e => by rw [e] at h; exact absurd h (by decide)⟩
theorem RgtQ.bk {p : Pln} (h : 0 < p.blocked.length) : RgtQ p false := ⟨fun e => (by cases e), fun _ _ e => by rw [e] at h; exact absurd h (by decide)⟩
set_option maxRecDepth 100000 in
set_option maxHeartbeats 16000000 in
theorem prgt_any (r : PlR) (w : World) (lo hi : Nat) (hok : r.ok) (hat : PlAt w lo hi r) (hhi : hi ≤ w.heap.size) (hne : r.ne ≤ 9223372036854775807) (hnb : r.nb ≤ 9223372036854775807) :
    Calls Tryz.prog 15 #[.agg #[.int .i64 r.p.first, .int .i64 r.p.last, .string r.p.letters, .slice r.Ae r.ne r.ce, .slice r.Ab r.nb r.cb]] w fun e w' => ∃ q, e = .returned (.bool q) ∧ RgtQ r.p q ∧ Below w.heap.size w w' := by
  have HOK := Lib.hid hok
  have HAT := Lib.hid hat
  have HNE := Lib.hid hat.ex.len
  have HNB := Lib.hid hat.bk.len
  have HB := box1 w #[.int .i64 r.p.first, .int .i64 r.p.last, .string r.p.letters, .slice r.Ae r.ne r.ce, .slice r.Ab r.nb r.cb] 59
  clear hok hat
  go_enter Tryz.func15, Tryz.ntmps15
  go_upto_region 1 with fail
  refine wp_world (fun V => Bx V w.heap.size #[.int .i64 r.p.first, .int .i64 r.p.last, .string r.p.letters, .slice r.Ae r.ne r.ce, .slice r.Ab r.nb r.cb] 59 ∧ Below w.heap.size w V) HB ?_
  clear HB
  rintro V ⟨bP, hb⟩
  have c1 := bP.cells
  have zP := bP.lt
  generalize hlf : letR r.p.letters = lf
  have HLF := Lib.hid hlf
  obtain ⟨l, q1⟩ := lf
  clear hlf
  have hz1 := hb.size
  go_wp2_with fail
  refine (rletters_is r.p.letters V HOK.out.letters HLF.out).mono ?_
  rintro e w1 ⟨rfl, h1⟩
  have bP1 := bP.below h1 zP
  have hb1 := hb.trans (h1.mono hz1)
  have zP1 := bP1.lt
  clear c1 bP hb h1
  have c1 := bP1.cells
  have HB1 := Lib.hid hb1
  have BP1 := Lib.hid bP1
  have hz := hb1.size
  have HHD := Lib.hid (show hdR r.p = (q1 && (decide (1 ≤ r.p.first) && (decide (r.p.first ≤ r.p.last) && (decide (r.p.last ≤ 60) && decide (r.p.blocked.length ≤ 40))))) by unfold hdR; rw [HLF.out])
  clear hb1 bP1
  rcases q1 with _ | _
  · have HN := Lib.hid (HHD.out.trans rfl)
    go_wp2
    go_ret
    exact ⟨_, rfl, RgtQ.no HN.out, HB1.out⟩
  by_cases h1 : 1 ≤ r.p.first
  rotate_left
  · have t0 : decide (r.p.first < 1) = true := decide_eq_true (by omega)
    have HN := Lib.hid (show hdR r.p = false by rw [HHD.out, decide_eq_false h1]; rfl)
    go_wp2
    go_ret
    exact ⟨_, rfl, RgtQ.no HN.out, HB1.out⟩
  have t0 : decide (r.p.first < 1) = false := decide_eq_false (by omega)
  by_cases h2 : r.p.first ≤ r.p.last
  rotate_left
  · have t1 : decide (r.p.first > r.p.last) = true := decide_eq_true (by omega)
    have HN := Lib.hid (show hdR r.p = false by rw [HHD.out, decide_eq_true h1, decide_eq_false h2]; rfl)
    go_wp2
    go_ret
    exact ⟨_, rfl, RgtQ.no HN.out, HB1.out⟩
  have t1 : decide (r.p.first > r.p.last) = false := decide_eq_false (by omega)
  by_cases h3 : r.p.last ≤ 60
  rotate_left
  · have t2 : decide (r.p.last > 60) = true := decide_eq_true (by omega)
    have HN := Lib.hid (show hdR r.p = false by rw [HHD.out, decide_eq_true h1, decide_eq_true h2, decide_eq_false h3]; rfl)
    go_wp2
    go_ret
    exact ⟨_, rfl, RgtQ.no HN.out, HB1.out⟩
  have t2 : decide (r.p.last > 60) = false := decide_eq_false (by omega)
  by_cases h4 : r.nb ≤ 40
  rotate_left
  · have t3 : decide ((r.nb : Int) > 40) = true := decide_eq_true (by omega)
    have HN := Lib.hid (show hdR r.p = false by rw [HHD.out, decide_eq_true h1, decide_eq_true h2, decide_eq_true h3, HNB.out, decide_eq_false h4]; rfl)
    go_wp2
    go_ret
    exact ⟨_, rfl, RgtQ.no HN.out, HB1.out⟩
  have t3 : decide ((r.nb : Int) > 40) = false := decide_eq_false (by omega)
  have HY := Lib.hid (show hdR r.p = true by rw [HHD.out, decide_eq_true h1, decide_eq_true h2, decide_eq_true h3, HNB.out, decide_eq_true h4]; rfl)
  clear HHD
  go_wp2
  clear c1 t0 t1 t2 t3
  go_loopw [5] (fun i wr => ∃ k : Nat, k ≤ r.ne ∧ i = .int .i64 k ∧ Bx wr w.heap.size #[.int .i64 r.p.first, .int .i64 r.p.last, .string r.p.letters, .slice r.Ae r.ne r.ce, .slice r.Ab r.nb r.cb] 59 ∧ Below w.heap.size w wr) (fun i _ => r.ne - (intOf i).toNat)
  case atStart => exact ⟨0, Nat.zero_le _, rfl, BP1.out, HB1.out⟩
  case round =>
    clear BP1 HB1
    obtain ⟨k, hk, rfl, bP, hb⟩ := hrel
    have c1 := bP.cells
    have zP2 := bP.lt
    have HBB := Lib.hid hb
    have BP := Lib.hid bP
    by_cases hlt : k < r.ne
    · obtain ⟨b0, o0, x, hA, _, hb0, hx, hokx, d0⟩ := (HAT.out.ex.below hb hhi).int_ hlt
      have i0 : (0 : Int) ≤ k := by omega
      have i1 : (k : Int) < r.ne := by omega
      obtain ⟨P0, P1, P2⟩ : okInt x ∧ okInt r.p.first ∧ okInt r.p.last := ⟨hokx, HOK.out.first, HOK.out.last⟩
      have HE := Lib.hid (RgtQ.ex (p := r.p) (by rw [HNE.out]; omega))
      clear hb bP
      by_cases e1 : r.p.first ≤ x
      rotate_left
      · have t1 : decide (x < r.p.first) = true := decide_eq_true (by omega)
        clear e1
        go_wp2
        go_quiet (fail)
        go_wp2
        go_ret
        exact ⟨_, rfl, HE.out, below_drewN HBB.out _⟩
      have t1 : decide (x < r.p.first) = false := decide_eq_false (by omega)
      by_cases e2 : x ≤ r.p.last
      rotate_left
      · have t2 : decide (x > r.p.last) = true := decide_eq_true (by omega)
        have t2b : decide (r.p.last < x) = true := decide_eq_true (by omega)
        clear e1 e2
        go_wp2
        go_quiet (fail)
        go_wp2
        go_ret
        exact ⟨_, rfl, HE.out, below_drewN HBB.out _⟩
      have t2 : decide (x > r.p.last) = false := decide_eq_false (by omega)
      have t2b : decide (r.p.last < x) = false := decide_eq_false (by omega)
      by_cases e3 : k = 0
      · have t3 : decide ((k : Int) > 0) = false := decide_eq_false (by omega)
        have t3b : decide ((0 : Int) < (k : Int)) = false := decide_eq_false (by omega)
        have t3c : decide (0 < k) = false := decide_eq_false (by omega)
        clear e1 e2 e3
        go_wp2
        go_quiet (fail)
        go_wp2
        go_roundw
        case rel => exact ⟨k + 1, by omega, by go_num, BP.out.drewN _, below_drewN HBB.out _⟩
        case measure => simp [intOf]; omega
      obtain ⟨j, hj⟩ : ∃ j, k = j + 1 := ⟨k - 1, by omega⟩
      obtain ⟨b1, o1, y, hA1, _, hb1, hy, hoky, d1⟩ := (HAT.out.ex.below HBB.out hhi).int_ (show j < r.ne by omega)
      rw [hA] at hA1
      injection hA1 with hA1
      injection hA1 with g1 g2
      subst g1 g2
      have e5 : (k : Int) - 1 = (j : Int) := by omega
      clear hj
      have e6 : IntKind.i64.wrap (j : Int) = j := IntWalk.i64_in _ (by omega)
      have t3 : decide ((k : Int) > 0) = true := decide_eq_true (by omega)
      have t3b : decide ((0 : Int) < (k : Int)) = true := decide_eq_true (by omega)
      have t3c : decide (0 < k) = true := decide_eq_true (by omega)
      by_cases h4 : x ≤ y
      · have t4 : decide (x ≤ y) = true := decide_eq_true h4
        clear e1 e2 h4
        go_wp2
        go_quiet (fail)
        go_wp2
        go_ret
        exact ⟨_, rfl, HE.out, below_drewN HBB.out _⟩
      · have t4 : decide (x ≤ y) = false := decide_eq_false h4
        clear e1 e2 h4
        go_wp2
        go_quiet (fail)
        go_wp2
        go_roundw
        case rel =>
          iterate 45 apply Exists.intro
          apply And.intro
          rotate_left
          · first | rfl | (rw [hA]; done) | (rw [hA]; rfl)
          · exact ⟨k + 1, by omega, by go_num, BP.out.drewN _, below_drewN HBB.out _⟩
        case measure => simp [intOf]; omega
    · have hl10 := letR_size HLF.out
      clear hb bP
      go_wp2_with fail
      refine (places_any r wr HOK.out h1 h2 h3 HLF.out hl10).mono ?_
      rintro e w2 ⟨A, c, rfl, hO, hb2⟩
      have hz2 := HBB.out.size
      have HS := Lib.hid (hO.sl)
      have HLL := Lib.hid hO.sl.len
      have BP2 := Lib.hid (BP.out.below hb2 zP2)
      have HB2 := Lib.hid (HBB.out.trans (hb2.mono hz2))
      clear hO hb2 c1
      go_wp2
      have HPL := Lib.hid (Nat.le_trans (plcR_len h1 h3 HLF.out hl10) (show 600 ≤ 9223372036854775807 by omega))
      clear BP HBB h1 h2 h3
      go_loopw [7, 8, 9] (fun v i _ wr => ∃ (k : Nat) (m : Int), k ≤ r.nb ∧ i = .int .i64 k ∧ v = .int .i64 m ∧ -1 ≤ m ∧ Below w2.heap.size w2 wr) (fun _ i _ _ => r.nb - (intOf i).toNat)
      case atStart => exact ⟨0, -1, Nat.zero_le _, rfl, rfl, by omega, Below.refl _ _⟩
      case round =>
        obtain ⟨k, m, hk, rfl, rfl, hm, hbv⟩ := hrel
        have zv := hbv.size
        have z2 := BP2.out.lt
        have z3 := HB2.out.size
        have bPv := BP2.out.below hbv z2
        have c1 := bPv.cells
        have zbv := bPv.lt
        have HBV := Lib.hid hbv
        have HBW := Lib.hid (HB2.out.trans (hbv.mono z3))
        by_cases hlt : k < r.nb
        · obtain ⟨b0, o0, x, hA, _, hb0, hx, hokx, d0, d1⟩ := (HAT.out.bk.below HBW.out hhi).sit_ hlt
          have i0 : (0 : Int) ≤ k := by omega
          have i1 : (k : Int) < r.nb := by omega
          have HE := Lib.hid (RgtQ.bk (p := r.p) (by rw [HNB.out]; omega))
          have HPA := Lib.hid (pat_any (plcR r.p) A _ c x wr _ _ ((HS.out.below hbv (Nat.le_refl _))) zv HPL.out)
          clear hbv bPv
          go_wp2_with fail
          refine HPA.out.mono ?_
          rintro e w3 ⟨rfl, h3⟩
          have HB3 := Lib.hid (HBW.out.trans (h3.mono HBW.out.size))
          have HBV3 := Lib.hid (HBV.out.trans (h3.mono zv))
          clear HPA h3
          have hat := (atS_bd x (plcR r.p) 0).1
          generalize atS x (plcR r.p) 0 = at_ at hat
          by_cases h5 : at_ ≤ m
          · have t5 : decide (at_ ≤ m) = true := decide_eq_true h5
            go_wp2
            all_goals first | (exfalso; omega) | (go_ret; exact ⟨_, rfl, HE.out, HB3.out⟩)
          · have t5 : decide (at_ ≤ m) = false := decide_eq_false h5
            go_wp2
            go_roundw
            case rel =>
              iterate 22 apply Exists.intro
              apply And.intro
              rotate_left
              · first | rfl | (rw [hA]; done) | (rw [hA]; rfl)
              · exact ⟨k + 1, at_, by omega, by go_num, rfl, hat, HBV3.out⟩
            case measure => simp [intOf]; omega
        · obtain rfl : r.nb = k := by omega
          clear hbv bPv
          go_wp2
          go_ret
          exact ⟨_, rfl, ⟨fun _ => HY.out, fun _ _ _ => rfl⟩, HBW.out⟩
/-- The document's Has. -/
def hasR (p : Pln) (s : Sit) : Bool := decide (s ∈ plcR p) && !decide (s ∈ p.blocked)
theorem at_dec (s : Sit) (l : List Sit) : decide (atS s l 0 ≥ 0) = decide (s ∈ l) := decide_eq_decide.2 (atS_mem s l 0)
theorem at_dec2 (s : Sit) (l : List Sit) : decide (atS s l 0 < 0) = !decide (s ∈ l) := by
  rw [← at_dec]
  by_cases h : atS s l 0 ≥ 0
  · rw [decide_eq_true h, decide_eq_false (by omega)]; rfl
  · rw [decide_eq_false h, decide_eq_true (by omega)]; rfl
set_option maxRecDepth 100000 in
set_option maxHeartbeats 8000000 in
theorem phasR_any (r : PlR) (s : Sit) (w : World) (lo hi : Nat) (hok : r.ok) (hat : PlAt w lo hi r) (hhi : hi ≤ w.heap.size) (hnb : r.nb ≤ 9223372036854775807) (f1 : 1 ≤ r.p.first) (f2 : r.p.first ≤ r.p.last) (f3 : r.p.last ≤ 60) {l : ByteArray} {q : Bool} (hl : letR r.p.letters = (l, q)) (hl10 : l.size ≤ 10) {q0 : Bool} (hq0 : hasR r.p s = q0) :
    Calls Tryz.prog 59 #[.agg #[.int .i64 r.p.first, .int .i64 r.p.last, .string r.p.letters, .slice r.Ae r.ne r.ce, .slice r.Ab r.nb r.cb], .agg #[.int .i64 s.row, .int .u8 s.let_]] w fun e w' => e = .returned (.bool q0) ∧ Below w.heap.size w w' := by
  have HOK := Lib.hid hok
  have HAT := Lib.hid hat
  have HQ0 := Lib.hid hq0
  have HPL := Lib.hid (Nat.le_trans (plcR_len f1 f3 hl hl10) (show 600 ≤ 9223372036854775807 by omega))
  have HB := box1 w #[.int .i64 r.p.first, .int .i64 r.p.last, .string r.p.letters, .slice r.Ae r.ne r.ce, .slice r.Ab r.nb r.cb] 59
  have HPC := Lib.hid (fun u => places_any r u hok f1 f2 f3 hl hl10)
  have HQ0 := Lib.hid (show (decide (atS s (plcR r.p) 0 ≥ 0) && decide (atS s r.p.blocked 0 < 0)) = q0 by rw [at_dec, at_dec2]; exact HQ0.out)
  obtain ⟨sr, sl⟩ := s
  dsimp only
  have HA1 := Lib.hid (fun (V W : World) A c (ho : Own W V.heap.size 82 tSit (.slice A (plcR r.p).length c) (plcR r.p)) => pat_any (plcR r.p) A _ c ⟨sr, sl⟩ W _ _ ho.sl (Nat.le_refl _) HPL.out)
  have hlo := (atS_bd ⟨sr, sl⟩ (plcR r.p) 0).1
  generalize atS ⟨sr, sl⟩ (plcR r.p) 0 = a1 at HQ0 HA1 hlo
  have HA2 := Lib.hid (fun (W : World) (hW : Below w.heap.size w W) => pat_any r.p.blocked r.Ab r.nb r.cb ⟨sr, sl⟩ W _ _ (HAT.out.bk.below hW hhi) (Nat.le_trans hhi hW.size) hnb)
  generalize atS ⟨sr, sl⟩ r.p.blocked 0 = a2 at HQ0 HA2
  have HBR := Lib.hid hhi
  have HPC := Lib.hid (fun u => places_any r u hok f1 f2 f3 hl hl10)
  clear hok hat hq0 hl f1 f2 f3 hl10 HPL hnb HOK
  go_enter Tryz.func59, Tryz.ntmps59
  go_upto_region 1 with fail
  refine wp_world (fun V => Bx V w.heap.size #[.int .i64 r.p.first, .int .i64 r.p.last, .string r.p.letters, .slice r.Ae r.ne r.ce, .slice r.Ab r.nb r.cb] 59 ∧ Bx V (w.heap.size + 1) #[.int .i64 sr, .int .u8 sl] 82 ∧ Below w.heap.size w V) ⟨HB.1.alloc _, by have h5 := Bx.new (w.alloc (.cells #[.int .i64 r.p.first, .int .i64 r.p.last, .string r.p.letters, .slice r.Ae r.ne r.ce, .slice r.Ab r.nb r.cb] 59)) #[.int .i64 sr, .int .u8 sl] 82; rw [World.size_alloc] at h5; exact h5, HB.2.alloc (by simp) _⟩ ?_
  clear HB
  rintro V ⟨bP, bS, hb⟩
  have zP := bP.lt
  have zS := bS.lt
  have HSK := Lib.hid (fun (W : World) (hW : Below V.heap.size V W) => (⟨(bP.below hW zP).cells, (bS.below hW zS).cells⟩ : (∀ i : Nat, W.cell? ⟨w.heap.size, i, none⟩ = (#[.int .i64 r.p.first, .int .i64 r.p.last, .string r.p.letters, .slice r.Ae r.ne r.ce, .slice r.Ab r.nb r.cb] : Array Value)[i]?) ∧ (∀ i : Nat, W.cell? ⟨w.heap.size + 1, i, none⟩ = (#[.int .i64 sr, .int .u8 sl] : Array Value)[i]?)))
  have HBV := Lib.hid hb
  have zV := hb.size
  clear bP bS hb hhi HAT
  have hD := (Below.refl V.heap.size V).drew
  by_cases h1 : 0 ≤ a1
  rotate_left
  · obtain rfl : a1 = -1 := by omega
    have HN : Hid (false = q0) := HQ0.out
    clear h1 hlo
    -- REGION
    refine wp_region_held_drew (S := fun w9 => (∀ i : Nat, w9.cell? ⟨w.heap.size, i, none⟩ = (#[.int .i64 r.p.first, .int .i64 r.p.last, .string r.p.letters, .slice r.Ae r.ne r.ce, .slice r.Ab r.nb r.cb] : Array Value)[i]?) ∧ (∀ i : Nat, w9.cell? ⟨w.heap.size + 1, i, none⟩ = (#[.int .i64 sr, .int .u8 sl] : Array Value)[i]?)) (by kernel_rfl) (HSK.out _ hD) (fun hS => ?_)
    refine wpAnyH_take (i := 0) (oi := { dst := some 5, op := Op.load 59 (Operand.tmp 2), type := 59, pos := "ref.go:107", after := #[], guard := none }) (v := ?_) rfl (by kernel_rfl) (by kernel_rfl) (by kernel_rfl) (fun _ _ _ h => h) (Or.inl ⟨by rfl, ?_⟩) hS ?_
    rotate_left
    · intro w9 hS9; have q1 := hS9.1; have q2 := hS9.2; go_simp; try with_reducible rfl
    try simp only [Act.put]
    try simp only [List.setIfInBounds_toArray]
    try simp only [List.set_cons_zero]
    try simp only [List.set_cons_succ, List.set_cons_zero]
    refine wpAnyH_take (i := 2) (oi := { dst := some 7, op := Op.load 82 (Operand.tmp 3), type := 82, pos := "ref.go:107", after := #[], guard := none }) (v := ?_) rfl (by kernel_rfl) (by kernel_rfl) (by kernel_rfl) (fun _ _ _ h => h) (Or.inl ⟨by rfl, ?_⟩) hS ?_
    rotate_left
    · intro w9 hS9; have q1 := hS9.1; have q2 := hS9.2; go_simp; try with_reducible rfl
    try simp only [Act.put]
    try simp only [List.setIfInBounds_toArray]
    try simp only [List.set_cons_zero]
    try simp only [List.set_cons_succ, List.set_cons_zero]
    refine wpAnyH_ready (rs := [1]) (by kernel_rfl) (by simp) ?_
    refine AllReadyH.cons (o := { dst := some 6, op := Op.call { callee := Callee.value (Operand.func 40), args := #[Operand.tmp 5], argTypes := #[59] }, type := 57, pos := "ref.go:107", after := #[{ on := 0, ground := Ground.data }], guard := none }) rfl (fun K9 hK9 => ?_) AllReadyH.nil
    go_simp
    with_reducible refine (HPC.out _).mono ?_
    rintro e w6 ⟨A6, c6, rfl, ho6, h6⟩
    have hB6 := hD.trans (h6.mono hD.size)
    have hS6 := HSK.out _ hB6
    refine hK9.out _ _ hS6 (fun hS => ?_)
    clear hK9 K9
    try simp only [Act.put]
    try simp only [List.setIfInBounds_toArray]
    try simp only [List.set_cons_zero]
    try simp only [List.set_cons_succ, List.set_cons_zero]
    refine wpAnyH_ready (rs := [3]) (by kernel_rfl) (by simp) ?_
    refine AllReadyH.cons (o := { dst := some 8, op := Op.call { callee := Callee.value (Operand.func 41), args := #[Operand.tmp 6, Operand.tmp 7], argTypes := #[57, 82] }, type := 3, pos := "ref.go:107", after := #[{ on := 1, ground := Ground.data }, { on := 2, ground := Ground.data }, { on := 1, ground := Ground.chain }], guard := none }) rfl (fun K9 hK9 => ?_) AllReadyH.nil
    go_simp
    with_reducible refine (HA1.out _ _ _ _ ho6).mono ?_
    rintro e w7 ⟨rfl, h7⟩
    have hB7 := hB6.trans (h7.mono hB6.size)
    have hS7 := HSK.out _ hB7
    refine hK9.out _ _ hS7 (fun hS => ?_)
    clear hK9 K9
    try simp only [Act.put]
    try simp only [List.setIfInBounds_toArray]
    try simp only [List.set_cons_zero]
    try simp only [List.set_cons_succ, List.set_cons_zero]
    refine wpAnyH_take (i := 4) (oi := { dst := some 9, op := Op.binOp BinOp.geq 3 (Operand.tmp 8) (Operand.const (Value.int IntKind.i64 0)) 3, type := 4, pos := "ref.go:107", after := #[{ on := 3, ground := Ground.data }], guard := none }) (v := ?_) rfl (by kernel_rfl) (by kernel_rfl) (by kernel_rfl) (fun _ _ _ h => h) (Or.inl ⟨by rfl, ?_⟩) hS ?_
    rotate_left
    · intro w9 hS9; have q1 := hS9.1; have q2 := hS9.2; go_simp; try with_reducible rfl
    try simp only [Act.put]
    try simp only [List.setIfInBounds_toArray]
    try simp only [List.set_cons_zero]
    try simp only [List.set_cons_succ, List.set_cons_zero]
    refine wpAnyH_take (i := 5) (oi := { dst := some 10, op := Op.move (Operand.tmp 9), type := 4, pos := "ref.go:107", after := #[{ on := 4, ground := Ground.data }, { on := 3, ground := Ground.chain }], guard := none }) (v := ?_) rfl (by kernel_rfl) (by kernel_rfl) (by kernel_rfl) (fun _ _ _ h => h) (Or.inl ⟨by rfl, ?_⟩) hS ?_
    rotate_left
    · intro w9 hS9; have q1 := hS9.1; have q2 := hS9.2; go_simp; try with_reducible rfl
    try simp only [Act.put]
    try simp only [List.setIfInBounds_toArray]
    try simp only [List.set_cons_zero]
    try simp only [List.set_cons_succ, List.set_cons_zero]
    refine wpAnyH_take (i := 6) (oi := { dst := some 11, op := Op.fieldAddr 59 (Operand.tmp 2) 4, type := 0, pos := "ref.go:107", after := #[{ on := 5, ground := Ground.guard }], guard := some (5, true) }) (v := undef) rfl (by kernel_rfl) (by kernel_rfl) (by kernel_rfl) (fun _ _ _ h => h) (Or.inr ⟨by rfl, rfl⟩) hS ?_
    try simp only [Act.put]
    try simp only [List.setIfInBounds_toArray]
    try simp only [List.set_cons_zero]
    try simp only [List.set_cons_succ, List.set_cons_zero]
    refine wpAnyH_take (i := 7) (oi := { dst := some 12, op := Op.load 57 (Operand.tmp 11), type := 57, pos := "ref.go:107", after := #[{ on := 6, ground := Ground.data }, { on := 5, ground := Ground.guard }], guard := some (5, true) }) (v := undef) rfl (by kernel_rfl) (by kernel_rfl) (by kernel_rfl) (fun _ _ _ h => h) (Or.inr ⟨by rfl, rfl⟩) hS ?_
    try simp only [Act.put]
    try simp only [List.setIfInBounds_toArray]
    try simp only [List.set_cons_zero]
    try simp only [List.set_cons_succ, List.set_cons_zero]
    refine wpAnyH_take (i := 8) (oi := { dst := some 13, op := Op.load 82 (Operand.tmp 3), type := 82, pos := "ref.go:107", after := #[{ on := 5, ground := Ground.guard }], guard := some (5, true) }) (v := undef) rfl (by kernel_rfl) (by kernel_rfl) (by kernel_rfl) (fun _ _ _ h => h) (Or.inr ⟨by rfl, rfl⟩) hS ?_
    try simp only [Act.put]
    try simp only [List.setIfInBounds_toArray]
    try simp only [List.set_cons_zero]
    try simp only [List.set_cons_succ, List.set_cons_zero]
    refine wpAnyH_take (i := 9) (oi := { dst := some 14, op := Op.call { callee := Callee.value (Operand.func 41), args := #[Operand.tmp 12, Operand.tmp 13], argTypes := #[57, 82] }, type := 3, pos := "ref.go:107", after := #[{ on := 7, ground := Ground.data }, { on := 8, ground := Ground.data }, { on := 5, ground := Ground.chain }, { on := 5, ground := Ground.guard }], guard := some (5, true) }) (v := undef) rfl (by kernel_rfl) (by kernel_rfl) (by kernel_rfl) (fun _ _ _ h => h) (Or.inr ⟨by rfl, rfl⟩) hS ?_
    try simp only [Act.put]
    try simp only [List.setIfInBounds_toArray]
    try simp only [List.set_cons_zero]
    try simp only [List.set_cons_succ, List.set_cons_zero]
    refine wpAnyH_take (i := 10) (oi := { dst := some 15, op := Op.binOp BinOp.lss 3 (Operand.tmp 14) (Operand.const (Value.int IntKind.i64 0)) 3, type := 4, pos := "ref.go:107", after := #[{ on := 9, ground := Ground.data }, { on := 5, ground := Ground.guard }], guard := some (5, true) }) (v := undef) rfl (by kernel_rfl) (by kernel_rfl) (by kernel_rfl) (fun _ _ _ h => h) (Or.inr ⟨by rfl, rfl⟩) hS ?_
    try simp only [Act.put]
    try simp only [List.setIfInBounds_toArray]
    try simp only [List.set_cons_zero]
    try simp only [List.set_cons_succ, List.set_cons_zero]
    refine wpAnyH_take (i := 11) (oi := { dst := some 16, op := Op.pick (Operand.tmp 10) (Operand.tmp 15) (Operand.const (Value.bool false)), type := 4, pos := "ref.go:107", after := #[{ on := 5, ground := Ground.data }, { on := 10, ground := Ground.data }], guard := none }) (v := ?_) rfl (by kernel_rfl) (by kernel_rfl) (by kernel_rfl) (fun _ _ _ h => h) (Or.inl ⟨by rfl, ?_⟩) hS ?_
    rotate_left
    · intro w9 hS9; have q1 := hS9.1; have q2 := hS9.2; go_simp; try with_reducible rfl
    try simp only [Act.put]
    try simp only [List.setIfInBounds_toArray]
    try simp only [List.set_cons_zero]
    try simp only [List.set_cons_succ, List.set_cons_zero]
    refine wpAnyH_take (i := 12) (oi := { dst := some 4, op := Op.assign (Operand.tmp 16), type := 4, pos := "ref.go:107", after := #[{ on := 11, ground := Ground.data }, { on := 9, ground := Ground.chain }, { on := 0, ground := Ground.phase }, { on := 1, ground := Ground.phase }, { on := 2, ground := Ground.phase }, { on := 3, ground := Ground.phase }, { on := 4, ground := Ground.phase }, { on := 5, ground := Ground.phase }, { on := 6, ground := Ground.phase }, { on := 7, ground := Ground.phase }, { on := 8, ground := Ground.phase }, { on := 9, ground := Ground.phase }, { on := 10, ground := Ground.phase }, { on := 11, ground := Ground.phase }], guard := none }) (v := ?_) rfl (by kernel_rfl) (by kernel_rfl) (by kernel_rfl) (fun _ _ _ h => h) (Or.inl ⟨by rfl, ?_⟩) hS ?_
    rotate_left
    · intro w9 hS9; have q1 := hS9.1; have q2 := hS9.2; go_simp; try with_reducible rfl
    try simp only [Act.put]
    try simp only [List.setIfInBounds_toArray]
    try simp only [List.set_cons_zero]
    try simp only [List.set_cons_succ, List.set_cons_zero]
    refine wpAnyH_done (by kernel_rfl) ?_ _
    -- END
    go_wp2
    go_ret
    exact ⟨ret_bool HN.out, HBV.out.trans (hB7.mono zV)⟩
  have t1 : decide (a1 ≥ 0) = true := decide_eq_true (by omega)
  have t1b : decide (0 ≤ a1) = true := decide_eq_true (by omega)
  have HN : Hid (decide (a2 < 0) = q0) := by have h := HQ0.out; rw [t1] at h; exact h
  clear h1
  go_region_held3 (fun w' => (∀ i : Nat, w'.cell? ⟨w.heap.size, i, none⟩ = (#[.int .i64 r.p.first, .int .i64 r.p.last, .string r.p.letters, .slice r.Ae r.ne r.ce, .slice r.Ab r.nb r.cb] : Array Value)[i]?) ∧ (∀ i : Nat, w'.cell? ⟨w.heap.size + 1, i, none⟩ = (#[.int .i64 sr, .int .u8 sl] : Array Value)[i]?)) (first | (with_reducible exact HSK.out _ hB8) | (with_reducible exact HSK.out _ hB7) | (with_reducible exact HSK.out _ hB6) | (with_reducible exact HSK.out _ hD)) (first
    | (go_at_call 40; (with_reducible refine (HPC.out _).mono ?_); rintro e w6 ⟨A6, c6, rfl, ho6, h6⟩; have hB6 := hD.trans (h6.mono hD.size))
    | (go_at_call 41; (with_reducible refine (HA1.out _ _ _ _ ho6).mono ?_); rintro e w7 ⟨rfl, h7⟩; have hB7 := hB6.trans (h7.mono hB6.size))
    | (go_at_call 41; (with_reducible refine (HA2.out _ (HBV.out.trans (hB7.mono zV))).mono ?_); rintro e w8 ⟨rfl, h8⟩; have hB8 := hB7.trans (h8.mono hB7.size)))
  go_wp2
  go_ret
  exact ⟨ret_bool HN.out, HBV.out.trans (hB8.mono zV)⟩
end Go.Proofs.YtlkdefmceghmnaaGreatDoor
