/- Put together by program of: Pn4, Pn5, Pn6z. -/
import Derived.Test.YtlkdefmceghmnaaGreatDoorPn3
import Derived.Test.YtlkdefmceghmnaaGreatDoorFlTab
import Derived.BigRegion
import Derived.Deep.RegionLaw
namespace Go.Proofs.YtlkdefmceghmnaaGreatDoor
set_option linter.unusedVariables false
open Go Go.RowKit
open Go.WideMaps (KeyLaw)
def sitV (s : Sit) : Value := .agg #[.int .i64 s.row, .int .u8 s.let_]
theorem sitV_inj {a b : Sit} (h : sitV a = sitV b) : a = b := by
  obtain ⟨a0, a1⟩ := a
  obtain ⟨b0, b1⟩ := b
  unfold sitV at h
  simp at h
  rw [h.1, h.2]
theorem lawSit : KeyLaw Tryz.prog 82 := deep_law_laid laidOutF (m := 2) (by omega) (of_decide_eq_true (by kernel_rfl)) (by kernel_rfl) (by kernel_rfl)
theorem cSit : Tryz.prog.cellsOf 82 = 2 := by kernel_rfl
theorem cByt : Tryz.prog.cellsOf 5 = 1 := by kernel_rfl
set_option maxRecDepth 100000 in
theorem sitKey (s : Sit) (h : s.ok) : ∃ l, keyOf Tryz.prog 82 (sitV s) = some l := by
  obtain ⟨h2, h4⟩ := h
  unfold okInt at h2
  unfold okByte at h4
  have w2 := WalkArith.wf_i64 h2
  have w4 := WalkArith.wf_u8 h4
  have kt : Tryz.prog.keyType 82 = true := by kernel_rfl
  obtain ⟨n, hn⟩ := szT
  have hf : (sitV s).formed Tryz.prog 82 = true := by
    simp only [Value.formed, sitV, Tryz.underlying82, cSit]
    rfl
  have hL : ∃ l, Tryz.prog.keyLits (n + 4) 82 [.int .i64 s.row, .int .u8 s.let_] = some l := by
    simp [Program.keyLits, Tryz.underlying82, Tryz.underlying3, Tryz.underlying5, cSit, cInt, cByt, w2, w4]
    try rw [if_pos (by intro i hi; rcases i with _ | _ | i <;> first | (simp; done) | omega)]
    try exact ⟨_, rfl⟩
  obtain ⟨l, hl⟩ := hL
  refine ⟨.string (keyBytes l), ?_⟩
  unfold keyOf
  rw [Tryz.underlying82]
  dsimp only
  rw [kt, hf, Bool.true_and, if_pos rfl, hn]
  show (Tryz.prog.keyLits (n + 4) 82 [.int .i64 s.row, .int .u8 s.let_]).map _ = _
  rw [hl]
  rfl
/-- What a place is. -/
def markV (n : Int) (b : Bool) (t : ByteArray) : Value := .agg #[.int .i64 n, .bool b, .string t]
theorem zeroMark : ∀ u : World, (zeroValue 111).run Tryz.prog u = .ok (markV 0 false ⟨#[]⟩) u := fun u => by kernel_rfl
/-- The map of a plan's places, at block p; its map at block b. -/
structure PM (W : World) (p b : Nat) (g : Value → Option Value) : Prop where
  box : ∃ A n c, Bx W p #[.map (some b), .slice A n c] 107
  mp : Mp Tryz.prog 82 W b g
  val : ∀ v u, g v = some u → ∃ n bl t, u = markV n bl t
theorem PM.plt {W : World} {p b : Nat} {g : Value → Option Value} (h : PM W p b g) : p < W.heap.size := by
  obtain ⟨A, n, c, h1⟩ := h.box
  exact h1.lt
theorem PM.keep {W W' : World} {p b : Nat} {g : Value → Option Value} (h : PM W p b g) (hb : Below W.heap.size W W') : PM W' p b g := by
  obtain ⟨A, n, c, h1⟩ := h.box
  exact ⟨⟨A, n, c, h1.below hb h1.lt⟩, h.mp.below hb h.mp.size, h.val⟩
theorem PM.keepB {W W' : World} {p b : Nat} {g : Value → Option Value} (h : PM W p b g) (hp : W'.heap[p]? = W.heap[p]?) (hb : W'.heap[b]? = W.heap[b]?) : PM W' p b g := by
  obtain ⟨A, n, c, h1⟩ := h.box
  exact ⟨⟨A, n, c, hp.trans h1⟩, h.mp.keep hb, h.val⟩
def hasV : Option Value → Bool
  | some (.agg a) => (match (a.toList[1]? : Option Value) with | some (Value.bool false) => true | _ => false)
  | _ => false
def hasG (g : Value → Option Value) (s : Sit) : Bool := hasV (g (sitV s))
theorem PM.at_ {W : World} {p b : Nat} {g : Value → Option Value} (h : PM W p b g) (s : Sit) : ∃ n bl t q, (g (sitV s)).getD (markV 0 false ⟨#[]⟩) = markV n bl t ∧ (g (sitV s)).isSome = q ∧ (q && !bl) = hasG g s := by
  unfold hasG
  cases hg : g (sitV s) with
  | none => exact ⟨0, false, ⟨#[]⟩, false, rfl, rfl, rfl⟩
  | some u =>
    obtain ⟨n, bl, t, rfl⟩ := h.val _ _ hg
    exact ⟨n, bl, t, true, rfl, rfl, by cases bl <;> rfl⟩
set_option maxRecDepth 100000 in
set_option maxHeartbeats 4000000 in
theorem phas_any {W : World} {p b : Nat} {g : Value → Option Value} (h : PM W p b g) (s : Sit) (hs : s.ok) {q : Bool} (hq : hasG g s = q) :
    Calls Tryz.prog 56 #[.pointer (some ⟨p, 0, none⟩), .agg #[.int .i64 s.row, .int .u8 s.let_]] W fun e w' => e = .returned (.bool q) ∧ Below W.heap.size W w' := by
  obtain ⟨kl, hkl⟩ := sitKey s hs
  obtain ⟨n, bl, t, q1, h1, h2, h3⟩ := h.at_ s
  have HQ := Lib.hid (h3.trans hq)
  obtain ⟨A, nn, c, hx⟩ := h.box
  have zp := hx.lt
  have hm := h.mp
  have zb := hm.size
  obtain ⟨sr, sl⟩ := s
  unfold sitV at h1 h2
  unfold markV at h1
  dsimp only at h1 h2 ⊢
  have HB := box1 W #[.int .i64 sr, .int .u8 sl] 82
  clear h hq h3 hs
  go_enter Tryz.func56, Tryz.ntmps56
  go_upto_region 1 with fail
  refine wp_world (fun V => (Bx V W.heap.size #[.int .i64 sr, .int .u8 sl] 82 ∧ Bx V p #[.map (some b), .slice A nn c] 107 ∧ Mp Tryz.prog 82 V b g) ∧ Below W.heap.size W V) ⟨⟨HB.1, hx.below HB.2 zp, hm.below HB.2 zb⟩, HB.2⟩ ?_
  clear HB hx hm
  rintro V ⟨⟨bS, hx, hm⟩, hb⟩
  have LK : ∀ U : World, Mp Tryz.prog 82 U b g → (Instr.lookup 105 (.map (some b)) (.agg #[.int .i64 sr, .int .u8 sl]) true).run Tryz.prog U = .ok (.tuple #[.agg #[.int .i64 n, .bool bl, .string t], .bool q1]) U := fun U hU => by
    have h5 := hU.look (e := 111) (t := 105) lawSit Tryz.underlying105 zeroMark hkl true
    unfold sitV markV at h5
    rw [h1, h2] at h5
    exact h5
  have l1 := LK V.drew hm.drew
  have l2 := LK (V.alloc (.cells #[.int .i64 0, .bool false, .string ⟨#[]⟩] 111)).drew (hm.alloc _).drew
  have bS' : Bx V.drew W.heap.size #[.int .i64 sr, .int .u8 sl] 82 := bS
  have hx' : Bx V.drew p #[.map (some b), .slice A nn c] 107 := hx
  have bS2 : Bx (V.alloc (.cells #[.int .i64 0, .bool false, .string ⟨#[]⟩] 111)).drew W.heap.size #[.int .i64 sr, .int .u8 sl] 82 := bS.alloc _
  have hx2 : Bx (V.alloc (.cells #[.int .i64 0, .bool false, .string ⟨#[]⟩] 111)).drew p #[.map (some b), .slice A nn c] 107 := hx.alloc _
  have c1 := bS'.cells
  have c2 := hx'.cells
  have c5 := bS2.cells
  have c6 := hx2.cells
  clear LK
  clear hkl hm h1 h2
  go_region
  all_goals
    rcases q1 with _ | _
    · go_wp2
      all_goals go_ret
      all_goals exact ⟨ret_bool HQ.out, (hb.drew.alloc (by have := hb.size; simpa using this) _)⟩
    · cases bl
      · go_wp2
        all_goals go_ret
        all_goals exact ⟨ret_bool HQ.out, (hb.drew.alloc (by have := hb.size; simpa using this) _)⟩
      · go_wp2
        all_goals go_ret
        all_goals exact ⟨ret_bool HQ.out, (hb.drew.alloc (by have := hb.size; simpa using this) _)⟩
end Go.Proofs.YtlkdefmceghmnaaGreatDoor
namespace Go.Proofs.YtlkdefmceghmnaaGreatDoor
set_option linter.unusedVariables false
open Go Go.RowKit Go.Sort
open Go.WideMaps (KeyLaw)
theorem sl_sit : SlT Tryz.prog 57 82 2 := SlT.mk' (z := .agg #[.int .i64 0, .int .u8 0]) (b := 16) (by kernel_rfl) (by kernel_rfl) (by omega) rfl
/-- A row of seats, as far as it is laid; the rows that are. -/
def rowP (l : ByteArray) (row : Int) (j : Nat) : List Sit := (List.range j).map fun k => ⟨row, bat l k⟩
def plcP (l : ByteArray) (first : Int) : Nat → List Sit
  | 0 => []
  | i + 1 => plcP l first i ++ rowP l (first + i) l.size
theorem rowP_next (l : ByteArray) (row : Int) (j : Nat) : rowP l row (j + 1) = rowP l row j ++ [⟨row, bat l j⟩] := by unfold rowP; rw [List.range_succ, List.map_append]; rfl
theorem rowP_len (l : ByteArray) (row : Int) (j : Nat) : (rowP l row j).length = j := by simp [rowP]
theorem plcP_len (l : ByteArray) (first : Int) : ∀ i, (plcP l first i).length = i * l.size
  | 0 => by simp [plcP]
  | i + 1 => by simp only [plcP, List.length_append, plcP_len l first i, rowP_len, Nat.succ_mul]
/-- The marks of the places so far: those that are blocked are told so. -/
structure MG (L Bk : List Sit) (g : Value → Option Value) : Prop where
  val : ∀ v u, g v = some u → ∃ s ∈ L, v = sitV s ∧ ∃ n t, u = markV n (decide (s ∈ Bk)) t
  dom : ∀ s ∈ L, ∃ n t, g (sitV s) = some (markV n (decide (s ∈ Bk)) t)
theorem MG.nil_ : MG [] [] (fun _ => none) := ⟨fun v u h => by (cases h), by simp⟩
theorem MG.put {L : List Sit} {g : Value → Option Value} (h : MG L [] g) (s : Sit) (n : Int) (t : ByteArray) : MG (L ++ [s]) [] (updK g (sitV s) (some (markV n false t))) := by
  refine ⟨fun v u hv => ?_, fun x hx => ?_⟩
  · by_cases e : v = sitV s
    · subst e
      rw [updK_same] at hv
      injection hv with hv
      exact ⟨s, by simp, rfl, n, t, by rw [← hv]; rfl⟩
    · rw [updK_other _ _ _ e] at hv
      obtain ⟨y, hy, h1, h2⟩ := h.val v u hv
      exact ⟨y, by simp [hy], h1, h2⟩
  · by_cases e : x = s
    · subst e
      exact ⟨n, t, by rw [updK_same]; rfl⟩
    · rw [updK_other _ _ _ (fun e2 => e (sitV_inj e2))]
      rcases List.mem_append.1 hx with hx | hx
      · exact h.dom x hx
      · exact absurd (List.mem_singleton.1 hx) e
theorem MG.block {L Bk : List Sit} {g : Value → Option Value} (h : MG L Bk g) {s : Sit} (hs : s ∈ L) (n : Int) (t : ByteArray) : MG L (Bk ++ [s]) (updK g (sitV s) (some (markV n true t))) := by
  have hd : ∀ y : Sit, y ≠ s → decide (y ∈ Bk ++ [s]) = decide (y ∈ Bk) := fun y hy => by simp [hy]
  refine ⟨fun v u hv => ?_, fun x hx => ?_⟩
  · by_cases e : v = sitV s
    · subst e
      rw [updK_same] at hv
      injection hv with hv
      exact ⟨s, hs, rfl, n, t, by rw [← hv]; simp⟩
    · rw [updK_other _ _ _ e] at hv
      obtain ⟨y, hy, h1, n2, t2, h2⟩ := h.val v u hv
      exact ⟨y, hy, h1, n2, t2, by rw [hd y (fun e2 => e (by rw [h1, e2]))]; exact h2⟩
  · by_cases e : x = s
    · subst e
      exact ⟨n, t, by rw [updK_same]; simp⟩
    · rw [updK_other _ _ _ (fun e2 => e (sitV_inj e2)), hd x e]
      exact h.dom x hx
theorem MG.has {L Bk : List Sit} {g : Value → Option Value} (h : MG L Bk g) (s : Sit) : hasG g s = (decide (s ∈ L) && !decide (s ∈ Bk)) := by
  unfold hasG
  by_cases hs : s ∈ L
  · obtain ⟨n, t, h1⟩ := h.dom s hs
    rw [h1, decide_eq_true hs]
    cases decide (s ∈ Bk) <;> rfl
  · rw [decide_eq_false hs]
    cases hg : g (sitV s) with
    | none => rfl
    | some u =>
      obtain ⟨y, hy, h1, _⟩ := h.val _ _ hg
      exact absurd (sitV_inj h1 ▸ hy) hs
/-- While the map of a plan is made. -/
structure NS (w : World) (C : Array Value) (bm pm : Nat) (A : Option Addr) (n c : Nat) (L Bk : List Sit) (W : World) : Prop where
  pl : Bx W w.heap.size C 59
  box : Bx W pm #[.map (some bm), .slice A n c] 107
  own : Own W (pm + 1) 82 tSit (.slice A n c) L
  mp : ∃ g, Mp Tryz.prog 82 W bm g ∧ MG L Bk g
  below : Below w.heap.size w W
  lt1 : w.heap.size < bm
  lt2 : bm < pm
section
variable {w W W' : World} {C : Array Value} {bm pm : Nat} {A : Option Addr} {n c : Nat} {L Bk : List Sit}
theorem NS.len (h : NS w C bm pm A n c L Bk W) : L.length = n := h.own.sl.len
theorem NS.plt (h : NS w C bm pm A n c L Bk W) : pm < W.heap.size := h.box.lt
theorem NS.step (h : NS w C bm pm A n c L Bk W) (hb : Below W.heap.size W W') : NS w C bm pm A n c L Bk W' := by
  obtain ⟨g, h1, h2⟩ := h.mp
  exact ⟨h.pl.below hb h.pl.lt, h.box.below hb h.box.lt, h.own.keep hb, ⟨g, h1.below hb h1.size, h2⟩, h.below.trans (hb.mono h.below.size), h.lt1, h.lt2⟩
theorem NS.wr {L' Bk' : List Sit} {g' : Value → Option Value} (h : NS w C bm pm A n c L Bk W) (hw : Wr bm W W') (hm : Mp Tryz.prog 82 W' bm g') (hg : MG L' Bk' g') : Bx W' w.heap.size C 59 ∧ Bx W' pm #[.map (some bm), .slice A n c] 107 ∧ Own W' (pm + 1) 82 tSit (.slice A n c) L ∧ Below w.heap.size w W' := by
  have h1 := h.lt1
  have h2 := h.lt2
  refine ⟨h.pl.wr hw (by omega), h.box.wr hw (by omega), ?_, hw.below h.below (by omega)⟩
  refine h.own.kept (row := some bm) ?_ (fun k hk e => ?_)
  · exact ⟨by obtain ⟨o, rfl⟩ := hw; rfl, by obtain ⟨o, rfl⟩ := hw; rfl, by obtain ⟨o, rfl⟩ := hw; rfl, Nat.le_of_eq hw.size.symm, fun k hk hne => hw.block (fun e => hne (by rw [e]))⟩
  · injection e with e
    have := (h.own.lt k hk).1
    omega
end
theorem chk_facts {p : Pln} (h : chkP p = true) : ∃ l, letF p.letters = (l, true) ∧ 1 ≤ p.first ∧ p.first ≤ p.last ∧ p.last ≤ 60 ∧ p.blocked.length ≤ 40 ∧ allP (bkP p l) p.blocked.length = true := by
  unfold chkP at h
  simp only [Bool.and_eq_true] at h
  obtain ⟨⟨h1, _⟩, h2⟩ := h
  unfold hdP at h1
  simp only [Bool.and_eq_true, decide_eq_true_eq] at h1
  exact ⟨(letF p.letters).1, Prod.ext rfl h1.1, h1.2.1, h1.2.2.1, h1.2.2.2.1, h1.2.2.2.2, h2⟩
theorem letF_size {s l : ByteArray} (h : letF s = (l, true)) : l.size ≤ 10 ∧ 1 ≤ s.size := by
  unfold letF at h
  cases hl : letL s s.size with
  | none => rw [hl] at h; cases h
  | some m =>
    rw [hl] at h
    injection h with h1 h2
    subst h1
    refine ⟨letL_size hl, ?_⟩
    rcases Nat.eq_zero_or_pos s.size with h0 | h0
    · rw [h0] at hl
      injection hl with hl
      subst hl
      exact absurd h2 (by decide)
    · exact h0
theorem mem_plcP (l : ByteArray) (first : Int) (s : Sit) : ∀ N : Nat, s ∈ plcP l first N ↔ (first ≤ s.row ∧ s.row < first + N) ∧ ∃ k, k < l.size ∧ s.let_ = bat l k
  | 0 => by simp [plcP]; intros; omega
  | N + 1 => by
    have hr : s ∈ rowP l (first + N) l.size ↔ s.row = first + N ∧ ∃ k, k < l.size ∧ s.let_ = bat l k := by
      unfold rowP
      rw [List.mem_map]
      constructor
      · rintro ⟨k, hk, rfl⟩
        exact ⟨rfl, k, List.mem_range.1 hk, rfl⟩
      · rintro ⟨h1, k, hk, h2⟩
        exact ⟨k, List.mem_range.2 hk, by cases s; simp_all⟩
    simp only [plcP, List.mem_append, mem_plcP l first s N, hr]
    constructor
    · rintro (⟨⟨h1, h2⟩, h3⟩ | ⟨h1, h3⟩)
      · exact ⟨⟨h1, by omega⟩, h3⟩
      · exact ⟨⟨by omega, by omega⟩, h3⟩
    · rintro ⟨⟨h1, h2⟩, h3⟩
      by_cases e : s.row = first + N
      · exact .inr ⟨e, h3⟩
      · exact .inl ⟨⟨h1, by omega⟩, h3⟩
theorem atI_mem {l : ByteArray} {c : Int} (hc : okByte c) : 0 ≤ atI l c ↔ ∃ k, k < l.size ∧ c = bat l k := by
  unfold okByte at hc
  have h1 : decide (0 ≤ atI l c) = l.data.toList.any (· == c.toNat.toUInt8) := firstIdx_nonneg l _
  have h2 : 0 ≤ atI l c ↔ l.data.toList.any (· == c.toNat.toUInt8) = true := by rw [← h1, decide_eq_true_eq]
  rw [h2, List.any_eq_true]
  have hlen : l.data.toList.length = l.size := by simp
  have hu : ∀ b : UInt8, b = c.toNat.toUInt8 ↔ c = (b.toNat : Int) := fun b => by
    constructor
    · rintro rfl
      have : c.toNat < 256 := by omega
      simp [Nat.mod_eq_of_lt this]
      omega
    · intro e
      have : b.toNat = c.toNat := by omega
      rw [← this]
      simp
  constructor
  · rintro ⟨b, hb, e⟩
    obtain ⟨k, hk, rfl⟩ := List.getElem_of_mem hb
    refine ⟨k, by omega, ?_⟩
    have e2 := (hu _).1 (by simpa using e)
    rw [e2]
    unfold bat
    rw [List.getElem?_eq_getElem hk]
    rfl
  · rintro ⟨k, hk, e⟩
    have hk2 : k < l.data.toList.length := by omega
    refine ⟨l.data.toList[k], List.getElem_mem hk2, ?_⟩
    have e2 : c = ((l.data.toList[k]).toNat : Int) := by
      rw [e]
      unfold bat
      rw [List.getElem?_eq_getElem hk2]
      rfl
    simpa using (hu _).2 e2
/-- What is blocked is a place. -/
theorem blk_place {p : Pln} {l : ByteArray} {n k : Nat} {x : Sit} (h : allP (bkP p l) n = true) (hk : k < n) (hx : p.blocked[k]? = some x) (hc : okByte x.let_) {N : Nat} (hN : (N : Int) = p.last + 1 - p.first) : x ∈ plcP l p.first N := by
  have h1 := allP_at n hk h
  rw [bkP_at hx] at h1
  simp only [Bool.and_eq_true, decide_eq_true_eq] at h1
  rw [mem_plcP]
  exact ⟨⟨h1.1, by omega⟩, (atI_mem hc).1 h1.2.2.1⟩
end Go.Proofs.YtlkdefmceghmnaaGreatDoor
namespace Go.Proofs.YtlkdefmceghmnaaGreatDoor
set_option linter.unusedVariables false
open Go Go.RowKit Go.Sort
open Go.WideMaps (KeyLaw)
attribute [local go_sem] bat_get
/-- What New hands back: a map of the plan's places, or none. -/
def RetPn (w : World) (p : Pln) (e : Ending) (w' : World) : Prop :=
  Below w.heap.size w w' ∧ ((chkP p = false ∧ e = .returned (.tuple #[.pointer none, .int .i64 4])) ∨
    (chkP p = true ∧ ∃ pm bm g l, e = .returned (.tuple #[.pointer (some ⟨pm, 0, none⟩), .int .i64 0]) ∧ PM w' pm bm g ∧ w.heap.size ≤ pm ∧ w.heap.size ≤ bm ∧ pm ≠ bm ∧ letF p.letters = (l, true) ∧ MG (plcP l p.first (p.last + 1 - p.first).toNat) p.blocked g))
set_option maxRecDepth 100000 in
set_option maxHeartbeats 16000000 in
theorem pnew_any (r : PlR) (w : World) (lo ho : Nat) (hok : r.ok) (hat : PlAt w lo ho r) (hhi : ho ≤ w.heap.size) (hne : r.ne ≤ 1000) (hnb : r.nb ≤ 9223372036854775807) :
    Calls Tryz.prog 16 #[.agg #[.int .i64 r.p.first, .int .i64 r.p.last, .string r.p.letters, .slice r.Ae r.ne r.ce, .slice r.Ab r.nb r.cb]] w (RetPn w r.p) := by
  have HOK := Lib.hid hok
  have HAT := Lib.hid hat
  have HNB := Lib.hid hat.bk.len
  have HB := box1 w #[.int .i64 r.p.first, .int .i64 r.p.last, .string r.p.letters, .slice r.Ae r.ne r.ce, .slice r.Ab r.nb r.cb] 59
  have hmm := @run_makeMap Tryz.prog
  clear hok hat
  go_enter Tryz.func16, Tryz.ntmps16
  go_upto_region 1 with fail
  refine wp_world (fun V => Bx V w.heap.size #[.int .i64 r.p.first, .int .i64 r.p.last, .string r.p.letters, .slice r.Ae r.ne r.ce, .slice r.Ab r.nb r.cb] 59 ∧ Below w.heap.size w V) HB ?_
  clear HB
  rintro V ⟨bP, hb⟩
  have c1 := bP.cells
  have zP := bP.lt
  have hz := hb.size
  generalize hq : chkP r.p = q
  have HQ := Lib.hid hq
  have HCK := Lib.hid (check_is r V lo ho HOK.out (HAT.out.below hb hhi) (Nat.le_trans hhi hz) (by omega) hnb hq)
  clear hq
  go_wp2_with fail
  refine HCK.out.mono ?_
  rintro e w1 ⟨rfl, h1⟩
  have HB1 := Lib.hid (hb.trans (h1.mono hz))
  rcases q with _ | _
  · have e4 : errP false = 4 := rfl
    have t4 : ((4 : Int) != 0) = true := rfl
    rw [e4]
    go_wp2
    go_ret2
    exact ⟨HB1.out, .inl ⟨HQ.out, rfl⟩⟩
  have e0 : errP true = 0 := rfl
  rw [e0]
  obtain ⟨l, hlf, f1, f2, f3, f4, hbk⟩ := chk_facts HQ.out
  obtain ⟨hl10, hls1⟩ := letF_size hlf
  have HLF := Lib.hid hlf
  have HBK := Lib.hid hbk
  have bP1 := bP.below h1 zP
  have zz1 := HB1.out.size
  clear c1 hlf hbk HCK bP hb
  have c1 := bP1.cells
  go_wp2_with fail
  refine (letters_is r.p.letters w1 HOK.out.letters HLF.out).mono ?_
  rintro e w2 ⟨rfl, h2⟩
  have hB2 := HB1.out.trans (h2.mono zz1)
  have zz2 := hB2.size
  have bP2 := bP1.below h2 bP1.lt
  have zP2 := bP2.lt
  clear c1 bP1
  go_upto_region 6 with fail
  refine wp_world (fun V2 => NS w #[.int .i64 r.p.first, .int .i64 r.p.last, .string r.p.letters, .slice r.Ae r.ne r.ce, .slice r.Ab r.nb r.cb] w2.heap.size (w2.heap.size + 1) none 0 0 [] [] V2) ?_ ?_
  · have h5 := Bx.new (w2.alloc (.map #[] 0)) #[.map (some w2.heap.size), .slice none 0 0] 107
    rw [World.size_alloc] at h5
    exact ⟨(bP2.alloc _).alloc _, h5, Own.nil_ _ _ _ _, ⟨_, (Mp.made w2).alloc _, MG.nil_⟩, (hB2.alloc zz2 _).alloc (by simp; omega) _, by omega, by omega⟩
  clear hB2 bP2
  intro V2 hN
  have c1 := hN.pl.cells
  obtain ⟨N, hN0⟩ : ∃ N : Nat, (N : Int) = r.p.last + 1 - r.p.first := ⟨(r.p.last + 1 - r.p.first).toNat, by omega⟩
  have HNL := Lib.hid (show N = (r.p.last + 1 - r.p.first).toNat by omega)
  generalize hbm : w2.heap.size = bm at hN
  clear hbm h1 h2
  go_wp2
  clear c1
  go_loopw [8, 10, 11] (fun rv _ _ wr => ∃ (i : Nat) (A : Option Addr) (n c : Nat), i ≤ N ∧ rv = .int .i64 (r.p.first + i) ∧ NS w #[.int .i64 r.p.first, .int .i64 r.p.last, .string r.p.letters, .slice r.Ae r.ne r.ce, .slice r.Ab r.nb r.cb] bm (bm + 1) A n c (plcP l r.p.first i) [] wr) (fun rv _ _ _ => (r.p.last + 1 - intOf rv).toNat)
  case atStart => exact ⟨0, none, 0, 0, Nat.zero_le _, by simp, hN⟩
  case round =>
    clear hN
    obtain ⟨i, A, n, c, hi, rfl, hN⟩ := hrel
    have c1 := hN.pl.cells
    have zw := hN.below.size
    have zm := hN.plt
    have hlen := hN.len
    rw [plcP_len] at hlen
    have hn600 : n ≤ 600 := by
      have h6 : i * l.size ≤ 60 * 10 := Nat.mul_le_mul (by omega) hl10
      omega
    by_cases hlt : i < N
    · have t1 : decide (r.p.first + (i : Int) ≤ r.p.last) = true := by simp; omega
      obtain ⟨w5, cc, hrun, hb5, hz5, hcell⟩ := bytes_of (P := Tryz.prog) wr 9 108 5 l Tryz.underlying9 Tryz.underlying108 Tryz.underlying5
      have HC := Lib.hid hcell
      have hN5 := hN.step hb5
      have HN5 := Lib.hid hN5
      have zb5 := hb5.size
      obtain ⟨bl, hbl⟩ : ∃ bl, bl = wr.heap.size := ⟨_, rfl⟩
      have hof : Hid (∀ k, (Value.slice A n c).ownBlock = some k → k ≠ bl) := fun k hk => by have := (hN.own.lt k hk).2; omega
      rw [← hbl] at hrun HC hz5
      clear hcell hb5 hN5
      obtain ⟨wo, rfl⟩ : ∃ wo : World, wo = wr := ⟨_, rfl⟩
      have zblm : bm + 1 < bl := by omega
      clear hbl
      go_wp2
      clear c1
      go_loopw [10, 11, 40] (fun _ _ iv wr => ∃ (j : Nat) (A' : Option Addr) (n' c' : Nat), j ≤ l.size ∧ iv = .int .i64 j ∧ NS w #[.int .i64 r.p.first, .int .i64 r.p.last, .string r.p.letters, .slice r.Ae r.ne r.ce, .slice r.Ab r.nb r.cb] bm (bm + 1) A' n' c' (plcP l r.p.first i ++ rowP l (r.p.first + i) j) [] wr ∧ Hid (∀ k, k < l.size → wr.cell? ⟨bl, k, none⟩ = some (.int .u8 (bat l k))) ∧ Hid (∀ k, (Value.slice A' n' c').ownBlock = some k → k ≠ bl) ∧ bl < wr.heap.size) (fun _ _ iv _ => l.size - (intOf iv).toNat)
      case atStart => exact ⟨0, A, n, c, Nat.zero_le _, rfl, by simpa [rowP] using HN5.out, HC, hof, hz5⟩
      case round =>
        clear HN5 hN hrun HC hof hz5
        obtain ⟨j, A', n', c', hj, rfl, hN, HC, hof, hz5⟩ := hrel
        by_cases hlt2 : j < l.size
        · have hlen2 := hN.len
          rw [List.length_append, plcP_len, rowP_len] at hlen2
          have hn2 : n' ≤ 620 := by
            have h6 : i * l.size ≤ 60 * 10 := Nat.mul_le_mul (by omega) hl10
            omega
          have cb := HC.out j hlt2
          have j0 : (0 : Int) ≤ j := by omega
          have j1 : (j : Int) < l.size := by omega
          have hbd := bat_bd l j
          have hsok : Sit.ok ⟨r.p.first + (i : Int), bat l j⟩ := ⟨by unfold okInt; dsimp only; omega, hbd⟩
          have HNX : Hid (plcP l r.p.first i ++ rowP l (r.p.first + i) (j + 1) = (plcP l r.p.first i ++ rowP l (r.p.first + i) j) ++ [⟨r.p.first + i, bat l j⟩]) := by show _ = _; rw [rowP_next, List.append_assoc]
          generalize plcP l r.p.first i ++ rowP l (r.p.first + i) j = L at hN HNX
          obtain ⟨kl, hkl⟩ := sitKey _ hsok
          have HKL := Lib.hid hkl
          have zwr := hN.below.size
          have zpr := hN.plt
          go_upto_region 13 with fail
          refine wp_world (fun U => NS w #[.int .i64 r.p.first, .int .i64 r.p.last, .string r.p.letters, .slice r.Ae r.ne r.ce, .slice r.Ab r.nb r.cb] bm (bm + 1) A' n' c' L [] U ∧ Bx U wr.heap.size #[.int .i64 (r.p.first + (i : Int)), .int .u8 (bat l j)] 82 ∧ Below wr.heap.size wr U) ⟨hN.step ((Below.refl _ _).alloc (Nat.le_refl _) _), Bx.new _ _ _, (Below.refl _ _).alloc (Nat.le_refl _) _⟩ ?_
          clear hN cb hkl
          rintro U ⟨hN, bS, hbU⟩
          have HNU := Lib.hid hN
          have BSU := Lib.hid bS
          have HBU := Lib.hid hbU
          have zU := hbU.size
          have zS := bS.lt
          have hNd : NS w #[.int .i64 r.p.first, .int .i64 r.p.last, .string r.p.letters, .slice r.Ae r.ne r.ce, .slice r.Ab r.nb r.cb] bm (bm + 1) A' n' c' L [] U.drew := hN.step ((Below.refl _ _).drew)
          have bSd : Bx U.drew wr.heap.size #[.int .i64 (r.p.first + (i : Int)), .int .u8 (bat l j)] 82 := bS
          have c1 := hNd.pl.cells
          have c2 := hNd.box.cells
          have c3 := bSd.cells
          have D0 := Lib.hid ((Below.refl U.heap.size U).drew)
          have zwU := hN.below.size
          have HMK := Lib.hid (fun (X : World) (hX : Below U.heap.size U X) => marks_any r ⟨r.p.first + (i : Int), bat l j⟩ X lo ho HOK.out (HAT.out.below (HNU.out.below.trans (hX.mono zwU)) hhi) (Nat.le_trans (Nat.le_trans hhi zwU) hX.size) hne hls1)
          clear hN bS hbU hNd bSd
          refine wp_region_held_drew (S := fun w9 => Bx w9 w.heap.size #[.int .i64 r.p.first, .int .i64 r.p.last, .string r.p.letters, .slice r.Ae r.ne r.ce, .slice r.Ab r.nb r.cb] 59 ∧ Bx w9 (bm + 1) #[.map (some bm), .slice A' n' c'] 107 ∧ Bx w9 wr.heap.size #[.int .i64 (r.p.first + (i : Int)), .int .u8 (bat l j)] 82) (by kernel_rfl) ⟨HNU.out.pl, HNU.out.box, BSU.out⟩ (fun hS => ?_)
          refine wpAnyH_take (i := 0) (oi := { dst := some 47, op := Op.move (Operand.tmp 7), type := 61, pos := "plan.go:115", after := #[], guard := none }) (v := ?_) rfl (by kernel_rfl) (by kernel_rfl) (by kernel_rfl) (fun _ _ _ h => h) (Or.inl ⟨by rfl, ?_⟩) hS ?_
          rotate_left
          · intro w9 hS9; have q1 := hS9.1.cells; have q2 := hS9.2.1.cells; have q3 := hS9.2.2.cells; go_simp; try with_reducible rfl
          try simp only [Act.put]
          try simp only [List.setIfInBounds_toArray]
          try simp only [List.set_cons_zero]
          try simp only [List.set_cons_succ, List.set_cons_zero]
          refine wpAnyH_take (i := 1) (oi := { dst := some 48, op := Op.nilCheck (Operand.tmp 47), type := 0, pos := "plan.go:115", after := #[{ on := 0, ground := Ground.data }], guard := none }) (v := ?_) rfl (by kernel_rfl) (by kernel_rfl) (by kernel_rfl) (fun _ _ _ h => h) (Or.inl ⟨by rfl, ?_⟩) hS ?_
          rotate_left
          · intro w9 hS9; have q1 := hS9.1.cells; have q2 := hS9.2.1.cells; have q3 := hS9.2.2.cells; go_simp; try with_reducible rfl
          try simp only [Act.put]
          try simp only [List.setIfInBounds_toArray]
          try simp only [List.set_cons_zero]
          try simp only [List.set_cons_succ, List.set_cons_zero]
          refine wpAnyH_take (i := 2) (oi := { dst := some 49, op := Op.fieldAddr 107 (Operand.tmp 48) 0, type := 0, pos := "plan.go:115", after := #[{ on := 1, ground := Ground.data }], guard := none }) (v := ?_) rfl (by kernel_rfl) (by kernel_rfl) (by kernel_rfl) (fun _ _ _ h => h) (Or.inl ⟨by rfl, ?_⟩) hS ?_
          rotate_left
          · intro w9 hS9; have q1 := hS9.1.cells; have q2 := hS9.2.1.cells; have q3 := hS9.2.2.cells; go_simp; try with_reducible rfl
          try simp only [Act.put]
          try simp only [List.setIfInBounds_toArray]
          try simp only [List.set_cons_zero]
          try simp only [List.set_cons_succ, List.set_cons_zero]
          refine wpAnyH_take (i := 3) (oi := { dst := some 50, op := Op.load 105 (Operand.tmp 49), type := 105, pos := "plan.go:115", after := #[{ on := 2, ground := Ground.data }], guard := none }) (v := ?_) rfl (by kernel_rfl) (by kernel_rfl) (by kernel_rfl) (fun _ _ _ h => h) (Or.inl ⟨by rfl, ?_⟩) hS ?_
          rotate_left
          · intro w9 hS9; have q1 := hS9.1.cells; have q2 := hS9.2.1.cells; have q3 := hS9.2.2.cells; go_simp; try with_reducible rfl
          try simp only [Act.put]
          try simp only [List.setIfInBounds_toArray]
          try simp only [List.set_cons_zero]
          try simp only [List.set_cons_succ, List.set_cons_zero]
          refine wpAnyH_take (i := 4) (oi := { dst := some 51, op := Op.load 82 (Operand.tmp 11), type := 82, pos := "plan.go:115", after := #[], guard := none }) (v := ?_) rfl (by kernel_rfl) (by kernel_rfl) (by kernel_rfl) (fun _ _ _ h => h) (Or.inl ⟨by rfl, ?_⟩) hS ?_
          rotate_left
          · intro w9 hS9; have q1 := hS9.1.cells; have q2 := hS9.2.1.cells; have q3 := hS9.2.2.cells; go_simp; try with_reducible rfl
          try simp only [Act.put]
          try simp only [List.setIfInBounds_toArray]
          try simp only [List.set_cons_zero]
          try simp only [List.set_cons_succ, List.set_cons_zero]
          refine wpAnyH_take (i := 5) (oi := { dst := some 52, op := Op.move (Operand.tmp 7), type := 61, pos := "plan.go:115", after := #[], guard := none }) (v := ?_) rfl (by kernel_rfl) (by kernel_rfl) (by kernel_rfl) (fun _ _ _ h => h) (Or.inl ⟨by rfl, ?_⟩) hS ?_
          rotate_left
          · intro w9 hS9; have q1 := hS9.1.cells; have q2 := hS9.2.1.cells; have q3 := hS9.2.2.cells; go_simp; try with_reducible rfl
          try simp only [Act.put]
          try simp only [List.setIfInBounds_toArray]
          try simp only [List.set_cons_zero]
          try simp only [List.set_cons_succ, List.set_cons_zero]
          refine wpAnyH_take (i := 6) (oi := { dst := some 53, op := Op.nilCheck (Operand.tmp 52), type := 0, pos := "plan.go:115", after := #[{ on := 5, ground := Ground.data }], guard := none }) (v := ?_) rfl (by kernel_rfl) (by kernel_rfl) (by kernel_rfl) (fun _ _ _ h => h) (Or.inl ⟨by rfl, ?_⟩) hS ?_
          rotate_left
          · intro w9 hS9; have q1 := hS9.1.cells; have q2 := hS9.2.1.cells; have q3 := hS9.2.2.cells; go_simp; try with_reducible rfl
          try simp only [Act.put]
          try simp only [List.setIfInBounds_toArray]
          try simp only [List.set_cons_zero]
          try simp only [List.set_cons_succ, List.set_cons_zero]
          refine wpAnyH_take (i := 7) (oi := { dst := some 54, op := Op.fieldAddr 107 (Operand.tmp 53) 1, type := 0, pos := "plan.go:115", after := #[{ on := 6, ground := Ground.data }], guard := none }) (v := ?_) rfl (by kernel_rfl) (by kernel_rfl) (by kernel_rfl) (fun _ _ _ h => h) (Or.inl ⟨by rfl, ?_⟩) hS ?_
          rotate_left
          · intro w9 hS9; have q1 := hS9.1.cells; have q2 := hS9.2.1.cells; have q3 := hS9.2.2.cells; go_simp; try with_reducible rfl
          try simp only [Act.put]
          try simp only [List.setIfInBounds_toArray]
          try simp only [List.set_cons_zero]
          try simp only [List.set_cons_succ, List.set_cons_zero]
          refine wpAnyH_take (i := 8) (oi := { dst := some 55, op := Op.load 57 (Operand.tmp 54), type := 57, pos := "plan.go:115", after := #[{ on := 7, ground := Ground.data }], guard := none }) (v := ?_) rfl (by kernel_rfl) (by kernel_rfl) (by kernel_rfl) (fun _ _ _ h => h) (Or.inl ⟨by rfl, ?_⟩) hS ?_
          rotate_left
          · intro w9 hS9; have q1 := hS9.1.cells; have q2 := hS9.2.1.cells; have q3 := hS9.2.2.cells; go_simp; try with_reducible rfl
          try simp only [Act.put]
          try simp only [List.setIfInBounds_toArray]
          try simp only [List.set_cons_zero]
          try simp only [List.set_cons_succ, List.set_cons_zero]
          refine wpAnyH_take (i := 9) (oi := { dst := some 56, op := Op.call { callee := Callee.builtin Builtin.len, args := #[Operand.tmp 55], argTypes := #[57] }, type := 3, pos := "plan.go:115", after := #[{ on := 8, ground := Ground.data }], guard := none }) (v := ?_) rfl (by kernel_rfl) (by kernel_rfl) (by kernel_rfl) (fun _ _ _ h => h) (Or.inl ⟨by rfl, ?_⟩) hS ?_
          rotate_left
          · intro w9 hS9; have q1 := hS9.1.cells; have q2 := hS9.2.1.cells; have q3 := hS9.2.2.cells; go_simp; try with_reducible rfl
          try simp only [Act.put]
          try simp only [List.setIfInBounds_toArray]
          try simp only [List.set_cons_zero]
          try simp only [List.set_cons_succ, List.set_cons_zero]
          refine wpAnyH_take (i := 10) (oi := { dst := some 57, op := Op.load 59 (Operand.tmp 1), type := 59, pos := "plan.go:115", after := #[], guard := none }) (v := ?_) rfl (by kernel_rfl) (by kernel_rfl) (by kernel_rfl) (fun _ _ _ h => h) (Or.inl ⟨by rfl, ?_⟩) hS ?_
          rotate_left
          · intro w9 hS9; have q1 := hS9.1.cells; have q2 := hS9.2.1.cells; have q3 := hS9.2.2.cells; go_simp; try with_reducible rfl
          try simp only [Act.put]
          try simp only [List.setIfInBounds_toArray]
          try simp only [List.set_cons_zero]
          try simp only [List.set_cons_succ, List.set_cons_zero]
          refine wpAnyH_take (i := 11) (oi := { dst := some 58, op := Op.load 82 (Operand.tmp 11), type := 82, pos := "plan.go:115", after := #[], guard := none }) (v := ?_) rfl (by kernel_rfl) (by kernel_rfl) (by kernel_rfl) (fun _ _ _ h => h) (Or.inl ⟨by rfl, ?_⟩) hS ?_
          rotate_left
          · intro w9 hS9; have q1 := hS9.1.cells; have q2 := hS9.2.1.cells; have q3 := hS9.2.2.cells; go_simp; try with_reducible rfl
          try simp only [Act.put]
          try simp only [List.setIfInBounds_toArray]
          try simp only [List.set_cons_zero]
          try simp only [List.set_cons_succ, List.set_cons_zero]
          refine wpAnyH_ready (rs := [12]) (by kernel_rfl) (by simp) ?_
          refine AllReadyH.cons (o := { dst := some 59, op := Op.call { callee := Callee.value (Operand.func 44), args := #[Operand.tmp 57, Operand.tmp 58], argTypes := #[59, 82] }, type := 9, pos := "plan.go:115", after := #[{ on := 10, ground := Ground.data }, { on := 11, ground := Ground.data }], guard := none }) rfl (fun K9 hK9 => ?_) AllReadyH.nil
          go_simp
          with_reducible refine (HMK.out _ D0.out).mono ?_
          rintro e wm ⟨t, rfl, hm⟩
          have DM : Hid (Below U.heap.size U wm) := D0.out.trans (hm.mono (show U.heap.size ≤ U.drew.heap.size from Nat.le_refl _))
          have HNM := Lib.hid (HNU.out.step DM.out)
          have BSM := Lib.hid (BSU.out.below DM.out zS)
          have hS1 := And.intro HNM.out.pl (And.intro HNM.out.box BSM.out)
          clear hm
          refine hK9.out _ _ hS1 (fun hS => ?_)
          clear hK9 K9
          try simp only [Act.put]
          try simp only [List.setIfInBounds_toArray]
          try simp only [List.set_cons_zero]
          try simp only [List.set_cons_succ, List.set_cons_zero]
          refine wpAnyH_take (i := 13) (oi := { dst := some 60, op := Op.build 111 #[(0, Operand.tmp 56), (2, Operand.tmp 59)], type := 111, pos := "plan.go:115", after := #[{ on := 9, ground := Ground.data }, { on := 12, ground := Ground.data }], guard := none }) (v := ?_) rfl (by kernel_rfl) (by kernel_rfl) (by kernel_rfl) (fun _ _ _ h => h) (Or.inl ⟨by rfl, ?_⟩) hS ?_
          rotate_left
          · intro w9 hS9; have q1 := hS9.1.cells; have q2 := hS9.2.1.cells; have q3 := hS9.2.2.cells; go_simp; try with_reducible rfl
          try simp only [Act.put]
          try simp only [List.setIfInBounds_toArray]
          try simp only [List.set_cons_zero]
          try simp only [List.set_cons_succ, List.set_cons_zero]
          refine wpAnyH_ready (rs := [14]) (by kernel_rfl) (by simp) ?_
          refine AllReadyH.cons (o := { dst := none, op := Op.mapUpdate 105 (Operand.tmp 50) (Operand.tmp 51) (Operand.tmp 60), type := 0, pos := "plan.go:115", after := #[{ on := 3, ground := Ground.data }, { on := 4, ground := Ground.data }, { on := 13, ground := Ground.data }, { on := 12, ground := Ground.chain }, { on := 0, ground := Ground.phase }, { on := 1, ground := Ground.phase }, { on := 2, ground := Ground.phase }, { on := 3, ground := Ground.phase }, { on := 4, ground := Ground.phase }, { on := 5, ground := Ground.phase }, { on := 6, ground := Ground.phase }, { on := 7, ground := Ground.phase }, { on := 8, ground := Ground.phase }, { on := 9, ground := Ground.phase }, { on := 10, ground := Ground.phase }, { on := 11, ground := Ground.phase }, { on := 12, ground := Ground.phase }, { on := 13, ground := Ground.phase }], guard := none }) rfl (fun K9 hK9 => ?_) AllReadyH.nil
          obtain ⟨g, hmp, hg⟩ := HNM.out.mp
          obtain ⟨V3, hrun, hmp2, hwr⟩ := hmp.put (v := .agg #[.int .i64 n', .bool false, .string t]) (e := 111) (t := 105) lawSit Tryz.underlying105 HKL.out
          unfold sitV at hrun
          have HG3 := Lib.hid (hg.put ⟨r.p.first + (i : Int), bat l j⟩ n' t)
          have HM3 := Lib.hid hmp2
          have HW3 := Lib.hid hwr
          have HX3 := Lib.hid (HNM.out.wr hwr hmp2 HG3.out)
          have hlt1 := HNM.out.lt1
          have hBS3 : Bx V3 wr.heap.size #[.int .i64 (r.p.first + (i : Int)), .int .u8 (bat l j)] 82 := BSM.out.wr hwr (by omega)
          have hS3 := And.intro HX3.out.1 (And.intro HX3.out.2.1 hBS3)
          clear hg hmp hmp2 hwr
          go_simp
          refine hK9.out _ _ hS3 (fun hS => ?_)
          clear hK9 K9
          try simp only [Act.put]
          try simp only [List.setIfInBounds_toArray]
          try simp only [List.set_cons_zero]
          try simp only [List.set_cons_succ, List.set_cons_zero]
          refine wpAnyH_done (by kernel_rfl) ?_ _
          have bx := HX3.out.2.1
          have ow := HX3.out.2.2.1
          have bw := HX3.out.2.2.2
          have bp := HX3.out.1
          have zV3 : wm.heap.size = V3.heap.size := HW3.out.size.symm
          have zUm := DM.out.size
          have hgA : Hid (∀ p, (Value.slice A' n' c').ownBlock = some p → bm + 1 + 1 ≤ p ∧ p < V3.heap.size) := fun p hp => ow.lt p hp
          have hLn : L.length = n' := ow.sl.len
          have hBLK : Hid (V3.heap[bl]? = wr.heap[bl]?) := by
            refine ((HW3.out.block (by omega)).trans (DM.out.block bl (by omega))).trans (HBU.out.block bl hz5)
          have zbx := bx.lt
          have zwV3 := bw.size
          clear hrun c1 c2 c3 hS hS1 hS3
          go_upto_region 14 with fail
          have c5 := bx.cells
          have c6 := hBS3.cells
          replace bx : Bx V3.drew _ _ _ := bx
          replace bp : Bx V3.drew _ _ _ := bp
          replace ow : Own V3.drew _ _ _ _ _ := ow.drew
          replace bw : Below w.heap.size w V3.drew := bw.drew
          have bs : Bx V3.drew wr.heap.size #[.int .i64 (r.p.first + (i : Int)), .int .u8 (bat l j)] 82 := hBS3
          have c1 := bx.cells
          have c3 := bs.cells
          go_region_law (refine step_push (T := tSit) rfl (.tmp 65) (.tmp 67) (by rfl) sl_sit (by rfl) (ow.alloc _) (⟨r.p.first + (i : Int), bat l j⟩ : Sit) hsok (by exact heap_alloc_new _ _) (by rfl) (by rfl) (by simp; omega) (by omega) ?_; intro v' w3 hown' hgr hb'; obtain ⟨A3, k3, rfl⟩ := hown'.form; have bx3 := (bx.alloc _).grown hgr (fun e => by have q5 := hgA.out _ e; omega); have bp3 := (bp.alloc _).grown hgr (fun e => by have q5 := hgA.out _ e; omega); have hb3 := (bw.alloc (show w.heap.size ≤ V3.drew.heap.size from zwV3) _).grown hgr (by simp; omega) (fun p hp => by have q5 := hgA.out _ hp; omega); have cL3 := bx3.cells; have fL3 := bx3.free)
          all_goals
            go_wp2
            have hln1 : (L ++ [(⟨r.p.first + (i : Int), bat l j⟩ : Sit)]).length = n' + 1 := by rw [List.length_append, hLn]; rfl
            rw [hln1] at hown' hb'
            have q5 := hown'.setCell (p := ⟨bm + 1, 1, none⟩) (by simp) (.slice A3 (n' + 1) k3)
            have hmp3 : Mp Tryz.prog 82 w3 bm _ := ((HM3.out.drew).alloc (.cells #[.int .i64 (r.p.first + (i : Int)), .int .u8 (bat l j)] 82)).keep (hgr.block bm (by simp; omega) (fun e => by have q5 := hgA.out _ e.symm; omega))
            have hblk : (w3.setCell ⟨bm + 1, 1, none⟩ (.slice A3 (n' + 1) k3)).heap[bl]? = wr.heap[bl]? := ((Below.heap_setCell w3 _ _ bl (by dsimp only; omega)).trans ((hgr.block bl (by simp; omega) (fun e => hof.out _ e.symm rfl)).trans (heap_alloc_old V3.drew _ (by show bl < V3.heap.size; omega)))).trans hBLK.out
            exact ⟨⟨j + 1, A3, n' + 1, k3, by omega, by go_num, by rw [HNX.out]; exact ⟨bp3.other (by dsimp only; omega) _, bx3.put 1 _, q5, ⟨_, hmp3.setCell _ (by dsimp only; omega) _, HG3.out⟩, hb3.setCell (by dsimp only; omega) _, by omega, by omega⟩, fun k hk => (World.cell?_of_block hblk).trans (HC.out k hk), fun k hk => by
              rcases hb' with h5 | h5
              · exact hof.out k (by rw [← h5]; exact hk)
              · rw [h5] at hk
                injection hk with hk
                simp at hk
                omega, by simp; have := hgr.size; simp at this; omega⟩, by simp [intOf]; omega⟩
        · obtain rfl : l.size = j := by omega
          go_wp2
          go_roundw
          case rel => exact ⟨i + 1, A', n', c', by omega, by go_num, hN⟩
          case measure => simp [intOf]; omega
    · obtain rfl : i = N := by omega
      have t1 : decide (r.p.first + (i : Int) ≤ r.p.last) = false := by simp; omega
      have hsz := HAT.out.bk.len
      have HN0 := Lib.hid hN0
      have HNS := Lib.hid hN
      go_wp2
      clear c1
      go_loopw [13, 14, 75] (fun _ _ iv wr => ∃ k : Nat, k ≤ r.nb ∧ iv = .int .i64 k ∧ NS w #[.int .i64 r.p.first, .int .i64 r.p.last, .string r.p.letters, .slice r.Ae r.ne r.ce, .slice r.Ab r.nb r.cb] bm (bm + 1) A n c (plcP l r.p.first i) (r.p.blocked.take k) wr) (fun _ _ iv _ => r.nb - (intOf iv).toNat)
      case atStart => exact ⟨0, Nat.zero_le _, rfl, by simpa using HNS.out⟩
      case round =>
        clear HNS hN
        obtain ⟨k, hk, rfl, hN⟩ := hrel
        have zwr := hN.below.size
        have zpr := hN.plt
        by_cases hlt3 : k < r.nb
        · obtain ⟨b0, o0, ⟨xr, xl⟩, hA, _, hb0, hx, hokx, d0, d1⟩ := (HAT.out.bk.below hN.below hhi).sit_ hlt3
          dsimp only at d0 d1
          have HPL := Lib.hid (blk_place HBK.out (by rw [HNB.out]; exact hlt3) hx.out hokx.2 HN0.out)
          have i0 : (0 : Int) ≤ k := by omega
          have i1 : (k : Int) < r.nb := by omega
          have HTK : Hid (r.p.blocked.take (k + 1) = r.p.blocked.take k ++ [⟨xr, xl⟩]) := by show _ = _; rw [List.take_add_one, hx.out]; rfl
          generalize r.p.blocked.take k = Bk at hN HTK
          obtain ⟨kl, hkl⟩ := sitKey _ hokx
          have HKL := Lib.hid hkl
          clear hkl
          go_upto_region 19 with fail
          refine wp_world (fun U => NS w #[.int .i64 r.p.first, .int .i64 r.p.last, .string r.p.letters, .slice r.Ae r.ne r.ce, .slice r.Ab r.nb r.cb] bm (bm + 1) A n c (plcP l r.p.first i) Bk U ∧ Bx U wr.heap.size #[.int .i64 xr, .int .u8 xl] 82 ∧ Below wr.heap.size wr U) ⟨hN.step ((Below.refl _ _).alloc (Nat.le_refl _) _), Bx.new _ _ _, (Below.refl _ _).alloc (Nat.le_refl _) _⟩ ?_
          clear hN d0 d1
          rintro U ⟨hN, bS, hbU⟩
          obtain ⟨g, hmp, hg⟩ := hN.mp
          have HG := Lib.hid hg
          obtain ⟨n0, t0, hgx⟩ := hg.dom _ HPL.out
          generalize decide ((⟨xr, xl⟩ : Sit) ∈ Bk) = bl0 at hgx
          have LK : ∀ X : World, Mp Tryz.prog 82 X bm g → (Instr.lookup 105 (.map (some bm)) (.agg #[.int .i64 xr, .int .u8 xl]) false).run Tryz.prog X = .ok (.agg #[.int .i64 n0, .bool bl0, .string t0]) X := fun X hX => by
            have h5 := hX.look (e := 111) (t := 105) lawSit Tryz.underlying105 zeroMark HKL.out false
            rw [hgx] at h5
            exact h5
          have l1 := LK U.drew hmp.drew
          have l2 := LK (U.alloc (.cells #[.int .i64 0, .bool false, .string ⟨#[]⟩] 111)).drew (hmp.alloc _).drew
          have bx1 : Bx U.drew (bm + 1) #[.map (some bm), .slice A n c] 107 := hN.box
          have bx2 : Bx (U.alloc (.cells #[.int .i64 0, .bool false, .string ⟨#[]⟩] 111)).drew (bm + 1) #[.map (some bm), .slice A n c] 107 := hN.box.alloc _
          have bs1 : Bx U.drew wr.heap.size #[.int .i64 xr, .int .u8 xl] 82 := bS
          have bs2 : Bx (U.alloc (.cells #[.int .i64 0, .bool false, .string ⟨#[]⟩] 111)).drew wr.heap.size #[.int .i64 xr, .int .u8 xl] 82 := bS.alloc _
          have c1 := bx1.cells
          have c2 := bx2.cells
          have c3 := bs1.cells
          have c4 := bs2.cells
          have c5 := hN.box.cells
          have c6 := bS.cells
          have HNU := Lib.hid hN
          have BSU := Lib.hid bS
          have HBU := Lib.hid hbU
          clear LK hN bS hbU hmp hg hgx
          go_region
          clear c1 c2 c3 c4 c5 c6 l1 l2 bx1 bx2 bs1 bs2
          all_goals
            have bM : Bx (U.alloc (.cells #[.int .i64 n0, .bool bl0, .string t0] 111)).drew U.heap.size #[.int .i64 n0, .bool bl0, .string t0] 111 := Bx.new U #[.int .i64 n0, .bool bl0, .string t0] 111
            have cM := bM.cells
            have fM := bM.free
            have zM := bM.lt
            go_upto_region 21 with fail
            refine wp_world (fun X => NS w #[.int .i64 r.p.first, .int .i64 r.p.last, .string r.p.letters, .slice r.Ae r.ne r.ce, .slice r.Ab r.nb r.cb] bm (bm + 1) A n c (plcP l r.p.first i) Bk X ∧ Bx X wr.heap.size #[.int .i64 xr, .int .u8 xl] 82 ∧ Bx X U.heap.size #[.int .i64 n0, .bool true, .string ⟨#[]⟩] 111) ⟨HNU.out.step (((Below.refl U.heap.size U).alloc (Nat.le_refl _) _).drew), BSU.out.below (((Below.refl U.heap.size U).alloc (Nat.le_refl _) _).drew) BSU.out.lt, Bx.new U #[.int .i64 n0, .bool true, .string ⟨#[]⟩] 111⟩ ?_
            clear cM fM bM
            rintro X ⟨hN, bS, bK⟩
            have bx1 : Bx X.drew (bm + 1) #[.map (some bm), .slice A n c] 107 := hN.box
            have bs1 : Bx X.drew wr.heap.size #[.int .i64 xr, .int .u8 xl] 82 := bS
            have bk1 : Bx X.drew U.heap.size #[.int .i64 n0, .bool true, .string ⟨#[]⟩] 111 := bK
            have c1 := bx1.cells
            have c2 := bs1.cells
            have c3 := bk1.cells
            have c4 := hN.box.cells
            have c5 := bS.cells
            have c6 := bK.cells
            have hNd : NS w #[.int .i64 r.p.first, .int .i64 r.p.last, .string r.p.letters, .slice r.Ae r.ne r.ce, .slice r.Ab r.nb r.cb] bm (bm + 1) A n c (plcP l r.p.first i) Bk X.drew := hN.step (Below.refl _ _).drew
            obtain ⟨g2, hmp2, hg2⟩ := hNd.mp
            obtain ⟨V3, hrun, hmp3, hwr⟩ := hmp2.put (v := .agg #[.int .i64 n0, .bool true, .string ⟨#[]⟩]) (e := 111) (t := 105) lawSit Tryz.underlying105 HKL.out
            unfold sitV at hrun
            have HX3 := Lib.hid (hNd.wr hwr hmp3 (hg2.block HPL.out n0 ⟨#[]⟩))
            have HN3 : Hid (NS w #[.int .i64 r.p.first, .int .i64 r.p.last, .string r.p.letters, .slice r.Ae r.ne r.ce, .slice r.Ab r.nb r.cb] bm (bm + 1) A n c (plcP l r.p.first i) (Bk ++ [⟨xr, xl⟩]) V3) := ⟨HX3.out.1, HX3.out.2.1, HX3.out.2.2.1, ⟨_, hmp3, hg2.block HPL.out n0 ⟨#[]⟩⟩, HX3.out.2.2.2, hN.lt1, hN.lt2⟩
            clear hmp2 hg2 hmp3 hwr hNd hN bS bK bx1 bs1 bk1
            go_region
            all_goals
              go_wp2
              exact ⟨⟨k + 1, by omega, by go_num, by rw [HTK.out]; exact HN3.out⟩, by simp [intOf]; omega⟩
        · obtain rfl : r.nb = k := by omega
          have HTA : Hid (r.p.blocked.take r.nb = r.p.blocked) := List.take_of_length_le (Nat.le_of_eq HNB.out)
          rw [HTA.out] at hN
          have HNE := Lib.hid hN
          clear hN
          go_wp2
          go_ret2
          obtain ⟨g, hmp, hg⟩ := HNE.out.mp
          have q1 := HNE.out.lt1
          exact ⟨HNE.out.below, .inr ⟨HQ.out, bm + 1, bm, g, l, rfl, ⟨⟨A, n, c, HNE.out.box⟩, hmp, fun v u hv => by
            obtain ⟨s, _, _, n9, t9, h9⟩ := hg.val v u hv
            exact ⟨n9, _, t9, h9⟩⟩, by omega, by omega, by omega, HLF.out, by rw [← HNL.out]; exact hg⟩⟩
end Go.Proofs.YtlkdefmceghmnaaGreatDoor
