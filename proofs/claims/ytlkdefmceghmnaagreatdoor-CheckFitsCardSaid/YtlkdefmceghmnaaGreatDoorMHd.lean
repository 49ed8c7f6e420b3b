/- Put together by program of: Hd1, Hd2z. -/
import Derived.Test.YtlkdefmceghmnaaGreatDoorStS
import Derived.Test.YtlkdefmceghmnaaGreatDoorMPn
namespace Go.Proofs.YtlkdefmceghmnaaGreatDoor
set_option linter.unusedVariables false
open Go Go.RowKit Go.Sort
open Go.WideMaps (KeyLaw)
/-- A seat of a leg. -/
structure Hpl where
  leg : Leg
  seat : Sit
def Hpl.ok (c : Hpl) : Prop := c.leg.ok ∧ c.seat.ok
def hplV (c : Hpl) : Value := .agg #[.string c.leg.key.car, .int .i64 c.leg.key.num, .int .i64 c.leg.day, .int .i64 c.seat.row, .int .u8 c.seat.let_]
theorem hplV_inj {a b : Hpl} (h : hplV a = hplV b) : a = b := by
  obtain ⟨⟨⟨a0, a1⟩, a2⟩, a3, a4⟩ := a
  obtain ⟨⟨⟨b0, b1⟩, b2⟩, b3, b4⟩ := b
  unfold hplV at h
  simp at h
  obtain ⟨h1, h2, h3, h4, h5⟩ := h
  rw [h1, h2, h3, h4, h5]
instance : DecidableEq Hpl := fun a b => decidable_of_iff (a.leg = b.leg ∧ a.seat = b.seat) (by cases a; cases b; simp)
/-- Whose it is. -/
structure Hol where
  loc : ByteArray
  pax : Int
def Hol.ok (h : Hol) : Prop := okStr h.loc ∧ okInt h.pax
def holV (h : Hol) : Value := .agg #[.string h.loc, .int .i64 h.pax]
theorem holV_inj {a b : Hol} (h : holV a = holV b) : a = b := by
  obtain ⟨a0, a1⟩ := a
  obtain ⟨b0, b1⟩ := b
  unfold holV at h
  simp at h
  rw [h.1, h.2]
instance : DecidableEq Hol := fun a b => decidable_of_iff (a.loc = b.loc ∧ a.pax = b.pax) (by cases a; cases b; simp)
def hol0 : Hol := ⟨⟨#[]⟩, 0⟩
theorem zeroHol (u : World) : (zeroValue 196).run Tryz.prog u = .ok (holV hol0) u := by kernel_rfl
theorem lawHpl : KeyLaw Tryz.prog 194 := deep_law_laid laidOutF (m := 5) (by omega) (of_decide_eq_true (by kernel_rfl)) (by kernel_rfl) (by kernel_rfl)
theorem cHpl : Tryz.prog.cellsOf 194 = 5 := by kernel_rfl
set_option maxRecDepth 100000 in
theorem hplKey (c : Hpl) (h : c.ok) : ∃ l, keyOf Tryz.prog 194 (hplV c) = some l := by
  obtain ⟨⟨⟨h1, h2⟩, h3⟩, h5, h4⟩ := h
  unfold okStr at h1
  unfold okInt at h2 h3 h5
  unfold okByte at h4
  have w1 : c.leg.key.car.size ≤ maxLen := by unfold maxLen; omega
  have w2 := WalkArith.wf_i64 h2
  have w3 := WalkArith.wf_i64 h3
  have w4 := WalkArith.wf_u8 h4
  have w5 := WalkArith.wf_i64 h5
  have kt : Tryz.prog.keyType 194 = true := by kernel_rfl
  obtain ⟨n, hn⟩ := szT5
  have hf : (hplV c).formed Tryz.prog 194 = true := by
    simp only [Value.formed, hplV, Tryz.underlying194, cHpl]
    rfl
  have hL : ∃ l, Tryz.prog.keyLits (n + 5) 194 [.string c.leg.key.car, .int .i64 c.leg.key.num, .int .i64 c.leg.day, .int .i64 c.seat.row, .int .u8 c.seat.let_] = some l := by
    simp [Program.keyLits, Tryz.underlying194, Tryz.underlying74, Tryz.underlying82, Tryz.underlying52, Tryz.underlying9, Tryz.underlying3, Tryz.underlying5, cHpl, cLeg, cSit, cKey, cStr, cInt, cByte, w1, w2, w3, w4, w5]
    try rw [if_pos (by intro i hi; rcases i with _ | _ | i <;> first | (simp; done) | omega)]
    try exact ⟨_, rfl⟩
  obtain ⟨l, hl⟩ := hL
  refine ⟨.string (keyBytes l), ?_⟩
  unfold keyOf
  rw [Tryz.underlying194]
  dsimp only
  rw [kt, hf, Bool.true_and, if_pos rfl, hn]
  show (Tryz.prog.keyLits (n + 5) 194 [.string c.leg.key.car, .int .i64 c.leg.key.num, .int .i64 c.leg.day, .int .i64 c.seat.row, .int .u8 c.seat.let_]).map _ = _
  rw [hl]
  rfl
/-- The map's values are whose each seat is. -/
structure GH (g : Value → Option Value) (q : Hpl → Option Hol) : Prop where
  at_ : ∀ c : Hpl, c.ok → g (hplV c) = (q c).map holV
  dom : ∀ v u, g v = some u → ∃ c : Hpl, c.ok ∧ v = hplV c
  hok : ∀ c h, q c = some h → c.ok ∧ h.ok
def updH (q : Hpl → Option Hol) (c : Hpl) (o : Option Hol) : Hpl → Option Hol := fun d => if d = c then o else q d
theorem updH_same (q : Hpl → Option Hol) (c : Hpl) (o : Option Hol) : updH q c o c = o := by simp [updH]
theorem updH_other (q : Hpl → Option Hol) (c : Hpl) (o : Option Hol) {d : Hpl} (h : d ≠ c) : updH q c o d = q d := by simp [updH, h]
theorem updH_self (q : Hpl → Option Hol) (c : Hpl) : updH q c (q c) = q := by
  funext d
  by_cases e : d = c
  · rw [e, updH_same]
  · rw [updH_other _ _ _ e]
theorem GH.none_ : GH (fun _ => none) (fun _ => none) := ⟨fun c _ => rfl, fun v u h => (by cases h), fun c h e => (by cases e)⟩
theorem GH.put {g : Value → Option Value} {q : Hpl → Option Hol} (h : GH g q) {c : Hpl} (hc : c.ok) {x : Hol} (hx : x.ok) : GH (updK g (hplV c) (some (holV x))) (updH q c (some x)) := by
  refine ⟨fun d hd => ?_, fun v u hv => ?_, fun d y hy => ?_⟩
  · by_cases e : d = c
    · subst e
      rw [updK_same, updH_same]
      rfl
    · rw [updK_other _ _ _ (fun h2 => e (hplV_inj h2)), updH_other _ _ _ e]
      exact h.at_ d hd
  · by_cases e : v = hplV c
    · exact ⟨c, hc, e⟩
    · rw [updK_other _ _ _ e] at hv
      exact h.dom v u hv
  · by_cases e : d = c
    · subst e
      rw [updH_same] at hy
      injection hy with hy
      exact hy ▸ ⟨hc, hx⟩
    · rw [updH_other _ _ _ e] at hy
      exact h.hok d y hy
theorem GH.del {g : Value → Option Value} {q : Hpl → Option Hol} (h : GH g q) {c : Hpl} : GH (updK g (hplV c) none) (updH q c none) := by
  refine ⟨fun d hd => ?_, fun v u hv => ?_, fun d y hy => ?_⟩
  · by_cases e : d = c
    · subst e
      rw [updK_same, updH_same]
      rfl
    · rw [updK_other _ _ _ (fun h2 => e (hplV_inj h2)), updH_other _ _ _ e]
      exact h.at_ d hd
  · by_cases e : v = hplV c
    · rw [e, updK_same] at hv; cases hv
    · rw [updK_other _ _ _ e] at hv
      exact h.dom v u hv
  · by_cases e : d = c
    · subst e
      rw [updH_same] at hy
      cases hy
    · rw [updH_other _ _ _ e] at hy
      exact h.hok d y hy
/-- A map of a plan: its blocks, what it tells; the plan's. -/
structure PlM where
  pm : Nat
  bm : Nat
  g : Value → Option Value
  p : Pln
def tPm : Ty PlM := ⟨fun x => [.pointer (some ⟨x.pm, 0, none⟩)], 1, fun _ => True, fun _ => rfl, fun x u h => by simp at h; subst h; rfl, by omega⟩
theorem sl_pm : SlT Tryz.prog 37 61 1 := SlT.mk' (z := .pointer none) (b := 8) (by kernel_rfl) (by kernel_rfl) (by omega) rfl
/-- Maps of plans, their blocks from lo on, ahead of hi. -/
structure PLS (w : World) (lo hi : Nat) (A : Option Addr) (n : Nat) (ps : List PlM) : Prop where
  sl : Sl w lo hi tPm A n ps
  at_ : ∀ x ∈ ps, PM w x.pm x.bm x.g ∧ (lo ≤ x.pm ∧ x.pm < hi) ∧ lo ≤ x.bm ∧ x.bm < hi
theorem PLS.keepB {w w' : World} {lo hi : Nat} {A : Option Addr} {n : Nat} {ps : List PlM} (h : PLS w lo hi A n ps) (hk : ∀ k, lo ≤ k → k < hi → w'.heap[k]? = w.heap[k]?) : PLS w' lo hi A n ps := by
  refine ⟨⟨h.sl.len, h.sl.wf, fun hn => ?_⟩, fun x hx => ?_⟩
  · obtain ⟨b, o, e, h1, h2, h3⟩ := h.sl.cells hn
    exact ⟨b, o, e, h1, h2, fun j x hx i u hu => (by rw [← h3 j x hx i u hu]; unfold World.cell?; rw [hk b h1 h2])⟩
  · obtain ⟨h1, ⟨h2, h3⟩, h4, h5⟩ := h.at_ x hx
    exact ⟨h1.keepB (hk _ h2 h3) (hk _ h4 h5), ⟨h2, h3⟩, h4, h5⟩
/-- The book at block p, over the table at block t and the maps ps (their blocks from lo on, ahead of hi); its own map at block b. -/
structure HK (W : World) (lo hi t p b : Nat) (rs : List FlR) (ps : List PlM) (q : Hpl → Option Hol) : Prop where
  ex : ∃ A n c, (∃ w3, TB w3 lo t rs ∧ PLS w3 lo hi A n ps ∧ w3.heap.size = hi ∧ ∀ k, lo ≤ k → k < hi → W.heap[k]? = w3.heap[k]?) ∧ Bx W p #[.pointer (some ⟨t, 0, none⟩), .slice A n c, .map (some b)] 124
  mp : ∃ g, Mp Tryz.prog 194 W b g ∧ GH g q
  hp : hi ≤ p
  hb : hi ≤ b
  ne : p ≠ b
section
variable {W W' : World} {lo hi t p b : Nat} {rs : List FlR} {ps : List PlM} {q : Hpl → Option Hol}
theorem HK.plt (h : HK W lo hi t p b rs ps q) : p < W.heap.size := by
  obtain ⟨A, n, c, _, h1⟩ := h.ex
  exact h1.lt
theorem HK.blt (h : HK W lo hi t p b rs ps q) : b < W.heap.size := by
  obtain ⟨g, hm, _⟩ := h.mp
  exact hm.size
theorem HK.open_ (h : HK W lo hi t p b rs ps q) : ∃ A n c, TB W lo t rs ∧ PLS W lo hi A n ps ∧ Bx W p #[.pointer (some ⟨t, 0, none⟩), .slice A n c, .map (some b)] 124 := by
  obtain ⟨A, n, c, ⟨w3, ht, hl, hs, hk⟩, hx⟩ := h.ex
  exact ⟨A, n, c, ht.keepB fun k h1 h2 => hk k h1 (by omega), hl.keepB hk, hx⟩
theorem HK.keep (h : HK W lo hi t p b rs ps q) (hb : Below W.heap.size W W') : HK W' lo hi t p b rs ps q := by
  have h1 := h.plt
  have h2 := h.blt
  obtain ⟨A, n, c, ⟨w3, ht, hl, hs, hk⟩, hx⟩ := h.ex
  obtain ⟨g, hm, hg⟩ := h.mp
  exact ⟨⟨A, n, c, ⟨w3, ht, hl, hs, fun k q1 q2 => (hb.block k (by have := h.hp; omega)).trans (hk k q1 q2)⟩, hx.below hb h1⟩, ⟨g, hm.below hb h2, hg⟩, h.hp, h.hb, h.ne⟩
theorem HK.drewN (h : HK W lo hi t p b rs ps q) (n : Nat) : HK (W.drewN n) lo hi t p b rs ps q := h.keep (below_drewN (Below.refl _ _) n)
theorem HK.wr {q' : Hpl → Option Hol} {g' : Value → Option Value} (h : HK W lo hi t p b rs ps q) (hw : Wr b W W') (hm : Mp Tryz.prog 194 W' b g') (hg : GH g' q') : HK W' lo hi t p b rs ps q' := by
  obtain ⟨A, n, c, ⟨w3, ht, hl, hs, hk⟩, hx⟩ := h.ex
  exact ⟨⟨A, n, c, ⟨w3, ht, hl, hs, fun k q1 q2 => (hw.block (by have := h.hb; omega)).trans (hk k q1 q2)⟩, hx.wr hw h.ne⟩, ⟨g', hm, hg⟩, h.hp, h.hb, h.ne⟩
/-- Another book's map block is written. -/
theorem HK.kb {b' : Nat} (h : HK W lo hi t p b rs ps q) (hk : Kb b' W W') (hp : b' ≠ p) (hb : b' ≠ b) (hh : hi ≤ b') : HK W' lo hi t p b rs ps q := by
  have h1 := h.plt
  have h2 := h.blt
  have h3 := h.hp
  obtain ⟨A, n, c, ⟨w3, ht, hl, hs, hk2⟩, hx⟩ := h.ex
  obtain ⟨g, hm, hg⟩ := h.mp
  exact ⟨⟨A, n, c, ⟨w3, ht, hl, hs, fun k q1 q2 => (hk.block k (by omega) (by omega)).trans (hk2 k q1 q2)⟩, (hk.block p h1 (fun e => hp e.symm)).trans hx⟩, ⟨g, hm.keep (hk.block b h2 fun e => hb e.symm), hg⟩, h.hp, h.hb, h.ne⟩
theorem HK.look (h : HK W lo hi t p b rs ps q) (c : Hpl) (hc : c.ok) : (Instr.lookup 122 (.map (some b)) (.agg #[.string c.leg.key.car, .int .i64 c.leg.key.num, .int .i64 c.leg.day, .int .i64 c.seat.row, .int .u8 c.seat.let_]) true).run Tryz.prog W = .ok (.tuple #[holV ((q c).getD hol0), .bool (q c).isSome]) W := by
  obtain ⟨g, hm, hg⟩ := h.mp
  obtain ⟨kl, hkl⟩ := hplKey c hc
  have h1 := hm.look (e := 196) (t := 122) lawHpl Tryz.underlying122 zeroHol hkl true
  rw [hg.at_ c hc] at h1
  cases h0 : q c with
  | none => rw [h0] at h1; exact h1
  | some x => rw [h0] at h1; exact h1
end
set_option maxRecDepth 100000 in
theorem clone_pm (l : List PlM) (A : Option Addr) (n c : Nat) (w : World) (lo hi : Nat) (hs : Sl w lo hi tPm A n l) (hn : n ≤ 100000) (hhi : hi ≤ w.heap.size) (hc : A = none → c = 0) :
    Calls Tryz.prog 54 #[.slice A n c] w (RetOwn w 61 tPm l) := by
  have hcap := Lib.hid hc
  clear hc
  cases A with
  | none =>
    obtain rfl : c = 0 := hcap.out rfl
    have h0 : n = 0 := by
      rcases Nat.eq_zero_or_pos n with h | h
      · exact h
      · obtain ⟨b, o, hA, _⟩ := hs.cells h; cases hA
    subst h0
    have hl : l = [] := List.eq_nil_of_length_eq_zero hs.len
    subst hl
    have he := eqlnil0 _ _ Tryz.underlying37 0 0
    go_enter Tryz.func54, Tryz.ntmps54
    go_wp2
    go_ret
    exact RetOwn.mk' (Own.nil_ _ _ _ _) (by (repeat (first | with_reducible exact Below.refl _ _ | (with_reducible refine Below.drew ?_) | (with_reducible refine below_drewN ?_ _) | (with_reducible refine Below.alloc ?_ (by first | (simp; done) | omega | (simp; omega)) _) | (with_reducible refine Below.setCell ?_ (by first | (simp; done) | omega | (simp; omega)) _) | with_reducible assumption)))
  | some a =>
    have hlen := Lib.hid hs.len
    have hm : World.ownsRow (w.alloc (.cells #[] 61)) w.heap.size 61 1 (.slice (some ⟨w.heap.size, 0, none⟩) 0 0) 0 [] := World.ownsRow_made w #[] 0 (Nat.le_refl _) (by unfold maxLen; omega) rfl
    have hown : Own (w.alloc (.cells #[] 61)) w.heap.size 61 tPm (.slice (some ⟨w.heap.size, 0, none⟩) 0 0) [] := ⟨(fun _ h => absurd h List.not_mem_nil), hm⟩
    clear hm
    have he := eqlnil _ _ Tryz.underlying37 a n c
    go_enter Tryz.func54, Tryz.ntmps54
    go_wp2_with (at_builtin; refine append_law (l := []) rfl (.tmp 5) (.tmp 6) rfl sl_pm rfl hown rfl (hs.alloc hhi _) (fun h => by cases h) (by simp) (by simp; omega) ?_; intro v' w' hown' hgr hb')
    go_ret
    rw [List.nil_append] at hown'
    exact RetOwn.mk' hown' (((Below.refl _ _).alloc (Nat.le_refl _) _).grown hgr (by simp) (fun k hk => (hown.lt k hk).1))
/-- A book that was made. -/
def RetHk (w : World) (lo t : Nat) (rs : List FlR) (ps : List PlM) (e : Ending) (w' : World) : Prop :=
  ∃ hi p b, e = .returned (.pointer (some ⟨p, 0, none⟩)) ∧ HK w' lo hi t p b rs ps (fun _ => none) ∧ w.heap.size ≤ hi ∧ Below w.heap.size w w'
set_option maxRecDepth 100000 in
theorem hnew_any (rs : List FlR) (ps : List PlM) (t lo : Nat) (A : Option Addr) (n c : Nat) (w : World) (ht : TB w lo t rs) (hp : PLS w lo w.heap.size A n ps) (hlo : lo ≤ w.heap.size) (hn : n ≤ 100000) (hc : A = none → c = 0) :
    Calls Tryz.prog 23 #[.pointer (some ⟨t, 0, none⟩), .slice A n c] w (RetHk w lo t rs ps) := by
  have HT := Lib.hid ht
  have HP := Lib.hid hp
  have HC := Lib.hid (clone_pm ps A n c w _ _ hp.sl hn (Nat.le_refl _) hc)
  have hmm := @run_makeMap Tryz.prog
  clear ht hp hc
  go_enter Tryz.func23, Tryz.ntmps23
  go_wp2_with fail
  refine HC.out.mono ?_
  rintro e w1 ⟨A1, c1, rfl, ho, hb⟩
  have HO := Lib.hid ho
  have HB := Lib.hid hb
  have hz := hb.size
  clear ho hb
  go_wp2
  go_ret
  have hb2 := Bx.new (w1.alloc (.map #[] 0)) #[.pointer (some ⟨t, 0, none⟩), .slice A1 ps.length c1, .map (some w1.heap.size)] 124
  rw [World.size_alloc] at hb2
  have hBW : Below w1.heap.size w1 ((w1.alloc (.map #[] 0)).alloc (.cells #[.pointer (some ⟨t, 0, none⟩), .slice A1 ps.length c1, .map (some w1.heap.size)] 124)) := ((Below.refl _ _).alloc (Nat.le_refl _) _).alloc (by simp) _
  refine ⟨w1.heap.size, w1.heap.size + 1, w1.heap.size, rfl, ⟨⟨A1, ps.length, c1, ⟨w1, HT.out.keep HB.out, ⟨(HO.out.sl.more hlo (Nat.le_refl _)), fun x hx => ?_⟩, rfl, fun k _ h2 => hBW.block k h2⟩, hb2⟩, ⟨_, (Mp.made w1).alloc _, GH.none_⟩, by omega, Nat.le_refl _, by omega⟩, hz, HB.out.trans (hBW.mono hz)⟩
  obtain ⟨h1, ⟨h2, h3⟩, h4, h5⟩ := HP.out.at_ x hx
  exact ⟨h1.keep HB.out, ⟨h2, by omega⟩, h4, by omega⟩
end Go.Proofs.YtlkdefmceghmnaaGreatDoor
namespace Go.Proofs.YtlkdefmceghmnaaGreatDoor
set_option linter.unusedVariables false
open Go Go.RowKit Go.Sort
open Go.WideMaps (KeyLaw)
/-- The plan's number of a flight that is looked for. -/
def plnF (rs : List FlR) (k : Key) : Int := match findR rs k with | some r => r.f.pln | none => 0
/-- Has a leg that seat? -/
def hasB (rs : List FlR) (ps : List PlM) (c : Hpl) : Bool := fliesF (rs.map (·.f)) c.leg && (match ps[(plnF rs c.leg.key).toNat]? with | some x => hasG x.g c.seat | none => false)
theorem plnF_bd {rs : List FlR} (hr : ∀ r ∈ rs, rightB r.f = true) (k : Key) : 0 ≤ plnF rs k ∧ plnF rs k < 8 := by
  unfold plnF
  cases h : findR rs k with
  | none => simp
  | some r =>
    have h1 := hr r (List.mem_of_find?_eq_some h)
    unfold rightB rightC at h1
    simp only [Bool.and_eq_true, decide_eq_true_eq] at h1
    exact ⟨h1.2.1.2.2.1, h1.2.1.2.2.2.1⟩
theorem find_is {rs : List FlR} {t lo : Nat} {k : Key} {pl : Int} {W : World} (hpl : plnF rs k = pl) (ht : TB W lo t rs) (hk : k.ok) :
    Calls Tryz.prog 55 #[.pointer (some ⟨t, 0, none⟩), .agg #[.string k.car, .int .i64 k.num]] W fun e w' => ∃ s0 z1 s2 s3 z4 z5 z6 A n c bb, e = .returned (.tuple #[.agg #[.string s0, .int .i64 z1, .string s2, .string s3, .int .u8 z4, .int .i64 z5, .int .i64 z6, .slice A n c, .int .i64 pl], .bool bb]) ∧ Below W.heap.size W w' := by
  refine (find_any rs t lo k W ht hk).mono fun e w' h => ?_
  unfold plnF at hpl
  cases hf : findR rs k with
  | none =>
    rw [hf] at hpl h
    obtain ⟨h1, h2⟩ := h
    subst hpl
    exact ⟨_, _, _, _, _, _, _, _, _, _, _, h1, h2⟩
  | some r =>
    rw [hf] at hpl h
    obtain ⟨A, c, h1, _, _, h2⟩ := h
    subst hpl
    exact ⟨_, _, _, _, _, _, _, _, _, _, _, h1, h2⟩
theorem lt_of_cell {w : World} {b o : Nat} {v : Value} (h : w.cell? ⟨b, o, none⟩ = some v) : b < w.heap.size := by
  refine Classical.byContradiction fun hn => ?_
  have h1 : w.heap[b]? = none := Array.getElem?_eq_none (by omega)
  unfold World.cell? at h
  dsimp only at h
  rw [h1] at h
  cases h
/-- A whole flight is stored, in a region that draws its order. -/
theorem step_store_rf {ops : Array Oper} {o : Oper} {a : Act} {K : Act → World → Prop} {Q : Exit → Act → World → Prop} {E : Prop} {W : World} (hgd : o.guard = none) (x y : Operand) (ho : o.op = .store 55 x y) {g : Nat} (cells : Array Value) {old : Array Value}
    (hx : a.eval x = .pointer (some ⟨g, 0, none⟩)) (hy : a.eval y = .agg cells) (hr : Bx W g old 55) (h9 : cells.size = 9) (ho9 : old.size = 9) (h1 : cells.all (·.oneCell') = true)
    (h : K (a.put o.dst undef) (W.setRow g cells)) : if Region.wanted o (yielded ops a.tmps) = true then o.wp Tryz.prog a W K Q else E := by
  have hw : Region.wanted o (yielded ops a.tmps) = true := by simp [Region.wanted, hgd]
  rw [if_pos hw]
  exact wp_store_row _ x y ho g cells hx hy _ old hr (by rw [h9]; exact info_flt) (by rw [h9, ho9]) h1 h
set_option maxRecDepth 100000 in
set_option maxHeartbeats 8000000 in
theorem hhas_any {W : World} {lo hi t p b : Nat} {rs : List FlR} {ps : List PlM} {q : Hpl → Option Hol} (h : HK W lo hi t p b rs ps q) (hr : ∀ r ∈ rs, rightB r.f = true) (g : Leg) (s : Sit) (hg : g.ok) (hs : s.ok) {q0 : Bool} (hq0 : hasB rs ps ⟨g, s⟩ = q0) :
    Calls Tryz.prog 24 #[.pointer (some ⟨p, 0, none⟩), .agg #[.string g.key.car, .int .i64 g.key.num, .int .i64 g.day], .agg #[.int .i64 s.row, .int .u8 s.let_]] W fun e w' => e = .returned (.bool q0) ∧ Below W.heap.size W w' := by
  have HG := Lib.hid hg
  have HSO := Lib.hid hs
  have hbd := plnF_bd hr g.key
  generalize hpl : plnF rs g.key = pl at hbd
  have HPL := Lib.hid hpl
  have HQ : Hid ((fliesF (rs.map (·.f)) g && (match ps[pl.toNat]? with | some x => hasG x.g s | none => false)) = q0) := by show _ = _; rw [← hq0, ← hpl]; rfl
  generalize hfl : fliesF (rs.map (·.f)) g = fl at HQ
  have HFL := Lib.hid hfl
  obtain ⟨⟨kc, kn⟩, d⟩ := g
  obtain ⟨sr, sl⟩ := s
  dsimp only at hpl ⊢
  have HB : (Bx ((W.alloc (.cells #[.string kc, .int .i64 kn, .int .i64 d] 74)).alloc (.cells #[.int .i64 sr, .int .u8 sl] 82)) W.heap.size #[.string kc, .int .i64 kn, .int .i64 d] 74 ∧ Bx ((W.alloc (.cells #[.string kc, .int .i64 kn, .int .i64 d] 74)).alloc (.cells #[.int .i64 sr, .int .u8 sl] 82)) (W.heap.size + 1) #[.int .i64 sr, .int .u8 sl] 82 ∧ Below W.heap.size W ((W.alloc (.cells #[.string kc, .int .i64 kn, .int .i64 d] 74)).alloc (.cells #[.int .i64 sr, .int .u8 sl] 82))) ∧ HK ((W.alloc (.cells #[.string kc, .int .i64 kn, .int .i64 d] 74)).alloc (.cells #[.int .i64 sr, .int .u8 sl] 82)) lo hi t p b rs ps q := by
    have h3 := two_boxes W #[.string kc, .int .i64 kn, .int .i64 d] #[.int .i64 sr, .int .u8 sl] 74 82
    exact ⟨⟨h3.1, h3.2.1, h3.2.2.below⟩, h.keep h3.2.2.below⟩
  clear h hg hs hq0 hpl hfl hr
  go_enter Tryz.func24, Tryz.ntmps24
  go_upto_region 1 with fail
  refine wp_world (fun V => (Bx V W.heap.size #[.string kc, .int .i64 kn, .int .i64 d] 74 ∧ Bx V (W.heap.size + 1) #[.int .i64 sr, .int .u8 sl] 82 ∧ Below W.heap.size W V) ∧ HK V lo hi t p b rs ps q) HB ?_
  clear HB
  rintro V ⟨⟨b1, b2, hb⟩, hH⟩
  have z1 := b1.lt
  have z2 := b2.lt
  obtain ⟨A, n, c, ht, hps, hx⟩ := hH.open_
  have zp := hx.lt
  have HHI : Hid (hi ≤ V.heap.size) := by have h1 := hH.hp; have h2 := hH.plt; show _ ≤ _; omega
  have HT := Lib.hid ht
  have HPS := Lib.hid hps
  have HBX := Lib.hid hx
  have HB1 := Lib.hid b1
  have HB2 := Lib.hid b2
  have HBV := Lib.hid hb
  have hz := hb.size
  have HSK := Lib.hid (fun (W2 : World) (hW : Below V.heap.size V W2) => (⟨(hx.below hW zp).cells, (b1.below hW z1).cells⟩ : (∀ i : Nat, W2.cell? ⟨p, i, none⟩ = (#[.pointer (some ⟨t, 0, none⟩), .slice A n c, .map (some b)] : Array Value)[i]?) ∧ (∀ i : Nat, W2.cell? ⟨W.heap.size, i, none⟩ = (#[.string kc, .int .i64 kn, .int .i64 d] : Array Value)[i]?)))
  have hfd := fun (W2 : World) (hW : Below V.heap.size V W2) => find_is HPL.out (ht.keep hW) HG.out.1
  dsimp only at hfd
  have HFD := Lib.hid hfd
  clear hfd
  have hD := (Below.refl V.heap.size V).drew
  clear hH ht hps hx b1 b2 hb
  go_cut [7] (fun tv w' => (∃ gp, tv = .pointer (some ⟨gp, 0, none⟩) ∧ w'.cell? ⟨gp, 8, none⟩ = some (.int .i64 pl)) ∧ Below V.heap.size V w')
  case first =>
    -- REGION1
    refine wp_region_held_drew (S := (fun w9 => (∀ i : Nat, w9.cell? ⟨p, i, none⟩ = (#[.pointer (some ⟨t, 0, none⟩), .slice A n c, .map (some b)] : Array Value)[i]?) ∧ (∀ i : Nat, w9.cell? ⟨W.heap.size, i, none⟩ = (#[.string kc, .int .i64 kn, .int .i64 d] : Array Value)[i]?))) (by kernel_rfl) (HSK.out _ hD) (fun hS => ?_)
    refine wpAnyH_take (i := 0) (oi := { dst := some 10, op := Op.move (Operand.tmp 0), type := 79, pos := "hold.go:34", after := #[], guard := none }) (v := ?_) rfl (by kernel_rfl) (by kernel_rfl) (by kernel_rfl) (fun _ _ _ h => h) (Or.inl ⟨by rfl, ?_⟩) hS ?_
    rotate_left
    · intro w9 hS9; have q1 := hS9.1; have q2 := hS9.2; go_simp; try with_reducible rfl
    try simp only [Act.put]
    try simp only [List.setIfInBounds_toArray]
    try simp only [List.set_cons_zero]
    try simp only [List.set_cons_succ, List.set_cons_zero]
    refine wpAnyH_take (i := 1) (oi := { dst := some 11, op := Op.nilCheck (Operand.tmp 10), type := 0, pos := "hold.go:34", after := #[{ on := 0, ground := Ground.data }], guard := none }) (v := ?_) rfl (by kernel_rfl) (by kernel_rfl) (by kernel_rfl) (fun _ _ _ h => h) (Or.inl ⟨by rfl, ?_⟩) hS ?_
    rotate_left
    · intro w9 hS9; have q1 := hS9.1; have q2 := hS9.2; go_simp; try with_reducible rfl
    try simp only [Act.put]
    try simp only [List.setIfInBounds_toArray]
    try simp only [List.set_cons_zero]
    try simp only [List.set_cons_succ, List.set_cons_zero]
    refine wpAnyH_take (i := 2) (oi := { dst := some 12, op := Op.fieldAddr 124 (Operand.tmp 11) 0, type := 0, pos := "hold.go:34", after := #[{ on := 1, ground := Ground.data }], guard := none }) (v := ?_) rfl (by kernel_rfl) (by kernel_rfl) (by kernel_rfl) (fun _ _ _ h => h) (Or.inl ⟨by rfl, ?_⟩) hS ?_
    rotate_left
    · intro w9 hS9; have q1 := hS9.1; have q2 := hS9.2; go_simp; try with_reducible rfl
    try simp only [Act.put]
    try simp only [List.setIfInBounds_toArray]
    try simp only [List.set_cons_zero]
    try simp only [List.set_cons_succ, List.set_cons_zero]
    refine wpAnyH_take (i := 3) (oi := { dst := some 13, op := Op.load 40 (Operand.tmp 12), type := 40, pos := "hold.go:34", after := #[{ on := 2, ground := Ground.data }], guard := none }) (v := ?_) rfl (by kernel_rfl) (by kernel_rfl) (by kernel_rfl) (fun _ _ _ h => h) (Or.inl ⟨by rfl, ?_⟩) hS ?_
    rotate_left
    · intro w9 hS9; have q1 := hS9.1; have q2 := hS9.2; go_simp; try with_reducible rfl
    try simp only [Act.put]
    try simp only [List.setIfInBounds_toArray]
    try simp only [List.set_cons_zero]
    try simp only [List.set_cons_succ, List.set_cons_zero]
    refine wpAnyH_take (i := 4) (oi := { dst := some 14, op := Op.fieldAddr 74 (Operand.tmp 4) 0, type := 0, pos := "hold.go:34", after := #[], guard := none }) (v := ?_) rfl (by kernel_rfl) (by kernel_rfl) (by kernel_rfl) (fun _ _ _ h => h) (Or.inl ⟨by rfl, ?_⟩) hS ?_
    rotate_left
    · intro w9 hS9; have q1 := hS9.1; have q2 := hS9.2; go_simp; try with_reducible rfl
    try simp only [Act.put]
    try simp only [List.setIfInBounds_toArray]
    try simp only [List.set_cons_zero]
    try simp only [List.set_cons_succ, List.set_cons_zero]
    refine wpAnyH_take (i := 5) (oi := { dst := some 15, op := Op.load 52 (Operand.tmp 14), type := 52, pos := "hold.go:34", after := #[{ on := 4, ground := Ground.data }], guard := none }) (v := ?_) rfl (by kernel_rfl) (by kernel_rfl) (by kernel_rfl) (fun _ _ _ h => h) (Or.inl ⟨by rfl, ?_⟩) hS ?_
    rotate_left
    · intro w9 hS9; have q1 := hS9.1; have q2 := hS9.2; go_simp; try with_reducible rfl
    try simp only [Act.put]
    try simp only [List.setIfInBounds_toArray]
    try simp only [List.set_cons_zero]
    try simp only [List.set_cons_succ, List.set_cons_zero]
    refine wpAnyH_ready (rs := [6, 10]) (by kernel_rfl) (by simp) ?_
    refine AllReadyH.cons (o := { dst := some 16, op := Op.call { callee := Callee.value (Operand.func 55), args := #[Operand.tmp 13, Operand.tmp 15], argTypes := #[40, 52] }, type := 125, pos := "hold.go:34", after := #[{ on := 3, ground := Ground.data }, { on := 5, ground := Ground.data }], guard := none }) rfl (fun K9 hK9 => ?_) ?_
    · go_simp
      with_reducible refine (HFD.out _ hD).mono ?_
      rintro e w6 ⟨s0, z1', s2, s3, z4, z5, z6, A6, n6, c6, bb, rfl, h6⟩
      have hB6 := hD.trans (h6.mono hD.size)
      have hS6 := HSK.out _ hB6
      refine hK9.out _ _ hS6 (fun hS => ?_)
      clear hK9 K9
      try simp only [Act.put]
      try simp only [List.setIfInBounds_toArray]
      try simp only [List.set_cons_zero]
      try simp only [List.set_cons_succ, List.set_cons_zero]
      refine wpAnyH_take (i := 7) (oi := { dst := some 9, op := Op.move (Operand.tmp 16), type := 125, pos := "hold.go:34", after := #[{ on := 6, ground := Ground.data }], guard := none }) (v := ?_) rfl (by kernel_rfl) (by kernel_rfl) (by kernel_rfl) (fun _ _ _ h => h) (Or.inl ⟨by rfl, ?_⟩) hS ?_
      rotate_left
      · intro w9 hS9; have q1 := hS9.1; have q2 := hS9.2; go_simp; try with_reducible rfl
      try simp only [Act.put]
      try simp only [List.setIfInBounds_toArray]
      try simp only [List.set_cons_zero]
      try simp only [List.set_cons_succ, List.set_cons_zero]
      refine wpAnyH_take (i := 8) (oi := { dst := some 17, op := Op.extract (Operand.tmp 9) 0, type := 55, pos := "hold.go:34", after := #[{ on := 7, ground := Ground.data }], guard := none }) (v := ?_) rfl (by kernel_rfl) (by kernel_rfl) (by kernel_rfl) (fun _ _ _ h => h) (Or.inl ⟨by rfl, ?_⟩) hS ?_
      rotate_left
      · intro w9 hS9; have q1 := hS9.1; have q2 := hS9.2; go_simp; try with_reducible rfl
      try simp only [Act.put]
      try simp only [List.setIfInBounds_toArray]
      try simp only [List.set_cons_zero]
      try simp only [List.set_cons_succ, List.set_cons_zero]
      refine wpAnyH_take (i := 9) (oi := { dst := some 18, op := Op.extract (Operand.tmp 9) 1, type := 4, pos := "hold.go:34", after := #[{ on := 7, ground := Ground.data }, { on := 11, ground := Ground.gcOnly Departure.lateStores }], guard := none }) (v := ?_) rfl (by kernel_rfl) (by kernel_rfl) (by kernel_rfl) (fun _ _ _ h => h) (Or.inl ⟨by rfl, ?_⟩) hS ?_
      rotate_left
      · intro w9 hS9; have q1 := hS9.1; have q2 := hS9.2; go_simp; try with_reducible rfl
      try simp only [Act.put]
      try simp only [List.setIfInBounds_toArray]
      try simp only [List.set_cons_zero]
      try simp only [List.set_cons_succ, List.set_cons_zero]
      refine wpAnyH_ready (rs := [10]) (by kernel_rfl) (by simp) ?_
      refine AllReadyH.cons (o := { dst := some 7, op := Op.alloc 55, type := 0, pos := "hold.go:34", after := #[], guard := none }) rfl (fun K9 hK9 => ?_) AllReadyH.nil
      have hBa := hB6.alloc hB6.size (.cells zf 55)
      have hSa := HSK.out _ hBa
      have hXa := Bx.new w6 zf 55
      go_simp
      refine hK9.out _ _ hSa (fun hS => ?_)
      clear hK9 K9
      try simp only [Act.put]
      try simp only [List.setIfInBounds_toArray]
      try simp only [List.set_cons_zero]
      try simp only [List.set_cons_succ, List.set_cons_zero]
      refine wpAnyH_ready (rs := [11]) (by kernel_rfl) (by simp) ?_
      refine AllReadyH.cons (o := { dst := none, op := Op.store 55 (Operand.tmp 7) (Operand.tmp 17), type := 0, pos := "hold.go:34", after := #[{ on := 10, ground := Ground.data }, { on := 8, ground := Ground.data }, { on := 6, ground := Ground.chain }, { on := 0, ground := Ground.phase }, { on := 1, ground := Ground.phase }, { on := 2, ground := Ground.phase }, { on := 3, ground := Ground.phase }, { on := 4, ground := Ground.phase }, { on := 5, ground := Ground.phase }, { on := 6, ground := Ground.phase }, { on := 7, ground := Ground.phase }, { on := 8, ground := Ground.phase }, { on := 9, ground := Ground.textOnly Departure.lateStores }, { on := 10, ground := Ground.phase }], guard := none }) rfl (fun K9 hK9 => ?_) AllReadyH.nil
      have hB7 := below_setRow hBa hB6.size #[.string s0, .int .i64 z1', .string s2, .string s3, .int .u8 z4, .int .i64 z5, .int .i64 z6, .slice A6 n6 c6, .int .i64 pl]
      have hS7 := HSK.out _ hB7
      have hC7 := (hXa.row #[.string s0, .int .i64 z1', .string s2, .string s3, .int .u8 z4, .int .i64 z5, .int .i64 z6, .slice A6 n6 c6, .int .i64 pl]).cells 8
      refine step_store_rf rfl (.tmp 7) (.tmp 17) (by rfl) #[.string s0, .int .i64 z1', .string s2, .string s3, .int .u8 z4, .int .i64 z5, .int .i64 z6, .slice A6 n6 c6, .int .i64 pl] (by rfl) (by rfl) hXa rfl rfl (by simp [Value.oneCell']) ?_
      refine hK9.out _ _ hS7 (fun hS => ?_)
      clear hK9 K9
      try simp only [Act.put]
      try simp only [List.setIfInBounds_toArray]
      try simp only [List.set_cons_zero]
      try simp only [List.set_cons_succ, List.set_cons_zero]
      refine wpAnyH_take (i := 12) (oi := { dst := some 8, op := Op.assign (Operand.tmp 18), type := 4, pos := "hold.go:34", after := #[{ on := 9, ground := Ground.data }, { on := 11, ground := Ground.chain }, { on := 0, ground := Ground.phase }, { on := 1, ground := Ground.phase }, { on := 2, ground := Ground.phase }, { on := 3, ground := Ground.phase }, { on := 4, ground := Ground.phase }, { on := 5, ground := Ground.phase }, { on := 6, ground := Ground.phase }, { on := 7, ground := Ground.phase }, { on := 8, ground := Ground.phase }, { on := 9, ground := Ground.phase }, { on := 10, ground := Ground.phase }, { on := 11, ground := Ground.phase }], guard := none }) (v := ?_) rfl (by kernel_rfl) (by kernel_rfl) (by kernel_rfl) (fun _ _ _ h => h) (Or.inl ⟨by rfl, ?_⟩) hS ?_
      rotate_left
      · intro w9 hS9; have q1 := hS9.1; have q2 := hS9.2; go_simp; try with_reducible rfl
      try simp only [Act.put]
      try simp only [List.setIfInBounds_toArray]
      try simp only [List.set_cons_zero]
      try simp only [List.set_cons_succ, List.set_cons_zero]
      refine wpAnyH_done (by kernel_rfl) ?_ _
      go_wp2
      go_meet
      exact ⟨⟨_, rfl, hC7⟩, hB7⟩
    refine AllReadyH.cons (o := { dst := some 7, op := Op.alloc 55, type := 0, pos := "hold.go:34", after := #[], guard := none }) rfl (fun K9 hK9 => ?_) AllReadyH.nil
    have hDa : Below V.heap.size V (V.alloc (.cells zf 55)).drew := ((Below.refl _ _).alloc (Nat.le_refl _) _).drew
    have hSa := HSK.out _ hDa
    have hX0 : Bx (V.alloc (.cells zf 55)).drew V.heap.size zf 55 := Bx.new V zf 55
    go_simp
    refine hK9.out _ _ hSa (fun hS => ?_)
    clear hK9 K9
    try simp only [Act.put]
    try simp only [List.setIfInBounds_toArray]
    try simp only [List.set_cons_zero]
    try simp only [List.set_cons_succ, List.set_cons_zero]
    refine wpAnyH_ready (rs := [6]) (by kernel_rfl) (by simp) ?_
    refine AllReadyH.cons (o := { dst := some 16, op := Op.call { callee := Callee.value (Operand.func 55), args := #[Operand.tmp 13, Operand.tmp 15], argTypes := #[40, 52] }, type := 125, pos := "hold.go:34", after := #[{ on := 3, ground := Ground.data }, { on := 5, ground := Ground.data }], guard := none }) rfl (fun K9 hK9 => ?_) AllReadyH.nil
    go_simp
    refine (HFD.out _ hDa).mono ?_
    rintro e w6 ⟨s0, z1', s2, s3, z4, z5, z6, A6, n6, c6, bb, rfl, h6⟩
    have hB6 := hDa.trans (h6.mono hDa.size)
    have hS6 := HSK.out _ hB6
    refine hK9.out _ _ hS6 (fun hS => ?_)
    clear hK9 K9
    try simp only [Act.put]
    try simp only [List.setIfInBounds_toArray]
    try simp only [List.set_cons_zero]
    try simp only [List.set_cons_succ, List.set_cons_zero]
    refine wpAnyH_take (i := 7) (oi := { dst := some 9, op := Op.move (Operand.tmp 16), type := 125, pos := "hold.go:34", after := #[{ on := 6, ground := Ground.data }], guard := none }) (v := ?_) rfl (by kernel_rfl) (by kernel_rfl) (by kernel_rfl) (fun _ _ _ h => h) (Or.inl ⟨by rfl, ?_⟩) hS ?_
    rotate_left
    · intro w9 hS9; have q1 := hS9.1; have q2 := hS9.2; go_simp; try with_reducible rfl
    try simp only [Act.put]
    try simp only [List.setIfInBounds_toArray]
    try simp only [List.set_cons_zero]
    try simp only [List.set_cons_succ, List.set_cons_zero]
    refine wpAnyH_take (i := 8) (oi := { dst := some 17, op := Op.extract (Operand.tmp 9) 0, type := 55, pos := "hold.go:34", after := #[{ on := 7, ground := Ground.data }], guard := none }) (v := ?_) rfl (by kernel_rfl) (by kernel_rfl) (by kernel_rfl) (fun _ _ _ h => h) (Or.inl ⟨by rfl, ?_⟩) hS ?_
    rotate_left
    · intro w9 hS9; have q1 := hS9.1; have q2 := hS9.2; go_simp; try with_reducible rfl
    try simp only [Act.put]
    try simp only [List.setIfInBounds_toArray]
    try simp only [List.set_cons_zero]
    try simp only [List.set_cons_succ, List.set_cons_zero]
    refine wpAnyH_take (i := 9) (oi := { dst := some 18, op := Op.extract (Operand.tmp 9) 1, type := 4, pos := "hold.go:34", after := #[{ on := 7, ground := Ground.data }, { on := 11, ground := Ground.gcOnly Departure.lateStores }], guard := none }) (v := ?_) rfl (by kernel_rfl) (by kernel_rfl) (by kernel_rfl) (fun _ _ _ h => h) (Or.inl ⟨by rfl, ?_⟩) hS ?_
    rotate_left
    · intro w9 hS9; have q1 := hS9.1; have q2 := hS9.2; go_simp; try with_reducible rfl
    try simp only [Act.put]
    try simp only [List.setIfInBounds_toArray]
    try simp only [List.set_cons_zero]
    try simp only [List.set_cons_succ, List.set_cons_zero]
    refine wpAnyH_ready (rs := [11]) (by kernel_rfl) (by simp) ?_
    refine AllReadyH.cons (o := { dst := none, op := Op.store 55 (Operand.tmp 7) (Operand.tmp 17), type := 0, pos := "hold.go:34", after := #[{ on := 10, ground := Ground.data }, { on := 8, ground := Ground.data }, { on := 6, ground := Ground.chain }, { on := 0, ground := Ground.phase }, { on := 1, ground := Ground.phase }, { on := 2, ground := Ground.phase }, { on := 3, ground := Ground.phase }, { on := 4, ground := Ground.phase }, { on := 5, ground := Ground.phase }, { on := 6, ground := Ground.phase }, { on := 7, ground := Ground.phase }, { on := 8, ground := Ground.phase }, { on := 9, ground := Ground.textOnly Departure.lateStores }, { on := 10, ground := Ground.phase }], guard := none }) rfl (fun K9 hK9 => ?_) AllReadyH.nil
    have hXa := hX0.below h6 (by simp)
    have hB7 := below_setRow hB6 (Nat.le_refl V.heap.size) #[.string s0, .int .i64 z1', .string s2, .string s3, .int .u8 z4, .int .i64 z5, .int .i64 z6, .slice A6 n6 c6, .int .i64 pl]
    have hS7 := HSK.out _ hB7
    have hC7 := (hXa.row #[.string s0, .int .i64 z1', .string s2, .string s3, .int .u8 z4, .int .i64 z5, .int .i64 z6, .slice A6 n6 c6, .int .i64 pl]).cells 8
    refine step_store_rf rfl (.tmp 7) (.tmp 17) (by rfl) #[.string s0, .int .i64 z1', .string s2, .string s3, .int .u8 z4, .int .i64 z5, .int .i64 z6, .slice A6 n6 c6, .int .i64 pl] (by rfl) (by rfl) hXa rfl rfl (by simp [Value.oneCell']) ?_
    refine hK9.out _ _ hS7 (fun hS => ?_)
    clear hK9 K9
    try simp only [Act.put]
    try simp only [List.setIfInBounds_toArray]
    try simp only [List.set_cons_zero]
    try simp only [List.set_cons_succ, List.set_cons_zero]
    refine wpAnyH_take (i := 12) (oi := { dst := some 8, op := Op.assign (Operand.tmp 18), type := 4, pos := "hold.go:34", after := #[{ on := 9, ground := Ground.data }, { on := 11, ground := Ground.chain }, { on := 0, ground := Ground.phase }, { on := 1, ground := Ground.phase }, { on := 2, ground := Ground.phase }, { on := 3, ground := Ground.phase }, { on := 4, ground := Ground.phase }, { on := 5, ground := Ground.phase }, { on := 6, ground := Ground.phase }, { on := 7, ground := Ground.phase }, { on := 8, ground := Ground.phase }, { on := 9, ground := Ground.phase }, { on := 10, ground := Ground.phase }, { on := 11, ground := Ground.phase }], guard := none }) (v := ?_) rfl (by kernel_rfl) (by kernel_rfl) (by kernel_rfl) (fun _ _ _ h => h) (Or.inl ⟨by rfl, ?_⟩) hS ?_
    rotate_left
    · intro w9 hS9; have q1 := hS9.1; have q2 := hS9.2; go_simp; try with_reducible rfl
    try simp only [Act.put]
    try simp only [List.setIfInBounds_toArray]
    try simp only [List.set_cons_zero]
    try simp only [List.set_cons_succ, List.set_cons_zero]
    refine wpAnyH_done (by kernel_rfl) ?_ _
    go_wp2
    go_meet
    exact ⟨⟨_, rfl, hC7⟩, hB7⟩
    -- END1
  obtain ⟨⟨gp, rfl, hc8⟩, hbc⟩ := hcut
  obtain ⟨k, rfl⟩ := Int.eq_ofNat_of_zero_le hbd.1
  have zc := hbc.size
  have hBC := Lib.hid (HBV.out.trans (hbc.mono hz))
  have c1 := (HBX.out.below hbc zp).cells
  have c2 := (HB1.out.below hbc z1).cells
  have c3 := (HB2.out.below hbc z2).cells
  have zb1 : p < wc.heap.size := by omega
  have zb2 : W.heap.size < wc.heap.size := by omega
  have zb3 : W.heap.size + 1 < wc.heap.size := by omega
  have zb4 : gp < wc.heap.size := lt_of_cell hc8
  have HPB := Lib.hid (HPS.out.keepB (w' := wc) fun k h1 h2 => hbc.block k (Nat.lt_of_lt_of_le h2 HHI.out))
  have hf := fun u : Blw wc => tflies_any rs t lo ⟨⟨kc, kn⟩, d⟩ u.W (HT.out.keep (hbc.trans (u.b.mono zc))) HG.out
  dsimp only at hf
  rw [HFL.out] at hf
  have HF := Lib.hid hf
  clear hf hbc HSK HFD HBV hz hD
  go_upto_region 2 with fail
  rcases fl with _ | _
  · have HN : Hid (false = q0) := HQ.out
    refine wp_region_below (by kernel_rfl) (by kernel_rfl) ?_
    intro q9
    repeat
      (refine QH.step (fun K9 hK9 => ?_)
       go_simp
       first
       | (refine hK9 _ ?_; clear hK9 K9)
       | (apply Exists.intro
          refine ⟨fun _ => ?_, hK9 _ ?_⟩
          · first | (exact Calls.blw _ (HF.out _))
          clear hK9 K9))
    refine QH.nil_ ?_
    clear q9
    rintro ⟨V9, hV9⟩
    dsimp only
    go_wp2
    go_ret
    exact ⟨ret_bool HN.out, hBC.out.trans (hV9.mono hBC.out.size)⟩
  by_cases hkn : k < n
  rotate_left
  · have t1 : decide ((k : Int) < n) = false := decide_eq_false (by omega)
    have t1b : decide (k < n) = false := decide_eq_false (by omega)
    have HN : Hid (false = q0) := by
      have h1 := HQ.out
      rw [show ((k : Int)).toNat = k from rfl, List.getElem?_eq_none (by rw [HPB.out.sl.len]; omega)] at h1
      exact h1
    clear hkn
    refine wp_region_below (by kernel_rfl) (by kernel_rfl) ?_
    intro q9
    repeat
      (refine QH.step (fun K9 hK9 => ?_)
       go_simp
       first
       | (refine hK9 _ ?_; clear hK9 K9)
       | (apply Exists.intro
          refine ⟨fun _ => ?_, hK9 _ ?_⟩
          · first | (exact Calls.blw _ (HF.out _))
          clear hK9 K9))
    refine QH.nil_ ?_
    clear q9
    rintro ⟨V9, hV9⟩
    dsimp only
    go_wp2
    go_ret
    exact ⟨ret_bool HN.out, hBC.out.trans (hV9.mono hBC.out.size)⟩
  · have t1 : decide ((k : Int) < n) = true := decide_eq_true (by omega)
    have t1b : decide (k < n) = true := decide_eq_true (by omega)
    obtain ⟨b0, o0, hA, hb1, hb2, hcl⟩ := HPB.out.sl.cells (by omega)
    have hkl : k < ps.length := by rw [HPB.out.sl.len]; exact hkn
    obtain ⟨x, hx⟩ : ∃ x, ps[k]? = some x := ⟨_, List.getElem?_eq_getElem hkl⟩
    have d0 : wc.cell? ⟨b0, o0 + k, none⟩ = some (.pointer (some ⟨x.pm, 0, none⟩)) := by
      have h1 := hcl k x hx 0 _ rfl
      simpa [tPm] using h1
    subst hA
    have zb5 : b0 < wc.heap.size := by have := HHI.out; omega
    have i0 : (0 : Int) ≤ k := by omega
    have i1 : (k : Int) < n := by omega
    have hPM := (HPB.out.at_ x (List.mem_of_getElem? hx)).1
    have hh := HQ.out
    rw [show ((k : Int)).toNat = k from rfl, hx] at hh
    have HPH := Lib.hid (fun u : Blw wc => phas_any (hPM.keep u.b) ⟨sr, sl⟩ HSO.out (q := q0) (by rw [← hh]; rfl))
    clear hkn hcl hh hx hPM hkl
    refine wp_region_below (by kernel_rfl) (by kernel_rfl) ?_
    intro q9
    repeat
      (refine QH.step (fun K9 hK9 => ?_)
       go_simp
       first
       | (refine hK9 _ ?_; clear hK9 K9)
       | (apply Exists.intro
          refine ⟨fun _ => ?_, hK9 _ ?_⟩
          · first | (with_reducible exact Calls.blw _ (HF.out _)) | (with_reducible exact Calls.blw _ (HPH.out _))
          clear hK9 K9))
    refine QH.nil_ ?_
    clear q9
    rintro ⟨V9, hV9⟩
    dsimp only
    go_wp2
    go_ret
    exact ⟨ret_bool rfl, hBC.out.trans (hV9.mono hBC.out.size)⟩
end Go.Proofs.YtlkdefmceghmnaaGreatDoor
