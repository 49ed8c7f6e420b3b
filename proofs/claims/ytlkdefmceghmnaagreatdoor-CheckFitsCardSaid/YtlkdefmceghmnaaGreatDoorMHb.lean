/- Put together by program of: Hd6, Hd7. -/
import Derived.Test.YtlkdefmceghmnaaGreatDoorMHd
import Derived.Test.YtlkdefmceghmnaaGreatDoorMPr
import Derived.Test.YtlkdefmceghmnaaGreatDoorFlNew
import Derived.BigGuardPart
import Derived.Test.YtlkdefmceghmnaaGreatDoorFlRef2
namespace Go.Proofs.YtlkdefmceghmnaaGreatDoor
set_option linter.unusedVariables false
open Go Go.RowKit Go.Sort
attribute [local go_sem] bat_get
/-- The row of plans. -/
def PlR.wf (r : PlR) : Prop := r.ok ∧ r.ne ≤ 9223372036854775807 ∧ r.nb ≤ 9223372036854775807
def tPl : Ty PlR := ⟨fun r => [.int .i64 r.p.first, .int .i64 r.p.last, .string r.p.letters, .slice r.Ae r.ne r.ce, .slice r.Ab r.nb r.cb], 5, PlR.wf, fun _ => rfl, fun x u h => by simp at h; rcases h with h | h | h | h | h <;> subst h <;> rfl, by omega⟩
structure PlS (w : World) (lo hi : Nat) (A : Option Addr) (n : Nat) (l : List PlR) : Prop where
  sl : Sl w lo hi tPl A n l
  at_ : ∀ r ∈ l, PlAt w lo hi r
theorem PlS.below {w W : World} {lo hi B n : Nat} {A : Option Addr} {l : List PlR} (h : PlS w lo hi A n l) (hb : Below B w W) (hB : hi ≤ B) : PlS W lo hi A n l := ⟨h.sl.below hb hB, fun r hr => (h.at_ r hr).below hb hB⟩
theorem PlS.pl_ {w : World} {lo hi n k : Nat} {A : Option Addr} {l : List PlR} (h : PlS w lo hi A n l) (hk : k < n) :
    ∃ b o r, A = some ⟨b, o, none⟩ ∧ lo ≤ b ∧ b < hi ∧ Hid (l[k]? = some r) ∧ PlR.wf r ∧ w.cell? ⟨b, o + k * 5, none⟩ = some (.int .i64 r.p.first) ∧ w.cell? ⟨b, o + k * 5 + 1, none⟩ = some (.int .i64 r.p.last) ∧ w.cell? ⟨b, o + k * 5 + 2, none⟩ = some (.string r.p.letters) ∧ w.cell? ⟨b, o + k * 5 + 3, none⟩ = some (.slice r.Ae r.ne r.ce) ∧ w.cell? ⟨b, o + k * 5 + 4, none⟩ = some (.slice r.Ab r.nb r.cb) := by
  obtain ⟨b, o, x, h1, h2, h3, h4, h5, hc⟩ := h.sl.at_ hk
  exact ⟨b, o, x, h1, h2, h3, h4, h5, by simpa [tPl] using hc 0 _ rfl, hc 1 _ rfl, hc 2 _ rfl, hc 3 _ rfl, hc 4 _ rfl⟩
/-- A map that is a plan's. -/
def PlK (r : PlR) (x : PlM) : Prop := hdR r.p = true ∧ ∀ s, hasG x.g s = hasR r.p s
def PlKs (l : List PlR) (ps : List PlM) (k : Nat) : Prop := ps.length = k ∧ ∀ i r, i < k → l[i]? = some r → ∃ x, ps[i]? = some x ∧ PlK r x
theorem PlKs.push {l : List PlR} {ps : List PlM} {k : Nat} {r : PlR} {x : PlM} (h : PlKs l ps k) (hr : l[k]? = some r) (hx : PlK r x) : PlKs l (ps ++ [x]) (k + 1) := by
  refine ⟨by simp [h.1], fun i s hi hs => ?_⟩
  by_cases e : i < k
  · obtain ⟨y, h1, h2⟩ := h.2 i s e hs
    exact ⟨y, by rw [List.getElem?_append_left (by rw [h.1]; exact e)]; exact h1, h2⟩
  · obtain rfl : i = k := by omega
    rw [hr] at hs
    injection hs with hs
    subst hs
    exact ⟨x, by rw [List.getElem?_append_right (by rw [h.1]; exact Nat.le_refl _), h.1]; simp, hx⟩
/-- A plan for which there is a map, plainly. -/
structure goodP (p : Pln) : Prop where
  let_ : p.letters.size ≤ 30
  ex : p.exits = []
  bk : p.blocked = []
  hd : hdR p = true
  chk : chkP p = true
/-- What Maps hands back. -/
def MapsQ (w : World) (l : List PlR) (e : Ending) (w' : World) : Prop :=
  Below w.heap.size w w' ∧ (((8 < l.length ∨ ∃ r ∈ l, ¬ goodP r.p) ∧ e = .returned (.tuple #[.slice none 0 0, .bool false])) ∨
    ∃ A n c ps, e = .returned (.tuple #[.slice A n c, .bool true]) ∧ PLS w' w.heap.size w'.heap.size A n ps ∧ n ≤ 8 ∧ (A = none → c = 0) ∧ PlKs l ps l.length)
/-- While the maps are made. -/
structure MpL (w : World) (l : List PlR) (k : Nat) (A : Option Addr) (n c : Nat) (ps : List PlM) (W : World) : Prop where
  own : Own W w.heap.size 61 tPm (.slice A n c) ps
  at_ : ∀ x ∈ ps, PM W x.pm x.bm x.g ∧ w.heap.size ≤ x.pm ∧ w.heap.size ≤ x.bm
  apt : ∀ x ∈ ps, ∀ j, (Value.slice A n c).ownBlock = some j → j ≠ x.pm ∧ j ≠ x.bm
  ks : PlKs l ps k
  below : Below w.heap.size w W
theorem PM.blt {W : World} {p b : Nat} {g : Value → Option Value} (h : PM W p b g) : b < W.heap.size := h.mp.size
theorem eql_pm (w : World) (a : Addr) : (binOp .eql 61 (.pointer (some a)) (.pointer none)).run Tryz.prog w = .ok (.bool false) w := by kernel_rfl
theorem eql_pm0 (w : World) : (binOp .eql 61 (.pointer none) (.pointer none)).run Tryz.prog w = .ok (.bool true) w := by kernel_rfl
theorem MpL.keep {w W V : World} {l : List PlR} {k : Nat} {A : Option Addr} {n c : Nat} {ps : List PlM} (h : MpL w l k A n c ps W) (hb : Below W.heap.size W V) : MpL w l k A n c ps V :=
  ⟨h.own.keep hb, fun x hx => ⟨(h.at_ x hx).1.keep hb, (h.at_ x hx).2⟩, h.apt, h.ks, h.below.trans (hb.mono h.below.size)⟩
theorem MpL.push {w W V V2 : World} {l : List PlR} {k : Nat} {A A' : Option Addr} {n c n' c' : Nat} {ps : List PlM} {r : PlR} {x : PlM} (h : MpL w l k A n c ps W) (hr : l[k]? = some r) (hk : PlK r x) (hb : Below W.heap.size W V) (hp : PM V x.pm x.bm x.g) (hp1 : W.heap.size ≤ x.pm) (hp2 : W.heap.size ≤ x.bm)
    (ho : Own V2 w.heap.size 61 tPm (.slice A' n' c') (ps ++ [x])) (hg : V.grownBy V2 (Value.slice A n c).ownBlock) (hor : (Value.slice A' n' c').ownBlock = (Value.slice A n c).ownBlock ∨ ∀ j, (Value.slice A' n' c').ownBlock = some j → V.heap.size ≤ j) : MpL w l (k + 1) A' n' c' (ps ++ [x]) V2 := by
  have hW := h.below.size
  have hV := hb.size
  have hlt : ∀ j, (Value.slice A n c).ownBlock = some j → w.heap.size ≤ j ∧ j < W.heap.size := h.own.lt
  have hold : ∀ y ∈ ps, PM V y.pm y.bm y.g ∧ y.pm < W.heap.size ∧ y.bm < W.heap.size := fun y hy => ⟨(h.at_ y hy).1.keep hb, (h.at_ y hy).1.plt, (h.at_ y hy).1.blt⟩
  have hne : ∀ y ∈ ps ++ [x], (∀ j, (Value.slice A n c).ownBlock = some j → j ≠ y.pm ∧ j ≠ y.bm) ∧ PM V y.pm y.bm y.g ∧ w.heap.size ≤ y.pm ∧ w.heap.size ≤ y.bm := fun y hy => by
    rcases List.mem_append.1 hy with hy | hy
    · exact ⟨h.apt y hy, (hold y hy).1, (h.at_ y hy).2⟩
    · rw [List.mem_singleton.1 hy]
      exact ⟨fun j hj => by have := (hlt j hj).2; omega, hp, by omega, by omega⟩
  refine ⟨ho, fun y hy => ?_, fun y hy j hj => ?_, h.ks.push hr hk, (h.below.trans (hb.mono hW)).grown hg (by omega) (fun j hj => (hlt j hj).1)⟩
  · obtain ⟨h1, h2, h3⟩ := hne y hy
    exact ⟨h2.keepB (hg.block _ h2.plt (fun e => (h1 _ e.symm).1 rfl)) (hg.block _ h2.blt (fun e => (h1 _ e.symm).2 rfl)), h3⟩
  · obtain ⟨h1, h2, h3⟩ := hne y hy
    rcases hor with hor | hor
    · exact h1 j (hor ▸ hj)
    · have h4 := hor j hj
      have h5 := h2.plt
      have h6 := h2.blt
      exact ⟨by omega, by omega⟩
theorem Own.nil_c {α : Type} {T : Ty α} {w : World} {B : Nat} {e : TypeId} {l : List α} {A : Option Addr} {n c : Nat} (h : Own w B e T (.slice A n c) l) : A = none → c = 0 := by
  intro hA
  subst hA
  rcases h.row.2 with ⟨h1, _⟩ | ⟨g, cap, cur, h1, _⟩
  · injection h1
  · injection h1 with h2 _ _
    cases h2
set_option maxRecDepth 100000 in
set_option maxHeartbeats 8000000 in
theorem maps_any (l : List PlR) (A : Option Addr) (n c : Nat) (w : World) (lo hi : Nat) (hs : PlS w lo hi A n l) (hhi : hi ≤ w.heap.size) :
    Calls Tryz.prog 7 #[.slice A n c] w (MapsQ w l) := by
  have HS := Lib.hid hs
  have HL := Lib.hid hs.sl.len
  have hnl := eql_pm
  have hnl0 := eql_pm0
  clear hs
  by_cases hm : 8 < n
  · have hm' : (8 : Int) < n := by omega
    go_enter Tryz.func7, Tryz.ntmps7
    go_wp2
    go_ret2
    exact ⟨Below.refl _ _, .inl ⟨.inl (by rw [HL.out]; exact hm), rfl⟩⟩
  have hm' : (n : Int) ≤ 8 := by omega
  go_enter Tryz.func7, Tryz.ntmps7
  go_wp2
  go_loopw [5, 4] (fun i v wr => ∃ (k : Nat) (ps : List PlM) (A9 : Option Addr) (n9 c9 : Nat), k ≤ n ∧ i = .int .i64 k ∧ v = .slice A9 n9 c9 ∧ Hid (MpL w l k A9 n9 c9 ps wr)) (fun i _ _ => n - (intOf i).toNat)
  case atStart => exact ⟨0, [], none, 0, 0, Nat.zero_le _, rfl, rfl, ⟨Own.nil_ _ _ _ _, by simp, by simp, ⟨rfl, fun i r h => by omega⟩, Below.refl _ _⟩⟩
  case round =>
    obtain ⟨k, ps, A9, n9, c9, hk, rfl, rfl, HM⟩ := hrel
    have HB := Lib.hid HM.out.below
    have zw := HB.out.size
    by_cases hlt : k < n
    · have HS2 := Lib.hid (HS.out.below HB.out hhi)
      obtain ⟨b0, o0, r, hA, _, hb0, hx, hwf, d0, d1, d2, d3, d4⟩ := HS2.out.pl_ hlt
      subst hA
      have i0 : (0 : Int) ≤ k := by omega
      have i1 : (k : Int) < n := by omega
      have hr : r ∈ l := List.mem_of_getElem? hx.out
      have HR := Lib.hid hr
      have HX := Lib.hid hx.out
      have HW := Lib.hid hwf
      have HAT := Lib.hid (HS2.out.at_ r hr)
      clear hx hr hwf
      by_cases h30 : 30 < r.p.letters.size
      · have h30' : (30 : Int) < r.p.letters.size := by omega
        go_wp2
        go_ret2
        exact ⟨HB.out, .inl ⟨.inr ⟨r, HR.out, fun h => by have := h.let_; omega⟩, rfl⟩⟩
      have h30' : (r.p.letters.size : Int) ≤ 30 := by omega
      by_cases h60 : 60 < r.ne
      · have h60' : (60 : Int) < r.ne := by omega
        go_wp2
        go_ret2
        exact ⟨HB.out, .inl ⟨.inr ⟨r, HR.out, fun h => by have h2 := HAT.out.ex.len; rw [h.ex] at h2; simp at h2; omega⟩, rfl⟩⟩
      have h60' : (r.ne : Int) ≤ 60 := by omega
      have t30 : decide ((r.p.letters.size : Int) > 30) = false := decide_eq_false (by omega)
      have t60 : decide ((r.ne : Int) > 60) = false := decide_eq_false (by omega)
      go_wp2_with fail
      refine (prgt_any r wr lo hi HW.out.1 HAT.out (Nat.le_trans hhi zw) HW.out.2.1 HW.out.2.2).mono ?_
      rintro e w1 ⟨q, rfl, hq, h1⟩
      have HM1 := Lib.hid (HM.out.keep h1)
      have HQ := Lib.hid hq
      have H1 := Lib.hid h1
      have z1 := h1.size
      have e3 := (h1.cell (p := ⟨b0, o0 + k * 5, none⟩) (by show b0 < _; omega)).trans d0
      have e4 := (h1.cell (p := ⟨b0, o0 + k * 5 + 1, none⟩) (by show b0 < _; omega)).trans d1
      have e5 := (h1.cell (p := ⟨b0, o0 + k * 5 + 2, none⟩) (by show b0 < _; omega)).trans d2
      have e6 := (h1.cell (p := ⟨b0, o0 + k * 5 + 3, none⟩) (by show b0 < _; omega)).trans d3
      have e7 := (h1.cell (p := ⟨b0, o0 + k * 5 + 4, none⟩) (by show b0 < _; omega)).trans d4
      clear h1 hq d0 d1 d2 d3 d4
      rcases q with _ | _
      · go_wp2
        go_ret2
        exact ⟨HM1.out.below, .inl ⟨.inr ⟨r, HR.out, fun h => by have h2 := HQ.out.yes h.hd h.ex h.bk; cases h2⟩, rfl⟩⟩
      go_wp2_with fail
      refine (pnew_any r w1 lo hi HW.out.1 (HAT.out.below H1.out (Nat.le_trans hhi zw)) (by omega) (by omega) HW.out.2.2).mono ?_
      rintro e w2 ⟨h2, hq2⟩
      have HM2 := Lib.hid (HM1.out.keep h2)
      have H2 := Lib.hid h2
      have z2 := h2.size
      clear e3 e4 e5 e6 e7
      rcases hq2 with ⟨hbad, rfl⟩ | ⟨_, pm, bm, g, lt, rfl, hpm, hp1, hp2, hpne, hlf, hmg⟩
      · have HBAD := Lib.hid hbad
        clear h2 hbad
        go_wp2
        go_ret2
        exact ⟨HM2.out.below, .inl ⟨.inr ⟨r, HR.out, fun h => by have h3 := h.chk; rw [HBAD.out] at h3; cases h3⟩, rfl⟩⟩
      have HK : Hid (PlK r ⟨pm, bm, g, r.p⟩) := by
        have hd := HQ.out.hd rfl
        refine ⟨hd, fun s => ?_⟩
        rw [hmg.has s]
        unfold hasR plcR nrow
        obtain ⟨l2, hl2, _⟩ := hdR_facts hd
        rw [hl2, letR_letF hlf hl2]
      have HPM := Lib.hid hpm
      have hn9 : ps.length < 2147483640 := by have h3 := HM2.out.ks.1; omega
      have hzz : w.heap.size ≤ w2.heap.size := HM2.out.below.size
      clear h2 hpm hlf hmg hpne
      go_wp2_with (at_builtin; refine push_told (T := tPm) (W := w2) rfl (.tmp 55) (.tmp 57) rfl sl_pm rfl HM2.out.own ⟨pm, bm, g, r.p⟩ trivial _ rfl rfl hzz hn9 ?_; intro v' w3 ho3 hg3 hor; obtain ⟨A3, c3, rfl⟩ := ho3.form; have HM3 := Lib.hid (HM1.out.push HX.out HK.out H2.out HPM.out hp1 hp2 ho3 hg3 hor); clear ho3 hg3 hor)
      go_roundw
      case rel => exact ⟨k + 1, _, A3, _, c3, by omega, by go_num, rfl, Lib.hid (by simpa using HM3.out)⟩
      case measure => simp [intOf]; omega
    · obtain rfl : n = k := by omega
      go_wp2
      go_ret2
      have hl1 := HM.out.own.sl.len
      have hl3 := HM.out.ks.1
      have hl2 := Own.nil_c HM.out.own
      exact ⟨HB.out, .inr ⟨A9, n9, c9, ps, rfl, ⟨HM.out.own.sl, fun x hx => ⟨(HM.out.at_ x hx).1, ⟨(HM.out.at_ x hx).2.1, (HM.out.at_ x hx).1.plt⟩, (HM.out.at_ x hx).2.2, (HM.out.at_ x hx).1.blt⟩⟩, by omega, hl2, by rw [HL.out]; exact HM.out.ks⟩⟩
end Go.Proofs.YtlkdefmceghmnaaGreatDoor
namespace Go.Proofs.YtlkdefmceghmnaaGreatDoor
set_option linter.unusedVariables false
open Go Go.RowKit Go.Sort
theorem four_boxes (w : World) (A B C D : Array Value) (s t u v : TypeId) : (Bx ((((w.alloc (.cells A s)).alloc (.cells B t)).alloc (.cells C u)).alloc (.cells D v)) w.heap.size A s ∧ Bx ((((w.alloc (.cells A s)).alloc (.cells B t)).alloc (.cells C u)).alloc (.cells D v)) (w.heap.size + 1) B t ∧ Bx ((((w.alloc (.cells A s)).alloc (.cells B t)).alloc (.cells C u)).alloc (.cells D v)) (w.heap.size + 1 + 1) C u ∧ Bx ((((w.alloc (.cells A s)).alloc (.cells B t)).alloc (.cells C u)).alloc (.cells D v)) (w.heap.size + 1 + 1 + 1) D v) ∧ Below w.heap.size w ((((w.alloc (.cells A s)).alloc (.cells B t)).alloc (.cells C u)).alloc (.cells D v)) := by
  have h2 := two_boxes w A B s t
  have h3 := Bx.new ((w.alloc (.cells A s)).alloc (.cells B t)) C u
  have h4 := Bx.new (((w.alloc (.cells A s)).alloc (.cells B t)).alloc (.cells C u)) D v
  rw [World.size_alloc, World.size_alloc] at h3
  rw [World.size_alloc, World.size_alloc, World.size_alloc] at h4
  exact ⟨⟨(h2.1.alloc _).alloc _, (h2.2.1.alloc _).alloc _, h3.alloc _, h4⟩, (h2.2.2.below.alloc (by simp; omega) _).alloc (by simp; omega) _⟩
theorem eql_tab (w : World) (a : Addr) : (binOp .eql 40 (.pointer (some a)) (.pointer none)).run Tryz.prog w = .ok (.bool false) w := by kernel_rfl
theorem neq_bk (w : World) (a : Addr) : (binOp .neq 79 (.pointer (some a)) (.pointer none)).run Tryz.prog w = .ok (.bool true) w := by kernel_rfl
theorem eql_bk (w : World) (a : Addr) : (binOp .eql 79 (.pointer (some a)) (.pointer none)).run Tryz.prog w = .ok (.bool false) w := by kernel_rfl
theorem newF_right {l : List Flt} (h : newF l = 0) : l.length ≤ 64 ∧ ∀ f ∈ l, rightB f = true := by
  unfold newF at h
  split at h
  · cases h
  · split at h
    · rename_i h1 h2
      exact ⟨by omega, List.all_eq_true.1 h2⟩
    · cases h
theorem TB.more {W : World} {lo lo' p : Nat} {rl : List FlR} (h : TB W lo p rl) (hl : lo' ≤ lo) : TB W lo' p rl := by
  obtain ⟨mp, A, n, c, g, h1, h2, h3, h4, h5, h6⟩ := h.ex
  exact ⟨⟨mp, A, n, c, g, h1, h2.more hl, h3, h4, Nat.le_trans hl h5, Nat.le_trans hl h6⟩, h.most, h.small⟩
theorem PLS.more {w : World} {lo hi hi' : Nat} {A : Option Addr} {n : Nat} {ps : List PlM} (h : PLS w lo hi A n ps) (hh : hi ≤ hi') : PLS w lo hi' A n ps :=
  ⟨h.sl.more (Nat.le_refl _) hh, fun x hx => ⟨(h.at_ x hx).1, ⟨(h.at_ x hx).2.1.1, Nat.lt_of_lt_of_le (h.at_ x hx).2.1.2 hh⟩, (h.at_ x hx).2.2.1, Nat.lt_of_lt_of_le (h.at_ x hx).2.2.2 hh⟩⟩
theorem right_few {f : Flt} (h : rightB f = true) : f.cls.length ≤ 6 := by
  unfold rightB rightC at h
  simp only [Bool.and_eq_true, decide_eq_true_eq] at h
  exact h.2.1.2.2.2.2.2
/-- An act of a script. -/
structure HAct where
  kind : Int
  fl : Int
  leg : Leg
  seat : Sit
  hol : Hol
structure HAct.ok (a : HAct) : Prop where
  kind : okInt a.kind
  fl : okInt a.fl
  leg : a.leg.ok
  seat : a.seat.ok
  hol : a.hol.ok
def hactV (a : HAct) : Value := .agg #[.int .i64 a.kind, .int .i64 a.fl, .string a.leg.key.car, .int .i64 a.leg.key.num, .int .i64 a.leg.day, .int .i64 a.seat.row, .int .u8 a.seat.let_, .string a.hol.loc, .int .i64 a.hol.pax]
/-- The leg of an act, over some flights. -/
def legH (l : List Flt) (a : HAct) : Leg := if 0 ≤ a.fl then (match l[a.fl.toNat]? with | some f => ⟨f.key, a.leg.day⟩ | none => a.leg) else a.leg
theorem info_lg : (Tryz.prog.info? 74).map (·.size) = some 3 := by kernel_rfl
theorem ret_lg {fn : Func} {p : Tmp} (h : fn.results = #[.cell p 74]) {R : Ending → World → Prop} {a : Act} {w : World} {g : Nat} {cs : Array Value}
    (hr : Bx w g cs 74) (hs : cs.size = 3) (hp : a.tmps.getD p undef = .pointer (some ⟨g, 0, none⟩)) (hd : a.defers = []) (hR : R (.returned (.agg cs)) w) : bodyPost Tryz.prog fn R .ret a w := by
  refine bodyPost_ret (v := .agg cs) ?_ hd hR
  rw [res_cell1 h, hp]
  have hl := run_loadVar_row (P := Tryz.prog) w g 74 74 cs (0, 0) _ hr Tryz.underlying74 rfl (by rw [hs]; exact info_lg)
  simp [asAddr, hl, Result.andThen]
def tHA : Ty HAct := ⟨fun a => [.int .i64 a.kind, .int .i64 a.fl, .string a.leg.key.car, .int .i64 a.leg.key.num, .int .i64 a.leg.day, .int .i64 a.seat.row, .int .u8 a.seat.let_, .string a.hol.loc, .int .i64 a.hol.pax], 9, HAct.ok, fun _ => rfl, fun x u h => by simp at h; rcases h with h | h | h | h | h | h | h | h | h <;> subst h <;> rfl, by omega⟩
theorem Sl.ha_ {w : World} {lo hi k n : Nat} {A : Option Addr} {l : List HAct} (h : Sl w lo hi tHA A n l) (hk : k < n) :
    ∃ b o x, A = some ⟨b, o, none⟩ ∧ lo ≤ b ∧ b < hi ∧ Hid (l[k]? = some x) ∧ HAct.ok x ∧ w.cell? ⟨b, o + k * 9, none⟩ = some (.int .i64 x.kind) ∧ w.cell? ⟨b, o + k * 9 + 1, none⟩ = some (.int .i64 x.fl) ∧ w.cell? ⟨b, o + k * 9 + 2, none⟩ = some (.string x.leg.key.car) ∧ w.cell? ⟨b, o + k * 9 + 3, none⟩ = some (.int .i64 x.leg.key.num) ∧ w.cell? ⟨b, o + k * 9 + 4, none⟩ = some (.int .i64 x.leg.day) ∧ w.cell? ⟨b, o + k * 9 + 5, none⟩ = some (.int .i64 x.seat.row) ∧ w.cell? ⟨b, o + k * 9 + 6, none⟩ = some (.int .u8 x.seat.let_) ∧ w.cell? ⟨b, o + k * 9 + 7, none⟩ = some (.string x.hol.loc) ∧ w.cell? ⟨b, o + k * 9 + 8, none⟩ = some (.int .i64 x.hol.pax) := by
  obtain ⟨b, o, x, h1, h2, h3, h4, h5, hc⟩ := h.at_ hk
  exact ⟨b, o, x, h1, h2, h3, h4, h5, by simpa [tHA] using hc 0 _ rfl, hc 1 _ rfl, hc 2 _ rfl, hc 3 _ rfl, hc 4 _ rfl, hc 5 _ rfl, hc 6 _ rfl, hc 7 _ rfl, hc 8 _ rfl⟩
theorem legH_ok {l : List Flt} {a : HAct} (ha : a.ok) (hl : ∀ f ∈ l, f.ok) : (legH l a).ok := by
  unfold legH
  split
  · split
    · rename_i f hf
      exact ⟨⟨(hl f (List.mem_of_getElem? hf)).car, (hl f (List.mem_of_getElem? hf)).num⟩, ha.leg.2⟩
    · exact ha.leg
  · exact ha.leg
/-- What begun hands back. -/
def HbgQ (w : World) (rl : List FlR) (pl : List PlR) (e : Ending) (w' : World) : Prop :=
  Below w.heap.size w w' ∧ (((newF (rl.map (·.f)) ≠ 0 ∨ 8 < pl.length ∨ ∃ r ∈ pl, ¬ goodP r.p) ∧ e = .returned (.tuple #[.pointer none, .bool false])) ∨
    (newF (rl.map (·.f)) = 0 ∧ ∃ lo hi t p b rs ps, e = .returned (.tuple #[.pointer (some ⟨p, 0, none⟩), .bool true]) ∧ HK w' lo hi t p b rs ps (fun _ => none) ∧ w.heap.size ≤ hi ∧ Tab (rl.map (·.f)) (rs.map (·.f)) ∧ PlKs pl ps pl.length))
end Go.Proofs.YtlkdefmceghmnaaGreatDoor
