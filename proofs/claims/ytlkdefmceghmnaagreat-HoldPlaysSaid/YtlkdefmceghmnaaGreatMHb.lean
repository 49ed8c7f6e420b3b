/- Put together by program of: Hd6, Hd7, Hd8. -/
import Derived.Test.YtlkdefmceghmnaaGreatHd5
import Derived.Test.YtlkdefmceghmnaaGreatMPr
import Derived.Test.YtlkdefmceghmnaaGreatFlNew
import Derived.BigGuardPart
import Derived.Test.YtlkdefmceghmnaaGreatFlRef2
namespace Go.Proofs.YtlkdefmceghmnaaGreat
set_option linter.unusedVariables false
open Go Go.RowKit Go.Sort
attribute [local go_sem] bat_get
/-- The row of plans. -/
def PlR.wf (r : PlR) : Prop := r.ok ∧ r.ne ≤ 9223372036854775807 ∧ r.nb ≤ 9223372036854775807
def tPl : Ty PlR := ⟨fun r => [.int .i64 r.p.first, .int .i64 r.p.last, .string r.p.letters, .slice r.Ae r.ne r.ce, .slice r.Ab r.nb r.cb], 5, PlR.wf, fun _ => rfl, fun x u h => by simp at h; rcases h with h | h | h | h | h <;> subst h <;> rfl, by omega⟩
structure PlS (w : World) (lo hi : Nat) (A : Option Addr) (n : Nat) (l : List PlR) : Prop where
  sl : Sl w lo hi tPl A n l
  at_ : ∀ r ∈ l, PlAt w lo hi r
theorem PlS.below {w W : World} {lo hi B n : Nat} {A : Option Addr} {l : List PlR} (h : PlS w lo hi A n l) (hb : Below B w W) (hB : hi ≤ B) : PlS W lo hi A n l := ⟨h.sl.below hb hB, fun r hr => (h.at_ r hr).below hb hB⟩
theorem PlS.pl_ {w : World} {lo hi n k : Nat} {A : Option Addr} {l : List PlR} (h : PlS w lo hi A n l) (hk : k < n) :
    ∃ b o r, A = some ⟨b, o, none⟩ ∧ lo ≤ b ∧ b < hi ∧ Hid (l[k]? = some r) ∧ PlR.wf r ∧ w.cell? ⟨b, o + k * 5, none⟩ = some (.int .i64 r.p.first) ∧ w.cell? ⟨b, o + k * 5 + 1, none⟩ = some (.int .i64 r.p.last) ∧ w.cell? ⟨b, o + k * 5 + 2, none⟩ = some (.string r.p.letters) ∧ w.cell? ⟨b, o + k * 5 + 3, none⟩ = some (.slice r.Ae r.ne r.ce) ∧ w.cell? ⟨b, o + k * 5 + 4, none⟩ = some (.slice r.Ab r.nb r.cb) := by
  obtain ⟨b, o, x, h1, h2, h3, h4, h5, hc⟩ := h.sl.at_ hk
  exact ⟨b, o, x, h1, h2, h3, h4, h5, by simpa [tPl] using hc 0 _ rfl, hc 1 _ rfl, hc 2 _ rfl, hc 3 _ rfl, hc 4 _ rfl⟩
/-- A map that is a plan's. -/
def PlK (r : PlR) (x : PlM) : Prop := hdR r.p = true ∧ ∀ s, hasG x.g s = hasR r.p s
def PlKs (l : List PlR) (ps : List PlM) (k : Nat) : Prop := ps.length = k ∧ ∀ i r, i < k → l[i]? = some r → ∃ x, ps[i]? = some x ∧ PlK r x
theorem PlKs.push {l : List PlR} {ps : List PlM} {k : Nat} {r : PlR} {x : PlM} (h : PlKs l ps k) (hr : l[k]? = some r) (hx : PlK r x) : PlKs l (ps ++ [x]) (k + 1) := by
  refine ⟨by simp [h.1], fun i s hi hs => ?_⟩
  by_cases e : i < k
  · obtain ⟨y, h1, h2⟩ := h.2 i s e hs
    exact ⟨y, by rw [List.getElem?_append_left (by rw [h.1]; exact e)]; exact h1, h2⟩
  · obtain rfl : i = k := by omega
    rw [hr] at hs
    injection hs with hs
    subst hs
    exact ⟨x, by rw [List.getElem?_append_right (by rw [h.1]; exact Nat.le_refl _), h.1]; simp, hx⟩
/-- A plan for which there is a map, plainly. -/
structure goodP (p : Pln) : Prop where
  let_ : p.letters.size ≤ 30
  ex : p.exits = []
  bk : p.blocked = []
  hd : hdR p = true
  chk : chkP p = true
/-- What Maps hands back. -/
def MapsQ (w : World) (l : List PlR) (e : Ending) (w' : World) : Prop :=
  Below w.heap.size w w' ∧ (((8 < l.length ∨ ∃ r ∈ l, ¬ goodP r.p) ∧ e = .returned (.tuple #[.slice none 0 0, .bool false])) ∨
    ∃ A n c ps, e = .returned (.tuple #[.slice A n c, .bool true]) ∧ PLS w' w.heap.size w'.heap.size A n ps ∧ n ≤ 8 ∧ (A = none → c = 0) ∧ PlKs l ps l.length)
/-- While the maps are made. -/
structure MpL (w : World) (l : List PlR) (k : Nat) (A : Option Addr) (n c : Nat) (ps : List PlM) (W : World) : Prop where
  own : Own W w.heap.size 156 tPm (.slice A n c) ps
  at_ : ∀ x ∈ ps, PM W x.pm x.bm x.g ∧ w.heap.size ≤ x.pm ∧ w.heap.size ≤ x.bm
  apt : ∀ x ∈ ps, ∀ j, (Value.slice A n c).ownBlock = some j → j ≠ x.pm ∧ j ≠ x.bm
  ks : PlKs l ps k
  below : Below w.heap.size w W
theorem PM.blt {W : World} {p b : Nat} {g : Value → Option Value} (h : PM W p b g) : b < W.heap.size := h.mp.size
theorem eql_pm (w : World) (a : Addr) : (binOp .eql 156 (.pointer (some a)) (.pointer none)).run Tryz.prog w = .ok (.bool false) w := by kernel_rfl
theorem eql_pm0 (w : World) : (binOp .eql 156 (.pointer none) (.pointer none)).run Tryz.prog w = .ok (.bool true) w := by kernel_rfl
theorem MpL.keep {w W V : World} {l : List PlR} {k : Nat} {A : Option Addr} {n c : Nat} {ps : List PlM} (h : MpL w l k A n c ps W) (hb : Below W.heap.size W V) : MpL w l k A n c ps V :=
  ⟨h.own.keep hb, fun x hx => ⟨(h.at_ x hx).1.keep hb, (h.at_ x hx).2⟩, h.apt, h.ks, h.below.trans (hb.mono h.below.size)⟩
theorem MpL.push {w W V V2 : World} {l : List PlR} {k : Nat} {A A' : Option Addr} {n c n' c' : Nat} {ps : List PlM} {r : PlR} {x : PlM} (h : MpL w l k A n c ps W) (hr : l[k]? = some r) (hk : PlK r x) (hb : Below W.heap.size W V) (hp : PM V x.pm x.bm x.g) (hp1 : W.heap.size ≤ x.pm) (hp2 : W.heap.size ≤ x.bm)
    (ho : Own V2 w.heap.size 156 tPm (.slice A' n' c') (ps ++ [x])) (hg : V.grownBy V2 (Value.slice A n c).ownBlock) (hor : (Value.slice A' n' c').ownBlock = (Value.slice A n c).ownBlock ∨ ∀ j, (Value.slice A' n' c').ownBlock = some j → V.heap.size ≤ j) : MpL w l (k + 1) A' n' c' (ps ++ [x]) V2 := by
  have hW := h.below.size
  have hV := hb.size
  have hlt : ∀ j, (Value.slice A n c).ownBlock = some j → w.heap.size ≤ j ∧ j < W.heap.size := h.own.lt
  have hold : ∀ y ∈ ps, PM V y.pm y.bm y.g ∧ y.pm < W.heap.size ∧ y.bm < W.heap.size := fun y hy => ⟨(h.at_ y hy).1.keep hb, (h.at_ y hy).1.plt, (h.at_ y hy).1.blt⟩
  have hne : ∀ y ∈ ps ++ [x], (∀ j, (Value.slice A n c).ownBlock = some j → j ≠ y.pm ∧ j ≠ y.bm) ∧ PM V y.pm y.bm y.g ∧ w.heap.size ≤ y.pm ∧ w.heap.size ≤ y.bm := fun y hy => by
    rcases List.mem_append.1 hy with hy | hy
    · exact ⟨h.apt y hy, (hold y hy).1, (h.at_ y hy).2⟩
    · rw [List.mem_singleton.1 hy]
      exact ⟨fun j hj => by have := (hlt j hj).2; omega, hp, by omega, by omega⟩
  refine ⟨ho, fun y hy => ?_, fun y hy j hj => ?_, h.ks.push hr hk, (h.below.trans (hb.mono hW)).grown hg (by omega) (fun j hj => (hlt j hj).1)⟩
  · obtain ⟨h1, h2, h3⟩ := hne y hy
    exact ⟨h2.keepB (hg.block _ h2.plt (fun e => (h1 _ e.symm).1 rfl)) (hg.block _ h2.blt (fun e => (h1 _ e.symm).2 rfl)), h3⟩
  · obtain ⟨h1, h2, h3⟩ := hne y hy
    rcases hor with hor | hor
    · exact h1 j (hor ▸ hj)
    · have h4 := hor j hj
      have h5 := h2.plt
      have h6 := h2.blt
      exact ⟨by omega, by omega⟩
theorem Own.nil_c {α : Type} {T : Ty α} {w : World} {B : Nat} {e : TypeId} {l : List α} {A : Option Addr} {n c : Nat} (h : Own w B e T (.slice A n c) l) : A = none → c = 0 := by
  intro hA
  subst hA
  rcases h.row.2 with ⟨h1, _⟩ | ⟨g, cap, cur, h1, _⟩
  · injection h1
  · injection h1 with h2 _ _
    cases h2
set_option maxRecDepth 100000 in
set_option maxHeartbeats 8000000 in
theorem maps_any (l : List PlR) (A : Option Addr) (n c : Nat) (w : World) (lo hi : Nat) (hs : PlS w lo hi A n l) (hhi : hi ≤ w.heap.size) :
    Calls Tryz.prog 68 #[.slice A n c] w (MapsQ w l) := by
  have HS := Lib.hid hs
  have HL := Lib.hid hs.sl.len
  have hnl := eql_pm
  have hnl0 := eql_pm0
  clear hs
  by_cases hm : 8 < n
  · have hm' : (8 : Int) < n := by omega
    go_enter Tryz.func68, Tryz.ntmps68
    go_wp2
    go_ret2
    exact ⟨Below.refl _ _, .inl ⟨.inl (by rw [HL.out]; exact hm), rfl⟩⟩
  have hm' : (n : Int) ≤ 8 := by omega
  go_enter Tryz.func68, Tryz.ntmps68
  go_wp2
  go_loopw [5, 4] (fun i v wr => ∃ (k : Nat) (ps : List PlM) (A9 : Option Addr) (n9 c9 : Nat), k ≤ n ∧ i = .int .i64 k ∧ v = .slice A9 n9 c9 ∧ Hid (MpL w l k A9 n9 c9 ps wr)) (fun i _ _ => n - (intOf i).toNat)
  case atStart => exact ⟨0, [], none, 0, 0, Nat.zero_le _, rfl, rfl, ⟨Own.nil_ _ _ _ _, by simp, by simp, ⟨rfl, fun i r h => by omega⟩, Below.refl _ _⟩⟩
  case round =>
    obtain ⟨k, ps, A9, n9, c9, hk, rfl, rfl, HM⟩ := hrel
    have HB := Lib.hid HM.out.below
    have zw := HB.out.size
    by_cases hlt : k < n
    · have HS2 := Lib.hid (HS.out.below HB.out hhi)
      obtain ⟨b0, o0, r, hA, _, hb0, hx, hwf, d0, d1, d2, d3, d4⟩ := HS2.out.pl_ hlt
      subst hA
      have i0 : (0 : Int) ≤ k := by omega
      have i1 : (k : Int) < n := by omega
      have hr : r ∈ l := List.mem_of_getElem? hx.out
      have HR := Lib.hid hr
      have HX := Lib.hid hx.out
      have HW := Lib.hid hwf
      have HAT := Lib.hid (HS2.out.at_ r hr)
      clear hx hr hwf
      by_cases h30 : 30 < r.p.letters.size
      · have h30' : (30 : Int) < r.p.letters.size := by omega
        go_wp2
        go_ret2
        exact ⟨HB.out, .inl ⟨.inr ⟨r, HR.out, fun h => by have := h.let_; omega⟩, rfl⟩⟩
      have h30' : (r.p.letters.size : Int) ≤ 30 := by omega
      by_cases h60 : 60 < r.ne
      · have h60' : (60 : Int) < r.ne := by omega
        go_wp2
        go_ret2
        exact ⟨HB.out, .inl ⟨.inr ⟨r, HR.out, fun h => by have h2 := HAT.out.ex.len; rw [h.ex] at h2; simp at h2; omega⟩, rfl⟩⟩
      have h60' : (r.ne : Int) ≤ 60 := by omega
      have t30 : decide ((r.p.letters.size : Int) > 30) = false := decide_eq_false (by omega)
      have t60 : decide ((r.ne : Int) > 60) = false := decide_eq_false (by omega)
      go_wp2_with fail
      refine (prgt_any r wr lo hi HW.out.1 HAT.out (Nat.le_trans hhi zw) HW.out.2.1 HW.out.2.2).mono ?_
      rintro e w1 ⟨q, rfl, hq, h1⟩
      have HM1 := Lib.hid (HM.out.keep h1)
      have HQ := Lib.hid hq
      have H1 := Lib.hid h1
      have z1 := h1.size
      have e3 := (h1.cell (p := ⟨b0, o0 + k * 5, none⟩) (by show b0 < _; omega)).trans d0
      have e4 := (h1.cell (p := ⟨b0, o0 + k * 5 + 1, none⟩) (by show b0 < _; omega)).trans d1
      have e5 := (h1.cell (p := ⟨b0, o0 + k * 5 + 2, none⟩) (by show b0 < _; omega)).trans d2
      have e6 := (h1.cell (p := ⟨b0, o0 + k * 5 + 3, none⟩) (by show b0 < _; omega)).trans d3
      have e7 := (h1.cell (p := ⟨b0, o0 + k * 5 + 4, none⟩) (by show b0 < _; omega)).trans d4
      clear h1 hq d0 d1 d2 d3 d4
      rcases q with _ | _
      · go_wp2
        go_ret2
        exact ⟨HM1.out.below, .inl ⟨.inr ⟨r, HR.out, fun h => by have h2 := HQ.out.yes h.hd h.ex h.bk; cases h2⟩, rfl⟩⟩
      go_wp2_with fail
      refine (pnew_any r w1 lo hi HW.out.1 (HAT.out.below H1.out (Nat.le_trans hhi zw)) (by omega) (by omega) HW.out.2.2).mono ?_
      rintro e w2 ⟨h2, hq2⟩
      have HM2 := Lib.hid (HM1.out.keep h2)
      have H2 := Lib.hid h2
      have z2 := h2.size
      clear e3 e4 e5 e6 e7
      rcases hq2 with ⟨hbad, rfl⟩ | ⟨_, pm, bm, g, lt, rfl, hpm, hp1, hp2, hpne, hlf, hmg⟩
      · have HBAD := Lib.hid hbad
        clear h2 hbad
        go_wp2
        go_ret2
        exact ⟨HM2.out.below, .inl ⟨.inr ⟨r, HR.out, fun h => by have h3 := h.chk; rw [HBAD.out] at h3; cases h3⟩, rfl⟩⟩
      have HK : Hid (PlK r ⟨pm, bm, g, r.p⟩) := by
        have hd := HQ.out.hd rfl
        refine ⟨hd, fun s => ?_⟩
        rw [hmg.has s]
        unfold hasR plcR nrow
        obtain ⟨l2, hl2, _⟩ := hdR_facts hd
        rw [hl2, letR_letF hlf hl2]
      have HPM := Lib.hid hpm
      have hn9 : ps.length < 2147483640 := by have h3 := HM2.out.ks.1; omega
      have hzz : w.heap.size ≤ w2.heap.size := HM2.out.below.size
      clear h2 hpm hlf hmg hpne
      go_wp2_with (at_builtin; refine push_told (T := tPm) (W := w2) rfl (.tmp 55) (.tmp 57) rfl sl_pm rfl HM2.out.own ⟨pm, bm, g, r.p⟩ trivial _ rfl rfl hzz hn9 ?_; intro v' w3 ho3 hg3 hor; obtain ⟨A3, c3, rfl⟩ := ho3.form; have HM3 := Lib.hid (HM1.out.push HX.out HK.out H2.out HPM.out hp1 hp2 ho3 hg3 hor); clear ho3 hg3 hor)
      go_roundw
      case rel => exact ⟨k + 1, _, A3, _, c3, by omega, by go_num, rfl, Lib.hid (by simpa using HM3.out)⟩
      case measure => simp [intOf]; omega
    · obtain rfl : n = k := by omega
      go_wp2
      go_ret2
      have hl1 := HM.out.own.sl.len
      have hl3 := HM.out.ks.1
      have hl2 := Own.nil_c HM.out.own
      exact ⟨HB.out, .inr ⟨A9, n9, c9, ps, rfl, ⟨HM.out.own.sl, fun x hx => ⟨(HM.out.at_ x hx).1, ⟨(HM.out.at_ x hx).2.1, (HM.out.at_ x hx).1.plt⟩, (HM.out.at_ x hx).2.2, (HM.out.at_ x hx).1.blt⟩⟩, by omega, hl2, by rw [HL.out]; exact HM.out.ks⟩⟩
end Go.Proofs.YtlkdefmceghmnaaGreat
namespace Go.Proofs.YtlkdefmceghmnaaGreat
set_option linter.unusedVariables false
open Go Go.RowKit Go.Sort
theorem four_boxes (w : World) (A B C D : Array Value) (s t u v : TypeId) : (Bx ((((w.alloc (.cells A s)).alloc (.cells B t)).alloc (.cells C u)).alloc (.cells D v)) w.heap.size A s ∧ Bx ((((w.alloc (.cells A s)).alloc (.cells B t)).alloc (.cells C u)).alloc (.cells D v)) (w.heap.size + 1) B t ∧ Bx ((((w.alloc (.cells A s)).alloc (.cells B t)).alloc (.cells C u)).alloc (.cells D v)) (w.heap.size + 1 + 1) C u ∧ Bx ((((w.alloc (.cells A s)).alloc (.cells B t)).alloc (.cells C u)).alloc (.cells D v)) (w.heap.size + 1 + 1 + 1) D v) ∧ Below w.heap.size w ((((w.alloc (.cells A s)).alloc (.cells B t)).alloc (.cells C u)).alloc (.cells D v)) := by
  have h2 := two_boxes w A B s t
  have h3 := Bx.new ((w.alloc (.cells A s)).alloc (.cells B t)) C u
  have h4 := Bx.new (((w.alloc (.cells A s)).alloc (.cells B t)).alloc (.cells C u)) D v
  rw [World.size_alloc, World.size_alloc] at h3
  rw [World.size_alloc, World.size_alloc, World.size_alloc] at h4
  exact ⟨⟨(h2.1.alloc _).alloc _, (h2.2.1.alloc _).alloc _, h3.alloc _, h4⟩, (h2.2.2.below.alloc (by simp; omega) _).alloc (by simp; omega) _⟩
theorem eql_tab (w : World) (a : Addr) : (binOp .eql 97 (.pointer (some a)) (.pointer none)).run Tryz.prog w = .ok (.bool false) w := by kernel_rfl
theorem neq_bk (w : World) (a : Addr) : (binOp .neq 62 (.pointer (some a)) (.pointer none)).run Tryz.prog w = .ok (.bool true) w := by kernel_rfl
theorem eql_bk (w : World) (a : Addr) : (binOp .eql 62 (.pointer (some a)) (.pointer none)).run Tryz.prog w = .ok (.bool false) w := by kernel_rfl
theorem newF_right {l : List Flt} (h : newF l = 0) : l.length ≤ 64 ∧ ∀ f ∈ l, rightB f = true := by
  unfold newF at h
  split at h
  · cases h
  · split at h
    · rename_i h1 h2
      exact ⟨by omega, List.all_eq_true.1 h2⟩
    · cases h
theorem TB.more {W : World} {lo lo' p : Nat} {rl : List FlR} (h : TB W lo p rl) (hl : lo' ≤ lo) : TB W lo' p rl := by
  obtain ⟨mp, A, n, c, g, h1, h2, h3, h4, h5, h6⟩ := h.ex
  exact ⟨⟨mp, A, n, c, g, h1, h2.more hl, h3, h4, Nat.le_trans hl h5, Nat.le_trans hl h6⟩, h.most, h.small⟩
theorem PLS.more {w : World} {lo hi hi' : Nat} {A : Option Addr} {n : Nat} {ps : List PlM} (h : PLS w lo hi A n ps) (hh : hi ≤ hi') : PLS w lo hi' A n ps :=
  ⟨h.sl.more (Nat.le_refl _) hh, fun x hx => ⟨(h.at_ x hx).1, ⟨(h.at_ x hx).2.1.1, Nat.lt_of_lt_of_le (h.at_ x hx).2.1.2 hh⟩, (h.at_ x hx).2.2.1, Nat.lt_of_lt_of_le (h.at_ x hx).2.2.2 hh⟩⟩
theorem right_few {f : Flt} (h : rightB f = true) : f.cls.length ≤ 6 := by
  unfold rightB rightC at h
  simp only [Bool.and_eq_true, decide_eq_true_eq] at h
  exact h.2.1.2.2.2.2.2
/-- An act of a script. -/
structure HAct where
  kind : Int
  fl : Int
  leg : Leg
  seat : Sit
  hol : Hol
structure HAct.ok (a : HAct) : Prop where
  kind : okInt a.kind
  fl : okInt a.fl
  leg : a.leg.ok
  seat : a.seat.ok
  hol : a.hol.ok
def hactV (a : HAct) : Value := .agg #[.int .i64 a.kind, .int .i64 a.fl, .string a.leg.key.car, .int .i64 a.leg.key.num, .int .i64 a.leg.day, .int .i64 a.seat.row, .int .u8 a.seat.let_, .string a.hol.loc, .int .i64 a.hol.pax]
/-- The leg of an act, over some flights. -/
def legH (l : List Flt) (a : HAct) : Leg := if 0 ≤ a.fl then (match l[a.fl.toNat]? with | some f => ⟨f.key, a.leg.day⟩ | none => a.leg) else a.leg
theorem info_lg : (Tryz.prog.info? 27).map (·.size) = some 3 := by kernel_rfl
theorem ret_lg {fn : Func} {p : Tmp} (h : fn.results = #[.cell p 27]) {R : Ending → World → Prop} {a : Act} {w : World} {g : Nat} {cs : Array Value}
    (hr : Bx w g cs 27) (hs : cs.size = 3) (hp : a.tmps.getD p undef = .pointer (some ⟨g, 0, none⟩)) (hd : a.defers = []) (hR : R (.returned (.agg cs)) w) : bodyPost Tryz.prog fn R .ret a w := by
  refine bodyPost_ret (v := .agg cs) ?_ hd hR
  rw [res_cell1 h, hp]
  have hl := run_loadVar_row (P := Tryz.prog) w g 27 27 cs (0, 0) _ hr Tryz.underlying27 rfl (by rw [hs]; exact info_lg)
  simp [asAddr, hl, Result.andThen]
set_option maxRecDepth 100000 in
set_option maxHeartbeats 4000000 in
theorem hleg_any (rl : List FlR) (A : Option Addr) (n c : Nat) (A2 : Option Addr) (n2 c2 : Nat) (w : World) (lo hi : Nat) (hs : FlS w lo hi A n rl) (hhi : hi ≤ w.heap.size) (a : HAct) :
    Calls Tryz.prog 30 #[.agg #[.slice A n c, .slice A2 n2 c2], hactV a] w fun e w' => e = .returned (.agg #[.string (legH (rl.map (·.f)) a).key.car, .int .i64 (legH (rl.map (·.f)) a).key.num, .int .i64 (legH (rl.map (·.f)) a).day]) ∧ Below w.heap.size w w' := by
  have HL := Lib.hid hs.sl.len
  obtain ⟨kind, fl, ⟨⟨kc, kn⟩, d⟩, ⟨sr, sl⟩, ⟨hl, hx⟩⟩ := a
  unfold hactV
  dsimp only
  have HS := Lib.hid hs
  clear hs
  by_cases h0 : 0 ≤ fl ∧ fl < n
  · obtain ⟨k, rfl⟩ := Int.eq_ofNat_of_zero_le h0.1
    have hlt : k < n := by omega
    obtain ⟨b0, o0, s, hA, _, hb0, hx0, hok, hcl, d0, d1, _⟩ := HS.out.at_ hlt
    subst hA
    have HF := Lib.hid (show legH (rl.map (·.f)) ⟨kind, (k : Nat), ⟨⟨kc, kn⟩, d⟩, ⟨sr, sl⟩, ⟨hl, hx⟩⟩ = ⟨⟨s.f.car, s.f.num⟩, d⟩ by
      unfold legH
      rw [if_pos (by exact h0.1)]
      simp only [Int.toNat_natCast, List.getElem?_map, hx0.out]
      rfl)
    have i0 : (0 : Int) ≤ k := h0.1
    have i1 : (k : Int) < n := h0.2
    have hbw : b0 < w.heap.size := by omega
    clear hx0 hcl h0
    go_enter Tryz.func30, Tryz.ntmps30
    go_upto_region 2 with fail
    refine wp_world (fun V => (Bx V w.heap.size #[.slice (some ⟨b0, o0, none⟩) n c, .slice A2 n2 c2] 60 ∧ Bx V (w.heap.size + 1) #[.int .i64 kind, .int .i64 k, .string kc, .int .i64 kn, .int .i64 d, .int .i64 sr, .int .u8 sl, .string hl, .int .i64 hx] 71 ∧ Bx V (w.heap.size + 1 + 1) #[.string ⟨#[]⟩, .int .i64 0, .int .i64 0] 27 ∧ Bx V (w.heap.size + 1 + 1 + 1) #[.string kc, .int .i64 kn, .int .i64 d] 27) ∧ Below w.heap.size w V) (four_boxes w _ _ _ _ _ _ _ _) ?_
    rintro V ⟨⟨bW, bA, bZ, bX⟩, hb⟩
    have c0 := bW.cells
    have c1 := bA.cells
    have c2 := bX.cells
    have c3 := bZ.cells
    have f2 := bX.free
    have f3 := bZ.free
    have zL := bX.lt
    have zZ := bZ.lt
    have e0 := (hb.cell (p := ⟨b0, o0 + k * 9, none⟩) hbw).trans d0
    have e1 := (hb.cell (p := ⟨b0, o0 + k * 9 + 1, none⟩) hbw).trans d1
    clear d0 d1
    go_wp2
    have hZ2 := (((((bZ.other (p := ⟨w.heap.size + 1 + 1 + 1, 0, none⟩) (by simp) (.string s.f.car)).other (p := ⟨w.heap.size + 1 + 1 + 1, 1, none⟩) (by simp) (.int .i64 s.f.num)).put 0 (.string s.f.car)).put 1 (.int .i64 s.f.num)).put 2 (.int .i64 d))
    refine ret_lg Tryz.results30 hZ2 rfl rfl rfl ?_
    exact ⟨by rw [HF.out]; rfl, ((((hb.setCell (by simp <;> omega) _).setCell (by simp <;> omega) _).setCell (by simp <;> omega) _).setCell (by simp <;> omega) _).setCell (by simp <;> omega) _⟩
  · have HF : Hid (legH (rl.map (·.f)) ⟨kind, fl, ⟨⟨kc, kn⟩, d⟩, ⟨sr, sl⟩, ⟨hl, hx⟩⟩ = ⟨⟨kc, kn⟩, d⟩) := by
      show legH _ _ = _
      unfold legH
      dsimp only
      split
      · rename_i h1
        have h2 : (rl.map (·.f))[fl.toNat]? = none := List.getElem?_eq_none (by rw [List.length_map, HL.out]; omega)
        rw [h2]
      · rfl
    by_cases h1 : 0 ≤ fl
    · have h2 : (n : Int) ≤ fl := by omega
      clear h0
      go_enter Tryz.func30, Tryz.ntmps30
      go_upto_region 2 with fail
      refine wp_world (fun V => (Bx V w.heap.size #[.slice A n c, .slice A2 n2 c2] 60 ∧ Bx V (w.heap.size + 1) #[.int .i64 kind, .int .i64 fl, .string kc, .int .i64 kn, .int .i64 d, .int .i64 sr, .int .u8 sl, .string hl, .int .i64 hx] 71 ∧ Bx V (w.heap.size + 1 + 1) #[.string ⟨#[]⟩, .int .i64 0, .int .i64 0] 27 ∧ Bx V (w.heap.size + 1 + 1 + 1) #[.string kc, .int .i64 kn, .int .i64 d] 27) ∧ Below w.heap.size w V) (four_boxes w _ _ _ _ _ _ _ _) ?_
      rintro V ⟨⟨bW, bA, bZ, bX⟩, hb⟩
      have c0 := bW.cells
      have c1 := bA.cells
      have c2 := bX.cells
      have c3 := bZ.cells
      have f2 := bX.free
      have f3 := bZ.free
      have zL := bX.lt
      have zZ := bZ.lt
      go_wp2
      have hZ2 := ((bZ.put 0 (.string kc)).put 1 (.int .i64 kn)).put 2 (.int .i64 d)
      refine ret_lg Tryz.results30 hZ2 rfl rfl rfl ?_
      exact ⟨by rw [HF.out]; rfl, ((hb.setCell (by simp <;> omega) _).setCell (by simp <;> omega) _).setCell (by simp <;> omega) _⟩
    · have h2 : fl < 0 := by omega
      clear h0
      go_enter Tryz.func30, Tryz.ntmps30
      go_upto_region 2 with fail
      refine wp_world (fun V => (Bx V w.heap.size #[.slice A n c, .slice A2 n2 c2] 60 ∧ Bx V (w.heap.size + 1) #[.int .i64 kind, .int .i64 fl, .string kc, .int .i64 kn, .int .i64 d, .int .i64 sr, .int .u8 sl, .string hl, .int .i64 hx] 71 ∧ Bx V (w.heap.size + 1 + 1) #[.string ⟨#[]⟩, .int .i64 0, .int .i64 0] 27 ∧ Bx V (w.heap.size + 1 + 1 + 1) #[.string kc, .int .i64 kn, .int .i64 d] 27) ∧ Below w.heap.size w V) (four_boxes w _ _ _ _ _ _ _ _) ?_
      rintro V ⟨⟨bW, bA, bZ, bX⟩, hb⟩
      have c0 := bW.cells
      have c1 := bA.cells
      have c2 := bX.cells
      have c3 := bZ.cells
      have f2 := bX.free
      have f3 := bZ.free
      have zL := bX.lt
      have zZ := bZ.lt
      go_wp2
      have hZ2 := ((bZ.put 0 (.string kc)).put 1 (.int .i64 kn)).put 2 (.int .i64 d)
      refine ret_lg Tryz.results30 hZ2 rfl rfl rfl ?_
      exact ⟨by rw [HF.out]; rfl, ((hb.setCell (by simp <;> omega) _).setCell (by simp <;> omega) _).setCell (by simp <;> omega) _⟩
def tHA : Ty HAct := ⟨fun a => [.int .i64 a.kind, .int .i64 a.fl, .string a.leg.key.car, .int .i64 a.leg.key.num, .int .i64 a.leg.day, .int .i64 a.seat.row, .int .u8 a.seat.let_, .string a.hol.loc, .int .i64 a.hol.pax], 9, HAct.ok, fun _ => rfl, fun x u h => by simp at h; rcases h with h | h | h | h | h | h | h | h | h <;> subst h <;> rfl, by omega⟩
theorem Sl.ha_ {w : World} {lo hi k n : Nat} {A : Option Addr} {l : List HAct} (h : Sl w lo hi tHA A n l) (hk : k < n) :
    ∃ b o x, A = some ⟨b, o, none⟩ ∧ lo ≤ b ∧ b < hi ∧ Hid (l[k]? = some x) ∧ HAct.ok x ∧ w.cell? ⟨b, o + k * 9, none⟩ = some (.int .i64 x.kind) ∧ w.cell? ⟨b, o + k * 9 + 1, none⟩ = some (.int .i64 x.fl) ∧ w.cell? ⟨b, o + k * 9 + 2, none⟩ = some (.string x.leg.key.car) ∧ w.cell? ⟨b, o + k * 9 + 3, none⟩ = some (.int .i64 x.leg.key.num) ∧ w.cell? ⟨b, o + k * 9 + 4, none⟩ = some (.int .i64 x.leg.day) ∧ w.cell? ⟨b, o + k * 9 + 5, none⟩ = some (.int .i64 x.seat.row) ∧ w.cell? ⟨b, o + k * 9 + 6, none⟩ = some (.int .u8 x.seat.let_) ∧ w.cell? ⟨b, o + k * 9 + 7, none⟩ = some (.string x.hol.loc) ∧ w.cell? ⟨b, o + k * 9 + 8, none⟩ = some (.int .i64 x.hol.pax) := by
  obtain ⟨b, o, x, h1, h2, h3, h4, h5, hc⟩ := h.at_ hk
  exact ⟨b, o, x, h1, h2, h3, h4, h5, by simpa [tHA] using hc 0 _ rfl, hc 1 _ rfl, hc 2 _ rfl, hc 3 _ rfl, hc 4 _ rfl, hc 5 _ rfl, hc 6 _ rfl, hc 7 _ rfl, hc 8 _ rfl⟩
theorem legH_ok {l : List Flt} {a : HAct} (ha : a.ok) (hl : ∀ f ∈ l, f.ok) : (legH l a).ok := by
  unfold legH
  split
  · split
    · rename_i f hf
      exact ⟨⟨(hl f (List.mem_of_getElem? hf)).car, (hl f (List.mem_of_getElem? hf)).num⟩, ha.leg.2⟩
    · exact ha.leg
  · exact ha.leg
/-- What begun hands back. -/
def HbgQ (w : World) (rl : List FlR) (pl : List PlR) (e : Ending) (w' : World) : Prop :=
  Below w.heap.size w w' ∧ (((newF (rl.map (·.f)) ≠ 0 ∨ 8 < pl.length ∨ ∃ r ∈ pl, ¬ goodP r.p) ∧ e = .returned (.tuple #[.pointer none, .bool false])) ∨
    (newF (rl.map (·.f)) = 0 ∧ ∃ lo hi t p b rs ps, e = .returned (.tuple #[.pointer (some ⟨p, 0, none⟩), .bool true]) ∧ HK w' lo hi t p b rs ps (fun _ => none) ∧ w.heap.size ≤ hi ∧ Tab (rl.map (·.f)) (rs.map (·.f)) ∧ PlKs pl ps pl.length))
set_option maxRecDepth 100000 in
set_option maxHeartbeats 8000000 in
theorem hbegun_any (rl : List FlR) (A : Option Addr) (n c : Nat) (pl : List PlR) (A2 : Option Addr) (n2 c2 : Nat) (w : World) (lo hi : Nat) (hs : FlS w lo hi A n rl) (hp : PlS w lo hi A2 n2 pl) (hhi : hi ≤ w.heap.size) :
    Calls Tryz.prog 29 #[.agg #[.slice A n c, .slice A2 n2 c2]] w (HbgQ w rl pl) := by
  have HS := Lib.hid hs
  have HP := Lib.hid hp
  have HL := Lib.hid hs.sl.len
  have HOK := Lib.hid hs.sl.wf
  have hnl := eql_tab
  have hns := neq_bk
  have HB := box1 w #[.slice A n c, .slice A2 n2 c2] 60
  clear hs hp
  go_enter Tryz.func29, Tryz.ntmps29
  go_upto_region 1 with fail
  refine wp_world (fun V => Bx V w.heap.size #[.slice A n c, .slice A2 n2 c2] 60 ∧ Below w.heap.size w V) HB ?_
  clear HB
  rintro V ⟨bW, hb⟩
  have BW := Lib.hid bW
  have HB := Lib.hid hb
  have zV := hb.size
  have zW := bW.lt
  have cW := bW.cells
  clear bW hb
  by_cases hm : 64 < n
  · have h64 := Lib.hid (newF_many (l := rl.map (·.f)) (by rw [List.length_map, HL.out]; exact hm))
    have hm' : (64 : Int) < n := by omega
    go_wp2
    go_ret2
    exact ⟨HB.out, .inl ⟨.inl (by rw [h64.out]; decide), rfl⟩⟩
  have hm' : (n : Int) ≤ 64 := by omega
  go_wp2_with fail
  refine (rnew_all rl A n c V lo hi (HS.out.below HB.out hhi) (Nat.le_trans hhi zV)).mono ?_
  generalize hz : newF (rl.map (·.f)) = z
  have HZ := Lib.hid hz
  clear hz
  rintro e w1 ⟨rfl, h1⟩
  have H1 := Lib.hid (HB.out.trans (h1.mono zV))
  have b1 := BW.out.below h1 zW
  have B1 := Lib.hid b1
  have z1 := H1.out.size
  clear cW h1
  have c1 := b1.cells
  clear b1
  by_cases hz : z = 0
  · subst hz
    have hsm : ∀ r ∈ rl, r.n ≤ 100000 := fun r hr => by
      have h5 := right_few ((newF_right HZ.out).2 _ (List.mem_map_of_mem hr))
      have h6 := (HOK.out r hr).len
      omega
    have HSM := Lib.hid hsm
    clear hsm
    go_wp2_with fail
    refine (maps_any pl A2 n2 c2 w1 lo hi (HP.out.below H1.out hhi) (Nat.le_trans hhi z1)).mono ?_
    rintro e w2 ⟨h2, hq⟩
    have H2 := Lib.hid (H1.out.trans (h2.mono z1))
    have b2 := B1.out.below h2 B1.out.lt
    have B2 := Lib.hid b2
    have z2 := H2.out.size
    have z12 := h2.size
    clear c1 h2
    have c2 := b2.cells
    clear b2
    rcases hq with ⟨hbad, rfl⟩ | ⟨A9, n9, c9, ps, rfl, hpl, hn9, hc9, hks⟩
    · have HBAD := Lib.hid hbad
      clear hbad
      go_wp2_with fail
      refine (new_any rl A n c w2 lo hi (HS.out.below H2.out hhi) (by omega) (Nat.le_trans hhi z2) HSM.out).mono ?_
      rintro e w3 ⟨h3, hq⟩
      have H3 := Lib.hid (H2.out.trans (h3.mono z2))
      clear c2 h3
      rcases hq with ⟨hbad, _⟩ | ⟨_, t, rs, rfl, ht, htab⟩
      · exact absurd HZ.out hbad
      clear ht htab
      go_wp2
      go_ret2
      exact ⟨H3.out, .inl ⟨.inr HBAD.out, rfl⟩⟩
    · have HPL := Lib.hid hpl
      have HKS := Lib.hid hks
      have HC9 := Lib.hid hc9
      clear hpl hks hc9
      go_wp2_with fail
      refine (new_any rl A n c w2 lo hi (HS.out.below H2.out hhi) (by omega) (Nat.le_trans hhi z2) HSM.out).mono ?_
      rintro e w3 ⟨h3, hq⟩
      have H3 := Lib.hid (H2.out.trans (h3.mono z2))
      have z3 := H3.out.size
      have H23 := Lib.hid h3
      have z23 := h3.size
      clear c2 h3
      rcases hq with ⟨hbad, _⟩ | ⟨_, t, rs, rfl, ht, htab⟩
      · exact absurd HZ.out hbad
      have HT := Lib.hid htab
      have HTB := Lib.hid ht
      clear ht htab
      go_wp2_with fail
      refine (hnew_any rs ps t w1.heap.size A9 n9 c9 w3 (HTB.out.more z12) ((HPL.out.keepB fun k _ h2 => H23.out.block k h2).more H23.out.size) (by omega) (by omega) HC9.out).mono ?_
      rintro e w4 ⟨hi4, p, b, rfl, hHK, hz4, h4⟩
      have HHK := Lib.hid hHK
      have H4 := Lib.hid (H3.out.trans (h4.mono z3))
      clear hHK h4
      go_wp2
      go_ret2
      exact ⟨H4.out, .inr ⟨HZ.out, _, hi4, t, p, b, rs, ps, rfl, HHK.out, by omega, HT.out, HKS.out⟩⟩
  · go_wp2
    go_ret2
    exact ⟨H1.out, .inl ⟨.inl (by rw [HZ.out]; exact hz), rfl⟩⟩
end Go.Proofs.YtlkdefmceghmnaaGreat
namespace Go.Proofs.YtlkdefmceghmnaaGreat
set_option linter.unusedVariables false
open Go Go.RowKit Go.Sort
def lonS : ByteArray := ⟨#[76, 79, 78]⟩
def parS : ByteArray := ⟨#[80, 65, 82]⟩
def fS : Flt := ⟨⟨#[66, 65]⟩, 1, lonS, parS, 127, 0, 0, [⟨89, 3⟩], 0⟩
def gS : Leg := ⟨⟨⟨#[66, 65]⟩, 1⟩, 5⟩
def plS : Pln := ⟨1, 2, ⟨#[65, 66]⟩, [], []⟩
def sS : Sit := ⟨1, 65⟩
def xS : Hol := ⟨⟨#[88]⟩, 1⟩
def yS : Hol := ⟨⟨#[88]⟩, 2⟩
def cS : Hpl := ⟨gS, sS⟩
theorem newS : newF [fS] = 0 := by kernel_rfl
theorem flyS : fliesF [fS] gS = true := by kernel_rfl
theorem hdrS : hdR plS = true := by kernel_rfl
theorem chkS : chkP plS = true := by kernel_rfl
theorem hasS : hasR plS sS = true := by kernel_rfl
theorem takS1 : takeF 0 none xS = (0, some xS) := by kernel_rfl
theorem takS2 : takeF 0 (some xS) xS = (8, some xS) := by kernel_rfl
theorem takS3 : takeF 0 (some xS) yS = (14, some xS) := by kernel_rfl
theorem gS_ok : gS.ok := ⟨⟨(show okStr ⟨#[66, 65]⟩ by unfold okStr; decide), (show okInt 1 by unfold okInt; decide)⟩, (show okInt 5 by unfold okInt; decide)⟩
theorem sS_ok : sS.ok := ⟨(show okInt 1 by unfold okInt; decide), (show okByte 65 by unfold okByte; decide)⟩
theorem xS_ok : xS.ok := ⟨(show okStr ⟨#[88]⟩ by unfold okStr; decide), (show okInt 1 by unfold okInt; decide)⟩
theorem yS_ok : yS.ok := ⟨(show okStr ⟨#[88]⟩ by unfold okStr; decide), (show okInt 2 by unfold okInt; decide)⟩
theorem Sl.ofRow {α : Type} {T : Ty α} {W : World} {g : Nat} {news : Array Value} {t : TypeId} {l : List α} (hg : W.heap[g]? = some (.cells news t (0, 0))) (hl : news.toList = l.flatMap T.enc) (hw : ∀ x ∈ l, T.wf x) : Sl W g (g + 1) T (some ⟨g, 0, none⟩) l.length l :=
  ⟨rfl, hw, fun _ => ⟨g, 0, rfl, Nat.le_refl _, by omega, fun k x hx j u hu => by
    have h1 := flatMap_at T l k x hx j u hu
    rw [← hl] at h1
    rw [Nat.zero_add, cell_of_row _ _ _ news t (0, 0) hg, ← h1]
    simp⟩⟩
theorem RetHd.is {W : World} {lo hi t p b : Nat} {rs : List FlR} {ps : List PlM} {q : Hpl → Option Hol} {c : Hpl} {r : Int × Option Hol} {k : Int} {o : Option Hol} (hr : r = (k, o)) {e : Ending} {w' : World} (h : RetHd W lo hi t p b rs ps q c r e w') : e = .returned (.int .i64 k) ∧ HK w' lo hi t p b rs ps (updH q c o) ∧ Kb b W w' := by
  subst hr
  exact h
theorem Bx.kb {W W' : World} {b g : Nat} {cs : Array Value} {t : TypeId} (h : Bx W g cs t) (hk : Kb b W W') (hne : g ≠ b) : Bx W' g cs t := (hk.block g h.lt hne).trans h
/-- The boxes of a leg, a seat and a holder. -/
structure B3 (W : World) (k : Nat) : Prop where
  l : Bx W k #[.string ⟨#[66, 65]⟩, .int .i64 1, .int .i64 5] 27
  s : Bx W (k + 1) #[.int .i64 1, .int .u8 65] 67
  h : Bx W (k + 1 + 1) #[.string ⟨#[88]⟩, .int .i64 1] 69
theorem B3.below {W W' : World} {k : Nat} (h : B3 W k) (hb : Below W.heap.size W W') : B3 W' k := ⟨h.l.below hb h.l.lt, h.s.below hb h.s.lt, h.h.below hb h.h.lt⟩
theorem B3.kb {W W' : World} {k b : Nat} (h : B3 W k) (hk : Kb b W W') (hb : b < k) : B3 W' k := ⟨h.l.kb hk (by omega), h.s.kb hk (by omega), h.h.kb hk (by omega)⟩
theorem B3.new (W : World) : B3 (((W.alloc (.cells #[.string ⟨#[66, 65]⟩, .int .i64 1, .int .i64 5] 27)).alloc (.cells #[.int .i64 1, .int .u8 65] 67)).alloc (.cells #[.string ⟨#[88]⟩, .int .i64 1] 69)) W.heap.size ∧ Below W.heap.size W (((W.alloc (.cells #[.string ⟨#[66, 65]⟩, .int .i64 1, .int .i64 5] 27)).alloc (.cells #[.int .i64 1, .int .u8 65] 67)).alloc (.cells #[.string ⟨#[88]⟩, .int .i64 1] 69)) := by
  have h2 := two_boxes W #[.string ⟨#[66, 65]⟩, .int .i64 1, .int .i64 5] #[.int .i64 1, .int .u8 65] 27 67
  have h3 := Bx.new ((W.alloc (.cells #[.string ⟨#[66, 65]⟩, .int .i64 1, .int .i64 5] 27)).alloc (.cells #[.int .i64 1, .int .u8 65] 67)) #[.string ⟨#[88]⟩, .int .i64 1] 69
  rw [World.size_alloc, World.size_alloc] at h3
  exact ⟨⟨h2.1.alloc _, h2.2.1.alloc _, h3⟩, h2.2.2.below.alloc (by simp; omega) _⟩
theorem Tab.right_rs {l : List Flt} {rs : List FlR} (h : Tab l (rs.map (·.f))) : ∀ r ∈ rs, rightB r.f = true := fun r hr => h.right _ (h.perm.mem_iff.1 (List.mem_map_of_mem hr))
theorem hasB_is {rs : List FlR} {pl : List PlR} {ps : List PlM} {c : Hpl} {r : FlR} {p : PlR} (hr : findR rs c.leg.key = some r) (hf : fliesF (rs.map (·.f)) c.leg = true) (hp : pl[r.f.pln.toNat]? = some p) (hk : PlKs pl ps pl.length) : hasB rs ps c = hasR p.p c.seat := by
  unfold hasB plnF
  rw [hf, hr]
  obtain ⟨x, h1, h2⟩ := hk.2 _ _ (List.getElem?_eq_some_iff.1 hp).1 hp
  dsimp only
  rw [h1]
  exact h2.2 c.seat
theorem wrong_no {rs : List FlR} {ps : List PlM} {c : Hpl} (h : hasB rs ps c = true) : wrongB rs ps c = 0 := by
  unfold wrongB
  have h1 : fliesF (rs.map (·.f)) c.leg = true := by
    unfold hasB at h
    simp only [Bool.and_eq_true] at h
    exact h.1
  rw [h1, h]
  rfl
set_option maxRecDepth 100000 in
set_option maxHeartbeats 8000000 in
theorem awake11_any (w : World) : Calls Tryz.prog 28 #[] w (RetB w true) := by
  have hol1 := eql_hol
  go_enter Tryz.func28, Tryz.ntmps28
  go_wp2_with fail
  have hb5 : Below w.heap.size w ((((w.alloc (.cells #[.int .u8 89, .int .i64 3] 93)).alloc (.cells #[.string ⟨#[66, 65]⟩, .int .i64 1, .string ⟨#[76, 79, 78]⟩, .string ⟨#[80, 65, 82]⟩, .int .u8 127, .int .i64 0, .int .i64 0, .slice (some ⟨w.heap.size, 0, none⟩) 1 1, .int .i64 0] 96)).alloc (.cells #[.string ⟨#[66, 65]⟩, .int .i64 1, .string ⟨#[76, 79, 78]⟩, .string ⟨#[80, 65, 82]⟩, .int .u8 127, .int .i64 0, .int .i64 0, .slice (some ⟨w.heap.size, 0, none⟩) 1 1, .int .i64 0] 96)).alloc (.cells #[.int .i64 1, .int .i64 2, .string ⟨#[65, 66]⟩, .slice none 0 0, .slice none 0 0] 140)) := ((((Below.refl _ _).alloc (Nat.le_refl _) _).alloc (by simp) _).alloc (by simp; omega) _).alloc (by simp; omega) _
  have hcl := (Sl.one (T := tCls) w (⟨89, 3⟩ : Cls) (by unfold tCls Cls.ok okByte okInt; simp) #[.int .u8 89, .int .i64 3] rfl 93)
  have hbx := ((Bx.new (w.alloc (.cells #[.int .u8 89, .int .i64 3] 93)) #[.string ⟨#[66, 65]⟩, .int .i64 1, .string ⟨#[76, 79, 78]⟩, .string ⟨#[80, 65, 82]⟩, .int .u8 127, .int .i64 0, .int .i64 0, .slice (some ⟨w.heap.size, 0, none⟩) 1 1, .int .i64 0] 96).alloc (.cells #[.string ⟨#[66, 65]⟩, .int .i64 1, .string ⟨#[76, 79, 78]⟩, .string ⟨#[80, 65, 82]⟩, .int .u8 127, .int .i64 0, .int .i64 0, .slice (some ⟨w.heap.size, 0, none⟩) 1 1, .int .i64 0] 96)).alloc (.cells #[.int .i64 1, .int .i64 2, .string ⟨#[65, 66]⟩, .slice none 0 0, .slice none 0 0] 140)
  rw [World.size_alloc] at hbx
  have hrow := heap_alloc_new ((w.alloc (.cells #[.int .u8 89, .int .i64 3] 93)).alloc (.cells #[.string ⟨#[66, 65]⟩, .int .i64 1, .string ⟨#[76, 79, 78]⟩, .string ⟨#[80, 65, 82]⟩, .int .u8 127, .int .i64 0, .int .i64 0, .slice (some ⟨w.heap.size, 0, none⟩) 1 1, .int .i64 0] 96)) (.cells #[.string ⟨#[66, 65]⟩, .int .i64 1, .string ⟨#[76, 79, 78]⟩, .string ⟨#[80, 65, 82]⟩, .int .u8 127, .int .i64 0, .int .i64 0, .slice (some ⟨w.heap.size, 0, none⟩) 1 1, .int .i64 0] 96)
  have hrow2 := heap_alloc_new (((w.alloc (.cells #[.int .u8 89, .int .i64 3] 93)).alloc (.cells #[.string ⟨#[66, 65]⟩, .int .i64 1, .string ⟨#[76, 79, 78]⟩, .string ⟨#[80, 65, 82]⟩, .int .u8 127, .int .i64 0, .int .i64 0, .slice (some ⟨w.heap.size, 0, none⟩) 1 1, .int .i64 0] 96)).alloc (.cells #[.string ⟨#[66, 65]⟩, .int .i64 1, .string ⟨#[76, 79, 78]⟩, .string ⟨#[80, 65, 82]⟩, .int .u8 127, .int .i64 0, .int .i64 0, .slice (some ⟨w.heap.size, 0, none⟩) 1 1, .int .i64 0] 96)) (.cells #[.int .i64 1, .int .i64 2, .string ⟨#[65, 66]⟩, .slice none 0 0, .slice none 0 0] 140)
  rw [World.size_alloc, World.size_alloc] at hrow
  rw [World.size_alloc, World.size_alloc, World.size_alloc] at hrow2
  generalize hV : (((w.alloc (.cells #[.int .u8 89, .int .i64 3] 93)).alloc (.cells #[.string ⟨#[66, 65]⟩, .int .i64 1, .string ⟨#[76, 79, 78]⟩, .string ⟨#[80, 65, 82]⟩, .int .u8 127, .int .i64 0, .int .i64 0, .slice (some ⟨w.heap.size, 0, none⟩) 1 1, .int .i64 0] 96)).alloc (.cells #[.string ⟨#[66, 65]⟩, .int .i64 1, .string ⟨#[76, 79, 78]⟩, .string ⟨#[80, 65, 82]⟩, .int .u8 127, .int .i64 0, .int .i64 0, .slice (some ⟨w.heap.size, 0, none⟩) 1 1, .int .i64 0] 96)) = V3 at hrow hrow2 hb5 hbx ⊢
  have hz3 : V3.heap.size = w.heap.size + 1 + 1 + 1 := by rw [← hV]; simp
  have hfl : FlS V3 0 (w.heap.size + 1 + 1 + 1) (some ⟨w.heap.size + 1 + 1, 0, none⟩) 1 [FlR.mk fS (some ⟨w.heap.size, 0, none⟩) 1 1] := by
    refine ⟨(Sl.ofRow (T := tFl) (l := [FlR.mk fS (some ⟨w.heap.size, 0, none⟩) 1 1]) hrow rfl (fun x hx => ?_)).more (Nat.zero_le _) (Nat.le_refl _), fun r hr => ?_⟩
    · rw [List.mem_singleton.1 hx]
      exact ⟨⟨(show okStr ⟨#[66, 65]⟩ by unfold okStr; decide), (show okInt 1 by unfold okInt; decide), (show okStr lonS by unfold okStr lonS; decide), (show okStr parS by unfold okStr parS; decide), (show okByte 127 by unfold okByte; decide), (show okInt 0 by unfold okInt; decide), (show okInt 0 by unfold okInt; decide), (show okInt 0 by unfold okInt; decide)⟩, rfl, (fun h => by cases h), Nat.le_refl _⟩
    · rw [List.mem_singleton.1 hr, ← hV]
      exact (((hcl.alloc (by simp) _).alloc (by simp) _).more (Nat.zero_le _) (by omega))
  have hplt : PlS (V3.alloc (.cells #[.int .i64 1, .int .i64 2, .string ⟨#[65, 66]⟩, .slice none 0 0, .slice none 0 0] 140)) 0 (w.heap.size + 1 + 1 + 1 + 1) (some ⟨w.heap.size + 1 + 1 + 1, 0, none⟩) 1 [PlR.mk plS none 0 0 none 0 0] := by
    refine ⟨(Sl.ofRow (T := tPl) (l := [PlR.mk plS none 0 0 none 0 0]) hrow2 rfl (fun x hx => ?_)).more (Nat.zero_le _) (Nat.le_refl _), fun r hr => ?_⟩
    · rw [List.mem_singleton.1 hx]
      exact ⟨⟨(show okInt 1 by unfold okInt; decide), (show okInt 2 by unfold okInt; decide), (show okStr ⟨#[65, 66]⟩ by unfold okStr; decide)⟩, by decide, by decide⟩
    · rw [List.mem_singleton.1 hr]
      exact ⟨Sl.nil_ _, Sl.nil_ _⟩
  have hfl4 : FlS (V3.alloc (.cells #[.int .i64 1, .int .i64 2, .string ⟨#[65, 66]⟩, .slice none 0 0, .slice none 0 0] 140)) 0 (w.heap.size + 1 + 1 + 1 + 1) (some ⟨w.heap.size + 1 + 1, 0, none⟩) 1 [FlR.mk fS (some ⟨w.heap.size, 0, none⟩) 1 1] := by
    have h := hfl.below ((Below.refl V3.heap.size V3).alloc (Nat.le_refl _) (.cells #[.int .i64 1, .int .i64 2, .string ⟨#[65, 66]⟩, .slice none 0 0, .slice none 0 0] 140)) (by omega)
    exact ⟨h.sl.more (Nat.le_refl _) (by omega), fun r hr => Sl.more (h.cl r hr) (Nat.le_refl _) (by omega)⟩
  clear hcl hrow hrow2 hfl hV
  refine (hbegun_any _ _ 1 1 _ _ 1 1 _ 0 _ hfl4 hplt (by simp; omega)).mono ?_
  rintro e w5 ⟨h5, hq⟩
  rcases hq with ⟨hbad, _⟩ | ⟨_, lo, hi, t, p, b, rs, ps, rfl, hHK, hzh, htab, hks⟩
  · exfalso
    rcases hbad with hbad | hbad | ⟨r, hr, hbad⟩
    · exact hbad newS
    · simp at hbad
    · rw [List.mem_singleton.1 hr] at hbad
      exact hbad ⟨by decide, rfl, rfl, hdrS, chkS⟩
  have hHB : hasB rs ps cS = true := by
    have hp : rs.map (·.f) = [fS] := List.perm_singleton.1 htab.perm
    obtain ⟨r, rfl⟩ : ∃ r, rs = [r] := List.length_eq_one_iff.1 (by have h := congrArg List.length hp; simpa using h)
    have hr : r.f = fS := by simpa using hp
    have hfr : findR [r] gS.key = some r := by
      unfold findR FlR.key
      rw [List.find?_cons_of_pos]
      rw [hr]
      kernel_rfl
    rw [hasB_is (c := cS) (r := r) (p := PlR.mk plS none 0 0 none 0 0) hfr (by show fliesF [r.f] gS = true; rw [hr]; exact flyS) (by rw [hr]; rfl) hks]
    exact hasS
  have HW := Lib.hid (wrong_no hHB)
  have HHB := Lib.hid hHB
  have HR := Lib.hid (htab.right_rs)
  have HHK := Lib.hid hHK
  have hB5 := hb5.trans (h5.mono hb5.size)
  have HB5 := Lib.hid hB5
  have hbx5 := hbx.below h5 hbx.lt
  have HBX := Lib.hid hbx5
  have z5 := hB5.size
  have zb5 := hHK.blt
  have zhb := hHK.hb
  have z4 := h5.size
  rw [World.size_alloc, hz3] at z4 hzh
  have c5 := hbx5.cells
  clear hplt hfl4 hB5 hb5 h5 hbx hbx5 hHB htab hks hHK
  go_upto_region 8 with fail
  refine wp_world (fun V => B3 V w5.heap.size ∧ HK V lo hi t p b rs ps (fun _ => none) ∧ Below w.heap.size w V) ⟨(B3.new w5).1, HHK.out.keep (B3.new w5).2, HB5.out.trans ((B3.new w5).2.mono z5)⟩ ?_
  clear HHK HB5 HBX c5
  rintro V ⟨hb3, hHK, hb⟩
  have H3 := Lib.hid hb3
  have HHK := Lib.hid hHK
  have HB := Lib.hid hb
  have zV := hb.size
  have c1 := hb3.l.cells
  have c2 := hb3.s.cells
  have c3 := hb3.h.cells
  clear hb3 hHK hb
  go_wp2_with fail
  refine (take_any HHK.out HR.out gS sS xS gS_ok sS_ok xS_ok).mono ?_
  rintro e w6 h6
  obtain ⟨rfl, hH6, hk6⟩ := h6.is (k := 0) (o := some xS) (by show takeF (wrongB rs ps cS) none xS = _; rw [HW.out]; exact takS1)
  clear h6
  generalize hq1 : updH (fun _ => none) ⟨gS, sS⟩ (some xS) = q1 at hH6
  have hqc : q1 cS = some xS := by rw [← hq1]; exact updH_same _ _ _
  have HQC := Lib.hid hqc
  have HQO : Hid (∀ d, d ≠ cS → q1 d = none) := fun d hd => by rw [← hq1]; exact updH_other _ _ _ hd
  clear hq1 hqc
  have H36 := Lib.hid (H3.out.kb hk6 zb5)
  have HH6 := Lib.hid hH6
  have HB6 := Lib.hid (hk6.below HB.out (by omega) zV)
  have z6 := HB6.out.size
  clear c1 c2 c3 hH6 hk6 H3 HHK HB
  have c1 := H36.out.l.cells
  have c2 := H36.out.s.cells
  have c3 := H36.out.h.cells
  go_wp2_with fail
  refine (take_any HH6.out HR.out gS sS xS gS_ok sS_ok xS_ok).mono ?_
  rintro e w7 h7
  obtain ⟨rfl, hH7, hk7⟩ := h7.is (k := 8) (o := some xS) (by show takeF (wrongB rs ps cS) (q1 cS) xS = _; rw [HW.out, HQC.out]; exact takS2)
  clear h7
  rw [show updH q1 ⟨gS, sS⟩ (some xS) = q1 by rw [← HQC.out]; exact updH_self _ _] at hH7
  have H37 := Lib.hid (H36.out.kb hk7 zb5)
  have HH7 := Lib.hid hH7
  have HB7 := Lib.hid (hk7.below HB6.out (by omega) z6)
  have z7 := HB7.out.size
  clear c1 c2 c3 hH7 hk7 H36 HH6 HB6
  have c1 := H37.out.l.cells
  have c2 := H37.out.s.cells
  have c3 := H37.out.h.cells
  go_wp2_with fail
  refine (take_any HH7.out HR.out gS sS yS gS_ok sS_ok yS_ok).mono ?_
  rintro e w8 h8
  obtain ⟨rfl, hH8, hk8⟩ := h8.is (k := 14) (o := some xS) (by show takeF (wrongB rs ps cS) (q1 cS) yS = _; rw [HW.out, HQC.out]; exact takS3)
  clear h8
  rw [show updH q1 ⟨gS, sS⟩ (some xS) = q1 by rw [← HQC.out]; exact updH_self _ _] at hH8
  have H38 := Lib.hid (H37.out.kb hk8 zb5)
  have HH8 := Lib.hid hH8
  have HB8 := Lib.hid (hk8.below HB7.out (by omega) z7)
  have z8 := HB8.out.size
  clear c1 c2 c3 hH8 hk8 H37 HH7 HB7
  have c1 := H38.out.l.cells
  have c2 := H38.out.s.cells
  have c3 := H38.out.h.cells
  go_wp2_with fail
  refine (who_any HH8.out gS sS gS_ok sS_ok).mono ?_
  rintro e w9 ⟨he, h9⟩
  obtain rfl : e = .returned (.tuple #[.agg #[.string ⟨#[88]⟩, .int .i64 1], .bool true]) := by rw [he, show q1 ⟨gS, sS⟩ = some xS from HQC.out]; rfl
  have H39 := Lib.hid (H38.out.below h9)
  have HH9 := Lib.hid (HH8.out.keep h9)
  have HB9 := Lib.hid (HB8.out.trans (h9.mono z8))
  have z9 := HB9.out.size
  clear c1 c2 c3 h9 he H38 HH8 HB8
  go_upto_region 11 with fail
  refine wp_world (fun V => (B3 V w5.heap.size ∧ Bx V w9.heap.size #[.string ⟨#[88]⟩, .int .i64 1] 69) ∧ HK V lo hi t p b rs ps q1 ∧ Below w.heap.size w V) ⟨⟨H39.out.below ((Below.refl _ _).alloc (Nat.le_refl _) _), Bx.new _ _ _⟩, HH9.out.keep ((Below.refl _ _).alloc (Nat.le_refl _) _), HB9.out.alloc z9 _⟩ ?_
  clear H39 HH9 HB9
  rintro V2 ⟨⟨hb3, hb4⟩, hHK, hb⟩
  have H3 := Lib.hid hb3
  have HHK := Lib.hid hHK
  have HB := Lib.hid hb
  have zV2 := hb.size
  have c1 := hb3.l.cells
  have c2 := hb3.s.cells
  have c3 := hb3.h.cells
  have c4 := hb4.cells
  clear hb3 hb4 hHK hb
  go_wp2_with fail
  refine (hon_any HHK.out gS [cS] (by simp) (fun c hne => ?_)).mono ?_
  · by_cases e : c = cS
    · simp [e]
    · exact absurd (HQO.out c e) hne
  rintro e w10 ⟨A10, n10, c10, o10, rfl, hO10, hr10, hm10, h10⟩
  have ho : o10 = [Hld.mk sS xS] := RisL.eq lts_hd hr10 (List.pairwise_singleton _ _) (fun x => by
    rw [hm10 x, List.mem_singleton]
    constructor
    · intro hx
      replace hx : q1 ⟨gS, x.seat⟩ = some x.hol := hx
      by_cases e : (⟨gS, x.seat⟩ : Hpl) = cS
      · rw [e, HQC.out] at hx
        injection hx with hx
        injection e with _ e2
        obtain ⟨xs, xh⟩ := x
        dsimp only at e2 hx
        rw [e2, hx]
      · rw [HQO.out _ e] at hx
        cases hx
    · rintro rfl
      exact HQC.out)
  subst ho
  obtain rfl : n10 = 1 := hO10.sl.len.symm
  have H310 := Lib.hid (H3.out.below h10)
  have HH10 := Lib.hid (HHK.out.keep h10)
  have HB10 := Lib.hid (HB.out.trans (h10.mono zV2))
  have z10 := HB10.out.size
  clear c1 c2 c3 c4 hO10 hr10 hm10 h10 H3 HHK HB
  have c1 := H310.out.l.cells
  have c2 := H310.out.s.cells
  go_wp2_with fail
  refine (hlegs_any HH10.out [cS] (by simp) (fun c hne => ?_)).mono ?_
  · by_cases e : c = cS
    · simp [e]
    · exact absurd (HQO.out c e) hne
  rintro e w11 ⟨A11, n11, c11, o11, rfl, hO11, hr11, hm11, h11⟩
  have ho : o11 = [gS] := RisL.eq lts_g hr11 (List.pairwise_singleton _ _) (fun g => by
    rw [hm11 g, List.mem_singleton]
    constructor
    · rintro ⟨c, hne, rfl⟩
      by_cases e : c = cS
      · rw [e]; rfl
      · exact absurd (HQO.out c e) hne
    · rintro rfl
      exact ⟨cS, by rw [HQC.out]; simp, rfl⟩)
  subst ho
  obtain rfl : n11 = 1 := hO11.sl.len.symm
  have H311 := Lib.hid (H310.out.below h11)
  have HH11 := Lib.hid (HH10.out.keep h11)
  have HB11 := Lib.hid (HB10.out.trans (h11.mono z10))
  have z11 := HB11.out.size
  clear c1 c2 hO11 hr11 hm11 h11 H310 HH10 HB10
  have c1 := H311.out.l.cells
  have c2 := H311.out.s.cells
  go_wp2_with fail
  refine (hhas_any HH11.out HR.out gS sS gS_ok sS_ok HHB.out).mono ?_
  rintro e w12 ⟨rfl, h12⟩
  have HB12 := Lib.hid (HB11.out.trans (h12.mono z11))
  clear h12
  go_wp2
  go_ret
  exact ⟨rfl, HB12.out⟩
end Go.Proofs.YtlkdefmceghmnaaGreat
