/- Hold's laws: two lists of seats that are one; the boxes of HoldApart. By program. -/
import Derived.Test.YtlkdefmceghmnaaGreatHd10
import Derived.BigGuardPart
namespace Go.Proofs.YtlkdefmceghmnaaGreat
set_option linter.unusedVariables false
open Go Go.RowKit Go.Sort
theorem Sl.hld_ {w : World} {lo hi n k : Nat} {A : Option Addr} {l : List Hld} (h : Sl w lo hi tHld A n l) (hk : k < n) :
    ∃ b o x, A = some ⟨b, o, none⟩ ∧ lo ≤ b ∧ b < hi ∧ Hid (l[k]? = some x) ∧ Hld.ok x ∧ w.cell? ⟨b, o + k * 4, none⟩ = some (.int .i64 x.seat.row) ∧ w.cell? ⟨b, o + k * 4 + 1, none⟩ = some (.int .u8 x.seat.let_) ∧ w.cell? ⟨b, o + k * 4 + 2, none⟩ = some (.string x.hol.loc) ∧ w.cell? ⟨b, o + k * 4 + 3, none⟩ = some (.int .i64 x.hol.pax) := by
  obtain ⟨b, o, x, h1, h2, h3, h4, h5, hc⟩ := h.at_ hk
  exact ⟨b, o, x, h1, h2, h3, h4, h5, by simpa [tHld] using hc 0 _ rfl, hc 1 _ rfl, hc 2 _ rfl, hc 3 _ rfl⟩
instance : DecidableEq Hld := fun a b => decidable_of_iff (a.seat = b.seat ∧ a.hol = b.hol) (by cases a; cases b; simp)
set_option maxHeartbeats 1000000 in
theorem eqi_hld (d : Nat) (a0 b0 a1 b1 : Int) (a2 b2 : ByteArray) (a3 b3 : Int) (u : World) : (Op.equalIn (d + 3) 89 (.agg #[.int .i64 a0, .int .u8 a1, .string a2, .int .i64 a3]) (.agg #[.int .i64 b0, .int .u8 b1, .string b2, .int .i64 b3])).run Tryz.prog u = .ok ((decide (a0 = b0) && decide (a1 = b1)) && (decide (a2 = b2) && decide (a3 = b3))) u := by
  have hS : Tryz.prog.underlying 89 = some (.struct (Tryz.prog.fieldsOf 89)) := by kernel_rfl
  have hp : Tryz.prog.stoodInHeld 89 = false := by kernel_rfl
  rw [run_equalIn_agg u (d + 2) _ _ _ hS hp]
  have e0 := fun u => eqi_sit d a0 b0 a1 b1 u
  have e1 := fun u => eqi_hol d a2 b2 a3 b3 u
  have z0 := Tryz.sizeOf67
  have y0 := Tryz.isAgg67
  have z1 := Tryz.sizeOf69
  have y1 := Tryz.isAgg69
  simp only [Program.fieldsOf, Tryz.underlying89]
  go_simp
  try simp only [toL]
  by_cases h0 : a0 = b0 <;> by_cases h1 : a1 = b1 <;> by_cases h2 : a2 = b2 <;> by_cases h3 : a3 = b3 <;> simp [h0, h1, h2, h3]
theorem neq_hld (x : Hld) (u : World) : (binOp .neq 89 (.agg #[.int .i64 x.seat.row, .int .u8 x.seat.let_, .string x.hol.loc, .int .i64 x.hol.pax]) (.agg #[.int .i64 x.seat.row, .int .u8 x.seat.let_, .string x.hol.loc, .int .i64 x.hol.pax])).run Tryz.prog u = .ok (.bool false) u := by
  rw [run_neq_struct, show (10000 : Nat) = 9997 + 3 from rfl, eqi_hld]
  simp
theorem neq_hlds (x y : Hld) (u : World) : (binOp .neq 89 (.agg #[.int .i64 x.seat.row, .int .u8 x.seat.let_, .string x.hol.loc, .int .i64 x.hol.pax]) (.agg #[.int .i64 y.seat.row, .int .u8 y.seat.let_, .string y.hol.loc, .int .i64 y.hol.pax])).run Tryz.prog u = .ok (.bool (!decide (x = y))) u := by
  rw [run_neq_struct, show (10000 : Nat) = 9997 + 3 from rfl, eqi_hld]
  have h : ((decide (x.seat.row = y.seat.row) && decide (x.seat.let_ = y.seat.let_)) && (decide (x.hol.loc = y.hol.loc) && decide (x.hol.pax = y.hol.pax))) = decide (x = y) := by
    obtain ⟨⟨x0, x1⟩, ⟨x2, x3⟩⟩ := x
    obtain ⟨⟨y0, y1⟩, ⟨y2, y3⟩⟩ := y
    rw [Bool.eq_iff_iff]
    simp
  rw [h]
  rfl
set_option maxRecDepth 100000 in
set_option maxHeartbeats 4000000 in
theorem hsame_any (l : List Hld) (A1 : Option Addr) (n c1 : Nat) (A2 : Option Addr) (c2 : Nat) (w : World) (lo1 hi1 lo2 hi2 : Nat) (h1 : Sl w lo1 hi1 tHld A1 n l) (h2 : Sl w lo2 hi2 tHld A2 n l) (hh1 : hi1 ≤ w.heap.size) (hh2 : hi2 ≤ w.heap.size) (hn : n ≤ 100000) :
    Calls Tryz.prog 39 #[.slice A1 n c1, .slice A2 n c2] w (RetB w true) := by
  have H1 := Lib.hid h1
  have H2 := Lib.hid h2
  clear h1 h2
  go_enter Tryz.func39, Tryz.ntmps39
  go_wp2
  go_loopw [5] (fun i wr => ∃ k : Nat, k ≤ n ∧ i = .int .i64 k ∧ Below w.heap.size w wr) (fun i _ => n - (intOf i).toNat)
  case atStart => exact ⟨0, Nat.zero_le _, rfl, Below.refl _ _⟩
  case round =>
    obtain ⟨k, hk, rfl, hb⟩ := hrel
    by_cases hlt : k < n
    · obtain ⟨b1, o1, x, hA1, _, hb1, hx1, hxok, d0, d1, d2, d3⟩ := (Sl.below H1.out hb hh1).hld_ hlt
      obtain ⟨b2, o2, y, hA2, _, hb2, hx2, hyok, e0, e1, e2, e3⟩ := (Sl.below H2.out hb hh2).hld_ hlt
      obtain rfl : x = y := Option.some.inj (hx1.out.symm.trans hx2.out)
      subst hA1
      subst hA2
      have i0 : (0 : Int) ≤ k := by omega
      have i1 : (k : Int) < n := by omega
      have hz := hb.size
      have hb1w : b1 < wr.heap.size := by omega
      have hb2w : b2 < wr.heap.size := by omega
      have hne := fun u => neq_hld x u
      have HB := Lib.hid hb
      clear hx1 hx2 hxok hyok hb
      go_upto_region 6 with fail
      refine wp_region_below (by kernel_rfl) (by kernel_rfl) ?_
      intro q9
      repeat
        (refine QH.step (fun K9 hK9 => ?_)
         go_simp
         first
         | (refine hK9 _ ?_; clear hK9 K9)
         | (apply Exists.intro
            refine ⟨fun _ => ?_, hK9 _ ?_⟩
            · first | fail
            clear hK9 K9))
      refine QH.nil_ ?_
      clear q9
      rintro ⟨V9, hV9⟩
      dsimp only
      have HB9 := Lib.hid (HB.out.trans (hV9.mono hz))
      go_wp2
      go_roundw
      case rel => exact ⟨k + 1, by omega, by go_num, HB9.out⟩
      case measure => simp [intOf]; omega
    · obtain rfl : n = k := by omega
      have HB := Lib.hid hb
      clear hb
      go_wp2
      go_ret
      exact ⟨rfl, HB.out⟩
/-- The boxes of HoldApart behind its legs: two acts, two legs. -/
structure H4 (W : World) (ka ko gx gy : Nat) (a o : HAct) (x y : Leg) : Prop where
  ba : Bx W ka #[.int .i64 a.kind, .int .i64 a.fl, .string a.leg.key.car, .int .i64 a.leg.key.num, .int .i64 a.leg.day, .int .i64 a.seat.row, .int .u8 a.seat.let_, .string a.hol.loc, .int .i64 a.hol.pax] 71
  bo : Bx W ko #[.int .i64 o.kind, .int .i64 o.fl, .string o.leg.key.car, .int .i64 o.leg.key.num, .int .i64 o.leg.day, .int .i64 o.seat.row, .int .u8 o.seat.let_, .string o.hol.loc, .int .i64 o.hol.pax] 71
  bx : Bx W gx #[.string x.key.car, .int .i64 x.key.num, .int .i64 x.day] 27
  by_ : Bx W gy #[.string y.key.car, .int .i64 y.key.num, .int .i64 y.day] 27
section
variable {W W' : World} {ka ko gx gy : Nat} {a o : HAct} {x y : Leg}
theorem H4.below (h : H4 W ka ko gx gy a o x y) (hb : Below W.heap.size W W') : H4 W' ka ko gx gy a o x y := ⟨h.ba.below hb h.ba.lt, h.bo.below hb h.bo.lt, h.bx.below hb h.bx.lt, h.by_.below hb h.by_.lt⟩
theorem H4.kb {b : Nat} (h : H4 W ka ko gx gy a o x y) (hk : Kb b W W') (h1 : ka ≠ b) (h2 : ko ≠ b) (h3 : gx ≠ b) (h4 : gy ≠ b) : H4 W' ka ko gx gy a o x y := ⟨h.ba.kb hk h1, h.bo.kb hk h2, h.bx.kb hk h3, h.by_.kb hk h4⟩
theorem Sl.kb {α : Type} {T : Ty α} {lo hi n b : Nat} {A : Option Addr} {l : List α} (h : Sl W lo hi T A n l) (hk : Kb b W W') (h1 : b < lo) (h2 : hi ≤ W.heap.size) : Sl W' lo hi T A n l :=
  Sl.keep h fun p hp1 hp2 => World.cell?_of_block (hk.block p.block (by omega) (by omega))
theorem Sl.kbx {α : Type} {T : Ty α} {lo hi n b : Nat} {A : Option Addr} {l : List α} (h : Sl W lo hi T A n l) (hk : Kb b W W') (h1 : hi ≤ b) (h2 : hi ≤ W.heap.size) : Sl W' lo hi T A n l :=
  Sl.keep h fun p hp1 hp2 => World.cell?_of_block (hk.block p.block (by omega) (by omega))
end
theorem on_eq {q : Hpl → Option Hol} {g : Leg} {l m : List Hld} (h1 : RisL ltHd l) (h2 : RisL ltHd m) (hl : ∀ x, x ∈ l ↔ q ⟨g, x.seat⟩ = some x.hol) (hm : ∀ x, x ∈ m ↔ q ⟨g, x.seat⟩ = some x.hol) : m = l :=
  RisL.eq lts_hd h2 h1 fun x => by rw [hl x, hm x]
theorem updH_back (q : Hpl → Option Hol) (c : Hpl) (x : Hol) (h : q c = none) : updH (updH q c (some x)) c none = q := by
  funext d
  by_cases e : d = c
  · subst e
    rw [updH_same, h]
  · rw [updH_other _ _ _ e, updH_other _ _ _ e]
end Go.Proofs.YtlkdefmceghmnaaGreat
