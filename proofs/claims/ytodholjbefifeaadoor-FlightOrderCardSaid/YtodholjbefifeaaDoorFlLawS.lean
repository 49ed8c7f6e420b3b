/- The law's Same: two lists of flights; the classes of the first are written over. -/
import Derived.Test.YtodholjbefifeaaDoorFlAwake2
namespace Go.Proofs.YtodholjbefifeaaDoor
set_option linter.unusedVariables false
open Go Go.RowKit Go.Sort
/-- Blocks beside S lie as they lay. -/
structure Kq (S : Nat → Prop) (W W' : World) : Prop where
  os : W'.os = W.os
  tape : W'.tape = W.tape
  output : W'.output = W.output
  size : W.heap.size ≤ W'.heap.size
  block : ∀ k, k < W.heap.size → ¬ S k → W'.heap[k]? = W.heap[k]?
section
variable {S S' : Nat → Prop} {W W1 W2 a : World} {B : Nat}
theorem Kq.refl (S : Nat → Prop) (W : World) : Kq S W W := ⟨rfl, rfl, rfl, Nat.le_refl _, fun _ _ _ => rfl⟩
theorem Kq.blw (h : Kq S W W1) (h2 : Below W1.heap.size W1 W2) : Kq S W W2 :=
  ⟨h2.os.trans h.os, h2.tape.trans h.tape, h2.output.trans h.output, Nat.le_trans h.size h2.size, fun k hk hn => (h2.block k (Nat.lt_of_lt_of_le hk h.size)).trans (h.block k hk hn)⟩
theorem Kq.mono (h : Kq S W W1) (hS : ∀ b, S b → S' b) : Kq S' W W1 := ⟨h.os, h.tape, h.output, h.size, fun k hk hn => h.block k hk fun e => hn (hS k e)⟩
theorem Kq.below (h : Kq S W W1) (h0 : B ≤ W.heap.size) (hB : ∀ b, S b → B ≤ b) : Below B W W1 :=
  ⟨h.os, h.tape, h.output, h.size, fun k hk => h.block k (by omega) fun e => by have := hB k e; omega⟩
theorem Kq.set (h : Kq S W W1) {p : Addr} (hp : S p.block) (u : Value) : Kq S W (W1.setCell p u) :=
  ⟨h.os, h.tape, h.output, by simpa using h.size, fun k hk hn => (Below.heap_setCell W1 p u k (fun e => hn (by rw [e]; exact hp))).trans (h.block k hk hn)⟩
theorem Kq.drewN (h : Kq S W W1) (n : Nat) : Kq S W (W1.drewN n) := ⟨h.os, h.tape, h.output, h.size, h.block⟩
theorem Kq.cell (h : Kq S W W1) {b o : Nat} (hb : b < W.heap.size) (hn : ¬ S b) : W1.cell? ⟨b, o, none⟩ = W.cell? ⟨b, o, none⟩ := World.cell?_of_block (w := W) (h.block b hb hn)
theorem Kq.frozen (h : Kq S W W1) {b o : Nat} (hb : b < W.heap.size) (hn : ¬ S b) : W1.frozen? ⟨b, o, none⟩ = W.frozen? ⟨b, o, none⟩ := World.frozen?_of_block (w := W) (h.block b hb hn)
end
theorem Sl.keepA {α : Type} {T : Ty α} {w w' : World} {lo hi n : Nat} {A : Option Addr} {l : List α} (h : Sl w lo hi T A n l) (hk : ∀ b o j, 0 < n → A = some ⟨b, o, none⟩ → lo ≤ b → b < hi → w'.cell? ⟨b, j, none⟩ = w.cell? ⟨b, j, none⟩) : Sl w' lo hi T A n l :=
  ⟨h.len, h.wf, fun hn => by
    obtain ⟨b, o, e, h1, h2, h3⟩ := h.cells hn
    exact ⟨b, o, e, h1, h2, fun k x hx j u hu => (hk b o _ hn e h1 h2).trans (h3 k x hx j u hu)⟩⟩
theorem Sl.flt_ {w : World} {lo hi n k : Nat} {A : Option Addr} {rl : List FlR} (h : Sl w lo hi tFl A n rl) (hk : k < n) :
    ∃ b o r, A = some ⟨b, o, none⟩ ∧ lo ≤ b ∧ b < hi ∧ Hid (rl[k]? = some r) ∧ r.ok ∧
      w.cell? ⟨b, o + k * 9, none⟩ = some (.string r.f.car) ∧ w.cell? ⟨b, o + k * 9 + 1, none⟩ = some (.int .i64 r.f.num) ∧ w.cell? ⟨b, o + k * 9 + 2, none⟩ = some (.string r.f.frm) ∧ w.cell? ⟨b, o + k * 9 + 3, none⟩ = some (.string r.f.to_) ∧ w.cell? ⟨b, o + k * 9 + 4, none⟩ = some (.int .u8 r.f.days) ∧ w.cell? ⟨b, o + k * 9 + 5, none⟩ = some (.int .i64 r.f.dep) ∧ w.cell? ⟨b, o + k * 9 + 6, none⟩ = some (.int .i64 r.f.arr) ∧ w.cell? ⟨b, o + k * 9 + 7, none⟩ = some (.slice r.A r.n r.c) ∧ w.cell? ⟨b, o + k * 9 + 8, none⟩ = some (.int .i64 r.f.pln) := by
  obtain ⟨b, o, r, h1, h2, h3, h4, h5, hc⟩ := h.at_ hk
  exact ⟨b, o, r, h1, h2, h3, h4, h5, by simpa [tFl] using hc 0 _ rfl, hc 1 _ rfl, hc 2 _ rfl, hc 3 _ rfl, hc 4 _ rfl, hc 5 _ rfl, hc 6 _ rfl, hc 7 _ rfl, hc 8 _ rfl⟩
/-- The cells of a block are there and can be written. -/
def WrC (W : World) (g m : Nat) : Prop := ∀ j, j < m → (∃ u, W.cell? ⟨g, j, none⟩ = some u) ∧ W.frozen? ⟨g, j, none⟩ = false
theorem WrC.set {W : World} {g m : Nat} (h : WrC W g m) (p : Addr) (u : Value) : WrC (W.setCell p u) g m := fun j hj => by
  obtain ⟨⟨v, hv⟩, hf⟩ := h j hj
  refine ⟨?_, by rw [World.frozen?_setCell]; exact hf⟩
  by_cases e : (⟨g, j, none⟩ : Addr) = p
  · subst e
    exact ⟨u, World.cell?_setCell_same _ _ _ hv⟩
  · exact ⟨v, (World.cell?_setCell_other W p _ u (fun h => e h.symm)).trans hv⟩
theorem WrC.keep {W W' : World} {g m : Nat} (h : WrC W g m) (hk : ∀ j, W'.cell? ⟨g, j, none⟩ = W.cell? ⟨g, j, none⟩) (hf : ∀ j, W'.frozen? ⟨g, j, none⟩ = W.frozen? ⟨g, j, none⟩) : WrC W' g m := fun j hj => by
  rw [hk, hf]; exact h j hj
/-- A flight whose classes can be written; they lie from B on, ahead of X. -/
structure RowW (w : World) (B X : Nat) (r : FlR) : Prop where
  cl : ClAt w B X r
  wr : 0 < r.n → ∃ g, r.A = some ⟨g, 0, none⟩ ∧ B ≤ g ∧ g < X ∧ WrC w g (r.n * 2)
theorem ClOwn.roww {W : World} {B X : Nat} {E : TypeId} {r : FlR} (h : ClOwn W E B r) (hX : W.heap.size ≤ X) : RowW W B X r := by
  refine ⟨h.at_.more (Nat.le_refl _) hX, fun hn => ?_⟩
  have h' : Own W B E tCls (.slice r.A r.n r.c) r.f.cls := h
  cases hA : r.A with
  | none =>
    rw [hA] at h'
    have hl := h'.sl.len
    rcases h'.row.2 with ⟨_, h2⟩ | ⟨_, _, _, h1, _⟩
    · omega
    · cases h1
  | some a =>
    rw [hA] at h'
    obtain ⟨g, cur, rfl, _, hB, hnc, _, hg, hcs, _⟩ := h'.open_
    have hgl := (Array.getElem?_eq_some_iff.1 hg).1
    have hcs' : cur.size = r.c * 2 := hcs
    refine ⟨g, rfl, hB, by omega, fun j hj => ?_⟩
    have hjs : j < cur.size := by omega
    refine ⟨⟨cur[j], ?_⟩, by simp [World.frozen?, hg]⟩
    rw [cell_of_row W g j cur E (0, 0) hg]
    exact Array.getElem?_eq_getElem hjs
theorem RowW.keep {W W' : World} {B X : Nat} {r : FlR} (h : RowW W B X r) (hb : ∀ k, B ≤ k → k < X → W'.heap[k]? = W.heap[k]?) : RowW W' B X r :=
  ⟨Sl.keepA h.cl fun b o j _ _ h1 h2 => World.cell?_of_block (w := W) (hb b h1 h2), fun hn => by
    obtain ⟨g, h1, h2, h3, h4⟩ := h.wr hn
    exact ⟨g, h1, h2, h3, h4.keep (fun j => World.cell?_of_block (w := W) (hb g h2 h3)) (fun j => World.frozen?_of_block (w := W) (hb g h2 h3))⟩⟩
theorem RowW.below {W W' : World} {B X : Nat} {r : FlR} (h : RowW W B X r) (hb : Below W.heap.size W W') (hX : X ≤ W.heap.size) : RowW W' B X r := h.keep fun k _ hk => hb.block k (by omega)
/-- The blocks that are written over in the first k flights. -/
def Tch (al : List FlR) (k : Nat) : Nat → Prop := fun j => ∃ i r, i < k ∧ al[i]? = some r ∧ 0 < r.n ∧ r.blk = some j
theorem Tch.mono {al : List FlR} {k : Nat} : ∀ b, Tch al k b → Tch al (k + 1) b := fun b ⟨i, r, h1, h2⟩ => ⟨i, r, by omega, h2⟩
theorem Tch.zero (al : List FlR) (b : Nat) : ¬ Tch al 0 b := fun ⟨_, _, h, _⟩ => absurd h (by omega)
theorem FlR.blk_eq {r : FlR} {g o : Nat} (h : r.A = some ⟨g, o, none⟩) : r.blk = some g := by unfold FlR.blk; rw [h]; rfl
theorem Tch.in_ {w : World} {al : List FlR} {k B X : Nat} (hrw : ∀ r ∈ al, RowW w B X r) {b : Nat} (h : Tch al k b) : B ≤ b ∧ b < X := by
  obtain ⟨i, r, _, hr, hn, hb⟩ := h
  obtain ⟨g, h1, h2, h3, _⟩ := (hrw r (List.mem_of_getElem? hr)).wr hn
  rw [FlR.blk_eq h1] at hb
  injection hb with hb
  omega
theorem Tch.apt {al : List FlR} (h : Apt al) {k b : Nat} {r : FlR} (hr : al[k]? = some r) (hb : r.blk = some b) : ¬ Tch al k b := by
  rintro ⟨i, s, hi, hs, _, hsb⟩
  obtain ⟨hk, rfl⟩ := List.getElem?_eq_some_iff.1 hr
  obtain ⟨hi', rfl⟩ := List.getElem?_eq_some_iff.1 hs
  exact List.pairwise_iff_getElem.1 h i k hi' hk hi b hsb hb
/-- The first k flights of the two lists are one. -/
def EqTo (al bl : List FlR) (k : Nat) : Prop := ∀ j r s, j < k → al[j]? = some r → bl[j]? = some s → r.f = s.f
theorem EqTo.zero (al bl : List FlR) : EqTo al bl 0 := fun _ _ _ h => absurd h (by omega)
theorem EqTo.succ {al bl : List FlR} {k : Nat} {r s : FlR} {q d : Bool} (h : q = true ↔ EqTo al bl k) (hr : al[k]? = some r) (hs : bl[k]? = some s) (hd : decide (r.f = s.f) = d) : (q && d) = true ↔ EqTo al bl (k + 1) := by
  rw [Bool.and_eq_true, h, ← hd, decide_eq_true_eq]
  refine ⟨fun ⟨h1, h2⟩ j x y hj hx hy => ?_, fun h1 => ⟨fun j x y hj => h1 j x y (by omega), h1 k r s (by omega) hr hs⟩⟩
  rcases Nat.lt_succ_iff_lt_or_eq.1 hj with h3 | rfl
  · exact h1 j x y h3 hx hy
  · rw [hr] at hx; rw [hs] at hy
    injection hx with hx; injection hy with hy
    rw [← hx, ← hy]; exact h2
theorem EqTo.all {al bl : List FlR} {n : Nat} {q : Bool} (h : q = true ↔ EqTo al bl n) (ha : al.length = n) (hb : bl.length = n) : q = decide (al.map (·.f) = bl.map (·.f)) := by
  rw [Bool.eq_iff_iff, h, decide_eq_true_eq]
  refine ⟨fun h1 => List.ext_getElem (by simp [ha, hb]) fun j h2 h3 => ?_, fun h1 j r s hj hr hs => ?_⟩
  · simp only [List.length_map] at h2 h3
    simp only [List.getElem_map]
    exact h1 j _ _ (by omega) (List.getElem?_eq_getElem h2) (List.getElem?_eq_getElem h3)
  · have h2 := congrArg (fun l : List Flt => l[j]?) h1
    simp only [List.getElem?_map, hr, hs, Option.map_some, Option.some.injEq] at h2
    exact h2
def RetS (w : World) (B : Nat) (q : Bool) (e : Ending) (w' : World) : Prop := e = .returned (.bool q) ∧ Below B w w'
theorem RetS.mk' {w : World} {B : Nat} {q q' : Bool} {w' : World} (h : q = q') (hb : Below B w w') : RetS w B q' (.returned (.bool q)) w' := by subst h; exact ⟨rfl, hb⟩
theorem rsame_is {r s : FlR} {q : Bool} {W : World} {lo hi lo' hi' : Nat} (h : decide (r.f = s.f) = q) (hr : r.ok) (hs : s.ok) (hc : ClAt W lo hi r) (hc' : ClAt W lo' hi' s) (hn : r.n ≤ 100000) (hn' : s.n ≤ 100000) (hhi : hi ≤ W.heap.size) (hhi' : hi' ≤ W.heap.size) :
    Calls Tryd.prog 45 #[.agg #[.string r.f.car, .int .i64 r.f.num, .string r.f.frm, .string r.f.to_, .int .u8 r.f.days, .int .i64 r.f.dep, .int .i64 r.f.arr, .slice r.A r.n r.c, .int .i64 r.f.pln], .agg #[.string s.f.car, .int .i64 s.f.num, .string s.f.frm, .string s.f.to_, .int .u8 s.f.days, .int .i64 s.f.dep, .int .i64 s.f.arr, .slice s.A s.n s.c, .int .i64 s.f.pln]] W (RetB W q) := by
  subst h
  exact rsame_fl r s W lo hi lo' hi' hr hs hc hc' hn hn' hhi hhi'
/-- .. nothing but the classes of its first list. -/
def RetK (w : World) (al : List FlR) (q : Bool) (e : Ending) (w' : World) : Prop := e = .returned (.bool q) ∧ Kq (Tch al al.length) w w'
theorem RetK.mk' {w : World} {al : List FlR} {q q' : Bool} {w' : World} (h : q = q') (hb : Kq (Tch al al.length) w w') : RetK w al q' (.returned (.bool q)) w' := by subst h; exact ⟨rfl, hb⟩
set_option maxRecDepth 100000 in
set_option maxHeartbeats 8000000 in
theorem same_kq (al bl : List FlR) (A A' : Option Addr) (n c n' c' : Nat) (w : World) (B X lo hi lo1 hi1 lo2 hi2 : Nat)
    (ha : Sl w lo hi tFl A n al) (hb : Sl w lo1 hi1 tFl A' n' bl) (hbc : ∀ s ∈ bl, ClAt w lo2 hi2 s) (hd1 : hi1 ≤ B ∨ X ≤ lo1) (hd2 : hi2 ≤ B ∨ X ≤ lo2) (hrw : ∀ r ∈ al, RowW w B X r) (hoff : ∀ r ∈ al, ∀ a, A = some a → r.blk ≠ some a.block) (hapt : Apt al)
    (hn : n ≤ 100000) (hn' : n' ≤ 100000) (hsm : ∀ r ∈ al, r.n ≤ 100000) (hsm' : ∀ r ∈ bl, r.n ≤ 100000) (hhi : hi ≤ w.heap.size) (hhi1 : hi1 ≤ w.heap.size) (hhi2 : hi2 ≤ w.heap.size) (hX : X ≤ w.heap.size) (hB : B ≤ w.heap.size) :
    Calls Tryd.prog 18 #[.slice A n c, .slice A' n' c'] w (RetK w al (decide (al.map (·.f) = bl.map (·.f)))) := by
  have HA := Lib.hid ha
  have HB := Lib.hid hb
  have HR := Lib.hid hrw
  have HO := Lib.hid hoff
  have HP := Lib.hid hapt
  have HM := Lib.hid hsm
  have HM' := Lib.hid hsm'
  have HL := Lib.hid ha.len
  have HL' := Lib.hid hb.len
  have HBC := Lib.hid hbc
  clear ha hb hbc hrw hoff hapt hsm hsm'
  go_enter Tryd.func18, Tryd.ntmps18
  by_cases hnn : n = n'
  case neg =>
    have t0 : decide ((n : Int) = n') = false := by simp; omega
    go_wp2
    go_ret
    refine RetK.mk' ?_ (Kq.refl _ _)
    rw [eq_comm, decide_eq_false_iff_not]
    intro h1
    have h2 := congrArg List.length h1
    simp only [List.length_map, HL.out, HL'.out] at h2
    exact hnn h2
  case pos =>
    subst hnn
    go_wp2
    go_loopw [5, 6] (fun v i wr => ∃ (k : Nat) (q : Bool), k ≤ n ∧ i = .int .i64 k ∧ v = .bool q ∧ Kq (Tch al k) w wr ∧ Hid (q = true ↔ EqTo al bl k)) (fun _ i _ => n - (intOf i).toNat)
    case atStart => exact ⟨0, true, by omega, rfl, rfl, Kq.refl _ _, ⟨fun _ => EqTo.zero _ _, fun _ => rfl⟩⟩
    case round =>
      obtain ⟨k, q, hk, rfl, rfl, hK, HQ⟩ := hrel
      by_cases hlt : k < n
      · obtain ⟨b0, o0, r, hA, _, hb0, hx, hok, d0, d1, d2, d3, d4, d5, d6, d7, d8⟩ := HA.out.flt_ hlt
        obtain ⟨b1, o1, s, hA1, hX1, hb1, hy, hok1, e0, e1, e2, e3, e4, e5, e6, e7, e8⟩ := HB.out.flt_ hlt
        have hro := HR.out r (List.mem_of_getElem? hx.out)
        have N0 : ¬ Tch al k b0 := fun ⟨i, x, _, hxx, _, hbb⟩ => HO.out x (List.mem_of_getElem? hxx) _ hA hbb
        have N1 : ¬ Tch al k b1 := fun h => by have := Tch.in_ HR.out h; omega
        have N0' : ¬ Tch al (k + 1) b0 := fun ⟨i, x, _, hxx, _, hbb⟩ => HO.out x (List.mem_of_getElem? hxx) _ hA hbb
        have z0 : b0 < w.heap.size := by omega
        have z1 : b1 < w.heap.size := by omega
        have hrn : r.n ≤ 100000 := HM.out r (List.mem_of_getElem? hx.out)
        have hsn : s.n ≤ 100000 := HM'.out s (List.mem_of_getElem? hy.out)
        have HC := Lib.hid (show ClAt wr B X r from Sl.keepA hro.cl fun b o j _ hbA _ _ => hK.cell (by omega) (Tch.apt HP.out hx.out (FlR.blk_eq hbA)))
        have HC' := Lib.hid (show ClAt wr lo2 hi2 s from Sl.keepA (HBC.out s (List.mem_of_getElem? hy.out)) fun b o j _ _ hbX _ => hK.cell (by omega) (fun h => by have := Tch.in_ HR.out h; omega))
        have HW := Lib.hid (show 0 < r.n → ∃ g, r.A = some ⟨g, 0, none⟩ ∧ B ≤ g ∧ g < X ∧ WrC wr g (r.n * 2) from fun hpos => by
          obtain ⟨g, h1, h2, h3, h4⟩ := hro.wr hpos
          have hng := Tch.apt HP.out hx.out (FlR.blk_eq h1)
          exact ⟨g, h1, h2, h3, h4.keep (fun j => hK.cell (by omega) hng) (fun j => hK.frozen (by omega) hng)⟩)
        have HD7 := Lib.hid d7
        replace d0 := (hK.cell z0 N0).trans d0
        replace d1 := (hK.cell z0 N0).trans d1
        replace d2 := (hK.cell z0 N0).trans d2
        replace d3 := (hK.cell z0 N0).trans d3
        replace d4 := (hK.cell z0 N0).trans d4
        replace d5 := (hK.cell z0 N0).trans d5
        replace d6 := (hK.cell z0 N0).trans d6
        replace d7 := (hK.cell z0 N0).trans d7
        replace d8 := (hK.cell z0 N0).trans d8
        replace e0 := (hK.cell z1 N1).trans e0
        replace e1 := (hK.cell z1 N1).trans e1
        replace e2 := (hK.cell z1 N1).trans e2
        replace e3 := (hK.cell z1 N1).trans e3
        replace e4 := (hK.cell z1 N1).trans e4
        replace e5 := (hK.cell z1 N1).trans e5
        replace e6 := (hK.cell z1 N1).trans e6
        replace e7 := (hK.cell z1 N1).trans e7
        replace e8 := (hK.cell z1 N1).trans e8
        have hsz := hK.size
        subst hA hA1
        generalize hd : decide (r.f = s.f) = d
        have HN := Lib.hid (EqTo.succ HQ.out hx.out hy.out hd)
        have HS := Lib.hid (fun t : Blw wr => rsame_is (r := r) (s := s) hd hok hok1 (HC.out.below t.b (Nat.le_trans hX hsz)) (HC'.out.below t.b (Nat.le_trans hhi2 hsz)) hrn hsn (Nat.le_trans (Nat.le_trans hX hsz) t.b.size) (Nat.le_trans (Nat.le_trans hhi2 hsz) t.b.size))
        clear hd HQ hro
        have y0 : b0 < wr.heap.size := by omega
        have y1 : b1 < wr.heap.size := by omega
        have i0 : (0 : Int) ≤ k := by omega
        have i1 : (k : Int) < n := by omega
        have t1 : decide ((k : Int) < n) = true := by simp; omega
        go_upto_region 7 with fail
        go_cut [5] (fun t w' => t = .bool (q && d) ∧ Below wr.heap.size wr w')
        case first =>
          rcases q with _ | _
          · skip
            refine wp_region_below (by kernel_rfl) (by kernel_rfl) ?_
            intro q9
            repeat
              (refine QH.step (fun K9 hK9 => ?_)
               go_simp
               first
               | (refine hK9 _ ?_; clear hK9 K9)
               | (apply Exists.intro
                  refine ⟨fun _ => ?_, hK9 _ ?_⟩
                  · first | (exact Calls.blw _ (HS.out _))
                  clear hK9 K9))
            refine QH.nil_ ?_
            clear q9
            rintro ⟨V9, hV9⟩
            dsimp only
            go_wp2
            go_meet
            exact ⟨rfl, hV9⟩
          · skip
            refine wp_region_below (by kernel_rfl) (by kernel_rfl) ?_
            intro q9
            repeat
              (refine QH.step (fun K9 hK9 => ?_)
               go_simp
               first
               | (refine hK9 _ ?_; clear hK9 K9)
               | (apply Exists.intro
                  refine ⟨fun _ => ?_, hK9 _ ?_⟩
                  · first | (exact Calls.blw _ (HS.out _))
                  clear hK9 K9))
            refine QH.nil_ ?_
            clear q9
            rintro ⟨V9, hV9⟩
            dsimp only
            go_wp2
            go_meet
            exact ⟨rfl, hV9⟩
        case rest =>
          obtain ⟨rfl, hw9⟩ := hcut
          have hK9 := hK.blw hw9
          have HW9 := Lib.hid (show 0 < r.n → ∃ g, r.A = some ⟨g, 0, none⟩ ∧ B ≤ g ∧ g < X ∧ WrC wc g (r.n * 2) from fun hpos => by
            obtain ⟨g, h1, h2, h3, h4⟩ := HW.out hpos
            exact ⟨g, h1, h2, h3, h4.keep (fun j => hw9.cell (p := ⟨g, j, none⟩) (by show g < _; omega)) (fun j => hw9.frozen (p := ⟨g, j, none⟩) (by show g < _; omega))⟩)
          clear HW hw9 hK d0 d1 d2 d3 d4 d5 d6 d7 d8 e0 e1 e2 e3 e4 e5 e6 e7 e8
          go_wp2
          go_loopw [7] (fun i wr => ∃ m : Nat, m ≤ r.n ∧ i = .int .i64 m ∧ Kq (Tch al (k + 1)) w wr ∧ Hid (0 < r.n → ∃ g, r.A = some ⟨g, 0, none⟩ ∧ B ≤ g ∧ g < X ∧ WrC wr g (r.n * 2))) (fun i _ => r.n - (intOf i).toNat)
          case atStart => exact ⟨0, Nat.zero_le _, rfl, hK9.mono Tch.mono, HW9⟩
          case round =>
            clear HW9 hK9
            obtain ⟨m, hm, rfl, hK, HW⟩ := hrel
            have d7 := (hK.cell z0 N0').trans HD7.out
            have hsz := hK.size
            by_cases hml : m < r.n
            · obtain ⟨g, hg, hg1, hg2, hWC⟩ := HW.out (by omega)
              rw [hg] at d7
              obtain ⟨⟨u, c0⟩, f0⟩ := hWC (m * 2 + 1) (by omega)
              have HWC := Lib.hid hWC
              have HG := Lib.hid hg
              have HT := Lib.hid (show Tch al (k + 1) g from ⟨k, r, by omega, hx.out, by omega, FlR.blk_eq hg⟩)
              clear HW hWC hg
              have m0 : (0 : Int) ≤ m := by omega
              have m1 : (m : Int) < r.n := by omega
              have t2 : decide ((m : Int) < r.n) = true := by simp; omega
              have hgw : g < wr.heap.size := by omega
              go_wp2
              go_roundw
              case rel => exact ⟨m + 1, by omega, by go_num, hK.set (p := ⟨g, m * 2 + 1, none⟩) HT.out _, fun _ => ⟨g, HG.out, hg1, hg2, HWC.out.set ⟨g, m * 2 + 1, none⟩ _⟩⟩
              case measure => simp [intOf]; omega
            · obtain rfl : m = r.n := by omega
              have t2 : decide ((r.n : Int) < r.n) = false := by simp
              go_wp2
              go_roundw
              case rel => exact ⟨k + 1, (q && d), by omega, by go_num, rfl, hK, HN.out⟩
              case measure => simp [intOf]; omega
      · obtain rfl : n = k := by omega
        have t1 : decide ((n : Int) < n) = false := by simp
        go_wp2
        go_ret
        exact RetK.mk' (EqTo.all HQ.out HL.out HL'.out) (by rw [HL.out]; exact hK)
theorem same_law (al bl : List FlR) (A A' : Option Addr) (n c n' c' : Nat) (w : World) (B X lo hi lo1 hi1 lo2 hi2 : Nat)
    (ha : Sl w lo hi tFl A n al) (hb : Sl w lo1 hi1 tFl A' n' bl) (hbc : ∀ s ∈ bl, ClAt w lo2 hi2 s) (hd1 : hi1 ≤ B ∨ X ≤ lo1) (hd2 : hi2 ≤ B ∨ X ≤ lo2) (hrw : ∀ r ∈ al, RowW w B X r) (hoff : ∀ r ∈ al, ∀ a, A = some a → r.blk ≠ some a.block) (hapt : Apt al)
    (hn : n ≤ 100000) (hn' : n' ≤ 100000) (hsm : ∀ r ∈ al, r.n ≤ 100000) (hsm' : ∀ r ∈ bl, r.n ≤ 100000) (hhi : hi ≤ w.heap.size) (hhi1 : hi1 ≤ w.heap.size) (hhi2 : hi2 ≤ w.heap.size) (hX : X ≤ w.heap.size) (hB : B ≤ w.heap.size) :
    Calls Tryd.prog 18 #[.slice A n c, .slice A' n' c'] w (RetS w B (decide (al.map (·.f) = bl.map (·.f)))) :=
  (same_kq al bl A A' n c n' c' w B X lo hi lo1 hi1 lo2 hi2 ha hb hbc hd1 hd2 hrw hoff hapt hn hn' hsm hsm' hhi hhi1 hhi2 hX hB).mono fun _ _ ⟨h1, h2⟩ => ⟨h1, h2.below hB fun _ hb => (Tch.in_ hrw hb).1⟩
/-- .. of flights that calls handed back: the first list from block B on, ahead of the second; the second one's classes lie ahead of B. -/
theorem same_own {al bl : List FlR} {A A' : Option Addr} {n c n' c' : Nat} {V w : World} {EF EC : TypeId} {B : Nat} (ho : OwnF V EF EC B (.slice A n c) al) (hb : Below V.heap.size V w) (hbl : Own w V.heap.size EF tFl (.slice A' n' c') bl)
    (hbc : ∀ s ∈ bl, ClAt w 0 B s) (hV : B ≤ V.heap.size) (hn : n ≤ 100000) (hn' : n' ≤ 100000) (hsm : ∀ r ∈ al, r.n ≤ 100000) (hsm' : ∀ r ∈ bl, r.n ≤ 100000) (heq : al.map (·.f) = bl.map (·.f)) :
    Calls Tryd.prog 18 #[.slice A n c, .slice A' n' c'] w (RetS w B true) := by
  have h := same_law al bl A A' n c n' c' w B V.heap.size B V.heap.size V.heap.size w.heap.size 0 B (ho.own.sl.below hb (Nat.le_refl _)) hbl.sl hbc (.inr (Nat.le_refl _)) (.inl (Nat.le_refl _))
    (fun r hr => (ClOwn.roww (ho.cl r hr) (Nat.le_refl _)).below hb (Nat.le_refl _)) (fun r hr a hA => by subst hA; exact ho.off r hr a.block rfl) ho.apt hn hn' hsm hsm' hb.size (Nat.le_refl _) (Nat.le_trans hV hb.size) hb.size (Nat.le_trans hV hb.size)
  rw [decide_eq_true heq] at h
  exact h
end Go.Proofs.YtodholjbefifeaaDoor
