/- Package due: Set at whatever moment; the statements' own check that it is awake. -/
import Derived.Test.YtfbalabmidobeaaDue8
import Derived.Test.YtfbalabmidobeaaSTexts
namespace Go.Proofs.Ytfbalabmidobeaa
set_option linter.unusedVariables false
open Go Go.RowKit Go.Sort Go.Shelf
/-- What Set makes of what is due. -/
def stF (L : List It) (s : ByteArray) (m : Int) : List It := if isMom m then setF L s m else L
theorem set_any {W : World} {S : Nat → Prop} {D : Nat} {L : List It} (h : DW W S D L) (hS : ∀ b, S b → b < W.heap.size) (hn : L.length ≤ 99999) (s : ByteArray) (hs : okStr s) (m : Int) {c : Int} (hc : (if isMom m then 0 else 1) = c) :
    Calls Try.prog 10 #[.pointer (some ⟨D, 0, none⟩), .string s, .int .i64 m] W fun e w' => e = .returned (.int .i64 c) ∧ DW w' (More S W w') D (stF L s m) ∧ Kp S W w' := by
  subst hc
  unfold stF
  cases hm : isMom m with
  | true => exact set_ok h hS hn s hs m hm
  | false => exact (set_bad D s m hm).mono fun e w' ⟨h1, h2⟩ => by subst h2; exact ⟨h1, h.mono fun b hb => .inl hb, Kp.refl _ _⟩
theorem stF_len (L : List It) (s : ByteArray) (m : Int) : (stF L s m).length ≤ L.length + 1 := by
  unfold stF
  split
  · unfold setF
    rw [length_insF]
    exact Nat.succ_le_succ (List.length_filter_le _ _)
  · omega
theorem More.lt {S : Nat → Prop} {W W1 : World} (hS : ∀ b, S b → b < W.heap.size) (hz : W.heap.size ≤ W1.heap.size) : ∀ b, More S W W1 b → b < W1.heap.size := fun b h => by
  rcases h with h | h
  · exact Nat.lt_of_lt_of_le (hS b h) hz
  · exact h.2
/-- All of the call's own blocks. -/
def SB (B : Nat) (W : World) : Nat → Prop := fun b => B ≤ b ∧ b < W.heap.size
theorem SB.lt {B : Nat} {W : World} : ∀ b, SB B W b → b < W.heap.size := fun _ h => h.2
theorem More.sb {B : Nat} {W W1 : World} (hB : B ≤ W.heap.size) (hz : W.heap.size ≤ W1.heap.size) : ∀ b, More (SB B W) W W1 b → SB B W1 b := fun b h => by
  rcases h with h | h
  · exact ⟨h.1, Nat.lt_of_lt_of_le h.2 hz⟩
  · exact ⟨Nat.le_trans hB h.1, h.2⟩
theorem DW.sb {B : Nat} {W W1 : World} {D : Nat} {L : List It} (h : DW W1 (SB B W) D L) (hz : W.heap.size ≤ W1.heap.size) : DW W1 (SB B W1) D L := h.mono fun b hb => ⟨hb.1, Nat.lt_of_lt_of_le hb.2 hz⟩
/-- The due that a call has made: all blocks are the call's own. -/
structure DB (w : World) (D : Nat) (L : List It) (W : World) : Prop where
  d : DW W (SB w.heap.size W) D L
  b : Below w.heap.size w W
theorem DB.step {w W W1 : World} {D : Nat} {L : List It} (h : DB w D L W) (hb : Below W.heap.size W W1) : DB w D L W1 := ⟨(h.d.step hb).sb hb.size, h.b.trans (hb.mono h.b.size)⟩
theorem DB.kp {w W W1 : World} {D : Nat} {L L1 : List It} (h : DB w D L W) (hd : DW W1 (SB w.heap.size W) D L1) (hk : Kp (SB w.heap.size W) W W1) : DB w D L1 W1 := ⟨hd.sb hk.size, hk.below h.b (Nat.le_refl _) fun b _ e => e.1⟩
theorem set_db {w W : World} {D : Nat} {L : List It} (h : DB w D L W) (hn : L.length ≤ 99999) (s : ByteArray) (hs : okStr s) (m : Int) {c : Int} (hc : (if isMom m then 0 else 1) = c) {L1 : List It} (hl : stF L s m = L1) :
    Calls Try.prog 10 #[.pointer (some ⟨D, 0, none⟩), .string s, .int .i64 m] W fun e w' => e = .returned (.int .i64 c) ∧ DB w D L1 w' := by
  subst hl
  exact (set_any h.d SB.lt hn s hs m hc).mono fun e w' ⟨h1, h2, h3⟩ => ⟨h1, ⟨h2.mono (More.sb h.b.size h3.size), h3.below h.b (Nat.le_refl _) fun b _ e => e.1⟩⟩
theorem drop_db {w W : World} {D : Nat} {L : List It} (h : DB w D L W) (hn : L.length ≤ 100000) (s : ByteArray) (hs : okStr s) :
    Calls Try.prog 9 #[.pointer (some ⟨D, 0, none⟩), .string s] W fun e w' => e = .returned (.bool (hasF L s)) ∧ DB w D (dropF L s) w' :=
  (drop_any h.d hn s hs).mono fun e w' ⟨h1, h2, h3⟩ => ⟨h1, h.kp h2 h3⟩
theorem new_db {w W : World} (hb : Below w.heap.size w W) : Calls Try.prog 8 #[] W fun e w' => ∃ D, e = .returned (.pointer (some ⟨D, 0, none⟩)) ∧ DB w D [] w' :=
  (new_any W).mono fun e w' ⟨D, h1, h2, h3⟩ => ⟨D, h1, ⟨h2.mono fun b hb' => ⟨Nat.le_trans hb.size hb'.1, hb'.2⟩, hb.trans (h3.mono hb.size)⟩⟩
theorem neq_ptr (w : World) (a : Addr) : (binOp .eql 24 (.pointer (some a)) (.pointer none)).run Try.prog w = .ok (.bool false) w := by kernel_rfl
def sA : ByteArray := ⟨#[65]⟩
def sB : ByteArray := ⟨#[66]⟩
theorem lt_BA : ltS sB sA = false := by unfold ltS; rw [ByteArray.toList_eq, ByteArray.toList_eq]; rfl
theorem aw1 : stF [] sA 5 = [⟨sA, 5⟩] := rfl
theorem aw2 : stF [⟨sA, 5⟩] sB 3 = [⟨sB, 3⟩, ⟨sA, 5⟩] := rfl
theorem aw3 : stF [⟨sB, 3⟩, ⟨sA, 5⟩] sA 4 = [⟨sB, 3⟩, ⟨sA, 4⟩] := rfl
theorem ok_A : okStr sA := by unfold okStr sA; decide
theorem ok_B : okStr sB := by unfold okStr sB; decide
set_option maxRecDepth 100000 in
theorem awake16_any (w : World) : Calls Try.prog 7 #[] w (RetB w true) := by
  go_enter Try.func7, Try.ntmps7
  go_wp2_with fail
  refine (new_db (Below.refl _ _)).mono ?_
  rintro e w1 ⟨D, rfl, h1⟩
  have H1 := Lib.hid h1
  clear h1
  have hq := fun w => neq_ptr w ⟨D, 0, none⟩
  go_wp2_with fail
  refine (set_db (c := 0) H1.out (by simp) sA ok_A 5 rfl aw1).mono ?_
  rintro e w2 ⟨rfl, h2⟩
  have H2 := Lib.hid h2
  clear h2
  go_wp2_with fail
  refine (set_db (c := 0) H2.out (by simp) sB ok_B 3 rfl aw2).mono ?_
  rintro e w3 ⟨rfl, h3⟩
  have H3 := Lib.hid h3
  clear h3
  go_wp2_with fail
  refine (set_db (c := 0) H3.out (by simp) sA ok_A 4 rfl aw3).mono ?_
  rintro e w4 ⟨rfl, h4⟩
  have H4 := Lib.hid h4
  clear h4
  go_wp2_with fail
  refine (len_any H4.out.d (by simp)).mono ?_
  rintro e w5 ⟨rfl, rfl⟩
  go_wp2_with fail
  refine (next_any H4.out.d (by simp)).mono ?_
  rintro e w5 ⟨rfl, rfl⟩
  go_wp2_with fail
  refine (take_any H4.out.d SB.lt (by simp) (fun x hx => by simp at hx; rcases hx with rfl | rfl; exact ok_B; exact ok_A) 4).mono ?_
  rintro e w5 ⟨v, rfl, ho, hd, hk⟩
  have ho' : Own w5 w4.heap.size 9 tStr v [sB, sA] := ho
  have H5 := Lib.hid (H4.out.kp hd hk)
  obtain ⟨A, c, hv⟩ := ho'.form
  subst hv
  obtain ⟨b, o, x, rfl, _, _, hx, _, c0⟩ := (ho'.sl (A := A) (n := 2) (c := c)).str_ (k := 0) (by omega)
  obtain ⟨b', o', y, hA, _, _, hy, _, c1⟩ := (ho'.sl (A := some ⟨b, o, none⟩) (n := 2) (c := c)).str_ (k := 1) (by omega)
  injection hA with hA
  injection hA with h1 h2
  subst h1 h2
  rw [Nat.add_zero] at c0
  have hx1 : x = sB := (Option.some.inj hx.out).symm
  have hy1 : y = sA := (Option.some.inj hy.out).symm
  subst hx1 hy1
  have e1 : sB.toList = [66] := by rw [ByteArray.toList_eq]; rfl
  have e2 : sA.toList = [65] := by rw [ByteArray.toList_eq]; rfl
  clear ho ho' hd hk hx hy
  go_wp2_with fail
  refine (len_any H5.out.d (by show (restF [⟨sB, 3⟩, ⟨sA, 4⟩] 4).length ≤ _; decide)).mono ?_
  rintro e w6 ⟨rfl, rfl⟩
  go_wp2
  go_ret
  exact ⟨rfl, H5.out.b⟩
end Go.Proofs.Ytfbalabmidobeaa
