/- Package due: the row's method Pop; heap.Push and heap.Remove over it. -/
import Derived.Test.YtfbalabmidobeaaDue3
namespace Go.Proofs.Ytfbalabmidobeaa
set_option linter.unusedVariables false
open Go Go.RowKit Go.Sort
/-- What heap.Push turns. -/
def PuH (D b : Nat) (rv : Value) (n : Nat) (f : Nat → Nd) : Nat → Prop := fun k => PuS D b rv k ∨ ∃ i, i < n ∧ (f i).blk = k
set_option maxRecDepth 100000 in
theorem heap_push {W : World} {D n b : Nat} {m rv : Value} {f : Nat → Nd} {x : It} {a0 : Int} (h : HO W D m rv n f) (hb : Bx W b #[.string x.name, .int .i64 x.mom, .int .i64 a0] 61)
    (hbD : b ≠ D) (hbR : rv.ownBlock ≠ some b) (hbf : ∀ i, i < n → (f i).blk ≠ b) (hn : n ≤ 100000) (hh : HeapOn ltN f n) :
    Calls Try.prog 24 #[.iface 59 (.pointer (some ⟨D, 0, none⟩)), .iface 56 (.pointer (some ⟨b, 0, none⟩))] W fun e w' => e = .returned (.tuple #[]) ∧
      ∃ R c f', HR w' D m R c (n + 1) f' ∧ SameTo (n + 1) (addF n f ⟨b, x⟩) f' ∧ HeapOn ltN f' (n + 1) ∧ (rv.ownBlock = some R ∨ W.heap.size ≤ R) ∧ Kp (PuH D b rv n f) W w' := by
  have HH := Lib.hid h
  have HB := Lib.hid hb
  have HU := Lib.hid ((HeapOn.up (f := addF n f ⟨b, x⟩) (n := n) (lt := ltN) (fun k k0 kn => by rw [addF_o f _ kn, addF_o f _ (show (k - 1) / 2 < n by omega)]; exact hh k k0 kn)) lts_nd)
  have hm1 := meth_push ⟨D, 0, none⟩ W
  clear h hb hh
  go_enter Try.func24, Try.ntmps24
  go_wp2_with fail
  refine (row_push HH.out HB.out hbD hbR hbf hn).mono ?_
  rintro e w1 ⟨rfl, R, c, h1, hor, k1⟩
  replace hor := Lib.hid hor
  have H1 := Lib.hid h1
  have K1 := Lib.hid k1
  have hm2 := meth_len h1.d
  have hz : W.heap.size ≤ w1.heap.size := k1.size
  clear h1 k1 hm1
  go_wp2_with fail
  refine (row_len _ _ _ _).mono ?_
  rintro e w2 ⟨rfl, rfl⟩
  go_wp2_with fail
  refine (up_any H1.out (Nat.lt_succ_self n) (Nat.le_refl _) (by omega) HU.out).mono ?_
  rintro e w3 ⟨rfl, f', h3, hs, hh, k3⟩
  have H3 := Lib.hid h3
  have HS3 := Lib.hid hs.1
  have HH3 := Lib.hid hh
  have K3 := Lib.hid ((K1.out.mono fun k e => .inl e).trans (S := PuH D b rv n f) (S' := HS R (n + 1) (addF n f ⟨b, x⟩)) (k3) (fun k hk e => by
    rcases e with e | ⟨i, hi, e⟩
    · rcases hor.out with e2 | e2
      · exact .inl (.inr (.inr (by rw [e2, e])))
      · omega
    · by_cases e2 : i = n
      · subst e2
        rw [addF_n] at e
        exact .inl (.inr (.inl e.symm))
      · rw [addF_o f _ (by omega)] at e
        exact .inr ⟨i, by omega, e⟩))
  clear h3 hs hh k3 hm2
  go_wp2
  go_end0
  exact ⟨rfl, R, c, f', H3.out, HS3.out, HH3.out, hor.out, K3.out⟩
set_option maxRecDepth 100000 in
theorem row_pop {W : World} {D R c n : Nat} {m : Value} {f : Nat → Nd} (h : HR W D m R c (n + 1) f) (hn : n ≤ 100000) :
    Calls Try.prog 72 #[.pointer (some ⟨D, 0, none⟩)] W fun e w' => e = .returned (.iface 56 (.pointer (some ⟨(f n).blk, 0, none⟩))) ∧ HR w' D m R c n f ∧ Kp (fun k => k = D) W w' := by
  have HH := Lib.hid h
  have c1 := h.d.cells
  have f1 := h.d.free
  have c2 := h.cell (Nat.lt_succ_self n)
  have hdr := h.dr
  have hnc : (n : Int) + 1 ≤ c := by have := h.nc; omega
  have hcm : (c : Int) ≤ 9223372036854775807 := by have := h.cm; unfold maxLen at this; omega
  have hn0 : (0 : Int) ≤ n := by omega
  have hn1 : (n : Int) ≤ 100000 := by omega
  clear h
  go_enter Try.func72, Try.ntmps72
  go_wp2
  go_ret
  obtain ⟨cs, hx, h1, h2⟩ := HH.out.r
  exact ⟨rfl, ⟨HH.out.d.put 0 _, ⟨cs, hx.other (p := ⟨D, 0, none⟩) (Ne.symm hdr) _, h1, fun i hi => h2 i (by omega)⟩, fun i hi => (HH.out.it i (by omega)).other (p := ⟨D, 0, none⟩) (HH.out.ne i (by omega)).1 _, fun i j hi hj => HH.out.inj i j (by omega) (by omega), hdr, fun i hi => HH.out.ne i (by omega), by omega, HH.out.cm⟩, (Kp.refl (fun k => k = D) W).set (p := ⟨D, 0, none⟩) rfl _⟩
/-- All but one. -/
def Minus (n i : Nat) (f g : Nat → Nd) : Prop := (∀ k, k < n → ∃ j, j < n + 1 ∧ j ≠ i ∧ f j = g k) ∧ (∀ j, j < n + 1 → j ≠ i → ∃ k, k < n ∧ g k = f j)
theorem Minus.last {n : Nat} (f : Nat → Nd) : Minus n n f f := ⟨fun k hk => ⟨k, by omega, by omega, rfl⟩, fun j hj hne => ⟨j, by omega, rfl⟩⟩
theorem Minus.swap {n i : Nat} (f : Nat → Nd) (hi : i < n) : Minus n i f (swapF f i n) :=
  ⟨fun k hk => by
    by_cases e : k = i
    · exact ⟨n, by omega, by omega, by rw [e, swapF_i]⟩
    · exact ⟨k, by omega, e, (swapF_o f i n e (by omega)).symm⟩,
   fun j hj hne => by
    by_cases e : j = n
    · exact ⟨i, hi, by rw [e, swapF_i]⟩
    · exact ⟨j, by omega, swapF_o f i n hne e⟩⟩
theorem Minus.same {n i : Nat} {f g h : Nat → Nd} (a : Minus n i f g) (b : SameTo n g h) : Minus n i f h :=
  ⟨fun k hk => by
    obtain ⟨j, hj, e⟩ := b.2 k hk
    obtain ⟨l, h1, h2, h3⟩ := a.1 j hj
    exact ⟨l, h1, h2, h3.trans e⟩,
   fun j hj hne => by
    obtain ⟨k, hk, e⟩ := a.2 j hj hne
    obtain ⟨l, hl, e2⟩ := b.1 k hk
    exact ⟨l, hl, e2.trans e⟩⟩
/-- The things' names stand. -/
def Names (W : World) (n : Nat) (f : Nat → Nd) : Prop := ∀ j, j < n → W.cell? ⟨(f j).blk, 0, none⟩ = some (.string (f j).it.name)
theorem names_kept {W W1 : World} {D R c n : Nat} {m : Value} {f f' : Nat → Nd} (h : HR W D m R c n f') (s : SameTo n f f') (k : Kp (fun k => k = D) W W1) : Names W1 n f := fun j hj => by
  obtain ⟨i, hi, e⟩ := s.1 j hj
  rw [← e]
  exact (k.bx (h.it i hi) (h.ne i hi).1).cells 0
/-- What heap.Remove turns. -/
def ReS (D R n : Nat) (f : Nat → Nd) : Nat → Prop := fun k => k = D ∨ HS R n f k
def ReQ (W : World) (D : Nat) (m : Value) (R c n i : Nat) (f : Nat → Nd) (e : Ending) (w' : World) : Prop :=
  ∃ v f', e = .returned v ∧ HR w' D m R c n f' ∧ Minus n i f f' ∧ HeapOn ltN f' n ∧ Kp (ReS D R (n + 1) f) W w' ∧ Names w' (n + 1) f
set_option maxRecDepth 100000 in
theorem remove_any {W : World} {D R c n i : Nat} {m : Value} {f : Nat → Nd} (h : HR W D m R c (n + 1) f) (hi : i < n + 1) (hn : n ≤ 100000) (hh : HeapOn ltN f (n + 1)) :
    Calls Try.prog 22 #[.iface 59 (.pointer (some ⟨D, 0, none⟩)), .int .i64 i] W (ReQ W D m R c n i f) := by
  have HH := Lib.hid h
  have HU := Lib.hid hh
  have hm1 := meth_len h.d
  have hn0 : (0 : Int) ≤ n := by omega
  have hn1 : (n : Int) ≤ 100000 := by omega
  clear h hh
  by_cases e : i = n
  · subst e
    have hm2 := meth_pop ⟨D, 0, none⟩ W
    go_enter Try.func22, Try.ntmps22
    go_wp2_with (go_at_call 69; refine (row_len _ _ _ _).mono ?_; rintro e w2 ⟨rfl, rfl⟩)
    refine (row_pop HH.out hn).mono ?_
    rintro e w1 ⟨rfl, h1, k1⟩
    have H1 := Lib.hid h1
    have K1 := Lib.hid (k1.mono (S' := ReS D R (i + 1) f) fun k e => .inl e)
    have N1 := Lib.hid (names_kept HH.out (SameTo.refl _ f) k1)
    clear h1 k1 hm1 hm2
    go_wp2
    go_ret
    exact ⟨_, f, rfl, H1.out, Minus.last f, HU.out.less (by omega), K1.out, N1.out⟩
  · have hin : i < n := by omega
    have hi0 : (0 : Int) ≤ i := by omega
    have hne : ((n : Int) != (i : Int)) = true := by rw [bne_iff_ne]; omega
    have hm2 := meth_swap HH.out.d
    go_enter Try.func22, Try.ntmps22
    go_wp2_with (go_at_call 69; refine (row_len _ _ _ _).mono ?_; rintro e w2 ⟨rfl, rfl⟩)
    refine (swap_at HH.out (show i < n + 1 by omega) (Nat.lt_succ_self n) (by omega) (by omega) rfl rfl).mono ?_
    rintro e w1 ⟨rfl, h1, k1⟩
    have H1 := Lib.hid h1
    have S1 := Lib.hid (SameTo.swap f (show i < n + 1 by omega) (Nat.lt_succ_self n))
    have K1 := Lib.hid (k1.mono (S' := ReS D R (n + 1) f) fun k e => .inr e)
    have M1 := Lib.hid (Minus.swap f hin)
    have B1 := Lib.hid (HU.out.butLast lts_nd hin)
    clear h1 k1 hm1 hm2 HU
    generalize swapF f i n = g at H1 S1 M1 B1
    go_wp2_with fail
    refine (down_any H1.out hin (by omega) (by omega) B1.out).mono ?_
    rintro e w2 ⟨b, f2, rfl, h2, s2, ht, hf, k2⟩
    have H2 := Lib.hid h2
    have S2 := Lib.hid (S1.out.trans (s2.to (Nat.le_succ n)))
    have K2 := Lib.hid (K1.out.trans k2 fun k _ e => .inr (HS.same S1.out e))
    have M2 := Lib.hid (M1.out.same s2.1)
    have HT := Lib.hid ht
    have HF := Lib.hid hf
    clear h2 s2 k2 ht hf H1 S1 K1 M1 B1
    cases b with
    | true =>
      have hm3 := meth_pop ⟨D, 0, none⟩ w2
      go_wp2_with fail
      refine (row_pop H2.out hn).mono ?_
      rintro e w3 ⟨rfl, h3, k3⟩
      have H3 := Lib.hid h3
      have K3 := Lib.hid (K2.out.trans k3 fun k _ e => .inl e)
      have N3 := Lib.hid (names_kept H2.out S2.out k3)
      clear h3 k3 hm3
      go_wp2
      go_ret
      exact ⟨_, f2, rfl, H3.out, M2.out, HT.out (by trivial), K3.out, N3.out⟩
    | false =>
      go_wp2_with fail
      refine (up_any H2.out hin (by omega) (by omega) (HF.out (by trivial))).mono ?_
      rintro e w3 ⟨rfl, f3, h3, s3, hh3, k3⟩
      have H3 := Lib.hid h3
      have K3 := Lib.hid (K2.out.trans k3 fun k _ e => .inr (HS.same S2.out e))
      have M3 := Lib.hid (M2.out.same s3.1)
      have S3 := Lib.hid (S2.out.trans (s3.to (Nat.le_succ n)))
      have HH3 := Lib.hid hh3
      have hm3 := meth_pop ⟨D, 0, none⟩ w3
      clear h3 s3 hh3 k3
      go_wp2_with fail
      refine (row_pop H3.out hn).mono ?_
      rintro e w4 ⟨rfl, h4, k4⟩
      have H4 := Lib.hid h4
      have K4 := Lib.hid (K3.out.trans k4 fun k _ e => .inl e)
      have N4 := Lib.hid (names_kept H3.out S3.out k4)
      clear h4 k4 hm3
      go_wp2
      go_ret
      exact ⟨_, f3, rfl, H4.out, M3.out, HH3.out, K4.out, N4.out⟩
end Go.Proofs.Ytfbalabmidobeaa
