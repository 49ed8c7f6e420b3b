/- container/heap over package due's row: up, down, Push, Remove. -/
import Derived.Test.YtfbalabmidobeaaDue1
namespace Go.Proofs.Ytfbalabmidobeaa
set_option linter.unusedVariables false
open Go Go.RowKit Go.Sort
theorem meth_val {P : Program} {fuel : Nat} {t e : TypeId} {name : String} {f : FuncId} (hm : ((P.info? t).bind fun I => I.methods.find? (·.name == name)).map (fun m => (m.path.toList, m.func)) = some ([], some (f, false))) (hu : P.underlying t = some (.pointer e)) (p : Addr) (w : World) {v : Value} (hl : (loadVar e p).run P w = .ok v w) :
    (method (fuel + 1) t (.pointer (some p)) name).run P w = .ok (f, v) w := by
  cases hI : P.info? t with
  | none => rw [hI] at hm; cases hm
  | some I =>
    rw [hI] at hm
    cases hf : I.methods.find? (·.name == name) with
    | none => simp only [Option.bind_some, hf] at hm; cases hm
    | some m =>
      simp only [Option.bind_some, hf, Option.map_some, Option.some.injEq, Prod.mk.injEq] at hm
      obtain ⟨h1, h2⟩ := hm
      have hty : (typeInfo t).run P w = .ok I w := by
        unfold typeInfo
        simp [hI]
      have hs : ∀ (a : Array TypeId) (t : TypeId) (s m : ByteArray), (Builtin.ssaWrapNilChk_ a t #[.pointer (some p), .string s, .string m]).run P w = .ok (.pointer (some p)) w := fun _ _ _ _ => rfl
      have h3 : m.path = #[] := Array.toList_eq_nil_iff.1 h1
      simp [method, hty, hf, h2, follow, receiverAt, run_underlying hu, Place.get, h3, hs, asAddr, hl, Result.andThen, strVal]
theorem meth_push (p : Addr) (w : World) : (method 218 59 (.pointer (some p)) "Push").run Try.prog w = .ok (73, .pointer (some p)) w := by kernel_rfl
theorem meth_pop (p : Addr) (w : World) : (method 218 59 (.pointer (some p)) "Pop").run Try.prog w = .ok (72, .pointer (some p)) w := by kernel_rfl
theorem load_row {W : World} {D : Nat} {m : Value} {A : Option Addr} {n c : Nat} (h : Bx W D #[.slice A n c, m] 55) : (loadVar 53 ⟨D, 0, none⟩).run Try.prog W = .ok (.slice A n c) W := by
  have c1 := h.cells
  go_simp
theorem meth_less {W : World} {D : Nat} {m : Value} {A : Option Addr} {n c : Nat} (h : Bx W D #[.slice A n c, m] 55) : (method 218 59 (.pointer (some ⟨D, 0, none⟩)) "Less").run Try.prog W = .ok (70, .slice A n c) W :=
  meth_val (fuel := 217) (by kernel_rfl) (by kernel_rfl) _ _ (load_row h)
theorem meth_swap {W : World} {D : Nat} {m : Value} {A : Option Addr} {n c : Nat} (h : Bx W D #[.slice A n c, m] 55) : (method 218 59 (.pointer (some ⟨D, 0, none⟩)) "Swap").run Try.prog W = .ok (71, .slice A n c) W :=
  meth_val (fuel := 217) (by kernel_rfl) (by kernel_rfl) _ _ (load_row h)
theorem meth_len {W : World} {D : Nat} {m : Value} {A : Option Addr} {n c : Nat} (h : Bx W D #[.slice A n c, m] 55) : (method 218 59 (.pointer (some ⟨D, 0, none⟩)) "Len").run Try.prog W = .ok (69, .slice A n c) W :=
  meth_val (fuel := 217) (by kernel_rfl) (by kernel_rfl) _ _ (load_row h)
def ltN (a b : Nd) : Bool := ltI a.it b.it
theorem lts_nd : Lts ltN := ⟨fun x => lts_it.irr _, fun x y z => lts_it.tr _ _ _, fun x y z => lts_it.ntr _ _ _⟩
theorem less_at {W : World} {D R c n : Nat} {m : Value} {f : Nat → Nd} (h : HR W D m R c n f) {i j : Nat} (hi : i < n) (hj : j < n) (hn : n ≤ 1000000) {a b : Int} (ha : (i : Int) = a) (hb : (j : Int) = b) {r : Bool} (hr : ltI (f i).it (f j).it = r) :
    Calls Try.prog 70 #[.slice (some ⟨R, 0, none⟩) n c, .int .i64 a, .int .i64 b] W fun e w' => e = .returned (.bool r) ∧ Below W.heap.size W w' := by
  subst ha hb hr
  exact row_less h hi hj hn
theorem swap_at {W : World} {D R c n : Nat} {m : Value} {f : Nat → Nd} (h : HR W D m R c n f) {i j : Nat} (hi : i < n) (hj : j < n) (hij : i ≠ j) (hn : n ≤ 1000000) {a b : Int} (ha : (i : Int) = a) (hb : (j : Int) = b) :
    Calls Try.prog 71 #[.slice (some ⟨R, 0, none⟩) n c, .int .i64 a, .int .i64 b] W fun e w' => e = .returned (.tuple #[]) ∧ HR w' D m R c n (swapF f i j) ∧ Kp (HS R n f) W w' := by
  subst ha hb
  exact row_swap h hi hj hij hn
theorem HS.same {R n : Nat} {f g : Nat → Nd} (h : SameTo n f g) {b : Nat} : HS R n g b → HS R n f b := by
  rintro (e | ⟨i, hi, e⟩)
  · exact .inl e
  · obtain ⟨j, hj, e2⟩ := h.2 i hi
    exact .inr ⟨j, hj, by rw [e2]; exact e⟩
/-- The same things in the first n places; the others as they were. -/
def SameUp (n : Nat) (f g : Nat → Nd) : Prop := SameTo n f g ∧ ∀ k, n ≤ k → g k = f k
theorem SameUp.refl (n : Nat) (f : Nat → Nd) : SameUp n f f := ⟨SameTo.refl n f, fun _ _ => rfl⟩
theorem SameUp.trans {n : Nat} {f g h : Nat → Nd} (a : SameUp n f g) (b : SameUp n g h) : SameUp n f h := ⟨a.1.trans b.1, fun k hk => (b.2 k hk).trans (a.2 k hk)⟩
theorem SameUp.swap {n : Nat} (f : Nat → Nd) {i j : Nat} (hi : i < n) (hj : j < n) : SameUp n f (swapF f i j) := ⟨SameTo.swap f hi hj, fun k hk => swapF_o f i j (by omega) (by omega)⟩
theorem SameUp.to {n N : Nat} {f g : Nat → Nd} (h : SameUp n f g) (hN : n ≤ N) : SameTo N f g :=
  ⟨fun k hk => by
    by_cases e : k < n
    · obtain ⟨j, hj, e2⟩ := h.1.1 k e; exact ⟨j, by omega, e2⟩
    · exact ⟨k, hk, h.2 k (by omega)⟩,
   fun k hk => by
    by_cases e : k < n
    · obtain ⟨j, hj, e2⟩ := h.1.2 k e; exact ⟨j, by omega, e2⟩
    · exact ⟨k, hk, (h.2 k (by omega)).symm⟩⟩
/-- What up leaves. -/
def UpQ (W : World) (D : Nat) (m : Value) (R c N n : Nat) (f : Nat → Nd) (e : Ending) (w' : World) : Prop :=
  e = .returned (.tuple #[]) ∧ ∃ f', HR w' D m R c N f' ∧ SameUp n f f' ∧ HeapOn ltN f' n ∧ Kp (HS R N f) W w'
set_option maxRecDepth 100000 in
theorem up_any {W : World} {D R c N n : Nat} {m : Value} {f : Nat → Nd} (h : HR W D m R c N f) {j : Nat} (hj : j < n) (hnN : n ≤ N) (hN : N ≤ 1000000) (hu : UpAt ltN f n j) :
    Calls Try.prog 28 #[.iface 59 (.pointer (some ⟨D, 0, none⟩)), .int .i64 j] W (UpQ W D m R c N n f) := by
  have HH := Lib.hid h
  have HU := Lib.hid hu
  clear h hu
  go_enter Try.func28, Try.ntmps28
  go_wp2
  go_loopw [1, 4] (fun jv _ wr => ∃ (j : Nat) (f' : Nat → Nd), j < n ∧ jv = .int .i64 j ∧ HR wr D m R c N f' ∧ Hid (UpAt ltN f' n j) ∧ SameUp n f f' ∧ Kp (HS R N f) W wr) (fun jv _ _ => (intOf jv).toNat)
  case atStart => exact ⟨j, f, hj, rfl, HH.out, HU, SameUp.refl _ _, Kp.refl _ _⟩
  case round =>
    clear HH HU
    obtain ⟨j, f', hj, rfl, hr, HU, hs, hk⟩ := hrel
    have HR_ := Lib.hid hr
    have HS_ := Lib.hid hs
    have HK := Lib.hid hk
    clear hr hs hk
    by_cases h0 : j = 0
    · subst h0
      go_wp2
      go_end0
      exact ⟨rfl, f', HR_.out, HS_.out, HU.out.heap (fun h => absurd h (by omega)), HK.out⟩
    · have hj0 : (0 : Int) < j := by omega
      have hjn : (j : Int) ≤ 1000000 := by omega
      have hpj : (j - 1) / 2 < j := by omega
      have hp : ((j : Int) - 1) / 2 = (((j - 1) / 2 : Nat) : Int) := by omega
      have hne : ((((j - 1) / 2 : Nat) : Int) == (j : Int)) = false := by rw [beq_eq_false_iff_ne]; omega
      have HU2 := Lib.hid (HU.out.step lts_nd (by omega) hj)
      have HH2 := Lib.hid (fun (ok : ltN (f' j) (f' ((j - 1) / 2)) = false) => HU.out.heap fun _ => ok)
      generalize (j - 1) / 2 = p at *
      have hp0 : (0 : Int) ≤ p := by omega
      have hm := meth_less HR_.out.d
      clear h0
      cases hb : ltN (f' j) (f' p) with
      | true =>
        have HU3 := Lib.hid (HU2.out hb)
        replace hb := Lib.hid (show ltI (f' j).it (f' p).it = true from hb)
        clear HU2 HH2
        go_wp2_with (go_at_call 70; refine (row_less HR_.out (show j < N by omega) (by omega) hN).mono ?_; rintro e w1 ⟨rfl, hw1⟩; rw [hb.out]; have h1 := HR_.out.step hw1; have hm2 := meth_swap h1.d; replace h1 := Lib.hid h1; have K1 := Lib.hid (HK.out.trans (S' := HS R N f) (Kp.of hw1) fun _ _ e => e); clear hm hw1)
        refine (row_swap h1.out (show p < N by omega) (by omega) (by omega) hN).mono ?_
        rintro e w2 ⟨rfl, h2, k2⟩
        have H2 := Lib.hid h2
        have K2 := Lib.hid (K1.out.trans k2 fun _ _ e => HS.same (HS_.out.to hnN) e)
        clear h2 k2 hm2 K1 h1
        go_wp2
        exact ⟨⟨p, swapF f' p j, by omega, rfl, H2.out, HU3, HS_.out.trans (SameUp.swap f' (by omega) hj), K2.out⟩, by simp [intOf]; omega⟩
      | false =>
        have HH3 := Lib.hid (HH2.out hb)
        replace hb := Lib.hid (show ltI (f' j).it (f' p).it = false from hb)
        clear HU2 HH2
        go_wp2_with (go_at_call 70; refine (row_less HR_.out (show j < N by omega) (by omega) hN).mono ?_; rintro e w1 ⟨rfl, hw1⟩; rw [hb.out]; have h1 := Lib.hid (HR_.out.step hw1); have K1 := Lib.hid (HK.out.trans (S' := HS R N f) (Kp.of hw1) fun _ _ e => e); clear hm hw1)
        go_end0
        exact ⟨rfl, f', h1.out, HS_.out, HH3.out, K1.out⟩
/-- What down leaves. -/
def DownQ (W : World) (D : Nat) (m : Value) (R c N n i0 : Nat) (f : Nat → Nd) (e : Ending) (w' : World) : Prop :=
  ∃ (b : Bool) (f' : Nat → Nd), e = .returned (.bool b) ∧ HR w' D m R c N f' ∧ SameUp n f f' ∧ (b = true → HeapOn ltN f' n) ∧ (b = false → UpAt ltN f' n i0) ∧ Kp (HS R N f) W w'
theorem down_end {W w' : World} {D R c N n i0 i : Nat} {m : Value} {f f' : Nat → Nd} (HI : Hid (i0 ≤ i ∧ ButAt ltN f' n i ∧ (i ≠ i0 → DownAt ltN f' n i))) (hs : Settled ltN f' n i) (h : HR w' D m R c N f') (hu : SameUp n f f') (k : Kp (HS R N f) W w') :
    DownQ W D m R c N n i0 f (.returned (.bool (decide (i0 < i)))) w' := by
  refine ⟨_, f', rfl, h, hu, fun e => ?_, fun e => ?_, k⟩
  · have : i ≠ i0 := by simp at e; omega
    exact (HI.out.2.2 this).settle hs
  · have : i = i0 := by have := HI.out.1; simp at e; omega
    subst this
    exact HI.out.2.1.settle hs
set_option maxRecDepth 100000 in
set_option maxHeartbeats 8000000 in
theorem down_any {W : World} {D R c N n : Nat} {m : Value} {f : Nat → Nd} (h : HR W D m R c N f) {i0 : Nat} (hi : i0 < n) (hnN : n ≤ N) (hN : N ≤ 1000000) (hu : ButAt ltN f n i0) :
    Calls Try.prog 27 #[.iface 59 (.pointer (some ⟨D, 0, none⟩)), .int .i64 i0, .int .i64 n] W (DownQ W D m R c N n i0 f) := by
  have HH := Lib.hid h
  have HU := Lib.hid hu
  clear h hu
  go_enter Try.func27, Try.ntmps27
  go_wp2
  go_loopw [7, 8, 9, 10] (fun iv _ _ _ wr => ∃ (i : Nat) (f' : Nat → Nd), i < n ∧ iv = .int .i64 i ∧ HR wr D m R c N f' ∧ Hid (i0 ≤ i ∧ ButAt ltN f' n i ∧ (i ≠ i0 → DownAt ltN f' n i)) ∧ SameUp n f f' ∧ Kp (HS R N f) W wr) (fun iv _ _ _ _ => n - (intOf iv).toNat)
  case atStart => exact ⟨i0, f, hi, rfl, HH.out, ⟨Nat.le_refl _, HU.out, fun e => absurd rfl e⟩, SameUp.refl _ _, Kp.refl _ _⟩
  case round =>
    clear HH HU
    obtain ⟨i, f', hi, rfl, hr, HI, hs, hk⟩ := hrel
    have HR_ := Lib.hid hr
    have HS_ := Lib.hid hs
    have HK := Lib.hid hk
    have HB := Lib.hid HI.out.2.1
    clear hr hs hk
    have hi0 : (0 : Int) ≤ i := by omega
    have hin : (i : Int) ≤ 1000000 := by omega
    have z1 : (((2 * i + 1 : Nat) : Nat) : Int) = 2 * (i : Int) + 1 := by omega
    have z2 : (((2 * i + 1 + 1 : Nat) : Nat) : Int) = 2 * (i : Int) + 1 + 1 := by omega
    by_cases h1 : 2 * i + 1 < n
    · have h1' : ¬ (n : Int) ≤ 2 * (i : Int) + 1 := by omega
      have h1'' : ¬ 2 * (i : Int) + 1 < 0 := by omega
      by_cases h2 : 2 * i + 1 + 1 < n
      · have h2' : 2 * (i : Int) + 1 + 1 < n := by omega
        have hm := meth_less HR_.out.d
        cases hb : ltN (f' (2 * i + 1 + 1)) (f' (2 * i + 1)) with
        | true =>
          have HL := Lib.hid (Least.right (i := i) lts_nd h2 hb)
          replace hb := Lib.hid (show ltI (f' (2 * i + 1 + 1)).it (f' (2 * i + 1)).it = true from hb)
          go_wp2_with fail
          refine (less_at HR_.out (show 2 * i + 1 + 1 < N by omega) (show 2 * i + 1 < N by omega) hN (by omega) (by omega) hb.out).mono ?_
          rintro e w1 ⟨rfl, hw1⟩
          have H1 := Lib.hid (HR_.out.step hw1)
          have K1 := Lib.hid (HK.out.trans (S' := HS R N f) (Kp.of hw1) fun _ _ e => e)
          clear hm hw1 hb
          cases hb : ltN (f' (2 * i + 1 + 1)) (f' i) with
          | true =>
            have HD := Lib.hid (HB.out.step lts_nd HL.out hb)
            replace hb := Lib.hid (show ltI (f' (2 * i + 1 + 1)).it (f' i).it = true from hb)
            have q2 : (2 * i + 1 + 1) < n := HL.out.1
            have hm3 := meth_less H1.out.d
            go_wp2_with fail
            refine (less_at H1.out (show 2 * i + 1 + 1 < N by omega) (show i < N by omega) hN (by omega) rfl hb.out).mono ?_
            rintro e w3 ⟨rfl, hw3⟩
            have h3 := H1.out.step hw3
            have hm4 := meth_swap h3.d
            have H3 := Lib.hid h3
            have K3 := Lib.hid (K1.out.trans (S' := HS R N f) (Kp.of hw3) fun _ _ e => e)
            clear hm3 hw3 h3
            go_wp2_with fail
            refine (swap_at H3.out (show i < N by omega) (show 2 * i + 1 + 1 < N by omega) (by omega) hN rfl (by omega)).mono ?_
            rintro e w4 ⟨rfl, h4, k4⟩
            have H4 := Lib.hid h4
            have K4 := Lib.hid (K3.out.trans k4 fun _ _ e => HS.same (HS_.out.to hnN) e)
            clear h4 k4 hm4 K3 H3
            go_wp2
            exact ⟨⟨2 * i + 1 + 1, swapF f' i (2 * i + 1 + 1), by omega, by go_num, H4.out, ⟨by have := HI.out.1; omega, HD.out.but, fun _ => HD.out⟩, HS_.out.trans (SameUp.swap f' hi (by omega)), K4.out⟩, by simp [intOf]; omega⟩
          | false =>
            have HD := Lib.hid (HL.out.settled lts_nd hb)
            replace hb := Lib.hid (show ltI (f' (2 * i + 1 + 1)).it (f' i).it = false from hb)
            have q2 : (2 * i + 1 + 1) < n := HL.out.1
            have hm3 := meth_less H1.out.d
            go_wp2_with fail
            refine (less_at H1.out (show 2 * i + 1 + 1 < N by omega) (show i < N by omega) hN (by omega) rfl hb.out).mono ?_
            rintro e w3 ⟨rfl, hw3⟩
            have H3 := Lib.hid (H1.out.step hw3)
            have K3 := Lib.hid (K1.out.trans (S' := HS R N f) (Kp.of hw3) fun _ _ e => e)
            clear hm3 hw3
            go_wp2
            go_ret
            exact down_end HI HD.out H3.out HS_.out K3.out
        | false =>
          have HL := Lib.hid (Least.left (i := i) lts_nd h1 fun _ => hb)
          replace hb := Lib.hid (show ltI (f' (2 * i + 1 + 1)).it (f' (2 * i + 1)).it = false from hb)
          go_wp2_with fail
          refine (less_at HR_.out (show 2 * i + 1 + 1 < N by omega) (show 2 * i + 1 < N by omega) hN (by omega) (by omega) hb.out).mono ?_
          rintro e w1 ⟨rfl, hw1⟩
          have H1 := Lib.hid (HR_.out.step hw1)
          have K1 := Lib.hid (HK.out.trans (S' := HS R N f) (Kp.of hw1) fun _ _ e => e)
          clear hm hw1 hb
          cases hb : ltN (f' (2 * i + 1)) (f' i) with
          | true =>
            have HD := Lib.hid (HB.out.step lts_nd HL.out hb)
            replace hb := Lib.hid (show ltI (f' (2 * i + 1)).it (f' i).it = true from hb)
            have q2 : (2 * i + 1) < n := HL.out.1
            have hm3 := meth_less H1.out.d
            go_wp2_with fail
            refine (less_at H1.out (show 2 * i + 1 < N by omega) (show i < N by omega) hN (by omega) rfl hb.out).mono ?_
            rintro e w3 ⟨rfl, hw3⟩
            have h3 := H1.out.step hw3
            have hm4 := meth_swap h3.d
            have H3 := Lib.hid h3
            have K3 := Lib.hid (K1.out.trans (S' := HS R N f) (Kp.of hw3) fun _ _ e => e)
            clear hm3 hw3 h3
            go_wp2_with fail
            refine (swap_at H3.out (show i < N by omega) (show 2 * i + 1 < N by omega) (by omega) hN rfl (by omega)).mono ?_
            rintro e w4 ⟨rfl, h4, k4⟩
            have H4 := Lib.hid h4
            have K4 := Lib.hid (K3.out.trans k4 fun _ _ e => HS.same (HS_.out.to hnN) e)
            clear h4 k4 hm4 K3 H3
            go_wp2
            exact ⟨⟨2 * i + 1, swapF f' i (2 * i + 1), by omega, by go_num, H4.out, ⟨by have := HI.out.1; omega, HD.out.but, fun _ => HD.out⟩, HS_.out.trans (SameUp.swap f' hi (by omega)), K4.out⟩, by simp [intOf]; omega⟩
          | false =>
            have HD := Lib.hid (HL.out.settled lts_nd hb)
            replace hb := Lib.hid (show ltI (f' (2 * i + 1)).it (f' i).it = false from hb)
            have q2 : (2 * i + 1) < n := HL.out.1
            have hm3 := meth_less H1.out.d
            go_wp2_with fail
            refine (less_at H1.out (show 2 * i + 1 < N by omega) (show i < N by omega) hN (by omega) rfl hb.out).mono ?_
            rintro e w3 ⟨rfl, hw3⟩
            have H3 := Lib.hid (H1.out.step hw3)
            have K3 := Lib.hid (K1.out.trans (S' := HS R N f) (Kp.of hw3) fun _ _ e => e)
            clear hm3 hw3
            go_wp2
            go_ret
            exact down_end HI HD.out H3.out HS_.out K3.out
      · have h2' : ¬ 2 * (i : Int) + 1 + 1 < n := by omega
        have HL := Lib.hid (Least.left (f := f') (i := i) lts_nd h1 fun h => absurd h h2)
        cases hb : ltN (f' (2 * i + 1)) (f' i) with
        | true =>
          have HD := Lib.hid (HB.out.step lts_nd HL.out hb)
          replace hb := Lib.hid (show ltI (f' (2 * i + 1)).it (f' i).it = true from hb)
          have q2 : (2 * i + 1) < n := HL.out.1
          have hm3 := meth_less HR_.out.d
          go_wp2_with fail
          refine (less_at HR_.out (show 2 * i + 1 < N by omega) (show i < N by omega) hN (by omega) rfl hb.out).mono ?_
          rintro e w3 ⟨rfl, hw3⟩
          have h3 := HR_.out.step hw3
          have hm4 := meth_swap h3.d
          have H3 := Lib.hid h3
          have K3 := Lib.hid (HK.out.trans (S' := HS R N f) (Kp.of hw3) fun _ _ e => e)
          clear hm3 hw3 h3
          go_wp2_with fail
          refine (swap_at H3.out (show i < N by omega) (show 2 * i + 1 < N by omega) (by omega) hN rfl (by omega)).mono ?_
          rintro e w4 ⟨rfl, h4, k4⟩
          have H4 := Lib.hid h4
          have K4 := Lib.hid (K3.out.trans k4 fun _ _ e => HS.same (HS_.out.to hnN) e)
          clear h4 k4 hm4 K3 H3
          go_wp2
          exact ⟨⟨2 * i + 1, swapF f' i (2 * i + 1), by omega, by go_num, H4.out, ⟨by have := HI.out.1; omega, HD.out.but, fun _ => HD.out⟩, HS_.out.trans (SameUp.swap f' hi (by omega)), K4.out⟩, by simp [intOf]; omega⟩
        | false =>
          have HD := Lib.hid (HL.out.settled lts_nd hb)
          replace hb := Lib.hid (show ltI (f' (2 * i + 1)).it (f' i).it = false from hb)
          have q2 : (2 * i + 1) < n := HL.out.1
          have hm3 := meth_less HR_.out.d
          go_wp2_with fail
          refine (less_at HR_.out (show 2 * i + 1 < N by omega) (show i < N by omega) hN (by omega) rfl hb.out).mono ?_
          rintro e w3 ⟨rfl, hw3⟩
          have H3 := Lib.hid (HR_.out.step hw3)
          have K3 := Lib.hid (HK.out.trans (S' := HS R N f) (Kp.of hw3) fun _ _ e => e)
          clear hm3 hw3
          go_wp2
          go_ret
          exact down_end HI HD.out H3.out HS_.out K3.out
    · have h1' : (n : Int) ≤ 2 * (i : Int) + 1 := by omega
      go_wp2
      go_ret
      exact down_end HI (Settled.none_ (by omega)) HR_.out HS_.out HK.out
end Go.Proofs.Ytfbalabmidobeaa
