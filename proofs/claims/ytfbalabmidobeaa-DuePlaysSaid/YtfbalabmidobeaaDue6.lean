/- Package due: Set. -/
import Derived.Test.YtfbalabmidobeaaDue5
namespace Go.Proofs.Ytfbalabmidobeaa
set_option linter.unusedVariables false
open Go Go.RowKit Go.Sort
/-- Is it a moment? -/
def isMom (m : Int) : Bool := decide (0 ≤ m) && decide (m ≤ 527039)
theorem split_any (m : Int) (w : World) : Calls Try.prog 23 #[.int .i64 m] w fun e w' => (∃ a b, e = .returned (.tuple #[.int .i64 a, .int .i64 b, .int .i64 (if isMom m then 0 else 1)])) ∧ w = w' := by
  by_cases h : isMom m = true
  · rw [if_pos h]
    have h1 : 0 ≤ m ∧ m ≤ 527039 := by simpa [isMom] using h
    have h2 := h1.1
    have h3 := h1.2
    clear h h1
    go_enter Try.func23, Try.ntmps23
    go_wp2
    go_ret3
    exact ⟨⟨_, _, rfl⟩, rfl⟩
  · rw [if_neg h]
    have h1 : ¬ (0 ≤ m ∧ m ≤ 527039) := by simpa [isMom] using h
    clear h
    by_cases h2 : m < 0
    · clear h1
      go_enter Try.func23, Try.ntmps23
      go_wp2
      go_ret3
      exact ⟨⟨_, _, rfl⟩, rfl⟩
    · have h3 : 527040 ≤ m := by omega
      clear h1
      go_enter Try.func23, Try.ntmps23
      go_wp2
      go_ret3
      exact ⟨⟨_, _, rfl⟩, rfl⟩
/-- Other blocks as well. -/
def More (S : Nat → Prop) (W W1 : World) : Nat → Prop := fun b => S b ∨ (W.heap.size ≤ b ∧ b < W1.heap.size)
/-- What a push leaves of the things. -/
theorem DI.plus {W W3 W4 : World} {S : Nat → Prop} {D : Nat} {L : List It} {M R c n b : Nat} {rv : Value} {f f' : Nat → Nd} {g : Value → Option Value} {x : It} (h : DI W S D L M rv n f g) (hno : ∀ y ∈ L, y.name ≠ x.name)
    (h1 : HR W4 D (.map (some M)) R c (n + 1) f') (hs : SameTo (n + 1) (addF n f ⟨b, x⟩) f') (hh : HeapOn ltN f' (n + 1)) (hmap : Mp Try.prog 9 W4 M (updK g (.string x.name) (some (.pointer (some ⟨b, 0, none⟩)))))
    (hor : rv.ownBlock = some R ∨ W.heap.size ≤ R) (hbs : W.heap.size ≤ b) (hz : W.heap.size ≤ W3.heap.size) (hor3 : rv.ownBlock = some R ∨ W3.heap.size ≤ R) :
    DW W4 (More S W W4) D (insF x L) := by
  have hR : ∃ cs, Bx W4 R cs 56 := by obtain ⟨cs, hx, _⟩ := h1.r; exact ⟨cs, hx⟩
  obtain ⟨cs, hx⟩ := hR
  have hM : M < W.heap.size := h.map.size
  have hat : ∀ k, k < n + 1 → (f' k = ⟨b, x⟩ ∨ ∃ j, j < n ∧ f j = f' k) := fun k hk => by
    obtain ⟨j, hj, e⟩ := hs.2 k hk
    by_cases e2 : j = n
    · subst e2; rw [addF_n] at e; exact .inl e.symm
    · rw [addF_o f _ (by omega)] at e; exact .inr ⟨j, by omega, e⟩
  have hto : ∀ j, j < n → ∃ k, k < n + 1 ∧ f' k = f j := fun j hj => by
    obtain ⟨k, hk, e⟩ := hs.1 j (by omega)
    rw [addF_o f _ hj] at e
    exact ⟨k, hk, e⟩
  have hto2 : ∃ k, k < n + 1 ∧ f' k = ⟨b, x⟩ := by
    obtain ⟨k, hk, e⟩ := hs.1 n (by omega)
    rw [addF_n] at e
    exact ⟨k, hk, e⟩
  have hnm : ∀ j, j < n → (f j).it.name ≠ x.name := fun j hj => hno _ ((h.mem _).2 ⟨j, hj, rfl⟩)
  have hRM : R ≠ M := by
    rcases hor with e | e
    · intro e2; exact h.mR (by rw [e, e2])
    · omega
  refine ⟨M, _, n + 1, f', _, h1.ho, hh, hmap, ?_, ?_, h.ris.ins hno, ?_, ?_, h.mD, ?_, ?_, .inl h.sD, .inl h.sM, ?_, ?_⟩
  · intro k hk
    rcases hat k hk with e | ⟨j, hj, e⟩
    · rw [e, updK_same]
    · rw [← e, updK_other _ _ _ (fun e2 => hnm j hj (by injection e2))]
      exact h.gin j hj
  · intro v u hv
    by_cases e : v = .string x.name
    · obtain ⟨k, hk, e2⟩ := hto2
      exact ⟨k, hk, by rw [e, e2]⟩
    · rw [updK_other _ _ _ e] at hv
      obtain ⟨j, hj, e2⟩ := h.gout v u hv
      obtain ⟨k, hk, e3⟩ := hto j hj
      exact ⟨k, hk, by rw [e2, e3]⟩
  · rw [length_insF, h.len]
  · intro y
    rw [mem_insF, h.mem]
    constructor
    · rintro (rfl | ⟨j, hj, rfl⟩)
      · obtain ⟨k, hk, e⟩ := hto2
        exact ⟨k, hk, by rw [e]⟩
      · obtain ⟨k, hk, e⟩ := hto j hj
        exact ⟨k, hk, by rw [e]⟩
    · rintro ⟨k, hk, rfl⟩
      rcases hat k hk with e | ⟨j, hj, e⟩
      · rw [e]; exact .inl rfl
      · rw [← e]; exact .inr ⟨j, hj, rfl⟩
  · simp [Value.ownBlock]; exact hRM
  · intro k hk
    rcases hat k hk with e | ⟨j, hj, e⟩
    · rw [e]; show b ≠ M; omega
    · rw [← e]; exact h.mI j hj
  · intro k e
    have e' : R = k := by simpa [Value.ownBlock] using e
    subst e'
    rcases hor with e2 | e2
    · exact .inl (h.sR _ e2)
    · exact .inr ⟨e2, hx.lt⟩
  · intro k hk
    rcases hat k hk with e | ⟨j, hj, e⟩
    · rw [e]; exact .inr ⟨hbs, by have := (h1.it k hk).lt; rw [e] at this; exact this⟩
    · rw [← e]; exact .inl (h.sI j hj)
set_option maxRecDepth 100000 in
theorem set_bad {W : World} (D : Nat) (s : ByteArray) (m : Int) (hm : isMom m = false) :
    Calls Try.prog 10 #[.pointer (some ⟨D, 0, none⟩), .string s, .int .i64 m] W fun e w' => e = .returned (.int .i64 1) ∧ W = w' := by
  have hs := fun W => split_any m W
  rw [hm] at hs
  go_enter Try.func10, Try.ntmps10
  go_wp2_with (go_at_call 23; refine (hs _).mono ?_; rintro e w1 ⟨⟨a, b, rfl⟩, rfl⟩)
  go_ret
  exact ⟨rfl, rfl⟩
set_option maxRecDepth 100000 in
theorem set_ok {W : World} {S : Nat → Prop} {D : Nat} {L : List It} (h : DW W S D L) (hS : ∀ b, S b → b < W.heap.size) (hn : L.length ≤ 99999) (s : ByteArray) (hs : okStr s) (m : Int) (hm : isMom m = true) :
    Calls Try.prog 10 #[.pointer (some ⟨D, 0, none⟩), .string s, .int .i64 m] W fun e w' => e = .returned (.int .i64 0) ∧ DW w' (More S W w') D (setF L s m) ∧ Kp S W w' := by
  have hsp := fun W => split_any m W
  rw [hm] at hsp
  have H0 := Lib.hid h
  have HS0 := Lib.hid hS
  have hdl : (dropF L s).length ≤ 99999 := Nat.le_trans (List.length_filter_le _ _) hn
  clear h hS
  go_enter Try.func10, Try.ntmps10
  go_wp2_with (go_at_call 23; refine (hsp _).mono ?_; rintro e w1 ⟨⟨a, b, rfl⟩, rfl⟩)
  refine (drop_any H0.out (by omega) s hs).mono ?_
  rintro e w1 ⟨rfl, h1, k1⟩
  have hno : ∀ y ∈ dropF L s, y.name ≠ s := fun y hy => (mem_dropF.1 hy).2
  have HNO := Lib.hid hno
  have HSET : Hid (setF L s m = insF ⟨s, m⟩ (dropF L s)) := rfl
  generalize dropF L s = L1 at h1 hdl HNO HSET
  obtain ⟨M, rv, n, f, g, hi⟩ := h1
  have HI := Lib.hid hi
  have K1 := Lib.hid k1
  have c1 := (hi.ho.d.alloc (.cells #[.string s, .int .i64 m, .int .i64 0] 61)).cells
  obtain ⟨W3, hrun, hm3, hw3⟩ := (hi.map.alloc (.cells #[.string s, .int .i64 m, .int .i64 0] 61)).put (v := .pointer (some ⟨w1.heap.size, 0, none⟩)) kl_string map_type (key_string hs)
  have b3 := (Bx.new w1 #[.string s, .int .i64 m, .int .i64 0] 61).wr hw3 (by have := hi.map.size; omega)
  have d3 := (hi.ho.d.alloc (.cells #[.string s, .int .i64 m, .int .i64 0] 61)).wr hw3 (Ne.symm hi.mD)
  have hol : n ≤ 100000 := by have := hi.len; omega
  have hz3 : W3.heap.size = w1.heap.size + 1 := by rw [hw3.size]; simp
  have ho3 : HO W3 D (.map (some M)) rv n f := hi.ho.keep (fun k hk e => by
    have hkM : k ≠ M := by
      rintro rfl
      rcases e with e | e | ⟨j, hj, e⟩
      · exact hi.mD e
      · exact hi.mR e
      · exact hi.mI j hj e
    exact (hw3.block hkM).trans (heap_alloc_old w1 _ hk)) (by omega)
  have HO3 := Lib.hid ho3
  have B3 := Lib.hid b3
  have HM3 := Lib.hid hm3
  have HW3 := Lib.hid hw3
  have c3 := d3.cells
  have hb1 : w1.heap.size ≠ D := by have := hi.ho.d.lt; omega
  have hb2 : rv.ownBlock ≠ some w1.heap.size := fun e => by
    have := (hi.ho.own.lt _ e).2
    omega
  have hb3 : ∀ i, i < n → (f i).blk ≠ w1.heap.size := fun i hi' => by have := (hi.ho.it i hi').lt; omega
  have HB2 := Lib.hid hb2
  have HB3 := Lib.hid hb3
  have HZ3 := Lib.hid hz3
  clear hi k1 hm3 hw3 b3 d3 ho3 hb2 hb3 hz3
  go_wp2_with fail
  refine (heap_push (x := ⟨s, m⟩) HO3.out B3.out hb1 HB2.out HB3.out hol HI.out.heap).mono ?_
  rintro e w4 ⟨rfl, R, c, f', h4, s4, hh4, hor, k4⟩
  have hM4 : w4.heap[M]? = W3.heap[M]? := k4.block M (by have := HI.out.map.size; have := HZ3.out; omega) (by
    rintro ((e | e | e) | ⟨j, hj, e⟩)
    · exact HI.out.mD e
    · have := HI.out.map.size; omega
    · exact HI.out.mR e
    · exact HI.out.mI j hj e)
  have hdw := HI.out.plus (W3 := W3) HNO.out h4 s4 hh4 (HM3.out.keep hM4) (hor.imp id fun e => by have := HZ3.out; omega) (Nat.le_refl _) (by have := HZ3.out; omega) hor
  have hk4 : Kp S W w4 := ((K1.out.alloc _).wr HW3.out HI.out.sM).trans k4 (by
    rintro k hk ((e | e | e) | ⟨j, hj, e⟩)
    · rw [e]; exact HI.out.sD
    · have := K1.out.size; omega
    · exact HI.out.sR k e
    · rw [← e]; exact HI.out.sI j hj)
  have HF : Hid (DW w4 (More S W w4) D (insF ⟨s, m⟩ L1)) := hdw.mono fun b e => e.imp id fun e => ⟨Nat.le_trans K1.out.size e.1, e.2⟩
  have HK4 := Lib.hid hk4
  clear h4 s4 hh4 hor k4 hM4 hdw hk4
  go_wp2
  go_ret
  exact ⟨rfl, by rw [HSET.out]; exact HF.out, HK4.out⟩
end Go.Proofs.Ytfbalabmidobeaa
