/- Package due: what is due, as a rising list; New, Next, At, Len, Drop. -/
import Derived.Test.YtfbalabmidobeaaDue4
import Derived.Deep.RegionWith
namespace Go.Proofs.Ytfbalabmidobeaa
set_option linter.unusedVariables false
open Go Go.RowKit Go.Sort
open Go.WideMaps (KeyLaw)
theorem kl_string : KeyLaw Try.prog 9 := WideMaps.string_law (by kernel_rfl)
theorem key_string {s : ByteArray} (h : okStr s) : keyOf Try.prog 9 (.string s) = some (.string s.data.toList) := WideMaps.keyOf_string_mk (by kernel_rfl) h
theorem map_type : Try.prog.underlying 51 = some (.map 9 56) := by kernel_rfl
theorem zero_ptr (u : World) : (zeroValue 56).run Try.prog u = .ok (.pointer none) u := by kernel_rfl
theorem Kp.wr {S : Nat → Prop} {W W1 W2 : World} {b : Nat} (h : Kp S W W1) (hw : Wr b W1 W2) (hb : S b) : Kp S W W2 := by
  obtain ⟨o, rfl⟩ := hw
  exact ⟨h.os, h.tape, h.output, by have := h.size; simpa [Go.ChangeMaps.setBlock] using this, fun k hk hn => by
    have e : k ≠ b := fun e => hn (by rw [e]; exact hb)
    exact (Wr.block ⟨o, rfl⟩ e).trans (h.block k hk hn)⟩
/-- What is due: the list L, in blocks of which S holds. -/
structure DI (W : World) (S : Nat → Prop) (D : Nat) (L : List It) (M : Nat) (rv : Value) (n : Nat) (f : Nat → Nd) (g : Value → Option Value) : Prop where
  ho : HO W D (.map (some M)) rv n f
  heap : HeapOn ltN f n
  map : Mp Try.prog 9 W M g
  gin : ∀ i, i < n → g (.string (f i).it.name) = some (.pointer (some ⟨(f i).blk, 0, none⟩))
  gout : ∀ v u, g v = some u → ∃ i, i < n ∧ v = .string (f i).it.name
  ris : Ris L
  len : L.length = n
  mem : ∀ x, x ∈ L ↔ ∃ i, i < n ∧ (f i).it = x
  mD : M ≠ D
  mR : rv.ownBlock ≠ some M
  mI : ∀ i, i < n → (f i).blk ≠ M
  sD : S D
  sM : S M
  sR : ∀ k, rv.ownBlock = some k → S k
  sI : ∀ i, i < n → S (f i).blk
def DW (W : World) (S : Nat → Prop) (D : Nat) (L : List It) : Prop := ∃ M rv n f g, DI W S D L M rv n f g
section
variable {W W1 : World} {S S' : Nat → Prop} {D : Nat} {L : List It} {M : Nat} {rv : Value} {n : Nat} {f : Nat → Nd} {g : Value → Option Value}
theorem HO.hr {m : Value} (h : HO W D m rv n f) (hn : 0 < n) : ∃ R c, rv = .slice (some ⟨R, 0, none⟩) n c ∧ HR W D m R c n f := by
  obtain ⟨R, c, cs, rfl, _, h1, h2, h3, h4, h5⟩ := own_row h.own hn
  have own1 : (Value.slice (some ⟨R, 0, none⟩) n c).ownBlock = some R := by simp [Value.ownBlock]
  exact ⟨R, c, rfl, h.d, ⟨cs, h3, h4, h5⟩, h.it, h.inj, fun e => h.dr (by rw [own1, e]), fun i hi => ⟨(h.ne i hi).1, fun e => (h.ne i hi).2 (by rw [own1, e])⟩, h1, h2⟩
theorem HO.keep {m : Value} (h : HO W D m rv n f) (hk : ∀ k, k < W.heap.size → (k = D ∨ rv.ownBlock = some k ∨ ∃ i, i < n ∧ (f i).blk = k) → W1.heap[k]? = W.heap[k]?) (hs : W.heap.size ≤ W1.heap.size) : HO W1 D m rv n f := by
  refine ⟨(hk D h.d.lt (.inl rfl)).trans h.d, ⟨h.own.wf, h.own.row.1, ?_⟩, fun i hi => (hk _ (h.it i hi).lt (.inr (.inr ⟨i, hi, rfl⟩))).trans (h.it i hi), h.inj, h.dr, h.ne⟩
  rcases h.own.row.2 with ⟨rfl, h1⟩ | ⟨b, cap, cur, rfl, h1, h2, h3⟩
  · exact .inl ⟨rfl, h1⟩
  · exact .inr ⟨b, cap, cur, rfl, h1, (hk b (Array.getElem?_eq_some_iff.1 h2).1 (.inr (.inl (by simp [Value.ownBlock])))).trans h2, h3⟩
theorem DI.keep (h : DI W S D L M rv n f g) (hk : ∀ k, k < W.heap.size → S k → W1.heap[k]? = W.heap[k]?) (hs : W.heap.size ≤ W1.heap.size) : DI W1 S D L M rv n f g :=
  ⟨h.ho.keep (fun k hz e => hk k hz (by
    rcases e with rfl | e | ⟨i, hi, rfl⟩
    · exact h.sD
    · exact h.sR k e
    · exact h.sI i hi)) hs, h.heap, h.map.keep (hk M h.map.size h.sM), h.gin, h.gout, h.ris, h.len, h.mem, h.mD, h.mR, h.mI, h.sD, h.sM, h.sR, h.sI⟩
theorem DW.keep (h : DW W S D L) (hk : ∀ k, k < W.heap.size → S k → W1.heap[k]? = W.heap[k]?) (hs : W.heap.size ≤ W1.heap.size) : DW W1 S D L := by
  obtain ⟨M, rv, n, f, g, h⟩ := h
  exact ⟨M, rv, n, f, g, h.keep hk hs⟩
theorem DW.mono (h : DW W S D L) (hS : ∀ b, S b → S' b) : DW W S' D L := by
  obtain ⟨M, rv, n, f, g, h⟩ := h
  exact ⟨M, rv, n, f, g, h.ho, h.heap, h.map, h.gin, h.gout, h.ris, h.len, h.mem, h.mD, h.mR, h.mI, hS _ h.sD, hS _ h.sM, fun k e => hS k (h.sR k e), fun i hi => hS _ (h.sI i hi)⟩
theorem DW.step (h : DW W S D L) (hb : Below W.heap.size W W1) : DW W1 S D L := h.keep (fun k hk _ => hb.block k hk) hb.size
theorem DW.drew (h : DW W S D L) : DW W.drew S D L := h.keep (fun _ _ _ => rfl) (Nat.le_refl _)
theorem DW.kp {T : Nat → Prop} (h : DW W S D L) (hk : Kp T W W1) (hT : ∀ b, S b → ¬ T b) : DW W1 S D L := h.keep (fun k hz hs => hk.block k hz (hT k hs)) hk.size
theorem DW.ris (h : DW W S D L) : Ris L := by obtain ⟨M, rv, n, f, g, h⟩ := h; exact h.ris
theorem DI.inj (h : DI W S D L M rv n f g) {i j : Nat} (hi : i < n) (hj : j < n) (e : (f i).it.name = (f j).it.name) : i = j := by
  have h1 := h.gin i hi
  rw [e, h.gin j hj] at h1
  simp only [Option.some.injEq, Value.pointer.injEq, Addr.mk.injEq, and_true] at h1
  exact (h.ho.inj j i hj hi h1).symm
theorem DI.once (h : DI W S D L M rv n f g) : Once L := by
  unfold Once
  rw [List.nodup_iff_pairwise_ne, List.pairwise_map]
  refine h.ris.imp_of_mem ?_
  intro a b ha hb hab e
  obtain ⟨i, hi, rfl⟩ := (h.mem a).1 ha
  obtain ⟨j, hj, rfl⟩ := (h.mem b).1 hb
  have := h.inj hi hj e
  subst this
  rw [lts_it.irr] at hab
  cases hab
theorem DW.once (h : DW W S D L) : Once L := by obtain ⟨M, rv, n, f, g, h⟩ := h; exact h.once
/-- The first one. -/
theorem DI.first (h : DI W S D L M rv n f g) (hn : 0 < n) : ∃ t, L = (f 0).it :: t := by
  cases L with
  | nil => have := h.len; simp at this; omega
  | cons x t =>
    refine ⟨t, ?_⟩
    obtain ⟨i, hi, e⟩ := (h.mem x).1 List.mem_cons_self
    have h1 := h.heap.first lts_nd i hi
    have h2 := (h.mem (f 0).it).2 ⟨0, hn, rfl⟩
    rcases List.mem_cons.1 h2 with e2 | e2
    · rw [e2]
    · have h3 := (List.pairwise_cons.1 h.ris).1 _ e2
      have h1' : ltI (f i).it (f 0).it = false := h1
      rw [e, h3] at h1'
      cases h1'
theorem atF_some {L : List It} (ho : Once L) {x : It} (hx : x ∈ L) : atF L x.name = some x := by
  unfold atF
  cases h : L.find? fun y => decide (y.name = x.name) with
  | none => exact absurd (List.find?_eq_none.1 h x hx) (by simp)
  | some y =>
    have h1 := List.find?_some h
    exact congrArg some (ho.inj (List.mem_of_find?_eq_some h) hx (by simpa using h1))
theorem atF_none {L : List It} {s : ByteArray} (h : ∀ x ∈ L, x.name ≠ s) : atF L s = none := by
  unfold atF
  rw [List.find?_eq_none]
  intro x hx
  simpa using h x hx
theorem hasF_at (L : List It) (s : ByteArray) : hasF L s = (atF L s).isSome := by
  unfold hasF atF
  rw [Bool.eq_iff_iff, List.any_eq_true, List.find?_isSome]
/-- What the map tells of a name. -/
theorem DI.look (h : DI W S D L M rv n f g) (s : ByteArray) : (g (.string s) = none ∧ atF L s = none) ∨ ∃ i, i < n ∧ (f i).it.name = s ∧ g (.string s) = some (.pointer (some ⟨(f i).blk, 0, none⟩)) ∧ atF L s = some (f i).it := by
  cases hg : g (.string s) with
  | none =>
    refine .inl ⟨rfl, atF_none fun x hx e => ?_⟩
    obtain ⟨i, hi, rfl⟩ := (h.mem x).1 hx
    rw [← e, h.gin i hi] at hg
    cases hg
  | some u =>
    obtain ⟨i, hi, e⟩ := h.gout _ _ hg
    injection e with e
    subst e
    exact .inr ⟨i, hi, rfl, by rw [← hg, h.gin i hi], atF_some h.once ((h.mem _).2 ⟨i, hi, rfl⟩)⟩
end
set_option maxRecDepth 100000 in
theorem new_any (w : World) : Calls Try.prog 8 #[] w fun e w' => ∃ D, e = .returned (.pointer (some ⟨D, 0, none⟩)) ∧ DW w' (fun b => w.heap.size ≤ b ∧ b < w'.heap.size) D [] ∧ Below w.heap.size w w' := by
  have hmm := @run_makeMap Try.prog
  go_enter Try.func8, Try.ntmps8
  go_wp2
  go_ret
  have hb : Bx ((w.alloc (.map #[] 0)).alloc (.cells #[.slice none 0 0, .map (some w.heap.size)] 55)) (w.heap.size + 1) #[.slice none 0 0, .map (some w.heap.size)] 55 := by
    have := Bx.new (w.alloc (.map #[] 0)) #[.slice none 0 0, .map (some w.heap.size)] 55
    simpa using this
  have hdi : DI ((w.alloc (.map #[] 0)).alloc (.cells #[.slice none 0 0, .map (some w.heap.size)] 55)) (fun b => w.heap.size ≤ b ∧ b < ((w.alloc (.map #[] 0)).alloc (.cells #[.slice none 0 0, .map (some w.heap.size)] 55)).heap.size) (w.heap.size + 1) [] w.heap.size (.slice none 0 0) 0 (fun _ => default) (fun _ => none) :=
    ⟨HO.nil_ hb, fun k h0 hk => by omega, (Mp.made w).alloc _, fun i hi => by omega, fun v u h => (by cases h), List.Pairwise.nil, rfl, fun x => ⟨fun h => absurd h List.not_mem_nil, fun ⟨i, hi, _⟩ => by omega⟩, by omega, by simp [Value.ownBlock], fun i hi => by omega, ⟨by omega, by simp⟩, ⟨by omega, by simp; omega⟩, fun k h => by simp [Value.ownBlock] at h, fun i hi => by omega⟩
  exact ⟨w.heap.size + 1, rfl, ⟨_, _, _, _, _, hdi⟩, ((Below.refl _ _).alloc (Nat.le_refl _) _).alloc (by simp) _⟩
theorem len_any {W : World} {S : Nat → Prop} {D : Nat} {L : List It} (h : DW W S D L) (hn : L.length ≤ 100000) : Calls Try.prog 12 #[.pointer (some ⟨D, 0, none⟩)] W fun e w' => e = .returned (.int .i64 L.length) ∧ W = w' := by
  obtain ⟨M, rv, n, f, g, h⟩ := h
  have c1 := h.ho.d.cells
  obtain ⟨A, c, hv⟩ := h.ho.own.form
  rw [blks_len] at hv
  subst hv
  have hl := h.len
  subst hl
  have hn1 : (L.length : Int) ≤ 100000 := by omega
  clear h
  go_enter Try.func12, Try.ntmps12
  go_wp2
  go_ret
  exact ⟨rfl, rfl⟩
theorem next_any {W : World} {S : Nat → Prop} {D : Nat} {L : List It} (h : DW W S D L) (hn : L.length ≤ 100000) : Calls Try.prog 15 #[.pointer (some ⟨D, 0, none⟩)] W fun e w' => e = .returned (.tuple #[.int .i64 (L.headD ⟨⟨#[]⟩, 0⟩).mom, .bool (decide (0 < L.length))]) ∧ W = w' := by
  obtain ⟨M, rv, n, f, g, h⟩ := h
  have c1 := h.ho.d.cells
  by_cases h0 : n = 0
  · obtain ⟨A, c, hv⟩ := h.ho.own.form
    rw [blks_len] at hv
    subst hv h0
    have hl : L = [] := List.eq_nil_of_length_eq_zero h.len
    subst hl
    clear h
    go_enter Try.func15, Try.ntmps15
    go_wp2
    go_ret2
    exact ⟨rfl, rfl⟩
  · obtain ⟨R, c, rfl, hr⟩ := h.ho.hr (by omega)
    obtain ⟨t, ht⟩ := h.first (by omega)
    have k1 := hr.cell (i := 0) (by omega)
    have k2 := (hr.it 0 (by omega)).cells
    have hln := h.len
    have hn0 : (0 : Int) < n := by omega
    have hb0 : ((n : Int) == 0) = false := by rw [beq_eq_false_iff_ne]; omega
    have hz : Hid (L.headD ⟨⟨#[]⟩, 0⟩ = (f 0).it ∧ decide (0 < L.length) = true) := ⟨by rw [ht]; rfl, by simp; omega⟩
    rw [hz.out.1, hz.out.2]
    generalize f 0 = x at k1 k2
    clear h hr ht hz hln hn
    go_enter Try.func15, Try.ntmps15
    go_wp2
    go_ret2
    exact ⟨rfl, rfl⟩
/-- A moment, and whether there is one. -/
def momF (o : Option It) : Int := (o.map (·.mom)).getD 0
theorem at_any {W : World} {S : Nat → Prop} {D : Nat} {L : List It} (h : DW W S D L) (s : ByteArray) (hs : okStr s) : Calls Try.prog 19 #[.pointer (some ⟨D, 0, none⟩), .string s] W fun e w' => e = .returned (.tuple #[.int .i64 (momF (atF L s)), .bool (atF L s).isSome]) ∧ W = w' := by
  obtain ⟨M, rv, n, f, g, h⟩ := h
  have c1 := h.ho.d.cells
  have hl := h.map.look kl_string map_type zero_ptr (key_string hs) true
  rcases h.look s with ⟨h1, h2⟩ | ⟨i, hi, h1, h2, h3⟩
  · rw [h1] at hl
    rw [h2]
    clear h h1 h2
    go_enter Try.func19, Try.ntmps19
    go_wp2
    go_ret2
    exact ⟨rfl, rfl⟩
  · rw [h2] at hl
    rw [h3]
    have k2 := (h.ho.it i hi).cells
    generalize f i = x at *
    clear h h1 h2 h3
    go_enter Try.func19, Try.ntmps19
    go_wp2
    go_ret2
    exact ⟨rfl, rfl⟩
/-- What Drop leaves of the things. -/
theorem DI.minus {W W1 W2 : World} {S : Nat → Prop} {D : Nat} {L : List It} {M R c n i : Nat} {f f' : Nat → Nd} {g : Value → Option Value} (h : DI W S D L M (.slice (some ⟨R, 0, none⟩) (n + 1) c) (n + 1) f g) (hi : i < n + 1)
    (h1 : HR W1 D (.map (some M)) R c n f') (hm : Minus n i f f') (hh : HeapOn ltN f' n) (hk : Kp (ReS D R (n + 1) f) W W1) (hmap : Mp Try.prog 9 W2 M (updK g (.string (f i).it.name) none)) (hw : Wr M W1 W2) :
    DW W2 S D (dropF L (f i).it.name) := by
  have hR : R ≠ M := fun e => h.mR (by simp [Value.ownBlock, e])
  have hM' : ∀ k, k < n → (f' k).blk ≠ M ∧ ∃ j, j < n + 1 ∧ j ≠ i ∧ f j = f' k := fun k hk' => by
    obtain ⟨j, hj, hne, e⟩ := hm.1 k hk'
    exact ⟨by rw [← e]; exact h.mI j hj, j, hj, hne, e⟩
  have hr : HR W2 D (.map (some M)) R c n f' := by
    obtain ⟨cs, hx, h3, h4⟩ := h1.r
    exact ⟨h1.d.wr hw (Ne.symm h.mD), ⟨cs, hx.wr hw hR, h3, h4⟩, fun k hk' => (h1.it k hk').wr hw (hM' k hk').1, h1.inj, h1.dr, h1.ne, h1.nc, h1.cm⟩
  refine ⟨M, _, n, f', _, hr.ho, hh, hmap, ?_, ?_, h.ris.drop _, ?_, ?_, h.mD, ?_, fun k hk' => (hM' k hk').1, h.sD, h.sM, ?_, ?_⟩
  · intro k hk'
    obtain ⟨j, hj, hne, e⟩ := (hM' k hk').2
    rw [updK_other _ _ _ (fun e2 => hne (h.inj hj hi (by rw [e]; injection e2)))]
    rw [← e]
    exact h.gin j hj
  · intro v u hv
    by_cases e : v = .string (f i).it.name
    · rw [e, updK_same] at hv; cases hv
    · rw [updK_other _ _ _ e] at hv
      obtain ⟨j, hj, e2⟩ := h.gout v u hv
      obtain ⟨k, hk', e3⟩ := hm.2 j hj (fun e4 => e (by rw [e2, e4]))
      exact ⟨k, hk', by rw [e2, e3]⟩
  · have h5 : hasF L (f i).it.name = true := by
      rw [hasF_at, atF_some h.once ((h.mem _).2 ⟨i, hi, rfl⟩)]; rfl
    have := length_dropF h.once h5
    have := h.len
    omega
  · intro x
    rw [mem_dropF, h.mem]
    constructor
    · rintro ⟨⟨j, hj, rfl⟩, hne⟩
      obtain ⟨k, hk', e⟩ := hm.2 j hj (fun e => hne (by rw [e]))
      exact ⟨k, hk', by rw [e]⟩
    · rintro ⟨k, hk', rfl⟩
      obtain ⟨j, hj, hne, e⟩ := (hM' k hk').2
      rw [← e]
      exact ⟨⟨j, hj, rfl⟩, fun e2 => hne (h.inj hj hi e2)⟩
  · simp [Value.ownBlock]; exact hR
  · intro k e
    simp only [Value.ownBlock] at e
    exact h.sR k (by simpa [Value.ownBlock] using e)
  · intro k hk'
    obtain ⟨j, hj, _, e⟩ := (hM' k hk').2
    rw [← e]
    exact h.sI j hj
set_option maxRecDepth 100000 in
theorem drop_di {W : World} {S : Nat → Prop} {D : Nat} {L : List It} {M : Nat} {rv : Value} {n : Nat} {f : Nat → Nd} {g : Value → Option Value} (h : DI W S D L M rv n f g) (hn : L.length ≤ 100000) {i : Nat} (hi : i < n) (hs : okStr (f i).it.name) :
    Calls Try.prog 9 #[.pointer (some ⟨D, 0, none⟩), .string (f i).it.name] W fun e w' => e = .returned (.bool true) ∧ DW w' S D (dropF L (f i).it.name) ∧ Kp S W w' ∧ w'.cell? ⟨(f i).blk, 0, none⟩ = some (.string (f i).it.name) := by
  have c1 := h.ho.d.cells
  have hl := h.map.look kl_string map_type zero_ptr (key_string hs) true
  rw [h.gin i hi] at hl
  have hln := h.len
  obtain ⟨n, rfl⟩ : ∃ k, n = k + 1 := ⟨n - 1, by omega⟩
  obtain ⟨R, c, rfl, hr⟩ := h.ho.hr (by omega)
  have k2 := (h.ho.it i hi).cells
  have HI := Lib.hid h
  have HR_ := Lib.hid hr
  have HN : Hid (n ≤ 100000) := by show n ≤ 100000; omega
  have hD := h.ho.d.lt
  clear h hr hln
  go_enter Try.func9, Try.ntmps9
  go_wp2
  go_region_with (go_at_call 22; refine (remove_any (HR_.out.step ((Below.refl _ _).drew)) hi HN.out HI.out.heap).mono ?_; rintro e w1 ⟨v, f', rfl, h1, m1, hh1, k1, nm1⟩)
  all_goals
    have k2' : Kp (ReS D R (n + 1) f) W w1 := ((Kp.refl (ReS D R (n + 1) f) W).drew).trans k1 fun _ _ e => e
    have hM : ¬ ReS D R (n + 1) f M := by
      rintro (e | e | ⟨j, hj, e⟩)
      · exact HI.out.mD e
      · exact HI.out.mR (by simp [Value.ownBlock, e])
      · exact HI.out.mI j hj e
    obtain ⟨w2, hrun, hm2, hw2⟩ := (HI.out.map.keep (k2'.block M HI.out.map.size hM)).del kl_string map_type (key_string hs) 9 0
    have c5 := h1.d.cells
    have HE := Lib.hid (HI.out.minus hi h1 m1 hh1 k2' hm2 hw2)
    have KE := Lib.hid ((k2'.mono (S' := S) (by
      rintro b (e | e | ⟨j, hj, e⟩)
      · rw [e]; exact HI.out.sD
      · exact HI.out.sR b (by simp [Value.ownBlock, e])
      · rw [← e]; exact HI.out.sI j hj)).wr hw2 HI.out.sM)
    have hN2 : w2.cell? ⟨(f i).blk, 0, none⟩ = some (.string (f i).it.name) := (hw2.cell (p := ⟨(f i).blk, 0, none⟩) (HI.out.mI i hi)).trans (nm1 i hi)
    have HN2 := Lib.hid hN2
    clear h1 m1 hh1 k1 k2' hM hm2 hw2 hl k2 c1 nm1 hN2
    go_wp2
    go_ret
    exact ⟨rfl, HE.out, KE.out, HN2.out⟩
set_option maxRecDepth 100000 in
theorem drop_any {W : World} {S : Nat → Prop} {D : Nat} {L : List It} (h : DW W S D L) (hn : L.length ≤ 100000) (s : ByteArray) (hs : okStr s) :
    Calls Try.prog 9 #[.pointer (some ⟨D, 0, none⟩), .string s] W fun e w' => e = .returned (.bool (hasF L s)) ∧ DW w' S D (dropF L s) ∧ Kp S W w' := by
  have h0 := h
  obtain ⟨M, rv, n, f, g, h⟩ := h
  have c1 := h.ho.d.cells
  have hl := h.map.look kl_string map_type zero_ptr (key_string hs) true
  have hat := hasF_at L s
  rcases h.look s with ⟨h1, h2⟩ | ⟨i, hi, h1, h2, h3⟩
  · rw [h1] at hl
    rw [h2] at hat
    rw [dropF_none hat, hat]
    have H0 := Lib.hid h0
    clear h h1 h2 h0 hat
    go_enter Try.func9, Try.ntmps9
    go_wp2
    go_ret
    exact ⟨rfl, H0.out, Kp.refl _ _⟩
  · subst h1
    rw [h3] at hat
    rw [hat]
    exact (drop_di h hn hi hs).mono fun e w' ⟨h1, h2, h3, _⟩ => ⟨h1, h2, h3⟩
end Go.Proofs.Ytfbalabmidobeaa
