/- Put together by program of: Sw2, Sw3. -/
import Derived.Test.YtggomjfllbljeaaGreatDoorSw1
import Derived.Lib.BufferWrite
namespace Go.Proofs.YtggomjfllbljeaaGreatDoor
set_option linter.unusedVariables false
open Go Go.RowKit
theorem bytes_sl (w : World) (s : ByteArray) :
    ∃ w1 c, (convert 9 57 (.string s)).run Tryz.prog w = .ok (.slice (some ⟨w.heap.size, 0, none⟩) s.size c) w1 ∧ Below w.heap.size w w1 ∧ w.heap.size < w1.heap.size ∧ Sl w1 w.heap.size w1.heap.size tBy (some ⟨w.heap.size, 0, none⟩) s.size (bl s) := by
  obtain ⟨w1, c, hrun, hb, hz, hcell⟩ := bytes_of (P := Tryz.prog) w 9 57 5 s Tryz.underlying9 Tryz.underlying57 Tryz.underlying5
  refine ⟨w1, c, hrun, hb, hz, bl_size s, fun _ _ => trivial, fun _ => ⟨w.heap.size, 0, rfl, Nat.le_refl _, hz, fun k x hx j u hu => ?_⟩⟩
  have hk : k < s.size := by
    have := (List.getElem?_eq_some_iff.1 hx).1
    rw [bl_size] at this
    exact this
  have hj : j = 0 ∧ u = .int .u8 x.toNat := by
    rcases j with _ | j
    · simp [tBy] at hu; exact ⟨rfl, hu.symm⟩
    · simp [tBy] at hu
  obtain ⟨rfl, rfl⟩ := hj
  have h := hcell k hk
  have hb2 : bat s k = x.toNat := by
    unfold bat
    rw [show s.data.toList[k]? = some x from hx]
    rfl
  rw [hb2] at h
  rw [show 0 + k * tBy.sz + 0 = k by show 0 + k * 1 + 0 = k; omega]
  exact h
theorem sl_strs : SlT Tryz.prog 52 9 1 := SlT.mk' (z := .string ⟨#[]⟩) (b := 16) Tryz.underlying52 (by kernel_rfl) (by omega) rfl
set_option maxRecDepth 100000 in
set_option maxHeartbeats 4000000 in
theorem lines_one {W : World} {g : Nat} {s : ByteArray} {t : TypeId} (hg : Bx W g #[.string s] t) (hs : s.size ≤ 64) (hp : ∀ x ∈ bl s, 32 ≤ x.toNat ∧ x.toNat ≤ 126) :
    Calls Tryz.prog 147 #[.slice (some ⟨g, 0, none⟩) 1 1] W (RetOwn W 9 tStr [⟨(padB (bl s)).toArray⟩]) := by
  have c1 := hg.cells
  have z1 := hg.lt
  obtain ⟨W1, cc, hrun, hb1, hz1, hs1⟩ := bytes_sl W s
  have hs2 := Lib.hid hs1
  have hm1 : min (1 : Int) 400 = 1 := by decide
  have hhs : ¬ (64 : Int) < s.size := by omega
  go_enter Tryz.func147, Tryz.ntmps147
  go_wp2
  go_loopw [3, 5, 6, 13] (fun v _ _ i wr => (i = .int .i64 0 ∧ v = .slice none 0 0 ∧ wr = W) ∨ (i = .int .i64 1 ∧ Own wr W.heap.size 9 tStr v [⟨(padB (bl s)).toArray⟩] ∧ Below W.heap.size W wr)) (fun _ _ _ i _ => 1 - (intOf i).toNat)
  case atStart => exact .inl ⟨rfl, rfl, rfl⟩
  case round =>
    rcases hrel with ⟨rfl, rfl, rfl⟩ | ⟨rfl, ho, hb⟩
    · go_wp2
      have HB1 := Lib.hid hb1
      clear hb1 hrun hs1
      have hzz : wr.heap.size ≤ W1.heap.size := HB1.out.size
      go_loop [3, 6] (fun u v => u = .slice none 0 0 ∧ v = .slice (some ⟨wr.heap.size, 0, none⟩) s.size cc) (fun _ _ => 0)
      case atStart => exact ⟨rfl, rfl⟩
      case round =>
        obtain ⟨rfl, rfl⟩ := hrel
        go_wp2_with fail
        refine (row_any hs2.out (by omega) (Nat.le_refl _) hp).mono ?_
        rintro e V2 ⟨rfl, hb2⟩
        have hzy : W1.heap.size ≤ V2.heap.size := hb2.size
        have hb3 : Below wr.heap.size wr V2 := HB1.out.trans (hb2.mono HB1.out.size)
        have HPL := Lib.hid (padB_len (l := bl s) (by rw [bl_size]; exact hs))
        clear hb2
        go_wp2_with (at_builtin; refine push_law (l := []) rfl (.tmp 30) (.tmp 33) rfl sl_strs rfl (Own.nil_ V2 wr.heap.size 9 tStr) ⟨(padB (bl s)).toArray⟩ (by show (⟨(padB (bl s)).toArray⟩ : ByteArray).size ≤ 9223372036854775807; rw [show (⟨(padB (bl s)).toArray⟩ : ByteArray).size = (padB (bl s)).length from rfl, HPL.out]; decide) _ rfl rfl (by omega) (by simp) ?_; intro v1 w1 ho1 hbb1)
        exact ⟨.inr ⟨rfl, ho1, hb3.trans hbb1⟩, by simp [intOf]⟩
    · obtain ⟨A9, c9, hv9⟩ := ho.form
      subst hv9
      go_wp2
      go_ret
      exact RetOwn.mk' ho hb
end Go.Proofs.YtggomjfllbljeaaGreatDoor
namespace Go.Proofs.YtggomjfllbljeaaGreatDoor
set_option linter.unusedVariables false
open Go Go.RowKit
/-- N bytes, of which k are written. -/
def rowN (N : Nat) (p : List UInt8) (k : Nat) : Array Value := ((p.take k).map (fun b => Value.int .u8 b.toNat) ++ List.replicate (N - k) (Value.int .u8 0)).toArray
theorem rowN_size {N : Nat} {p : List UInt8} {k : Nat} (hp : p.length = N) (hk : k ≤ N) : (rowN N p k).size = N := by simp [rowN]; omega
theorem rowN_copy {N : Nat} {p : List UInt8} {o n : Nat} (hp : p.length = N) (ho : o + n ≤ N) :
    ((rowN N p o).toList.take o ++ Lib.byteCells ((p.drop o).take n) ++ (rowN N p o).toList.drop (o + n)).toArray = rowN N p (o + n) := by
  have ht : ((p.take o).map (fun b => Value.int .u8 b.toNat)).length = o := by rw [List.length_map, List.length_take]; omega
  have e1 : p.take (o + n) = p.take o ++ (p.drop o).take n := List.take_add
  have e2 : Lib.byteCells ((p.drop o).take n) = ((p.drop o).take n).map (fun b => Value.int .u8 b.toNat) := rfl
  simp only [rowN, List.toList_toArray]
  congr 1
  rw [e1, List.map_append, e2]
  generalize (p.take o).map (fun b => Value.int .u8 b.toNat) = a at ht ⊢
  generalize ((p.drop o).take n).map (fun b => Value.int .u8 b.toNat) = q
  rw [List.take_left' ht, List.drop_append, List.drop_eq_nil_of_le (by rw [ht]; omega), ht, List.nil_append, List.drop_replicate]
  rw [show o + n - o = n by omega, show N - o - n = N - (o + n) by omega]
/-- The bytes of the screen of one line. -/
def scrB (l : List UInt8) : List UInt8 := padB l ++ List.replicate 1472 32
theorem scrB_len {l : List UInt8} (h : l.length ≤ 64) : (scrB l).length = 1536 := by rw [scrB, List.length_append, padB_len h, List.length_replicate]
theorem scrB_row0 {l : List UInt8} (h : l.length ≤ 64) : ((scrB l).drop 0).take 64 = padB l := by
  rw [List.drop_zero, scrB, List.take_left' (padB_len h)]
theorem scrB_row {l : List UInt8} (h : l.length ≤ 64) {j : Nat} (h0 : 0 < j) (hj : j < 24) : ((scrB l).drop (64 * j)).take 64 = padB [] := by
  rw [scrB, List.drop_append, List.drop_eq_nil_of_le (by rw [padB_len h]; omega), padB_len h, List.nil_append, List.drop_replicate, List.take_replicate]
  simp only [padB, List.nil_append, List.length_nil]
  congr 1
  omega
def scrC (l : List UInt8) : Array Value := ((scrB l).map (fun b => Value.int .u8 b.toNat)).toArray
theorem rowN_full {l : List UInt8} (h : l.length ≤ 64) : rowN 1536 (scrB l) 1536 = scrC l := by
  simp only [rowN, scrC, Nat.sub_self, List.replicate_zero, List.append_nil]
  rw [List.take_of_length_le (by rw [scrB_len h]; omega)]
theorem scrC_one (l : List UInt8) : (scrC l).all (·.oneCell') = true := by
  rw [Array.all_eq_true_iff_forall_mem]
  intro v hv
  simp only [scrC, List.mem_toArray, List.mem_map] at hv
  obtain ⟨b, _, rfl⟩ := hv
  rfl
theorem scrC_size {l : List UInt8} (h : l.length ≤ 64) : (scrC l).size = 1536 := by
  rw [← rowN_full h, rowN_size (scrB_len h) (Nat.le_refl _)]
set_option maxRecDepth 100000 in
theorem info_scr : (Tryz.prog.info? 67).map (fun i => (i.zero, i.size)) = some (some (.agg (Array.replicate 1536 (.int .u8 0))), 1536) := by kernel_rfl
theorem pages_one (W : World) (A : Option Addr) (c : Nat) : Calls Tryz.prog 148 #[.slice A 1 c] W fun e W' => e = .returned (.int .i64 1) ∧ W = W' := by
  have hm1 : max (1 : Int) 1 = 1 := by decide
  have hq : Int.tdiv 23 23 = 1 := by decide
  go_enter Tryz.func148, Tryz.ntmps148
  go_wp2
  go_ret
  exact ⟨rfl, rfl⟩
/-- What a call that tells a screen of one line hands back. -/
def RetScr (W : World) (l : List UInt8) (e : Ending) (W' : World) : Prop := e = .returned (.agg (scrC l)) ∧ Below W.heap.size W W'
theorem info_scr1 : (Tryz.prog.info? 67).map (·.size) = some 1536 := (zero_of_info info_scr).2
theorem ret_scr {fn : Func} {p : Tmp} (h : fn.results = #[.cell p 67]) {R : Ending → World → Prop} {a : Act} {w : World} {g : Nat} {cs : Array Value}
    (hr : Bx w g cs 67) (hs : cs.size = 1536) (hp : a.tmps.getD p undef = .pointer (some ⟨g, 0, none⟩)) (hd : a.defers = []) (hR : R (.returned (.agg cs)) w) : bodyPost Tryz.prog fn R .ret a w :=
  bodyPost_ret (v := .agg cs) (results_cell_row h _ w g _ cs (0, 0) _ hp hr Tryz.underlying67 rfl (by rw [hs]; exact info_scr1)) hd hR
theorem step_copy_str {ops : Array Oper} {o : Oper} {a : Act} {K : Act → World → Prop} {Q : Exit → Act → World → Prop} {E : Prop} {w : World} (hgd : o.guard = none) (x y : Operand) (ho : o.op = .call { callee := .builtin .copy, args := #[x, y], argTypes := #[57, 9] })
    {g of n c k N : Nat} {p l : List UInt8} {t : TypeId} (hx : a.eval x = .slice (some ⟨g, of, none⟩) n c) (hof : of = k) (hy : a.eval y = .string ⟨l.toArray⟩) (hg : Bx w g (rowN N p k) t) (hp : p.length = N) (hl : (p.drop k).take n = l) (hln : l.length = n) (hN : k + n ≤ N)
    (h : K (a.put o.dst (goInt n)) (w.setRow g (rowN N p (k + n)))) : if Region.wanted o (yielded ops a.tmps) = true then o.wp Tryz.prog a w K Q else E := by
  have hw : Region.wanted o (yielded ops a.tmps) = true := by simp [Region.wanted, hgd]
  subst hof
  have hsz : (⟨l.toArray⟩ : ByteArray).size = n := hln
  have hr := fun ty => Lib.run_copy_row_string (P := Tryz.prog) w 57 9 ty 5 g of n c ⟨l.toArray⟩ (rowN N p of) t Tryz.underlying57 (by kernel_rfl) hg (by rw [hsz]; exact Nat.le_refl _) (by rw [hsz, rowN_size hp (by omega)]; exact hN)
  rw [hsz] at hr
  have e := rowN_copy (p := p) (o := of) (n := n) hp hN
  rw [hl] at e
  have e' : ((rowN N p of).toList.take of ++ Lib.byteCells (⟨l.toArray⟩ : ByteArray).data.toList ++ (rowN N p of).toList.drop (of + n)).toArray = rowN N p (of + n) := e
  rw [e'] at hr
  rw [if_pos hw]
  unfold Oper.wp execOp
  simp only [ho, resolve, invoke, builtin, Sem.run_bind, Sem.run_pure, Result.andThen_ok, List.map_toArray, List.map_cons, List.map_nil, hx, hy, hr]
  exact h
theorem padB_idem {l : List UInt8} (h : l.length ≤ 64) : padB (padB l) = padB l := by
  have := padB_len h
  rw [padB, this]
  simp
theorem padB_ok {l : List UInt8} (h : ∀ x ∈ l, 32 ≤ x.toNat ∧ x.toNat ≤ 126) : ∀ x ∈ padB l, 32 ≤ x.toNat ∧ x.toNat ≤ 126 := fun x hx => by
  rcases List.mem_append.1 hx with hx | hx
  · exact h x hx
  · rw [(List.mem_replicate.1 hx).2]; decide
theorem nil_bytes_ok : ∀ x ∈ bl (⟨#[]⟩ : ByteArray), 32 ≤ x.toNat ∧ x.toNat ≤ 126 := fun x hx => by cases hx
set_option maxRecDepth 100000 in
theorem zero_scr : Tryz.zeroCells67 = (List.replicate 1536 (Value.int .u8 0)).toArray := by kernel_rfl
theorem rowN_0 (p : List UInt8) : rowN 1536 p 0 = Tryz.zeroCells67 := by
  rw [zero_scr]
  rfl
set_option maxRecDepth 100000 in
set_option maxHeartbeats 8000000 in
theorem render_one {W : World} {g : Nat} {s : ByteArray} {t : TypeId} (hg : Bx W g #[.string s] t) (hs : s.size ≤ 64) (hp : ∀ x ∈ bl s, 32 ≤ x.toNat ∧ x.toNat ≤ 126) :
    Calls Tryz.prog 84 #[.int .i64 0, .slice (some ⟨g, 0, none⟩) 1 1] W (RetScr W (bl s)) := by
  have z1 := hg.lt
  go_enter Tryz.func84, Tryz.ntmps84
  go_upto_region 1 with fail
  refine wp_world (fun V => Bx V W.heap.size Tryz.zeroCells67 67 ∧ Bx V g #[.string s] t ∧ Below W.heap.size W V) ⟨Bx.new _ _ _, hg.alloc _, (Below.refl _ _).alloc (Nat.le_refl _) _⟩ ?_
  rintro V1 ⟨b1, hg1, hb1⟩
  go_wp2_with fail
  refine (lines_one hg1 hs hp).mono ?_
  rintro e V2 ⟨A, c, rfl, ho, hb2⟩
  have b2 := b1.below hb2 b1.lt
  have hb3 : Below W.heap.size W V2 := hb1.trans (hb2.mono hb1.size)
  have hz1 := b1.lt
  have HO := Lib.hid ho.sl
  clear b1 hg1 hb1 ho hb2
  go_wp2_with fail
  refine (pages_one _ _ _).mono ?_
  rintro e V3 ⟨rfl, rfl⟩
  go_upto_region 5 with fail
  refine wp_world (fun V => Bx V W.heap.size Tryz.zeroCells67 67 ∧ Bx V V2.heap.size (rowN 1536 (scrB (bl s)) 0) 67 ∧ Sl V V1.heap.size V2.heap.size tStr A 1 [⟨(padB (bl s)).toArray⟩] ∧ Below W.heap.size W V) ⟨b2.alloc _, by rw [rowN_0]; exact Bx.new _ _ _, HO.out.alloc (Nat.le_refl _) _, hb3.alloc (by have := hb3.size; omega) _⟩ ?_
  have hz2 : W.heap.size < V2.heap.size := b2.lt
  have HOK := Lib.hid hz2
  clear HO b2 hb3
  rintro V3 ⟨b2, b7, hso, hb3⟩
  have HSO := Lib.hid hso
  clear hso
  go_wp2
  go_loopw [8, 9, 10, 20] (fun _ _ _ i wr => ∃ j : Nat, j ≤ 24 ∧ i = .int .i64 j ∧ Bx wr W.heap.size Tryz.zeroCells67 67 ∧ Bx wr V2.heap.size (rowN 1536 (scrB (bl s)) (64 * j)) 67 ∧ Sl wr V1.heap.size V2.heap.size tStr A 1 [⟨(padB (bl s)).toArray⟩] ∧ Below W.heap.size W wr) (fun _ _ _ i _ => 24 - (intOf i).toNat)
  case atStart => exact ⟨0, Nat.zero_le _, rfl, b2, b7, HSO.out, hb3⟩
  case round =>
    clear b2 b7 HSO hb3
    obtain ⟨j, hj, rfl, b2, b7, hso, hb3⟩ := hrel
    have z7 := b7.lt
    by_cases hlt : j < 24
    · by_cases hj0 : j = 0
      · subst hj0
        obtain ⟨b, o, x, hA, _, _, hx, _, hc⟩ := hso.str_ (show 0 < 1 by omega)
        have hx' := hx.out
        simp only [List.getElem?_cons_zero, Option.some.injEq] at hx'
        subst hx'
        subst hA
        clear hx
        have hc0 : wr.cell? ⟨b, o, none⟩ = some (.string ⟨(padB (bl s)).toArray⟩) := by simpa using hc
        clear hc
        rw [show ((0 : Nat) : Int) = 0 from rfl]
        go_upto_region 14 with fail
        refine wp_region_held_drew (S := fun _ => True) (by kernel_rfl) trivial (fun hS => ?_)
        refine tk (i := 0) (oi := { dst := some 53, op := .move (.tmp 8), type := 3, pos := "screen.go:61", after := #[], guard := none }) (v := ?_) ?_ hS ?_
        rotate_left
        · intro w9 hS9; skip; go_simp; try with_reducible rfl
        try simp only [Act.put]
        try simp only [List.setIfInBounds_toArray]
        try simp only [List.set_cons_zero]
        try simp only [List.set_cons_succ]
        try simp only [List.set_cons_zero]
        refine tk (i := 1) (oi := { dst := some 54, op := .indexAddr 67 (.tmp 7) (.tmp 53), type := 0, pos := "screen.go:61", after := #[⟨0, .data⟩], guard := none }) (v := ?_) ?_ hS ?_
        rotate_left
        · intro w9 hS9; skip; go_simp; try with_reducible rfl
        try simp only [Act.put]
        try simp only [List.setIfInBounds_toArray]
        try simp only [List.set_cons_zero]
        try simp only [List.set_cons_succ]
        try simp only [List.set_cons_zero]
        refine tk (i := 2) (oi := { dst := some 55, op := .slice 65 (.tmp 54) none none none, type := 57, pos := "screen.go:61", after := #[⟨1, .data⟩], guard := none }) (v := ?_) ?_ hS ?_
        rotate_left
        · intro w9 hS9; skip; go_simp; try with_reducible rfl
        try simp only [Act.put]
        try simp only [List.setIfInBounds_toArray]
        try simp only [List.set_cons_zero]
        try simp only [List.set_cons_succ]
        try simp only [List.set_cons_zero]
        refine tk (i := 3) (oi := { dst := some 56, op := .move (.tmp 9), type := 9, pos := "screen.go:61", after := #[], guard := none }) (v := ?_) ?_ hS ?_
        rotate_left
        · intro w9 hS9; skip; go_simp; try with_reducible rfl
        try simp only [Act.put]
        try simp only [List.setIfInBounds_toArray]
        try simp only [List.set_cons_zero]
        try simp only [List.set_cons_succ]
        try simp only [List.set_cons_zero]
        refine wpAnyH_ready (rs := [4]) (by kernel_rfl) (by simp) ?_
        refine AllReadyH.cons (o := { dst := some 57, op := .convert 9 57 (.tmp 56), type := 57, pos := "screen.go:61", after := #[⟨3, .data⟩], guard := none }) rfl (fun K9 hK9 => ?_) AllReadyH.nil
        obtain ⟨w5, c5, hrun, hb5, hz5, hs5⟩ := bytes_sl wr.drew ⟨(padB (bl s)).toArray⟩
        go_simp
        refine hK9.out _ _ trivial (fun hS => ?_)
        clear hK9 K9
        try simp only [Act.put]
        try simp only [List.setIfInBounds_toArray]
        try simp only [List.set_cons_zero]
        try simp only [List.set_cons_succ]
        try simp only [List.set_cons_zero]
        refine wpAnyH_ready (rs := [5]) (by kernel_rfl) (by simp) ?_
        refine AllReadyH.cons (o := { dst := some 58, op := .call { callee := .value (.func 149), args := #[.tmp 57], argTypes := #[57] }, type := 9, pos := "screen.go:61", after := #[⟨4, .data⟩], guard := none }) rfl (fun K9 hK9 => ?_) AllReadyH.nil
        go_simp
        refine (row_any (c := c5) hs5 (by show (padB (bl s)).length ≤ 64; rw [padB_len (by rw [bl_size]; exact hs)]; exact Nat.le_refl _) (Nat.le_refl _) (padB_ok hp)).mono ?_
        rintro e w6 ⟨rfl, hb6⟩
        rw [show bl (⟨(padB (bl s)).toArray⟩ : ByteArray) = padB (bl s) from rfl, padB_idem (by rw [bl_size]; exact hs)]
        refine hK9.out _ _ trivial (fun hS => ?_)
        clear hK9 K9
        try simp only [Act.put]
        try simp only [List.setIfInBounds_toArray]
        try simp only [List.set_cons_zero]
        try simp only [List.set_cons_succ]
        try simp only [List.set_cons_zero]
        refine wpAnyH_ready (rs := [6]) (by kernel_rfl) (by simp) ?_
        refine AllReadyH.cons (o := { dst := some 59, op := .call { callee := .builtin .copy, args := #[.tmp 55, .tmp 58], argTypes := #[57, 9] }, type := 3, pos := "screen.go:61", after := #[⟨2, .data⟩, ⟨5, .data⟩, ⟨5, .chain⟩], guard := none }) rfl (fun K9 hK9 => ?_) AllReadyH.nil
        have hb56 : Below wr.heap.size wr w6 := (Below.refl _ wr).drew.trans ((hb5.trans (hb6.mono hb5.size)).mono (Nat.le_refl _))
        have b79 := b7.below hb56 z7
        have b29 := b2.below hb56 b2.lt
        have hs9 := hso.below hb56 (by omega)
        refine step_copy_str (k := 64 * 0) (n := 64) rfl (.tmp 55) (.tmp 58) rfl rfl (by first | rfl | omega) rfl b79 (scrB_len (by rw [bl_size]; exact hs)) (scrB_row0 (by rw [bl_size]; exact hs)) (padB_len (by rw [bl_size]; exact hs)) (by omega) ?_
        refine hK9.out _ _ trivial (fun hS => ?_)
        clear hK9 K9
        try simp only [Act.put]
        try simp only [List.setIfInBounds_toArray]
        try simp only [List.set_cons_zero]
        try simp only [List.set_cons_succ]
        try simp only [List.set_cons_zero]
        refine wpAnyH_done (by kernel_rfl) ?_ _
        have b7r := b79.row (rowN 1536 (scrB (bl s)) (64 * 0 + 64))
        have b2r := b29.rowOther (g := V2.heap.size) (by omega) (rowN 1536 (scrB (bl s)) (64 * 0 + 64))
        have hs9r := hs9.below (below_setRow (Below.refl V2.heap.size w6) (Nat.le_refl _) (rowN 1536 (scrB (bl s)) (64 * 0 + 64))) (Nat.le_refl _)
        have hb9r := below_setRow (hb3.trans (hb56.mono (by omega))) (Nat.le_of_lt hz2) (rowN 1536 (scrB (bl s)) (64 * 0 + 64))
        clear b79 b29 hs9
        go_wp2
        exact ⟨⟨0 + 1, by omega, by go_num, b2r, b7r, hs9r, hb9r⟩, by simp [intOf] <;> omega⟩
      · have hj1 : 0 < j := by omega
        by_cases hj23 : j = 23
        · subst hj23
          go_upto_region 14 with fail
          refine wp_region_held_drew (S := fun _ => True) (by kernel_rfl) trivial (fun hS => ?_)
          refine tk (i := 0) (oi := { dst := some 53, op := .move (.tmp 8), type := 3, pos := "screen.go:61", after := #[], guard := none }) (v := ?_) ?_ hS ?_
          rotate_left
          · intro w9 hS9; skip; go_simp; try with_reducible rfl
          try simp only [Act.put]
          try simp only [List.setIfInBounds_toArray]
          try simp only [List.set_cons_zero]
          try simp only [List.set_cons_succ]
          try simp only [List.set_cons_zero]
          refine tk (i := 1) (oi := { dst := some 54, op := .indexAddr 67 (.tmp 7) (.tmp 53), type := 0, pos := "screen.go:61", after := #[⟨0, .data⟩], guard := none }) (v := ?_) ?_ hS ?_
          rotate_left
          · intro w9 hS9; skip; go_simp; try with_reducible rfl
          try simp only [Act.put]
          try simp only [List.setIfInBounds_toArray]
          try simp only [List.set_cons_zero]
          try simp only [List.set_cons_succ]
          try simp only [List.set_cons_zero]
          refine tk (i := 2) (oi := { dst := some 55, op := .slice 65 (.tmp 54) none none none, type := 57, pos := "screen.go:61", after := #[⟨1, .data⟩], guard := none }) (v := ?_) ?_ hS ?_
          rotate_left
          · intro w9 hS9; skip; go_simp; try with_reducible rfl
          try simp only [Act.put]
          try simp only [List.setIfInBounds_toArray]
          try simp only [List.set_cons_zero]
          try simp only [List.set_cons_succ]
          try simp only [List.set_cons_zero]
          refine tk (i := 3) (oi := { dst := some 56, op := .move (.tmp 9), type := 9, pos := "screen.go:61", after := #[], guard := none }) (v := ?_) ?_ hS ?_
          rotate_left
          · intro w9 hS9; skip; go_simp; try with_reducible rfl
          try simp only [Act.put]
          try simp only [List.setIfInBounds_toArray]
          try simp only [List.set_cons_zero]
          try simp only [List.set_cons_succ]
          try simp only [List.set_cons_zero]
          refine wpAnyH_ready (rs := [4]) (by kernel_rfl) (by simp) ?_
          refine AllReadyH.cons (o := { dst := some 57, op := .convert 9 57 (.tmp 56), type := 57, pos := "screen.go:61", after := #[⟨3, .data⟩], guard := none }) rfl (fun K9 hK9 => ?_) AllReadyH.nil
          obtain ⟨w5, c5, hrun, hb5, hz5, hs5⟩ := bytes_sl wr.drew ⟨#[]⟩
          go_simp
          refine hK9.out _ _ trivial (fun hS => ?_)
          clear hK9 K9
          try simp only [Act.put]
          try simp only [List.setIfInBounds_toArray]
          try simp only [List.set_cons_zero]
          try simp only [List.set_cons_succ]
          try simp only [List.set_cons_zero]
          refine wpAnyH_ready (rs := [5]) (by kernel_rfl) (by simp) ?_
          refine AllReadyH.cons (o := { dst := some 58, op := .call { callee := .value (.func 149), args := #[.tmp 57], argTypes := #[57] }, type := 9, pos := "screen.go:61", after := #[⟨4, .data⟩], guard := none }) rfl (fun K9 hK9 => ?_) AllReadyH.nil
          go_simp
          refine (row_any (c := c5) hs5 (by show (0 : Nat) ≤ 64; omega) (Nat.le_refl _) nil_bytes_ok).mono ?_
          rintro e w6 ⟨rfl, hb6⟩
          rw [show bl (⟨#[]⟩ : ByteArray) = [] from rfl]
          refine hK9.out _ _ trivial (fun hS => ?_)
          clear hK9 K9
          try simp only [Act.put]
          try simp only [List.setIfInBounds_toArray]
          try simp only [List.set_cons_zero]
          try simp only [List.set_cons_succ]
          try simp only [List.set_cons_zero]
          refine wpAnyH_ready (rs := [6]) (by kernel_rfl) (by simp) ?_
          refine AllReadyH.cons (o := { dst := some 59, op := .call { callee := .builtin .copy, args := #[.tmp 55, .tmp 58], argTypes := #[57, 9] }, type := 3, pos := "screen.go:61", after := #[⟨2, .data⟩, ⟨5, .data⟩, ⟨5, .chain⟩], guard := none }) rfl (fun K9 hK9 => ?_) AllReadyH.nil
          have hb56 : Below wr.heap.size wr w6 := (Below.refl _ wr).drew.trans ((hb5.trans (hb6.mono hb5.size)).mono (Nat.le_refl _))
          have b79 := b7.below hb56 z7
          have b29 := b2.below hb56 b2.lt
          have hs9 := hso.below hb56 (by omega)
          refine step_copy_str (k := 64 * 23) (n := 64) rfl (.tmp 55) (.tmp 58) rfl rfl (by first | rfl | omega) rfl b79 (scrB_len (by rw [bl_size]; exact hs)) (scrB_row (by rw [bl_size]; exact hs) (by omega) (by omega)) rfl (by omega) ?_
          refine hK9.out _ _ trivial (fun hS => ?_)
          clear hK9 K9
          try simp only [Act.put]
          try simp only [List.setIfInBounds_toArray]
          try simp only [List.set_cons_zero]
          try simp only [List.set_cons_succ]
          try simp only [List.set_cons_zero]
          refine wpAnyH_done (by kernel_rfl) ?_ _
          have b7r := b79.row (rowN 1536 (scrB (bl s)) (64 * 23 + 64))
          have b2r := b29.rowOther (g := V2.heap.size) (by omega) (rowN 1536 (scrB (bl s)) (64 * 23 + 64))
          have hs9r := hs9.below (below_setRow (Below.refl V2.heap.size w6) (Nat.le_refl _) (rowN 1536 (scrB (bl s)) (64 * 23 + 64))) (Nat.le_refl _)
          have hb9r := below_setRow (hb3.trans (hb56.mono (by omega))) (Nat.le_of_lt hz2) (rowN 1536 (scrB (bl s)) (64 * 23 + 64))
          clear b79 b29 hs9
          go_wp2
          exact ⟨⟨23 + 1, by omega, by go_num, b2r, b7r, hs9r, hb9r⟩, by simp [intOf] <;> omega⟩
        · have hj22 : j < 23 := by omega
          go_upto_region 14 with fail
          refine wp_region_held_drew (S := fun _ => True) (by kernel_rfl) trivial (fun hS => ?_)
          refine tk (i := 0) (oi := { dst := some 53, op := .move (.tmp 8), type := 3, pos := "screen.go:61", after := #[], guard := none }) (v := ?_) ?_ hS ?_
          rotate_left
          · intro w9 hS9; skip; go_simp; try with_reducible rfl
          try simp only [Act.put]
          try simp only [List.setIfInBounds_toArray]
          try simp only [List.set_cons_zero]
          try simp only [List.set_cons_succ]
          try simp only [List.set_cons_zero]
          refine tk (i := 1) (oi := { dst := some 54, op := .indexAddr 67 (.tmp 7) (.tmp 53), type := 0, pos := "screen.go:61", after := #[⟨0, .data⟩], guard := none }) (v := ?_) ?_ hS ?_
          rotate_left
          · intro w9 hS9; skip; go_simp; try with_reducible rfl
          try simp only [Act.put]
          try simp only [List.setIfInBounds_toArray]
          try simp only [List.set_cons_zero]
          try simp only [List.set_cons_succ]
          try simp only [List.set_cons_zero]
          refine tk (i := 2) (oi := { dst := some 55, op := .slice 65 (.tmp 54) none none none, type := 57, pos := "screen.go:61", after := #[⟨1, .data⟩], guard := none }) (v := ?_) ?_ hS ?_
          rotate_left
          · intro w9 hS9; skip; go_simp; try with_reducible rfl
          try simp only [Act.put]
          try simp only [List.setIfInBounds_toArray]
          try simp only [List.set_cons_zero]
          try simp only [List.set_cons_succ]
          try simp only [List.set_cons_zero]
          refine tk (i := 3) (oi := { dst := some 56, op := .move (.tmp 9), type := 9, pos := "screen.go:61", after := #[], guard := none }) (v := ?_) ?_ hS ?_
          rotate_left
          · intro w9 hS9; skip; go_simp; try with_reducible rfl
          try simp only [Act.put]
          try simp only [List.setIfInBounds_toArray]
          try simp only [List.set_cons_zero]
          try simp only [List.set_cons_succ]
          try simp only [List.set_cons_zero]
          refine wpAnyH_ready (rs := [4]) (by kernel_rfl) (by simp) ?_
          refine AllReadyH.cons (o := { dst := some 57, op := .convert 9 57 (.tmp 56), type := 57, pos := "screen.go:61", after := #[⟨3, .data⟩], guard := none }) rfl (fun K9 hK9 => ?_) AllReadyH.nil
          obtain ⟨w5, c5, hrun, hb5, hz5, hs5⟩ := bytes_sl wr.drew ⟨#[]⟩
          go_simp
          refine hK9.out _ _ trivial (fun hS => ?_)
          clear hK9 K9
          try simp only [Act.put]
          try simp only [List.setIfInBounds_toArray]
          try simp only [List.set_cons_zero]
          try simp only [List.set_cons_succ]
          try simp only [List.set_cons_zero]
          refine wpAnyH_ready (rs := [5]) (by kernel_rfl) (by simp) ?_
          refine AllReadyH.cons (o := { dst := some 58, op := .call { callee := .value (.func 149), args := #[.tmp 57], argTypes := #[57] }, type := 9, pos := "screen.go:61", after := #[⟨4, .data⟩], guard := none }) rfl (fun K9 hK9 => ?_) AllReadyH.nil
          go_simp
          refine (row_any (c := c5) hs5 (by show (0 : Nat) ≤ 64; omega) (Nat.le_refl _) nil_bytes_ok).mono ?_
          rintro e w6 ⟨rfl, hb6⟩
          rw [show bl (⟨#[]⟩ : ByteArray) = [] from rfl]
          refine hK9.out _ _ trivial (fun hS => ?_)
          clear hK9 K9
          try simp only [Act.put]
          try simp only [List.setIfInBounds_toArray]
          try simp only [List.set_cons_zero]
          try simp only [List.set_cons_succ]
          try simp only [List.set_cons_zero]
          refine wpAnyH_ready (rs := [6]) (by kernel_rfl) (by simp) ?_
          refine AllReadyH.cons (o := { dst := some 59, op := .call { callee := .builtin .copy, args := #[.tmp 55, .tmp 58], argTypes := #[57, 9] }, type := 3, pos := "screen.go:61", after := #[⟨2, .data⟩, ⟨5, .data⟩, ⟨5, .chain⟩], guard := none }) rfl (fun K9 hK9 => ?_) AllReadyH.nil
          have hb56 : Below wr.heap.size wr w6 := (Below.refl _ wr).drew.trans ((hb5.trans (hb6.mono hb5.size)).mono (Nat.le_refl _))
          have b79 := b7.below hb56 z7
          have b29 := b2.below hb56 b2.lt
          have hs9 := hso.below hb56 (by omega)
          refine step_copy_str (k := 64 * j) (n := 64) rfl (.tmp 55) (.tmp 58) rfl rfl (by first | rfl | omega) rfl b79 (scrB_len (by rw [bl_size]; exact hs)) (scrB_row (by rw [bl_size]; exact hs) hj1 hlt) rfl (by omega) ?_
          refine hK9.out _ _ trivial (fun hS => ?_)
          clear hK9 K9
          try simp only [Act.put]
          try simp only [List.setIfInBounds_toArray]
          try simp only [List.set_cons_zero]
          try simp only [List.set_cons_succ]
          try simp only [List.set_cons_zero]
          refine wpAnyH_done (by kernel_rfl) ?_ _
          have b7r := b79.row (rowN 1536 (scrB (bl s)) (64 * j + 64))
          have b2r := b29.rowOther (g := V2.heap.size) (by omega) (rowN 1536 (scrB (bl s)) (64 * j + 64))
          have hs9r := hs9.below (below_setRow (Below.refl V2.heap.size w6) (Nat.le_refl _) (rowN 1536 (scrB (bl s)) (64 * j + 64))) (Nat.le_refl _)
          have hb9r := below_setRow (hb3.trans (hb56.mono (by omega))) (Nat.le_of_lt hz2) (rowN 1536 (scrB (bl s)) (64 * j + 64))
          clear b79 b29 hs9
          go_wp2
          exact ⟨⟨j + 1, by omega, by go_num, b2r, b7r, hs9r, hb9r⟩, by simp [intOf] <;> omega⟩
    · obtain rfl : j = 24 := by omega
      have b7' : Bx wr V2.heap.size (scrC (bl s)) 67 := by rw [← rowN_full (by rw [bl_size]; exact hs)]; exact b7
      have HSZ := Lib.hid (scrC_size (l := bl s) (by rw [bl_size]; exact hs))
      have HZZ : Hid (Tryz.zeroCells67.size = 1536) := by show _ = _; rw [zero_scr]; simp
      have HON := Lib.hid (scrC_one (bl s))
      have b2r := b2.row (scrC (bl s))
      have hb9 := below_setRow hb3 (Nat.le_refl _) (scrC (bl s))
      clear b7 hso hb3
      go_wp2_with (first | (refine wpList_load_row rfl 67 (.tmp 7) rfl V2.heap.size rfl 67 (scrC (bl s)) (0, 0) _ b7' Tryz.underlying67 rfl (by rw [HSZ.out]; exact info_scr1) ?_) | (refine wpList_store_row rfl 67 (.tmp 4) (.tmp 61) rfl W.heap.size (scrC (bl s)) rfl rfl 67 _ b2 (by rw [HSZ.out]; exact info_scr1) (by rw [HSZ.out]; exact HZZ.out) HON.out ?_))
      exact ret_scr rfl b2r HSZ.out rfl rfl ⟨rfl, hb9⟩
end Go.Proofs.YtggomjfllbljeaaGreatDoor
