/- HoldOne is true of every input. By program. -/
import Derived.Test.YtlkdefmceghmnaaGreatHd9
import Derived.Deep.RegionHeld3
import Derived.BigGuardPart
namespace Go.Proofs.YtlkdefmceghmnaaGreat
set_option linter.unusedVariables false
open Go Go.RowKit Go.Sort
theorem info_sit : (Tryz.prog.info? 67).map (·.size) = some 2 := by kernel_rfl
set_option maxRecDepth 100000 in
set_option maxHeartbeats 32000000 in
theorem holdOne_any (rl : List FlR) (A : Option Addr) (n c : Nat) (pl : List PlR) (A2 : Option Addr) (n2 c2 : Nat) (w : World) (hs : FlS w 0 w.heap.size A n rl) (hp : PlS w 0 w.heap.size A2 n2 pl) (sc : List HAct) (A3 : Option Addr) (n3 cc3 : Nat) (ha : Sl w 0 w.heap.size tHA A3 n3 sc) (at_ : Int) :
    Calls Tryz.prog 9 #[.agg #[.slice A n c, .slice A2 n2 c2], .slice A3 n3 cc3, .int .i64 at_] w (RetB w true) := by
  have HFS := Lib.hid hs
  have HPS := Lib.hid hp
  have HA := Lib.hid ha
  have HOK := Lib.hid hs.sl.wf
  have HB := box1 w #[.slice A n c, .slice A2 n2 c2] 60
  clear hs hp ha
  go_enter Tryz.func9, Tryz.ntmps9
  go_upto_region 1 with fail
  refine wp_world (fun V => Bx V w.heap.size #[.slice A n c, .slice A2 n2 c2] 60 ∧ Below w.heap.size w V) HB ?_
  clear HB
  rintro V0 ⟨bW, hb0⟩
  have BW0 := Lib.hid bW
  have HB0 := Lib.hid hb0
  have z0 := hb0.size
  clear bW hb0
  go_wp2_with fail
  refine (awake11_any V0).mono ?_
  rintro e w1 ⟨rfl, h1⟩
  have BW1 := Lib.hid (BW0.out.below h1 BW0.out.lt)
  have H1 := Lib.hid (HB0.out.trans (h1.mono z0))
  have z1 := H1.out.size
  have zW1 := BW1.out.lt
  clear h1 BW0 HB0
  have cc1 := BW1.out.cells
  go_wp2_with fail
  refine (hbegun_any rl A n c pl A2 n2 c2 w1 0 w.heap.size (HFS.out.below H1.out (Nat.le_refl _)) (HPS.out.below H1.out (Nat.le_refl _)) z1).mono ?_
  rintro e w2 ⟨h2, hq⟩
  have BW2 := Lib.hid (BW1.out.below h2 BW1.out.lt)
  have H2 := Lib.hid (H1.out.trans (h2.mono z1))
  have z2 := H2.out.size
  have z12 := h2.size
  clear h2 cc1 BW1
  rcases hq with ⟨_, rfl⟩ | ⟨hnew, lo, hi, t, p, b, rs, ps, rfl, hHK, hz, htab, hks⟩
  · go_wp2
    go_ret
    exact ⟨rfl, H2.out⟩
  have HR := Lib.hid htab.right_rs
  have HFO := Lib.hid (show ∀ f ∈ rl.map (·.f), f.ok from fun f hf => by obtain ⟨r, hr, rfl⟩ := List.mem_map.1 hf; exact (HOK.out r hr).f)
  have HHK := Lib.hid hHK
  have zb := hHK.hb
  have zbb := hHK.blt
  have zpp := hHK.plt
  clear htab hHK hnew hks
  by_cases hm : 100 < n3
  · have hm' : (100 : Int) < n3 := by omega
    go_wp2
    go_ret
    exact ⟨rfl, H2.out⟩
  have hm' : (n3 : Int) ≤ 100 := by omega
  by_cases hat : at_ < 0 ∨ (n3 : Int) ≤ at_
  · rcases hat with hat | hat
    · go_wp2
      go_ret
      exact ⟨rfl, H2.out⟩
    · have h0 : 0 ≤ at_ := by omega
      go_wp2
      go_ret
      exact ⟨rfl, H2.out⟩
  obtain ⟨m, rfl⟩ := Int.eq_ofNat_of_zero_le (show 0 ≤ at_ by omega)
  have hmn : m < n3 := by omega
  have i0 : (0 : Int) ≤ m := by omega
  have i1 : (m : Int) < n3 := by omega
  clear hat
  obtain ⟨b0, o0, a0, hA, _, hb0, hx0, hok0, d0, d1, d2, d3, d4, d5, d6, d7, d8⟩ := HA.out.ha_ hmn
  subst hA
  have HLEG := Lib.hid (fun (V : World) (hV : Below w2.heap.size w2 V) => (hleg_any rl A n c A2 n2 c2 V 0 w.heap.size (HFS.out.below (H2.out.trans (hV.mono z2)) (Nat.le_refl _)) (Nat.le_trans z2 hV.size) a0))
  have HOX := Lib.hid (legH_ok hok0 HFO.out)
  have HOS : Hid (a0.seat.ok) := hok0.seat
  unfold hactV at HLEG
  generalize legH (rl.map (·.f)) a0 = x at HLEG HOX
  have hSK : ∀ V, Below w2.heap.size w2 V → ((∀ i : Nat, V.cell? ⟨w.heap.size, i, none⟩ = (#[.slice A n c, .slice A2 n2 c2] : Array Value)[i]?) ∧ V.cell? ⟨b0, o0 + m * 9, none⟩ = some (.int .i64 a0.kind) ∧ V.cell? ⟨b0, o0 + m * 9 + 1, none⟩ = some (.int .i64 a0.fl) ∧ V.cell? ⟨b0, o0 + m * 9 + 2, none⟩ = some (.string a0.leg.key.car) ∧ V.cell? ⟨b0, o0 + m * 9 + 3, none⟩ = some (.int .i64 a0.leg.key.num) ∧ V.cell? ⟨b0, o0 + m * 9 + 4, none⟩ = some (.int .i64 a0.leg.day) ∧ V.cell? ⟨b0, o0 + m * 9 + 5, none⟩ = some (.int .i64 a0.seat.row) ∧ V.cell? ⟨b0, o0 + m * 9 + 6, none⟩ = some (.int .u8 a0.seat.let_) ∧ V.cell? ⟨b0, o0 + m * 9 + 7, none⟩ = some (.string a0.hol.loc) ∧ V.cell? ⟨b0, o0 + m * 9 + 8, none⟩ = some (.int .i64 a0.hol.pax)) := fun V hV => by
    have hV2 := H2.out.trans (hV.mono z2)
    exact ⟨(BW2.out.below hV BW2.out.lt).cells, (hV2.cell (p := ⟨b0, o0 + m * 9, none⟩) hb0).trans d0, (hV2.cell (p := ⟨b0, o0 + m * 9 + 1, none⟩) hb0).trans d1, (hV2.cell (p := ⟨b0, o0 + m * 9 + 2, none⟩) hb0).trans d2, (hV2.cell (p := ⟨b0, o0 + m * 9 + 3, none⟩) hb0).trans d3, (hV2.cell (p := ⟨b0, o0 + m * 9 + 4, none⟩) hb0).trans d4, (hV2.cell (p := ⟨b0, o0 + m * 9 + 5, none⟩) hb0).trans d5, (hV2.cell (p := ⟨b0, o0 + m * 9 + 6, none⟩) hb0).trans d6, (hV2.cell (p := ⟨b0, o0 + m * 9 + 7, none⟩) hb0).trans d7, (hV2.cell (p := ⟨b0, o0 + m * 9 + 8, none⟩) hb0).trans d8⟩
  have HSK := Lib.hid hSK
  clear hSK d0 d1 d2 d3 d4 d5 d6 d7 d8 hx0 hok0
  go_upto_region 6 with fail
  go_cut [9, 10] (fun u v w' => ∃ g9 g10, u = .pointer (some ⟨g9, 0, none⟩) ∧ v = .pointer (some ⟨g10, 0, none⟩) ∧ Bx w' g9 #[.string x.key.car, .int .i64 x.key.num, .int .i64 x.day] 27 ∧ Bx w' g10 #[.int .i64 a0.seat.row, .int .u8 a0.seat.let_] 67 ∧ Below w2.heap.size w2 w' ∧ w2.heap.size ≤ g9 ∧ w2.heap.size ≤ g10)
  case first =>
    have hB_0 := Below.refl w2.heap.size w2
    refine wp_region_held_drew (S := fun w' => (∀ i : Nat, w'.cell? ⟨w.heap.size, i, none⟩ = (#[.slice A n c, .slice A2 n2 c2] : Array Value)[i]?) ∧ w'.cell? ⟨b0, o0 + m * 9, none⟩ = some (.int .i64 a0.kind) ∧ w'.cell? ⟨b0, o0 + m * 9 + 1, none⟩ = some (.int .i64 a0.fl) ∧ w'.cell? ⟨b0, o0 + m * 9 + 2, none⟩ = some (.string a0.leg.key.car) ∧ w'.cell? ⟨b0, o0 + m * 9 + 3, none⟩ = some (.int .i64 a0.leg.key.num) ∧ w'.cell? ⟨b0, o0 + m * 9 + 4, none⟩ = some (.int .i64 a0.leg.day) ∧ w'.cell? ⟨b0, o0 + m * 9 + 5, none⟩ = some (.int .i64 a0.seat.row) ∧ w'.cell? ⟨b0, o0 + m * 9 + 6, none⟩ = some (.int .u8 a0.seat.let_) ∧ w'.cell? ⟨b0, o0 + m * 9 + 7, none⟩ = some (.string a0.hol.loc) ∧ w'.cell? ⟨b0, o0 + m * 9 + 8, none⟩ = some (.int .i64 a0.hol.pax)) (by kernel_rfl) (HSK.out _ hB_0.drew) (fun hS => ?_)
    refine wpAnyH_take (i := 0) (oi := { dst := some 44, op := Op.load 60 (Operand.tmp 3), type := 60, pos := "law.go:145", after := #[], guard := none }) (v := ?_) rfl (by kernel_rfl) (by kernel_rfl) (by kernel_rfl) (fun _ _ _ h => h) (Or.inl ⟨by rfl, ?_⟩) hS ?_
    rotate_left
    · intro w9 hS9; have q0 := hS9.1; obtain ⟨q1, q2, q3, q4, q5, q6, q7, q8, q9⟩ := hS9.2; go_simp; try with_reducible rfl
    try simp only [Act.put]
    try simp only [List.setIfInBounds_toArray]
    try simp only [List.set_cons_zero]
    try simp only [List.set_cons_succ, List.set_cons_zero]
    refine wpAnyH_take (i := 1) (oi := { dst := some 45, op := Op.move (Operand.tmp 1), type := 61, pos := "law.go:145", after := #[], guard := none }) (v := ?_) rfl (by kernel_rfl) (by kernel_rfl) (by kernel_rfl) (fun _ _ _ h => h) (Or.inl ⟨by rfl, ?_⟩) hS ?_
    rotate_left
    · intro w9 hS9; have q0 := hS9.1; obtain ⟨q1, q2, q3, q4, q5, q6, q7, q8, q9⟩ := hS9.2; go_simp; try with_reducible rfl
    try simp only [Act.put]
    try simp only [List.setIfInBounds_toArray]
    try simp only [List.set_cons_zero]
    try simp only [List.set_cons_succ, List.set_cons_zero]
    refine wpAnyH_take (i := 2) (oi := { dst := some 46, op := Op.move (Operand.tmp 2), type := 3, pos := "law.go:145", after := #[], guard := none }) (v := ?_) rfl (by kernel_rfl) (by kernel_rfl) (by kernel_rfl) (fun _ _ _ h => h) (Or.inl ⟨by rfl, ?_⟩) hS ?_
    rotate_left
    · intro w9 hS9; have q0 := hS9.1; obtain ⟨q1, q2, q3, q4, q5, q6, q7, q8, q9⟩ := hS9.2; go_simp; try with_reducible rfl
    try simp only [Act.put]
    try simp only [List.setIfInBounds_toArray]
    try simp only [List.set_cons_zero]
    try simp only [List.set_cons_succ, List.set_cons_zero]
    refine wpAnyH_take (i := 3) (oi := { dst := some 47, op := Op.indexAddr 61 (Operand.tmp 45) (Operand.tmp 46), type := 0, pos := "law.go:145", after := #[{ on := 1, ground := Ground.data }, { on := 2, ground := Ground.data }], guard := none }) (v := ?_) rfl (by kernel_rfl) (by kernel_rfl) (by kernel_rfl) (fun _ _ _ h => h) (Or.inl ⟨by rfl, ?_⟩) hS ?_
    rotate_left
    · intro w9 hS9; have q0 := hS9.1; obtain ⟨q1, q2, q3, q4, q5, q6, q7, q8, q9⟩ := hS9.2; go_simp; try with_reducible rfl
    try simp only [Act.put]
    try simp only [List.setIfInBounds_toArray]
    try simp only [List.set_cons_zero]
    try simp only [List.set_cons_succ, List.set_cons_zero]
    refine wpAnyH_take (i := 4) (oi := { dst := some 48, op := Op.load 71 (Operand.tmp 47), type := 71, pos := "law.go:145", after := #[{ on := 3, ground := Ground.data }], guard := none }) (v := ?_) rfl (by kernel_rfl) (by kernel_rfl) (by kernel_rfl) (fun _ _ _ h => h) (Or.inl ⟨by rfl, ?_⟩) hS ?_
    rotate_left
    · intro w9 hS9; have q0 := hS9.1; obtain ⟨q1, q2, q3, q4, q5, q6, q7, q8, q9⟩ := hS9.2; go_simp; try with_reducible rfl
    try simp only [Act.put]
    try simp only [List.setIfInBounds_toArray]
    try simp only [List.set_cons_zero]
    try simp only [List.set_cons_succ, List.set_cons_zero]
    refine wpAnyH_take (i := 6) (oi := { dst := some 50, op := Op.move (Operand.tmp 1), type := 61, pos := "law.go:145", after := #[{ on := 13, ground := Ground.gcOnly Departure.lateStores }], guard := none }) (v := ?_) rfl (by kernel_rfl) (by kernel_rfl) (by kernel_rfl) (fun _ _ _ h => h) (Or.inl ⟨by rfl, ?_⟩) hS ?_
    rotate_left
    · intro w9 hS9; have q0 := hS9.1; obtain ⟨q1, q2, q3, q4, q5, q6, q7, q8, q9⟩ := hS9.2; go_simp; try with_reducible rfl
    try simp only [Act.put]
    try simp only [List.setIfInBounds_toArray]
    try simp only [List.set_cons_zero]
    try simp only [List.set_cons_succ, List.set_cons_zero]
    refine wpAnyH_take (i := 7) (oi := { dst := some 51, op := Op.move (Operand.tmp 2), type := 3, pos := "law.go:145", after := #[{ on := 13, ground := Ground.gcOnly Departure.lateStores }], guard := none }) (v := ?_) rfl (by kernel_rfl) (by kernel_rfl) (by kernel_rfl) (fun _ _ _ h => h) (Or.inl ⟨by rfl, ?_⟩) hS ?_
    rotate_left
    · intro w9 hS9; have q0 := hS9.1; obtain ⟨q1, q2, q3, q4, q5, q6, q7, q8, q9⟩ := hS9.2; go_simp; try with_reducible rfl
    try simp only [Act.put]
    try simp only [List.setIfInBounds_toArray]
    try simp only [List.set_cons_zero]
    try simp only [List.set_cons_succ, List.set_cons_zero]
    refine wpAnyH_take (i := 8) (oi := { dst := some 52, op := Op.indexAddr 61 (Operand.tmp 50) (Operand.tmp 51), type := 0, pos := "law.go:145", after := #[{ on := 6, ground := Ground.data }, { on := 7, ground := Ground.data }, { on := 13, ground := Ground.gcOnly Departure.lateStores }], guard := none }) (v := ?_) rfl (by kernel_rfl) (by kernel_rfl) (by kernel_rfl) (fun _ _ _ h => h) (Or.inl ⟨by rfl, ?_⟩) hS ?_
    rotate_left
    · intro w9 hS9; have q0 := hS9.1; obtain ⟨q1, q2, q3, q4, q5, q6, q7, q8, q9⟩ := hS9.2; go_simp; try with_reducible rfl
    try simp only [Act.put]
    try simp only [List.setIfInBounds_toArray]
    try simp only [List.set_cons_zero]
    try simp only [List.set_cons_succ, List.set_cons_zero]
    refine wpAnyH_take (i := 9) (oi := { dst := some 53, op := Op.fieldAddr 71 (Operand.tmp 52) 3, type := 0, pos := "law.go:145", after := #[{ on := 8, ground := Ground.data }, { on := 13, ground := Ground.gcOnly Departure.lateStores }], guard := none }) (v := ?_) rfl (by kernel_rfl) (by kernel_rfl) (by kernel_rfl) (fun _ _ _ h => h) (Or.inl ⟨by rfl, ?_⟩) hS ?_
    rotate_left
    · intro w9 hS9; have q0 := hS9.1; obtain ⟨q1, q2, q3, q4, q5, q6, q7, q8, q9⟩ := hS9.2; go_simp; try with_reducible rfl
    try simp only [Act.put]
    try simp only [List.setIfInBounds_toArray]
    try simp only [List.set_cons_zero]
    try simp only [List.set_cons_succ, List.set_cons_zero]
    refine wpAnyH_take (i := 10) (oi := { dst := some 54, op := Op.load 67 (Operand.tmp 53), type := 67, pos := "law.go:145", after := #[{ on := 9, ground := Ground.data }, { on := 13, ground := Ground.gcOnly Departure.lateStores }], guard := none }) (v := ?_) rfl (by kernel_rfl) (by kernel_rfl) (by kernel_rfl) (fun _ _ _ h => h) (Or.inl ⟨by rfl, ?_⟩) hS ?_
    rotate_left
    · intro w9 hS9; have q0 := hS9.1; obtain ⟨q1, q2, q3, q4, q5, q6, q7, q8, q9⟩ := hS9.2; go_simp; try with_reducible rfl
    try simp only [Act.put]
    try simp only [List.setIfInBounds_toArray]
    try simp only [List.set_cons_zero]
    try simp only [List.set_cons_succ, List.set_cons_zero]
    refine wpAnyH_ready (rs := [5, 11, 12]) (by kernel_rfl) (by simp) ?_
    refine AllReadyH.cons (o := { dst := some 49, op := Op.call { callee := Callee.value (Operand.func 30), args := #[Operand.tmp 44, Operand.tmp 48], argTypes := #[60, 71] }, type := 27, pos := "law.go:145", after := #[{ on := 0, ground := Ground.data }, { on := 4, ground := Ground.data }], guard := none }) rfl (fun K9 hK9 => ?_) ?_
    · go_simp
      refine (HLEG.out _ (hB_0.drew)).mono ?_
      rintro e v1 ⟨rfl, h1⟩
      have hB_1 : Below w2.heap.size w2 v1 := hB_0.drew.trans (h1.mono (hB_0.drew.size))
      have hS_1 := HSK.out _ hB_1
      refine hK9.out _ _ hS_1 (fun hS => ?_)
      clear hK9 K9
      try simp only [Act.put]
      try simp only [List.setIfInBounds_toArray]
      try simp only [List.set_cons_zero]
      try simp only [List.set_cons_succ, List.set_cons_zero]
      refine wpAnyH_ready (rs := [11, 12]) (by kernel_rfl) (by simp) ?_
      refine AllReadyH.cons (o := { dst := some 9, op := Op.alloc 27, type := 0, pos := "law.go:145", after := #[], guard := none }) rfl (fun K9 hK9 => ?_) ?_
      · have hB_2 : Below w2.heap.size w2 (v1.alloc (.cells #[.string ⟨#[]⟩, .int .i64 0, .int .i64 0] 27)) := hB_1.alloc hB_1.size _
        have hX9_2 : ∃ g, Bx (v1.alloc (.cells #[.string ⟨#[]⟩, .int .i64 0, .int .i64 0] 27)) g #[.string ⟨#[]⟩, .int .i64 0, .int .i64 0] 27 ∧ g = v1.heap.size := ⟨_, Bx.new v1 #[.string ⟨#[]⟩, .int .i64 0, .int .i64 0] 27, rfl⟩
        obtain ⟨g9, hX9_2, hg9⟩ := hX9_2
        repeat (first | rw [World.size_alloc] at hg9 | rw [size_setRow] at hg9)
        have hl9 : w2.heap.size ≤ g9 := by have := hB_1.size; (repeat (first | rw [World.size_alloc] at this | rw [size_setRow] at this)); omega
        have hS_2 := HSK.out _ (hB_2)
        go_simp
        refine hK9.out _ _ hS_2 (fun hS => ?_)
        clear hK9 K9
        try simp only [Act.put]
        try simp only [List.setIfInBounds_toArray]
        try simp only [List.set_cons_zero]
        try simp only [List.set_cons_succ, List.set_cons_zero]
        refine wpAnyH_ready (rs := [12]) (by kernel_rfl) (by simp) ?_
        refine AllReadyH.cons (o := { dst := some 10, op := Op.alloc 67, type := 0, pos := "law.go:145", after := #[], guard := none }) rfl (fun K9 hK9 => ?_) AllReadyH.nil
        have hB_3 : Below w2.heap.size w2 ((v1.alloc (.cells #[.string ⟨#[]⟩, .int .i64 0, .int .i64 0] 27)).alloc (.cells #[.int .i64 0, .int .u8 0] 67)) := hB_2.alloc hB_2.size _
        have hX10_3 : ∃ g, Bx ((v1.alloc (.cells #[.string ⟨#[]⟩, .int .i64 0, .int .i64 0] 27)).alloc (.cells #[.int .i64 0, .int .u8 0] 67)) g #[.int .i64 0, .int .u8 0] 67 ∧ g = (v1.alloc (.cells #[.string ⟨#[]⟩, .int .i64 0, .int .i64 0] 27)).heap.size := ⟨_, Bx.new (v1.alloc (.cells #[.string ⟨#[]⟩, .int .i64 0, .int .i64 0] 27)) #[.int .i64 0, .int .u8 0] 67, rfl⟩
        obtain ⟨g10, hX10_3, hg10⟩ := hX10_3
        repeat (first | rw [World.size_alloc] at hg10 | rw [size_setRow] at hg10)
        have hl10 : w2.heap.size ≤ g10 := by have := hB_2.size; (repeat (first | rw [World.size_alloc] at this | rw [size_setRow] at this)); omega
        have hX9_3 := hX9_2.alloc (.cells #[.int .i64 0, .int .u8 0] 67)
        have hS_3 := HSK.out _ (hB_3)
        go_simp
        refine hK9.out _ _ hS_3 (fun hS => ?_)
        clear hK9 K9
        try simp only [Act.put]
        try simp only [List.setIfInBounds_toArray]
        try simp only [List.set_cons_zero]
        try simp only [List.set_cons_succ, List.set_cons_zero]
        refine wpAnyH_ready (rs := [13]) (by kernel_rfl) (by simp) ?_
        refine AllReadyH.cons (o := { dst := none, op := Op.store 27 (Operand.tmp 9) (Operand.tmp 49), type := 0, pos := "law.go:145", after := #[{ on := 11, ground := Ground.data }, { on := 5, ground := Ground.data }, { on := 5, ground := Ground.chain }, { on := 0, ground := Ground.phase }, { on := 1, ground := Ground.phase }, { on := 2, ground := Ground.phase }, { on := 3, ground := Ground.phase }, { on := 4, ground := Ground.phase }, { on := 5, ground := Ground.phase }, { on := 6, ground := Ground.textOnly Departure.lateStores }, { on := 7, ground := Ground.textOnly Departure.lateStores }, { on := 8, ground := Ground.textOnly Departure.lateStores }, { on := 9, ground := Ground.textOnly Departure.lateStores }, { on := 10, ground := Ground.textOnly Departure.lateStores }, { on := 11, ground := Ground.phase }, { on := 12, ground := Ground.phase }], guard := none }) rfl (fun K9 hK9 => ?_) AllReadyH.nil
        have hB_4 : Below w2.heap.size w2 (((v1.alloc (.cells #[.string ⟨#[]⟩, .int .i64 0, .int .i64 0] 27)).alloc (.cells #[.int .i64 0, .int .u8 0] 67)).setRow g9 #[.string x.key.car, .int .i64 x.key.num, .int .i64 x.day]) := below_setRow (hB_3) hl9 #[.string x.key.car, .int .i64 x.key.num, .int .i64 x.day]
        have hX9_4 : Bx (((v1.alloc (.cells #[.string ⟨#[]⟩, .int .i64 0, .int .i64 0] 27)).alloc (.cells #[.int .i64 0, .int .u8 0] 67)).setRow g9 #[.string x.key.car, .int .i64 x.key.num, .int .i64 x.day]) g9 #[.string x.key.car, .int .i64 x.key.num, .int .i64 x.day] 27 := Bx.row (w := ((v1.alloc (.cells #[.string ⟨#[]⟩, .int .i64 0, .int .i64 0] 27)).alloc (.cells #[.int .i64 0, .int .u8 0] 67))) hX9_3 #[.string x.key.car, .int .i64 x.key.num, .int .i64 x.day]
        have hne_4 : g10 ≠ g9 := by rintro rfl; have h1 := hX10_3; have h2 := hX9_3; have h3 := Option.some.inj (Eq.trans (Eq.symm h1) h2); injection h3 with h4; simp at h4
        have hX10_4 : Bx (((v1.alloc (.cells #[.string ⟨#[]⟩, .int .i64 0, .int .i64 0] 27)).alloc (.cells #[.int .i64 0, .int .u8 0] 67)).setRow g9 #[.string x.key.car, .int .i64 x.key.num, .int .i64 x.day]) g10 #[.int .i64 0, .int .u8 0] 67 := Bx.rowOther (w := ((v1.alloc (.cells #[.string ⟨#[]⟩, .int .i64 0, .int .i64 0] 27)).alloc (.cells #[.int .i64 0, .int .u8 0] 67))) hX10_3 hne_4 #[.string x.key.car, .int .i64 x.key.num, .int .i64 x.day]
        have hS_4 := HSK.out _ hB_4
        refine step_store_any 27 rfl (.tmp 9) (.tmp 49) (by rfl) #[.string x.key.car, .int .i64 x.key.num, .int .i64 x.day] (by rw [hg9]; rfl) (by rfl) hX9_3 info_lg rfl (by simp [Value.oneCell']) ?_
        refine hK9.out _ _ hS_4 (fun hS => ?_)
        clear hK9 K9
        try simp only [Act.put]
        try simp only [List.setIfInBounds_toArray]
        try simp only [List.set_cons_zero]
        try simp only [List.set_cons_succ, List.set_cons_zero]
        refine wpAnyH_ready (rs := [14]) (by kernel_rfl) (by simp) ?_
        refine AllReadyH.cons (o := { dst := none, op := Op.store 67 (Operand.tmp 10) (Operand.tmp 54), type := 0, pos := "law.go:145", after := #[{ on := 12, ground := Ground.data }, { on := 10, ground := Ground.data }, { on := 13, ground := Ground.chain }, { on := 0, ground := Ground.phase }, { on := 1, ground := Ground.phase }, { on := 2, ground := Ground.phase }, { on := 3, ground := Ground.phase }, { on := 4, ground := Ground.phase }, { on := 5, ground := Ground.phase }, { on := 6, ground := Ground.phase }, { on := 7, ground := Ground.phase }, { on := 8, ground := Ground.phase }, { on := 9, ground := Ground.phase }, { on := 10, ground := Ground.phase }, { on := 11, ground := Ground.phase }, { on := 12, ground := Ground.phase }, { on := 13, ground := Ground.phase }], guard := none }) rfl (fun K9 hK9 => ?_) AllReadyH.nil
        have hB_5 : Below w2.heap.size w2 ((((v1.alloc (.cells #[.string ⟨#[]⟩, .int .i64 0, .int .i64 0] 27)).alloc (.cells #[.int .i64 0, .int .u8 0] 67)).setRow g9 #[.string x.key.car, .int .i64 x.key.num, .int .i64 x.day]).setRow g10 #[.int .i64 a0.seat.row, .int .u8 a0.seat.let_]) := below_setRow (hB_4) hl10 #[.int .i64 a0.seat.row, .int .u8 a0.seat.let_]
        have hX10_5 : Bx ((((v1.alloc (.cells #[.string ⟨#[]⟩, .int .i64 0, .int .i64 0] 27)).alloc (.cells #[.int .i64 0, .int .u8 0] 67)).setRow g9 #[.string x.key.car, .int .i64 x.key.num, .int .i64 x.day]).setRow g10 #[.int .i64 a0.seat.row, .int .u8 a0.seat.let_]) g10 #[.int .i64 a0.seat.row, .int .u8 a0.seat.let_] 67 := Bx.row (w := (((v1.alloc (.cells #[.string ⟨#[]⟩, .int .i64 0, .int .i64 0] 27)).alloc (.cells #[.int .i64 0, .int .u8 0] 67)).setRow g9 #[.string x.key.car, .int .i64 x.key.num, .int .i64 x.day])) hX10_4 #[.int .i64 a0.seat.row, .int .u8 a0.seat.let_]
        have hne_5 : g9 ≠ g10 := by rintro rfl; have h1 := hX9_4; have h2 := hX10_4; have h3 := Option.some.inj (Eq.trans (Eq.symm h1) h2); injection h3 with h4; simp at h4
        have hX9_5 : Bx ((((v1.alloc (.cells #[.string ⟨#[]⟩, .int .i64 0, .int .i64 0] 27)).alloc (.cells #[.int .i64 0, .int .u8 0] 67)).setRow g9 #[.string x.key.car, .int .i64 x.key.num, .int .i64 x.day]).setRow g10 #[.int .i64 a0.seat.row, .int .u8 a0.seat.let_]) g9 #[.string x.key.car, .int .i64 x.key.num, .int .i64 x.day] 27 := Bx.rowOther (w := (((v1.alloc (.cells #[.string ⟨#[]⟩, .int .i64 0, .int .i64 0] 27)).alloc (.cells #[.int .i64 0, .int .u8 0] 67)).setRow g9 #[.string x.key.car, .int .i64 x.key.num, .int .i64 x.day])) hX9_4 hne_5 #[.int .i64 a0.seat.row, .int .u8 a0.seat.let_]
        have hS_5 := HSK.out _ hB_5
        refine step_store_any 67 rfl (.tmp 10) (.tmp 54) (by rfl) #[.int .i64 a0.seat.row, .int .u8 a0.seat.let_] (by rw [hg10]; rfl) (by rfl) hX10_4 info_sit rfl (by simp [Value.oneCell']) ?_
        refine hK9.out _ _ hS_5 (fun hS => ?_)
        clear hK9 K9
        try simp only [Act.put]
        try simp only [List.setIfInBounds_toArray]
        try simp only [List.set_cons_zero]
        try simp only [List.set_cons_succ, List.set_cons_zero]
        refine wpAnyH_done (by kernel_rfl) ?_ _
        go_wp2
        go_meet
        subst hg9
        subst hg10
        exact ⟨_, _, rfl, rfl, hX9_5, hX10_5, hB_5, hl9, hl10⟩
      refine AllReadyH.cons (o := { dst := some 10, op := Op.alloc 67, type := 0, pos := "law.go:145", after := #[], guard := none }) rfl (fun K9 hK9 => ?_) AllReadyH.nil
      have hB_2 : Below w2.heap.size w2 (v1.alloc (.cells #[.int .i64 0, .int .u8 0] 67)) := hB_1.alloc hB_1.size _
      have hX10_2 : ∃ g, Bx (v1.alloc (.cells #[.int .i64 0, .int .u8 0] 67)) g #[.int .i64 0, .int .u8 0] 67 ∧ g = v1.heap.size := ⟨_, Bx.new v1 #[.int .i64 0, .int .u8 0] 67, rfl⟩
      obtain ⟨g10, hX10_2, hg10⟩ := hX10_2
      repeat (first | rw [World.size_alloc] at hg10 | rw [size_setRow] at hg10)
      have hl10 : w2.heap.size ≤ g10 := by have := hB_1.size; (repeat (first | rw [World.size_alloc] at this | rw [size_setRow] at this)); omega
      have hS_2 := HSK.out _ (hB_2)
      go_simp
      refine hK9.out _ _ hS_2 (fun hS => ?_)
      clear hK9 K9
      try simp only [Act.put]
      try simp only [List.setIfInBounds_toArray]
      try simp only [List.set_cons_zero]
      try simp only [List.set_cons_succ, List.set_cons_zero]
      refine wpAnyH_ready (rs := [11]) (by kernel_rfl) (by simp) ?_
      refine AllReadyH.cons (o := { dst := some 9, op := Op.alloc 27, type := 0, pos := "law.go:145", after := #[], guard := none }) rfl (fun K9 hK9 => ?_) AllReadyH.nil
      have hB_3 : Below w2.heap.size w2 ((v1.alloc (.cells #[.int .i64 0, .int .u8 0] 67)).alloc (.cells #[.string ⟨#[]⟩, .int .i64 0, .int .i64 0] 27)) := hB_2.alloc hB_2.size _
      have hX9_3 : ∃ g, Bx ((v1.alloc (.cells #[.int .i64 0, .int .u8 0] 67)).alloc (.cells #[.string ⟨#[]⟩, .int .i64 0, .int .i64 0] 27)) g #[.string ⟨#[]⟩, .int .i64 0, .int .i64 0] 27 ∧ g = (v1.alloc (.cells #[.int .i64 0, .int .u8 0] 67)).heap.size := ⟨_, Bx.new (v1.alloc (.cells #[.int .i64 0, .int .u8 0] 67)) #[.string ⟨#[]⟩, .int .i64 0, .int .i64 0] 27, rfl⟩
      obtain ⟨g9, hX9_3, hg9⟩ := hX9_3
      repeat (first | rw [World.size_alloc] at hg9 | rw [size_setRow] at hg9)
      have hl9 : w2.heap.size ≤ g9 := by have := hB_2.size; (repeat (first | rw [World.size_alloc] at this | rw [size_setRow] at this)); omega
      have hX10_3 := hX10_2.alloc (.cells #[.string ⟨#[]⟩, .int .i64 0, .int .i64 0] 27)
      have hS_3 := HSK.out _ (hB_3)
      go_simp
      refine hK9.out _ _ hS_3 (fun hS => ?_)
      clear hK9 K9
      try simp only [Act.put]
      try simp only [List.setIfInBounds_toArray]
      try simp only [List.set_cons_zero]
      try simp only [List.set_cons_succ, List.set_cons_zero]
      refine wpAnyH_ready (rs := [13]) (by kernel_rfl) (by simp) ?_
      refine AllReadyH.cons (o := { dst := none, op := Op.store 27 (Operand.tmp 9) (Operand.tmp 49), type := 0, pos := "law.go:145", after := #[{ on := 11, ground := Ground.data }, { on := 5, ground := Ground.data }, { on := 5, ground := Ground.chain }, { on := 0, ground := Ground.phase }, { on := 1, ground := Ground.phase }, { on := 2, ground := Ground.phase }, { on := 3, ground := Ground.phase }, { on := 4, ground := Ground.phase }, { on := 5, ground := Ground.phase }, { on := 6, ground := Ground.textOnly Departure.lateStores }, { on := 7, ground := Ground.textOnly Departure.lateStores }, { on := 8, ground := Ground.textOnly Departure.lateStores }, { on := 9, ground := Ground.textOnly Departure.lateStores }, { on := 10, ground := Ground.textOnly Departure.lateStores }, { on := 11, ground := Ground.phase }, { on := 12, ground := Ground.phase }], guard := none }) rfl (fun K9 hK9 => ?_) AllReadyH.nil
      have hB_4 : Below w2.heap.size w2 (((v1.alloc (.cells #[.int .i64 0, .int .u8 0] 67)).alloc (.cells #[.string ⟨#[]⟩, .int .i64 0, .int .i64 0] 27)).setRow g9 #[.string x.key.car, .int .i64 x.key.num, .int .i64 x.day]) := below_setRow (hB_3) hl9 #[.string x.key.car, .int .i64 x.key.num, .int .i64 x.day]
      have hX9_4 : Bx (((v1.alloc (.cells #[.int .i64 0, .int .u8 0] 67)).alloc (.cells #[.string ⟨#[]⟩, .int .i64 0, .int .i64 0] 27)).setRow g9 #[.string x.key.car, .int .i64 x.key.num, .int .i64 x.day]) g9 #[.string x.key.car, .int .i64 x.key.num, .int .i64 x.day] 27 := Bx.row (w := ((v1.alloc (.cells #[.int .i64 0, .int .u8 0] 67)).alloc (.cells #[.string ⟨#[]⟩, .int .i64 0, .int .i64 0] 27))) hX9_3 #[.string x.key.car, .int .i64 x.key.num, .int .i64 x.day]
      have hne_4 : g10 ≠ g9 := by rintro rfl; have h1 := hX10_3; have h2 := hX9_3; have h3 := Option.some.inj (Eq.trans (Eq.symm h1) h2); injection h3 with h4; simp at h4
      have hX10_4 : Bx (((v1.alloc (.cells #[.int .i64 0, .int .u8 0] 67)).alloc (.cells #[.string ⟨#[]⟩, .int .i64 0, .int .i64 0] 27)).setRow g9 #[.string x.key.car, .int .i64 x.key.num, .int .i64 x.day]) g10 #[.int .i64 0, .int .u8 0] 67 := Bx.rowOther (w := ((v1.alloc (.cells #[.int .i64 0, .int .u8 0] 67)).alloc (.cells #[.string ⟨#[]⟩, .int .i64 0, .int .i64 0] 27))) hX10_3 hne_4 #[.string x.key.car, .int .i64 x.key.num, .int .i64 x.day]
      have hS_4 := HSK.out _ hB_4
      refine step_store_any 27 rfl (.tmp 9) (.tmp 49) (by rfl) #[.string x.key.car, .int .i64 x.key.num, .int .i64 x.day] (by rw [hg9]; rfl) (by rfl) hX9_3 info_lg rfl (by simp [Value.oneCell']) ?_
      refine hK9.out _ _ hS_4 (fun hS => ?_)
      clear hK9 K9
      try simp only [Act.put]
      try simp only [List.setIfInBounds_toArray]
      try simp only [List.set_cons_zero]
      try simp only [List.set_cons_succ, List.set_cons_zero]
      refine wpAnyH_ready (rs := [14]) (by kernel_rfl) (by simp) ?_
      refine AllReadyH.cons (o := { dst := none, op := Op.store 67 (Operand.tmp 10) (Operand.tmp 54), type := 0, pos := "law.go:145", after := #[{ on := 12, ground := Ground.data }, { on := 10, ground := Ground.data }, { on := 13, ground := Ground.chain }, { on := 0, ground := Ground.phase }, { on := 1, ground := Ground.phase }, { on := 2, ground := Ground.phase }, { on := 3, ground := Ground.phase }, { on := 4, ground := Ground.phase }, { on := 5, ground := Ground.phase }, { on := 6, ground := Ground.phase }, { on := 7, ground := Ground.phase }, { on := 8, ground := Ground.phase }, { on := 9, ground := Ground.phase }, { on := 10, ground := Ground.phase }, { on := 11, ground := Ground.phase }, { on := 12, ground := Ground.phase }, { on := 13, ground := Ground.phase }], guard := none }) rfl (fun K9 hK9 => ?_) AllReadyH.nil
      have hB_5 : Below w2.heap.size w2 ((((v1.alloc (.cells #[.int .i64 0, .int .u8 0] 67)).alloc (.cells #[.string ⟨#[]⟩, .int .i64 0, .int .i64 0] 27)).setRow g9 #[.string x.key.car, .int .i64 x.key.num, .int .i64 x.day]).setRow g10 #[.int .i64 a0.seat.row, .int .u8 a0.seat.let_]) := below_setRow (hB_4) hl10 #[.int .i64 a0.seat.row, .int .u8 a0.seat.let_]
      have hX10_5 : Bx ((((v1.alloc (.cells #[.int .i64 0, .int .u8 0] 67)).alloc (.cells #[.string ⟨#[]⟩, .int .i64 0, .int .i64 0] 27)).setRow g9 #[.string x.key.car, .int .i64 x.key.num, .int .i64 x.day]).setRow g10 #[.int .i64 a0.seat.row, .int .u8 a0.seat.let_]) g10 #[.int .i64 a0.seat.row, .int .u8 a0.seat.let_] 67 := Bx.row (w := (((v1.alloc (.cells #[.int .i64 0, .int .u8 0] 67)).alloc (.cells #[.string ⟨#[]⟩, .int .i64 0, .int .i64 0] 27)).setRow g9 #[.string x.key.car, .int .i64 x.key.num, .int .i64 x.day])) hX10_4 #[.int .i64 a0.seat.row, .int .u8 a0.seat.let_]
      have hne_5 : g9 ≠ g10 := by rintro rfl; have h1 := hX9_4; have h2 := hX10_4; have h3 := Option.some.inj (Eq.trans (Eq.symm h1) h2); injection h3 with h4; simp at h4
      have hX9_5 : Bx ((((v1.alloc (.cells #[.int .i64 0, .int .u8 0] 67)).alloc (.cells #[.string ⟨#[]⟩, .int .i64 0, .int .i64 0] 27)).setRow g9 #[.string x.key.car, .int .i64 x.key.num, .int .i64 x.day]).setRow g10 #[.int .i64 a0.seat.row, .int .u8 a0.seat.let_]) g9 #[.string x.key.car, .int .i64 x.key.num, .int .i64 x.day] 27 := Bx.rowOther (w := (((v1.alloc (.cells #[.int .i64 0, .int .u8 0] 67)).alloc (.cells #[.string ⟨#[]⟩, .int .i64 0, .int .i64 0] 27)).setRow g9 #[.string x.key.car, .int .i64 x.key.num, .int .i64 x.day])) hX9_4 hne_5 #[.int .i64 a0.seat.row, .int .u8 a0.seat.let_]
      have hS_5 := HSK.out _ hB_5
      refine step_store_any 67 rfl (.tmp 10) (.tmp 54) (by rfl) #[.int .i64 a0.seat.row, .int .u8 a0.seat.let_] (by rw [hg10]; rfl) (by rfl) hX10_4 info_sit rfl (by simp [Value.oneCell']) ?_
      refine hK9.out _ _ hS_5 (fun hS => ?_)
      clear hK9 K9
      try simp only [Act.put]
      try simp only [List.setIfInBounds_toArray]
      try simp only [List.set_cons_zero]
      try simp only [List.set_cons_succ, List.set_cons_zero]
      refine wpAnyH_done (by kernel_rfl) ?_ _
      go_wp2
      go_meet
      subst hg9
      subst hg10
      exact ⟨_, _, rfl, rfl, hX9_5, hX10_5, hB_5, hl9, hl10⟩
    refine AllReadyH.cons (o := { dst := some 9, op := Op.alloc 27, type := 0, pos := "law.go:145", after := #[], guard := none }) rfl (fun K9 hK9 => ?_) ?_
    · have hB_1 : Below w2.heap.size w2 (w2.alloc (.cells #[.string ⟨#[]⟩, .int .i64 0, .int .i64 0] 27)) := hB_0.alloc hB_0.size _
      have hX9_1 : ∃ g, Bx (w2.alloc (.cells #[.string ⟨#[]⟩, .int .i64 0, .int .i64 0] 27)) g #[.string ⟨#[]⟩, .int .i64 0, .int .i64 0] 27 ∧ g = w2.heap.size := ⟨_, Bx.new w2 #[.string ⟨#[]⟩, .int .i64 0, .int .i64 0] 27, rfl⟩
      obtain ⟨g9, hX9_1, hg9⟩ := hX9_1
      repeat (first | rw [World.size_alloc] at hg9 | rw [size_setRow] at hg9)
      have hl9 : w2.heap.size ≤ g9 := by have := hB_0.size; (repeat (first | rw [World.size_alloc] at this | rw [size_setRow] at this)); omega
      have hS_1 := HSK.out _ (hB_1.drew)
      go_simp
      refine hK9.out _ _ hS_1 (fun hS => ?_)
      clear hK9 K9
      try simp only [Act.put]
      try simp only [List.setIfInBounds_toArray]
      try simp only [List.set_cons_zero]
      try simp only [List.set_cons_succ, List.set_cons_zero]
      refine wpAnyH_ready (rs := [5, 12]) (by kernel_rfl) (by simp) ?_
      refine AllReadyH.cons (o := { dst := some 49, op := Op.call { callee := Callee.value (Operand.func 30), args := #[Operand.tmp 44, Operand.tmp 48], argTypes := #[60, 71] }, type := 27, pos := "law.go:145", after := #[{ on := 0, ground := Ground.data }, { on := 4, ground := Ground.data }], guard := none }) rfl (fun K9 hK9 => ?_) ?_
      · go_simp
        refine (HLEG.out _ (hB_1.drew)).mono ?_
        rintro e v2 ⟨rfl, h2⟩
        have hX9_2 := Bx.below (w := (w2.alloc (.cells #[.string ⟨#[]⟩, .int .i64 0, .int .i64 0] 27)).drew) hX9_1 h2 hX9_1.lt
        have hB_2 : Below w2.heap.size w2 v2 := hB_1.drew.trans (h2.mono (hB_1.drew.size))
        have hS_2 := HSK.out _ hB_2
        refine hK9.out _ _ hS_2 (fun hS => ?_)
        clear hK9 K9
        try simp only [Act.put]
        try simp only [List.setIfInBounds_toArray]
        try simp only [List.set_cons_zero]
        try simp only [List.set_cons_succ, List.set_cons_zero]
        refine wpAnyH_ready (rs := [12]) (by kernel_rfl) (by simp) ?_
        refine AllReadyH.cons (o := { dst := some 10, op := Op.alloc 67, type := 0, pos := "law.go:145", after := #[], guard := none }) rfl (fun K9 hK9 => ?_) AllReadyH.nil
        have hB_3 : Below w2.heap.size w2 (v2.alloc (.cells #[.int .i64 0, .int .u8 0] 67)) := hB_2.alloc hB_2.size _
        have hX10_3 : ∃ g, Bx (v2.alloc (.cells #[.int .i64 0, .int .u8 0] 67)) g #[.int .i64 0, .int .u8 0] 67 ∧ g = v2.heap.size := ⟨_, Bx.new v2 #[.int .i64 0, .int .u8 0] 67, rfl⟩
        obtain ⟨g10, hX10_3, hg10⟩ := hX10_3
        repeat (first | rw [World.size_alloc] at hg10 | rw [size_setRow] at hg10)
        have hl10 : w2.heap.size ≤ g10 := by have := hB_2.size; (repeat (first | rw [World.size_alloc] at this | rw [size_setRow] at this)); omega
        have hX9_3 := hX9_2.alloc (.cells #[.int .i64 0, .int .u8 0] 67)
        have hS_3 := HSK.out _ (hB_3)
        go_simp
        refine hK9.out _ _ hS_3 (fun hS => ?_)
        clear hK9 K9
        try simp only [Act.put]
        try simp only [List.setIfInBounds_toArray]
        try simp only [List.set_cons_zero]
        try simp only [List.set_cons_succ, List.set_cons_zero]
        refine wpAnyH_ready (rs := [13]) (by kernel_rfl) (by simp) ?_
        refine AllReadyH.cons (o := { dst := none, op := Op.store 27 (Operand.tmp 9) (Operand.tmp 49), type := 0, pos := "law.go:145", after := #[{ on := 11, ground := Ground.data }, { on := 5, ground := Ground.data }, { on := 5, ground := Ground.chain }, { on := 0, ground := Ground.phase }, { on := 1, ground := Ground.phase }, { on := 2, ground := Ground.phase }, { on := 3, ground := Ground.phase }, { on := 4, ground := Ground.phase }, { on := 5, ground := Ground.phase }, { on := 6, ground := Ground.textOnly Departure.lateStores }, { on := 7, ground := Ground.textOnly Departure.lateStores }, { on := 8, ground := Ground.textOnly Departure.lateStores }, { on := 9, ground := Ground.textOnly Departure.lateStores }, { on := 10, ground := Ground.textOnly Departure.lateStores }, { on := 11, ground := Ground.phase }, { on := 12, ground := Ground.phase }], guard := none }) rfl (fun K9 hK9 => ?_) AllReadyH.nil
        have hB_4 : Below w2.heap.size w2 ((v2.alloc (.cells #[.int .i64 0, .int .u8 0] 67)).setRow g9 #[.string x.key.car, .int .i64 x.key.num, .int .i64 x.day]) := below_setRow (hB_3) hl9 #[.string x.key.car, .int .i64 x.key.num, .int .i64 x.day]
        have hX9_4 : Bx ((v2.alloc (.cells #[.int .i64 0, .int .u8 0] 67)).setRow g9 #[.string x.key.car, .int .i64 x.key.num, .int .i64 x.day]) g9 #[.string x.key.car, .int .i64 x.key.num, .int .i64 x.day] 27 := Bx.row (w := (v2.alloc (.cells #[.int .i64 0, .int .u8 0] 67))) hX9_3 #[.string x.key.car, .int .i64 x.key.num, .int .i64 x.day]
        have hne_4 : g10 ≠ g9 := by rintro rfl; have h1 := hX10_3; have h2 := hX9_3; have h3 := Option.some.inj (Eq.trans (Eq.symm h1) h2); injection h3 with h4; simp at h4
        have hX10_4 : Bx ((v2.alloc (.cells #[.int .i64 0, .int .u8 0] 67)).setRow g9 #[.string x.key.car, .int .i64 x.key.num, .int .i64 x.day]) g10 #[.int .i64 0, .int .u8 0] 67 := Bx.rowOther (w := (v2.alloc (.cells #[.int .i64 0, .int .u8 0] 67))) hX10_3 hne_4 #[.string x.key.car, .int .i64 x.key.num, .int .i64 x.day]
        have hS_4 := HSK.out _ hB_4
        refine step_store_any 27 rfl (.tmp 9) (.tmp 49) (by rfl) #[.string x.key.car, .int .i64 x.key.num, .int .i64 x.day] (by rw [hg9]; rfl) (by rfl) hX9_3 info_lg rfl (by simp [Value.oneCell']) ?_
        refine hK9.out _ _ hS_4 (fun hS => ?_)
        clear hK9 K9
        try simp only [Act.put]
        try simp only [List.setIfInBounds_toArray]
        try simp only [List.set_cons_zero]
        try simp only [List.set_cons_succ, List.set_cons_zero]
        refine wpAnyH_ready (rs := [14]) (by kernel_rfl) (by simp) ?_
        refine AllReadyH.cons (o := { dst := none, op := Op.store 67 (Operand.tmp 10) (Operand.tmp 54), type := 0, pos := "law.go:145", after := #[{ on := 12, ground := Ground.data }, { on := 10, ground := Ground.data }, { on := 13, ground := Ground.chain }, { on := 0, ground := Ground.phase }, { on := 1, ground := Ground.phase }, { on := 2, ground := Ground.phase }, { on := 3, ground := Ground.phase }, { on := 4, ground := Ground.phase }, { on := 5, ground := Ground.phase }, { on := 6, ground := Ground.phase }, { on := 7, ground := Ground.phase }, { on := 8, ground := Ground.phase }, { on := 9, ground := Ground.phase }, { on := 10, ground := Ground.phase }, { on := 11, ground := Ground.phase }, { on := 12, ground := Ground.phase }, { on := 13, ground := Ground.phase }], guard := none }) rfl (fun K9 hK9 => ?_) AllReadyH.nil
        have hB_5 : Below w2.heap.size w2 (((v2.alloc (.cells #[.int .i64 0, .int .u8 0] 67)).setRow g9 #[.string x.key.car, .int .i64 x.key.num, .int .i64 x.day]).setRow g10 #[.int .i64 a0.seat.row, .int .u8 a0.seat.let_]) := below_setRow (hB_4) hl10 #[.int .i64 a0.seat.row, .int .u8 a0.seat.let_]
        have hX10_5 : Bx (((v2.alloc (.cells #[.int .i64 0, .int .u8 0] 67)).setRow g9 #[.string x.key.car, .int .i64 x.key.num, .int .i64 x.day]).setRow g10 #[.int .i64 a0.seat.row, .int .u8 a0.seat.let_]) g10 #[.int .i64 a0.seat.row, .int .u8 a0.seat.let_] 67 := Bx.row (w := ((v2.alloc (.cells #[.int .i64 0, .int .u8 0] 67)).setRow g9 #[.string x.key.car, .int .i64 x.key.num, .int .i64 x.day])) hX10_4 #[.int .i64 a0.seat.row, .int .u8 a0.seat.let_]
        have hne_5 : g9 ≠ g10 := by rintro rfl; have h1 := hX9_4; have h2 := hX10_4; have h3 := Option.some.inj (Eq.trans (Eq.symm h1) h2); injection h3 with h4; simp at h4
        have hX9_5 : Bx (((v2.alloc (.cells #[.int .i64 0, .int .u8 0] 67)).setRow g9 #[.string x.key.car, .int .i64 x.key.num, .int .i64 x.day]).setRow g10 #[.int .i64 a0.seat.row, .int .u8 a0.seat.let_]) g9 #[.string x.key.car, .int .i64 x.key.num, .int .i64 x.day] 27 := Bx.rowOther (w := ((v2.alloc (.cells #[.int .i64 0, .int .u8 0] 67)).setRow g9 #[.string x.key.car, .int .i64 x.key.num, .int .i64 x.day])) hX9_4 hne_5 #[.int .i64 a0.seat.row, .int .u8 a0.seat.let_]
        have hS_5 := HSK.out _ hB_5
        refine step_store_any 67 rfl (.tmp 10) (.tmp 54) (by rfl) #[.int .i64 a0.seat.row, .int .u8 a0.seat.let_] (by rw [hg10]; rfl) (by rfl) hX10_4 info_sit rfl (by simp [Value.oneCell']) ?_
        refine hK9.out _ _ hS_5 (fun hS => ?_)
        clear hK9 K9
        try simp only [Act.put]
        try simp only [List.setIfInBounds_toArray]
        try simp only [List.set_cons_zero]
        try simp only [List.set_cons_succ, List.set_cons_zero]
        refine wpAnyH_done (by kernel_rfl) ?_ _
        go_wp2
        go_meet
        subst hg9
        subst hg10
        exact ⟨_, _, rfl, rfl, hX9_5, hX10_5, hB_5, hl9, hl10⟩
      refine AllReadyH.cons (o := { dst := some 10, op := Op.alloc 67, type := 0, pos := "law.go:145", after := #[], guard := none }) rfl (fun K9 hK9 => ?_) AllReadyH.nil
      have hB_2 : Below w2.heap.size w2 ((w2.alloc (.cells #[.string ⟨#[]⟩, .int .i64 0, .int .i64 0] 27)).alloc (.cells #[.int .i64 0, .int .u8 0] 67)) := hB_1.alloc hB_1.size _
      have hX10_2 : ∃ g, Bx ((w2.alloc (.cells #[.string ⟨#[]⟩, .int .i64 0, .int .i64 0] 27)).alloc (.cells #[.int .i64 0, .int .u8 0] 67)) g #[.int .i64 0, .int .u8 0] 67 ∧ g = (w2.alloc (.cells #[.string ⟨#[]⟩, .int .i64 0, .int .i64 0] 27)).heap.size := ⟨_, Bx.new (w2.alloc (.cells #[.string ⟨#[]⟩, .int .i64 0, .int .i64 0] 27)) #[.int .i64 0, .int .u8 0] 67, rfl⟩
      obtain ⟨g10, hX10_2, hg10⟩ := hX10_2
      repeat (first | rw [World.size_alloc] at hg10 | rw [size_setRow] at hg10)
      have hl10 : w2.heap.size ≤ g10 := by have := hB_1.size; (repeat (first | rw [World.size_alloc] at this | rw [size_setRow] at this)); omega
      have hX9_2 := hX9_1.alloc (.cells #[.int .i64 0, .int .u8 0] 67)
      have hS_2 := HSK.out _ (hB_2.drew)
      go_simp
      refine hK9.out _ _ hS_2 (fun hS => ?_)
      clear hK9 K9
      try simp only [Act.put]
      try simp only [List.setIfInBounds_toArray]
      try simp only [List.set_cons_zero]
      try simp only [List.set_cons_succ, List.set_cons_zero]
      refine wpAnyH_ready (rs := [5]) (by kernel_rfl) (by simp) ?_
      refine AllReadyH.cons (o := { dst := some 49, op := Op.call { callee := Callee.value (Operand.func 30), args := #[Operand.tmp 44, Operand.tmp 48], argTypes := #[60, 71] }, type := 27, pos := "law.go:145", after := #[{ on := 0, ground := Ground.data }, { on := 4, ground := Ground.data }], guard := none }) rfl (fun K9 hK9 => ?_) AllReadyH.nil
      go_simp
      refine (HLEG.out _ (hB_2.drew)).mono ?_
      rintro e v3 ⟨rfl, h3⟩
      have hX9_3 := Bx.below (w := ((w2.alloc (.cells #[.string ⟨#[]⟩, .int .i64 0, .int .i64 0] 27)).alloc (.cells #[.int .i64 0, .int .u8 0] 67)).drew) hX9_2 h3 hX9_2.lt
      have hX10_3 := Bx.below (w := ((w2.alloc (.cells #[.string ⟨#[]⟩, .int .i64 0, .int .i64 0] 27)).alloc (.cells #[.int .i64 0, .int .u8 0] 67)).drew) hX10_2 h3 hX10_2.lt
      have hB_3 : Below w2.heap.size w2 v3 := hB_2.drew.trans (h3.mono (hB_2.drew.size))
      have hS_3 := HSK.out _ hB_3
      refine hK9.out _ _ hS_3 (fun hS => ?_)
      clear hK9 K9
      try simp only [Act.put]
      try simp only [List.setIfInBounds_toArray]
      try simp only [List.set_cons_zero]
      try simp only [List.set_cons_succ, List.set_cons_zero]
      refine wpAnyH_ready (rs := [13]) (by kernel_rfl) (by simp) ?_
      refine AllReadyH.cons (o := { dst := none, op := Op.store 27 (Operand.tmp 9) (Operand.tmp 49), type := 0, pos := "law.go:145", after := #[{ on := 11, ground := Ground.data }, { on := 5, ground := Ground.data }, { on := 5, ground := Ground.chain }, { on := 0, ground := Ground.phase }, { on := 1, ground := Ground.phase }, { on := 2, ground := Ground.phase }, { on := 3, ground := Ground.phase }, { on := 4, ground := Ground.phase }, { on := 5, ground := Ground.phase }, { on := 6, ground := Ground.textOnly Departure.lateStores }, { on := 7, ground := Ground.textOnly Departure.lateStores }, { on := 8, ground := Ground.textOnly Departure.lateStores }, { on := 9, ground := Ground.textOnly Departure.lateStores }, { on := 10, ground := Ground.textOnly Departure.lateStores }, { on := 11, ground := Ground.phase }, { on := 12, ground := Ground.phase }], guard := none }) rfl (fun K9 hK9 => ?_) AllReadyH.nil
      have hB_4 : Below w2.heap.size w2 (v3.setRow g9 #[.string x.key.car, .int .i64 x.key.num, .int .i64 x.day]) := below_setRow (hB_3) hl9 #[.string x.key.car, .int .i64 x.key.num, .int .i64 x.day]
      have hX9_4 : Bx (v3.setRow g9 #[.string x.key.car, .int .i64 x.key.num, .int .i64 x.day]) g9 #[.string x.key.car, .int .i64 x.key.num, .int .i64 x.day] 27 := Bx.row (w := v3) hX9_3 #[.string x.key.car, .int .i64 x.key.num, .int .i64 x.day]
      have hne_4 : g10 ≠ g9 := by rintro rfl; have h1 := hX10_3; have h2 := hX9_3; have h3 := Option.some.inj (Eq.trans (Eq.symm h1) h2); injection h3 with h4; simp at h4
      have hX10_4 : Bx (v3.setRow g9 #[.string x.key.car, .int .i64 x.key.num, .int .i64 x.day]) g10 #[.int .i64 0, .int .u8 0] 67 := Bx.rowOther (w := v3) hX10_3 hne_4 #[.string x.key.car, .int .i64 x.key.num, .int .i64 x.day]
      have hS_4 := HSK.out _ hB_4
      refine step_store_any 27 rfl (.tmp 9) (.tmp 49) (by rfl) #[.string x.key.car, .int .i64 x.key.num, .int .i64 x.day] (by rw [hg9]; rfl) (by rfl) hX9_3 info_lg rfl (by simp [Value.oneCell']) ?_
      refine hK9.out _ _ hS_4 (fun hS => ?_)
      clear hK9 K9
      try simp only [Act.put]
      try simp only [List.setIfInBounds_toArray]
      try simp only [List.set_cons_zero]
      try simp only [List.set_cons_succ, List.set_cons_zero]
      refine wpAnyH_ready (rs := [14]) (by kernel_rfl) (by simp) ?_
      refine AllReadyH.cons (o := { dst := none, op := Op.store 67 (Operand.tmp 10) (Operand.tmp 54), type := 0, pos := "law.go:145", after := #[{ on := 12, ground := Ground.data }, { on := 10, ground := Ground.data }, { on := 13, ground := Ground.chain }, { on := 0, ground := Ground.phase }, { on := 1, ground := Ground.phase }, { on := 2, ground := Ground.phase }, { on := 3, ground := Ground.phase }, { on := 4, ground := Ground.phase }, { on := 5, ground := Ground.phase }, { on := 6, ground := Ground.phase }, { on := 7, ground := Ground.phase }, { on := 8, ground := Ground.phase }, { on := 9, ground := Ground.phase }, { on := 10, ground := Ground.phase }, { on := 11, ground := Ground.phase }, { on := 12, ground := Ground.phase }, { on := 13, ground := Ground.phase }], guard := none }) rfl (fun K9 hK9 => ?_) AllReadyH.nil
      have hB_5 : Below w2.heap.size w2 ((v3.setRow g9 #[.string x.key.car, .int .i64 x.key.num, .int .i64 x.day]).setRow g10 #[.int .i64 a0.seat.row, .int .u8 a0.seat.let_]) := below_setRow (hB_4) hl10 #[.int .i64 a0.seat.row, .int .u8 a0.seat.let_]
      have hX10_5 : Bx ((v3.setRow g9 #[.string x.key.car, .int .i64 x.key.num, .int .i64 x.day]).setRow g10 #[.int .i64 a0.seat.row, .int .u8 a0.seat.let_]) g10 #[.int .i64 a0.seat.row, .int .u8 a0.seat.let_] 67 := Bx.row (w := (v3.setRow g9 #[.string x.key.car, .int .i64 x.key.num, .int .i64 x.day])) hX10_4 #[.int .i64 a0.seat.row, .int .u8 a0.seat.let_]
      have hne_5 : g9 ≠ g10 := by rintro rfl; have h1 := hX9_4; have h2 := hX10_4; have h3 := Option.some.inj (Eq.trans (Eq.symm h1) h2); injection h3 with h4; simp at h4
      have hX9_5 : Bx ((v3.setRow g9 #[.string x.key.car, .int .i64 x.key.num, .int .i64 x.day]).setRow g10 #[.int .i64 a0.seat.row, .int .u8 a0.seat.let_]) g9 #[.string x.key.car, .int .i64 x.key.num, .int .i64 x.day] 27 := Bx.rowOther (w := (v3.setRow g9 #[.string x.key.car, .int .i64 x.key.num, .int .i64 x.day])) hX9_4 hne_5 #[.int .i64 a0.seat.row, .int .u8 a0.seat.let_]
      have hS_5 := HSK.out _ hB_5
      refine step_store_any 67 rfl (.tmp 10) (.tmp 54) (by rfl) #[.int .i64 a0.seat.row, .int .u8 a0.seat.let_] (by rw [hg10]; rfl) (by rfl) hX10_4 info_sit rfl (by simp [Value.oneCell']) ?_
      refine hK9.out _ _ hS_5 (fun hS => ?_)
      clear hK9 K9
      try simp only [Act.put]
      try simp only [List.setIfInBounds_toArray]
      try simp only [List.set_cons_zero]
      try simp only [List.set_cons_succ, List.set_cons_zero]
      refine wpAnyH_done (by kernel_rfl) ?_ _
      go_wp2
      go_meet
      subst hg9
      subst hg10
      exact ⟨_, _, rfl, rfl, hX9_5, hX10_5, hB_5, hl9, hl10⟩
    refine AllReadyH.cons (o := { dst := some 10, op := Op.alloc 67, type := 0, pos := "law.go:145", after := #[], guard := none }) rfl (fun K9 hK9 => ?_) AllReadyH.nil
    have hB_1 : Below w2.heap.size w2 (w2.alloc (.cells #[.int .i64 0, .int .u8 0] 67)) := hB_0.alloc hB_0.size _
    have hX10_1 : ∃ g, Bx (w2.alloc (.cells #[.int .i64 0, .int .u8 0] 67)) g #[.int .i64 0, .int .u8 0] 67 ∧ g = w2.heap.size := ⟨_, Bx.new w2 #[.int .i64 0, .int .u8 0] 67, rfl⟩
    obtain ⟨g10, hX10_1, hg10⟩ := hX10_1
    repeat (first | rw [World.size_alloc] at hg10 | rw [size_setRow] at hg10)
    have hl10 : w2.heap.size ≤ g10 := by have := hB_0.size; (repeat (first | rw [World.size_alloc] at this | rw [size_setRow] at this)); omega
    have hS_1 := HSK.out _ (hB_1.drew)
    go_simp
    refine hK9.out _ _ hS_1 (fun hS => ?_)
    clear hK9 K9
    try simp only [Act.put]
    try simp only [List.setIfInBounds_toArray]
    try simp only [List.set_cons_zero]
    try simp only [List.set_cons_succ, List.set_cons_zero]
    refine wpAnyH_ready (rs := [5, 11]) (by kernel_rfl) (by simp) ?_
    refine AllReadyH.cons (o := { dst := some 49, op := Op.call { callee := Callee.value (Operand.func 30), args := #[Operand.tmp 44, Operand.tmp 48], argTypes := #[60, 71] }, type := 27, pos := "law.go:145", after := #[{ on := 0, ground := Ground.data }, { on := 4, ground := Ground.data }], guard := none }) rfl (fun K9 hK9 => ?_) ?_
    · go_simp
      refine (HLEG.out _ (hB_1.drew)).mono ?_
      rintro e v2 ⟨rfl, h2⟩
      have hX10_2 := Bx.below (w := (w2.alloc (.cells #[.int .i64 0, .int .u8 0] 67)).drew) hX10_1 h2 hX10_1.lt
      have hB_2 : Below w2.heap.size w2 v2 := hB_1.drew.trans (h2.mono (hB_1.drew.size))
      have hS_2 := HSK.out _ hB_2
      refine hK9.out _ _ hS_2 (fun hS => ?_)
      clear hK9 K9
      try simp only [Act.put]
      try simp only [List.setIfInBounds_toArray]
      try simp only [List.set_cons_zero]
      try simp only [List.set_cons_succ, List.set_cons_zero]
      refine wpAnyH_ready (rs := [11]) (by kernel_rfl) (by simp) ?_
      refine AllReadyH.cons (o := { dst := some 9, op := Op.alloc 27, type := 0, pos := "law.go:145", after := #[], guard := none }) rfl (fun K9 hK9 => ?_) AllReadyH.nil
      have hB_3 : Below w2.heap.size w2 (v2.alloc (.cells #[.string ⟨#[]⟩, .int .i64 0, .int .i64 0] 27)) := hB_2.alloc hB_2.size _
      have hX9_3 : ∃ g, Bx (v2.alloc (.cells #[.string ⟨#[]⟩, .int .i64 0, .int .i64 0] 27)) g #[.string ⟨#[]⟩, .int .i64 0, .int .i64 0] 27 ∧ g = v2.heap.size := ⟨_, Bx.new v2 #[.string ⟨#[]⟩, .int .i64 0, .int .i64 0] 27, rfl⟩
      obtain ⟨g9, hX9_3, hg9⟩ := hX9_3
      repeat (first | rw [World.size_alloc] at hg9 | rw [size_setRow] at hg9)
      have hl9 : w2.heap.size ≤ g9 := by have := hB_2.size; (repeat (first | rw [World.size_alloc] at this | rw [size_setRow] at this)); omega
      have hX10_3 := hX10_2.alloc (.cells #[.string ⟨#[]⟩, .int .i64 0, .int .i64 0] 27)
      have hS_3 := HSK.out _ (hB_3)
      go_simp
      refine hK9.out _ _ hS_3 (fun hS => ?_)
      clear hK9 K9
      try simp only [Act.put]
      try simp only [List.setIfInBounds_toArray]
      try simp only [List.set_cons_zero]
      try simp only [List.set_cons_succ, List.set_cons_zero]
      refine wpAnyH_ready (rs := [13]) (by kernel_rfl) (by simp) ?_
      refine AllReadyH.cons (o := { dst := none, op := Op.store 27 (Operand.tmp 9) (Operand.tmp 49), type := 0, pos := "law.go:145", after := #[{ on := 11, ground := Ground.data }, { on := 5, ground := Ground.data }, { on := 5, ground := Ground.chain }, { on := 0, ground := Ground.phase }, { on := 1, ground := Ground.phase }, { on := 2, ground := Ground.phase }, { on := 3, ground := Ground.phase }, { on := 4, ground := Ground.phase }, { on := 5, ground := Ground.phase }, { on := 6, ground := Ground.textOnly Departure.lateStores }, { on := 7, ground := Ground.textOnly Departure.lateStores }, { on := 8, ground := Ground.textOnly Departure.lateStores }, { on := 9, ground := Ground.textOnly Departure.lateStores }, { on := 10, ground := Ground.textOnly Departure.lateStores }, { on := 11, ground := Ground.phase }, { on := 12, ground := Ground.phase }], guard := none }) rfl (fun K9 hK9 => ?_) AllReadyH.nil
      have hB_4 : Below w2.heap.size w2 ((v2.alloc (.cells #[.string ⟨#[]⟩, .int .i64 0, .int .i64 0] 27)).setRow g9 #[.string x.key.car, .int .i64 x.key.num, .int .i64 x.day]) := below_setRow (hB_3) hl9 #[.string x.key.car, .int .i64 x.key.num, .int .i64 x.day]
      have hX9_4 : Bx ((v2.alloc (.cells #[.string ⟨#[]⟩, .int .i64 0, .int .i64 0] 27)).setRow g9 #[.string x.key.car, .int .i64 x.key.num, .int .i64 x.day]) g9 #[.string x.key.car, .int .i64 x.key.num, .int .i64 x.day] 27 := Bx.row (w := (v2.alloc (.cells #[.string ⟨#[]⟩, .int .i64 0, .int .i64 0] 27))) hX9_3 #[.string x.key.car, .int .i64 x.key.num, .int .i64 x.day]
      have hne_4 : g10 ≠ g9 := by rintro rfl; have h1 := hX10_3; have h2 := hX9_3; have h3 := Option.some.inj (Eq.trans (Eq.symm h1) h2); injection h3 with h4; simp at h4
      have hX10_4 : Bx ((v2.alloc (.cells #[.string ⟨#[]⟩, .int .i64 0, .int .i64 0] 27)).setRow g9 #[.string x.key.car, .int .i64 x.key.num, .int .i64 x.day]) g10 #[.int .i64 0, .int .u8 0] 67 := Bx.rowOther (w := (v2.alloc (.cells #[.string ⟨#[]⟩, .int .i64 0, .int .i64 0] 27))) hX10_3 hne_4 #[.string x.key.car, .int .i64 x.key.num, .int .i64 x.day]
      have hS_4 := HSK.out _ hB_4
      refine step_store_any 27 rfl (.tmp 9) (.tmp 49) (by rfl) #[.string x.key.car, .int .i64 x.key.num, .int .i64 x.day] (by rw [hg9]; rfl) (by rfl) hX9_3 info_lg rfl (by simp [Value.oneCell']) ?_
      refine hK9.out _ _ hS_4 (fun hS => ?_)
      clear hK9 K9
      try simp only [Act.put]
      try simp only [List.setIfInBounds_toArray]
      try simp only [List.set_cons_zero]
      try simp only [List.set_cons_succ, List.set_cons_zero]
      refine wpAnyH_ready (rs := [14]) (by kernel_rfl) (by simp) ?_
      refine AllReadyH.cons (o := { dst := none, op := Op.store 67 (Operand.tmp 10) (Operand.tmp 54), type := 0, pos := "law.go:145", after := #[{ on := 12, ground := Ground.data }, { on := 10, ground := Ground.data }, { on := 13, ground := Ground.chain }, { on := 0, ground := Ground.phase }, { on := 1, ground := Ground.phase }, { on := 2, ground := Ground.phase }, { on := 3, ground := Ground.phase }, { on := 4, ground := Ground.phase }, { on := 5, ground := Ground.phase }, { on := 6, ground := Ground.phase }, { on := 7, ground := Ground.phase }, { on := 8, ground := Ground.phase }, { on := 9, ground := Ground.phase }, { on := 10, ground := Ground.phase }, { on := 11, ground := Ground.phase }, { on := 12, ground := Ground.phase }, { on := 13, ground := Ground.phase }], guard := none }) rfl (fun K9 hK9 => ?_) AllReadyH.nil
      have hB_5 : Below w2.heap.size w2 (((v2.alloc (.cells #[.string ⟨#[]⟩, .int .i64 0, .int .i64 0] 27)).setRow g9 #[.string x.key.car, .int .i64 x.key.num, .int .i64 x.day]).setRow g10 #[.int .i64 a0.seat.row, .int .u8 a0.seat.let_]) := below_setRow (hB_4) hl10 #[.int .i64 a0.seat.row, .int .u8 a0.seat.let_]
      have hX10_5 : Bx (((v2.alloc (.cells #[.string ⟨#[]⟩, .int .i64 0, .int .i64 0] 27)).setRow g9 #[.string x.key.car, .int .i64 x.key.num, .int .i64 x.day]).setRow g10 #[.int .i64 a0.seat.row, .int .u8 a0.seat.let_]) g10 #[.int .i64 a0.seat.row, .int .u8 a0.seat.let_] 67 := Bx.row (w := ((v2.alloc (.cells #[.string ⟨#[]⟩, .int .i64 0, .int .i64 0] 27)).setRow g9 #[.string x.key.car, .int .i64 x.key.num, .int .i64 x.day])) hX10_4 #[.int .i64 a0.seat.row, .int .u8 a0.seat.let_]
      have hne_5 : g9 ≠ g10 := by rintro rfl; have h1 := hX9_4; have h2 := hX10_4; have h3 := Option.some.inj (Eq.trans (Eq.symm h1) h2); injection h3 with h4; simp at h4
      have hX9_5 : Bx (((v2.alloc (.cells #[.string ⟨#[]⟩, .int .i64 0, .int .i64 0] 27)).setRow g9 #[.string x.key.car, .int .i64 x.key.num, .int .i64 x.day]).setRow g10 #[.int .i64 a0.seat.row, .int .u8 a0.seat.let_]) g9 #[.string x.key.car, .int .i64 x.key.num, .int .i64 x.day] 27 := Bx.rowOther (w := ((v2.alloc (.cells #[.string ⟨#[]⟩, .int .i64 0, .int .i64 0] 27)).setRow g9 #[.string x.key.car, .int .i64 x.key.num, .int .i64 x.day])) hX9_4 hne_5 #[.int .i64 a0.seat.row, .int .u8 a0.seat.let_]
      have hS_5 := HSK.out _ hB_5
      refine step_store_any 67 rfl (.tmp 10) (.tmp 54) (by rfl) #[.int .i64 a0.seat.row, .int .u8 a0.seat.let_] (by rw [hg10]; rfl) (by rfl) hX10_4 info_sit rfl (by simp [Value.oneCell']) ?_
      refine hK9.out _ _ hS_5 (fun hS => ?_)
      clear hK9 K9
      try simp only [Act.put]
      try simp only [List.setIfInBounds_toArray]
      try simp only [List.set_cons_zero]
      try simp only [List.set_cons_succ, List.set_cons_zero]
      refine wpAnyH_done (by kernel_rfl) ?_ _
      go_wp2
      go_meet
      subst hg9
      subst hg10
      exact ⟨_, _, rfl, rfl, hX9_5, hX10_5, hB_5, hl9, hl10⟩
    refine AllReadyH.cons (o := { dst := some 9, op := Op.alloc 27, type := 0, pos := "law.go:145", after := #[], guard := none }) rfl (fun K9 hK9 => ?_) AllReadyH.nil
    have hB_2 : Below w2.heap.size w2 ((w2.alloc (.cells #[.int .i64 0, .int .u8 0] 67)).alloc (.cells #[.string ⟨#[]⟩, .int .i64 0, .int .i64 0] 27)) := hB_1.alloc hB_1.size _
    have hX9_2 : ∃ g, Bx ((w2.alloc (.cells #[.int .i64 0, .int .u8 0] 67)).alloc (.cells #[.string ⟨#[]⟩, .int .i64 0, .int .i64 0] 27)) g #[.string ⟨#[]⟩, .int .i64 0, .int .i64 0] 27 ∧ g = (w2.alloc (.cells #[.int .i64 0, .int .u8 0] 67)).heap.size := ⟨_, Bx.new (w2.alloc (.cells #[.int .i64 0, .int .u8 0] 67)) #[.string ⟨#[]⟩, .int .i64 0, .int .i64 0] 27, rfl⟩
    obtain ⟨g9, hX9_2, hg9⟩ := hX9_2
    repeat (first | rw [World.size_alloc] at hg9 | rw [size_setRow] at hg9)
    have hl9 : w2.heap.size ≤ g9 := by have := hB_1.size; (repeat (first | rw [World.size_alloc] at this | rw [size_setRow] at this)); omega
    have hX10_2 := hX10_1.alloc (.cells #[.string ⟨#[]⟩, .int .i64 0, .int .i64 0] 27)
    have hS_2 := HSK.out _ (hB_2.drew)
    go_simp
    refine hK9.out _ _ hS_2 (fun hS => ?_)
    clear hK9 K9
    try simp only [Act.put]
    try simp only [List.setIfInBounds_toArray]
    try simp only [List.set_cons_zero]
    try simp only [List.set_cons_succ, List.set_cons_zero]
    refine wpAnyH_ready (rs := [5]) (by kernel_rfl) (by simp) ?_
    refine AllReadyH.cons (o := { dst := some 49, op := Op.call { callee := Callee.value (Operand.func 30), args := #[Operand.tmp 44, Operand.tmp 48], argTypes := #[60, 71] }, type := 27, pos := "law.go:145", after := #[{ on := 0, ground := Ground.data }, { on := 4, ground := Ground.data }], guard := none }) rfl (fun K9 hK9 => ?_) AllReadyH.nil
    go_simp
    refine (HLEG.out _ (hB_2.drew)).mono ?_
    rintro e v3 ⟨rfl, h3⟩
    have hX9_3 := Bx.below (w := ((w2.alloc (.cells #[.int .i64 0, .int .u8 0] 67)).alloc (.cells #[.string ⟨#[]⟩, .int .i64 0, .int .i64 0] 27)).drew) hX9_2 h3 hX9_2.lt
    have hX10_3 := Bx.below (w := ((w2.alloc (.cells #[.int .i64 0, .int .u8 0] 67)).alloc (.cells #[.string ⟨#[]⟩, .int .i64 0, .int .i64 0] 27)).drew) hX10_2 h3 hX10_2.lt
    have hB_3 : Below w2.heap.size w2 v3 := hB_2.drew.trans (h3.mono (hB_2.drew.size))
    have hS_3 := HSK.out _ hB_3
    refine hK9.out _ _ hS_3 (fun hS => ?_)
    clear hK9 K9
    try simp only [Act.put]
    try simp only [List.setIfInBounds_toArray]
    try simp only [List.set_cons_zero]
    try simp only [List.set_cons_succ, List.set_cons_zero]
    refine wpAnyH_ready (rs := [13]) (by kernel_rfl) (by simp) ?_
    refine AllReadyH.cons (o := { dst := none, op := Op.store 27 (Operand.tmp 9) (Operand.tmp 49), type := 0, pos := "law.go:145", after := #[{ on := 11, ground := Ground.data }, { on := 5, ground := Ground.data }, { on := 5, ground := Ground.chain }, { on := 0, ground := Ground.phase }, { on := 1, ground := Ground.phase }, { on := 2, ground := Ground.phase }, { on := 3, ground := Ground.phase }, { on := 4, ground := Ground.phase }, { on := 5, ground := Ground.phase }, { on := 6, ground := Ground.textOnly Departure.lateStores }, { on := 7, ground := Ground.textOnly Departure.lateStores }, { on := 8, ground := Ground.textOnly Departure.lateStores }, { on := 9, ground := Ground.textOnly Departure.lateStores }, { on := 10, ground := Ground.textOnly Departure.lateStores }, { on := 11, ground := Ground.phase }, { on := 12, ground := Ground.phase }], guard := none }) rfl (fun K9 hK9 => ?_) AllReadyH.nil
    have hB_4 : Below w2.heap.size w2 (v3.setRow g9 #[.string x.key.car, .int .i64 x.key.num, .int .i64 x.day]) := below_setRow (hB_3) hl9 #[.string x.key.car, .int .i64 x.key.num, .int .i64 x.day]
    have hX9_4 : Bx (v3.setRow g9 #[.string x.key.car, .int .i64 x.key.num, .int .i64 x.day]) g9 #[.string x.key.car, .int .i64 x.key.num, .int .i64 x.day] 27 := Bx.row (w := v3) hX9_3 #[.string x.key.car, .int .i64 x.key.num, .int .i64 x.day]
    have hne_4 : g10 ≠ g9 := by rintro rfl; have h1 := hX10_3; have h2 := hX9_3; have h3 := Option.some.inj (Eq.trans (Eq.symm h1) h2); injection h3 with h4; simp at h4
    have hX10_4 : Bx (v3.setRow g9 #[.string x.key.car, .int .i64 x.key.num, .int .i64 x.day]) g10 #[.int .i64 0, .int .u8 0] 67 := Bx.rowOther (w := v3) hX10_3 hne_4 #[.string x.key.car, .int .i64 x.key.num, .int .i64 x.day]
    have hS_4 := HSK.out _ hB_4
    refine step_store_any 27 rfl (.tmp 9) (.tmp 49) (by rfl) #[.string x.key.car, .int .i64 x.key.num, .int .i64 x.day] (by rw [hg9]; rfl) (by rfl) hX9_3 info_lg rfl (by simp [Value.oneCell']) ?_
    refine hK9.out _ _ hS_4 (fun hS => ?_)
    clear hK9 K9
    try simp only [Act.put]
    try simp only [List.setIfInBounds_toArray]
    try simp only [List.set_cons_zero]
    try simp only [List.set_cons_succ, List.set_cons_zero]
    refine wpAnyH_ready (rs := [14]) (by kernel_rfl) (by simp) ?_
    refine AllReadyH.cons (o := { dst := none, op := Op.store 67 (Operand.tmp 10) (Operand.tmp 54), type := 0, pos := "law.go:145", after := #[{ on := 12, ground := Ground.data }, { on := 10, ground := Ground.data }, { on := 13, ground := Ground.chain }, { on := 0, ground := Ground.phase }, { on := 1, ground := Ground.phase }, { on := 2, ground := Ground.phase }, { on := 3, ground := Ground.phase }, { on := 4, ground := Ground.phase }, { on := 5, ground := Ground.phase }, { on := 6, ground := Ground.phase }, { on := 7, ground := Ground.phase }, { on := 8, ground := Ground.phase }, { on := 9, ground := Ground.phase }, { on := 10, ground := Ground.phase }, { on := 11, ground := Ground.phase }, { on := 12, ground := Ground.phase }, { on := 13, ground := Ground.phase }], guard := none }) rfl (fun K9 hK9 => ?_) AllReadyH.nil
    have hB_5 : Below w2.heap.size w2 ((v3.setRow g9 #[.string x.key.car, .int .i64 x.key.num, .int .i64 x.day]).setRow g10 #[.int .i64 a0.seat.row, .int .u8 a0.seat.let_]) := below_setRow (hB_4) hl10 #[.int .i64 a0.seat.row, .int .u8 a0.seat.let_]
    have hX10_5 : Bx ((v3.setRow g9 #[.string x.key.car, .int .i64 x.key.num, .int .i64 x.day]).setRow g10 #[.int .i64 a0.seat.row, .int .u8 a0.seat.let_]) g10 #[.int .i64 a0.seat.row, .int .u8 a0.seat.let_] 67 := Bx.row (w := (v3.setRow g9 #[.string x.key.car, .int .i64 x.key.num, .int .i64 x.day])) hX10_4 #[.int .i64 a0.seat.row, .int .u8 a0.seat.let_]
    have hne_5 : g9 ≠ g10 := by rintro rfl; have h1 := hX9_4; have h2 := hX10_4; have h3 := Option.some.inj (Eq.trans (Eq.symm h1) h2); injection h3 with h4; simp at h4
    have hX9_5 : Bx ((v3.setRow g9 #[.string x.key.car, .int .i64 x.key.num, .int .i64 x.day]).setRow g10 #[.int .i64 a0.seat.row, .int .u8 a0.seat.let_]) g9 #[.string x.key.car, .int .i64 x.key.num, .int .i64 x.day] 27 := Bx.rowOther (w := (v3.setRow g9 #[.string x.key.car, .int .i64 x.key.num, .int .i64 x.day])) hX9_4 hne_5 #[.int .i64 a0.seat.row, .int .u8 a0.seat.let_]
    have hS_5 := HSK.out _ hB_5
    refine step_store_any 67 rfl (.tmp 10) (.tmp 54) (by rfl) #[.int .i64 a0.seat.row, .int .u8 a0.seat.let_] (by rw [hg10]; rfl) (by rfl) hX10_4 info_sit rfl (by simp [Value.oneCell']) ?_
    refine hK9.out _ _ hS_5 (fun hS => ?_)
    clear hK9 K9
    try simp only [Act.put]
    try simp only [List.setIfInBounds_toArray]
    try simp only [List.set_cons_zero]
    try simp only [List.set_cons_succ, List.set_cons_zero]
    refine wpAnyH_done (by kernel_rfl) ?_ _
    go_wp2
    go_meet
    subst hg9
    subst hg10
    exact ⟨_, _, rfl, rfl, hX9_5, hX10_5, hB_5, hl9, hl10⟩
  case rest =>
    clear HSK HLEG
    obtain ⟨gx, gs, rfl, rfl, b9, b10, hbc, hl9, hl10⟩ := hcut
    generalize a0.seat = s at HOS b10
    have BX := Lib.hid b9
    have zgw := b9.lt
    have zsw := b10.lt
    have BS := Lib.hid b10
    have HBC := Lib.hid (H2.out.trans (hbc.mono z2))
    have HKC := Lib.hid (HHK.out.keep hbc)
    have BWC := Lib.hid (BW2.out.below hbc BW2.out.lt)
    have zc := hbc.size
    have zc0 := HBC.out.size
    clear b9 b10 hbc HHK BW2
    go_upto_region 8 with fail
    refine wp_world (fun V => ∃ go, (go = wc.heap.size ∧ H5 V w.heap.size gx gs go #[.slice A n c, .slice A2 n2 c2] x s hol0) ∧ HK V lo hi t p b rs ps (fun _ => none) ∧ Below w.heap.size w V) ⟨_, ⟨rfl, ⟨BWC.out.alloc _, BX.out.alloc _, BS.out.alloc _, Bx.new _ _ _⟩⟩, HKC.out.keep ((Below.refl _ _).alloc (Nat.le_refl _) _), HBC.out.alloc zc0 _⟩ ?_
    clear HKC BWC BX BS HBC
    rintro V0 ⟨go, ⟨hgo, h5⟩, hHK, hb⟩
    try rw [← hgo]
    have HH5 := Lib.hid h5
    have HKV := Lib.hid hHK
    have HBV := Lib.hid hb
    have zkw : w.heap.size < b := by omega
    have zgx : b < gx := by omega
    have zgs : b < gs := by omega
    have zgo : b < go := by omega
    have zgxo : gx < go := by omega
    have zgso : gs < go := by omega
    have zkwo : w.heap.size < go := by omega
    have zpo : p < go := by omega
    clear h5 hHK hb hgo
    go_wp2
    go_loopw [13, 12] (fun i v wr => ∃ k : Nat, k ≤ n3 ∧ i = .int .i64 k ∧ ∃ q y o, v = .bool (Option.isSome o) ∧ H5 wr w.heap.size gx gs go #[.slice A n c, .slice A2 n2 c2] x s y ∧ HK wr lo hi t p b rs ps q ∧ Hid (QW rs ps q) ∧ Hid (q ⟨x, s⟩ = o) ∧ Hid (∀ z, o = some z → z = y) ∧ Below w.heap.size w wr) (fun i _ _ => n3 - (intOf i).toNat)
    case atStart => exact ⟨0, Nat.zero_le _, rfl, _, hol0, none, rfl, HH5.out, HKV.out, QW.none_ _ _, rfl, Lib.hid (fun z h => by cases h), HBV.out⟩
    case round =>
      clear HH5 HKV HBV i0 i1 hb0 zbb
      obtain ⟨k, hk, rfl, q, y, o, rfl, h5, hHK, HQW, HQN0, HQY, hb⟩ := hrel
      have HH5 := Lib.hid h5
      have HHK := Lib.hid hHK
      have HB := Lib.hid hb
      have zw := hb.size
      have zbb := hHK.blt
      clear h5 hHK
      by_cases hlt : k < n3
      · obtain ⟨b1, o1, a, hA, _, hb1, hx1, hok, d0, d1, d2, d3, d4, d5, d6, d7, d8⟩ := (Sl.below HA.out hb (Nat.le_refl _)).ha_ hlt
        obtain ⟨rfl, rfl⟩ : b0 = b1 ∧ o0 = o1 := by injection hA with h; injection h with h1 h2 _; exact ⟨h1, h2⟩
        have i0 : (0 : Int) ≤ k := by omega
        have i1 : (k : Int) < n3 := by omega
        have HOA := Lib.hid hok
        have hb0w : b0 < wr.heap.size := by omega
        clear hb hx1 hok hA
        go_upto_region 13 with fail
        refine wp_world (fun V => ∃ ka, (ka = wr.heap.size ∧ Bx V ka #[.int .i64 a.kind, .int .i64 a.fl, .string a.leg.key.car, .int .i64 a.leg.key.num, .int .i64 a.leg.day, .int .i64 a.seat.row, .int .u8 a.seat.let_, .string a.hol.loc, .int .i64 a.hol.pax] 71) ∧ H5 V w.heap.size gx gs go #[.slice A n c, .slice A2 n2 c2] x s y ∧ HK V lo hi t p b rs ps q ∧ Below w.heap.size w V) ⟨_, ⟨rfl, Bx.new _ _ _⟩, HH5.out.below ((Below.refl _ _).alloc (Nat.le_refl _) _), HHK.out.keep ((Below.refl _ _).alloc (Nat.le_refl _) _), HB.out.alloc zw _⟩ ?_
        clear HH5 HHK d0 d1 d2 d3 d4 d5 d6 d7 d8
        rintro V1 ⟨ka, ⟨hka, bA⟩, h5, hHK, hb⟩
        try rw [← hka]
        have zka : b < ka := by omega
        clear hka
        have H51 := Lib.hid h5
        have HK1 := Lib.hid hHK
        have HB1 := Lib.hid hb
        have BA1 := Lib.hid bA
        have zV1 := hb.size
        have HLEG := Lib.hid (fun (V : World) (hV : Below w.heap.size w V) => (hleg_any rl A n c A2 n2 c2 V 0 w.heap.size (HFS.out.below hV (Nat.le_refl _)) hV.size a))
        have HG := Lib.hid (legH_ok HOA.out HFO.out)
        unfold hactV at HLEG
        generalize legH (rl.map (·.f)) a = g at HLEG HG
        have HL1 := Lib.hid (fun u : Blw V1 => HLEG.out u.W (HB1.out.trans (u.b.mono zV1)))
        have cc1 := h5.bw.cells
        have cc2 := h5.bx.cells
        have cc3 := h5.bs.cells
        have cc5 := bA.cells
        have zq1 := h5.bw.lt
        have zq2 := h5.bx.lt
        have zq3 := h5.bs.lt
        have zq4 := bA.lt
        have heq := fun u => eql_lg g x u
        have hes := fun u => eql_sit a.seat.row s.row a.seat.let_ s.let_ u
        have hds : (decide (a.seat.row = s.row) && decide (a.seat.let_ = s.let_)) = decide (a.seat = s) := dec_sit _ _
        rw [hds] at hes
        clear h5 hHK hb bA hds
        go_cut [15] (fun v w' => v = .bool (decide ((⟨g, a.seat⟩ : Hpl) = ⟨x, s⟩)) ∧ Below V1.heap.size V1 w')
        case first =>
          by_cases e1 : g = x
          · rw [decide_eq_true e1] at heq
            by_cases e2 : a.seat = s
            · have HD : Hid (true = decide ((⟨g, a.seat⟩ : Hpl) = ⟨x, s⟩)) := (decide_eq_true (by rw [e1, e2])).symm
              rw [decide_eq_true e2] at hes
              clear e1 e2
              refine wp_region_below (by kernel_rfl) (by kernel_rfl) ?_
              intro q9
              repeat
                (refine QH.step (fun K9 hK9 => ?_)
                 go_simp
                 first
                 | (refine hK9 _ ?_; clear hK9 K9)
                 | (apply Exists.intro
                    refine ⟨fun _ => ?_, hK9 _ ?_⟩
                    · first | (with_reducible exact Calls.blw _ (HL1.out _))
                    clear hK9 K9))
              refine QH.nil_ ?_
              clear q9
              rintro ⟨V9, hV9⟩
              dsimp only
              go_wp2
              go_meet
              exact ⟨by rw [← HD.out], hV9⟩
            · have HD : Hid (false = decide ((⟨g, a.seat⟩ : Hpl) = ⟨x, s⟩)) := (decide_eq_false (fun h => e2 (by injection h))).symm
              rw [decide_eq_false e2] at hes
              clear e1 e2
              refine wp_region_below (by kernel_rfl) (by kernel_rfl) ?_
              intro q9
              repeat
                (refine QH.step (fun K9 hK9 => ?_)
                 go_simp
                 first
                 | (refine hK9 _ ?_; clear hK9 K9)
                 | (apply Exists.intro
                    refine ⟨fun _ => ?_, hK9 _ ?_⟩
                    · first | (with_reducible exact Calls.blw _ (HL1.out _))
                    clear hK9 K9))
              refine QH.nil_ ?_
              clear q9
              rintro ⟨V9, hV9⟩
              dsimp only
              go_wp2
              go_meet
              exact ⟨by rw [← HD.out], hV9⟩
          · have HD : Hid (false = decide ((⟨g, a.seat⟩ : Hpl) = ⟨x, s⟩)) := (decide_eq_false (fun h => e1 (by injection h))).symm
            rw [decide_eq_false e1] at heq
            clear e1
            refine wp_region_below (by kernel_rfl) (by kernel_rfl) ?_
            intro q9
            repeat
              (refine QH.step (fun K9 hK9 => ?_)
               go_simp
               first
               | (refine hK9 _ ?_; clear hK9 K9)
               | (apply Exists.intro
                  refine ⟨fun _ => ?_, hK9 _ ?_⟩
                  · first | (with_reducible exact Calls.blw _ (HL1.out _))
                  clear hK9 K9))
            refine QH.nil_ ?_
            clear q9
            rintro ⟨V9, hV9⟩
            dsimp only
            go_wp2
            go_meet
            exact ⟨by rw [← HD.out], hV9⟩
        case rest =>
          obtain ⟨rfl, hV⟩ := hcut
          generalize hmn1 : decide ((⟨g, a.seat⟩ : Hpl) = ⟨x, s⟩) = mn
          have HMN := Lib.hid hmn1
          clear hmn1
          have H5V := Lib.hid (H51.out.below hV)
          have BAV := Lib.hid (BA1.out.below hV BA1.out.lt)
          have HBV := Lib.hid (HB1.out.trans (hV.mono zV1))
          have HKV := Lib.hid (HK1.out.keep hV)
          have zV := HBV.out.size
          clear cc1 cc2 cc3 cc5 heq hes hV zq1 zq2 zq3 zq4 H51 BA1 HB1 HK1 HL1
          generalize hV : wc = V at *
          have HTAKE := Lib.hid (fun (W : World) (hW : Below V.heap.size V W) => take_any (HKV.out.keep hW) HR.out g a.seat a.hol HG.out HOA.out.seat HOA.out.hol)
          have HFREE := Lib.hid (fun (W : World) (hW : Below V.heap.size V W) => free_any (HKV.out.keep hW) HR.out g a.seat a.hol HG.out HOA.out.seat HOA.out.hol)
          have HQT := Lib.hid (HQW.out.take ⟨g, a.seat⟩ a.hol)
          have HQF := Lib.hid (HQW.out.free ⟨g, a.seat⟩ a.hol)
          have cc5 := BAV.out.cells
          by_cases k0 : a.kind = 0
          · rw [k0] at cc5 HLEG BAV
            clear k0
            go_upto_region 15 with fail
            try go_upto_region 15 with fail
            have XD : Hid ((∀ i : Nat, V.drew.cell? ⟨w.heap.size, i, none⟩ = (#[.slice A n c, .slice A2 n2 c2] : Array Value)[i]?) ∧ (∀ i : Nat, V.drew.cell? ⟨ka, i, none⟩ = (#[.int .i64 0, .int .i64 a.fl, .string a.leg.key.car, .int .i64 a.leg.key.num, .int .i64 a.leg.day, .int .i64 a.seat.row, .int .u8 a.seat.let_, .string a.hol.loc, .int .i64 a.hol.pax] : Array Value)[i]?)) := ⟨H5V.out.bw.cells, BAV.out.cells⟩
            go_region_held3 (fun w' => (∀ i : Nat, w'.cell? ⟨w.heap.size, i, none⟩ = (#[.slice A n c, .slice A2 n2 c2] : Array Value)[i]?) ∧ (∀ i : Nat, w'.cell? ⟨ka, i, none⟩ = (#[.int .i64 0, .int .i64 a.fl, .string a.leg.key.car, .int .i64 a.leg.key.num, .int .i64 a.leg.day, .int .i64 a.seat.row, .int .u8 a.seat.let_, .string a.hol.loc, .int .i64 a.hol.pax] : Array Value)[i]?)) (first | (with_reducible exact XD.out) | (with_reducible exact X1.out) | (with_reducible exact X2.out)) (first
              | (go_at_call 30; (with_reducible refine (HLEG.out _ HBV.out.drew).mono ?_); rintro e w3 ⟨rfl, h3⟩; have h3' : Below V.heap.size V w3 := ((Below.refl V.heap.size V).drew).trans h3; have H3 := Lib.hid h3'; have X1 : Hid ((∀ i : Nat, w3.cell? ⟨w.heap.size, i, none⟩ = (#[.slice A n c, .slice A2 n2 c2] : Array Value)[i]?) ∧ (∀ i : Nat, w3.cell? ⟨ka, i, none⟩ = (#[.int .i64 0, .int .i64 a.fl, .string a.leg.key.car, .int .i64 a.leg.key.num, .int .i64 a.leg.day, .int .i64 a.seat.row, .int .u8 a.seat.let_, .string a.hol.loc, .int .i64 a.hol.pax] : Array Value)[i]?)) := ⟨(H5V.out.bw.below h3' H5V.out.bw.lt).cells, (BAV.out.below h3' BAV.out.lt).cells⟩; clear h3 h3')
              | (go_at_call 33; (with_reducible refine (HTAKE.out _ H3.out).mono ?_); rintro e w4 ⟨rfl, hS4, hK4⟩; have HS4 := Lib.hid hS4; have HK4 := Lib.hid hK4; have X2 : Hid ((∀ i : Nat, w4.cell? ⟨w.heap.size, i, none⟩ = (#[.slice A n c, .slice A2 n2 c2] : Array Value)[i]?) ∧ (∀ i : Nat, w4.cell? ⟨ka, i, none⟩ = (#[.int .i64 0, .int .i64 a.fl, .string a.leg.key.car, .int .i64 a.leg.key.num, .int .i64 a.leg.day, .int .i64 a.seat.row, .int .u8 a.seat.let_, .string a.hol.loc, .int .i64 a.hol.pax] : Array Value)[i]?)) := ⟨((H5V.out.bw.below H3.out H5V.out.bw.lt).kb hK4 (by omega)).cells, ((BAV.out.below H3.out BAV.out.lt).kb hK4 (by omega)).cells⟩; clear hS4 hK4))
            have z34 := H3.out.size
            have HSF : Hid (HK w4 lo hi t p b rs ps (updH q ⟨g, a.seat⟩ (takeF (wrongB rs ps ⟨g, a.seat⟩) (q ⟨g, a.seat⟩) a.hol).2)) := HS4
            have H5F := Lib.hid ((H5V.out.below H3.out).kb HK4.out zkw zgx zgs zgo)
            have BAF := Lib.hid ((BAV.out.below H3.out BAV.out.lt).kb HK4.out (by omega))
            have HBF := Lib.hid (HK4.out.below (HBV.out.trans (H3.out.mono zV)) (by omega) (Nat.le_trans zV H3.out.size))
            have zF := HBF.out.size
            clear H3 HK4 X1 X2 XD z34 HS4
            by_cases hm1 : (⟨g, a.seat⟩ : Hpl) = ⟨x, s⟩
            rotate_left
            · obtain rfl : mn = false := by rw [← HMN.out]; exact decide_eq_false hm1
              have HQN1 := Lib.hid ((updH_other q ⟨g, a.seat⟩ (takeF (wrongB rs ps ⟨g, a.seat⟩) (q ⟨g, a.seat⟩) a.hol).2 (fun e => hm1 e.symm)).trans HQN0.out)
              have HQW2 := HQT
              generalize takeF (wrongB rs ps ⟨g, a.seat⟩) (q ⟨g, a.seat⟩) a.hol = r at HSF HQN1 HQW2
              rcases o with _ | z
              · have HQN := HQN1
                have cc1 := H5F.out.bw.cells
                have cc2 := H5F.out.bx.cells
                have cc3 := H5F.out.bs.cells
                have cc4 := H5F.out.bo.cells
                have cc5 := BAF.out.cells
                go_wp2_with fail
                refine (who_any HSF.out x s HOX.out HOS.out).mono ?_
                rintro e w9 ⟨he, h9⟩
                obtain rfl : e = .returned (.tuple #[.agg #[.string ⟨#[]⟩, .int .i64 0], .bool false]) := by rw [he, HQN.out]; rfl
                clear he cc1 cc2 cc3 cc4 cc5
                have HS9 := Lib.hid (HSF.out.keep h9)
                have h59 := H5F.out.below h9
                have HB9 := Lib.hid (HBF.out.trans (h9.mono zF))
                have z9 := HB9.out.size
                clear h9
                go_upto_region 27 with fail
                refine wp_world (fun V9 => Bx V9 w9.heap.size #[.string ⟨#[]⟩, .int .i64 0] 69 ∧ H5 V9 w.heap.size gx gs go #[.slice A n c, .slice A2 n2 c2] x s y ∧ HK V9 lo hi t p b rs ps (updH q ⟨g, a.seat⟩ r.2) ∧ Below w.heap.size w V9) ⟨Bx.new _ _ _, h59.below ((Below.refl _ _).alloc (Nat.le_refl _) _), HS9.out.keep ((Below.refl _ _).alloc (Nat.le_refl _) _), HB9.out.alloc z9 _⟩ ?_
                clear h59 HS9 HB9
                rintro V9 ⟨b9, h59, hS9, hB9⟩
                have HS10 := Lib.hid hS9
                have HB10 := Lib.hid hB9
                have H510 := Lib.hid h59
                have cc9 := b9.cells
                have cc8 := h59.bo.cells
                clear b9 h59 hS9 hB9
                go_wp2
                go_roundw
                case rel => exact ⟨k + 1, by omega, by go_num, _, y, none, rfl, H510.out, HS10.out, HQW2, HQN, Lib.hid (by simp), HB10.out⟩
                case measure => simp [intOf]; omega
              · obtain rfl := HQY.out z rfl
                have HQN := HQN1
                have cc1 := H5F.out.bw.cells
                have cc2 := H5F.out.bx.cells
                have cc3 := H5F.out.bs.cells
                have cc4 := H5F.out.bo.cells
                have cc5 := BAF.out.cells
                go_wp2_with fail
                refine (who_any HSF.out x s HOX.out HOS.out).mono ?_
                rintro e w9 ⟨he, h9⟩
                obtain rfl : e = .returned (.tuple #[.agg #[.string z.loc, .int .i64 z.pax], .bool true]) := by rw [he, HQN.out]; rfl
                clear he cc1 cc2 cc3 cc4 cc5
                have HS9 := Lib.hid (HSF.out.keep h9)
                have h59 := H5F.out.below h9
                have HB9 := Lib.hid (HBF.out.trans (h9.mono zF))
                have z9 := HB9.out.size
                clear h9
                go_upto_region 27 with fail
                refine wp_world (fun V9 => Bx V9 w9.heap.size #[.string z.loc, .int .i64 z.pax] 69 ∧ H5 V9 w.heap.size gx gs go #[.slice A n c, .slice A2 n2 c2] x s z ∧ HK V9 lo hi t p b rs ps (updH q ⟨g, a.seat⟩ r.2) ∧ Below w.heap.size w V9) ⟨Bx.new _ _ _, h59.below ((Below.refl _ _).alloc (Nat.le_refl _) _), HS9.out.keep ((Below.refl _ _).alloc (Nat.le_refl _) _), HB9.out.alloc z9 _⟩ ?_
                clear h59 HS9 HB9
                rintro V9 ⟨b9, h59, hS9, hB9⟩
                have HS10 := Lib.hid hS9
                have HB10 := Lib.hid hB9
                have H510 := Lib.hid h59
                have cc9 := b9.cells
                have cc8 := h59.bo.cells
                have hne := fun u => neq_hol z.loc z.loc z.pax z.pax u
                rw [decide_eq_true (rfl : (⟨z.loc, z.pax⟩ : Hol) = ⟨z.loc, z.pax⟩)] at hne
                clear b9 h59 hS9 hB9
                go_wp2
                go_roundw
                case rel => exact ⟨k + 1, by omega, by go_num, _, z, (some z), rfl, H510.out, HS10.out, HQW2, HQN, Lib.hid (by simp), HB10.out⟩
                case measure => simp [intOf]; omega
            · obtain ⟨hx1, hs1⟩ : x = g ∧ s = a.seat := by injection hm1 with h1 h2; exact ⟨h1.symm, h2.symm⟩
              subst hx1
              subst hs1
              obtain rfl : mn = true := by rw [← HMN.out]; exact decide_eq_true rfl
              rcases wrongB_cases rs ps ⟨x, a.seat⟩ with ⟨hw, hh⟩ | ⟨hw, hh⟩
              rotate_left
              · have ho : o = none := by
                  refine Classical.byContradiction fun h => ?_
                  have h1 := HQW.out ⟨x, a.seat⟩ (by rw [HQN0.out]; exact h)
                  rcases hw with hw | hw <;> rw [hw] at h1 <;> cases h1
                subst ho
                have hr0 : takeF (wrongB rs ps ⟨x, a.seat⟩) (q ⟨x, a.seat⟩) a.hol = (wrongB rs ps ⟨x, a.seat⟩, none) := by
                  rw [HQN0.out]
                  unfold takeF
                  rw [if_pos (by rcases hw with hw | hw <;> rw [hw] <;> decide)]
                rw [hr0] at HSF HQT
                have HQW2 := HQT
                rw [hr0]
                dsimp only at HSF HQW2
                clear hr0
                clear hw
                have cc1 := H5F.out.bw.cells
                have cc2 := H5F.out.bx.cells
                have cc3 := H5F.out.bs.cells
                have cc4 := H5F.out.bo.cells
                have cc5 := BAF.out.cells
                go_wp2_with fail
                refine (hhas_any HSF.out HR.out x a.seat HG.out HOA.out.seat hh).mono ?_
                rintro e w5 ⟨rfl, h5⟩
                clear cc1 cc2 cc3 cc4 cc5
                have HSG := Lib.hid (HSF.out.keep h5)
                have H5G := Lib.hid (H5F.out.below h5)
                have BAG := Lib.hid (BAF.out.below h5 BAF.out.lt)
                have HBG := Lib.hid (HBF.out.trans (h5.mono zF))
                have zG := HBG.out.size
                clear h5 HSF H5F BAF HBF
                have cc1 := H5G.out.bw.cells
                have cc2 := H5G.out.bx.cells
                have cc3 := H5G.out.bs.cells
                have cc4 := H5G.out.bo.cells
                have cc5 := BAG.out.cells
                have HQN := Lib.hid (updH_same q ⟨x, a.seat⟩ none)
                go_wp2_with fail
                refine (who_any HSG.out x a.seat HOX.out HOS.out).mono ?_
                rintro e w9 ⟨he, h9⟩
                obtain rfl : e = .returned (.tuple #[.agg #[.string ⟨#[]⟩, .int .i64 0], .bool false]) := by rw [he, HQN.out]; rfl
                clear he cc1 cc2 cc3 cc4 cc5
                have HS9 := Lib.hid (HSG.out.keep h9)
                have h59 := H5G.out.below h9
                have HB9 := Lib.hid (HBG.out.trans (h9.mono zG))
                have z9 := HB9.out.size
                clear h9
                go_upto_region 27 with fail
                refine wp_world (fun V9 => Bx V9 w9.heap.size #[.string ⟨#[]⟩, .int .i64 0] 69 ∧ H5 V9 w.heap.size gx gs go #[.slice A n c, .slice A2 n2 c2] x a.seat y ∧ HK V9 lo hi t p b rs ps (updH q ⟨x, a.seat⟩ none) ∧ Below w.heap.size w V9) ⟨Bx.new _ _ _, h59.below ((Below.refl _ _).alloc (Nat.le_refl _) _), HS9.out.keep ((Below.refl _ _).alloc (Nat.le_refl _) _), HB9.out.alloc z9 _⟩ ?_
                clear h59 HS9 HB9
                rintro V9 ⟨b9, h59, hS9, hB9⟩
                have HS10 := Lib.hid hS9
                have HB10 := Lib.hid hB9
                have H510 := Lib.hid h59
                have cc9 := b9.cells
                have cc8 := h59.bo.cells
                clear b9 h59 hS9 hB9
                go_wp2
                go_roundw
                case rel => exact ⟨k + 1, by omega, by go_num, _, y, none, rfl, H510.out, HS10.out, HQW2, HQN, Lib.hid (by simp), HB10.out⟩
                case measure => simp [intOf]; omega
              · rcases take_facts (wrongB rs ps ⟨x, a.seat⟩) (q ⟨x, a.seat⟩) a.hol with ⟨h0, _⟩ | ⟨_, ho, hr⟩ | ⟨_, ho, hr⟩ | ⟨_, y2, hne, ho, hr⟩
                · exact absurd hw h0
                · obtain rfl : o = none := HQN0.out.symm.trans ho
                  have hr1 : (takeF (wrongB rs ps ⟨x, a.seat⟩) (q ⟨x, a.seat⟩) a.hol) = (0, some a.hol) := hr
                  rw [hr1] at HSF HQT
                  have HQW2 := HQT
                  try rw [hr1]
                  dsimp only at HSF HQW2
                  clear hr hr1
                  have cc1 := H5F.out.bw.cells
                  have cc2 := H5F.out.bx.cells
                  have cc3 := H5F.out.bs.cells
                  have cc4 := H5F.out.bo.cells
                  have cc5 := BAF.out.cells
                  go_wp2_with fail
                  refine (hhas_any HSF.out HR.out x a.seat HG.out HOA.out.seat hh).mono ?_
                  rintro e w5 ⟨rfl, h5⟩
                  clear cc1 cc2 cc3 cc4 cc5
                  have HSG := Lib.hid (HSF.out.keep h5)
                  have H5G := Lib.hid (H5F.out.below h5)
                  have BAG := Lib.hid (BAF.out.below h5 BAF.out.lt)
                  have HBG := Lib.hid (HBF.out.trans (h5.mono zF))
                  have zG := HBG.out.size
                  clear h5 HSF H5F BAF HBF
                  have cc1 := H5G.out.bw.cells
                  have cc2 := H5G.out.bx.cells
                  have cc3 := H5G.out.bs.cells
                  have cc4 := H5G.out.bo.cells
                  have cc5 := BAG.out.cells
                  have ff4 := H5G.out.bo.free
                  go_upto_region 26 with fail
                  refine wp_world (fun V9 => H5 V9 w.heap.size gx gs go #[.slice A n c, .slice A2 n2 c2] x a.seat a.hol ∧ HK V9 lo hi t p b rs ps (updH q ⟨x, a.seat⟩ (some a.hol)) ∧ Below w.heap.size w V9) ⟨H5G.out.own zkwo zgxo zgso a.hol, HSG.out.kb ((Kb.cell go w5 0 _).trans (Kb.cell go _ 1 _)) (by omega) (by omega) (by omega), (HBG.out.setCell (by simp; omega) _).setCell (by simp; omega) _⟩ ?_
                  clear ff4 H5G HSG HBG cc1 cc2 cc3 cc4 cc5
                  rintro W5 ⟨h5, hS, hB⟩
                  have H5I := Lib.hid h5
                  have HSI := Lib.hid hS
                  have HBI := Lib.hid hB
                  have zI := hB.size
                  have cc1 := h5.bw.cells
                  have cc2 := h5.bx.cells
                  have cc3 := h5.bs.cells
                  have cc4 := h5.bo.cells
                  have cc5 : True := trivial
                  clear h5 hS hB
                  have HQN := Lib.hid (updH_same q ⟨x, a.seat⟩ (some a.hol))
                  go_wp2_with fail
                  refine (who_any HSI.out x a.seat HOX.out HOS.out).mono ?_
                  rintro e w9 ⟨he, h9⟩
                  obtain rfl : e = .returned (.tuple #[.agg #[.string a.hol.loc, .int .i64 a.hol.pax], .bool true]) := by rw [he, HQN.out]; rfl
                  clear he cc1 cc2 cc3 cc4 cc5
                  have HS9 := Lib.hid (HSI.out.keep h9)
                  have h59 := H5I.out.below h9
                  have HB9 := Lib.hid (HBI.out.trans (h9.mono zI))
                  have z9 := HB9.out.size
                  clear h9
                  go_upto_region 27 with fail
                  refine wp_world (fun V9 => Bx V9 w9.heap.size #[.string a.hol.loc, .int .i64 a.hol.pax] 69 ∧ H5 V9 w.heap.size gx gs go #[.slice A n c, .slice A2 n2 c2] x a.seat a.hol ∧ HK V9 lo hi t p b rs ps (updH q ⟨x, a.seat⟩ (some a.hol)) ∧ Below w.heap.size w V9) ⟨Bx.new _ _ _, h59.below ((Below.refl _ _).alloc (Nat.le_refl _) _), HS9.out.keep ((Below.refl _ _).alloc (Nat.le_refl _) _), HB9.out.alloc z9 _⟩ ?_
                  clear h59 HS9 HB9
                  rintro V9 ⟨b9, h59, hS9, hB9⟩
                  have HS10 := Lib.hid hS9
                  have HB10 := Lib.hid hB9
                  have H510 := Lib.hid h59
                  have cc9 := b9.cells
                  have cc8 := h59.bo.cells
                  have hne := fun u => neq_hol a.hol.loc a.hol.loc a.hol.pax a.hol.pax u
                  rw [decide_eq_true (rfl : (⟨a.hol.loc, a.hol.pax⟩ : Hol) = ⟨a.hol.loc, a.hol.pax⟩)] at hne
                  clear b9 h59 hS9 hB9
                  go_wp2
                  go_roundw
                  case rel => exact ⟨k + 1, by omega, by go_num, _, a.hol, (some a.hol), rfl, H510.out, HS10.out, HQW2, HQN, Lib.hid (by simp), HB10.out⟩
                  case measure => simp [intOf]; omega
                · obtain rfl : o = some a.hol := HQN0.out.symm.trans ho
                  have hy : y = a.hol := (HQY.out _ rfl).symm
                  subst hy
                  have hr1 : (takeF (wrongB rs ps ⟨x, a.seat⟩) (q ⟨x, a.seat⟩) a.hol) = (8, some a.hol) := hr
                  rw [hr1] at HSF HQT
                  have HQW2 := HQT
                  try rw [hr1]
                  dsimp only at HSF HQW2
                  clear hr hr1
                  have cc1 := H5F.out.bw.cells
                  have cc2 := H5F.out.bx.cells
                  have cc3 := H5F.out.bs.cells
                  have cc4 := H5F.out.bo.cells
                  have cc5 := BAF.out.cells
                  go_wp2_with fail
                  refine (hhas_any HSF.out HR.out x a.seat HG.out HOA.out.seat hh).mono ?_
                  rintro e w5 ⟨rfl, h5⟩
                  clear cc1 cc2 cc3 cc4 cc5
                  have HSG := Lib.hid (HSF.out.keep h5)
                  have H5G := Lib.hid (H5F.out.below h5)
                  have BAG := Lib.hid (BAF.out.below h5 BAF.out.lt)
                  have HBG := Lib.hid (HBF.out.trans (h5.mono zF))
                  have zG := HBG.out.size
                  clear h5 HSF H5F BAF HBF
                  have cc1 := H5G.out.bw.cells
                  have cc2 := H5G.out.bx.cells
                  have cc3 := H5G.out.bs.cells
                  have cc4 := H5G.out.bo.cells
                  have cc5 := BAG.out.cells
                  have hel := fun u => eql_hol a.hol.loc a.hol.loc a.hol.pax a.hol.pax u
                  rw [decide_eq_true (show (⟨a.hol.loc, a.hol.pax⟩ : Hol) = ⟨a.hol.loc, a.hol.pax⟩ from rfl)] at hel
                  have HQN := Lib.hid (updH_same q ⟨x, a.seat⟩ (some a.hol))
                  go_wp2_with fail
                  refine (who_any HSG.out x a.seat HOX.out HOS.out).mono ?_
                  rintro e w9 ⟨he, h9⟩
                  obtain rfl : e = .returned (.tuple #[.agg #[.string a.hol.loc, .int .i64 a.hol.pax], .bool true]) := by rw [he, HQN.out]; rfl
                  clear he cc1 cc2 cc3 cc4 cc5
                  have HS9 := Lib.hid (HSG.out.keep h9)
                  have h59 := H5G.out.below h9
                  have HB9 := Lib.hid (HBG.out.trans (h9.mono zG))
                  have z9 := HB9.out.size
                  clear h9
                  go_upto_region 27 with fail
                  refine wp_world (fun V9 => Bx V9 w9.heap.size #[.string a.hol.loc, .int .i64 a.hol.pax] 69 ∧ H5 V9 w.heap.size gx gs go #[.slice A n c, .slice A2 n2 c2] x a.seat a.hol ∧ HK V9 lo hi t p b rs ps (updH q ⟨x, a.seat⟩ (some a.hol)) ∧ Below w.heap.size w V9) ⟨Bx.new _ _ _, h59.below ((Below.refl _ _).alloc (Nat.le_refl _) _), HS9.out.keep ((Below.refl _ _).alloc (Nat.le_refl _) _), HB9.out.alloc z9 _⟩ ?_
                  clear h59 HS9 HB9
                  rintro V9 ⟨b9, h59, hS9, hB9⟩
                  have HS10 := Lib.hid hS9
                  have HB10 := Lib.hid hB9
                  have H510 := Lib.hid h59
                  have cc9 := b9.cells
                  have cc8 := h59.bo.cells
                  have hne := fun u => neq_hol a.hol.loc a.hol.loc a.hol.pax a.hol.pax u
                  rw [decide_eq_true (rfl : (⟨a.hol.loc, a.hol.pax⟩ : Hol) = ⟨a.hol.loc, a.hol.pax⟩)] at hne
                  clear b9 h59 hS9 hB9
                  go_wp2
                  go_roundw
                  case rel => exact ⟨k + 1, by omega, by go_num, _, a.hol, (some a.hol), rfl, H510.out, HS10.out, HQW2, HQN, Lib.hid (by simp), HB10.out⟩
                  case measure => simp [intOf]; omega
                · obtain rfl : o = some y2 := HQN0.out.symm.trans ho
                  obtain rfl : y2 = y := HQY.out _ rfl
                  have hr1 : (takeF (wrongB rs ps ⟨x, a.seat⟩) (q ⟨x, a.seat⟩) a.hol) = (14, some y2) := hr
                  rw [hr1] at HSF HQT
                  have HQW2 := HQT
                  try rw [hr1]
                  dsimp only at HSF HQW2
                  clear hr hr1
                  have cc1 := H5F.out.bw.cells
                  have cc2 := H5F.out.bx.cells
                  have cc3 := H5F.out.bs.cells
                  have cc4 := H5F.out.bo.cells
                  have cc5 := BAF.out.cells
                  go_wp2_with fail
                  refine (hhas_any HSF.out HR.out x a.seat HG.out HOA.out.seat hh).mono ?_
                  rintro e w5 ⟨rfl, h5⟩
                  clear cc1 cc2 cc3 cc4 cc5
                  have HSG := Lib.hid (HSF.out.keep h5)
                  have H5G := Lib.hid (H5F.out.below h5)
                  have BAG := Lib.hid (BAF.out.below h5 BAF.out.lt)
                  have HBG := Lib.hid (HBF.out.trans (h5.mono zF))
                  have zG := HBG.out.size
                  clear h5 HSF H5F BAF HBF
                  have cc1 := H5G.out.bw.cells
                  have cc2 := H5G.out.bx.cells
                  have cc3 := H5G.out.bs.cells
                  have cc4 := H5G.out.bo.cells
                  have cc5 := BAG.out.cells
                  have hel := fun u => eql_hol a.hol.loc y2.loc a.hol.pax y2.pax u
                  rw [decide_eq_false (show ¬ (⟨a.hol.loc, a.hol.pax⟩ : Hol) = ⟨y2.loc, y2.pax⟩ from (fun e => hne e.symm))] at hel
                  have HQN := Lib.hid (updH_same q ⟨x, a.seat⟩ (some y2))
                  go_wp2_with fail
                  refine (who_any HSG.out x a.seat HOX.out HOS.out).mono ?_
                  rintro e w9 ⟨he, h9⟩
                  obtain rfl : e = .returned (.tuple #[.agg #[.string y2.loc, .int .i64 y2.pax], .bool true]) := by rw [he, HQN.out]; rfl
                  clear he cc1 cc2 cc3 cc4 cc5
                  have HS9 := Lib.hid (HSG.out.keep h9)
                  have h59 := H5G.out.below h9
                  have HB9 := Lib.hid (HBG.out.trans (h9.mono zG))
                  have z9 := HB9.out.size
                  clear h9
                  go_upto_region 27 with fail
                  refine wp_world (fun V9 => Bx V9 w9.heap.size #[.string y2.loc, .int .i64 y2.pax] 69 ∧ H5 V9 w.heap.size gx gs go #[.slice A n c, .slice A2 n2 c2] x a.seat y2 ∧ HK V9 lo hi t p b rs ps (updH q ⟨x, a.seat⟩ (some y2)) ∧ Below w.heap.size w V9) ⟨Bx.new _ _ _, h59.below ((Below.refl _ _).alloc (Nat.le_refl _) _), HS9.out.keep ((Below.refl _ _).alloc (Nat.le_refl _) _), HB9.out.alloc z9 _⟩ ?_
                  clear h59 HS9 HB9
                  rintro V9 ⟨b9, h59, hS9, hB9⟩
                  have HS10 := Lib.hid hS9
                  have HB10 := Lib.hid hB9
                  have H510 := Lib.hid h59
                  have cc9 := b9.cells
                  have cc8 := h59.bo.cells
                  have hne := fun u => neq_hol y2.loc y2.loc y2.pax y2.pax u
                  rw [decide_eq_true (rfl : (⟨y2.loc, y2.pax⟩ : Hol) = ⟨y2.loc, y2.pax⟩)] at hne
                  clear b9 h59 hS9 hB9
                  go_wp2
                  go_roundw
                  case rel => exact ⟨k + 1, by omega, by go_num, _, y2, (some y2), rfl, H510.out, HS10.out, HQW2, HQN, Lib.hid (by simp), HB10.out⟩
                  case measure => simp [intOf]; omega
          · skip
            try go_upto_region 21 with fail
            have XD : Hid ((∀ i : Nat, V.drew.cell? ⟨w.heap.size, i, none⟩ = (#[.slice A n c, .slice A2 n2 c2] : Array Value)[i]?) ∧ (∀ i : Nat, V.drew.cell? ⟨ka, i, none⟩ = (#[.int .i64 a.kind, .int .i64 a.fl, .string a.leg.key.car, .int .i64 a.leg.key.num, .int .i64 a.leg.day, .int .i64 a.seat.row, .int .u8 a.seat.let_, .string a.hol.loc, .int .i64 a.hol.pax] : Array Value)[i]?)) := ⟨H5V.out.bw.cells, BAV.out.cells⟩
            go_region_held3 (fun w' => (∀ i : Nat, w'.cell? ⟨w.heap.size, i, none⟩ = (#[.slice A n c, .slice A2 n2 c2] : Array Value)[i]?) ∧ (∀ i : Nat, w'.cell? ⟨ka, i, none⟩ = (#[.int .i64 a.kind, .int .i64 a.fl, .string a.leg.key.car, .int .i64 a.leg.key.num, .int .i64 a.leg.day, .int .i64 a.seat.row, .int .u8 a.seat.let_, .string a.hol.loc, .int .i64 a.hol.pax] : Array Value)[i]?)) (first | (with_reducible exact XD.out) | (with_reducible exact X1.out) | (with_reducible exact X2.out)) (first
              | (go_at_call 30; (with_reducible refine (HLEG.out _ HBV.out.drew).mono ?_); rintro e w3 ⟨rfl, h3⟩; have h3' : Below V.heap.size V w3 := ((Below.refl V.heap.size V).drew).trans h3; have H3 := Lib.hid h3'; have X1 : Hid ((∀ i : Nat, w3.cell? ⟨w.heap.size, i, none⟩ = (#[.slice A n c, .slice A2 n2 c2] : Array Value)[i]?) ∧ (∀ i : Nat, w3.cell? ⟨ka, i, none⟩ = (#[.int .i64 a.kind, .int .i64 a.fl, .string a.leg.key.car, .int .i64 a.leg.key.num, .int .i64 a.leg.day, .int .i64 a.seat.row, .int .u8 a.seat.let_, .string a.hol.loc, .int .i64 a.hol.pax] : Array Value)[i]?)) := ⟨(H5V.out.bw.below h3' H5V.out.bw.lt).cells, (BAV.out.below h3' BAV.out.lt).cells⟩; clear h3 h3')
              | (go_at_call 35; (with_reducible refine (HFREE.out _ H3.out).mono ?_); rintro e w4 ⟨rfl, hS4, hK4⟩; have HS4 := Lib.hid hS4; have HK4 := Lib.hid hK4; have X2 : Hid ((∀ i : Nat, w4.cell? ⟨w.heap.size, i, none⟩ = (#[.slice A n c, .slice A2 n2 c2] : Array Value)[i]?) ∧ (∀ i : Nat, w4.cell? ⟨ka, i, none⟩ = (#[.int .i64 a.kind, .int .i64 a.fl, .string a.leg.key.car, .int .i64 a.leg.key.num, .int .i64 a.leg.day, .int .i64 a.seat.row, .int .u8 a.seat.let_, .string a.hol.loc, .int .i64 a.hol.pax] : Array Value)[i]?)) := ⟨((H5V.out.bw.below H3.out H5V.out.bw.lt).kb hK4 (by omega)).cells, ((BAV.out.below H3.out BAV.out.lt).kb hK4 (by omega)).cells⟩; clear hS4 hK4))
            have z34 := H3.out.size
            have HSF : Hid (HK w4 lo hi t p b rs ps (updH q ⟨g, a.seat⟩ (freeF (wrongB rs ps ⟨g, a.seat⟩) (q ⟨g, a.seat⟩) a.hol).2)) := HS4
            have H5F := Lib.hid ((H5V.out.below H3.out).kb HK4.out zkw zgx zgs zgo)
            have BAF := Lib.hid ((BAV.out.below H3.out BAV.out.lt).kb HK4.out (by omega))
            have HBF := Lib.hid (HK4.out.below (HBV.out.trans (H3.out.mono zV)) (by omega) (Nat.le_trans zV H3.out.size))
            have zF := HBF.out.size
            clear H3 HK4 X1 X2 XD z34 HS4
            by_cases hm1 : (⟨g, a.seat⟩ : Hpl) = ⟨x, s⟩
            rotate_left
            · obtain rfl : mn = false := by rw [← HMN.out]; exact decide_eq_false hm1
              have HQN1 := Lib.hid ((updH_other q ⟨g, a.seat⟩ (freeF (wrongB rs ps ⟨g, a.seat⟩) (q ⟨g, a.seat⟩) a.hol).2 (fun e => hm1 e.symm)).trans HQN0.out)
              have HQW2 := HQF
              generalize freeF (wrongB rs ps ⟨g, a.seat⟩) (q ⟨g, a.seat⟩) a.hol = r at HSF HQN1 HQW2
              rcases o with _ | z
              · have HQN := HQN1
                have cc1 := H5F.out.bw.cells
                have cc2 := H5F.out.bx.cells
                have cc3 := H5F.out.bs.cells
                have cc4 := H5F.out.bo.cells
                have cc5 := BAF.out.cells
                go_wp2_with fail
                refine (who_any HSF.out x s HOX.out HOS.out).mono ?_
                rintro e w9 ⟨he, h9⟩
                obtain rfl : e = .returned (.tuple #[.agg #[.string ⟨#[]⟩, .int .i64 0], .bool false]) := by rw [he, HQN.out]; rfl
                clear he cc1 cc2 cc3 cc4 cc5
                have HS9 := Lib.hid (HSF.out.keep h9)
                have h59 := H5F.out.below h9
                have HB9 := Lib.hid (HBF.out.trans (h9.mono zF))
                have z9 := HB9.out.size
                clear h9
                go_upto_region 27 with fail
                refine wp_world (fun V9 => Bx V9 w9.heap.size #[.string ⟨#[]⟩, .int .i64 0] 69 ∧ H5 V9 w.heap.size gx gs go #[.slice A n c, .slice A2 n2 c2] x s y ∧ HK V9 lo hi t p b rs ps (updH q ⟨g, a.seat⟩ r.2) ∧ Below w.heap.size w V9) ⟨Bx.new _ _ _, h59.below ((Below.refl _ _).alloc (Nat.le_refl _) _), HS9.out.keep ((Below.refl _ _).alloc (Nat.le_refl _) _), HB9.out.alloc z9 _⟩ ?_
                clear h59 HS9 HB9
                rintro V9 ⟨b9, h59, hS9, hB9⟩
                have HS10 := Lib.hid hS9
                have HB10 := Lib.hid hB9
                have H510 := Lib.hid h59
                have cc9 := b9.cells
                have cc8 := h59.bo.cells
                clear b9 h59 hS9 hB9
                go_wp2
                go_roundw
                case rel => exact ⟨k + 1, by omega, by go_num, _, y, none, rfl, H510.out, HS10.out, HQW2, HQN, Lib.hid (by simp), HB10.out⟩
                case measure => simp [intOf]; omega
              · obtain rfl := HQY.out z rfl
                have HQN := HQN1
                have cc1 := H5F.out.bw.cells
                have cc2 := H5F.out.bx.cells
                have cc3 := H5F.out.bs.cells
                have cc4 := H5F.out.bo.cells
                have cc5 := BAF.out.cells
                go_wp2_with fail
                refine (who_any HSF.out x s HOX.out HOS.out).mono ?_
                rintro e w9 ⟨he, h9⟩
                obtain rfl : e = .returned (.tuple #[.agg #[.string z.loc, .int .i64 z.pax], .bool true]) := by rw [he, HQN.out]; rfl
                clear he cc1 cc2 cc3 cc4 cc5
                have HS9 := Lib.hid (HSF.out.keep h9)
                have h59 := H5F.out.below h9
                have HB9 := Lib.hid (HBF.out.trans (h9.mono zF))
                have z9 := HB9.out.size
                clear h9
                go_upto_region 27 with fail
                refine wp_world (fun V9 => Bx V9 w9.heap.size #[.string z.loc, .int .i64 z.pax] 69 ∧ H5 V9 w.heap.size gx gs go #[.slice A n c, .slice A2 n2 c2] x s z ∧ HK V9 lo hi t p b rs ps (updH q ⟨g, a.seat⟩ r.2) ∧ Below w.heap.size w V9) ⟨Bx.new _ _ _, h59.below ((Below.refl _ _).alloc (Nat.le_refl _) _), HS9.out.keep ((Below.refl _ _).alloc (Nat.le_refl _) _), HB9.out.alloc z9 _⟩ ?_
                clear h59 HS9 HB9
                rintro V9 ⟨b9, h59, hS9, hB9⟩
                have HS10 := Lib.hid hS9
                have HB10 := Lib.hid hB9
                have H510 := Lib.hid h59
                have cc9 := b9.cells
                have cc8 := h59.bo.cells
                have hne := fun u => neq_hol z.loc z.loc z.pax z.pax u
                rw [decide_eq_true (rfl : (⟨z.loc, z.pax⟩ : Hol) = ⟨z.loc, z.pax⟩)] at hne
                clear b9 h59 hS9 hB9
                go_wp2
                go_roundw
                case rel => exact ⟨k + 1, by omega, by go_num, _, z, (some z), rfl, H510.out, HS10.out, HQW2, HQN, Lib.hid (by simp), HB10.out⟩
                case measure => simp [intOf]; omega
            · obtain ⟨hx1, hs1⟩ : x = g ∧ s = a.seat := by injection hm1 with h1 h2; exact ⟨h1.symm, h2.symm⟩
              subst hx1
              subst hs1
              obtain rfl : mn = true := by rw [← HMN.out]; exact decide_eq_true rfl
              rcases wrongB_cases rs ps ⟨x, a.seat⟩ with ⟨hw, hh⟩ | ⟨hw, hh⟩
              rotate_left
              · have ho : o = none := by
                  refine Classical.byContradiction fun h => ?_
                  have h1 := HQW.out ⟨x, a.seat⟩ (by rw [HQN0.out]; exact h)
                  rcases hw with hw | hw <;> rw [hw] at h1 <;> cases h1
                subst ho
                have hr0 : freeF (wrongB rs ps ⟨x, a.seat⟩) (q ⟨x, a.seat⟩) a.hol = (wrongB rs ps ⟨x, a.seat⟩, none) := by
                  rw [HQN0.out]
                  unfold freeF
                  rw [if_pos (by rcases hw with hw | hw <;> rw [hw] <;> decide)]
                rw [hr0] at HSF HQF
                have HQW2 := HQF
                rw [hr0]
                dsimp only at HSF HQW2
                clear hr0
                rcases hw with hw | hw
                · rw [hw]
                  have cc1 := H5F.out.bw.cells
                  have cc2 := H5F.out.bx.cells
                  have cc3 := H5F.out.bs.cells
                  have cc4 := H5F.out.bo.cells
                  have cc5 := BAF.out.cells
                  have HQN := Lib.hid (updH_same q ⟨x, a.seat⟩ none)
                  go_wp2_with fail
                  refine (who_any HSF.out x a.seat HOX.out HOS.out).mono ?_
                  rintro e w9 ⟨he, h9⟩
                  obtain rfl : e = .returned (.tuple #[.agg #[.string ⟨#[]⟩, .int .i64 0], .bool false]) := by rw [he, HQN.out]; rfl
                  clear he cc1 cc2 cc3 cc4 cc5
                  have HS9 := Lib.hid (HSF.out.keep h9)
                  have h59 := H5F.out.below h9
                  have HB9 := Lib.hid (HBF.out.trans (h9.mono zF))
                  have z9 := HB9.out.size
                  clear h9
                  go_upto_region 27 with fail
                  refine wp_world (fun V9 => Bx V9 w9.heap.size #[.string ⟨#[]⟩, .int .i64 0] 69 ∧ H5 V9 w.heap.size gx gs go #[.slice A n c, .slice A2 n2 c2] x a.seat y ∧ HK V9 lo hi t p b rs ps (updH q ⟨x, a.seat⟩ none) ∧ Below w.heap.size w V9) ⟨Bx.new _ _ _, h59.below ((Below.refl _ _).alloc (Nat.le_refl _) _), HS9.out.keep ((Below.refl _ _).alloc (Nat.le_refl _) _), HB9.out.alloc z9 _⟩ ?_
                  clear h59 HS9 HB9
                  rintro V9 ⟨b9, h59, hS9, hB9⟩
                  have HS10 := Lib.hid hS9
                  have HB10 := Lib.hid hB9
                  have H510 := Lib.hid h59
                  have cc9 := b9.cells
                  have cc8 := h59.bo.cells
                  clear b9 h59 hS9 hB9
                  go_wp2
                  go_roundw
                  case rel => exact ⟨k + 1, by omega, by go_num, _, y, none, rfl, H510.out, HS10.out, HQW2, HQN, Lib.hid (by simp), HB10.out⟩
                  case measure => simp [intOf]; omega
                · rw [hw]
                  have cc1 := H5F.out.bw.cells
                  have cc2 := H5F.out.bx.cells
                  have cc3 := H5F.out.bs.cells
                  have cc4 := H5F.out.bo.cells
                  have cc5 := BAF.out.cells
                  have HQN := Lib.hid (updH_same q ⟨x, a.seat⟩ none)
                  go_wp2_with fail
                  refine (who_any HSF.out x a.seat HOX.out HOS.out).mono ?_
                  rintro e w9 ⟨he, h9⟩
                  obtain rfl : e = .returned (.tuple #[.agg #[.string ⟨#[]⟩, .int .i64 0], .bool false]) := by rw [he, HQN.out]; rfl
                  clear he cc1 cc2 cc3 cc4 cc5
                  have HS9 := Lib.hid (HSF.out.keep h9)
                  have h59 := H5F.out.below h9
                  have HB9 := Lib.hid (HBF.out.trans (h9.mono zF))
                  have z9 := HB9.out.size
                  clear h9
                  go_upto_region 27 with fail
                  refine wp_world (fun V9 => Bx V9 w9.heap.size #[.string ⟨#[]⟩, .int .i64 0] 69 ∧ H5 V9 w.heap.size gx gs go #[.slice A n c, .slice A2 n2 c2] x a.seat y ∧ HK V9 lo hi t p b rs ps (updH q ⟨x, a.seat⟩ none) ∧ Below w.heap.size w V9) ⟨Bx.new _ _ _, h59.below ((Below.refl _ _).alloc (Nat.le_refl _) _), HS9.out.keep ((Below.refl _ _).alloc (Nat.le_refl _) _), HB9.out.alloc z9 _⟩ ?_
                  clear h59 HS9 HB9
                  rintro V9 ⟨b9, h59, hS9, hB9⟩
                  have HS10 := Lib.hid hS9
                  have HB10 := Lib.hid hB9
                  have H510 := Lib.hid h59
                  have cc9 := b9.cells
                  have cc8 := h59.bo.cells
                  clear b9 h59 hS9 hB9
                  go_wp2
                  go_roundw
                  case rel => exact ⟨k + 1, by omega, by go_num, _, y, none, rfl, H510.out, HS10.out, HQW2, HQN, Lib.hid (by simp), HB10.out⟩
                  case measure => simp [intOf]; omega
              · rcases free_facts (wrongB rs ps ⟨x, a.seat⟩) (q ⟨x, a.seat⟩) a.hol with ⟨h0, _⟩ | ⟨_, ho, hr⟩ | ⟨_, ho, hr⟩ | ⟨_, y2, hne, ho, hr⟩
                · exact absurd hw h0
                · obtain rfl : o = some a.hol := HQN0.out.symm.trans ho
                  have hy : y = a.hol := (HQY.out _ rfl).symm
                  subst hy
                  have hr1 : (freeF (wrongB rs ps ⟨x, a.seat⟩) (q ⟨x, a.seat⟩) a.hol) = (0, none) := hr
                  rw [hr1] at HSF HQF
                  have HQW2 := HQF
                  try rw [hr1]
                  dsimp only at HSF HQW2
                  clear hr hr1
                  have cc1 := H5F.out.bw.cells
                  have cc2 := H5F.out.bx.cells
                  have cc3 := H5F.out.bs.cells
                  have cc4 := H5F.out.bo.cells
                  have cc5 := BAF.out.cells
                  have hel := fun u => eql_hol a.hol.loc a.hol.loc a.hol.pax a.hol.pax u
                  rw [decide_eq_true (show (⟨a.hol.loc, a.hol.pax⟩ : Hol) = ⟨a.hol.loc, a.hol.pax⟩ from rfl)] at hel
                  have hen := fun u => neq_hol a.hol.loc a.hol.loc a.hol.pax a.hol.pax u
                  rw [decide_eq_true (show (⟨a.hol.loc, a.hol.pax⟩ : Hol) = ⟨a.hol.loc, a.hol.pax⟩ from rfl)] at hen
                  have HQN := Lib.hid (updH_same q ⟨x, a.seat⟩ none)
                  go_wp2_with fail
                  refine (who_any HSF.out x a.seat HOX.out HOS.out).mono ?_
                  rintro e w9 ⟨he, h9⟩
                  obtain rfl : e = .returned (.tuple #[.agg #[.string ⟨#[]⟩, .int .i64 0], .bool false]) := by rw [he, HQN.out]; rfl
                  clear he cc1 cc2 cc3 cc4 cc5
                  have HS9 := Lib.hid (HSF.out.keep h9)
                  have h59 := H5F.out.below h9
                  have HB9 := Lib.hid (HBF.out.trans (h9.mono zF))
                  have z9 := HB9.out.size
                  clear h9
                  go_upto_region 27 with fail
                  refine wp_world (fun V9 => Bx V9 w9.heap.size #[.string ⟨#[]⟩, .int .i64 0] 69 ∧ H5 V9 w.heap.size gx gs go #[.slice A n c, .slice A2 n2 c2] x a.seat a.hol ∧ HK V9 lo hi t p b rs ps (updH q ⟨x, a.seat⟩ none) ∧ Below w.heap.size w V9) ⟨Bx.new _ _ _, h59.below ((Below.refl _ _).alloc (Nat.le_refl _) _), HS9.out.keep ((Below.refl _ _).alloc (Nat.le_refl _) _), HB9.out.alloc z9 _⟩ ?_
                  clear h59 HS9 HB9
                  rintro V9 ⟨b9, h59, hS9, hB9⟩
                  have HS10 := Lib.hid hS9
                  have HB10 := Lib.hid hB9
                  have H510 := Lib.hid h59
                  have cc9 := b9.cells
                  have cc8 := h59.bo.cells
                  clear b9 h59 hS9 hB9
                  go_wp2
                  go_roundw
                  case rel => exact ⟨k + 1, by omega, by go_num, _, a.hol, none, rfl, H510.out, HS10.out, HQW2, HQN, Lib.hid (by simp), HB10.out⟩
                  case measure => simp [intOf]; omega
                · obtain rfl : o = none := HQN0.out.symm.trans ho
                  have hr1 : (freeF (wrongB rs ps ⟨x, a.seat⟩) (q ⟨x, a.seat⟩) a.hol) = (7, none) := hr
                  rw [hr1] at HSF HQF
                  have HQW2 := HQF
                  try rw [hr1]
                  dsimp only at HSF HQW2
                  clear hr hr1
                  have cc1 := H5F.out.bw.cells
                  have cc2 := H5F.out.bx.cells
                  have cc3 := H5F.out.bs.cells
                  have cc4 := H5F.out.bo.cells
                  have cc5 := BAF.out.cells
                  have HQN := Lib.hid (updH_same q ⟨x, a.seat⟩ none)
                  go_wp2_with fail
                  refine (who_any HSF.out x a.seat HOX.out HOS.out).mono ?_
                  rintro e w9 ⟨he, h9⟩
                  obtain rfl : e = .returned (.tuple #[.agg #[.string ⟨#[]⟩, .int .i64 0], .bool false]) := by rw [he, HQN.out]; rfl
                  clear he cc1 cc2 cc3 cc4 cc5
                  have HS9 := Lib.hid (HSF.out.keep h9)
                  have h59 := H5F.out.below h9
                  have HB9 := Lib.hid (HBF.out.trans (h9.mono zF))
                  have z9 := HB9.out.size
                  clear h9
                  go_upto_region 27 with fail
                  refine wp_world (fun V9 => Bx V9 w9.heap.size #[.string ⟨#[]⟩, .int .i64 0] 69 ∧ H5 V9 w.heap.size gx gs go #[.slice A n c, .slice A2 n2 c2] x a.seat y ∧ HK V9 lo hi t p b rs ps (updH q ⟨x, a.seat⟩ none) ∧ Below w.heap.size w V9) ⟨Bx.new _ _ _, h59.below ((Below.refl _ _).alloc (Nat.le_refl _) _), HS9.out.keep ((Below.refl _ _).alloc (Nat.le_refl _) _), HB9.out.alloc z9 _⟩ ?_
                  clear h59 HS9 HB9
                  rintro V9 ⟨b9, h59, hS9, hB9⟩
                  have HS10 := Lib.hid hS9
                  have HB10 := Lib.hid hB9
                  have H510 := Lib.hid h59
                  have cc9 := b9.cells
                  have cc8 := h59.bo.cells
                  clear b9 h59 hS9 hB9
                  go_wp2
                  go_roundw
                  case rel => exact ⟨k + 1, by omega, by go_num, _, y, none, rfl, H510.out, HS10.out, HQW2, HQN, Lib.hid (by simp), HB10.out⟩
                  case measure => simp [intOf]; omega
                · obtain rfl : o = some y2 := HQN0.out.symm.trans ho
                  obtain rfl : y2 = y := HQY.out _ rfl
                  have hr1 : (freeF (wrongB rs ps ⟨x, a.seat⟩) (q ⟨x, a.seat⟩) a.hol) = (7, some y2) := hr
                  rw [hr1] at HSF HQF
                  have HQW2 := HQF
                  try rw [hr1]
                  dsimp only at HSF HQW2
                  clear hr hr1
                  have cc1 := H5F.out.bw.cells
                  have cc2 := H5F.out.bx.cells
                  have cc3 := H5F.out.bs.cells
                  have cc4 := H5F.out.bo.cells
                  have cc5 := BAF.out.cells
                  have hel := fun u => eql_hol a.hol.loc y2.loc a.hol.pax y2.pax u
                  rw [decide_eq_false (show ¬ (⟨a.hol.loc, a.hol.pax⟩ : Hol) = ⟨y2.loc, y2.pax⟩ from (fun e => hne e.symm))] at hel
                  have hen := fun u => neq_hol a.hol.loc y2.loc a.hol.pax y2.pax u
                  rw [decide_eq_false (show ¬ (⟨a.hol.loc, a.hol.pax⟩ : Hol) = ⟨y2.loc, y2.pax⟩ from (fun e => hne e.symm))] at hen
                  have HQN := Lib.hid (updH_same q ⟨x, a.seat⟩ (some y2))
                  go_wp2_with fail
                  refine (who_any HSF.out x a.seat HOX.out HOS.out).mono ?_
                  rintro e w9 ⟨he, h9⟩
                  obtain rfl : e = .returned (.tuple #[.agg #[.string y2.loc, .int .i64 y2.pax], .bool true]) := by rw [he, HQN.out]; rfl
                  clear he cc1 cc2 cc3 cc4 cc5
                  have HS9 := Lib.hid (HSF.out.keep h9)
                  have h59 := H5F.out.below h9
                  have HB9 := Lib.hid (HBF.out.trans (h9.mono zF))
                  have z9 := HB9.out.size
                  clear h9
                  go_upto_region 27 with fail
                  refine wp_world (fun V9 => Bx V9 w9.heap.size #[.string y2.loc, .int .i64 y2.pax] 69 ∧ H5 V9 w.heap.size gx gs go #[.slice A n c, .slice A2 n2 c2] x a.seat y2 ∧ HK V9 lo hi t p b rs ps (updH q ⟨x, a.seat⟩ (some y2)) ∧ Below w.heap.size w V9) ⟨Bx.new _ _ _, h59.below ((Below.refl _ _).alloc (Nat.le_refl _) _), HS9.out.keep ((Below.refl _ _).alloc (Nat.le_refl _) _), HB9.out.alloc z9 _⟩ ?_
                  clear h59 HS9 HB9
                  rintro V9 ⟨b9, h59, hS9, hB9⟩
                  have HS10 := Lib.hid hS9
                  have HB10 := Lib.hid hB9
                  have H510 := Lib.hid h59
                  have cc9 := b9.cells
                  have cc8 := h59.bo.cells
                  have hne := fun u => neq_hol y2.loc y2.loc y2.pax y2.pax u
                  rw [decide_eq_true (rfl : (⟨y2.loc, y2.pax⟩ : Hol) = ⟨y2.loc, y2.pax⟩)] at hne
                  clear b9 h59 hS9 hB9
                  go_wp2
                  go_roundw
                  case rel => exact ⟨k + 1, by omega, by go_num, _, y2, (some y2), rfl, H510.out, HS10.out, HQW2, HQN, Lib.hid (by simp), HB10.out⟩
                  case measure => simp [intOf]; omega
      · obtain rfl : n3 = k := by omega
        go_wp2
        go_ret
        exact ⟨rfl, HB.out⟩
end Go.Proofs.YtlkdefmceghmnaaGreat
