/- Put together by program of: Sw4, Sw5, Sw6. -/
import Derived.Test.YtggomjfllbljeaaGreatDoorMSwA
namespace Go.Proofs.YtggomjfllbljeaaGreatDoor
set_option linter.unusedVariables false
open Go Go.RowKit
attribute [local go_sem] bat_get
theorem ext_ext (q : ByteArray) {k m : Nat} (h : m ≤ k) : (q.extract 0 k).extract 0 m = q.extract 0 m := by
  rw [ByteArray.extract_extract]
  congr 1
  omega
theorem bat_ext (q : ByteArray) {k i : Nat} (h : i < k) (hk : k ≤ q.size) : bat (q.extract 0 k) i = bat q i := by
  unfold bat
  have e : (q.extract 0 k).data.toList = q.data.toList.take k := by
    rw [ByteArray.data_extract, Array.toList_extract]
    simp
  rw [e, List.getElem?_take, if_pos h]
set_option maxRecDepth 100000 in
set_option maxHeartbeats 4000000 in
theorem trimbyte_any (W : World) (q : ByteArray) (m : Nat) (hm : m ≤ q.size) (hsz : q.size ≤ 100000) (hsp : ∀ i, m ≤ i → i < q.size → bat q i = 32) (hl : 0 < m → bat q (m - 1) ≠ 32) :
    Calls Tryz.prog 67 #[.string q, .int .u8 32] W fun e W' => e = .returned (.string (q.extract 0 m)) ∧ W = W' := by
  have HSP := Lib.hid hsp
  have HL := Lib.hid hl
  clear hsp hl
  go_enter Tryz.func67, Tryz.ntmps67
  go_wp2
  go_loop [0] (fun v => ∃ k : Nat, m ≤ k ∧ k ≤ q.size ∧ v = .string (q.extract 0 k)) (fun v => match v with | .string x => x.size | _ => 0)
  case atStart => exact ⟨q.size, hm, Nat.le_refl _, by rw [ByteArray.extract_zero_size]⟩
  case round =>
    obtain ⟨k, hk1, hk2, rfl⟩ := hrel
    obtain ⟨x, hx⟩ : ∃ x, x = q.extract 0 k := ⟨_, rfl⟩
    have hxs : x.size = k := by rw [hx, ByteArray.size_extract]; omega
    have HE : Hid (∀ j, j ≤ k → x.extract 0 j = q.extract 0 j) := fun j hj => by rw [hx, ext_ext q hj]
    have HB : Hid (∀ j, j < k → bat x j = bat q j) := fun j hj => by rw [hx, bat_ext q hj hk2]
    rw [← hx]
    have HX := Lib.hid hx
    clear hx
    by_cases hlt : m < k
    · have hb : bat x (k - 1) = 32 := (HB.out _ (by omega)).trans (HSP.out _ (by omega) (by omega))
      have hk0 : 0 < x.size := by omega
      obtain ⟨k', rfl⟩ : ∃ k', k = k' + 1 := ⟨k - 1, by omega⟩
      have he := HE.out k' (by omega)
      simp only [Nat.add_sub_cancel] at hb
      go_wp2
      refine ⟨⟨k', by omega, by omega, rfl⟩, ?_⟩
      show (q.extract 0 k').size < x.size
      rw [ByteArray.size_extract]
      omega
    · obtain rfl : k = m := by omega
      by_cases hk0 : k = 0
      · have hx0 : x.size = 0 := by omega
        have HK0 := Lib.hid hk0
        clear hk0
        go_wp2
        go_ret
        exact ⟨by rw [HX.out]; rfl, rfl⟩
      · obtain ⟨k', rfl⟩ : ∃ k', k = k' + 1 := ⟨k - 1, by omega⟩
        have hb : bat x k' ≠ 32 := by rw [HB.out _ (by omega)]; exact HL.out (by omega)
        go_wp2
        go_ret
        exact ⟨by rw [HX.out]; rfl, rfl⟩
set_option maxRecDepth 100000 in
set_option maxHeartbeats 4000000 in
theorem trimr_any (W : World) (q : ByteArray) (m : Nat) (hm : m ≤ q.size) (h0 : 0 < q.size) (hsz : q.size ≤ 100000) (hsp : ∀ i, m ≤ i → i < q.size → bat q i = 32) (hl : 0 < m → bat q (m - 1) ≠ 32) :
    Calls Tryz.prog 41 #[.string q, .string ⟨#[32]⟩] W fun e W' => e = .returned (.string (q.extract 0 m)) ∧ W = W' := by
  have HSP := Lib.hid hsp
  have HL := Lib.hid hl
  have hie : q.toList.isEmpty = false := by rw [isEmpty_size]; exact decide_eq_false (by omega)
  clear hsp hl
  go_enter Tryz.func41, Tryz.ntmps41
  go_wp2_with fail
  refine (trimbyte_any _ q m hm hsz HSP.out HL.out).mono ?_
  rintro e V ⟨rfl, rfl⟩
  go_wp2
  go_ret
  exact ⟨rfl, rfl⟩
end Go.Proofs.YtggomjfllbljeaaGreatDoor
namespace Go.Proofs.YtggomjfllbljeaaGreatDoor
set_option linter.unusedVariables false
open Go Go.RowKit
theorem wpList_index_of {P : Program} {ops : Array Oper} {rest : List Oper} {o : Oper} {a : Act} {w : World} {Q : Exit → Act → World → Prop} (hgd : o.guard = none) (ty : TypeId) (x y : Operand) (ho : o.op = .index ty x y) {u v r : Value}
    (hx : a.eval x = u) (hy : a.eval y = v) (hr : (Instr.index ty u v).run P w = .ok r w) (h : wpList P ops Q rest (a.put o.dst r) w) : wpList P ops Q (o :: rest) a w := by
  refine wpList_plain hgd fun K hK => ?_
  unfold Oper.wp execOp
  simp only [ho, hx, hy, Sem.run_bind, hr, Result.andThen_ok, Sem.run_pure]
  exact hK _ _ h
theorem index_arr {P : Program} {t e : TypeId} {n k : Nat} (hu : P.underlying t = some (.array n e)) (hi : ∀ w, (isAgg e).run P w = .ok true w) (hz : ∀ w, (sizeOf e).run P w = .ok k w) (cs : Array Value) {j : Nat} (hj : j < n) (w : World) :
    (Instr.index t (.agg cs) (.int .i64 j)).run P w = .ok (.agg (cs.extract (j * k) (j * k + k))) w := by
  have h0 : (0 : Int) ≤ j ∧ (j : Int) < n := by omega
  simp [Instr.index, asIntOf, run_underlying hu, part, hi, hz, h0, Sem.run_bind]
  omega
theorem agg_row (w : World) : (isAgg 65).run Tryz.prog w = .ok true w := by
  simp [isAgg, run_underlying Tryz.underlying65]
theorem info_row : (Tryz.prog.info? 65).map (·.size) = some 64 := by kernel_rfl
theorem size_row (w : World) : (sizeOf 65).run Tryz.prog w = .ok 64 w := by
  have h := info_row
  cases hq : Tryz.prog.info? 65 with
  | none => simp [hq] at h
  | some i => simp [hq] at h; simp [sizeOf, typeInfo, hq, h]
/-- A row of the screen of one line. -/
def rowL (l : List UInt8) (j : Nat) : List UInt8 := if j = 0 then padB l else padB []
theorem scr_row {l : List UInt8} (hl : l.length ≤ 64) {j : Nat} (hj : j < 24) : (scrC l).extract (j * 64) (j * 64 + 64) = rowC (rowL l j) 64 := by
  have e : ((scrB l).drop (64 * j)).take 64 = rowL l j := by
    unfold rowL
    by_cases h : j = 0
    · rw [if_pos h, h]; exact scrB_row0 hl
    · rw [if_neg h]; exact scrB_row hl (by omega) hj
  have el : (rowL l j).length = 64 := by
    unfold rowL
    split
    · exact padB_len hl
    · rfl
  apply Array.toList_inj.1
  rw [Array.toList_extract]
  simp only [scrC, rowC, Nat.sub_self, List.replicate_zero, List.append_nil, List.toList_toArray]
  rw [List.take_of_length_le (by rw [el]; omega), ← e, List.map_take, List.map_drop]
  rw [List.extract_eq_take_drop, Nat.mul_comm j 64]
  congr 1
  omega
theorem index_scr {l : List UInt8} (hl : l.length ≤ 64) {j : Nat} (hj : j < 24) (w : World) : (Instr.index 67 (.agg (scrC l)) (.int .i64 j)).run Tryz.prog w = .ok (.agg (rowC (rowL l j) 64)) w := by
  rw [← scr_row hl hj]
  exact index_arr Tryz.underlying67 agg_row size_row _ hj w
theorem rowC_one (l : List UInt8) : (rowC l 64).all (·.oneCell') = true := by
  rw [Array.all_eq_true_iff_forall_mem]
  intro v hv
  simp only [rowC, Nat.sub_self, List.replicate_zero, List.append_nil, List.mem_toArray, List.mem_map] at hv
  obtain ⟨b, _, rfl⟩ := hv
  rfl
theorem rowC_size {l : List UInt8} (h : l.length = 64) : (rowC l 64).size = 64 := by simp [rowC, h]
theorem rowL_len {l : List UInt8} (hl : l.length ≤ 64) (j : Nat) : (rowL l j).length = 64 := by
  unfold rowL
  split
  · exact padB_len hl
  · rfl
/-- What Text tells. -/
def RetTx (W : World) (s : ByteArray) (e : Ending) (W' : World) : Prop := e = .returned (.string (s ++ ⟨#[10]⟩)) ∧ Below W.heap.size W W'
theorem bat_mk (l : List UInt8) (i : Nat) : bat ⟨l.toArray⟩ i = ((l[i]?.getD 0).toNat : Int) := by simp [bat]
theorem trim_row {s : ByteArray} (hs : s.size ≤ 64) : (⟨(padB (bl s)).toArray⟩ : ByteArray).extract 0 s.size = s := by
  apply ByteArray.ext
  apply Array.toList_inj.1
  rw [ByteArray.data_extract, Array.toList_extract]
  simp only [List.extract_eq_take_drop, Nat.sub_zero, List.drop_zero]
  rw [padB, List.take_left' (bl_size s)]
  rfl
set_option maxRecDepth 100000 in
set_option maxHeartbeats 4000000 in
theorem text_scr (W : World) {s : ByteArray} (hs : s.size ≤ 64) (h0 : 0 < s.size) (hl : bat s (s.size - 1) ≠ 32) :
    Calls Tryz.prog 22 #[.agg (scrC (bl s))] W (RetTx W s) := by
  have hs' : (bl s).length ≤ 64 := by rw [bl_size]; exact hs
  have HL := Lib.hid hl
  have HSZ := Lib.hid (scrC_size hs')
  clear hl
  generalize hC : scrC (bl s) = C at HSZ
  have HC := Lib.hid hC
  clear hC
  go_enter Tryz.func22, Tryz.ntmps22
  go_upto_region 1 with fail
  have hb0 := Bx.new W C 67
  have hB0 := (Below.refl W.heap.size W).alloc (Nat.le_refl _) (.cells C 67)
  refine wp_world (fun V => Bx V W.heap.size C 67 ∧ Below W.heap.size W V) ⟨hb0, hB0⟩ ?_
  clear hb0 hB0
  rintro V1 ⟨b1, hb1⟩
  go_wp2_with (refine wpList_load_row rfl 67 (.tmp 1) rfl W.heap.size rfl 67 C (0, 0) _ b1 Tryz.underlying67 rfl (by rw [HSZ.out]; exact info_scr1) ?_)
  clear b1
  have HEM : Hid ((⟨#[]⟩ : ByteArray) ++ ((⟨#[]⟩ : ByteArray) ++ s ++ (⟨#[10]⟩ : ByteArray)) = s ++ ⟨#[10]⟩) := by
    show _ = _
    rw [show (⟨#[]⟩ : ByteArray) = ByteArray.empty from rfl, ByteArray.empty_append, ByteArray.empty_append]
  go_loopw [3, 4, 6, 7, 9] (fun u v _ _ i wr => ∃ j : Nat, j ≤ 24 ∧ i = .int .i64 j ∧ ((j = 0 ∧ u = .string ⟨#[]⟩ ∧ v = .string ⟨#[]⟩) ∨ (0 < j ∧ ∃ x y : ByteArray, Hid (x = s ++ ⟨#[10]⟩) ∧ u = .string x ∧ v = .string y ∧ y.size ≤ j)) ∧ Below W.heap.size W wr) (fun _ _ _ _ i _ => 24 - (intOf i).toNat)
  case atStart => exact ⟨0, Nat.zero_le _, rfl, .inl ⟨rfl, rfl, rfl⟩, hb1⟩
  case round =>
    clear hb1
    obtain ⟨j, hj, rfl, hor, hb1⟩ := hrel
    by_cases hlt : j < 24
    · have HIX : Hid (∀ w, (Instr.index 67 (.agg C) (.int .i64 j)).run Tryz.prog w = .ok (.agg (rowC (rowL (bl s) j) 64)) w) := fun w => by rw [← HC.out]; exact index_scr hs' hlt w
      have hRl := rowL_len hs' j
      obtain ⟨R, hR⟩ : ∃ R, R = rowL (bl s) j := ⟨_, rfl⟩
      rw [← hR] at HIX hRl
      have HR := Lib.hid hR
      have HRL := Lib.hid hRl
      clear hR hRl
      have HRS := Lib.hid (rowC_size HRL.out)
      have HRO := Lib.hid (rowC_one R)
      generalize hrc : rowC R 64 = RC at HIX HRS HRO
      have HRC := Lib.hid hrc
      clear hrc
      have HOR := Lib.hid hor
      clear hor
      go_upto_region 5 with (first | (refine wpList_index_of rfl 67 (.tmp 8) (.tmp 9) rfl rfl rfl (HIX.out _) ?_) | (refine wpList_store_row rfl 65 (.tmp 6) (.tmp 11) rfl wr.heap.size RC rfl rfl 65 _ (Bx.new _ _ _) (by rw [HRS.out]; exact info_row) (by rw [HRS.out]; rfl) HRO.out ?_))
      refine wp_world (fun V => Bx V wr.heap.size RC 65 ∧ Below W.heap.size W V) ⟨(Bx.new _ _ _).row RC, below_setRow (hb1.alloc hb1.size _) hb1.size RC⟩ ?_
      have hz9 := hb1.size
      clear hb1
      rintro V2 ⟨b2, hb2⟩
      have hst := sl_rowC HRL.out (by rw [HRC.out]; exact b2)
      have hcv := text_of (c := 64) hst (by omega)
      have z2 := b2.lt
      clear hst b2
      by_cases hj0 : j = 0
      · have hRp : R = padB (bl s) := by rw [HR.out, rowL, if_pos hj0]
        have hT : (⟨R.toArray⟩ : ByteArray).size = 64 ∧ (⟨R.toArray⟩ : ByteArray).extract 0 s.size = s ∧ (∀ i, s.size ≤ i → i < (⟨R.toArray⟩ : ByteArray).size → bat ⟨R.toArray⟩ i = 32) ∧ (0 < s.size → bat ⟨R.toArray⟩ (s.size - 1) ≠ 32) := by
          refine ⟨HRL.out, by rw [hRp]; exact trim_row hs, fun i h1 h2 => ?_, fun _ => ?_⟩
          · have h2' : i < 64 := by have : (⟨R.toArray⟩ : ByteArray).size = 64 := HRL.out; omega
            rw [bat_mk, hRp, padB, List.getElem?_append_right (by rw [bl_size]; exact h1), List.getElem?_replicate, if_pos (by rw [bl_size]; omega)]
            rfl
          · rw [bat_mk, hRp, padB, List.getElem?_append_left (by rw [bl_size]; omega)]
            exact HL.out
        generalize (⟨R.toArray⟩ : ByteArray) = q at hT hcv
        have HT := Lib.hid hT
        have HJ := Lib.hid hj0
        clear hRp hT
        obtain ⟨rfl, rfl⟩ : (_ = Value.string ⟨#[]⟩) ∧ (_ = Value.string ⟨#[]⟩) := by
          rcases HOR.out with ⟨_, h1, h2⟩ | ⟨h, _⟩
          · exact ⟨h1, h2⟩
          · omega
        clear hj0
        have hie : s.toList.isEmpty = false := by rw [isEmpty_size]; exact decide_eq_false (by omega)
        go_wp2_with fail
        refine (trimr_any _ q s.size (by rw [HT.out.1]; exact hs) (by rw [HT.out.1]; omega) (by rw [HT.out.1]; omega) HT.out.2.2.1 HT.out.2.2.2).mono ?_
        rintro e V3 ⟨rfl, rfl⟩
        rw [HT.out.2.1]
        go_wp2
        exact ⟨⟨j + 1, by omega, by go_num, .inr ⟨by omega, _, _, HEM.out, rfl, rfl, by show (0 : Nat) ≤ _; omega⟩, hb2⟩, by simp [intOf]; omega⟩
      · have hRp : R = padB [] := by rw [HR.out, rowL, if_neg hj0]
        have hT : (⟨R.toArray⟩ : ByteArray).size = 64 ∧ (⟨R.toArray⟩ : ByteArray).extract 0 0 = ⟨#[]⟩ ∧ (∀ i, 0 ≤ i → i < (⟨R.toArray⟩ : ByteArray).size → bat ⟨R.toArray⟩ i = 32) := by
          refine ⟨HRL.out, by rw [hRp]; rfl, fun i _ h2 => ?_⟩
          have h2' : i < 64 := by have : (⟨R.toArray⟩ : ByteArray).size = 64 := HRL.out; omega
          rw [bat_mk, hRp, padB, List.nil_append, List.getElem?_replicate, if_pos (by simpa using h2')]
          rfl
        generalize (⟨R.toArray⟩ : ByteArray) = q at hT hcv
        have HT := Lib.hid hT
        clear hRp hT
        obtain ⟨hj1, x, y, hx, rfl, rfl, hy⟩ : 0 < j ∧ ∃ x y : ByteArray, Hid (x = s ++ ⟨#[10]⟩) ∧ _ = Value.string x ∧ _ = Value.string y ∧ y.size ≤ j := by
          rcases HOR.out with ⟨h, _⟩ | h
          · exact absurd h hj0
          · exact h
        go_wp2_with fail
        refine (trimr_any _ q 0 (Nat.zero_le _) (by rw [HT.out.1]; omega) (by rw [HT.out.1]; omega) HT.out.2.2 (fun h => absurd h (by omega))).mono ?_
        rintro e V3 ⟨rfl, rfl⟩
        rw [HT.out.2.1]
        have hov : ¬ 9223372036854775807 < y.size + 1 := by omega
        go_wp2
        refine ⟨⟨j + 1, by omega, by go_num, .inr ⟨by omega, x, y ++ ⟨#[10]⟩, hx, rfl, rfl, ?_⟩, hb2⟩, by simp [intOf]; omega⟩
        rw [ByteArray.size_append]
        show y.size + 1 ≤ _
        omega
    · obtain rfl : j = 24 := by omega
      obtain ⟨hj1, x, y, hx, rfl, rfl, hy⟩ : 0 < 24 ∧ ∃ x y : ByteArray, Hid (x = s ++ ⟨#[10]⟩) ∧ _ = Value.string x ∧ _ = Value.string y ∧ y.size ≤ 24 := by
        rcases hor with ⟨h, _⟩ | h
        · exact absurd h (by omega)
        · exact h
      go_wp2
      go_ret
      exact ⟨by rw [← hx.out]; rfl, hb1⟩
end Go.Proofs.YtggomjfllbljeaaGreatDoor
namespace Go.Proofs.YtggomjfllbljeaaGreatDoor
set_option linter.unusedVariables false
open Go Go.RowKit
set_option maxRecDepth 100000 in
set_option maxHeartbeats 4000000 in
theorem hlines_one {W : World} {g : Nat} {s : ByteArray} {t : TypeId} (hg : Bx W g #[.string s] t) (hs : s.size ≤ 64) (hp : ∀ x ∈ bl s, 32 ≤ x.toNat ∧ x.toNat ≤ 126) :
    Calls Tryz.prog 47 #[.slice (some ⟨g, 0, none⟩) 1 1] W (RetScr W (bl s)) := by
  have z1 := hg.lt
  have HSZ := Lib.hid (scrC_size (l := bl s) (by rw [bl_size]; exact hs))
  have HON := Lib.hid (scrC_one (bl s))
  have HZZ : Hid (Tryz.zeroCells67.size = 1536) := by show _ = _; rw [zero_scr]; simp
  go_enter Tryz.func47, Tryz.ntmps47
  go_upto_region 1 with fail
  refine wp_world (fun V => Bx V W.heap.size Tryz.zeroCells67 67 ∧ Bx V g #[.string s] t ∧ Below W.heap.size W V) ⟨Bx.new _ _ _, hg.alloc _, (Below.refl _ _).alloc (Nat.le_refl _) _⟩ ?_
  rintro V1 ⟨b1, hg1, hb1⟩
  unfold RetScr
  go_wp2_with fail
  refine (render_one hg1 hs hp).mono ?_
  rintro e V2 ⟨rfl, hb2⟩
  have b2 := b1.below hb2 b1.lt
  have hb3 : Below W.heap.size W V2 := hb1.trans (hb2.mono hb1.size)
  generalize hC : scrC (bl s) = C at HSZ HON
  have b2r := b2.row C
  have hb9 := below_setRow hb3 (Nat.le_refl _) C
  clear b1 hg1 hb1 hb2
  go_wp2_with (refine wpList_store_row rfl 67 (.tmp 2) (.tmp 4) rfl W.heap.size C rfl rfl 67 _ b2 (by rw [HSZ.out]; exact info_scr1) (by rw [HSZ.out]; exact HZZ.out) HON.out ?_)
  exact ret_scr rfl b2r HSZ.out rfl rfl ⟨by rw [hC], hb9⟩
end Go.Proofs.YtggomjfllbljeaaGreatDoor
