/- Put together by program of: ScH, ScJ. -/
import Derived.Test.YtggomjfllbljeaaGreatDoorScG
import Derived.Test.YtggomjfllbljeaaGreatDoorMScP
import Derived.Test.YtggomjfllbljeaaGreatDoorItoa
import Derived.Lib.AppendIntMem
import Derived.Lib.AppendStr
import Derived.Lib.SlBytesConst
import Derived.Test.YtggomjfllbljeaaGreatDoorQuietB
namespace Go.Proofs.YtggomjfllbljeaaGreatDoor
set_option linter.unusedVariables false
open Go Go.RowKit
attribute [local go_sem] bat_get
/-- The table that strconv reads. -/
def Tab10 (w : World) : Prop := Lib.TabIs Tryz.prog w "internal/strconv.uint64pow10" .u64 Lib.pow10Tab
theorem Tab10.keep {w W : World} (h : Tab10 w) (hb : Below w.heap.size w W) : Tab10 W := Lib.tabBelow_of_tabIs h W hb
theorem itoa_law (u : Int) (h0 : -9223372036854775808 ≤ u) (h1 : u ≤ 9223372036854775807) (w : World) (hT : Tab10 w) :
    Calls Tryz.prog 33 #[.int .i64 u] w fun e w' => e = .returned (.string ⟨(Lib.itoa u).toArray⟩) ∧ Below w.heap.size w w' := by
  refine (Go.Proofs.Any.strconv_Itoa laysItoa u h0 h1 w hT).mono ?_
  rintro e w' ⟨rfl, k, os, rfl⟩
  exact ⟨rfl, Lib.below_grow _ w (Nat.le_refl _) k os⟩
def tBy : Ty UInt8 := ⟨fun x => [.int .u8 x.toNat], 1, fun _ => True, fun _ => rfl, fun x u h => by simp at h; subst h; rfl, by omega⟩
theorem sl_by : SlT Tryz.prog 57 5 1 := SlT.mk' (z := .int .u8 0) Tryz.underlying57 (by kernel_rfl) (b := 1) (by omega) (by rfl)
theorem by_map : ∀ l : List UInt8, l.map (fun b => Value.int .u8 b.toNat) = l.flatMap tBy.enc
  | [] => rfl
  | x :: l => by rw [List.map_cons, by_map l]; rfl
theorem str_by (s : ByteArray) : Lib.strCells s = (bl s).flatMap tBy.enc := by_map _
/-- 'append(b, s...)' of a text. -/
theorem push_text {ops : Array Oper} {rest : List Oper} {o : Oper} {a : Act} {Q : Exit → Act → World → Prop} {w : World} (hgd : o.guard = none) (sl x : Operand)
    (ho : o.op = .call { callee := .builtin .append, args := #[sl, x], argTypes := #[57, 9] }) {B : Nat} {v : Value} {l : List UInt8} (hs : a.eval sl = v) (hown : Own w B 5 tBy v l) (s : ByteArray) (hx : a.eval x = .string s)
    (hl : l.length + s.size ≤ 100000) (hB : B ≤ w.heap.size) (h : ∀ v' w', Own w' B 5 tBy v' (l ++ bl s) → Below B w w' → wpList Tryz.prog ops Q rest (a.put o.dst v') w') : wpList Tryz.prog ops Q (o :: rest) a w := by
  obtain ⟨i, hi, h0, h1, h2⟩ := info_parts (show (Tryz.prog.info? 5).map (fun i => (i.zero, i.size, i.bytes)) = some (some (.int .u8 0), 1, 1) by kernel_rfl)
  refine Lib.wpList_append_own_string w hgd sl x 57 9 ho B 5 i Tryz.underlying57 Tryz.underlying9 hi h0 h1 h2 v l.length (l.flatMap tBy.enc) hs hown.row s hx (by unfold maxLen; omega) (by omega) hB ?_
  intro v' w' hr hg _
  refine h v' w' ⟨fun _ _ => trivial, ?_⟩ ((Below.refl B w).grown hg hB (fun k hk => (World.ownsRow.lt hown.row k hk).1))
  rw [List.length_append, bl_size, List.flatMap_append, ← str_by]
  exact hr
/-- 'string(b)' of bytes. -/
theorem text_of {W : World} {lo hi n c : Nat} {A : Option Addr} {l : List UInt8} (h : Sl W lo hi tBy A n l) (hn : 0 < n) : (convert 57 9 (.slice A n c)).run Tryz.prog W = .ok (.string ⟨l.toArray⟩) W := by
  obtain ⟨b, o, rfl, _, _, hc⟩ := h.cells hn
  have hl := h.len
  subst hl
  exact run_convert_bytes_back (P := Tryz.prog) W 57 9 5 ⟨b, o, none⟩ c l Tryz.underlying57 Tryz.underlying5 Tryz.underlying9 (fun j hj => by
    have h1 := hc j l[j] (List.getElem?_eq_getElem hj) 0 (.int .u8 l[j].toNat) rfl
    have e : (⟨b, o, none⟩ : Addr).add j = ⟨b, o + j, none⟩ := by unfold Addr.add; split <;> simp_all
    rw [e]
    simpa [tBy] using h1)
/-- Bytes of the call's own: a row that it may write, or a literal's row that is full. -/
def RdB (W : World) (B : Nat) (v : Value) (l : List UInt8) : Prop :=
  Own W B 5 tBy v l ∨ ∃ g fr, v = .slice (some ⟨g, 0, none⟩) l.length l.length ∧ B ≤ g ∧ W.heap[g]? = some (.cells (l.flatMap tBy.enc).toArray 5 fr)
theorem by_flat_len (l : List UInt8) : (l.flatMap tBy.enc).length = l.length := by rw [← by_map, List.length_map]
theorem RdB.sl {W : World} {B n c : Nat} {A : Option Addr} {l : List UInt8} (h : RdB W B (.slice A n c) l) : Sl W B W.heap.size tBy A n l := by
  rcases h with h | ⟨g, fr, hv, hB, hg⟩
  · exact h.sl
  · injection hv with h1 h2 h3
    subst h1 h2
    refine ⟨rfl, fun _ _ => trivial, fun _ => ⟨g, 0, rfl, hB, (Array.getElem?_eq_some_iff.1 hg).1, fun k x hx j u hu => ?_⟩⟩
    have h3 := flatMap_at tBy l k x hx j u hu
    rw [cell_of_row W g _ _ 5 fr hg]
    simpa using h3
theorem RdB.keep {W W' : World} {B : Nat} {v : Value} {l : List UInt8} (h : RdB W B v l) (hb : Below W.heap.size W W') : RdB W' B v l := by
  rcases h with h | ⟨g, fr, hv, hB, hg⟩
  · exact .inl (h.keep hb)
  · exact .inr ⟨g, fr, hv, hB, (hb.block g (Array.getElem?_eq_some_iff.1 hg).1).trans hg⟩
theorem RdB.form {W : World} {B : Nat} {v : Value} {l : List UInt8} (h : RdB W B v l) : ∃ A c, v = .slice A l.length c := by
  rcases h with h | ⟨g, fr, hv, hB, hg⟩
  · exact h.form
  · exact ⟨_, _, hv⟩
/-- 'append(b, c)'. -/
theorem push_rd {ops : Array Oper} {rest : List Oper} {o : Oper} {a : Act} {Q : Exit → Act → World → Prop} (hgd : o.guard = none) (s x : Operand)
    (ho : o.op = .call { callee := .builtin .append, args := #[s, x], argTypes := #[57, 57] })
    {W : World} {B : Nat} {v : Value} {l : List UInt8} (hs : a.eval s = v) (hown : RdB W B v l) (y : UInt8) (news : Array Value) (hn : news.toList = tBy.enc y)
    (hx : a.eval x = .slice (some ⟨W.heap.size, 0, none⟩) 1 1) (hB : B ≤ W.heap.size) (hl : l.length < 1000000)
    (h : ∀ v' w', Own w' B 5 tBy v' (l ++ [y]) → Below B W w' → wpList Tryz.prog ops Q rest (a.put o.dst v') w') : wpList Tryz.prog ops Q (o :: rest) a (W.alloc (.cells news 5)) := by
  rcases hown with hown | ⟨g, fr, rfl, hBg, hg⟩
  · exact push_law hgd s x ho sl_by hs hown y trivial news hn hx hB (by omega) h
  · obtain ⟨i, hi, h0, h1, h2⟩ := info_parts (show (Tryz.prog.info? 5).map (fun i => (i.zero, i.size, i.bytes)) = some (some (.int .u8 0), 1, 1) by kernel_rfl)
    have hgl : g < W.heap.size := (Array.getElem?_eq_some_iff.1 hg).1
    have hg' : (W.alloc (.cells news 5)).heap[g]? = some (.cells (l.flatMap tBy.enc).toArray 5 fr) := (heap_alloc_old W _ hgl).trans hg
    have hnw : (W.alloc (.cells news 5)).heap[W.heap.size]? = some (.cells news 5) := heap_alloc_new W _
    have hadd : ∀ (b j : Nat), (⟨b, 0, none⟩ : Addr).add j = ⟨b, j, none⟩ := fun b j => by unfold Addr.add; split <;> simp_all
    have hr := fun ty => run_append_grow (P := Tryz.prog) (W.alloc (.cells news 5)) 57 ty 5 i (.int .u8 0) Tryz.underlying57 hi h0 ⟨g, 0, none⟩ l.length l.length (l.flatMap tBy.enc) (by rw [by_flat_len, h1]; omega)
      (fun j u hu => by rw [hadd, cell_of_row _ _ j _ _ _ hg']; simpa using hu) ⟨W.heap.size, 0, none⟩ 1 1 news.toList (by rw [hn, h1]; rfl)
      (fun j u hu => by rw [hadd, cell_of_row _ _ j _ _ _ hnw]; simpa using hu) (by omega) (by omega) (by rw [h2]; exact growslice_fits (by omega) (by omega))
    have hb := ((Below.refl B W).alloc hB (.cells news 5))
    refine wpList_plain hgd fun K hK => ?_
    unfold Oper.wp execOp
    simp only [ho, resolve, invoke, builtin, Sem.run_bind, Sem.run_pure, Result.andThen_ok, List.map_toArray, List.map_cons, List.map_nil, hs, hx, hr]
    refine hK _ _ (h _ _ ?_ (hb.drew.alloc (by simp; omega) _))
    have hge := grownCap_ge (W.alloc (.cells news 5)) (l.length + 1) l.length 5
    have hcm := grownCap_le_maxLen (W.alloc (.cells news 5)) (l.length + 1) l.length 5 (by unfold maxLen; omega)
    have hnew := heap_alloc_new (W.alloc (.cells news 5)).drew (.cells ((l.flatMap tBy.enc).toArray ++ news.toList.toArray ++ Builtin.zeroCells (Value.int .u8 0).cells (grownCap (W.alloc (.cells news 5)) (l.length + 1) l.length 5 - (l.length + 1))) 5)
    refine Own.ofRow (T := tBy) hnew (by simp; omega) (by simp) hge hcm ?_ (fun _ _ => trivial) ?_
    · rw [Array.size_append, Array.size_append, List.size_toArray, List.size_toArray, size_zeroCells, by_flat_len, hn]
      show l.length + 1 + _ * 1 = _ * 1
      omega
    · have e1 : ((l.flatMap tBy.enc).toArray ++ news.toList.toArray ++ Builtin.zeroCells (Value.int .u8 0).cells (grownCap (W.alloc (.cells news 5)) (l.length + 1) l.length 5 - (l.length + 1))).toList = (l ++ [y]).flatMap tBy.enc ++ (Builtin.zeroCells (Value.int .u8 0).cells (grownCap (W.alloc (.cells news 5)) (l.length + 1) l.length 5 - (l.length + 1))).toList := by
        rw [Array.toList_append, Array.toList_append, List.flatMap_append, hn]
        simp
      rw [e1]
      refine List.take_left' ?_
      rw [by_flat_len, List.length_append]
      show _ = _ * 1
      simp
theorem kc (w : World) (C : Array Value) (n c : Nat) : (convert 57 57 (.slice (some ⟨w.heap.size, 0, none⟩) n c)).run Tryz.prog (w.alloc (.cells C 5)) = .ok (.slice (some ⟨w.heap.size, 0, none⟩) n c) (w.alloc (.cells C 5 (C.size, C.size + 1))) :=
  Lib.run_convert_bytes_const (P := Tryz.prog) w 57 5 C n c Tryz.underlying57 Tryz.underlying5
theorem cat_eq {a b : ByteArray} {l : List UInt8} (h : bl a ++ bl b = l) : a ++ b = ⟨l.toArray⟩ := by
  subst h
  apply ByteArray.ext
  rw [ByteArray.data_append]
  apply Array.toList_inj.1
  simp [bl]
theorem box_ev (w : World) (cs : Array Value) (t : TypeId) : Bx (w.alloc (.cells cs t)) w.heap.size cs t ∧ Below w.heap.size w (w.alloc (.cells cs t)) := ⟨Bx.new _ _ _, (Below.refl _ _).alloc (Nat.le_refl _) _⟩
theorem itoa_len {n : Int} (h : okInt n) : (Lib.itoa n).length ≤ 21 := Lib.itoa_length_le n h.1 h.2
set_option maxRecDepth 100000 in
set_option maxHeartbeats 8000000 in
theorem text_any (x : Ev) {W : World} {lo hi : Nat} {A : Option Addr} {m c : Nat} (hx : Sl W lo hi tBool A m x.keep) (h1 : hi ≤ W.heap.size) (hm : m ≤ 5000) (hn : okInt x.n) (ha : okInt x.agent) (he : x.entry.size ≤ 100000) (hT : Tab10 W) :
    Calls Tryz.prog 16 #[.agg (evC x.kind x.agent x.entry x.n (.slice A m c))] W fun e W' => e = .returned (.string (textF x)) ∧ Below W.heap.size W W' := by
  obtain ⟨k, ag, en, n, l⟩ := x
  dsimp only at hx hn ha he ⊢
  have HX := Lib.hid hx
  have HTF : Hid (textF ⟨k, ag, en, n, l⟩ = ⟨(if k = 2 then wTick ++ Lib.itoa n else if k = 4 then wFuse ++ Lib.itoa n else if k = 3 then crashL ⟨k, ag, en, n, l⟩ (Lib.itoa n) else Lib.itoa ag ++ 32 :: en.data.toList).toArray⟩) := rfl
  generalize textF ⟨k, ag, en, n, l⟩ = tx at HTF ⊢
  have HT := Lib.hid hT
  have HB := box_ev W (evC k ag en n (.slice A m c)) 24
  have hln := itoa_len hn
  have hla := itoa_len ha
  have HI := Lib.hid (fun (V : World) (hV : Below W.heap.size W V) => itoa_law n hn.1 hn.2 V (HT.out.keep hV))
  have HI2 := Lib.hid (fun (V : World) (hV : Below W.heap.size W V) => itoa_law ag ha.1 ha.2 V (HT.out.keep hV))
  clear hx hT hn ha
  go_enter Tryz.func16, Tryz.ntmps16
  go_upto_region 1 with fail
  refine wp_world (fun V => Bx V W.heap.size (evC k ag en n (.slice A m c)) 24 ∧ Below W.heap.size W V) HB ?_
  clear HB
  rintro V ⟨b1, hb⟩
  have c1 := b1.cells
  have z1 := b1.lt
  go_wp2_with fail
  refine (HI.out _ hb).mono ?_
  rintro e V2 ⟨rfl, hb2⟩
  have b2 := b1.below hb2 z1
  have hb3 : Below W.heap.size W V2 := hb.trans (hb2.mono (by omega))
  have z2 := b2.lt
  have HLT : Hid (bl (⟨(Lib.itoa n).toArray⟩ : ByteArray) = Lib.itoa n) := rfl
  have hls : (⟨(Lib.itoa n).toArray⟩ : ByteArray).size ≤ 21 := hln
  generalize (⟨(Lib.itoa n).toArray⟩ : ByteArray) = dn at HLT hls
  clear HI c1 b1 hb hb2
  have c1 := b2.cells
  by_cases e2 : k = 2
  · have t2 : (k == 2) = true := by simp [e2]
    have HE : Hid (tx = (⟨#[116, 105, 99, 107, 32]⟩ : ByteArray) ++ dn) := by
      show _ = _
      rw [HTF.out, if_pos e2, cat_eq (l := wTick ++ Lib.itoa n) (by rw [HLT.out]; rfl)]
    clear e2
    go_wp2
    go_ret
    exact ⟨by rw [HE.out]; rfl, hb3⟩
  have t2 : (k == 2) = false := by simp [e2]
  by_cases e4 : k = 4
  · have t4 : (k == 4) = true := by simp [e4]
    have HE : Hid (tx = (⟨#[102, 117, 115, 101, 32]⟩ : ByteArray) ++ dn) := by
      show _ = _
      rw [HTF.out, if_neg e2, if_pos e4, cat_eq (l := wFuse ++ Lib.itoa n) (by rw [HLT.out]; rfl)]
    clear e4 e2
    go_wp2
    go_ret
    exact ⟨by rw [HE.out]; rfl, hb3⟩
  have t4 : (k == 4) = false := by simp [e4]
  by_cases e3 : k = 3
  rotate_left
  · have t3 : (k == 3) = false := by simp [e3]
    have HE : Hid (tx = ⟨(Lib.itoa ag ++ 32 :: en.data.toList).toArray⟩) := by
      show _ = _
      rw [HTF.out, if_neg e2, if_neg e4, if_neg e3]
    clear e2 e4 e3 HTF
    have HLT2 : Hid (bl (⟨(Lib.itoa ag).toArray⟩ : ByteArray) = Lib.itoa ag) := rfl
    have hls2 : (⟨(Lib.itoa ag).toArray⟩ : ByteArray).size ≤ 21 := hla
    generalize (⟨(Lib.itoa ag).toArray⟩ : ByteArray) = da at HLT2 hls2 HI2
    have HE2 : Hid (tx = da ++ (⟨#[32]⟩ : ByteArray) ++ en) := by
      show _ = _
      rw [HE.out, cat_eq (a := da) (l := Lib.itoa ag ++ [32]) (by rw [HLT2.out]; rfl), cat_eq (l := (Lib.itoa ag ++ [32]) ++ en.data.toList) (by simp only [bl]), List.append_assoc]
      rfl
    have HI3 := Lib.hid (fun t : Blw V2 => HI2.out t.W (hb3.trans (t.b.mono hb3.size)))
    have hq1 : ¬ 9223372036854775807 < da.size + 1 := by omega
    have hq2 : ¬ 9223372036854775807 < da.size + 1 + en.size := by omega
    clear HI2 HE
    go_upto_region 21 with fail
    refine wp_region_below (by kernel_rfl) (by kernel_rfl) ?_
    intro q9
    repeat
      (refine QH.step (fun K9 hK9 => ?_)
       go_simp
       first
       | (refine hK9 _ ?_; clear hK9 K9)
       | (apply Exists.intro
          refine ⟨fun _ => ?_, hK9 _ ?_⟩
          · first | (exact Calls.blw _ (HI3.out _))
          clear hK9 K9))
    refine QH.nil_ ?_
    clear q9
    rintro ⟨V9, hV9⟩
    dsimp only
    go_wp2
    go_ret
    exact ⟨by rw [HE2.out]; rfl, hb3.trans (hV9.mono hb3.size)⟩
  · have t3 : (k == 3) = true := by simp [e3]
    have HE : Hid (tx = ⟨(wCrash ++ (if l = [] then [45] else bitL l) ++ (if n = 0 then [] else 32 :: Lib.itoa n)).toArray⟩) := by
      show _ = _
      rw [HTF.out, if_neg e2, if_neg e4, if_pos e3]
      rfl
    clear e2 e4 e3 HTF
    clear HI2
    have hkc := kc
    go_upto_region 9 with fail
    have hr0 : RdB (V2.alloc (.cells #[.int .u8 99, .int .u8 114, .int .u8 97, .int .u8 115, .int .u8 104, .int .u8 32] 5 (6, 7))) (W.heap.size + 1) (.slice (some ⟨V2.heap.size, 0, none⟩) 6 6) wCrash := .inr ⟨V2.heap.size, (6, 7), rfl, by omega, heap_alloc_new _ _⟩
    clear hkc
    refine wp_world (fun V => RdB V (W.heap.size + 1) (.slice (some ⟨V2.heap.size, 0, none⟩) 6 6) wCrash ∧ Bx V W.heap.size (evC k ag en n (.slice A m c)) 24 ∧ Below W.heap.size W V) ⟨hr0, b2.alloc _, hb3.alloc (by omega) _⟩ ?_
    clear hr0 c1
    rintro V3 ⟨hr, b3, hb4⟩
    have c1 := b3.cells
    have z3 := b3.lt
    have HX3 := Lib.hid (HX.out.below hb4 h1)
    generalize hv0 : Value.slice (some ⟨V2.heap.size, 0, none⟩) 6 6 = v0 at hr
    have HV0 := Lib.hid hv0
    go_wp2
    go_loopw [4, 6, 27] (fun v _ i wr => ∃ j : Nat, j ≤ m ∧ i = .int .i64 j ∧ RdB wr (W.heap.size + 1) v (wCrash ++ bitL (l.take j)) ∧ Bx wr W.heap.size (evC k ag en n (.slice A m c)) 24 ∧ Below W.heap.size W wr) (fun _ _ i _ => m - (intOf i).toNat)
    case atStart => exact ⟨0, Nat.zero_le _, rfl, hr, b3, hb4⟩
    case round =>
      clear c1 hr b3 hb4 hv0
      rename_i v4 v6 v27 _
      obtain ⟨j, hj, rfl, hr, b3, hb4⟩ := hrel
      have HX4 := Lib.hid (HX.out.below hb4 h1)
      have z4 := b3.lt
      by_cases hlt : j < m
      · obtain ⟨g1, o1, x, hA, _, _, hx, d1⟩ := HX4.out.bool_ hlt
        subst hA
        have HS : Hid (l.take (j + 1) = l.take j ++ [x]) := by
          have h := hx.out
          show _ = _
          rw [List.take_add_one, h]
          rfl
        have hln4 : (wCrash ++ bitL (l.take j)).length < 1000000 := by
          rw [List.length_append]
          have : (bitL (l.take j)).length ≤ j := by unfold bitL; rw [List.length_map]; exact List.length_take_le _ _
          have : wCrash.length = 6 := rfl
          omega
        rcases x with _ | _
        · go_wp2_with (at_builtin; refine push_rd (W := wr) rfl (.tmp 35) (.tmp 36) rfl rfl hr 48 _ rfl rfl (by omega) hln4 ?_; intro v1 w1 ho1 hb1)
          go_roundw
          case rel => exact ⟨j + 1, by omega, by go_num, .inl (by rw [HS.out]; unfold bitL; rw [List.map_append, ← List.append_assoc]; exact ho1), b3.below hb1 (by omega), hb4.trans (hb1.mono (by omega))⟩
          case measure => simp [intOf]; omega
        · go_wp2_with (at_builtin; refine push_rd (W := wr) rfl (.tmp 32) (.tmp 33) rfl rfl hr 49 _ rfl rfl (by omega) hln4 ?_; intro v1 w1 ho1 hb1)
          go_roundw
          case rel => exact ⟨j + 1, by omega, by go_num, .inl (by rw [HS.out]; unfold bitL; rw [List.map_append, ← List.append_assoc]; exact ho1), b3.below hb1 (by omega), hb4.trans (hb1.mono (by omega))⟩
          case measure => simp [intOf]; omega
      · obtain rfl : j = m := by omega
        have hlen := HX4.out.len
        have ht : l.take j = l := List.take_of_length_le (by omega)
        rw [ht] at hr
        have c1 := b3.cells
        have HFIN := Lib.hid (fun (V : World) (A9 : Option Addr) (c9 : Nat) (L : List UInt8) (hL : wCrash ++ (if l = [] then [45] else bitL l) ++ (if n = 0 then [] else 32 :: Lib.itoa n) = L) (hR : RdB V (W.heap.size + 1) (.slice A9 L.length c9) L) => show tx = ⟨L.toArray⟩ ∧ (convert 57 9 (.slice A9 L.length c9)).run Tryz.prog V = .ok (.string tx) V from
          have h9 : tx = ⟨L.toArray⟩ := by rw [HE.out, hL]
          ⟨h9, by rw [h9]; exact text_of hR.sl (by rw [← hL]; simp [wCrash])⟩)
        clear ht
        have HFX := Lib.hid hb4
        by_cases hj0 : j = 0
        · have hnil : l = [] := List.eq_nil_of_length_eq_zero (hlen.trans hj0)
          have hn45 : wCrash ++ (if l = [] then [45] else bitL l) = wCrash ++ [45] := by rw [if_pos hnil]
          obtain ⟨LL, hLL⟩ : ∃ LL, LL = wCrash ++ [45] := ⟨_, rfl⟩
          have HLL : Hid (wCrash ++ (if l = [] then [45] else bitL l) = LL) := hn45.trans hLL.symm
          have HLE : Hid (LL.length = 7) := by show _ = _; rw [hLL]; rfl
          have HLB : Hid (7 ≤ 6000) := by show _ ≤ _; omega
          have hbl : wCrash ++ bitL l = wCrash := by rw [hnil]; rfl
          rw [hbl] at hr
          have HJ := Lib.hid hj0
          have t7 : ((j : Int) == 0) = true := by simp [hj0]
          have HH := Lib.hid hLL
          clear hnil hn45 hLL hbl hj0
          go_upto_region 18 with (at_builtin; refine push_rd (W := wr) rfl (.tmp 43) (.tmp 44) rfl rfl hr 45 _ rfl rfl (by omega) (by decide) ?_; intro v1 w1 ho1 hb1)
          have HR9 : Hid (RdB w1 (W.heap.size + 1) v1 LL) := by show RdB _ _ _ _; rw [HH.out]; exact .inl ho1
          have hb9 : Below W.heap.size W w1 := hb4.trans (hb1.mono (by omega))
          have b9 : Bx w1 W.heap.size (evC k ag en n (.slice A j c)) 24 := b3.below hb1 (by omega)
          have c9' := b9.cells
          have z9 := b9.lt
          by_cases hn0 : n = 0
          · have t0 : (n != 0) = false := by simp [hn0]
            have hf := HR9.out.form
            rw [HLE.out] at hf
            obtain ⟨A9, c9, hv9⟩ := hf
            have hr9 := HR9.out
            rw [hv9] at hr9
            have HF := HFIN.out _ A9 c9 LL (by rw [if_pos hn0, List.append_nil]; exact HLL.out) (by rw [HLE.out]; exact hr9)
            rw [HLE.out] at HF
            have hcv := HF.2
            clear HF
            subst hv9
            clear hr9 hn0
            go_wp2
            go_ret
            exact ⟨rfl, hb9⟩
          · have t0 : (n != 0) = true := by simp [hn0]
            have hl9 : LL.length ≤ 6000 := by rw [HLE.out]; exact HLB.out
            have HN0 := Lib.hid hn0
            clear hn0
            go_wp2_with (at_builtin; first | (refine push_rd (W := w1) rfl (.tmp 49) (.tmp 50) rfl rfl HR9.out 32 _ rfl rfl (by omega) (by omega) ?_; intro v2 w2 ho2 hb2) | (refine push_text rfl (.tmp 51) (.tmp 52) rfl rfl ho2 dn rfl (by rw [List.length_append, List.length_singleton]; omega) (by have := hb2.size; omega) ?_; intro v3 w3 ho3 hb3'; have hf := ho3.form; obtain ⟨A9, c9, hv9⟩ := hf; rw [hv9] at ho3; have hcv := (HFIN.out _ A9 c9 _ (by rw [if_neg HN0.out, HLT.out, ← HLL.out]; simp) (.inl ho3)).2; have H3 := Lib.hid ho3; clear ho3; obtain ⟨N9, hN9⟩ : ∃ N9, (LL ++ [32] ++ bl dn).length = N9 := ⟨_, rfl⟩; rw [hN9] at hv9 hcv; clear hN9 H3; subst hv9))
            go_ret
            exact ⟨rfl, hb9.trans ((hb2.trans hb3').mono (by omega))⟩
        · have hne : l ≠ [] := fun h => hj0 (by rw [h] at hlen; exact hlen.symm)
          have hn45 : wCrash ++ (if l = [] then [45] else bitL l) = wCrash ++ bitL l := by rw [if_neg hne]
          obtain ⟨LL, hLL⟩ : ∃ LL, LL = wCrash ++ bitL l := ⟨_, rfl⟩
          have HLL : Hid (wCrash ++ (if l = [] then [45] else bitL l) = LL) := hn45.trans hLL.symm
          have HLE : Hid (LL.length = 6 + j) := by show _ = _; rw [hLL, List.length_append]; unfold bitL; rw [List.length_map, hlen]; rfl
          have HLB : Hid (6 + j ≤ 6000) := by show _ ≤ _; omega
          rw [← hLL] at hr
          have t7 : ((j : Int) == 0) = false := by simp; omega
          clear hne hn45 hLL hj0
          go_upto_region 18 with fail
          have HR9 := Lib.hid hr
          have hb9 : Below W.heap.size W wr := hb4
          have b9 : Bx wr W.heap.size (evC k ag en n (.slice A j c)) 24 := b3
          have c9' := b9.cells
          have z9 := b9.lt
          by_cases hn0 : n = 0
          · have t0 : (n != 0) = false := by simp [hn0]
            have hf := HR9.out.form
            rw [HLE.out] at hf
            obtain ⟨A9, c9, hv9⟩ := hf
            have hr9 := HR9.out
            rw [hv9] at hr9
            have HF := HFIN.out _ A9 c9 LL (by rw [if_pos hn0, List.append_nil]; exact HLL.out) (by rw [HLE.out]; exact hr9)
            rw [HLE.out] at HF
            have hcv := HF.2
            clear HF
            subst hv9
            clear hr9 hn0
            go_wp2
            go_ret
            exact ⟨rfl, hb9⟩
          · have t0 : (n != 0) = true := by simp [hn0]
            have hl9 : LL.length ≤ 6000 := by rw [HLE.out]; exact HLB.out
            have HN0 := Lib.hid hn0
            clear hn0
            go_wp2_with (at_builtin; first | (refine push_rd (W := wr) rfl (.tmp 49) (.tmp 50) rfl rfl HR9.out 32 _ rfl rfl (by omega) (by omega) ?_; intro v2 w2 ho2 hb2) | (refine push_text rfl (.tmp 51) (.tmp 52) rfl rfl ho2 dn rfl (by rw [List.length_append, List.length_singleton]; omega) (by have := hb2.size; omega) ?_; intro v3 w3 ho3 hb3'; have hf := ho3.form; obtain ⟨A9, c9, hv9⟩ := hf; rw [hv9] at ho3; have hcv := (HFIN.out _ A9 c9 _ (by rw [if_neg HN0.out, HLT.out, ← HLL.out]; simp) (.inl ho3)).2; have H3 := Lib.hid ho3; clear ho3; obtain ⟨N9, hN9⟩ : ∃ N9, (LL ++ [32] ++ bl dn).length = N9 := ⟨_, rfl⟩; rw [hN9] at hv9 hcv; clear hN9 H3; subst hv9))
            go_ret
            exact ⟨rfl, hb9.trans ((hb2.trans hb3').mono (by omega))⟩
end Go.Proofs.YtggomjfllbljeaaGreatDoor
namespace Go.Proofs.YtggomjfllbljeaaGreatDoor
set_option linter.unusedVariables false
open Go Go.RowKit
theorem text_size {x : Ev} (hn : okInt x.n) (ha : okInt x.agent) : (textF x).size ≤ x.entry.size + x.keep.length + 60 := by
  obtain ⟨k, ag, en, n, l⟩ := x
  have h1 := itoa_len hn
  have h2 := itoa_len ha
  dsimp only at h1 h2 ⊢
  have h3 : en.data.toList.length = en.size := Array.length_toList
  have e : (textF ⟨k, ag, en, n, l⟩).size = (if k = 2 then wTick ++ Lib.itoa n else if k = 4 then wFuse ++ Lib.itoa n else if k = 3 then crashL ⟨k, ag, en, n, l⟩ (Lib.itoa n) else Lib.itoa ag ++ 32 :: en.data.toList).length := rfl
  rw [e]
  have w1 : wTick.length = 5 := rfl
  have w2 : wFuse.length = 5 := rfl
  have w3 : wCrash.length = 6 := rfl
  split
  · rw [List.length_append]; omega
  split
  · rw [List.length_append]; omega
  split
  · unfold crashL
    have : (bitL l).length = l.length := by unfold bitL; rw [List.length_map]
    rw [List.length_append, List.length_append]
    split <;> split <;> simp only [List.length_cons, List.length_nil] <;> omega
  · rw [List.length_append, List.length_cons]; omega
/-- What Print hands back: the line and no error, or none and the error. -/
def RetPr (W : World) (o : Option ByteArray) (e : Ending) (W' : World) : Prop :=
  e = .returned (.tuple #[.string (o.getD ⟨#[]⟩), .int .i64 (if o.isSome then 0 else 4)]) ∧ Below W.heap.size W W'
set_option maxRecDepth 100000 in
set_option maxHeartbeats 8000000 in
theorem print_any (x : Ev) {W : World} {lo hi : Nat} {A : Option Addr} {m c : Nat} (hx : Sl W lo hi tBool A m x.keep) (h1 : hi ≤ W.heap.size) (hm : m ≤ 5000) (hn : okInt x.n) (ha : okInt x.agent) (he : x.entry.size ≤ 90000) (hT : Tab10 W) :
    Calls Tryz.prog 8 #[.agg (evC x.kind x.agent x.entry x.n (.slice A m c))] W (RetPr W (printF textF x)) := by
  have hl := hx.len
  have hs := text_size hn ha
  have hP : printF textF x = if parseF (textF x) = some x then some (textF x) else none := rfl
  have HP := Lib.hid hP
  have HX := Lib.hid hx
  have HT := Lib.hid (fun (V : World) (hV : Below W.heap.size W V) => text_any x (c := c) (hx.below hV h1) (Nat.le_trans h1 hV.size) hm hn ha (by omega) (hT.keep hV))
  have HS := Lib.hid (fun (y : Ev) (V : World) (A2 : Option Addr) (c2 : Nat) (hV : Below W.heap.size W V) (hy : Sl V 0 V.heap.size tBool A2 y.keep.length y.keep) (hl2 : y.keep.length ≤ 1000000) => same_any y x (c := c2) (c2 := c) hy (hx.below hV h1) (Nat.le_refl _) (Nat.le_trans h1 hV.size) hl2)
  have hs2 : (textF x).size ≤ 100000 := by omega
  have HQ := Lib.hid (fun (V : World) => parse_any (textF x) hs2 V)
  have hkl : ∀ y, parseF (textF x) = some y → y.keep.length ≤ 1000000 := fun y hy => by
    have h := congrArg ByteArray.size (parse_text hy)
    by_cases hk : y.kind = 3
    · have e : (textF y).size = (if y.kind = 2 then wTick ++ Lib.itoa y.n else if y.kind = 4 then wFuse ++ Lib.itoa y.n else if y.kind = 3 then crashL y (Lib.itoa y.n) else Lib.itoa y.agent ++ 32 :: y.entry.data.toList).length := rfl
      rw [e, if_neg (by omega), if_neg (by omega), if_pos hk] at h
      unfold crashL at h
      by_cases hke : y.keep = []
      · rw [hke]; simp
      · rw [if_neg hke, List.length_append, List.length_append] at h
        have : (bitL y.keep).length = y.keep.length := by unfold bitL; rw [List.length_map]
        omega
    · have hk0 : y.keep = [] := by
        have hy' := hy
        unfold parseF at hy'
        split at hy'
        · obtain ⟨_, _, rfl⟩ := Option.map_eq_some_iff.1 hy'; rfl
        split at hy'
        · obtain ⟨_, _, rfl⟩ := Option.map_eq_some_iff.1 hy'; rfl
        split at hy'
        · exfalso
          unfold crashF at hy'
          split at hy'
          · dsimp only at hy'
            split at hy'
            · injection hy' with hy'; subst hy'; exact hk rfl
            · split at hy'
              · split at hy'
                · split at hy'
                  · injection hy' with hy'; subst hy'; exact hk rfl
                  · cases hy'
                · cases hy'
              · cases hy'
          · cases hy'
        split at hy'
        · injection hy' with hy'; subst hy'; rfl
        · cases hy'
      rw [hk0]; simp
  have HKL := Lib.hid hkl
  clear hkl hP hx hl hs hn ha hT
  generalize printF textF x = o at HP ⊢
  generalize textF x = tx at HP HT hs2 HQ HKL
  generalize parseF tx = px at HP HQ HKL
  obtain ⟨k, ag, en, n, l⟩ := x
  dsimp only at HX he HT ⊢
  have HB := box_ev W (evC k ag en n (.slice A m c)) 24
  go_enter Tryz.func8, Tryz.ntmps8
  go_upto_region 1 with fail
  refine wp_world (fun V => Bx V W.heap.size (evC k ag en n (.slice A m c)) 24 ∧ Below W.heap.size W V) HB ?_
  clear HB
  rintro V1 ⟨b1, hb1⟩
  have c1 := b1.cells
  have z1 := b1.lt
  go_wp2_with fail
  refine (HT.out _ hb1).mono ?_
  rintro e V2 ⟨rfl, hb2⟩
  have b2 := b1.below hb2 z1
  have hb3 : Below W.heap.size W V2 := hb1.trans (hb2.mono (by omega))
  have z2 := b2.lt
  clear HT b1 hb1 hb2 c1
  go_wp2_with fail
  refine (HQ.out _).mono ?_
  rintro e V3 ⟨A3, c3, rfl, ho, hb4⟩
  have b3 := b2.below hb4 z2
  have hb5 : Below W.heap.size W V3 := hb3.trans (hb4.mono (by omega))
  have z3 := b3.lt
  clear HQ b2 hb3 hb4
  rcases px with _ | y
  · have HN : Hid (o = none) := by show _ = _; rw [HP.out]; rfl
    obtain rfl := HN.out
    clear HP
    go_wp2
    go_ret2
    exact ⟨rfl, hb5.alloc (by omega) _⟩
  · have hl3 := HKL.out y rfl
    have hsl := (ho.sl).more (lo' := 0) (hi' := V3.heap.size) (Nat.zero_le _) (Nat.le_refl _)
    clear HKL ho
    change Sl V3 0 V3.heap.size tBool A3 y.keep.length y.keep at hsl
    have HSL := Lib.hid hsl
    clear hsl
    have HPP : Hid (o = if y = ⟨k, ag, en, n, l⟩ then some tx else none) := by
      show _ = _
      rw [HP.out]
      by_cases h : y = ⟨k, ag, en, n, l⟩
      · rw [if_pos h, if_pos (by rw [h])]
      · rw [if_neg h, if_neg (fun h2 => h (Option.some.inj h2))]
    clear HP
    obtain ⟨k2, ag2, en2, n2, l2⟩ := y
    dsimp only [evOf, Option.getD_some, Option.isSome_some] at hl3 HSL ⊢
    have b4 := Bx.new V3 (evC k2 ag2 en2 n2 (.slice A3 l2.length c3)) 24
    go_upto_region 3 with fail
    refine wp_world (fun V => Bx V W.heap.size (evC k ag en n (.slice A m c)) 24 ∧ Bx V V3.heap.size (evC k2 ag2 en2 n2 (.slice A3 l2.length c3)) 24 ∧ Below W.heap.size W V ∧ Hid (Sl V 0 V.heap.size tBool A3 l2.length l2)) ⟨b3.alloc _, b4, hb5.alloc (by omega) _, (HSL.out.alloc (Nat.le_refl _) _).more (Nat.le_refl _) (by simp)⟩ ?_
    clear b3 b4 hb5 HSL
    rintro V4 ⟨b3, b4, hb5, HSL⟩
    have c1 := b3.cells
    have c2 := b4.cells
    have HSS := Lib.hid (HS.out ⟨k2, ag2, en2, n2, l2⟩ V4 A3 c3 hb5 HSL.out hl3)
    clear HS
    go_wp2_with fail
    refine HSS.out.mono ?_
    rintro e V5 ⟨rfl, hb6⟩
    have hb7 : Below W.heap.size W V5 := hb5.trans (hb6.mono hb5.size)
    by_cases hy : Ev.mk k2 ag2 en2 n2 l2 = Ev.mk k ag en n l
    · have HN : Hid (o = some tx) := by show _ = _; rw [HPP.out, if_pos hy]
      obtain rfl := HN.out
      have tq : decide (Ev.mk k2 ag2 en2 n2 l2 = Ev.mk k ag en n l) = true := decide_eq_true hy
      generalize decide (Ev.mk k2 ag2 en2 n2 l2 = Ev.mk k ag en n l) = dq at tq ⊢
      subst tq
      clear hy HPP
      go_wp2
      go_ret2
      exact ⟨rfl, hb7⟩
    · have HN : Hid (o = none) := by show _ = _; rw [HPP.out, if_neg hy]
      obtain rfl := HN.out
      have tq : decide (Ev.mk k2 ag2 en2 n2 l2 = Ev.mk k ag en n l) = false := decide_eq_false hy
      generalize decide (Ev.mk k2 ag2 en2 n2 l2 = Ev.mk k ag en n l) = dq at tq ⊢
      subst tq
      clear hy HPP
      go_wp2
      go_ret2
      exact ⟨rfl, hb7⟩
end Go.Proofs.YtggomjfllbljeaaGreatDoor
