/- Events in memory; what stands behind 'crash '. -/
import Derived.Test.YtggomjfllbljeaaGreatDoorMScn
import Derived.OrdersHeld
namespace Go.Proofs.YtggomjfllbljeaaGreatDoor
set_option linter.unusedVariables false
open Go Go.RowKit
attribute [local go_sem] bat_get
def tBool : Ty Bool := ⟨fun x => [.bool x], 1, fun _ => True, fun _ => rfl, fun x u h => by simp at h; subst h; rfl, by omega⟩
theorem sl_bool : SlT Tryz.prog 22 4 1 := SlT.mk' (z := .bool false) Tryz.underlying22 (by kernel_rfl) (b := 1) (by omega) (by rfl)
theorem Own.kp {α : Type} {w w' : World} {B : Nat} {e : TypeId} {T : Ty α} {v : Value} {l : List α} {S : Nat → Prop} (h : Own w B e T v l) (hk : Kp S w w') (hS : ∀ b, B ≤ b → ¬ S b) : Own w' B e T v l := by
  refine ⟨h.wf, h.row.1, ?_⟩
  rcases h.row.2 with hn | ⟨g, cap, cur, rfl, h1, hg, r⟩
  · exact .inl hn
  · exact .inr ⟨g, cap, cur, rfl, h1, (hk.block g (Array.getElem?_eq_some_iff.1 hg).1 (hS g h1)).trans hg, r⟩
/-- The cells of an event. -/
abbrev evC (k ag : Int) (en : ByteArray) (n : Int) (v : Value) : Array Value := #[.int .i64 k, .int .i64 ag, .string en, .int .i64 n, v]
/-- A call's result block, its event's block, and a cursor of another's. -/
structure CF (W : World) (b : Nat) (s : ByteArray) (a : Int) (rc ec : Array Value) (V : World) : Prop where
  K : Kp (fun k => k = b) W V
  r : Bx V W.heap.size rc 24
  e : Bx V (W.heap.size + 1) ec 24
  c : Cu V b s a
  lt : b < W.heap.size
section
variable {W V V' : World} {b : Nat} {s : ByteArray} {a a' : Int} {rc ec : Array Value}
theorem CF.call (H : CF W b s a rc ec V) (hC : Cu V' b s a') (hK : Kp (fun k => k = b) V V') : CF W b s a' rc ec V' :=
  ⟨H.K.trans hK (fun _ _ e => e), hK.bx H.r (by have := H.lt; omega), hK.bx H.e (by have := H.lt; omega), hC, H.lt⟩
theorem CF.below (H : CF W b s a rc ec V) (hb : Below V.heap.size V V') : CF W b s a rc ec V' :=
  H.call (H.c.keep (hb.block b H.c.lt) hb.size) (Kp.of hb)
theorem CF.grown (H : CF W b s a rc ec V) (hb : Below (W.heap.size + 2) V V') : CF W b s a rc ec V' :=
  ⟨⟨hb.os.trans H.K.os, hb.tape.trans H.K.tape, hb.output.trans H.K.output, Nat.le_trans H.K.size hb.size, fun k hk hn => (hb.block k (by omega)).trans (H.K.block k hk hn)⟩,
   H.r.below hb (by omega), H.e.below hb (by omega), H.c.keep (hb.block b (by have := H.lt; omega)) hb.size, H.lt⟩
theorem CF.putE (H : CF W b s a rc ec V) (i : Nat) (u : Value) : CF W b s a rc (ec.setIfInBounds i u) (V.setCell ⟨W.heap.size + 1, i, none⟩ u) :=
  ⟨⟨H.K.os, H.K.tape, H.K.output, by simpa using H.K.size, fun k hk hn => (Below.heap_setCell V ⟨W.heap.size + 1, i, none⟩ u k (by simp; omega)).trans (H.K.block k hk hn)⟩,
   H.r.other (by simp) u, H.e.put i u, H.c.keep (Below.heap_setCell V ⟨W.heap.size + 1, i, none⟩ u b (by have := H.lt; simp; omega)) (by simp), H.lt⟩
theorem CF.putR (H : CF W b s a rc ec V) (i : Nat) (u : Value) : CF W b s a (rc.setIfInBounds i u) ec (V.setCell ⟨W.heap.size, i, none⟩ u) :=
  ⟨⟨H.K.os, H.K.tape, H.K.output, by simpa using H.K.size, fun k hk hn => (Below.heap_setCell V ⟨W.heap.size, i, none⟩ u k (by simp; omega)).trans (H.K.block k hk hn)⟩,
   H.r.put i u, H.e.other (by simp) u, H.c.keep (Below.heap_setCell V ⟨W.heap.size, i, none⟩ u b (by have := H.lt; simp; omega)) (by simp), H.lt⟩
theorem CF.drew (H : CF W b s a rc ec V) : CF W b s a rc ec V.drew := ⟨H.K.drew, H.r, H.e, ⟨H.c.t, H.c.a, H.c.f, H.c.lt⟩, H.lt⟩
theorem CF.z (H : CF W b s a rc ec V) : W.heap.size + 1 < V.heap.size := H.e.lt
end
theorem CF.start {W : World} {b : Nat} {s : ByteArray} {a : Int} (h : Cu W b s a) (rc ec : Array Value) : CF W b s a rc ec ((W.alloc (.cells rc 24)).alloc (.cells ec 24)) := by
  have hb : Below W.heap.size W ((W.alloc (.cells rc 24)).alloc (.cells ec 24)) := ((Below.refl _ _).alloc (Nat.le_refl _) _).alloc (by simp) _
  refine ⟨Kp.of hb, (Bx.new _ _ _).alloc _, ?_, h.keep (hb.block b h.lt) hb.size, h.lt⟩
  have := Bx.new (W.alloc (.cells rc 24)) ec 24
  rwa [World.size_alloc] at this
theorem CF.put5 {W V : World} {b : Nat} {s : ByteArray} {a : Int} {k0 g0 : Int} {e0 : ByteArray} {n0 : Int} {v0 : Value} {ec : Array Value} (H : CF W b s a (evC k0 g0 e0 n0 v0) ec V) (k g : Int) (en : ByteArray) (n : Int) (v : Value) :
    CF W b s a (evC k g en n v) ec (((((V.setCell ⟨W.heap.size, 0, none⟩ (.int .i64 k)).setCell ⟨W.heap.size, 1, none⟩ (.int .i64 g)).setCell ⟨W.heap.size, 2, none⟩ (.string en)).setCell ⟨W.heap.size, 3, none⟩ (.int .i64 n)).setCell ⟨W.heap.size, 4, none⟩ v) :=
  ((((H.putR 0 _).putR 1 _).putR 2 _).putR 3 _).putR 4 _
theorem Own.put5 {α : Type} {w : World} {B g : Nat} {e : TypeId} {T : Ty α} {v : Value} {l : List α} (h : Own w B e T v l) (hg : g < B) (a b c d f : Value) : Own (((((w.setCell ⟨g, 0, none⟩ a).setCell ⟨g, 1, none⟩ b).setCell ⟨g, 2, none⟩ c).setCell ⟨g, 3, none⟩ d).setCell ⟨g, 4, none⟩ f) B e T v l :=
  ((((h.setCell (p := ⟨g, 0, none⟩) hg _).setCell (p := ⟨g, 1, none⟩) hg _).setCell (p := ⟨g, 2, none⟩) hg _).setCell (p := ⟨g, 3, none⟩) hg _).setCell (p := ⟨g, 4, none⟩) hg _
theorem CF.rowR {W V : World} {b : Nat} {s : ByteArray} {a : Int} {rc ec : Array Value} (H : CF W b s a rc ec V) (cs : Array Value) : CF W b s a cs ec (V.setRow W.heap.size cs) :=
  ⟨⟨H.K.os, H.K.tape, H.K.output, by simpa using H.K.size, fun k hk hn => (setRow_other V W.heap.size k cs (by omega)).trans (H.K.block k hk hn)⟩,
   H.r.row cs, H.e.rowOther (by omega) cs, H.c.keep (setRow_other V W.heap.size b cs (by have := H.lt; omega)) (by simp), H.lt⟩
theorem tk {P : Program} {ops : Array Oper} {Q : Exit → Act → World → Prop} {md : Region.Mode} {S : World → Prop} {i : Nat} {oi : Oper} {v : Value} {fuel : Nat} {listed : Array Bool} {a : Act} {w : World}
    (hv : ∀ w, S w → (execOp a.eval oi).run P w = .ok (.value v) w) (hS : S w) (h : wpAnyH P md ops Q S fuel (listed.setIfInBounds i true) (a.put oi.dst v) w)
    (hi : ops[i]? = some oi := by rfl) (hs : Region.noSelect ops = true := by kernel_rfl) (hf : Region.free md ops listed i = true := by kernel_rfl) (hr : (Region.ready md ops listed).contains i = true := by kernel_rfl)
    (hQ : ∀ c a w, Q (.panic c) (a.put oi.dst v) w → Q (.panic c) a w := by exact fun _ _ _ h => h) (hw : Region.wanted oi (yielded ops a.tmps) = true := by rfl) : wpAnyH P md ops Q S (fuel + 1) listed a w :=
  wpAnyH_take hi hs hf hr hQ (.inl ⟨hw, hv⟩) hS h
theorem step_store_any {P : Program} {ops : Array Oper} {o : Oper} {a : Act} {K : Act → World → Prop} {Q : Exit → Act → World → Prop} {E : Prop} {W : World} (ty : TypeId) (hgd : o.guard = none) (x y : Operand) (ho : o.op = .store ty x y) {g : Nat} (cells : Array Value) {old : Array Value}
    (hx : a.eval x = .pointer (some ⟨g, 0, none⟩)) (hy : a.eval y = .agg cells) (hr : Bx W g old ty) (hi : (P.info? ty).map (·.size) = some cells.size) (hold : old.size = cells.size) (h1 : cells.all (·.oneCell') = true)
    (h : K (a.put o.dst undef) (W.setRow g cells)) : if Region.wanted o (yielded ops a.tmps) = true then o.wp P a W K Q else E := by
  have hw : Region.wanted o (yielded ops a.tmps) = true := by simp [Region.wanted, hgd]
  rw [if_pos hw]
  exact wp_store_row _ x y ho g cells hx hy _ old hr hi hold h1 h
/-- What is handed back behind a cursor: an event, or none. -/
def RetCr (W : World) (b : Nat) (o : Option Ev) (e : Ending) (W' : World) : Prop :=
  ∃ k ag en n A m c l ok, e = .returned (.tuple #[.agg (evC k ag en n (.slice A m c)), .bool ok]) ∧ (ok = true → o = some ⟨k, ag, en, n, l⟩) ∧ (ok = false → o = none) ∧ l.length = m ∧ Own W' (W.heap.size + 2) 4 tBool (.slice A m c) l ∧ Kp (fun k => k = b) W W'
theorem info_ev : (Tryz.prog.info? 24).map (·.size) = some 5 := by kernel_rfl
theorem ret_ev {fn : Func} {p u : Tmp} (h : fn.results = #[.cell p 24, .tmp u]) {R : Ending → World → Prop} {a : Act} {w : World} {g : Nat} {cs : Array Value} {v : Value}
    (hr : Bx w g cs 24) (hs : cs.size = 5) (hp : a.tmps.getD p undef = .pointer (some ⟨g, 0, none⟩)) (hv : a.tmps.getD u undef = v) (hd : a.defers = []) (hR : R (.returned (.tuple #[.agg cs, v])) w) : bodyPost Tryz.prog fn R .ret a w := by
  refine bodyPost_ret (v := .tuple #[.agg cs, v]) ?_ hd hR
  rw [results_cell_tmp h, hp]
  have hl := run_loadVar_row (P := Tryz.prog) w g 24 24 cs (0, 0) _ hr Tryz.underlying24 rfl (by rw [hs]; exact info_ev)
  simp [asAddr, hl, hv, Result.andThen]
theorem ow_nil (W : World) (B : Nat) : Own W B 4 tBool (.slice none 0 0) [] := Own.nil_ _ _ _ _
theorem word_byte {s : ByteArray} {a : Nat} (h : a ≤ s.size) (c : UInt8) : begB (tailB s a) [c] = decide (a < s.size ∧ bat s a = c.toNat) := by
  unfold begB
  have ht := tail_size h
  have hb := tail_bat h 0
  rw [Nat.add_zero] at hb
  rw [decide_eq_decide]
  have hl : (tailB s a).data.toList.length = s.size - a := by rw [← ht]; exact Array.length_toList
  rcases hq : (tailB s a).data.toList with _ | ⟨x, r⟩
  · rw [hq] at hl
    simp at hl
    simp
    omega
  · rw [hq] at hl
    simp at hl
    have h0 : bat (tailB s a) 0 = (x.toNat : Int) := by unfold bat; rw [hq]; rfl
    rw [h0] at hb
    simp only [List.length_singleton, List.take_succ_cons, List.take_zero, List.cons.injEq, and_true]
    rw [← hb]
    constructor
    · intro h; subst h; exact ⟨by omega, rfl⟩
    · intro h; exact UInt8.toNat_inj.1 (by omega)
/-- What stands behind the bits. -/
def crashR (s : ByteArray) (a : Nat) (keep : List Bool) : Option Ev :=
  if a = s.size then some ⟨3, 0, ⟨#[]⟩, 0, keep⟩
  else if bat s a = 32 then
    match wholeF s (a + 1) with
    | some n => if 0 < n then some ⟨3, 0, ⟨#[]⟩, n, keep⟩ else none
    | none => none
  else none
theorem crashF_eq (s : ByteArray) : crashF s = if bat s 6 = 45 ∧ 6 < s.size ∨ (6 < runTo s 6 ∧ ∀ j, j < runTo s 6 → 6 ≤ j → bat s j ≤ 49) then crashR s (crashTo s) (if bat s 6 = 45 ∧ 6 < s.size then [] else bitsF s 6 (runTo s 6 - 6)) else none := rfl
theorem bits_step (s : ByteArray) (a k : Nat) : bitsF s a (k + 1) = bitsF s a k ++ [decide (bat s (a + k) = 49)] := by
  unfold bitsF
  rw [List.range_succ, List.map_append]
  rfl
theorem bits_len (s : ByteArray) (a k : Nat) : (bitsF s a k).length = k := by simp [bitsF]
/-- Up to where the bits end: the cursor, and the bits in memory. -/
def MidC (W : World) (b : Nat) (s : ByteArray) (o : Option Ev) (V : World) : Prop :=
  ∃ (a : Nat) (A : Option Addr) (c : Nat) (l : List Bool), a ≤ s.size ∧ o = crashR s a l ∧ CF W b s a (evC 0 0 ⟨#[]⟩ 0 (.slice none 0 0)) (evC 3 0 ⟨#[]⟩ 0 (.slice A l.length c)) V ∧ Own V (W.heap.size + 2) 4 tBool (.slice A l.length c) l
set_option maxRecDepth 100000 in
set_option maxHeartbeats 8000000 in
theorem crash_any {W : World} {b : Nat} {s : ByteArray} (h : Cu W b s (6 : Nat)) (h1 : 6 ≤ s.size) (h2 : s.size ≤ 100000) :
    Calls Tryz.prog 28 #[.pointer (some ⟨b, 0, none⟩)] W (RetCr W b (crashF s)) := by
  have hw0 := word_byte h1 45
  have HW := Lib.hid (fun (V : World) (hC : Cu V b s (6 : Nat)) => word_any (p := ⟨#[45]⟩) hC h1 h2)
  generalize hbq : begB (tailB s 6) (⟨#[45]⟩ : ByteArray).data.toList = bq at HW
  have hw1 : bq = decide (6 < s.size ∧ bat s 6 = 45) := hbq.symm.trans hw0
  have HW1 := Lib.hid hw1
  clear hw0 hbq hw1
  have HF0 := CF.start h (evC 0 0 ⟨#[]⟩ 0 (.slice none 0 0)) (evC 3 0 ⟨#[]⟩ 0 (.slice none 0 0))
  have HO := Lib.hid (crashF_eq s)
  generalize crashF s = o at HO ⊢
  go_enter Tryz.func28, Tryz.ntmps28
  go_upto_region 2 with fail
  refine wp_world (fun V => CF W b s (6 : Nat) (evC 0 0 ⟨#[]⟩ 0 (.slice none 0 0)) (evC 3 0 ⟨#[]⟩ 0 (.slice none 0 0)) V) HF0 ?_
  clear HF0
  rintro V0 H0
  go_wp2_with fail
  refine (HW.out _ H0.c).mono ?_
  rintro e V1 ⟨rfl, hC1, hK1⟩
  clear HW
  have H1 := H0.call hC1 hK1
  clear hC1 hK1 H0
  go_upto_if 14 with fail
  go_cut [5] (fun _ V => MidC W b s o V)
  case first =>
    by_cases hd : bat s 6 = 45 ∧ 6 < s.size
    · obtain rfl : bq = true := by rw [HW1.out, decide_eq_true_eq]; exact ⟨hd.2, hd.1⟩
      have H2 : CF W b s (7 : Nat) (evC 0 0 ⟨#[]⟩ 0 (.slice none 0 0)) (evC 3 0 ⟨#[]⟩ 0 (.slice none 0 0)) V1 := by
        have := H1
        exact this
      have hm : MidC W b s o V1 := ⟨7, none, 0, [], by omega, by rw [HO.out, if_pos (.inl hd), if_pos hd]; unfold crashTo; rw [if_pos hd], H2, ow_nil _ _⟩
      clear H1 H2 HW1 HO
      have HD := Lib.hid hd
      clear hd
      go_wp2
      go_meet
      exact hm
    · obtain rfl : bq = false := by rw [HW1.out, decide_eq_false_iff_not]; exact fun h => hd ⟨h.2, h.1⟩
      have H2 : CF W b s (6 : Nat) (evC 0 0 ⟨#[]⟩ 0 (.slice none 0 0)) (evC 3 0 ⟨#[]⟩ 0 (.slice none 0 0)) V1 := by
        have := H1
        rw [if_neg (by simp)] at this
        exact this
      clear H1 HW1
      have hb6 := runTo_bd h1
      have hall : ∀ j, j < runTo s 6 - 6 → dgB s (6 + j) = true := fun j hj => runTo_all (i := 6) (6 + j) (by omega) (by omega)
      have hsz : (s.extract 6 (runTo s 6)).size = runTo s 6 - 6 := by simp; omega
      have hbt : ∀ i, i < runTo s 6 - 6 → bat (s.extract 6 (runTo s 6)) i = bat s (6 + i) := fun i hi => ext_bat (by omega) hb6.2
      have hO : o = if 6 < runTo s 6 ∧ ∀ j, j < runTo s 6 → 6 ≤ j → bat s j ≤ 49 then crashR s (runTo s 6) (bitsF s 6 (runTo s 6 - 6)) else none := by
        rw [HO.out, if_neg hd]
        have e : crashTo s = runTo s 6 := by unfold crashTo; rw [if_neg hd]
        rw [e]
        by_cases hc : 6 < runTo s 6 ∧ ∀ j, j < runTo s 6 → 6 ≤ j → bat s j ≤ 49
        · rw [if_pos hc, if_pos (.inr hc)]
        · rw [if_neg hc, if_neg (fun h => h.elim hd hc)]
      have HOO := Lib.hid hO
      have HR := Lib.hid (fun (W : World) (hC : Cu W b s (6 : Nat)) => run_dig hC h1 h2)
      have HA := Lib.hid hall
      have HT := Lib.hid hbt
      clear hall hbt hO HO hd
      generalize s.extract 6 (runTo s 6) = q at HR hsz HT
      generalize runTo s 6 = z at HA HT HOO HR hsz hb6
      obtain ⟨r, rfl⟩ : ∃ r, z = 6 + r := ⟨z - 6, by omega⟩
      rw [Nat.add_sub_cancel_left] at hsz HOO
      have HA' := Lib.hid (fun j (hj : j < r) => HA.out j (by omega))
      have HT' := Lib.hid (fun j (hj : j < r) => HT.out j (by omega))
      clear HA HT
      subst hsz
      have hr : q.size ≤ 100000 := by omega
      go_wp2_with fail
      refine (HR.out _ H2.c).mono ?_
      rintro e V2 ⟨rfl, hC, hK⟩
      have H3 := H2.call hC hK
      clear hC hK H2
      have hie := isEmpty_size q
      have c1 := H3.e.cells
      have f1 := H3.e.free
      have c2 := H3.r.cells
      have f2 := H3.r.free
      have z1 := H3.z
      by_cases e0 : q.size = 0
      · rw [decide_eq_true e0] at hie
        have E0 := Lib.hid e0
        clear e0
        have hn : o = none := by rw [HOO.out, if_neg (by have := E0.out; omega)]
        go_wp2
        refine ret_ev Tryz.results28 (H3.put5 3 0 ⟨#[]⟩ 0 (.slice none 0 0)).r rfl rfl rfl rfl ?_
        exact ⟨_, _, _, _, _, _, _, [], _, rfl, (fun h => by cases h), (fun _ => hn), rfl, ow_nil _ _, (H3.put5 3 0 ⟨#[]⟩ 0 (.slice none 0 0)).K⟩
      rw [decide_eq_false e0] at hie
      have p0 : 0 < q.size := by omega
      clear e0
      obtain ⟨V3, c, hrun, hb3, hz3, hcell⟩ := bytes_of (P := Tryz.prog) V2 9 57 5 q Tryz.underlying9 Tryz.underlying57 Tryz.underlying5
      have HC := Lib.hid hcell
      clear hcell c1 f1 c2 f2
      have H4 := H3.below hb3
      have hlo : W.heap.size + 2 ≤ V2.heap.size := by omega
      clear H3
      go_wp2
      go_loopw [7, 23] (fun _ i wr => ∃ (k : Nat) (A : Option Addr) (cp : Nat), k ≤ q.size ∧ i = .int .i64 k ∧ CF W b s (6 + q.size : Nat) (evC 0 0 ⟨#[]⟩ 0 (.slice none 0 0)) (evC 3 0 ⟨#[]⟩ 0 (.slice A k cp)) wr ∧ Own wr (V2.heap.size + 1) 4 tBool (.slice A k cp) (bitsF s 6 k) ∧ V2.heap.size < wr.heap.size ∧ Hid (∀ j, j < q.size → wr.cell? ⟨V2.heap.size, j, none⟩ = some (.int .u8 (bat q j))) ∧ Hid (∀ j, j < k → bat s (6 + j) ≤ 49)) (fun _ i _ => q.size - (intOf i).toNat)
      case atStart => exact ⟨0, none, 0, Nat.zero_le _, rfl, H4, Own.nil_ _ _ _ _, hz3, HC.out, fun j hj => by omega⟩
      case round =>
        clear HC
        obtain ⟨k, A, cp, hk, rfl, H5, ho, hz5, HC, HL⟩ := hrel
        by_cases hlt : k < q.size
        · have c0 := HC.out k hlt
          have hd := HA'.out k hlt
          rw [HT'.out k hlt] at c0
          simp only [dgB, Bool.and_eq_true, decide_eq_true_eq] at hd
          have hd1 := hd.1
          have hd2 := hd.2
          clear hd
          have HU := Lib.hid (rfl : bat s (6 + k) = bat s (6 + k))
          generalize hu : bat s (6 + k) = u at c0 hd1 hd2
          have HU := Lib.hid hu
          clear hu
          have c1 := H5.e.cells
          have f1 := H5.e.free
          have c2 := H5.r.cells
          have f2 := H5.r.free
          by_cases h49 : u ≤ 49
          · have h49' : ¬ (49 : Int) < u := by omega
            clear c2 f2
            go_wp2_with (at_builtin; refine push_law (W := wr) rfl (.tmp 31) (.tmp 34) rfl sl_bool rfl ho _ trivial _ rfl rfl (by omega) (by rw [bits_len]; omega) ?_; intro v1 w1 ho1 hb1; have hl9 := ho1.form; rw [List.length_append, bits_len, List.length_singleton] at hl9; obtain ⟨A9, c9, hv9⟩ := hl9; subst hv9; have H6 := H5.grown (hb1.mono (by omega)); have q1 := H6.e.cells; have q2 := H6.e.free; have q3 : V2.heap.size < w1.heap.size := Nat.lt_of_lt_of_le hz5 hb1.size)
            have HB : bitsF s 6 (k + 1) = bitsF s 6 k ++ [u == 49] := by
              have e9 : decide (u = 49) = (u == 49) := by rw [Bool.eq_iff_iff]; simp
              rw [bits_step, HU.out, e9]
            have HBH := Lib.hid HB
            clear HB
            go_roundw
            case rel =>
              refine ⟨k + 1, A9, c9, by omega, by go_num, H6.putE 4 _, by rw [HBH.out]; exact ho1.setCell (p := ⟨W.heap.size + 1, 4, none⟩) (by show W.heap.size + 1 < V2.heap.size + 1; omega) _, by simpa using q3, fun j hj => ?_, fun j hj => ?_⟩
              · rw [World.cell?_setCell_other _ _ _ _ (by first | (simp; done) | (simp; omega))]
                exact (hb1.cell (p := ⟨V2.heap.size, j, none⟩) (by show V2.heap.size < V2.heap.size + 1; omega)).trans (HC.out j hj)
              · by_cases e : j = k
                · subst e; have := HU.out; omega
                · exact HL.out j (by omega)
            case measure => simp [intOf]; omega
          · have h49' : (49 : Int) < u := by omega
            have hn : o = none := by
              rw [HOO.out, if_neg]
              intro hh
              have := hh.2 (6 + k) (by omega) (by omega)
              have := HU.out
              omega
            have HN := Lib.hid hn
            clear hn
            go_wp2
            refine ret_ev Tryz.results28 (H5.put5 3 0 ⟨#[]⟩ 0 (.slice A k cp)).r rfl rfl rfl rfl ?_
            exact ⟨_, _, _, _, _, _, _, bitsF s 6 k, _, rfl, (fun h => by cases h), (fun _ => HN.out), bits_len s 6 k, ((ho.more (by omega)).put5 (by omega) _ _ _ _ _), (H5.put5 3 0 ⟨#[]⟩ 0 (.slice A k cp)).K⟩
        · obtain rfl : k = q.size := by omega
          have hn : o = crashR s (6 + q.size) (bitsF s 6 q.size) := by
            rw [HOO.out, if_pos]
            refine ⟨by omega, fun j hj h6 => ?_⟩
            have := HL.out (j - 6) (by omega)
            rw [show 6 + (j - 6) = j by omega] at this
            exact this
          have hn' := Lib.hid hn
          clear hn
          go_wp2
          go_meet
          have hn := hn'.out
          have hm : MidC W b s o wr := ⟨6 + q.size, A, cp, bitsF s 6 q.size, by omega, hn, by rw [bits_len]; exact H5, by rw [bits_len]; exact ho.more (by omega)⟩
          exact hm
  case rest =>
    obtain ⟨a, A, c, l, ha, ho, H, hw⟩ := hcut
    have HOO := Lib.hid ho
    clear ho HO
    go_wp2_with fail
    refine (end_any H.c ha h2).mono ?_
    rintro e V1 ⟨rfl, hC, hK⟩
    have H1 := H.call hC hK
    have hw1 := hw.kp hK (by have := H.lt; intro k hk e; omega)
    clear H hC hK hw
    by_cases hz : a = s.size
    · have hn : o = some ⟨3, 0, ⟨#[]⟩, 0, l⟩ := by rw [HOO.out]; unfold crashR; rw [if_pos hz]
      have HN := Lib.hid hn
      have HZ := Lib.hid hz
      have t1 : decide (a = s.size) = true := decide_eq_true hz
      have c1 := H1.e.cells
      have f1 := H1.e.free
      have c2 := H1.r.cells
      have f2 := H1.r.free
      clear hn hz
      go_wp2
      refine ret_ev Tryz.results28 (H1.put5 3 0 ⟨#[]⟩ 0 (.slice A l.length c)).r rfl rfl rfl rfl ?_
      exact ⟨_, _, _, _, _, _, _, l, _, rfl, (fun _ => HN.out), (fun h => by cases h), rfl, hw1.put5 (by omega) _ _ _ _ _, (H1.put5 3 0 ⟨#[]⟩ 0 (.slice A l.length c)).K⟩
    · have t1 : decide (a = s.size) = false := decide_eq_false hz
      have hw0 := word_byte ha 32
      have HW := Lib.hid (fun (V : World) (hC : Cu V b s a) => word_any (p := ⟨#[32]⟩) hC ha h2)
      generalize hbq : begB (tailB s a) (⟨#[32]⟩ : ByteArray).data.toList = bq at HW
      have hq1 : bq = decide (a < s.size ∧ bat s a = 32) := hbq.symm.trans hw0
      have HQ := Lib.hid hq1
      have HZ := Lib.hid hz
      clear hw0 hbq hq1 hz
      go_wp2_with fail
      refine (HW.out _ H1.c).mono ?_
      rintro e V2 ⟨rfl, hC, hK⟩
      clear HW
      have H2 := H1.call hC hK
      have hw2 := hw1.kp hK (by have := H1.lt; intro k hk e; omega)
      clear hC hK H1 hw1
      rcases bq with _ | _
      · have hn : o = none := by
          rw [HOO.out]; unfold crashR; rw [if_neg HZ.out, if_neg]
          intro h32
          have := HQ.out
          rw [eq_comm, decide_eq_false_iff_not] at this
          exact this ⟨by have := HZ.out; omega, h32⟩
        have HN := Lib.hid hn
        clear hn
        have H3 : CF W b s a (evC 0 0 ⟨#[]⟩ 0 (.slice none 0 0)) (evC 3 0 ⟨#[]⟩ 0 (.slice A l.length c)) V2 := H2
        clear H2
        go_wp2_with fail
        refine (number_any 999999999 H3.c ha h2 (by omega) (by omega)).mono ?_
        rintro e V3 ⟨rfl, hC, hK⟩
        have H4 := H3.call hC hK
        have hw3 := hw2.kp hK (by have := H3.lt; intro k hk e; omega)
        clear hC hK H3 hw2
        generalize numF s a 999999999 = F at H4
        obtain ⟨n, p, is⟩ := F
        have c1 := H4.e.cells
        have f1 := H4.e.free
        go_wp2
        have H5 := H4.putE 3 (.int .i64 n)
        have hw4 := hw3.setCell (p := ⟨W.heap.size + 1, 3, none⟩) (by show W.heap.size + 1 < W.heap.size + 2; omega) (.int .i64 n)
        have d1 := H5.e.cells
        have d2 := H5.r.cells
        have f2 := H5.r.free
        clear c1 f1
        go_region
        all_goals
          clear d1 d2 f2
          go_wp2
          refine ret_ev Tryz.results28 (H5.put5 3 0 ⟨#[]⟩ n (.slice A l.length c)).drew.r rfl rfl rfl rfl ?_
          exact ⟨_, _, _, _, _, _, _, l, _, rfl, (fun h => by cases h), (fun _ => HN.out), rfl, (hw4.put5 (by omega) _ _ _ _ _).drew, (H5.put5 3 0 ⟨#[]⟩ n (.slice A l.length c)).drew.K⟩
      · have h32 : a < s.size ∧ bat s a = 32 := by have := HQ.out; rw [eq_comm, decide_eq_true_eq] at this; exact this
        have ha1 : a + 1 ≤ s.size := by omega
        have H3 : CF W b s (a + 1 : Nat) (evC 0 0 ⟨#[]⟩ 0 (.slice none 0 0)) (evC 3 0 ⟨#[]⟩ 0 (.slice A l.length c)) V2 := H2
        have ho : o = match wholeF s (a + 1) with
            | some n => if 0 < n then some ⟨3, 0, ⟨#[]⟩, n, l⟩ else none
            | none => none := by rw [HOO.out]; unfold crashR; rw [if_neg HZ.out, if_pos h32.2]
        have hb9 := fun h => numF_bd (s := s) (a := a + 1) (most := 999999999) h
        have hp9 : (numF s (a + 1) 999999999).2.1 ≤ s.size := by
          have := runTo_bd ha1
          unfold numF
          split <;> dsimp only <;> omega
        have HO3 := Lib.hid ho
        clear ho HOO H2 h32 HQ
        go_wp2_with fail
        refine (number_any 999999999 H3.c ha1 h2 (by omega) (by omega)).mono ?_
        rintro e V3 ⟨rfl, hC, hK⟩
        have H4 := H3.call hC hK
        have hw3 := hw2.kp hK (by have := H3.lt; intro k hk e; omega)
        clear hC hK H3 hw2
        unfold wholeF at HO3
        generalize numF s (a + 1) 999999999 = F at H4 HO3 hb9 hp9
        obtain ⟨n, p, is⟩ := F
        dsimp only at HO3 hb9 hp9
        have HB9 := Lib.hid hb9
        clear hb9
        have c1 := H4.e.cells
        have f1 := H4.e.free
        go_wp2
        have H5 := H4.putE 3 (.int .i64 n)
        have hw4 := hw3.setCell (p := ⟨W.heap.size + 1, 3, none⟩) (by show W.heap.size + 1 < W.heap.size + 2; omega) (.int .i64 n)
        have d1 := H5.e.cells
        have d2 := H5.r.cells
        have f2 := H5.r.free
        clear c1 f1 H4 hw3
        rcases is with _ | _
        · have HN : Hid (o = none) := by show _ = _; rw [HO3.out]; rfl
          go_region
          all_goals
            clear d1 d2 f2
            go_wp2
            refine ret_ev Tryz.results28 (H5.put5 3 0 ⟨#[]⟩ n (.slice A l.length c)).drew.r rfl rfl rfl rfl ?_
            exact ⟨_, _, _, _, _, _, _, l, _, rfl, (fun h => by cases h), (fun _ => HN.out), rfl, (hw4.put5 (by omega) _ _ _ _ _).drew, (H5.put5 3 0 ⟨#[]⟩ n (.slice A l.length c)).drew.K⟩
        by_cases hn0 : 0 < n
        rotate_left
        · have HN : Hid (o = none) := by
            show _ = _
            rw [HO3.out]
            by_cases hps : p = s.size
            · simp [hps, hn0]
            · simp [hps]
          have t0 : decide (0 < n) = false := decide_eq_false hn0
          go_region
          all_goals
            clear d1 d2 f2
            go_wp2
            refine ret_ev Tryz.results28 (H5.put5 3 0 ⟨#[]⟩ n (.slice A l.length c)).drew.r rfl rfl rfl rfl ?_
            exact ⟨_, _, _, _, _, _, _, l, _, rfl, (fun h => by cases h), (fun _ => HN.out), rfl, (hw4.put5 (by omega) _ _ _ _ _).drew, (H5.put5 3 0 ⟨#[]⟩ n (.slice A l.length c)).drew.K⟩
        have t0 : decide (0 < n) = true := decide_eq_true hn0
        have HE := Lib.hid (fun (V : World) (hC : Cu V b s p) => end_any hC hp9 h2)
        have HW9 : ∀ q : Bool, True := fun _ => trivial
        refine wp_world (fun V => CF W b s p (evC 0 0 ⟨#[]⟩ 0 (.slice none 0 0)) (evC 3 0 ⟨#[]⟩ n (.slice A l.length c)) V ∧ Own V (W.heap.size + 2) 4 tBool (.slice A l.length c) l) ⟨H5, hw4⟩ ?_
        clear d1 d2 f2 H5 hw4 HW9
        have HFIN := Lib.hid (fun (V : World) (hO : Own V (W.heap.size + 2) 4 tBool (.slice A l.length c) l) (hK : Kp (fun k => k = b) W V) => show RetCr W b o (.returned (.tuple #[.agg (evC 3 0 ⟨#[]⟩ n (.slice A l.length c)), .bool (decide (p = s.size))])) V from
          ⟨_, _, _, _, _, _, _, l, _, rfl, (fun h => by rw [HO3.out]; rw [decide_eq_true_eq] at h; simp [h, hn0]), (fun h => by rw [HO3.out]; rw [decide_eq_false_iff_not] at h; simp [h]), rfl, hO, hK⟩)
        rintro V9 ⟨H9, hw9⟩
        have H_0 := H9.drew
        have O_0 := hw9.drew
        clear H9 hw9
        refine wp_region_held_drew (S := fun w => Bx w (W.heap.size + 1) (evC 3 0 ⟨#[]⟩ n (.slice A l.length c)) 24) (by kernel_rfl) H_0.e (fun hS => ?_)
        refine tk (i := 0) (oi := { dst := some 50, op := .load 24 (.tmp 4), type := 24, pos := "script.go:37", after := #[], guard := none }) (v := ?_) ?_ hS ?_
        rotate_left
        · intro w9 hS9; have q1 := hS9.cells; go_simp; try with_reducible rfl
        try simp only [Act.put]
        try simp only [List.setIfInBounds_toArray]
        try simp only [List.set_cons_zero]
        try simp only [List.set_cons_succ]
        try simp only [List.set_cons_zero]
        refine tk (i := 1) (oi := { dst := some 51, op := .move (.tmp 8), type := 4, pos := "script.go:37", after := #[], guard := none }) (v := ?_) ?_ hS ?_
        rotate_left
        · intro w9 hS9; have q1 := hS9.cells; go_simp; try with_reducible rfl
        try simp only [Act.put]
        try simp only [List.setIfInBounds_toArray]
        try simp only [List.set_cons_zero]
        try simp only [List.set_cons_succ]
        try simp only [List.set_cons_zero]
        refine tk (i := 2) (oi := { dst := some 52, op := .move (.tmp 51), type := 4, pos := "script.go:37", after := #[⟨1, .data⟩], guard := none }) (v := ?_) ?_ hS ?_
        rotate_left
        · intro w9 hS9; have q1 := hS9.cells; go_simp; try with_reducible rfl
        try simp only [Act.put]
        try simp only [List.setIfInBounds_toArray]
        try simp only [List.set_cons_zero]
        try simp only [List.set_cons_succ]
        try simp only [List.set_cons_zero]
        refine tk (i := 3) (oi := { dst := some 53, op := .move (.tmp 10), type := 4, pos := "script.go:37", after := #[⟨2, .guard⟩], guard := some (2, true) }) (v := ?_) ?_ hS ?_
        rotate_left
        · intro w9 hS9; have q1 := hS9.cells; go_simp; try with_reducible rfl
        try simp only [Act.put]
        try simp only [List.setIfInBounds_toArray]
        try simp only [List.set_cons_zero]
        try simp only [List.set_cons_succ]
        try simp only [List.set_cons_zero]
        refine tk (i := 4) (oi := { dst := some 54, op := .pick (.tmp 52) (.tmp 53) (.const (.bool false)), type := 4, pos := "script.go:37", after := #[⟨2, .data⟩, ⟨3, .data⟩], guard := none }) (v := ?_) ?_ hS ?_
        rotate_left
        · intro w9 hS9; have q1 := hS9.cells; go_simp; try with_reducible rfl
        try simp only [Act.put]
        try simp only [List.setIfInBounds_toArray]
        try simp only [List.set_cons_zero]
        try simp only [List.set_cons_succ]
        try simp only [List.set_cons_zero]
        refine tk (i := 5) (oi := { dst := some 55, op := .move (.tmp 54), type := 4, pos := "script.go:37", after := #[⟨4, .data⟩, ⟨2, .chain⟩], guard := none }) (v := ?_) ?_ hS ?_
        rotate_left
        · intro w9 hS9; have q1 := hS9.cells; go_simp; try with_reducible rfl
        try simp only [Act.put]
        try simp only [List.setIfInBounds_toArray]
        try simp only [List.set_cons_zero]
        try simp only [List.set_cons_succ]
        try simp only [List.set_cons_zero]
        refine tk (i := 6) (oi := { dst := some 56, op := .move (.tmp 9), type := 3, pos := "script.go:37", after := #[⟨5, .guard⟩], guard := some (5, true) }) (v := ?_) ?_ hS ?_
        rotate_left
        · intro w9 hS9; have q1 := hS9.cells; go_simp; try with_reducible rfl
        try simp only [Act.put]
        try simp only [List.setIfInBounds_toArray]
        try simp only [List.set_cons_zero]
        try simp only [List.set_cons_succ]
        try simp only [List.set_cons_zero]
        refine tk (i := 7) (oi := { dst := some 57, op := .binOp .gtr 3 (.tmp 56) (.const (.int .i64 0)) 3, type := 4, pos := "script.go:37", after := #[⟨6, .data⟩, ⟨5, .guard⟩], guard := some (5, true) }) (v := ?_) ?_ hS ?_
        rotate_left
        · intro w9 hS9; have q1 := hS9.cells; go_simp; try with_reducible rfl
        try simp only [Act.put]
        try simp only [List.setIfInBounds_toArray]
        try simp only [List.set_cons_zero]
        try simp only [List.set_cons_succ]
        try simp only [List.set_cons_zero]
        refine tk (i := 8) (oi := { dst := some 58, op := .pick (.tmp 55) (.tmp 57) (.const (.bool false)), type := 4, pos := "script.go:37", after := #[⟨5, .data⟩, ⟨7, .data⟩], guard := none }) (v := ?_) ?_ hS ?_
        rotate_left
        · intro w9 hS9; have q1 := hS9.cells; go_simp; try with_reducible rfl
        try simp only [Act.put]
        try simp only [List.setIfInBounds_toArray]
        try simp only [List.set_cons_zero]
        try simp only [List.set_cons_succ]
        try simp only [List.set_cons_zero]
        refine tk (i := 9) (oi := { dst := some 59, op := .move (.tmp 58), type := 4, pos := "script.go:37", after := #[⟨8, .data⟩, ⟨5, .chain⟩], guard := none }) (v := ?_) ?_ hS ?_
        rotate_left
        · intro w9 hS9; have q1 := hS9.cells; go_simp; try with_reducible rfl
        try simp only [Act.put]
        try simp only [List.setIfInBounds_toArray]
        try simp only [List.set_cons_zero]
        try simp only [List.set_cons_succ]
        try simp only [List.set_cons_zero]
        refine tk (i := 10) (oi := { dst := some 60, op := .move (.tmp 0), type := 70, pos := "script.go:37", after := #[⟨9, .guard⟩], guard := some (9, true) }) (v := ?_) ?_ hS ?_
        rotate_left
        · intro w9 hS9; have q1 := hS9.cells; go_simp; try with_reducible rfl
        try simp only [Act.put]
        try simp only [List.setIfInBounds_toArray]
        try simp only [List.set_cons_zero]
        try simp only [List.set_cons_succ]
        try simp only [List.set_cons_zero]
        refine wpAnyH_ready (rs := [11]) (by kernel_rfl) (by simp) ?_
        refine AllReadyH.cons (o := { dst := some 61, op := .call { callee := .value (.func 27), args := #[.tmp 60], argTypes := #[70] }, type := 4, pos := "script.go:37", after := #[⟨10, .data⟩, ⟨9, .chain⟩, ⟨9, .guard⟩], guard := some (9, true) }) rfl (fun K9 hK9 => ?_) AllReadyH.nil
        go_simp
        refine (HE.out _ H_0.c).mono ?_
        rintro e V_1 ⟨rfl, hC_1, hK_1⟩
        have H_1 := H_0.call hC_1 hK_1
        have O_1 := O_0.kp hK_1 (by have := H_1.lt; intro k hk e; omega)
        refine hK9.out _ _ H_1.e (fun hS => ?_)
        clear hK9 K9
        try simp only [Act.put]
        try simp only [List.setIfInBounds_toArray]
        try simp only [List.set_cons_zero]
        try simp only [List.set_cons_succ]
        try simp only [List.set_cons_zero]
        refine tk (i := 12) (oi := { dst := some 62, op := .pick (.tmp 59) (.tmp 61) (.const (.bool false)), type := 4, pos := "script.go:37", after := #[⟨9, .data⟩, ⟨11, .data⟩, ⟨13, .gcOnly .lateStores⟩], guard := none }) (v := ?_) ?_ hS ?_
        rotate_left
        · intro w9 hS9; have q1 := hS9.cells; go_simp; try with_reducible rfl
        try simp only [Act.put]
        try simp only [List.setIfInBounds_toArray]
        try simp only [List.set_cons_zero]
        try simp only [List.set_cons_succ]
        try simp only [List.set_cons_zero]
        refine wpAnyH_ready (rs := [13]) (by kernel_rfl) (by simp) ?_
        refine AllReadyH.cons (o := { dst := none, op := .store 24 (.tmp 2) (.tmp 50), type := 0, pos := "script.go:37", after := #[⟨0, .data⟩, ⟨11, .chain⟩, ⟨0, .phase⟩, ⟨1, .textOnly .lateStores⟩, ⟨2, .textOnly .lateStores⟩, ⟨3, .textOnly .lateStores⟩, ⟨4, .textOnly .lateStores⟩, ⟨5, .textOnly .lateStores⟩, ⟨6, .textOnly .lateStores⟩, ⟨7, .textOnly .lateStores⟩, ⟨8, .textOnly .lateStores⟩, ⟨9, .textOnly .lateStores⟩, ⟨10, .textOnly .lateStores⟩, ⟨11, .textOnly .lateStoresUnsure⟩, ⟨12, .textOnly .lateStores⟩], guard := none }) rfl (fun K9 hK9 => ?_) AllReadyH.nil
        have H_2 := H_1.rowR (evC 3 0 ⟨#[]⟩ n (.slice A l.length c))
        have O_2 := O_1.setRow (g := W.heap.size) (by omega) (evC 3 0 ⟨#[]⟩ n (.slice A l.length c))
        refine step_store_any 24 rfl (.tmp 2) (.tmp 50) (by rfl) (evC 3 0 ⟨#[]⟩ n (.slice A l.length c)) (by rfl) (by rfl) H_1.r info_ev rfl (by simp [Value.oneCell']) ?_
        refine hK9.out _ _ H_2.e (fun hS => ?_)
        clear hK9 K9
        try simp only [Act.put]
        try simp only [List.setIfInBounds_toArray]
        try simp only [List.set_cons_zero]
        try simp only [List.set_cons_succ]
        try simp only [List.set_cons_zero]
        refine tk (i := 14) (oi := { dst := some 3, op := .assign (.tmp 62), type := 4, pos := "script.go:37", after := #[⟨12, .data⟩, ⟨13, .chain⟩, ⟨0, .phase⟩, ⟨1, .phase⟩, ⟨2, .phase⟩, ⟨3, .phase⟩, ⟨4, .phase⟩, ⟨5, .phase⟩, ⟨6, .phase⟩, ⟨7, .phase⟩, ⟨8, .phase⟩, ⟨9, .phase⟩, ⟨10, .phase⟩, ⟨11, .phase⟩, ⟨12, .phase⟩, ⟨13, .phase⟩], guard := none }) (v := ?_) ?_ hS ?_
        rotate_left
        · intro w9 hS9; have q1 := hS9.cells; go_simp; try with_reducible rfl
        try simp only [Act.put]
        try simp only [List.setIfInBounds_toArray]
        try simp only [List.set_cons_zero]
        try simp only [List.set_cons_succ]
        try simp only [List.set_cons_zero]
        refine wpAnyH_done (by kernel_rfl) ?_ _
        go_wp2
        refine ret_ev Tryz.results28 H_2.r rfl rfl rfl rfl ?_
        exact HFIN.out _ O_2 H_2.K
end Go.Proofs.YtggomjfllbljeaaGreatDoor
