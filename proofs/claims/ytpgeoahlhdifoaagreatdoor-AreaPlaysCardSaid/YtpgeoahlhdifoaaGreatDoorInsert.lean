/- slices.Insert at places: one place laid into a row of one's own. -/
import Derived.Test.YtpgeoahlhdifoaaGreatDoorFuncs
import Derived.Laws.Externs
import Derived.Deep.RegionLaw
namespace Go.Proofs.YtpgeoahlhdifoaaGreatDoor
set_option linter.unusedVariables false
open Go Go.RowKit
theorem wp_run_copy {P : Program} (w : World) {o : Oper} {a : Act} {K : Act → World → Prop} {Q : Exit → Act → World → Prop} (d s : Operand) (t t' : TypeId)
    (ho : o.op = .call { callee := .builtin .copy, args := #[d, s], argTypes := #[t, t'] }) (v u : Value) (hd : a.eval d = v) (hs : a.eval s = u) {v' : Value} {w' : World}
    (hr : (Builtin.copy_ #[t, t'] o.type #[v, u]).run P w = .ok v' w') (h : K (a.put o.dst v') w') : o.wp P a w K Q := by
  unfold Oper.wp execOp
  simp only [ho, resolve, invoke, builtin, Sem.run_bind, Sem.run_pure, Result.andThen_ok, List.map_toArray, List.map_cons, List.map_nil, hd, hs, hr]
  exact h
theorem wpList_run_copy {P : Program} (w : World) {ops : Array Oper} {rest : List Oper} {o : Oper} {a : Act} {Q : Exit → Act → World → Prop} (hgd : o.guard = none) (d s : Operand) (t t' : TypeId)
    (ho : o.op = .call { callee := .builtin .copy, args := #[d, s], argTypes := #[t, t'] }) (v u : Value) (hd : a.eval d = v) (hs : a.eval s = u) {v' : Value} {w' : World}
    (hr : (Builtin.copy_ #[t, t'] o.type #[v, u]).run P w = .ok v' w') (h : wpList P ops Q rest (a.put o.dst v') w') : wpList P ops Q (o :: rest) a w :=
  wpList_plain hgd fun _ hK => wp_run_copy w d s t t' ho v u hd hs hr (hK _ _ h)
theorem step_run_copy {P : Program} {ops : Array Oper} {o : Oper} {a : Act} {w : World} {K : Act → World → Prop} {Q : Exit → Act → World → Prop} {E : Prop}
    (hg : o.guard = none) (d x : Operand) (dT sT : TypeId) (hop : o.op = Op.call { callee := Callee.builtin Builtin.copy, args := #[d, x], argTypes := #[dT, sT] })
    (v u : Value) (hd : a.eval d = v) (hx : a.eval x = u) {v' : Value} {w' : World} (hr : (Builtin.copy_ #[dT, sT] o.type #[v, u]).run P w = .ok v' w') (hK : K (a.put o.dst v') w') :
    if Region.wanted o (yielded ops a.tmps) = true then Oper.wp P o a w K Q else E := by
  have hw : Region.wanted o (yielded ops a.tmps) = true := by simp [Region.wanted, hg]
  rw [if_pos hw]
  exact wp_run_copy w d x dT sT hop v u hd hx hr hK
def insL (l : List Plc) (i : Nat) (x : Plc) : List Plc := l.take i ++ x :: l.drop i
theorem insL_len {l : List Plc} {i : Nat} {x : Plc} (h : i ≤ l.length) : (insL l i x).length = l.length + 1 := by
  unfold insL; simp; omega
/-- What an insertion leaves. -/
def InsQ (w : World) (B : Nat) (A : Option Addr) (l : List Plc) (i : Nat) (x : Plc) (e : Ending) (w' : World) : Prop :=
  ∃ A' c', e = .returned (.slice A' (l.length + 1) c') ∧ Own w' B 87 tPlc (.slice A' (l.length + 1) c') (insL l i x) ∧ w.grownBy w' (bk A) ∧ (bk A' = bk A ∨ ∀ k, bk A' = some k → w.heap.size ≤ k)
theorem InsQ.end_ {w w' : World} {B : Nat} {A : Option Addr} {n c : Nat} {l : List Plc} {x : Plc} {v' : Value} {u : Value} (hu : u = v') (hlen : l.length = n) (h1 : Own w' B 87 tPlc v' (l ++ [x])) (h2 : w.grownBy w' (Value.slice A n c).ownBlock)
    (h3 : v'.ownBlock = (Value.slice A n c).ownBlock ∨ v'.ownBlock = some w.heap.size) : InsQ w B A l n x (.returned u) w' := by
  subst hu hlen
  obtain ⟨A', c', rfl⟩ := h1.form
  rw [List.length_append, List.length_singleton] at h1 h3 ⊢
  have e : insL l l.length x = l ++ [x] := by simp [insL]
  rw [ownBlock_bk] at h2
  rw [ownBlock_bk, ownBlock_bk] at h3
  refine ⟨A', c', rfl, by rw [e]; exact h1, h2, ?_⟩
  rcases h3 with h3 | h3
  · exact .inl h3
  · refine .inr fun k hk => ?_
    rw [h3] at hk
    injection hk with hk
    omega
set_option maxRecDepth 100000 in
set_option maxHeartbeats 4000000 in
/-- At the end. -/
theorem insert_end (l : List Plc) (A : Option Addr) (n c : Nat) (x : Plc) (xb : Nat) (w : World) (B : Nat) (hown : Own w B 87 tPlc (.slice A n c) l) (hn : n ≤ 100000) (hB : B ≤ w.heap.size) (hx : x.ok)
    (hxb : Bx w xb #[.int .i64 x.seg, .int .i64 x.pax, .int .i64 x.row, .int .u8 x.let_] 87) :
    Calls Tryz.prog 90 #[.slice A n c, .int .i64 n, .slice (some ⟨xb, 0, none⟩) 1 1] w (InsQ w B A l n x) := by
  have hlen := Lib.hid (show l.length = n from hown.sl.len)
  have hnc : n ≤ c := by
    rcases hown.row.2 with ⟨_, h2⟩ | ⟨_, _, _, h1, _, _, h3, _⟩
    · have := hlen.out; omega
    · injection h1 with _ _ h1
      have := hlen.out
      omega
  have hform := Lib.hid hown
  have hnn : ¬ ((c : Int) < n) := by omega
  have hnn2 : (n : Int) ≤ c := by omega
  go_enter Tryz.func90, Tryz.ntmps90
  go_wp2_with (at_builtin; refine append_law (ys := [x]) rfl (.tmp 23) (.tmp 24) rfl sl_plc rfl hown rfl (Sl.row hxb x hx rfl) (fun h => by cases h) hB (by rw [hlen.out]; omega) ?_; intro v' w' hown' hgr hb')
  all_goals go_ret
  all_goals exact InsQ.end_ rfl hlen.out hown' hgr hb'

set_option maxRecDepth 100000 in
set_option maxHeartbeats 4000000 in
/-- Ahead of an element, in place. -/
theorem insert_shift (l : List Plc) (g n c i : Nat) (x : Plc) (xb : Nat) (w : World) (B : Nat) (hown : Own w B 87 tPlc (.slice (some ⟨g, 0, none⟩) n c) l) (hi : i < n) (hroom : n + 1 ≤ c) (hn : n ≤ 100000) (hB : B ≤ w.heap.size) (hx : x.ok)
    (hxb : Bx w xb #[.int .i64 x.seg, .int .i64 x.pax, .int .i64 x.row, .int .u8 x.let_] 87) (hne : xb ≠ g) :
    Calls Tryz.prog 90 #[.slice (some ⟨g, 0, none⟩) n c, .int .i64 i, .slice (some ⟨xb, 0, none⟩) 1 1] w (InsQ w B (some ⟨g, 0, none⟩) l i x) := by
  obtain ⟨g', cur, hgg, hlen, hBg, hnc, hcm, hg, hcs, htake⟩ := hown.open_
  injection hgg with hgg _ _
  subst hgg
  have hcs4 : cur.size = c * 4 := hcs
  have htk : cur.toList.take (n * 4) = l.flatMap tPlc.enc := htake
  have hOW := Lib.hid hown
  have hc63 : c ≤ 9223372036854775807 := by unfold maxLen at hcm; omega
  have hsz : (Tryz.prog.info? 87).map (·.size) = some 4 := by kernel_rfl
  have hov : ∀ lb cb, (callFunc 103 #[.slice (some ⟨xb, 0, none⟩) 1 1, .slice (some ⟨g, (i + 1) * 4, none⟩) lb cb]).run Tryz.prog w = .ok (.value (.bool false)) w := fun lb cb => by
    rw [run_callFunc_extern Tryz.func103 (by kernel_rfl) (by kernel_rfl) (by kernel_rfl) (e := Extern.SlicesOverlaps.overlaps #[27, 27] #[4]) (by kernel_rfl),
      Lib.run_overlaps_apart w 27 4 87 Tryz.underlying27 4 Tryz.sizeOf87 ⟨xb, 0, none⟩ ⟨g, (i + 1) * 4, none⟩ 1 1 lb cb hne 87 87 4 (c * 4)
        (by have h := hxb; unfold Bx at h; simp [World.shape?, h]) (by simp [World.shape?, hg, hcs4]) (by omega) (hxb.free 0) (hxb.free 4)]
    rfl
  have hdl : ((l.drop i).flatMap tPlc.enc).length = (n - i) * 4 := by rw [flatMap_len, List.length_drop, hlen]; rfl
  obtain ⟨C, hC⟩ : ∃ C, C = (l.drop i).flatMap tPlc.enc := ⟨_, rfl⟩
  have hC2 : C = (cur.toList.take (n * 4)).drop (i * 4) := by rw [hC, flat_drop, htk]; rfl
  rw [← hC] at hdl
  have hsrc1 : ∀ j v, C[j]? = some v → w.cell? ((⟨g, i * 4, none⟩ : Addr).add j) = some v := fun j v hj => by
    have hadd : (⟨g, i * 4, none⟩ : Addr).add j = ⟨g, i * 4 + j, none⟩ := by unfold Addr.add; split <;> simp_all
    rw [hadd, cell_of_row w g _ cur _ (0, 0) hg]
    rw [hC2, List.getElem?_drop, List.getElem?_take] at hj
    split at hj
    · simpa using hj
    · cases hj
  have hC1 : ∀ v ∈ C, v.oneCell' = true := fun v hv => by
    rw [hC] at hv
    obtain ⟨y, _, hy⟩ := List.mem_flatMap.1 hv
    exact tPlc.one y v hy
  obtain ⟨R1, hR1⟩ : ∃ R1, R1 = (cur.toList.take ((i + 1) * 4) ++ C ++ cur.toList.drop ((i + 1) * 4 + C.length)).toArray := ⟨_, rfl⟩
  have hcp1 : ∀ ty dc sc, (Builtin.copy_ #[27, 27] ty #[.slice (some ⟨g, (i + 1) * 4, none⟩) (n - i) dc, .slice (some ⟨g, i * 4, none⟩) (n + 1 - i) sc]).run Tryz.prog w.drew = .ok (goInt ((n - i : Nat) : Int)) (w.drew.setRow g R1) := fun ty dc sc => by
    rw [hR1]
    exact run_copy_sz w.drew _ _ ty 87 4 g ((i + 1) * 4) (n - i) dc ⟨g, i * 4, none⟩ (n + 1 - i) sc cur 87 C (n - i) Tryz.underlying27 hsz hg (by simp only [Nat.min_def]; split <;> omega) hdl hsrc1 (by rw [hdl]; omega) hC1
  obtain ⟨X, hX⟩ : ∃ X : List Value, X = [.int .i64 x.seg, .int .i64 x.pax, .int .i64 x.row, .int .u8 x.let_] := ⟨_, rfl⟩
  have hXl : X.length = 4 := by rw [hX]; rfl
  have hR1s : R1.size = cur.size := by rw [hR1]; simp; omega
  obtain ⟨R2, hR2⟩ : ∃ R2, R2 = (R1.toList.take (i * 4) ++ X ++ R1.toList.drop (i * 4 + X.length)).toArray := ⟨_, rfl⟩
  have hcp2 : ∀ ty dc, (Builtin.copy_ #[27, 27] ty #[.slice (some ⟨g, i * 4, none⟩) (n + 1 - i) dc, .slice (some ⟨xb, 0, none⟩) 1 1]).run Tryz.prog (w.drew.setRow g R1) = .ok (goInt 1) ((w.drew.setRow g R1).setRow g R2) := fun ty dc => by
    rw [hR2]
    refine run_copy_sz (w.drew.setRow g R1) _ _ ty 87 4 g (i * 4) (n + 1 - i) dc ⟨xb, 0, none⟩ 1 1 R1 87 X 1 Tryz.underlying27 hsz (setRow_heap w.drew g cur R1 _ (0, 0) hg) (by simp only [Nat.min_def]; split <;> omega) (by rw [hXl]) ?_ (by rw [hXl]; omega) ?_
    · intro j v hj
      have hadd : (⟨xb, 0, none⟩ : Addr).add j = ⟨xb, 0 + j, none⟩ := by unfold Addr.add; split <;> simp_all
      rw [hadd, (show ∀ i, (w.drew.setRow g R1).cell? ⟨xb, i, none⟩ = _ from (Bx.rowOther (hxb.drewN 1) hne R1).cells) (0 + j)]
      rw [← hj, hX]
      simp
    · intro v hv
      rw [hX] at hv
      simp at hv
      rcases hv with h | h | h | h <;> subst h <;> rfl
  have hfin : R2.toList.take ((n + 1) * 4) = (insL l i x).flatMap tPlc.enc := by
    have h := ins_row cur.toList X C (i * 4) 4 (n * 4) hXl hC2 (by omega) (by simp; omega)
    have e1 : (i + 1) * 4 = i * 4 + 4 := by omega
    have e2 : (n + 1) * 4 = n * 4 + 4 := by omega
    rw [hR2, hR1, e1, e2]
    simp only
    rw [h, htk, insL, List.flatMap_append, List.flatMap_cons, flat_take, hC, hX]
    rfl
  have hR2s : R2.size = c * 4 := by rw [hR2]; simp; omega
  have hOwn2 : Own ((w.drew.setRow g R1).setRow g R2) B 87 tPlc (.slice (some ⟨g, 0, none⟩) (n + 1) c) (insL l i x) := by
    refine Own.ofRow (setRow_heap _ g R1 R2 _ (0, 0) (setRow_heap w.drew g cur R1 _ (0, 0) hg)) hBg (by rw [insL_len (by omega), hlen]) hroom hcm hR2s ?_ hfin
    intro y hy
    unfold insL at hy
    rcases List.mem_append.1 hy with h | h
    · exact hown.wf y (List.mem_of_mem_take h)
    · rcases List.mem_cons.1 h with h | h
      · rw [h]; exact hx
      · exact hown.wf y (List.mem_of_mem_drop h)
  have hgr : w.grownBy ((w.drew.setRow g R1).setRow g R2) (some g) := grown_row (grown_row (grown_trans (World.grownBy.refl w (some g)) (show w.grownBy w.drew (some g) from ⟨rfl, rfl, rfl, Nat.le_refl _, fun _ _ _ => rfl⟩)) R1) R2
  have HO2 := Lib.hid hOwn2
  have HG2 := Lib.hid hgr
  have HLen := Lib.hid hlen
  have hi2 : ¬ ((i : Int) = (n : Int)) := by omega
  have hi3 : ¬ ((c : Int) < (n : Int) + 1) := by omega
  have hi4 : (n : Int) + 1 ≤ (c : Int) := by omega
  have hi5 : (i : Int) + 1 ≤ (n : Int) + 1 := by omega
  have hi6 : (i : Int) ≤ (n : Int) := by omega
  have hi7 : (i : Int) ≤ (n : Int) + 1 := by omega
  have hi8 : ¬ (c = i) := by omega
  have hi9 : ¬ (c = i + 1) := by omega
  have hi10 : ((i : Int) + 1).toNat = i + 1 := by omega
  have hi11 : ((n : Int) + 1).toNat = n + 1 := by omega
  have hi12 : (0 : Int) ≤ (i : Int) + 1 := by omega
  have hi13 : (0 : Int) ≤ (n : Int) + 1 := by omega
  have hw1 : IntKind.i64.wrap ((i : Int) + 1) = (i : Int) + 1 := by rw [IntKind.wrap_i64]; omega
  clear hOwn2 hgr hown hlen hC hC2 hsrc1 hC1 hR1 hX hR2 hfin hR2s hR1s hXl hdl htake htk hcs hcs4 hg hxb hne
  go_enter Tryz.func90, Tryz.ntmps90
  go_wp2_with (simp only [hov])
  go_region
  go_wp2
  go_ret
  exact ⟨some ⟨g, 0, none⟩, c, by rw [HLen.out]; rfl, by rw [HLen.out]; exact HO2.out, HG2.out, .inl rfl⟩
set_option maxRecDepth 100000 in
set_option maxHeartbeats 4000000 in
/-- Ahead of an element, in a new row. -/
theorem insert_grow (l : List Plc) (g n c i : Nat) (x : Plc) (xb : Nat) (w : World) (B : Nat) (hown : Own w B 87 tPlc (.slice (some ⟨g, 0, none⟩) n c) l) (hi : i < n) (hroom : c < n + 1) (hn : n ≤ 100000) (hB : B ≤ w.heap.size) (hx : x.ok)
    (hxb : Bx w xb #[.int .i64 x.seg, .int .i64 x.pax, .int .i64 x.row, .int .u8 x.let_] 87) (hne : xb ≠ g) :
    Calls Tryz.prog 90 #[.slice (some ⟨g, 0, none⟩) n c, .int .i64 i, .slice (some ⟨xb, 0, none⟩) 1 1] w (InsQ w B (some ⟨g, 0, none⟩) l i x) := by
  obtain ⟨g', cur, hgg, hlen, hBg, hnc, hcm, hg, hcs, htake⟩ := hown.open_
  injection hgg with hgg _ _
  subst hgg
  obtain rfl : c = n := by omega
  have hcs4 : cur.size = c * 4 := hcs
  have htk : cur.toList.take (c * 4) = l.flatMap tPlc.enc := htake
  have hgl := (Array.getElem?_eq_some_iff.1 hg).1
  have hsz : (Tryz.prog.info? 87).map (·.size) = some 4 := by kernel_rfl
  obtain ⟨i0, z0, b0, hi0, h0, h1, h2, hb0, hz0⟩ := sl_plc.hi
  have hz1 : z0 = Value.agg #[.int .i64 0, .int .i64 0, .int .i64 0, .int .u8 0] := by
    have h3 : (Tryz.prog.info? 87).map (fun i => i.zero) = some (some (Value.agg #[.int .i64 0, .int .i64 0, .int .i64 0, .int .u8 0])) := by kernel_rfl
    rw [hi0] at h3
    simp only [Option.map_some, h0, Option.some.injEq] at h3
    exact h3
  have hdl : ((l.drop i).flatMap tPlc.enc).length = (c - i) * 4 := by rw [flatMap_len, List.length_drop, hlen]; rfl
  have hhl : ((l.take i).flatMap tPlc.enc).length = i * 4 := by rw [flatMap_len, List.length_take, hlen, Nat.min_eq_left (by omega)]; rfl
  have hhc : (l.take i).flatMap tPlc.enc = cur.toList.take (i * 4) := by
    rw [flat_take, ← htk, List.take_take]
    show List.take (min (i * 4) (c * 4)) _ = _
    rw [Nat.min_eq_left (by omega)]
  have hold : (Builtin.firstCells i0.size i (.slice (some ⟨g, 0, none⟩) i c)).run Tryz.prog w.drew = .ok ((l.take i).flatMap tPlc.enc).toArray w.drew := by
    rw [h1]
    refine run_firstCells_some w.drew 4 i ⟨g, 0, none⟩ i c _ (by rw [hhl]) (fun j v hj => ?_)
    have hadd : (⟨g, 0, none⟩ : Addr).add j = ⟨g, 0 + j, none⟩ := by unfold Addr.add; split <;> simp_all
    rw [hadd, show w.drew.cell? ⟨g, 0 + j, none⟩ = w.cell? ⟨g, 0 + j, none⟩ from rfl, cell_of_row w g _ cur _ (0, 0) hg]
    rw [hhc, List.getElem?_take] at hj
    split at hj
    · simpa using hj
    · cases hj
  obtain ⟨G, hG⟩ : ∃ G, G = grownCap w (c + 1) c 87 := ⟨_, rfl⟩
  have hGn : c + 1 ≤ G := by rw [hG]; exact grownCap_ge w _ _ _
  have hGm : G ≤ maxLen := by rw [hG]; exact grownCap_le_maxLen w (c + 1) c 87 (by unfold maxLen; omega)
  obtain ⟨Z, hZ⟩ : ∃ Z : Array Value, Z = ((l.take i).flatMap tPlc.enc).toArray ++ Builtin.zeroCells z0.cells (c + 1 - i) ++ Builtin.zeroCells z0.cells (G - (c + 1)) := ⟨_, rfl⟩
  have hZs : Z.size = G * 4 := by
    rw [hZ, hz1]
    simp [Builtin.zeroCells, Value.cells, hhl]
    omega
  have hZt : Z.toList.take (i * 4) = (l.take i).flatMap tPlc.enc := by
    rw [hZ]
    simp only [Array.toList_append, List.append_assoc]
    exact List.take_left' hhl
  have hkk : (c : Int) + 1 - (i : Int) = ((c + 1 - i : Nat) : Int) := by omega
  have hrz : ∀ ty, (Builtin.append_ #[27, 3] ty #[.slice (some ⟨g, 0, none⟩) i c, .int .i64 ((c + 1 - i : Nat) : Int)]).run Tryz.prog w =
      .ok (.slice (some ⟨w.heap.size, 0, none⟩) (c + 1) G) (w.drew.alloc (.cells Z 87)) := fun ty => by
    have h := Lib.run_append_grow_zeros w 27 3 ty 87 i0 z0 .i64 .i64 Tryz.underlying27 Tryz.underlying3 hi0 h0 (some ⟨g, 0, none⟩) i c ((l.take i).flatMap tPlc.enc) hold (c + 1 - i) (by omega) (by rw [h1]; show 0 < 4; omega) (by omega) (by omega) (by rw [h2]; exact Nat.le_trans (Nat.mul_le_mul (show c + 1 - i ≤ 100001 by omega) hb0) (by omega)) (by
      rw [h2, show i + (c + 1 - i) = c + 1 by omega]
      exact growslice_fits (by omega) (Nat.le_trans (Nat.mul_le_mul (show c + 1 ≤ 100001 by omega) hb0) (by omega)))
    rw [show i + (c + 1 - i) = c + 1 by omega, ← hG, ← hZ] at h
    exact h
  have hi2 : ¬ ((i : Int) = (c : Int)) := by omega
  have hi3 : (c : Int) < (c : Int) + 1 := by omega
  have hi6 : (i : Int) ≤ (c : Int) := by omega
  have hi7 : (i : Int) ≤ (c : Int) + 1 := by omega
  have hi8 : ¬ (G = i) := by omega
  have hi9 : ¬ (G = i + 1) := by omega
  have hi10 : ((i : Int) + 1).toNat = i + 1 := by omega
  have hi12 : (0 : Int) ≤ (i : Int) + 1 := by omega
  have hi14 : ¬ (c = i) := by omega
  have hw1 : IntKind.i64.wrap ((i : Int) + 1) = (i : Int) + 1 := by rw [IntKind.wrap_i64]; omega
  go_enter Tryz.func90, Tryz.ntmps90
  have HHc := Lib.hid hhc
  have HZ := Lib.hid hZ
  have HG := Lib.hid hG
  have HTk := Lib.hid htk
  clear hi0 h0 h1 h2 hz0 hz1 hhc hZ hG htk
  go_upto_region 10 with (at_builtin; refine Lib.wpList_append_run _ rfl (.tmp 34) (.tmp 39) _ _ rfl _ _ rfl rfl _ _ (hrz _) ?_)
  refine wp_world (fun W => W = w.drew.alloc (.cells Z 87)) rfl ?_
  intro W1 hW1
  have HW1 := Lib.hid hW1
  have hz0 : W1.heap[w.heap.size]? = some (.cells Z 87 (0, 0)) := by rw [hW1]; exact heap_alloc_new w.drew _
  have hxb1 : Bx W1 xb #[.int .i64 x.seg, .int .i64 x.pax, .int .i64 x.row, .int .u8 x.let_] 87 := by rw [hW1]; exact (hxb.drewN 1).alloc _
  have hg1 : W1.heap[g]? = some (.cells cur 87 (0, 0)) := by rw [hW1]; exact (heap_alloc_old w.drew _ hgl).trans hg
  have hxne : xb ≠ w.heap.size := by have := hxb.lt; omega
  have hgne : g ≠ w.heap.size := by omega
  clear hW1
  obtain ⟨X, hX⟩ : ∃ X : List Value, X = [.int .i64 x.seg, .int .i64 x.pax, .int .i64 x.row, .int .u8 x.let_] := ⟨_, rfl⟩
  have hXl : X.length = 4 := by rw [hX]; rfl
  obtain ⟨R1, hR1⟩ : ∃ R1, R1 = (Z.toList.take (i * 4) ++ X ++ Z.toList.drop (i * 4 + X.length)).toArray := ⟨_, rfl⟩
  have hR1s : R1.size = Z.size := by rw [hR1]; simp; omega
  have hcp1 : ∀ ty dc, (Builtin.copy_ #[27, 27] ty #[.slice (some ⟨w.heap.size, i * 4, none⟩) (c + 1 - i) dc, .slice (some ⟨xb, 0, none⟩) 1 1]).run Tryz.prog W1 = .ok (goInt 1) (W1.setRow w.heap.size R1) := fun ty dc => by
    rw [hR1]
    refine run_copy_sz W1 _ _ ty 87 4 w.heap.size (i * 4) (c + 1 - i) dc ⟨xb, 0, none⟩ 1 1 Z 87 X 1 Tryz.underlying27 hsz hz0 (by simp only [Nat.min_def]; split <;> omega) (by rw [hXl]) ?_ (by rw [hXl]; omega) ?_
    · intro j v hj
      have hadd : (⟨xb, 0, none⟩ : Addr).add j = ⟨xb, 0 + j, none⟩ := by unfold Addr.add; split <;> simp_all
      rw [hadd, hxb1.cells (0 + j), ← hj, hX]
      simp
    · intro v hv
      rw [hX] at hv
      simp at hv
      rcases hv with h | h | h | h <;> subst h <;> rfl
  obtain ⟨C, hC⟩ : ∃ C, C = (l.drop i).flatMap tPlc.enc := ⟨_, rfl⟩
  have hC2 : C = cur.toList.drop (i * 4) := by
    rw [hC, flat_drop, ← HTk.out, List.take_of_length_le (by simp; omega)]; rfl
  rw [← hC] at hdl
  have hC1 : ∀ v ∈ C, v.oneCell' = true := fun v hv => by
    rw [hC] at hv
    obtain ⟨y, _, hy⟩ := List.mem_flatMap.1 hv
    exact tPlc.one y v hy
  obtain ⟨R2, hR2⟩ : ∃ R2, R2 = (R1.toList.take ((i + 1) * 4) ++ C ++ R1.toList.drop ((i + 1) * 4 + C.length)).toArray := ⟨_, rfl⟩
  have hcp2 : ∀ ty dc sc, (Builtin.copy_ #[27, 27] ty #[.slice (some ⟨w.heap.size, (i + 1) * 4, none⟩) (c - i) dc, .slice (some ⟨g, i * 4, none⟩) (c - i) sc]).run Tryz.prog (W1.setRow w.heap.size R1).drew = .ok (goInt ((c - i : Nat) : Int)) ((W1.setRow w.heap.size R1).drew.setRow w.heap.size R2) := fun ty dc sc => by
    rw [hR2]
    refine run_copy_sz (W1.setRow w.heap.size R1).drew _ _ ty 87 4 w.heap.size ((i + 1) * 4) (c - i) dc ⟨g, i * 4, none⟩ (c - i) sc R1 87 C (c - i) Tryz.underlying27 hsz (setRow_heap W1 w.heap.size Z R1 _ (0, 0) hz0) (by simp only [Nat.min_def]; split <;> omega) hdl ?_ (by rw [hdl]; omega) hC1
    intro j v hj
    have hadd : (⟨g, i * 4, none⟩ : Addr).add j = ⟨g, i * 4 + j, none⟩ := by unfold Addr.add; split <;> simp_all
    rw [hadd, show (W1.setRow w.heap.size R1).drew.cell? ⟨g, i * 4 + j, none⟩ = (W1.setRow w.heap.size R1).cell? ⟨g, i * 4 + j, none⟩ from rfl, cell_of_row (W1.setRow w.heap.size R1) g _ cur _ (0, 0) ((setRow_other W1 w.heap.size g R1 hgne).trans hg1)]
    rw [hC2, List.getElem?_drop] at hj
    simpa using hj
  have hfin : R2.toList.take ((c + 1) * 4) = (insL l i x).flatMap tPlc.enc := by
    have h := ins_new Z.toList ((l.take i).flatMap tPlc.enc) X C (i * 4) 4 (c * 4) hXl hZt hhl (by rw [hdl]; omega) (by omega) (by simp; omega)
    have e1 : (i + 1) * 4 = i * 4 + 4 := by omega
    have e2 : (c + 1) * 4 = c * 4 + 4 := by omega
    rw [hR2, hR1, e1, e2]
    simp only
    rw [h, insL, List.flatMap_append, List.flatMap_cons, hC, hX]
    rfl
  have hR2s : R2.size = G * 4 := by rw [hR2]; simp; omega
  have hOwn2 : Own ((W1.setRow w.heap.size R1).drew.setRow w.heap.size R2) B 87 tPlc (.slice (some ⟨w.heap.size, 0, none⟩) (c + 1) G) (insL l i x) := by
    refine Own.ofRow (setRow_heap _ w.heap.size R1 R2 _ (0, 0) (setRow_heap W1 w.heap.size Z R1 _ (0, 0) hz0)) hB (by rw [insL_len (by omega), hlen]) hGn hGm hR2s ?_ hfin
    intro y hy
    unfold insL at hy
    rcases List.mem_append.1 hy with h | h
    · exact hown.wf y (List.mem_of_mem_take h)
    · rcases List.mem_cons.1 h with h | h
      · rw [h]; exact hx
      · exact hown.wf y (List.mem_of_mem_drop h)
  have hgr : Below w.heap.size w ((W1.setRow w.heap.size R1).drew.setRow w.heap.size R2) := by
    refine below_setRow ?_ (Nat.le_refl _) _
    refine Below.drew ?_
    refine below_setRow ?_ (Nat.le_refl _) _
    rw [HW1.out]
    exact ((Below.refl _ w).drew).alloc (Nat.le_refl _) _
  have HO2 := Lib.hid hOwn2
  have HG2 := Lib.hid hgr
  have HLen := Lib.hid hlen
  clear hOwn2 hgr hown hlen hC hC2 hC1 hR1 hX hR2 hfin hR2s hR1s hXl hdl htake hcs hcs4 hg hxb hne hz0 hxb1 hg1 hold hrz hZs hZt hhl
  go_wp2
  go_region
  go_wp2
  go_ret
  refine ⟨some ⟨w.heap.size, 0, none⟩, G, by rw [HLen.out]; rfl, by rw [HLen.out]; exact HO2.out, below_grown HG2.out _, .inr fun k hk => ?_⟩
  have e : w.heap.size = k := by simpa [bk] using hk
  omega
theorem insert_any (l : List Plc) (A : Option Addr) (n c i : Nat) (x : Plc) (xb : Nat) (w : World) (B : Nat) (hown : Own w B 87 tPlc (.slice A n c) l) (hi : i ≤ n) (hn : n ≤ 100000) (hB : B ≤ w.heap.size) (hx : x.ok)
    (hxb : Bx w xb #[.int .i64 x.seg, .int .i64 x.pax, .int .i64 x.row, .int .u8 x.let_] 87) (hne : bk A ≠ some xb) :
    Calls Tryz.prog 90 #[.slice A n c, .int .i64 i, .slice (some ⟨xb, 0, none⟩) 1 1] w (InsQ w B A l i x) := by
  by_cases h : i = n
  · subst h
    exact insert_end l A i c x xb w B hown hn hB hx hxb
  · cases A with
    | none =>
      rcases hown.row.2 with ⟨_, h2⟩ | ⟨_, _, _, h1, _⟩
      · have := hown.sl.len; omega
      · cases h1
    | some a =>
      obtain ⟨g, cur, rfl, _, _, hnc, _, _, _, _⟩ := hown.open_
      have hne' : xb ≠ g := fun e => hne (by rw [e]; rfl)
      by_cases hr : n + 1 ≤ c
      · exact insert_shift l g n c i x xb w B hown (by omega) hr hn hB hx hxb hne'
      · exact insert_grow l g n c i x xb w B hown (by omega) (by omega) hn hB hx hxb hne'
end Go.Proofs.YtpgeoahlhdifoaaGreatDoor
