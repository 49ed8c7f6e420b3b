/- Put together by program of: RAgent, ArD1, Rfold, ArD2, ArD3, ArD4, ArD5. -/
import Derived.Test.YtpgeoahlhdifoaaGreatDoorAgent
import Derived.Test.YtpgeoahlhdifoaaGreatDoorArea3
import Derived.Test.YtpgeoahlhdifoaaGreatDoorMPnr10
import Derived.Deep.RegionHeld3
import Derived.Test.YtpgeoahlhdifoaaGreatDoorArea5
namespace Go.Proofs.YtpgeoahlhdifoaaGreatDoor
set_option linter.unusedVariables false
open Go Go.RowKit
attribute [local go_sem] bat_get
theorem bat_rest1 (s : ByteArray) (i : Nat) (h : i + 1 < s.size) : bat (rest1 s) i = bat s (i + 1) := by
  unfold bat rest1
  have h' : i + 1 < s.data.size := h
  have e : (s.extract 1 s.size).data.toList[i]? = s.data.toList[i + 1]? := by
    rw [ByteArray.data_extract, Array.getElem?_toList, Array.getElem?_toList, Array.getElem?_extract]
    rw [if_pos (by rw [show s.size = s.data.size from rfl]; omega), Nat.add_comm]
  rw [e]
theorem rest1_size (s : ByteArray) : (rest1 s).size = s.size - 1 := by simp [rest1]
theorem allP_shift (P : Nat → Bool) : ∀ n, allP P (n + 1) = (P 0 && allP (fun i => P (i + 1)) n)
  | 0 => by simp [allP]
  | n + 1 => by
    have := allP_shift P n
    simp only [allP] at this ⊢
    rw [this, Bool.and_assoc]
theorem agent_eq (s : ByteArray) : agentB s = (mixedB s 2 6 && isL (bat s 0)) := by
  unfold agentB mixedB
  by_cases h1 : 2 ≤ s.size
  case neg => simp [h1]; intro h; omega
  by_cases h2 : s.size ≤ 6
  case neg => simp [h2]; intro h; omega
  have h3 : (2 : Int) ≤ s.size := by omega
  have h4 : (s.size : Int) ≤ 6 := by omega
  have e : allP (AD (rest1 s)) (rest1 s).size = allP (fun i => LDB s (i + 1)) (s.size - 1) := by
    rw [rest1_size]
    refine allP_congr _ fun i hi => ?_
    unfold AD LDB
    rw [bat_rest1 s i (by omega)]
  have e2 : allP (LDB s) s.size = (LDB s 0 && allP (fun i => LDB s (i + 1)) (s.size - 1)) := by
    have := allP_shift (LDB s) (s.size - 1)
    rw [show s.size - 1 + 1 = s.size by omega] at this
    exact this
  rw [e, e2]
  have e3 : LDB s 0 = (isL (bat s 0) || isD (bat s 0)) := rfl
  rw [e3]
  simp only [h1, h2, h3, h4, decide_true, Bool.true_and]
  cases isL (bat s 0) <;> simp
set_option maxRecDepth 100000 in
set_option maxHeartbeats 1000000 in
theorem ragent_any (s : ByteArray) (w : World) (hs : s.size ≤ 9223372036854775807) :
    Calls Tryz.prog 45 #[.string s] w fun e w' => e = .returned (.bool (agentB s)) ∧ w = w' := by
  rw [agent_eq]
  rcases Bool.eq_false_or_eq_true (mixedB s 2 6) with hm | hm
  · have h0 : 0 < s.size := by
      simp [mixedB] at hm
      omega
    have hbd := bat_bd s 0
    rw [hm, Bool.true_and]
    go_enter Tryz.func45, Tryz.ntmps45
    go_wp2_with (first | (go_at_call 55; refine (rmixed_any _ _ _ _ hs).mono ?_; rintro e w1 ⟨rfl, rfl⟩) | (go_at_call 56; refine (rletter_any _ _).mono ?_; rintro e w1 ⟨rfl, rfl⟩))
    go_ret
    exact ⟨rfl, rfl⟩
  · rw [hm, Bool.false_and]
    go_enter Tryz.func45, Tryz.ntmps45
    go_wp2_with (go_at_call 55; refine (rmixed_any _ _ _ _ hs).mono ?_; rintro e w1 ⟨rfl, rfl⟩)
    go_ret
    exact ⟨rfl, rfl⟩
theorem ragent_b (s : ByteArray) (w : World) (hs : s.size ≤ 9223372036854775807) :
    Calls Tryz.prog 45 #[.string s] w (RetB w (agentB s)) :=
  (ragent_any s w hs).mono fun _ _ h => by obtain ⟨rfl, rfl⟩ := h; exact ⟨rfl, Below.refl _ _⟩
theorem rcity_b (s : ByteArray) (w : World) (hs : s.size ≤ 9223372036854775807) :
    Calls Tryz.prog 46 #[.string s] w (RetB w (wordB s 3 3)) :=
  (rcity_any s w hs).mono fun _ _ h => by obtain ⟨rfl, rfl⟩ := h; exact ⟨rfl, Below.refl _ _⟩
end Go.Proofs.YtpgeoahlhdifoaaGreatDoor
namespace Go.Proofs.YtpgeoahlhdifoaaGreatDoor
set_option linter.unusedVariables false
open Go Go.RowKit
theorem info_areaD : (Tryz.prog.info? 34).map (·.size) = some 20 := by kernel_rfl
/-- A whole area is stored. -/
theorem store_raD {ops : Array Oper} {rest : List Oper} {o : Oper} {a : Act} {W : World} {Q : Exit → Act → World → Prop} (hgd : o.guard = none) (x y : Operand) (ho : o.op = .store 34 x y) {g : Nat} (cells : Array Value) {old : Array Value}
    (hx : a.eval x = .pointer (some ⟨g, 0, none⟩)) (hy : a.eval y = .agg cells) (hr : Bx W g old 34) (h12 : cells.size = 20) (ho12 : old.size = 20) (h1 : (cells.all fun v => v.oneCell') = true)
    (h : wpList Tryz.prog ops Q rest (a.put o.dst undef) (W.setRow g cells)) : wpList Tryz.prog ops Q (o :: rest) a W :=
  wpList_store_row hgd _ x y ho g cells hx hy _ old hr (by rw [h12]; exact info_areaD) (by rw [ho12, h12]) h1 h
/-- A whole area is loaded (cell by cell the kernel's work doubles with each cell). -/
theorem load_raD {ops : Array Oper} {rest : List Oper} {o : Oper} {a : Act} {W : World} {Q : Exit → Act → World → Prop} (hgd : o.guard = none) (x : Operand) (ho : o.op = .load 34 x) {g : Nat} {cs : Array Value}
    (hx : a.eval x = .pointer (some ⟨g, 0, none⟩)) (hr : Bx W g cs 34) (h20 : cs.size = 20)
    (h : wpList Tryz.prog ops Q rest (a.put o.dst (.agg cs)) W) : wpList Tryz.prog ops Q (o :: rest) a W :=
  wpList_load_row hgd _ x ho g hx _ cs _ _ hr Tryz.underlying34 rfl (by rw [h20]; exact info_areaD) h
theorem ret_a1D {fn : Func} {p : Tmp} (h : fn.results = #[.cell p 34]) {R : Ending → World → Prop} {a : Act} {w : World} {g : Nat} {cs : Array Value}
    (hr : Bx w g cs 34) (hs : cs.size = 20) (hp : a.tmps.getD p undef = .pointer (some ⟨g, 0, none⟩)) (hd : a.defers = []) (hR : R (.returned (.agg cs)) w) : bodyPost Tryz.prog fn R .ret a w := by
  refine bodyPost_ret (v := .agg cs) ?_ hd hR
  rw [results_cell1 h, hp]
  have hl := run_loadVar_row (P := Tryz.prog) w g 34 34 cs (0, 0) _ hr Tryz.underlying34 rfl (by rw [hs]; exact info_areaD)
  simp [asAddr, hl, Result.andThen]
theorem ret_atD {fn : Func} {p u : Tmp} (h : fn.results = #[.cell p 34, .tmp u]) {R : Ending → World → Prop} {a : Act} {w : World} {g : Nat} {cs : Array Value} {v : Value}
    (hr : Bx w g cs 34) (hs : cs.size = 20) (hp : a.tmps.getD p undef = .pointer (some ⟨g, 0, none⟩)) (hv : a.tmps.getD u undef = v) (hd : a.defers = []) (hR : R (.returned (.tuple #[.agg cs, v])) w) : bodyPost Tryz.prog fn R .ret a w := by
  refine bodyPost_ret (v := .tuple #[.agg cs, v]) ?_ hd hR
  rw [results_cell_tmp h, hp]
  have hl := run_loadVar_row (P := Tryz.prog) w g 34 34 cs (0, 0) _ hr Tryz.underlying34 rfl (by rw [hs]; exact info_areaD)
  simp [asAddr, hl, hv, Result.andThen]
theorem ar0_as (w : World) (S : Nat → Prop) : AS w S ar0 ah0 :=
  ⟨by simp [okStr, ar0, ByteArray.size], by simp [okStr, ar0, ByteArray.size], by simp [okU64, ar0], by simp [okInt, ar0], (pnr0_op w w.heap.size).ps.mono (fun b hb => by omega), SlS.nil_ _ _ _, SlS.nil_ _ _ _⟩
/-- What a call of the document hands back: an area whose rows lie in S or are new, and an error. -/
def RetD (w : World) (S : Nat → Prop) (r : Ar × Int) (en : Ending) (w' : World) : Prop :=
  ∃ h', en = .returned (.tuple #[.agg #[.string r.1.agent, .string r.1.off, .bool r.1.open_, .string r.1.base.loc, .string r.1.base.off, .slice h'.b.an h'.b.nn h'.b.cn, .slice h'.b.ag h'.b.ng h'.b.cg, .slice h'.b.ap h'.b.np h'.b.cp, .int .i64 r.1.base.tik.kind, .int .i64 r.1.base.tik.day, .int .i64 r.1.base.tik.min, .string r.1.base.rc, .slice h'.b.ar h'.b.nr h'.b.cr, .slice h'.b.ae h'.b.ne h'.b.ce, .bool r.1.base.queued, .int .u64 r.1.ver, .slice h'.ad h'.nd h'.cd, .slice h'.al h'.nl h'.cl, .bool r.1.working, .int .i64 r.1.queue], .int .i64 r.2]) ∧ AS w' (fun b => S b ∨ (w.heap.size ≤ b ∧ b < w'.heap.size)) r.1 h' ∧ Below w.heap.size w w'
theorem RetD.mk' {w w' : World} {S : Nat → Prop} {r : Ar × Int} {a : Ar} {n : Int} {h' : AH} (e : r = (a, n)) (hp : AS w' (fun b => S b ∨ (w.heap.size ≤ b ∧ b < w'.heap.size)) a h') (hb : Below w.heap.size w w') : RetD w S r (.returned (.tuple #[.agg #[.string a.agent, .string a.off, .bool a.open_, .string a.base.loc, .string a.base.off, .slice h'.b.an h'.b.nn h'.b.cn, .slice h'.b.ag h'.b.ng h'.b.cg, .slice h'.b.ap h'.b.np h'.b.cp, .int .i64 a.base.tik.kind, .int .i64 a.base.tik.day, .int .i64 a.base.tik.min, .string a.base.rc, .slice h'.b.ar h'.b.nr h'.b.cr, .slice h'.b.ae h'.b.ne h'.b.ce, .bool a.base.queued, .int .u64 a.ver, .slice h'.ad h'.nd h'.cd, .slice h'.al h'.nl h'.cl, .bool a.working, .int .i64 a.queue], .int .i64 n])) w' := by
  subst e
  exact ⟨h', rfl, hp, hb⟩
theorem RetD.in {w w' : World} {S : Nat → Prop} {r : Ar × Int} {a : Ar} {n : Int} {h' : AH} (e : r = (a, n)) (hp : AS w' S a h') (hb : Below w.heap.size w w') : RetD w S r (.returned (.tuple #[.agg #[.string a.agent, .string a.off, .bool a.open_, .string a.base.loc, .string a.base.off, .slice h'.b.an h'.b.nn h'.b.cn, .slice h'.b.ag h'.b.ng h'.b.cg, .slice h'.b.ap h'.b.np h'.b.cp, .int .i64 a.base.tik.kind, .int .i64 a.base.tik.day, .int .i64 a.base.tik.min, .string a.base.rc, .slice h'.b.ar h'.b.nr h'.b.cr, .slice h'.b.ae h'.b.ne h'.b.ce, .bool a.base.queued, .int .u64 a.ver, .slice h'.ad h'.nd h'.cd, .slice h'.al h'.nl h'.cl, .bool a.working, .int .i64 a.queue], .int .i64 n])) w' := RetD.mk' e (hp.mono fun _ hb => Or.inl hb) hb
/-- What is wrong with an area. -/
def wrongA (a : Ar) (idle : Bool) : Int := if noOne a then 50 else if idle && decide (0 < a.edits.length) then 53 else 0
set_option maxRecDepth 100000 in
set_option maxHeartbeats 4000000 in
theorem rwrong19_any (a : Ar) (h : AH) (idle : Bool) (w : World) (hd : h.nd = a.edits.length) {q0 : Int} (hq0 : wrongA a idle = q0) :
    Calls Tryz.prog 43 #[.agg #[.string a.agent, .string a.off, .bool a.open_, .string a.base.loc, .string a.base.off, .slice h.b.an h.b.nn h.b.cn, .slice h.b.ag h.b.ng h.b.cg, .slice h.b.ap h.b.np h.b.cp, .int .i64 a.base.tik.kind, .int .i64 a.base.tik.day, .int .i64 a.base.tik.min, .string a.base.rc, .slice h.b.ar h.b.nr h.b.cr, .slice h.b.ae h.b.ne h.b.ce, .bool a.base.queued, .int .u64 a.ver, .slice h.ad h.nd h.cd, .slice h.al h.nl h.cl, .bool a.working, .int .i64 a.queue], .bool idle] w fun e w' => e = .returned (.int .i64 q0) ∧ Below w.heap.size w w' := by
  have hq : a.agent.toList.isEmpty = noOne a := rfl
  have HQ := Lib.hid (show (if noOne a then 50 else if idle && decide (0 < h.nd) then 53 else 0) = q0 by rw [hd]; exact hq0)
  have HB := And.intro (Bx.new w #[.string a.agent, .string a.off, .bool a.open_, .string a.base.loc, .string a.base.off, .slice h.b.an h.b.nn h.b.cn, .slice h.b.ag h.b.ng h.b.cg, .slice h.b.ap h.b.np h.b.cp, .int .i64 a.base.tik.kind, .int .i64 a.base.tik.day, .int .i64 a.base.tik.min, .string a.base.rc, .slice h.b.ar h.b.nr h.b.cr, .slice h.b.ae h.b.ne h.b.ce, .bool a.base.queued, .int .u64 a.ver, .slice h.ad h.nd h.cd, .slice h.al h.nl h.cl, .bool a.working, .int .i64 a.queue] 34) ((Below.refl w.heap.size w).alloc (Nat.le_refl _) (.cells #[.string a.agent, .string a.off, .bool a.open_, .string a.base.loc, .string a.base.off, .slice h.b.an h.b.nn h.b.cn, .slice h.b.ag h.b.ng h.b.cg, .slice h.b.ap h.b.np h.b.cp, .int .i64 a.base.tik.kind, .int .i64 a.base.tik.day, .int .i64 a.base.tik.min, .string a.base.rc, .slice h.b.ar h.b.nr h.b.cr, .slice h.b.ae h.b.ne h.b.ce, .bool a.base.queued, .int .u64 a.ver, .slice h.ad h.nd h.cd, .slice h.al h.nl h.cl, .bool a.working, .int .i64 a.queue] 34))
  clear hq0 hd
  go_enter Tryz.func43, Tryz.ntmps43
  go_upto_region 1 with fail
  refine wp_world (fun V => Bx V w.heap.size #[.string a.agent, .string a.off, .bool a.open_, .string a.base.loc, .string a.base.off, .slice h.b.an h.b.nn h.b.cn, .slice h.b.ag h.b.ng h.b.cg, .slice h.b.ap h.b.np h.b.cp, .int .i64 a.base.tik.kind, .int .i64 a.base.tik.day, .int .i64 a.base.tik.min, .string a.base.rc, .slice h.b.ar h.b.nr h.b.cr, .slice h.b.ae h.b.ne h.b.ce, .bool a.base.queued, .int .u64 a.ver, .slice h.ad h.nd h.cd, .slice h.al h.nl h.cl, .bool a.working, .int .i64 a.queue] 34 ∧ Below w.heap.size w V) HB ?_
  clear HB
  rintro V ⟨bA, hb⟩
  have cA := bA.cells
  generalize noOne a = b at hq HQ
  rcases b with _ | _
  · rcases idle with _ | _
    · go_wp2
      go_ret
      exact ⟨ret_int HQ.out, hb⟩
    · by_cases hn : 0 < h.nd
      · have hn' : (0 : Int) < h.nd := by omega
        have HN : Hid (53 = q0) := by show _ = _; rw [← HQ.out]; simp [hn]
        go_wp2
        go_ret
        exact ⟨ret_int HN.out, hb⟩
      · have hn' : (h.nd : Int) ≤ 0 := by omega
        have HN : Hid (0 = q0) := by show _ = _; rw [← HQ.out]; simp [hn]
        go_wp2
        go_ret
        exact ⟨ret_int HN.out, hb⟩
  · go_wp2
    go_ret
    exact ⟨ret_int HQ.out, hb⟩
end Go.Proofs.YtpgeoahlhdifoaaGreatDoor
namespace Go.Proofs.YtpgeoahlhdifoaaGreatDoor
set_option linter.unusedVariables false
open Go Go.RowKit
/-- An edit's cells. -/
def C16 (W : World) (b i : Nat) (x : Edit) : Prop := W.cell? ⟨b, i, none⟩ = some (.int .i64 x.kind) ∧ W.cell? ⟨b, i + 1, none⟩ = some (.string x.nam.last) ∧ W.cell? ⟨b, i + 2, none⟩ = some (.string x.nam.first) ∧ W.cell? ⟨b, i + 3, none⟩ = some (.string x.seg.car) ∧ W.cell? ⟨b, i + 4, none⟩ = some (.int .i64 x.seg.num) ∧ W.cell? ⟨b, i + 5, none⟩ = some (.int .i64 x.seg.day) ∧ W.cell? ⟨b, i + 6, none⟩ = some (.int .u8 x.seg.cls) ∧ W.cell? ⟨b, i + 7, none⟩ = some (.bool x.seg.live) ∧ W.cell? ⟨b, i + 8, none⟩ = some (.int .i64 x.tik.kind) ∧ W.cell? ⟨b, i + 9, none⟩ = some (.int .i64 x.tik.day) ∧ W.cell? ⟨b, i + 10, none⟩ = some (.int .i64 x.tik.min) ∧ W.cell? ⟨b, i + 11, none⟩ = some (.string x.text) ∧ W.cell? ⟨b, i + 12, none⟩ = some (.int .i64 x.n) ∧ W.cell? ⟨b, i + 13, none⟩ = some (.int .i64 x.pax) ∧ W.cell? ⟨b, i + 14, none⟩ = some (.int .i64 x.row) ∧ W.cell? ⟨b, i + 15, none⟩ = some (.int .u8 x.let_)
theorem C16.keep {W W' : World} {b i : Nat} {x : Edit} (h : C16 W b i x) (hk : ∀ j, W'.cell? ⟨b, j, none⟩ = W.cell? ⟨b, j, none⟩) : C16 W' b i x := by
  obtain ⟨c0, c1, c2, c3, c4, c5, c6, c7, c8, c9, c10, c11, c12, c13, c14, c15⟩ := h
  exact ⟨(hk _).trans c0, (hk _).trans c1, (hk _).trans c2, (hk _).trans c3, (hk _).trans c4, (hk _).trans c5, (hk _).trans c6, (hk _).trans c7, (hk _).trans c8, (hk _).trans c9, (hk _).trans c10, (hk _).trans c11, (hk _).trans c12, (hk _).trans c13, (hk _).trans c14, (hk _).trans c15⟩
theorem C16.set {W : World} {b i : Nat} {x : Edit} (h : C16 W b i x) {p : Addr} (hp : b ≠ p.block) (u : Value) : C16 (W.setCell p u) b i x :=
  h.keep fun j => World.cell?_setCell_other W p _ u (fun e => hp (by rw [e]))
theorem C16.below {W W' : World} {b i B : Nat} {x : Edit} (h : C16 W b i x) (hb : Below B W W') (hB : b < B) : C16 W' b i x := h.keep fun j => hb.cell hB
/-- What the document's fold of edits hands back. -/
def FoldR (w : World) (S : Nat → Prop) (r : Pnr × Nat × Int) (en : Ending) (w' : World) : Prop :=
  ∃ h', en = .returned (.tuple #[.agg #[.string r.1.loc, .string r.1.off, .slice h'.an h'.nn h'.cn, .slice h'.ag h'.ng h'.cg, .slice h'.ap h'.np h'.cp, .int .i64 r.1.tik.kind, .int .i64 r.1.tik.day, .int .i64 r.1.tik.min, .string r.1.rc, .slice h'.ar h'.nr h'.cr, .slice h'.ae h'.ne h'.ce, .bool r.1.queued], .int .i64 r.2.1, .int .i64 r.2.2]) ∧ PS w' (fun b => S b ∨ (w.heap.size ≤ b ∧ b < w'.heap.size)) r.1 h' ∧ Below w.heap.size w w'
theorem FoldR.mk' {w w' : World} {S : Nat → Prop} {r : Pnr × Nat × Int} {q : Pnr} {k : Nat} {n : Int} {h' : Hd} (e : r = (q, k, n)) (hp : PS w' (fun b => S b ∨ (w.heap.size ≤ b ∧ b < w'.heap.size)) q h') (hb : Below w.heap.size w w') : FoldR w S r (.returned (.tuple #[.agg #[.string q.loc, .string q.off, .slice h'.an h'.nn h'.cn, .slice h'.ag h'.ng h'.cg, .slice h'.ap h'.np h'.cp, .int .i64 q.tik.kind, .int .i64 q.tik.day, .int .i64 q.tik.min, .string q.rc, .slice h'.ar h'.nr h'.cr, .slice h'.ae h'.ne h'.ce, .bool q.queued], .int .i64 k, .int .i64 n])) w' := by
  subst e
  exact ⟨h', rfl, hp, hb⟩
/-- The local is written. -/
theorem local_ps {w W : World} {g : Nat} {S : Nat → Prop} {pc rc : Array Value} {q q2 : Pnr} {h h2 : Hd} (hF : FC w pc rc W) (hg : w.heap.size + 1 < g) (hP : PS W S q h) (hQ : PS W S q2 h2) (hS : ∀ b, S b → b ≠ g) (hbx : Bx W g #[.string ⟨#[]⟩, .string ⟨#[]⟩, .slice none 0 0, .slice none 0 0, .slice none 0 0, .int .i64 0, .int .i64 0, .int .i64 0, .string ⟨#[]⟩, .slice none 0 0, .slice none 0 0, .bool false] 29) :
    FC w pc rc (W.setRow g #[.string q2.loc, .string q2.off, .slice h2.an h2.nn h2.cn, .slice h2.ag h2.ng h2.cg, .slice h2.ap h2.np h2.cp, .int .i64 q2.tik.kind, .int .i64 q2.tik.day, .int .i64 q2.tik.min, .string q2.rc, .slice h2.ar h2.nr h2.cr, .slice h2.ae h2.ne h2.ce, .bool q2.queued]) ∧ PS (W.setRow g #[.string q2.loc, .string q2.off, .slice h2.an h2.nn h2.cn, .slice h2.ag h2.ng h2.cg, .slice h2.ap h2.np h2.cp, .int .i64 q2.tik.kind, .int .i64 q2.tik.day, .int .i64 q2.tik.min, .string q2.rc, .slice h2.ar h2.nr h2.cr, .slice h2.ae h2.ne h2.ce, .bool q2.queued]) S q h ∧ PS (W.setRow g #[.string q2.loc, .string q2.off, .slice h2.an h2.nn h2.cn, .slice h2.ag h2.ng h2.cg, .slice h2.ap h2.np h2.cp, .int .i64 q2.tik.kind, .int .i64 q2.tik.day, .int .i64 q2.tik.min, .string q2.rc, .slice h2.ar h2.nr h2.cr, .slice h2.ae h2.ne h2.ce, .bool q2.queued]) S q2 h2 ∧ (∀ i, (W.setRow g #[.string q2.loc, .string q2.off, .slice h2.an h2.nn h2.cn, .slice h2.ag h2.ng h2.cg, .slice h2.ap h2.np h2.cp, .int .i64 q2.tik.kind, .int .i64 q2.tik.day, .int .i64 q2.tik.min, .string q2.rc, .slice h2.ar h2.nr h2.cr, .slice h2.ae h2.ne h2.ce, .bool q2.queued]).cell? ⟨g, i, none⟩ = (#[.string q2.loc, .string q2.off, .slice h2.an h2.nn h2.cn, .slice h2.ag h2.ng h2.cg, .slice h2.ap h2.np h2.cp, .int .i64 q2.tik.kind, .int .i64 q2.tik.day, .int .i64 q2.tik.min, .string q2.rc, .slice h2.ar h2.nr h2.cr, .slice h2.ae h2.ne h2.ce, .bool q2.queued] : Array Value)[i]?) ∧ g < (W.setRow g #[.string q2.loc, .string q2.off, .slice h2.an h2.nn h2.cn, .slice h2.ag h2.ng h2.cg, .slice h2.ap h2.np h2.cp, .int .i64 q2.tik.kind, .int .i64 q2.tik.day, .int .i64 q2.tik.min, .string q2.rc, .slice h2.ar h2.nr h2.cr, .slice h2.ae h2.ne h2.ce, .bool q2.queued]).heap.size ∧ (W.setRow g #[.string q2.loc, .string q2.off, .slice h2.an h2.nn h2.cn, .slice h2.ag h2.ng h2.cg, .slice h2.ap h2.np h2.cp, .int .i64 q2.tik.kind, .int .i64 q2.tik.day, .int .i64 q2.tik.min, .string q2.rc, .slice h2.ar h2.nr h2.cr, .slice h2.ae h2.ne h2.ce, .bool q2.queued]).heap.size = W.heap.size :=
  ⟨⟨below_setRow hF.B (by omega) _, hF.r1.rowOther (by omega) _, hF.r2.rowOther (by omega) _⟩,
    hP.keep (fun a ha => cell_setRow_other _ _ _ _ (hS _ ha)), hQ.keep (fun a ha => cell_setRow_other _ _ _ _ (hS _ ha)), Bx.cells (hbx.row _), by have := hbx.lt; simp; omega, by simp⟩
set_option maxRecDepth 100000 in
set_option maxHeartbeats 8000000 in
theorem rfold_any (p : Pnr) (h : Hd) (es : List Edit) (A : Option Addr) (n c : Nat) (w : World) (S : Nat → Prop) (lo hi : Nat) (hp : PS w S p h) (hS : ∀ b, S b → b < w.heap.size) (hs : p.small 1000) (hes : Sl w lo hi tEdit A n es) (hn : n ≤ 1000) (hhi : hi ≤ w.heap.size) :
    Calls Tryz.prog 37 #[.agg #[.string p.loc, .string p.off, .slice h.an h.nn h.cn, .slice h.ag h.ng h.cg, .slice h.ap h.np h.cp, .int .i64 p.tik.kind, .int .i64 p.tik.day, .int .i64 p.tik.min, .string p.rc, .slice h.ar h.nr h.cr, .slice h.ae h.ne h.ce, .bool p.queued], .slice A n c] w (FoldR w S (foldF p es)) := by
  have HP := Lib.hid hp
  have HS0 := Lib.hid hs
  have HB := Lib.hid hS
  have HES := Lib.hid hes
  have HLE := Lib.hid hes.len
  clear hp hS hs hes
  have hF := FC.start w #[.string p.loc, .string p.off, .slice h.an h.nn h.cn, .slice h.ag h.ng h.cg, .slice h.ap h.np h.cp, .int .i64 p.tik.kind, .int .i64 p.tik.day, .int .i64 p.tik.min, .string p.rc, .slice h.ar h.nr h.cr, .slice h.ae h.ne h.ce, .bool p.queued] zc
  unfold zc at hF
  go_enter Tryz.func37, Tryz.ntmps37
  go_wp2
  go_loopw [7, 8, 9] (fun i _ _ wr => ∃ (k : Nat) (q : Pnr) (hq : Hd), k ≤ n ∧ i = .int .i64 k ∧ Hid (foldF p es = addF k (foldF q (es.drop k))) ∧ Hid (q.small (1000 + k)) ∧ FC w #[.string q.loc, .string q.off, .slice hq.an hq.nn hq.cn, .slice hq.ag hq.ng hq.cg, .slice hq.ap hq.np hq.cp, .int .i64 q.tik.kind, .int .i64 q.tik.day, .int .i64 q.tik.min, .string q.rc, .slice hq.ar hq.nr hq.cr, .slice hq.ae hq.ne hq.ce, .bool q.queued] #[.string ⟨#[]⟩, .string ⟨#[]⟩, .slice none 0 0, .slice none 0 0, .slice none 0 0, .int .i64 0, .int .i64 0, .int .i64 0, .string ⟨#[]⟩, .slice none 0 0, .slice none 0 0, .bool false] wr ∧ PS wr (fun b => S b ∨ (w.heap.size + 1 + 1 ≤ b ∧ b < wr.heap.size)) q hq) (fun i _ _ _ => n - (intOf i).toNat)
  case atStart => exact ⟨0, p, h, Nat.zero_le _, rfl, (by show foldF p es = addF 0 (foldF p es); simp [addF]), HS0, hF, (HP.out.below hF.B HB.out).mono fun b hb => .inl hb⟩
  case round =>
    clear hF
    obtain ⟨k, q, hq, hk, rfl, hfo, hsm, hF, hP⟩ := hrel
    have x1 := hF.c1
    have z1 := hF.z
    have z0 : w.heap.size < wr.heap.size := by omega
    by_cases hlt : k < n
    · obtain ⟨b, o, x, rfl, g1, g2, hx, hok, c0, c1, c2, c3, c4, c5, c6, c7, c8, c9, c10, c11, c12, c13, c14, c15⟩ := (HES.out.below hF.B hhi).edit_ hlt
      have hC : Hid (C16 wr b (o + k * 16) x) := ⟨c0, c1, c2, c3, c4, c5, c6, c7, c8, c9, c10, c11, c12, c13, c14, c15⟩
      have hk0 : (0 : Int) ≤ k := by omega
      have hkl : (k : Int) < n := by omega
      have hbw : b < w.heap.size := by omega
      have hbs : b < wr.heap.size := by omega
      have hnxt := applyF_small (e := x) hsm.out
      have HA := Lib.hid (fun (W : World) (S' : Nat → Prop) (h2 : PS W S' q hq) (h3 : ∀ b, S' b → b < W.heap.size) => rapply_any q hq x W S' h2 h3 (hsm.out.mono (by omega)) hok)
      have hst := fun (h0 : (applyF q x).2 = 0) => Lib.hid (hfo.out.trans (fold_step hx.out h0))
      have hsp := fun (h0 : (applyF q x).2 ≠ 0) => Lib.hid (hfo.out.trans (fold_stop hx.out h0))
      generalize hr : applyF q x = r at hnxt HA hst hsp
      have HR := Lib.hid hr
      clear hr
      obtain ⟨q2, f2⟩ := r
      dsimp only at hst hsp hnxt
      have HST := Lib.hid hst
      have HSP := Lib.hid hsp
      clear hst hsp
      have hSlt : ∀ b, (S b ∨ (w.heap.size + 1 + 1 ≤ b ∧ b < wr.heap.size)) → b < wr.heap.size := fun b hb => hb.elim (fun h => by have := HB.out b h; omega) (fun h => h.2)
      have HSL := Lib.hid hSlt
      clear hSlt
      go_wp2
      have hFd := hF.drew
      have hPd := hP.drewN 1
      have hCd : C16 wr.drew b (o + k * 16) x := C16.keep hC.out fun _ => rfl
      have kfd := hFd.c1
      have hFe := hFd.step ((Below.refl _ _).alloc (Nat.le_refl _) (.cells #[.string ⟨#[]⟩, .string ⟨#[]⟩, .slice none 0 0, .slice none 0 0, .slice none 0 0, .int .i64 0, .int .i64 0, .int .i64 0, .string ⟨#[]⟩, .slice none 0 0, .slice none 0 0, .bool false] 29))
      have hPe := PS.below (B := wr.drew.heap.size) hPd ((Below.refl _ _).alloc (Nat.le_refl _) (.cells #[.string ⟨#[]⟩, .string ⟨#[]⟩, .slice none 0 0, .slice none 0 0, .slice none 0 0, .int .i64 0, .int .i64 0, .int .i64 0, .string ⟨#[]⟩, .slice none 0 0, .slice none 0 0, .bool false] 29)) HSL.out
      have hCe : C16 (wr.drew.alloc (.cells #[.string ⟨#[]⟩, .string ⟨#[]⟩, .slice none 0 0, .slice none 0 0, .slice none 0 0, .int .i64 0, .int .i64 0, .int .i64 0, .string ⟨#[]⟩, .slice none 0 0, .slice none 0 0, .bool false] 29)) b (o + k * 16) x := C16.below (B := wr.drew.heap.size) hCd ((Below.refl _ _).alloc (Nat.le_refl _) _) hbs
      have kfe := hFe.c1
      have hbx0 : Bx (wr.drew.alloc (.cells #[.string ⟨#[]⟩, .string ⟨#[]⟩, .slice none 0 0, .slice none 0 0, .slice none 0 0, .int .i64 0, .int .i64 0, .int .i64 0, .string ⟨#[]⟩, .slice none 0 0, .slice none 0 0, .bool false] 29)) wr.heap.size #[.string ⟨#[]⟩, .string ⟨#[]⟩, .slice none 0 0, .slice none 0 0, .slice none 0 0, .int .i64 0, .int .i64 0, .int .i64 0, .string ⟨#[]⟩, .slice none 0 0, .slice none 0 0, .bool false] 29 := Bx.new wr.drew _ _
      go_cut [8, 9] (fun s8 s9 w' => ∃ g h2, s8 = .pointer (some ⟨g, 0, none⟩) ∧ s9 = .int .i64 f2 ∧ FC w #[.string q.loc, .string q.off, .slice hq.an hq.nn hq.cn, .slice hq.ag hq.ng hq.cg, .slice hq.ap hq.np hq.cp, .int .i64 q.tik.kind, .int .i64 q.tik.day, .int .i64 q.tik.min, .string q.rc, .slice hq.ar hq.nr hq.cr, .slice hq.ae hq.ne hq.ce, .bool q.queued] #[.string ⟨#[]⟩, .string ⟨#[]⟩, .slice none 0 0, .slice none 0 0, .slice none 0 0, .int .i64 0, .int .i64 0, .int .i64 0, .string ⟨#[]⟩, .slice none 0 0, .slice none 0 0, .bool false] w' ∧ PS w' (fun b => S b ∨ (w.heap.size + 1 + 1 ≤ b ∧ b < w'.heap.size)) q hq ∧ PS w' (fun b => S b ∨ (w.heap.size + 1 + 1 ≤ b ∧ b < w'.heap.size)) q2 h2 ∧ (∀ i, w'.cell? ⟨g, i, none⟩ = (#[.string q2.loc, .string q2.off, .slice h2.an h2.nn h2.cn, .slice h2.ag h2.ng h2.cg, .slice h2.ap h2.np h2.cp, .int .i64 q2.tik.kind, .int .i64 q2.tik.day, .int .i64 q2.tik.min, .string q2.rc, .slice h2.ar h2.nr h2.cr, .slice h2.ae h2.ne h2.ce, .bool q2.queued] : Array Value)[i]?) ∧ g < w'.heap.size ∧ w.heap.size + 1 < g)
      case first =>
        go_region_held3 (fun w' => (∀ i : Nat, w'.cell? ⟨w.heap.size, i, none⟩ = (#[.string q.loc, .string q.off, .slice hq.an hq.nn hq.cn, .slice hq.ag hq.ng hq.cg, .slice hq.ap hq.np hq.cp, .int .i64 q.tik.kind, .int .i64 q.tik.day, .int .i64 q.tik.min, .string q.rc, .slice hq.ar hq.nr hq.cr, .slice hq.ae hq.ne hq.ce, .bool q.queued] : Array Value)[i]?) ∧ (w'.cell? ⟨b, o + k * 16, none⟩ = some (.int .i64 x.kind) ∧ w'.cell? ⟨b, o + k * 16 + 1, none⟩ = some (.string x.nam.last) ∧ w'.cell? ⟨b, o + k * 16 + 2, none⟩ = some (.string x.nam.first) ∧ w'.cell? ⟨b, o + k * 16 + 3, none⟩ = some (.string x.seg.car) ∧ w'.cell? ⟨b, o + k * 16 + 4, none⟩ = some (.int .i64 x.seg.num) ∧ w'.cell? ⟨b, o + k * 16 + 5, none⟩ = some (.int .i64 x.seg.day) ∧ w'.cell? ⟨b, o + k * 16 + 6, none⟩ = some (.int .u8 x.seg.cls) ∧ w'.cell? ⟨b, o + k * 16 + 7, none⟩ = some (.bool x.seg.live) ∧ w'.cell? ⟨b, o + k * 16 + 8, none⟩ = some (.int .i64 x.tik.kind) ∧ w'.cell? ⟨b, o + k * 16 + 9, none⟩ = some (.int .i64 x.tik.day) ∧ w'.cell? ⟨b, o + k * 16 + 10, none⟩ = some (.int .i64 x.tik.min) ∧ w'.cell? ⟨b, o + k * 16 + 11, none⟩ = some (.string x.text) ∧ w'.cell? ⟨b, o + k * 16 + 12, none⟩ = some (.int .i64 x.n) ∧ w'.cell? ⟨b, o + k * 16 + 13, none⟩ = some (.int .i64 x.pax) ∧ w'.cell? ⟨b, o + k * 16 + 14, none⟩ = some (.int .i64 x.row) ∧ w'.cell? ⟨b, o + k * 16 + 15, none⟩ = some (.int .u8 x.let_))) (refine ⟨?_, ?_⟩ <;> first | ((repeat (with_reducible refine boxed_set ?_ _ (by first | omega | (simp; omega)) _)); first | with_reducible exact kf2 | with_reducible exact kf2a _ | with_reducible exact kfd | with_reducible exact kfe | exact kfe | exact kf2a _) | (show C16 _ b (o + k * 16) x; (repeat (with_reducible refine C16.set ?_ (by first | omega | (simp; omega)) _)); first | with_reducible exact hC2 | with_reducible exact kc2a _ | with_reducible exact hCd | with_reducible exact hCe | exact hCe | exact kc2a _))
          (first
            | (go_at_call 44; refine (HA.out (wr.drew.alloc (.cells #[.string ⟨#[]⟩, .string ⟨#[]⟩, .slice none 0 0, .slice none 0 0, .slice none 0 0, .int .i64 0, .int .i64 0, .int .i64 0, .string ⟨#[]⟩, .slice none 0 0, .slice none 0 0, .bool false] 29)) _ hPe (fun b hb => by have := HSL.out b hb; simp; omega)).mono ?_; rintro en w2 ⟨h2, rfl, hP2, hb2⟩; have hF2 := hFe.step hb2; have hPq2 := PS.below (B := wr.drew.heap.size) hPe (hb2.mono (by simp)) HSL.out; have hC2 : C16 w2 b (o + k * 16) x := C16.below hCe hb2 (by simp; omega); have hbx2 := hbx0.below hb2 (by simp); have hq1 := Bx.cells hbx2; have hq2 := Bx.free hbx2; have hs2 := hb2.size; have hs3 : wr.heap.size < w2.heap.size := (by simp at hs2; omega); have kf2 := hF2.c1; have kf2a := fun t => (hF2.step ((Below.refl _ _).alloc (Nat.le_refl _) t)).c1; have kc2a := fun t => C16.below (B := w2.heap.size) hC2 ((Below.refl _ _).alloc (Nat.le_refl _) t) (by omega); have u4 : w.heap.size < w2.heap.size := (by omega); have u5 : b < w2.heap.size := (by omega))
            | (go_at_call 44; refine (HA.out wr.drew _ hPd HSL.out).mono ?_; rintro en w2 ⟨h2, rfl, hP2, hb2⟩; have hF2 := hFd.step hb2; have hPq2 := PS.below (B := wr.drew.heap.size) hPd hb2 HSL.out; have hC2 : C16 w2 b (o + k * 16) x := C16.below hCd hb2 (by simp; omega); have hs2 := hb2.size; have hs3 : wr.heap.size ≤ w2.heap.size := hs2; have kf2 := hF2.c1; have kf2a := fun t => (hF2.step ((Below.refl _ _).alloc (Nat.le_refl _) t)).c1; have kc2a := fun t => C16.below (B := w2.heap.size) hC2 ((Below.refl _ _).alloc (Nat.le_refl _) t) (by omega); have u4 : w.heap.size < w2.heap.size := (by omega); have u5 : b < w2.heap.size := (by omega)))
        · have k1 := hF2.step ((Below.refl _ _).alloc (Nat.le_refl _) (.cells #[.string q2.loc, .string q2.off, .slice h2.an h2.nn h2.cn, .slice h2.ag h2.ng h2.cg, .slice h2.ap h2.np h2.cp, .int .i64 q2.tik.kind, .int .i64 q2.tik.day, .int .i64 q2.tik.min, .string q2.rc, .slice h2.ar h2.nr h2.cr, .slice h2.ae h2.ne h2.ce, .bool q2.queued] 29))
          have k2 := (PS.below (B := w2.heap.size) hPq2 ((Below.refl _ _).alloc (Nat.le_refl _) (.cells #[.string q2.loc, .string q2.off, .slice h2.an h2.nn h2.cn, .slice h2.ag h2.ng h2.cg, .slice h2.ap h2.np h2.cp, .int .i64 q2.tik.kind, .int .i64 q2.tik.day, .int .i64 q2.tik.min, .string q2.rc, .slice h2.ar h2.nr h2.cr, .slice h2.ae h2.ne h2.ce, .bool q2.queued] 29)) (fun b hb => by have := HSL.out b hb; omega)).mono (S' := fun b => S b ∨ (w.heap.size + 1 + 1 ≤ b ∧ b < (w2.alloc (.cells #[.string q2.loc, .string q2.off, .slice h2.an h2.nn h2.cn, .slice h2.ag h2.ng h2.cg, .slice h2.ap h2.np h2.cp, .int .i64 q2.tik.kind, .int .i64 q2.tik.day, .int .i64 q2.tik.min, .string q2.rc, .slice h2.ar h2.nr h2.cr, .slice h2.ae h2.ne h2.ce, .bool q2.queued] 29)).heap.size)) (fun b hb => hb.elim .inl fun hb => .inr ⟨hb.1, by simp; omega⟩)
          have k3 := (PS.below (B := w2.heap.size) hP2 ((Below.refl _ _).alloc (Nat.le_refl _) (.cells #[.string q2.loc, .string q2.off, .slice h2.an h2.nn h2.cn, .slice h2.ag h2.ng h2.cg, .slice h2.ap h2.np h2.cp, .int .i64 q2.tik.kind, .int .i64 q2.tik.day, .int .i64 q2.tik.min, .string q2.rc, .slice h2.ar h2.nr h2.cr, .slice h2.ae h2.ne h2.ce, .bool q2.queued] 29)) (fun b hb => by rcases hb with hb | hb; have := HSL.out b hb; omega; exact hb.2)).mono (S' := fun b => S b ∨ (w.heap.size + 1 + 1 ≤ b ∧ b < (w2.alloc (.cells #[.string q2.loc, .string q2.off, .slice h2.an h2.nn h2.cn, .slice h2.ag h2.ng h2.cg, .slice h2.ap h2.np h2.cp, .int .i64 q2.tik.kind, .int .i64 q2.tik.day, .int .i64 q2.tik.min, .string q2.rc, .slice h2.ar h2.nr h2.cr, .slice h2.ae h2.ne h2.ce, .bool q2.queued] 29)).heap.size)) (fun b hb => by rcases hb with (hb | hb) | hb; exact .inl hb; exact .inr ⟨hb.1, by simp; omega⟩; exact .inr ⟨by have h1 := hb.1; simp at h1; omega, by have := hb.2; simp; omega⟩)
          have k4 := boxed_new w2 #[.string q2.loc, .string q2.off, .slice h2.an h2.nn h2.cn, .slice h2.ag h2.ng h2.cg, .slice h2.ap h2.np h2.cp, .int .i64 q2.tik.kind, .int .i64 q2.tik.day, .int .i64 q2.tik.min, .string q2.rc, .slice h2.ar h2.nr h2.cr, .slice h2.ae h2.ne h2.ce, .bool q2.queued] 29
          have k5 : w2.heap.size < (w2.alloc (.cells #[.string q2.loc, .string q2.off, .slice h2.an h2.nn h2.cn, .slice h2.ag h2.ng h2.cg, .slice h2.ap h2.np h2.cp, .int .i64 q2.tik.kind, .int .i64 q2.tik.day, .int .i64 q2.tik.min, .string q2.rc, .slice h2.ar h2.nr h2.cr, .slice h2.ae h2.ne h2.ce, .bool q2.queued] 29)).heap.size := by simp
          generalize w2.alloc (.cells #[.string q2.loc, .string q2.off, .slice h2.an h2.nn h2.cn, .slice h2.ag h2.ng h2.cg, .slice h2.ap h2.np h2.cp, .int .i64 q2.tik.kind, .int .i64 q2.tik.day, .int .i64 q2.tik.min, .string q2.rc, .slice h2.ar h2.nr h2.cr, .slice h2.ae h2.ne h2.ce, .bool q2.queued] 29) = W9 at k1 k2 k3 k4 k5 ⊢
          go_wp2
          go_meet
          exact ⟨_, h2, rfl, rfl, k1, k2, k3, k4, k5, by omega⟩
        · rw [set12 hbx2]
          have key := local_ps (S := fun b => (S b ∨ (w.heap.size + 1 + 1 ≤ b ∧ b < wr.heap.size)) ∨ (wr.heap.size < b ∧ b < w2.heap.size)) hF2 (by omega) (PS.mono hPq2 fun b hb => .inl hb) (PS.mono hP2 fun b hb => hb.elim .inl fun hb => .inr ⟨by have h1 := hb.1; simp at h1; omega, hb.2⟩) (fun b hb => by
            rcases hb with hb | hb
            · have := HSL.out b hb; omega
            · omega) hbx2
          generalize w2.setRow wr.heap.size #[.string q2.loc, .string q2.off, .slice h2.an h2.nn h2.cn, .slice h2.ag h2.ng h2.cg, .slice h2.ap h2.np h2.cp, .int .i64 q2.tik.kind, .int .i64 q2.tik.day, .int .i64 q2.tik.min, .string q2.rc, .slice h2.ar h2.nr h2.cr, .slice h2.ae h2.ne h2.ce, .bool q2.queued] = W9 at key ⊢
          obtain ⟨k1, k2, k3, k4, k5, k6⟩ := key
          go_wp2
          go_meet
          exact ⟨_, h2, rfl, rfl, k1, PS.mono k2 fun b hb => (by rcases hb with (hb | hb) | hb; exact .inl hb; exact .inr ⟨hb.1, by omega⟩; exact .inr ⟨by omega, by omega⟩), PS.mono k3 fun b hb => (by rcases hb with (hb | hb) | hb; exact .inl hb; exact .inr ⟨hb.1, by omega⟩; exact .inr ⟨by omega, by omega⟩), k4, k5, by omega⟩
      case rest =>
        clear c0 c1 c2 c3 c4 c5 c6 c7 c8 c9 c10 c11 c12 c13 c14 c15 x1 hF hP hFd hPd hFe hPe hbx0 hCd hCe hC HA kfd kfe
        obtain ⟨g, h2, rfl, rfl, hF, hP, hP2, hbx, hg, hg1⟩ := hcut
        have y1 := hF.c1
        have y2 := hF.f1
        have y3 := hF.z
        have y4 : w.heap.size < wc.heap.size := by omega
        by_cases hf0 : f2 = 0
        · have hst := HST.out hf0
          have hne : (f2 != 0) = false := by rw [bne_eq_false_iff_eq]; exact hf0
          clear hf0 y2
          go_wp2_with (refine store_res rfl (.tmp 2) (.tmp 30) rfl #[.string q2.loc, .string q2.off, .slice h2.an h2.nn h2.cn, .slice h2.ag h2.ng h2.cg, .slice h2.ap h2.np h2.cp, .int .i64 q2.tik.kind, .int .i64 q2.tik.day, .int .i64 q2.tik.min, .string q2.rc, .slice h2.ar h2.nr h2.cr, .slice h2.ae h2.ne h2.ce, .bool q2.queued] rfl rfl hF.r1 rfl rfl (by simp [Value.oneCell']) ?_)
          go_roundw
          case rel => exact ⟨k + 1, q2, h2, by omega, by go_num, hst, hnxt, ⟨below_setRow hF.B (Nat.le_refl _) _, hF.r1.row _, hF.r2.rowOther (by omega) _⟩, PS.mono (PS.keep hP2 fun a ha => cell_setRow_other _ _ _ _ (by rcases ha with ha | ha; have := HB.out _ ha; omega; omega)) fun b hb => hb.elim .inl fun hb => .inr ⟨hb.1, by have := hb.2; simpa using this⟩⟩
          case measure => simp [intOf]; omega
        · have hsp := HSP.out hf0
          have hne : (f2 != 0) = true := by rw [bne_iff_ne]; exact hf0
          clear hf0 y2
          go_wp2_with (refine store_res rfl (.tmp 4) (.tmp 27) rfl #[.string q.loc, .string q.off, .slice hq.an hq.nn hq.cn, .slice hq.ag hq.ng hq.cg, .slice hq.ap hq.np hq.cp, .int .i64 q.tik.kind, .int .i64 q.tik.day, .int .i64 q.tik.min, .string q.rc, .slice hq.ar hq.nr hq.cr, .slice hq.ae hq.ne hq.ce, .bool q.queued] rfl rfl hF.r2 rfl rfl (by simp [Value.oneCell']) ?_)
          have hF9 := hF.put2 #[.string q.loc, .string q.off, .slice hq.an hq.nn hq.cn, .slice hq.ag hq.ng hq.cg, .slice hq.ap hq.np hq.cp, .int .i64 q.tik.kind, .int .i64 q.tik.day, .int .i64 q.tik.min, .string q.rc, .slice hq.ar hq.nr hq.cr, .slice hq.ae hq.ne hq.ce, .bool q.queued]
          refine ret_cuv Tryz.results37 hF9.r2 rfl rfl rfl rfl rfl ?_
          exact FoldR.mk' hsp.out (PS.mono (PS.keep hP fun a ha => cell_setRow_other _ _ _ _ (by rcases ha with ha | ha; have := HB.out _ ha; omega; omega)) fun b hb => hb.elim .inl fun hb => .inr ⟨by omega, by have := hb.2; simpa using this⟩) hF9.B
    · obtain rfl : n = k := by omega
      have hfin := Lib.hid (hfo.out.trans (fold_end HLE.out))
      go_wp2_with (refine store_res rfl (.tmp 4) (.tmp 31) rfl #[.string q.loc, .string q.off, .slice hq.an hq.nn hq.cn, .slice hq.ag hq.ng hq.cg, .slice hq.ap hq.np hq.cp, .int .i64 q.tik.kind, .int .i64 q.tik.day, .int .i64 q.tik.min, .string q.rc, .slice hq.ar hq.nr hq.cr, .slice hq.ae hq.ne hq.ce, .bool q.queued] rfl rfl hF.r2 rfl rfl (by simp [Value.oneCell']) ?_)
      have hF9 := hF.put2 #[.string q.loc, .string q.off, .slice hq.an hq.nn hq.cn, .slice hq.ag hq.ng hq.cg, .slice hq.ap hq.np hq.cp, .int .i64 q.tik.kind, .int .i64 q.tik.day, .int .i64 q.tik.min, .string q.rc, .slice hq.ar hq.nr hq.cr, .slice hq.ae hq.ne hq.ce, .bool q.queued]
      refine ret_cuv Tryz.results37 hF9.r2 rfl rfl rfl rfl rfl ?_
      exact FoldR.mk' hfin.out (PS.mono (PS.keep hP fun a ha => cell_setRow_other _ _ _ _ (by rcases ha with ha | ha; have := HB.out _ ha; omega; omega)) fun b hb => hb.elim .inl fun hb => .inr ⟨by omega, by have := hb.2; simpa using this⟩) hF9.B
end Go.Proofs.YtpgeoahlhdifoaaGreatDoor
namespace Go.Proofs.YtpgeoahlhdifoaaGreatDoor
set_option linter.unusedVariables false
open Go Go.RowKit
set_option maxRecDepth 100000 in
set_option maxHeartbeats 8000000 in
theorem rsignin_any (a : Ar) (h : AH) (g o : ByteArray) (w : World) (hg : okStr g) (ho : okStr o) :
    Calls Tryz.prog 19 #[.agg #[.string a.agent, .string a.off, .bool a.open_, .string a.base.loc, .string a.base.off, .slice h.b.an h.b.nn h.b.cn, .slice h.b.ag h.b.ng h.b.cg, .slice h.b.ap h.b.np h.b.cp, .int .i64 a.base.tik.kind, .int .i64 a.base.tik.day, .int .i64 a.base.tik.min, .string a.base.rc, .slice h.b.ar h.b.nr h.b.cr, .slice h.b.ae h.b.ne h.b.ce, .bool a.base.queued, .int .u64 a.ver, .slice h.ad h.nd h.cd, .slice h.al h.nl h.cl, .bool a.working, .int .i64 a.queue], .string g, .string o] w (RetA w (signinF a g o)) := by
  have hF := F2.start w (aC a h) 34 aZ 34
  have hq : a.agent.toList.isEmpty = noOne a := rfl
  have HR := Lib.hid (show signinF a g o = if (agentB g && wordB o 3 3) = false then (ar0, 4) else if noOne a = false then (ar0, 51) else ({ ar0 with agent := g, off := o }, 0) from rfl)
  have HG := Lib.hid (fun W => ragent_b g W hg)
  have HC := Lib.hid (fun W => rcity_b o W ho)
  generalize agentB g = b1 at HR HG
  generalize wordB o 3 3 = b2 at HR HC
  generalize noOne a = b3 at HR hq
  rcases b1 with _ | _
  · go_enter Tryz.func19, Tryz.ntmps19
    go_wp2_with fail
    refine (HG.out _).mono ?_
    rintro en w1 ⟨rfl, hb1⟩
    have hF1 := hF.step hb1
    go_wp2_with (refine store_raD rfl (.tmp 6) (.tmp 16) rfl aZ rfl rfl hF1.r2 rfl rfl aZ_one ?_)
    have hF9 := hF1.row2 aZ
    refine ret_atD Tryz.results19 hF9.r2 rfl rfl rfl rfl ?_
    exact RetA.mk' (h' := ah0) HR.out (ar0_oa _ _) hF9.B
  rcases b2 with _ | _
  · go_enter Tryz.func19, Tryz.ntmps19
    go_wp2_with fail
    refine (HG.out _).mono ?_
    rintro en w1 ⟨rfl, hb1⟩
    have hF1 := hF.step hb1
    go_wp2_with fail
    refine (HC.out _).mono ?_
    rintro en w2 ⟨rfl, hb2⟩
    have hF2 := hF1.step hb2
    go_wp2_with (refine store_raD rfl (.tmp 6) (.tmp 16) rfl aZ rfl rfl hF2.r2 rfl rfl aZ_one ?_)
    have hF9 := hF2.row2 aZ
    refine ret_atD Tryz.results19 hF9.r2 rfl rfl rfl rfl ?_
    exact RetA.mk' (h' := ah0) HR.out (ar0_oa _ _) hF9.B
  rcases b3 with _ | _
  · go_enter Tryz.func19, Tryz.ntmps19
    go_wp2_with fail
    refine (HG.out _).mono ?_
    rintro en w1 ⟨rfl, hb1⟩
    have hF1 := hF.step hb1
    go_wp2_with fail
    refine (HC.out _).mono ?_
    rintro en w2 ⟨rfl, hb2⟩
    have hF2 := hF1.step hb2
    have x1 := hF2.x1
    try dsimp only [aC] at x1
    try dsimp only [aZ] at x1
    have z1 := hF2.z
    go_wp2_with (refine store_raD rfl (.tmp 6) (.tmp 20) rfl aZ rfl rfl hF2.r2 rfl rfl aZ_one ?_)
    have hF9 := hF2.row2 aZ
    refine ret_atD Tryz.results19 hF9.r2 rfl rfl rfl rfl ?_
    exact RetA.mk' (h' := ah0) HR.out (ar0_oa _ _) hF9.B
  · go_enter Tryz.func19, Tryz.ntmps19
    go_wp2_with fail
    refine (HG.out _).mono ?_
    rintro en w1 ⟨rfl, hb1⟩
    have hF1 := hF.step hb1
    go_wp2_with fail
    refine (HC.out _).mono ?_
    rintro en w2 ⟨rfl, hb2⟩
    have hF2 := hF1.step hb2
    have x1 := hF2.x1
    try dsimp only [aC] at x1
    try dsimp only [aZ] at x1
    have z1 := hF2.z
    go_wp2_with (refine store_raD rfl (.tmp 6) (.tmp 23) rfl #[.string g, .string o, .bool false, .string ⟨#[]⟩, .string ⟨#[]⟩, .slice none 0 0, .slice none 0 0, .slice none 0 0, .int .i64 0, .int .i64 0, .int .i64 0, .string ⟨#[]⟩, .slice none 0 0, .slice none 0 0, .bool false, .int .u64 0, .slice none 0 0, .slice none 0 0, .bool false, .int .i64 0] rfl rfl hF2.r2 rfl rfl (by simp [Value.oneCell']) ?_)
    have hF9 := hF2.row2 #[.string g, .string o, .bool false, .string ⟨#[]⟩, .string ⟨#[]⟩, .slice none 0 0, .slice none 0 0, .slice none 0 0, .int .i64 0, .int .i64 0, .int .i64 0, .string ⟨#[]⟩, .slice none 0 0, .slice none 0 0, .bool false, .int .u64 0, .slice none 0 0, .slice none 0 0, .bool false, .int .i64 0]
    refine ret_atD Tryz.results19 hF9.r2 rfl rfl rfl rfl ?_
    exact RetA.mk' (a := { ar0 with agent := g, off := o }) (h' := ah0) HR.out (by have q := ar0_oa (w2.setRow (w.heap.size + 1) #[.string g, .string o, .bool false, .string ⟨#[]⟩, .string ⟨#[]⟩, .slice none 0 0, .slice none 0 0, .slice none 0 0, .int .i64 0, .int .i64 0, .int .i64 0, .string ⟨#[]⟩, .slice none 0 0, .slice none 0 0, .bool false, .int .u64 0, .slice none 0 0, .slice none 0 0, .bool false, .int .i64 0]) w.heap.size; exact ⟨hg, ho, q.ver, q.queue, q.base, q.edits, q.legs⟩) hF9.B
end Go.Proofs.YtpgeoahlhdifoaaGreatDoor
namespace Go.Proofs.YtpgeoahlhdifoaaGreatDoor
set_option linter.unusedVariables false
open Go Go.RowKit
set_option maxRecDepth 100000 in
set_option maxHeartbeats 8000000 in
theorem rleave_any (a : Ar) (h : AH) (w : World) (S : Nat → Prop) (hp : AS w S a h) (hS : ∀ b, S b → b < w.heap.size) :
    Calls Tryz.prog 32 #[.agg #[.string a.agent, .string a.off, .bool a.open_, .string a.base.loc, .string a.base.off, .slice h.b.an h.b.nn h.b.cn, .slice h.b.ag h.b.ng h.b.cg, .slice h.b.ap h.b.np h.b.cp, .int .i64 a.base.tik.kind, .int .i64 a.base.tik.day, .int .i64 a.base.tik.min, .string a.base.rc, .slice h.b.ar h.b.nr h.b.cr, .slice h.b.ae h.b.ne h.b.ce, .bool a.base.queued, .int .u64 a.ver, .slice h.ad h.nd h.cd, .slice h.al h.nl h.cl, .bool a.working, .int .i64 a.queue]] w (RetD w S (leaveF a)) := by
  have hnd := hp.edits.len.symm
  have HP := Lib.hid hp
  have HB := Lib.hid hS
  have hq : a.agent.toList.isEmpty = noOne a := rfl
  have hF := F2.start w (aC a h) 34 aZ 34
  clear hp hS
  rcases Bool.eq_false_or_eq_true (noOne a) with hno | hno
  · rw [show leaveF a = (ar0, 50) by simp [leaveF, hno]]
    have HW := Lib.hid (fun W => rwrong19_any a h false W hnd (q0 := 50) (by simp [wrongA, hno]))
    clear hnd hno hq
    go_enter Tryz.func32, Tryz.ntmps32
    go_wp2_with (refine load_raD rfl (.tmp 1) rfl rfl hF.r1 rfl ?_)
    refine (HW.out _).mono ?_
    rintro en w1 ⟨rfl, hb1⟩
    have hF1 := hF.step hb1
    clear hF hb1 HW
    have x1 := hF1.x1
    try dsimp only [aC] at x1
    try dsimp only [aZ] at x1
    go_wp2_with (refine store_raD rfl (.tmp 2) (.tmp 9) rfl aZ rfl rfl hF1.r2 rfl rfl aZ_one ?_)
    have hF9 := hF1.row2 aZ
    refine ret_atD Tryz.results32 hF9.r2 rfl rfl rfl rfl ?_
    exact RetD.mk' (h' := ah0) rfl (ar0_as _ _) hF9.B
  · obtain ⟨b2, hb2⟩ : ∃ b2, b2 = a.working := ⟨_, rfl⟩
    rw [show leaveF a = if b2 = false then (ar0, 55) else ({ a with working := false, queue := 0 }, 0) by simp [leaveF, hno, hb2]]
    have HW := Lib.hid (fun W => rwrong19_any a h false W hnd (q0 := 0) (by simp [wrongA, hno]))
    have HB2 := Lib.hid hb2
    clear hnd hno hq hb2
    rcases b2 with _ | _
    · rw [if_pos rfl]
      go_enter Tryz.func32, Tryz.ntmps32
      go_wp2_with (refine load_raD rfl (.tmp 1) rfl rfl hF.r1 rfl ?_)
      refine (HW.out _).mono ?_
      rintro en w1 ⟨rfl, hb1⟩
      have hF1 : F2 w #[.string a.agent, .string a.off, .bool a.open_, .string a.base.loc, .string a.base.off, .slice h.b.an h.b.nn h.b.cn, .slice h.b.ag h.b.ng h.b.cg, .slice h.b.ap h.b.np h.b.cp, .int .i64 a.base.tik.kind, .int .i64 a.base.tik.day, .int .i64 a.base.tik.min, .string a.base.rc, .slice h.b.ar h.b.nr h.b.cr, .slice h.b.ae h.b.ne h.b.ce, .bool a.base.queued, .int .u64 a.ver, .slice h.ad h.nd h.cd, .slice h.al h.nl h.cl, .bool false, .int .i64 a.queue] 34 aZ 34 w1 := by have q := hF.step hb1; dsimp only [aC] at q; rw [← HB2.out] at q; exact q
      clear hF hb1 HW
      have x1 := hF1.x1
      try dsimp only [aC] at x1
      try dsimp only [aZ] at x1
      go_wp2_with (refine store_raD rfl (.tmp 2) (.tmp 14) rfl aZ rfl rfl hF1.r2 rfl rfl aZ_one ?_)
      have hF9 := hF1.row2 aZ
      refine ret_atD Tryz.results32 hF9.r2 rfl rfl rfl rfl ?_
      exact RetD.mk' (h' := ah0) rfl (ar0_as _ _) hF9.B
    · rw [if_neg (by simp)]
      go_enter Tryz.func32, Tryz.ntmps32
      go_wp2_with (refine load_raD rfl (.tmp 1) rfl rfl hF.r1 rfl ?_)
      refine (HW.out _).mono ?_
      rintro en w1 ⟨rfl, hb1⟩
      have hF1 : F2 w #[.string a.agent, .string a.off, .bool a.open_, .string a.base.loc, .string a.base.off, .slice h.b.an h.b.nn h.b.cn, .slice h.b.ag h.b.ng h.b.cg, .slice h.b.ap h.b.np h.b.cp, .int .i64 a.base.tik.kind, .int .i64 a.base.tik.day, .int .i64 a.base.tik.min, .string a.base.rc, .slice h.b.ar h.b.nr h.b.cr, .slice h.b.ae h.b.ne h.b.ce, .bool a.base.queued, .int .u64 a.ver, .slice h.ad h.nd h.cd, .slice h.al h.nl h.cl, .bool true, .int .i64 a.queue] 34 aZ 34 w1 := by have q := hF.step hb1; dsimp only [aC] at q; rw [← HB2.out] at q; exact q
      clear hF hb1 HW
      have x1 := hF1.x1
      try dsimp only [aC] at x1
      try dsimp only [aZ] at x1
      have y1 := hF1.y1
      have z1 := hF1.z
      have z0 : w.heap.size < w1.heap.size := by omega
      go_upto_region 8 with fail
      refine wp_world (fun W => F2 w #[.string a.agent, .string a.off, .bool a.open_, .string a.base.loc, .string a.base.off, .slice h.b.an h.b.nn h.b.cn, .slice h.b.ag h.b.ng h.b.cg, .slice h.b.ap h.b.np h.b.cp, .int .i64 a.base.tik.kind, .int .i64 a.base.tik.day, .int .i64 a.base.tik.min, .string a.base.rc, .slice h.b.ar h.b.nr h.b.cr, .slice h.b.ae h.b.ne h.b.ce, .bool a.base.queued, .int .u64 a.ver, .slice h.ad h.nd h.cd, .slice h.al h.nl h.cl, .bool false, .int .i64 0] 34 aZ 34 W) ((hF1.put1 18 (.bool false)).put1 19 (.int .i64 0)) ?_
      clear hF1 x1 y1 z1 z0
      intro V hF
      go_wp2_with (first | (refine load_raD rfl (.tmp 1) rfl rfl hF.r1 rfl ?_) | refine store_raD rfl (.tmp 2) (.tmp 17) rfl #[.string a.agent, .string a.off, .bool a.open_, .string a.base.loc, .string a.base.off, .slice h.b.an h.b.nn h.b.cn, .slice h.b.ag h.b.ng h.b.cg, .slice h.b.ap h.b.np h.b.cp, .int .i64 a.base.tik.kind, .int .i64 a.base.tik.day, .int .i64 a.base.tik.min, .string a.base.rc, .slice h.b.ar h.b.nr h.b.cr, .slice h.b.ae h.b.ne h.b.ce, .bool a.base.queued, .int .u64 a.ver, .slice h.ad h.nd h.cd, .slice h.al h.nl h.cl, .bool false, .int .i64 0] rfl rfl hF.r2 rfl rfl (by simp [Value.oneCell']) ?_)
      have hF9 := hF.row2 #[.string a.agent, .string a.off, .bool a.open_, .string a.base.loc, .string a.base.off, .slice h.b.an h.b.nn h.b.cn, .slice h.b.ag h.b.ng h.b.cg, .slice h.b.ap h.b.np h.b.cp, .int .i64 a.base.tik.kind, .int .i64 a.base.tik.day, .int .i64 a.base.tik.min, .string a.base.rc, .slice h.b.ar h.b.nr h.b.cr, .slice h.b.ae h.b.ne h.b.ce, .bool a.base.queued, .int .u64 a.ver, .slice h.ad h.nd h.cd, .slice h.al h.nl h.cl, .bool false, .int .i64 0]
      refine ret_atD Tryz.results32 hF9.r2 rfl rfl rfl rfl ?_
      have o := HP.out.below hF9.B HB.out
      exact RetD.in (a := { a with working := false, queue := 0 }) (h' := h) rfl ⟨o.agent, o.off, o.ver, by simp [okInt], o.base, o.edits, o.legs⟩ hF9.B
set_option maxRecDepth 100000 in
set_option maxHeartbeats 8000000 in
theorem rwork_any (a : Ar) (h : AH) (n : Int) (w : World) (S : Nat → Prop) (hp : AS w S a h) (hS : ∀ b, S b → b < w.heap.size) :
    Calls Tryz.prog 30 #[.agg #[.string a.agent, .string a.off, .bool a.open_, .string a.base.loc, .string a.base.off, .slice h.b.an h.b.nn h.b.cn, .slice h.b.ag h.b.ng h.b.cg, .slice h.b.ap h.b.np h.b.cp, .int .i64 a.base.tik.kind, .int .i64 a.base.tik.day, .int .i64 a.base.tik.min, .string a.base.rc, .slice h.b.ar h.b.nr h.b.cr, .slice h.b.ae h.b.ne h.b.ce, .bool a.base.queued, .int .u64 a.ver, .slice h.ad h.nd h.cd, .slice h.al h.nl h.cl, .bool a.working, .int .i64 a.queue], .int .i64 n] w (RetD w S (workF a n)) := by
  have hnd := hp.edits.len.symm
  have HP := Lib.hid hp
  have HB := Lib.hid hS
  have hq : a.agent.toList.isEmpty = noOne a := rfl
  have hF := F2.start w (aC a h) 34 aZ 34
  clear hp hS
  have x0 := hF.x1
  try dsimp only [aC] at x0
  try dsimp only [aZ] at x0
  rcases Bool.eq_false_or_eq_true (noOne a) with hno | hno
  · rw [show workF a n = (ar0, 50) by simp [workF, idleF, hno]]
    rw [hno] at hq
    clear hnd hno
    go_enter Tryz.func30, Tryz.ntmps30
    go_wp2_with (refine store_raD rfl (.tmp 4) (.tmp 10) rfl aZ rfl rfl hF.r2 rfl rfl aZ_one ?_)
    have hF9 := hF.row2 aZ
    refine ret_atD Tryz.results30 hF9.r2 rfl rfl rfl rfl ?_
    exact RetD.mk' (h' := ah0) rfl (ar0_as _ _) hF9.B
  rw [hno] at hq
  by_cases hn : n < 0 ∨ 100 ≤ n
  · rw [show workF a n = (ar0, 1) by unfold workF; rw [if_pos ⟨hno, hn⟩]]
    have hn1 : n < 0 ∨ (¬ n < 0 ∧ 99 < n) := by omega
    clear hn hnd hno
    rcases hn1 with hn1 | ⟨hn1, hn2⟩
    all_goals
      go_enter Tryz.func30, Tryz.ntmps30
      go_wp2_with (refine store_raD rfl (.tmp 4) (.tmp 17) rfl aZ rfl rfl hF.r2 rfl rfl aZ_one ?_)
      have hF9 := hF.row2 aZ
      refine ret_atD Tryz.results30 hF9.r2 rfl rfl rfl rfl ?_
      exact RetD.mk' (h' := ah0) rfl (ar0_as _ _) hF9.B
  have hn2 : ¬ n < 0 := by omega
  have hn3 : ¬ 99 < n := by omega
  by_cases hz : 0 < a.edits.length
  · rw [show workF a n = (ar0, 53) by simp [workF, idleF, hno, hn, hz]]
    have HW := Lib.hid (fun W => rwrong19_any a h true W hnd (q0 := 53) (by simp [wrongA, hno, hz]))
    clear hnd hno hz hn
    go_enter Tryz.func30, Tryz.ntmps30
    go_wp2_with (refine load_raD rfl (.tmp 2) rfl rfl hF.r1 rfl ?_)
    refine (HW.out _).mono ?_
    rintro en w1 ⟨rfl, hb1⟩
    have hF1 := hF.step hb1
    clear hF hb1 HW x0
    have x1 := hF1.x1
    try dsimp only [aC] at x1
    try dsimp only [aZ] at x1
    go_wp2_with (refine store_raD rfl (.tmp 4) (.tmp 22) rfl aZ rfl rfl hF1.r2 rfl rfl aZ_one ?_)
    have hF9 := hF1.row2 aZ
    refine ret_atD Tryz.results30 hF9.r2 rfl rfl rfl rfl ?_
    exact RetD.mk' (h' := ah0) rfl (ar0_as _ _) hF9.B
  · rw [show workF a n = ({ a with working := true, queue := n }, 0) by simp [workF, idleF, hno, hn, hz]]
    have HW := Lib.hid (fun W => rwrong19_any a h true W hnd (q0 := 0) (by simp [wrongA, hno, hz]))
    have hok : okInt n := by unfold okInt; omega
    clear hnd hno hz hn
    go_enter Tryz.func30, Tryz.ntmps30
    go_wp2_with (refine load_raD rfl (.tmp 2) rfl rfl hF.r1 rfl ?_)
    refine (HW.out _).mono ?_
    rintro en w1 ⟨rfl, hb1⟩
    have hF1 := hF.step hb1
    clear hF hb1 HW x0
    have x1 := hF1.x1
    try dsimp only [aC] at x1
    try dsimp only [aZ] at x1
    have y1 := hF1.y1
    have z1 := hF1.z
    have z0 : w.heap.size < w1.heap.size := by omega
    go_upto_region 10 with fail
    refine wp_world (fun W => F2 w #[.string a.agent, .string a.off, .bool a.open_, .string a.base.loc, .string a.base.off, .slice h.b.an h.b.nn h.b.cn, .slice h.b.ag h.b.ng h.b.cg, .slice h.b.ap h.b.np h.b.cp, .int .i64 a.base.tik.kind, .int .i64 a.base.tik.day, .int .i64 a.base.tik.min, .string a.base.rc, .slice h.b.ar h.b.nr h.b.cr, .slice h.b.ae h.b.ne h.b.ce, .bool a.base.queued, .int .u64 a.ver, .slice h.ad h.nd h.cd, .slice h.al h.nl h.cl, .bool true, .int .i64 n] 34 aZ 34 W) ((hF1.put1 18 (.bool true)).put1 19 (.int .i64 n)) ?_
    clear hF1 x1 y1 z1 z0
    intro V hF
    go_wp2_with (first | (refine load_raD rfl (.tmp 2) rfl rfl hF.r1 rfl ?_) | refine store_raD rfl (.tmp 4) (.tmp 27) rfl #[.string a.agent, .string a.off, .bool a.open_, .string a.base.loc, .string a.base.off, .slice h.b.an h.b.nn h.b.cn, .slice h.b.ag h.b.ng h.b.cg, .slice h.b.ap h.b.np h.b.cp, .int .i64 a.base.tik.kind, .int .i64 a.base.tik.day, .int .i64 a.base.tik.min, .string a.base.rc, .slice h.b.ar h.b.nr h.b.cr, .slice h.b.ae h.b.ne h.b.ce, .bool a.base.queued, .int .u64 a.ver, .slice h.ad h.nd h.cd, .slice h.al h.nl h.cl, .bool true, .int .i64 n] rfl rfl hF.r2 rfl rfl (by simp [Value.oneCell']) ?_)
    have hF9 := hF.row2 #[.string a.agent, .string a.off, .bool a.open_, .string a.base.loc, .string a.base.off, .slice h.b.an h.b.nn h.b.cn, .slice h.b.ag h.b.ng h.b.cg, .slice h.b.ap h.b.np h.b.cp, .int .i64 a.base.tik.kind, .int .i64 a.base.tik.day, .int .i64 a.base.tik.min, .string a.base.rc, .slice h.b.ar h.b.nr h.b.cr, .slice h.b.ae h.b.ne h.b.ce, .bool a.base.queued, .int .u64 a.ver, .slice h.ad h.nd h.cd, .slice h.al h.nl h.cl, .bool true, .int .i64 n]
    refine ret_atD Tryz.results30 hF9.r2 rfl rfl rfl rfl ?_
    have o := HP.out.below hF9.B HB.out
    exact RetD.in (a := { a with working := true, queue := n }) (h' := h) rfl ⟨o.agent, o.off, o.ver, hok, o.base, o.edits, o.legs⟩ hF9.B
set_option maxRecDepth 100000 in
set_option maxHeartbeats 8000000 in
theorem rlist_any (a : Ar) (h : AH) (l : List Lg) (A : Option Addr) (n c : Nat) (w : World) (S : Nat → Prop) (hp : AS w S a h) (hS : ∀ b, S b → b < w.heap.size) (hl : SlS w S tLeg A n c l) :
    Calls Tryz.prog 26 #[.agg #[.string a.agent, .string a.off, .bool a.open_, .string a.base.loc, .string a.base.off, .slice h.b.an h.b.nn h.b.cn, .slice h.b.ag h.b.ng h.b.cg, .slice h.b.ap h.b.np h.b.cp, .int .i64 a.base.tik.kind, .int .i64 a.base.tik.day, .int .i64 a.base.tik.min, .string a.base.rc, .slice h.b.ar h.b.nr h.b.cr, .slice h.b.ae h.b.ne h.b.ce, .bool a.base.queued, .int .u64 a.ver, .slice h.ad h.nd h.cd, .slice h.al h.nl h.cl, .bool a.working, .int .i64 a.queue], .slice A n c] w (RetD w S (listF a l)) := by
  have hnd := hp.edits.len.symm
  have HP := Lib.hid hp
  have HB := Lib.hid hS
  have hq : a.agent.toList.isEmpty = noOne a := rfl
  have hF := F2.start w (aC a h) 34 aZ 34
  clear hp hS
  have HL := Lib.hid hl
  clear hl
  rcases Bool.eq_false_or_eq_true (noOne a) with hno | hno
  · rw [show listF a l = (ar0, 50) by simp [listF, hno]]
    have HW := Lib.hid (fun W => rwrong19_any a h false W hnd (q0 := 50) (by simp [wrongA, hno]))
    clear hnd hno hq
    go_enter Tryz.func26, Tryz.ntmps26
    go_wp2_with (refine load_raD rfl (.tmp 2) rfl rfl hF.r1 rfl ?_)
    refine (HW.out _).mono ?_
    rintro en w1 ⟨rfl, hb1⟩
    have hF1 := hF.step hb1
    clear hF hb1 HW
    have x1 := hF1.x1
    try dsimp only [aC] at x1
    try dsimp only [aZ] at x1
    go_wp2_with (refine store_raD rfl (.tmp 4) (.tmp 11) rfl aZ rfl rfl hF1.r2 rfl rfl aZ_one ?_)
    have hF9 := hF1.row2 aZ
    refine ret_atD Tryz.results26 hF9.r2 rfl rfl rfl rfl ?_
    exact RetD.mk' (h' := ah0) rfl (ar0_as _ _) hF9.B
  · rw [show listF a l = ({ a with legs := l }, 0) by simp [listF, hno]]
    have HW := Lib.hid (fun W => rwrong19_any a h false W hnd (q0 := 0) (by simp [wrongA, hno]))
    clear hnd hno hq
    go_enter Tryz.func26, Tryz.ntmps26
    go_wp2_with (refine load_raD rfl (.tmp 2) rfl rfl hF.r1 rfl ?_)
    refine (HW.out _).mono ?_
    rintro en w1 ⟨rfl, hb1⟩
    have hF1 := hF.step hb1
    clear hF hb1 HW
    have x1 := hF1.x1
    try dsimp only [aC] at x1
    try dsimp only [aZ] at x1
    have y1 := hF1.y1
    have z1 := hF1.z
    have z0 : w.heap.size < w1.heap.size := by omega
    go_upto_region 5 with fail
    refine wp_world (fun W => F2 w #[.string a.agent, .string a.off, .bool a.open_, .string a.base.loc, .string a.base.off, .slice h.b.an h.b.nn h.b.cn, .slice h.b.ag h.b.ng h.b.cg, .slice h.b.ap h.b.np h.b.cp, .int .i64 a.base.tik.kind, .int .i64 a.base.tik.day, .int .i64 a.base.tik.min, .string a.base.rc, .slice h.b.ar h.b.nr h.b.cr, .slice h.b.ae h.b.ne h.b.ce, .bool a.base.queued, .int .u64 a.ver, .slice h.ad h.nd h.cd, .slice A n c, .bool a.working, .int .i64 a.queue] 34 aZ 34 W) (hF1.put1 17 (.slice A n c)) ?_
    clear hF1 x1 y1 z1 z0
    intro V hF
    go_wp2_with (first | (refine load_raD rfl (.tmp 2) rfl rfl hF.r1 rfl ?_) | refine store_raD rfl (.tmp 4) (.tmp 15) rfl #[.string a.agent, .string a.off, .bool a.open_, .string a.base.loc, .string a.base.off, .slice h.b.an h.b.nn h.b.cn, .slice h.b.ag h.b.ng h.b.cg, .slice h.b.ap h.b.np h.b.cp, .int .i64 a.base.tik.kind, .int .i64 a.base.tik.day, .int .i64 a.base.tik.min, .string a.base.rc, .slice h.b.ar h.b.nr h.b.cr, .slice h.b.ae h.b.ne h.b.ce, .bool a.base.queued, .int .u64 a.ver, .slice h.ad h.nd h.cd, .slice A n c, .bool a.working, .int .i64 a.queue] rfl rfl hF.r2 rfl rfl (by simp [Value.oneCell']) ?_)
    have hF9 := hF.row2 #[.string a.agent, .string a.off, .bool a.open_, .string a.base.loc, .string a.base.off, .slice h.b.an h.b.nn h.b.cn, .slice h.b.ag h.b.ng h.b.cg, .slice h.b.ap h.b.np h.b.cp, .int .i64 a.base.tik.kind, .int .i64 a.base.tik.day, .int .i64 a.base.tik.min, .string a.base.rc, .slice h.b.ar h.b.nr h.b.cr, .slice h.b.ae h.b.ne h.b.ce, .bool a.base.queued, .int .u64 a.ver, .slice h.ad h.nd h.cd, .slice A n c, .bool a.working, .int .i64 a.queue]
    refine ret_atD Tryz.results26 hF9.r2 rfl rfl rfl rfl ?_
    have o := HP.out.below hF9.B HB.out
    exact RetD.in (a := { a with legs := l }) (h' := (AH.mk h.b h.ad h.nd h.cd A n c)) rfl ⟨o.agent, o.off, o.ver, o.queue, o.base, o.edits, HL.out.below hF9.B HB.out⟩ hF9.B
set_option maxRecDepth 100000 in
set_option maxHeartbeats 8000000 in
theorem rignore_any (a : Ar) (h : AH) (w : World) (S : Nat → Prop) (hp : AS w S a h) (hS : ∀ b, S b → b < w.heap.size) :
    Calls Tryz.prog 24 #[.agg #[.string a.agent, .string a.off, .bool a.open_, .string a.base.loc, .string a.base.off, .slice h.b.an h.b.nn h.b.cn, .slice h.b.ag h.b.ng h.b.cg, .slice h.b.ap h.b.np h.b.cp, .int .i64 a.base.tik.kind, .int .i64 a.base.tik.day, .int .i64 a.base.tik.min, .string a.base.rc, .slice h.b.ar h.b.nr h.b.cr, .slice h.b.ae h.b.ne h.b.ce, .bool a.base.queued, .int .u64 a.ver, .slice h.ad h.nd h.cd, .slice h.al h.nl h.cl, .bool a.working, .int .i64 a.queue]] w (RetD w S (ignoreF a)) := by
  have hnd := hp.edits.len.symm
  have HP := Lib.hid hp
  have HB := Lib.hid hS
  have hq : a.agent.toList.isEmpty = noOne a := rfl
  have hF := F2.start w (aC a h) 34 aZ 34
  clear hp hS
  rcases Bool.eq_false_or_eq_true (noOne a) with hno | hno
  · rw [show ignoreF a = (ar0, 50) by simp [ignoreF, hno]]
    have HW := Lib.hid (fun W => rwrong19_any a h false W hnd (q0 := 50) (by simp [wrongA, hno]))
    clear hnd hno hq
    go_enter Tryz.func24, Tryz.ntmps24
    go_wp2_with (refine load_raD rfl (.tmp 1) rfl rfl hF.r1 rfl ?_)
    refine (HW.out _).mono ?_
    rintro en w1 ⟨rfl, hb1⟩
    have hF1 := hF.step hb1
    clear hF hb1 HW
    have x1 := hF1.x1
    try dsimp only [aC] at x1
    try dsimp only [aZ] at x1
    go_wp2_with (refine store_raD rfl (.tmp 2) (.tmp 9) rfl aZ rfl rfl hF1.r2 rfl rfl aZ_one ?_)
    have hF9 := hF1.row2 aZ
    refine ret_atD Tryz.results24 hF9.r2 rfl rfl rfl rfl ?_
    exact RetD.mk' (h' := ah0) rfl (ar0_as _ _) hF9.B
  · obtain ⟨b2, hb2⟩ : ∃ b2, b2 = a.open_ := ⟨_, rfl⟩
    rw [show ignoreF a = if b2 = false then (ar0, 52) else ({ a with open_ := false, base := pnr0, ver := 0, edits := [] }, 0) by simp [ignoreF, hno, hb2]]
    have HW := Lib.hid (fun W => rwrong19_any a h false W hnd (q0 := 0) (by simp [wrongA, hno]))
    have HB2 := Lib.hid hb2
    clear hnd hno hq hb2
    rcases b2 with _ | _
    · rw [if_pos rfl]
      go_enter Tryz.func24, Tryz.ntmps24
      go_wp2_with (refine load_raD rfl (.tmp 1) rfl rfl hF.r1 rfl ?_)
      refine (HW.out _).mono ?_
      rintro en w1 ⟨rfl, hb1⟩
      have hF1 : F2 w #[.string a.agent, .string a.off, .bool false, .string a.base.loc, .string a.base.off, .slice h.b.an h.b.nn h.b.cn, .slice h.b.ag h.b.ng h.b.cg, .slice h.b.ap h.b.np h.b.cp, .int .i64 a.base.tik.kind, .int .i64 a.base.tik.day, .int .i64 a.base.tik.min, .string a.base.rc, .slice h.b.ar h.b.nr h.b.cr, .slice h.b.ae h.b.ne h.b.ce, .bool a.base.queued, .int .u64 a.ver, .slice h.ad h.nd h.cd, .slice h.al h.nl h.cl, .bool a.working, .int .i64 a.queue] 34 aZ 34 w1 := by have q := hF.step hb1; dsimp only [aC] at q; rw [← HB2.out] at q; exact q
      clear hF hb1 HW
      have x1 := hF1.x1
      try dsimp only [aC] at x1
      try dsimp only [aZ] at x1
      go_wp2_with (refine store_raD rfl (.tmp 2) (.tmp 14) rfl aZ rfl rfl hF1.r2 rfl rfl aZ_one ?_)
      have hF9 := hF1.row2 aZ
      refine ret_atD Tryz.results24 hF9.r2 rfl rfl rfl rfl ?_
      exact RetD.mk' (h' := ah0) rfl (ar0_as _ _) hF9.B
    · rw [if_neg (by simp)]
      go_enter Tryz.func24, Tryz.ntmps24
      go_wp2_with (refine load_raD rfl (.tmp 1) rfl rfl hF.r1 rfl ?_)
      refine (HW.out _).mono ?_
      rintro en w1 ⟨rfl, hb1⟩
      have hF1 : F2 w #[.string a.agent, .string a.off, .bool true, .string a.base.loc, .string a.base.off, .slice h.b.an h.b.nn h.b.cn, .slice h.b.ag h.b.ng h.b.cg, .slice h.b.ap h.b.np h.b.cp, .int .i64 a.base.tik.kind, .int .i64 a.base.tik.day, .int .i64 a.base.tik.min, .string a.base.rc, .slice h.b.ar h.b.nr h.b.cr, .slice h.b.ae h.b.ne h.b.ce, .bool a.base.queued, .int .u64 a.ver, .slice h.ad h.nd h.cd, .slice h.al h.nl h.cl, .bool a.working, .int .i64 a.queue] 34 aZ 34 w1 := by have q := hF.step hb1; dsimp only [aC] at q; rw [← HB2.out] at q; exact q
      clear hF hb1 HW
      have x1 := hF1.x1
      try dsimp only [aC] at x1
      try dsimp only [aZ] at x1
      go_wp2_with (refine store_raD rfl (.tmp 2) (.tmp 25) rfl #[.string a.agent, .string a.off, .bool false, .string ⟨#[]⟩, .string ⟨#[]⟩, .slice none 0 0, .slice none 0 0, .slice none 0 0, .int .i64 0, .int .i64 0, .int .i64 0, .string ⟨#[]⟩, .slice none 0 0, .slice none 0 0, .bool false, .int .u64 0, .slice none 0 0, .slice h.al h.nl h.cl, .bool a.working, .int .i64 a.queue] rfl rfl hF1.r2 rfl rfl (by simp [Value.oneCell']) ?_)
      have hF9 := hF1.row2 #[.string a.agent, .string a.off, .bool false, .string ⟨#[]⟩, .string ⟨#[]⟩, .slice none 0 0, .slice none 0 0, .slice none 0 0, .int .i64 0, .int .i64 0, .int .i64 0, .string ⟨#[]⟩, .slice none 0 0, .slice none 0 0, .bool false, .int .u64 0, .slice none 0 0, .slice h.al h.nl h.cl, .bool a.working, .int .i64 a.queue]
      refine ret_atD Tryz.results24 hF9.r2 rfl rfl rfl rfl ?_
      have o := HP.out.below hF9.B HB.out
      exact RetD.in (a := { a with open_ := false, base := pnr0, ver := 0, edits := [] }) (h' := (AH.mk hd0 none 0 0 h.al h.nl h.cl)) rfl ⟨o.agent, o.off, by simp [okU64], o.queue, (ar0_as _ _).base, SlS.nil_ _ _ _, o.legs⟩ hF9.B
set_option maxRecDepth 100000 in
set_option maxHeartbeats 8000000 in
theorem rsignout_any (a : Ar) (h : AH) (w : World) (S : Nat → Prop) (hp : AS w S a h) (hS : ∀ b, S b → b < w.heap.size) :
    Calls Tryz.prog 20 #[.agg #[.string a.agent, .string a.off, .bool a.open_, .string a.base.loc, .string a.base.off, .slice h.b.an h.b.nn h.b.cn, .slice h.b.ag h.b.ng h.b.cg, .slice h.b.ap h.b.np h.b.cp, .int .i64 a.base.tik.kind, .int .i64 a.base.tik.day, .int .i64 a.base.tik.min, .string a.base.rc, .slice h.b.ar h.b.nr h.b.cr, .slice h.b.ae h.b.ne h.b.ce, .bool a.base.queued, .int .u64 a.ver, .slice h.ad h.nd h.cd, .slice h.al h.nl h.cl, .bool a.working, .int .i64 a.queue]] w (RetD w S (ar0, (idleF a).2)) := by
  have hnd := hp.edits.len.symm
  have HP := Lib.hid hp
  have HB := Lib.hid hS
  have hq : a.agent.toList.isEmpty = noOne a := rfl
  have hF := F2.start w (aC a h) 34 aZ 34
  clear hp hS
  have HW := Lib.hid (fun W => rwrong19_any a h true W hnd (q0 := (idleF a).2) (by unfold wrongA idleF; cases noOne a <;> by_cases hz : 0 < a.edits.length <;> simp [hz]))
  clear hnd hq
  generalize (idleF a).2 = n at HW
  have hF0 := hF
  go_enter Tryz.func20, Tryz.ntmps20
  go_wp2_with (first | (refine load_raD rfl (.tmp 1) rfl rfl hF.r1 rfl ?_) | (go_at_call 43; refine (HW.out _).mono ?_; rintro en w1 ⟨rfl, hb1⟩; have hF1 := hF.step hb1) | refine store_raD rfl (.tmp 2) (.tmp 4) rfl aZ rfl rfl hF1.r2 rfl rfl aZ_one ?_)
  have hF9 := hF1.row2 aZ
  refine ret_atD Tryz.results20 hF9.r2 rfl rfl rfl rfl ?_
  exact RetD.mk' (h' := ah0) rfl (ar0_as _ _) hF9.B
end Go.Proofs.YtpgeoahlhdifoaaGreatDoor
namespace Go.Proofs.YtpgeoahlhdifoaaGreatDoor
set_option linter.unusedVariables false
open Go Go.RowKit
set_option maxRecDepth 100000 in
set_option maxHeartbeats 8000000 in
theorem rpnr19_any (a : Ar) (h : AH) (w : World) (S : Nat → Prop) (hp : AS w S a h) (hS : ∀ b, S b → b < w.heap.size) (hs : a.small 1000) (q : Pnr) (hq : pnrF a = q) :
    Calls Tryz.prog 12 #[.agg #[.string a.agent, .string a.off, .bool a.open_, .string a.base.loc, .string a.base.off, .slice h.b.an h.b.nn h.b.cn, .slice h.b.ag h.b.ng h.b.cg, .slice h.b.ap h.b.np h.b.cp, .int .i64 a.base.tik.kind, .int .i64 a.base.tik.day, .int .i64 a.base.tik.min, .string a.base.rc, .slice h.b.ar h.b.nr h.b.cr, .slice h.b.ae h.b.ne h.b.ce, .bool a.base.queued, .int .u64 a.ver, .slice h.ad h.nd h.cd, .slice h.al h.nl h.cl, .bool a.working, .int .i64 a.queue]] w (fun e w' => ∃ h', e = .returned (.agg #[.string q.loc, .string q.off, .slice h'.an h'.nn h'.cn, .slice h'.ag h'.ng h'.cg, .slice h'.ap h'.np h'.cp, .int .i64 q.tik.kind, .int .i64 q.tik.day, .int .i64 q.tik.min, .string q.rc, .slice h'.ar h'.nr h'.cr, .slice h'.ae h'.ne h'.ce, .bool q.queued]) ∧ PS w' (fun b => S b ∨ (w.heap.size ≤ b ∧ b < w'.heap.size)) q h' ∧ Below w.heap.size w w') := by
  have HP := Lib.hid hp
  have HB := Lib.hid hS
  have hn : h.nd ≤ 1000 := by have h1 := hs.edits; have h2 := hp.edits.len; omega
  have HF := Lib.hid (fun (W : World) (h1 : AS W S a h) (h2 : ∀ b, S b → b < W.heap.size) => rfold_any a.base h.b a.edits h.ad h.nd h.cd W S 0 W.heap.size h1.base h2 hs.base (h1.edits.sl fun b hb => ⟨Nat.zero_le _, h2 b hb⟩) hn (Nat.le_refl _))
  have HPN := Lib.hid (show (foldF a.base a.edits).1 = q from hq)
  clear hp hS hs hn hq
  generalize foldF a.base a.edits = r at HF HPN
  obtain ⟨q', m, f⟩ := r
  obtain rfl : q = q' := HPN.out.symm
  have hF := F2.start w (aC a h) 34 #[.string ⟨#[]⟩, .string ⟨#[]⟩, .slice none 0 0, .slice none 0 0, .slice none 0 0, .int .i64 0, .int .i64 0, .int .i64 0, .string ⟨#[]⟩, .slice none 0 0, .slice none 0 0, .bool false] 29
  go_enter Tryz.func12, Tryz.ntmps12
  go_wp2_with fail
  refine (HF.out _ (HP.out.below hF.B HB.out) (fun b hb => by have := HB.out b hb; have := hF.z; omega)).mono ?_
  rintro en w1 ⟨h1, rfl, o1, hb1⟩
  dsimp only at o1
  have hF1 := (hF.step hb1).alloc (.cells #[.string q.loc, .string q.off, .slice h1.an h1.nn h1.cn, .slice h1.ag h1.ng h1.cg, .slice h1.ap h1.np h1.cp, .int .i64 q.tik.kind, .int .i64 q.tik.day, .int .i64 q.tik.min, .string q.rc, .slice h1.ar h1.nr h1.cr, .slice h1.ae h1.ne h1.ce, .bool q.queued] 29)
  have o2 := (o1.below ((Below.refl w1.heap.size w1).alloc (Nat.le_refl _) (.cells #[.string q.loc, .string q.off, .slice h1.an h1.nn h1.cn, .slice h1.ag h1.ng h1.cg, .slice h1.ap h1.np h1.cp, .int .i64 q.tik.kind, .int .i64 q.tik.day, .int .i64 q.tik.min, .string q.rc, .slice h1.ar h1.nr h1.cr, .slice h1.ae h1.ne h1.ce, .bool q.queued] 29)) (fun b hb => by have := hF1.z; rcases hb with hb | hb; (have := HB.out b hb; have := hb1.size; have := hF.z; omega); omega)).mono (S' := fun b => S b ∨ (w.heap.size + 1 + 1 ≤ b ∧ b < w1.heap.size)) (fun b hb => by simpa using hb)
  have x1 := boxed_new w1 #[.string q.loc, .string q.off, .slice h1.an h1.nn h1.cn, .slice h1.ag h1.ng h1.cg, .slice h1.ap h1.np h1.cp, .int .i64 q.tik.kind, .int .i64 q.tik.day, .int .i64 q.tik.min, .string q.rc, .slice h1.ar h1.nr h1.cr, .slice h1.ae h1.ne h1.ce, .bool q.queued] 29
  clear o1 hb1 hF
  go_wp2_with (refine store_res rfl (.tmp 2) (.tmp 15) rfl #[.string q.loc, .string q.off, .slice h1.an h1.nn h1.cn, .slice h1.ag h1.ng h1.cg, .slice h1.ap h1.np h1.cp, .int .i64 q.tik.kind, .int .i64 q.tik.day, .int .i64 q.tik.min, .string q.rc, .slice h1.ar h1.nr h1.cr, .slice h1.ae h1.ne h1.ce, .bool q.queued] rfl rfl hF1.r2 rfl rfl (by simp [Value.oneCell']) ?_)
  have hF9 := hF1.row2 #[.string q.loc, .string q.off, .slice h1.an h1.nn h1.cn, .slice h1.ag h1.ng h1.cg, .slice h1.ap h1.np h1.cp, .int .i64 q.tik.kind, .int .i64 q.tik.day, .int .i64 q.tik.min, .string q.rc, .slice h1.ar h1.nr h1.cr, .slice h1.ae h1.ne h1.ce, .bool q.queued]
  refine ret_c1 Tryz.results12 hF9.r2 rfl rfl rfl ?_
  refine ⟨h1, rfl, (o2.keep fun p hp => cell_setRow_other _ _ _ _ (by rcases hp with hp | hp; (have := HB.out _ hp; omega); omega)).mono (fun b hb => ?_), hF9.B⟩
  rcases hb with hb | hb
  · exact .inl hb
  · exact .inr ⟨by omega, by have := hF9.z; simp; omega⟩
end Go.Proofs.YtpgeoahlhdifoaaGreatDoor
namespace Go.Proofs.YtpgeoahlhdifoaaGreatDoor
set_option linter.unusedVariables false
open Go Go.RowKit
set_option maxRecDepth 100000 in
set_option maxHeartbeats 8000000 in
theorem rload_any (a : Ar) (h : AH) (p : Pnr) (hp : Hd) (v : Int) (w : World) (S : Nat → Prop) (ha : AS w S a h) (hpp : PS w S p hp) (hS : ∀ b, S b → b < w.heap.size) (hv : okU64 v) :
    Calls Tryz.prog 22 #[.agg #[.string a.agent, .string a.off, .bool a.open_, .string a.base.loc, .string a.base.off, .slice h.b.an h.b.nn h.b.cn, .slice h.b.ag h.b.ng h.b.cg, .slice h.b.ap h.b.np h.b.cp, .int .i64 a.base.tik.kind, .int .i64 a.base.tik.day, .int .i64 a.base.tik.min, .string a.base.rc, .slice h.b.ar h.b.nr h.b.cr, .slice h.b.ae h.b.ne h.b.ce, .bool a.base.queued, .int .u64 a.ver, .slice h.ad h.nd h.cd, .slice h.al h.nl h.cl, .bool a.working, .int .i64 a.queue], .agg #[.string p.loc, .string p.off, .slice hp.an hp.nn hp.cn, .slice hp.ag hp.ng hp.cg, .slice hp.ap hp.np hp.cp, .int .i64 p.tik.kind, .int .i64 p.tik.day, .int .i64 p.tik.min, .string p.rc, .slice hp.ar hp.nr hp.cr, .slice hp.ae hp.ne hp.ce, .bool p.queued], .int .u64 v] w (RetD w S (loadF a p v)) := by
  have hnd := ha.edits.len.symm
  have HP := Lib.hid ha
  have HQ := Lib.hid hpp
  have HB := Lib.hid hS
  have hF := F3.start w (aC a h) 34 #[.string p.loc, .string p.off, .slice hp.an hp.nn hp.cn, .slice hp.ag hp.ng hp.cg, .slice hp.ap hp.np hp.cp, .int .i64 p.tik.kind, .int .i64 p.tik.day, .int .i64 p.tik.min, .string p.rc, .slice hp.ar hp.nr hp.cr, .slice hp.ae hp.ne hp.ce, .bool p.queued] 29 aZ 34
  clear ha hpp hS
  by_cases hz : (idleF a).2 ≠ 0
  · obtain ⟨e, he⟩ : ∃ e, e = (idleF a).2 := ⟨_, rfl⟩
    have hi : idleF a = (ar0, e) := by
      rw [he]
      revert hz
      unfold idleF
      cases noOne a <;> by_cases hq : 0 < a.edits.length <;> simp [hq]
    have hw : wrongA a true = e := by
      rw [he]
      unfold wrongA idleF
      cases noOne a <;> by_cases hq : 0 < a.edits.length <;> simp [hq]
    have he0 : (e == 0) = false := by rw [beq_eq_false_iff_ne, he]; exact hz
    rw [show loadF a p v = (ar0, e) by unfold loadF; rw [if_pos hz, hi]]
    have HW := Lib.hid (fun W => rwrong19_any a h true W hnd hw)
    clear hnd hz he hi hw
    go_enter Tryz.func22, Tryz.ntmps22
    go_wp2_with (refine load_raD rfl (.tmp 3) rfl rfl hF.r1 rfl ?_)
    refine (HW.out _).mono ?_
    rintro en w1 ⟨rfl, hb1⟩
    have hF1 := hF.step hb1
    clear hF hb1 HW
    go_wp2_with (refine store_raD rfl (.tmp 6) (.tmp 13) rfl aZ rfl rfl hF1.r3 rfl rfl aZ_one ?_)
    have hF9 := hF1.row3 aZ
    refine ret_atD Tryz.results22 hF9.r3 rfl rfl rfl rfl ?_
    exact RetD.mk' (h' := ah0) rfl (ar0_as _ _) hF9.B
  · have hz' : (idleF a).2 = 0 := by omega
    have hno : noOne a = false := by
      revert hz'
      unfold idleF
      cases noOne a <;> simp
    have he0 : ¬ 0 < a.edits.length := by
      intro hq
      revert hz'
      unfold idleF
      rw [hno]
      simp [hq]
    have hed : a.edits = [] := List.eq_nil_of_length_eq_zero (by omega)
    rw [show loadF a p v = ({ a with open_ := true, ver := v, base := p, edits := [] }, 0) by unfold loadF; rw [if_neg hz, ← hed]]
    have HW := Lib.hid (fun W => rwrong19_any a h true W hnd (q0 := 0) (by simp [wrongA, hno, he0]))
    clear hnd hz hz' hno he0 hed
    go_enter Tryz.func22, Tryz.ntmps22
    go_wp2_with (refine load_raD rfl (.tmp 3) rfl rfl hF.r1 rfl ?_)
    refine (HW.out _).mono ?_
    rintro en w1 ⟨rfl, hb1⟩
    have hF1 := hF.step hb1
    clear hF hb1 HW
    have x1 := hF1.x1
    try dsimp only [aC] at x1
    try dsimp only [aZ] at x1
    have y1 := hF1.y1
    have z3 := hF1.z
    have z1 : w.heap.size < w1.heap.size := by omega
    go_upto_region 5 with fail
    refine wp_world (fun W => F3 w #[.string a.agent, .string a.off, .bool true, .string a.base.loc, .string a.base.off, .slice h.b.an h.b.nn h.b.cn, .slice h.b.ag h.b.ng h.b.cg, .slice h.b.ap h.b.np h.b.cp, .int .i64 a.base.tik.kind, .int .i64 a.base.tik.day, .int .i64 a.base.tik.min, .string a.base.rc, .slice h.b.ar h.b.nr h.b.cr, .slice h.b.ae h.b.ne h.b.ce, .bool a.base.queued, .int .u64 a.ver, .slice h.ad h.nd h.cd, .slice h.al h.nl h.cl, .bool a.working, .int .i64 a.queue] 34 #[.string p.loc, .string p.off, .slice hp.an hp.nn hp.cn, .slice hp.ag hp.ng hp.cg, .slice hp.ap hp.np hp.cp, .int .i64 p.tik.kind, .int .i64 p.tik.day, .int .i64 p.tik.min, .string p.rc, .slice hp.ar hp.nr hp.cr, .slice hp.ae hp.ne hp.ce, .bool p.queued] 29 aZ 34 W) (hF1.put1 2 (.bool true)) ?_
    clear hF1 x1 y1 z3 z1
    intro V hF
    go_upto_region 6 with (first | (refine wpList_load_row rfl _ (.tmp 4) rfl _ rfl _ #[.string p.loc, .string p.off, .slice hp.an hp.nn hp.cn, .slice hp.ag hp.ng hp.cg, .slice hp.ap hp.np hp.cp, .int .i64 p.tik.kind, .int .i64 p.tik.day, .int .i64 p.tik.min, .string p.rc, .slice hp.ar hp.nr hp.cr, .slice hp.ae hp.ne hp.ce, .bool p.queued] _ _ hF.r2 Tryz.underlying29 rfl info_pnr ?_) | (refine store_mid rfl (.tmp 17) (.tmp 16) rfl #[.string p.loc, .string p.off, .slice hp.an hp.nn hp.cn, .slice hp.ag hp.ng hp.cg, .slice hp.ap hp.np hp.cp, .int .i64 p.tik.kind, .int .i64 p.tik.day, .int .i64 p.tik.min, .string p.rc, .slice hp.ar hp.nr hp.cr, .slice hp.ae hp.ne hp.ce, .bool p.queued] #[.string a.agent, .string a.off, .bool true, .string p.loc, .string p.off, .slice hp.an hp.nn hp.cn, .slice hp.ag hp.ng hp.cg, .slice hp.ap hp.np hp.cp, .int .i64 p.tik.kind, .int .i64 p.tik.day, .int .i64 p.tik.min, .string p.rc, .slice hp.ar hp.nr hp.cr, .slice hp.ae hp.ne hp.ce, .bool p.queued, .int .u64 a.ver, .slice h.ad h.nd h.cd, .slice h.al h.nl h.cl, .bool a.working, .int .i64 a.queue] rfl rfl hF.r1 info_pnr (by show 3 + 12 ≤ 20; omega) (by simp [Value.oneCell']) lay12 ?_))
    refine wp_world (fun W => F3 w #[.string a.agent, .string a.off, .bool true, .string p.loc, .string p.off, .slice hp.an hp.nn hp.cn, .slice hp.ag hp.ng hp.cg, .slice hp.ap hp.np hp.cp, .int .i64 p.tik.kind, .int .i64 p.tik.day, .int .i64 p.tik.min, .string p.rc, .slice hp.ar hp.nr hp.cr, .slice hp.ae hp.ne hp.ce, .bool p.queued, .int .u64 a.ver, .slice h.ad h.nd h.cd, .slice h.al h.nl h.cl, .bool a.working, .int .i64 a.queue] 34 #[.string p.loc, .string p.off, .slice hp.an hp.nn hp.cn, .slice hp.ag hp.ng hp.cg, .slice hp.ap hp.np hp.cp, .int .i64 p.tik.kind, .int .i64 p.tik.day, .int .i64 p.tik.min, .string p.rc, .slice hp.ar hp.nr hp.cr, .slice hp.ae hp.ne hp.ce, .bool p.queued] 29 aZ 34 W) (hF.row1 _) ?_
    clear hF
    intro V2 hF
    have y1 := hF.y1
    have x1 := hF.x1
    try dsimp only [aC] at x1
    try dsimp only [aZ] at x1
    have z3 := hF.z
    have z1 : w.heap.size < V2.heap.size := by omega
    go_upto_region 8 with fail
    refine wp_world (fun W => F3 w #[.string a.agent, .string a.off, .bool true, .string p.loc, .string p.off, .slice hp.an hp.nn hp.cn, .slice hp.ag hp.ng hp.cg, .slice hp.ap hp.np hp.cp, .int .i64 p.tik.kind, .int .i64 p.tik.day, .int .i64 p.tik.min, .string p.rc, .slice hp.ar hp.nr hp.cr, .slice hp.ae hp.ne hp.ce, .bool p.queued, .int .u64 v, .slice none 0 0, .slice h.al h.nl h.cl, .bool a.working, .int .i64 a.queue] 34 #[.string p.loc, .string p.off, .slice hp.an hp.nn hp.cn, .slice hp.ag hp.ng hp.cg, .slice hp.ap hp.np hp.cp, .int .i64 p.tik.kind, .int .i64 p.tik.day, .int .i64 p.tik.min, .string p.rc, .slice hp.ar hp.nr hp.cr, .slice hp.ae hp.ne hp.ce, .bool p.queued] 29 aZ 34 W) ((hF.put1 15 (.int .u64 v)).put1 16 (.slice none 0 0)) ?_
    clear hF x1 y1 z3 z1
    intro V3 hF
    go_wp2_with (first | (refine load_raD rfl (.tmp 3) rfl rfl hF.r1 rfl ?_) | refine store_raD rfl (.tmp 6) (.tmp 21) rfl #[.string a.agent, .string a.off, .bool true, .string p.loc, .string p.off, .slice hp.an hp.nn hp.cn, .slice hp.ag hp.ng hp.cg, .slice hp.ap hp.np hp.cp, .int .i64 p.tik.kind, .int .i64 p.tik.day, .int .i64 p.tik.min, .string p.rc, .slice hp.ar hp.nr hp.cr, .slice hp.ae hp.ne hp.ce, .bool p.queued, .int .u64 v, .slice none 0 0, .slice h.al h.nl h.cl, .bool a.working, .int .i64 a.queue] rfl rfl hF.r3 rfl rfl (by simp [Value.oneCell']) ?_)
    have hF9 := hF.row3 #[.string a.agent, .string a.off, .bool true, .string p.loc, .string p.off, .slice hp.an hp.nn hp.cn, .slice hp.ag hp.ng hp.cg, .slice hp.ap hp.np hp.cp, .int .i64 p.tik.kind, .int .i64 p.tik.day, .int .i64 p.tik.min, .string p.rc, .slice hp.ar hp.nr hp.cr, .slice hp.ae hp.ne hp.ce, .bool p.queued, .int .u64 v, .slice none 0 0, .slice h.al h.nl h.cl, .bool a.working, .int .i64 a.queue]
    refine ret_atD Tryz.results22 hF9.r3 rfl rfl rfl rfl ?_
    have o := HP.out.below hF9.B HB.out
    exact RetD.in (a := { a with open_ := true, ver := v, base := p, edits := [] }) (h' := (AH.mk hp none 0 0 h.al h.nl h.cl)) rfl ⟨o.agent, o.off, hv, o.queue, HQ.out.below hF9.B HB.out, SlS.nil_ _ _ _, o.legs⟩ hF9.B
end Go.Proofs.YtpgeoahlhdifoaaGreatDoor
