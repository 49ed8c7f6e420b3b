/- The keys of a map of legs: maps.Keys, its iterator; slices.Collect of them. -/
import Derived.Test.YtlkdefmceghmnaaGreatStG
import Derived.Test.YtlkdefmceghmnaaGreatMapR
import Derived.RangeFuncBox
import Derived.RangeFuncNested
import Derived.RangeFuncBound
import Derived.RangeFuncCalls
import Derived.RangeFuncLeaves
import Derived.Shelf.Abstract
import Derived.Shelf.RegionOpen
import Derived.WalkKit
import Derived.OwnWalkIn
import Derived.TacticsInMore
import Derived.LoopNIn
import Derived.LoopIn
import Derived.Maps.AppendAt
namespace Go.Proofs.YtlkdefmceghmnaaGreat
set_option linter.unusedVariables false
open Go Go.RowKit Go.Shelf
attribute [local go_sem] Oper.semAt_some
theorem info_leg : (Tryz.prog.info? 27).map (fun i => (i.zero, i.size, i.bytes)) = some (some (.agg #[.string ⟨#[]⟩, .int .i64 0, .int .i64 0]), 3, 32) := by kernel_rfl
set_option maxRecDepth 100000 in
set_option maxHeartbeats 2000000 in
theorem keys1_any (F : Fence) (n : Nat) (hf : F.fn 112) (hro : F.round = none) (hn : 1 ≤ n) (l Bm b : Nat) (es : Array MapEntry) (clock : Nat) (J Jx : List Leg → World → Prop)
    (hY : ∀ pre x W, J pre W → pre.length < es.size → YieldAt F (n - 1) Tryz.prog l #[.agg #[.string x.key.car, .int .i64 x.key.num, .int .i64 x.day]] W fun e W' =>
      (e = .returned (.bool true) ∧ J (pre ++ [x]) W' ∧ KeepsWalks W W') ∨ (e = .returned (.bool false) ∧ Jx (pre ++ [x]) W'))
    (W : World) (hJ : AbidesFrom W.heap.size J) (hm : W.cell? ⟨Bm, 0, none⟩ = some (.map (some b))) (hb : W.heap[b]? = some (.map es clock)) (hlt : ∀ x ∈ es.toList, x.born < clock) (hnod : (es.toList.map (·.born)).Nodup)
    (hkeys : ∀ x ∈ es.toList, ∃ y : Leg, x.key = .agg #[.string y.key.car, .int .i64 y.key.num, .int .i64 y.day]) (hvals : ∀ x ∈ es.toList, ∃ z : Int, x.val = .int .i64 z) (h0 : J [] W) :
    CallsIn F n Tryz.prog 112 #[.func (.yield l) #[] #[], .pointer (some ⟨Bm, 0, none⟩)] W fun e W' => (∃ v, e = .returned v) ∧
      ((∃ xs : List Leg, (xs.map legV).Perm (es.toList.map (·.key)) ∧ J xs W') ∨ (∃ pre : List Leg, True ∧ Jx pre W')) := by
  have HK := Lib.hid hkeys
  have HV := Lib.hid hvals
  have HN := Lib.hid hnod
  have HLT := Lib.hid hlt
  clear hkeys hvals hnod hlt
  refine callsIn_of_wp Tryz.func112 rfl hf ?_ hro
  simp only [Tryz.ntmps112, List.size_toArray, List.length_cons, List.length_nil, Nat.reduceAdd, Nat.reduceSub, Array.replicate_succ, Array.replicate_zero, List.push_toArray, List.append_toArray, List.nil_append, List.cons_append]
  gi_wp2_with (first
    | (gi_at_range; refine wpListIn_range_rg rfl _ rfl Tryz.underlying118 rfl hb HLT.out ?_; intro w0 hrg0 hg0 hs0)
    | gi_in)
  go_frame
  gi_loopw [3] (fun _ wr => ∃ (seen : Array Nat) (ls : List MapEntry) (ss : List Leg), Rg wr b W.heap.size es clock seen ∧ Hid (Come es seen ls) ∧ Hid (ss.map legV = ls.map (·.key)) ∧ J ss wr)
    (fun _ wr => (leftOf es (wr.iterSeen W.heap.size)).size)
  case atStart => exact ⟨_, [], [], hrg0, Come.start es, rfl, hJ [] W w0 none h0 hg0 (fun r e => by cases e)⟩
  case round =>
    obtain ⟨seen, ls, ss, hrg, HC, HSS, hJs⟩ := hrel
    gi_wp2_with (first
      | (gi_at_next; refine wpListIn_next_rg rfl _ rfl (fun y : Leg => .agg #[.string y.key.car, .int .i64 y.key.num, .int .i64 y.day]) (Value.int .i64) rfl hrg HN.out HK.out HV.out ?_ ?_)
      | gi_in)
    · intro hl0
      gi_wp2
      go_end0
      exact ⟨⟨_, rfl⟩, .inl ⟨ss, by rw [HSS.out]; exact (HC.out.all HN.out (by rw [hl0]; rfl)).map _, hJs⟩⟩
    · intro x y z w2 hx0 hkey hval hrg2 hg2 hs2 hen
      have hx : x ∈ (leftOf es seen).toList := by simpa using hx0
      clear hx0
      have hJ2 : J ss w2 := hJ ss wr w2 (some W.heap.size) hJs hg2 (fun r e => by cases e; exact ⟨Nat.le_refl _, hrg.walk⟩)
      have hJ3 : J ss (w2.alloc (.cells #[.string y.key.car, .int .i64 y.key.num, .int .i64 y.day] 27)) := hJ ss w2 _ none hJ2 (World.grownBy_alloc w2 _ none) (fun r e => by cases e)
      have hln : ss.length < es.size := by
        have h1 := congrArg List.length HSS.out
        rw [List.length_map, List.length_map] at h1
        rw [h1]
        exact HC.out.len HN.out hx
      have HC2 := Lib.hid (HC.out.step HN.out hx)
      have HS2 : Hid ((ss ++ [y]).map legV = (ls ++ [x]).map (·.key)) := by
        show _ = _
        rw [List.map_append, List.map_append, HSS.out, List.map_singleton, List.map_singleton, hkey]
        rfl
      have HX := Lib.hid (left_shrinks es seen x hx)
      have HSE := Lib.hid hrg.seen_eq
      obtain ⟨fn, tmps, assign, body, hy, hR⟩ := hY ss y _ hJ3 hln
      have hrg3 := hrg2.keep (w' := w2.alloc (.cells #[.string y.key.car, .int .i64 y.key.num, .int .i64 y.day] 27)) (Below.heap_alloc _ _ _ hrg2.rlt) (Below.heap_alloc _ _ _ hrg2.blt)
      clear hs2 hx hkey hval HC HSS hJs hJ2 hJ3 hg2 hrg2
      gi_wp2
      refine hR.mono ?_
      rintro e W3 (⟨rfl, hJ4, hk4⟩ | ⟨rfl, hJx4⟩)
      · gi_wp2
        have hrg4 : Rg W3 b W.heap.size es clock (seen.push x.born) := ⟨hk4.same _ _ hrg3.it rfl, hk4.same _ _ hrg3.mp rfl, hrg3.lt⟩
        go_roundw
        case rel => exact ⟨_, ls ++ [x], ss ++ [y], hrg4, HC2, HS2, hJ4⟩
        case measure => rw [hrg4.seen_eq, HSE.out]; exact HX.out
      · gi_wp2
        refine bodyPost_ret (results_none rfl _ _ _) rfl ?_
        exact ⟨⟨_, rfl⟩, .inr ⟨ss ++ [y], trivial, hJx4⟩⟩
theorem keys_stops (F : Fence) (n : Nat) (hf : F.fn 112) (hro : F.round = none) (hn : 1 ≤ n) (Bm b : Nat) (es : Array MapEntry) (clock : Nat) (w : World) (hBm : Bm < w.heap.size)
    (hm : w.cell? ⟨Bm, 0, none⟩ = some (.map (some b))) (hb : w.heap[b]? = some (.map es clock)) (hlt : ∀ x ∈ es.toList, x.born < clock) (hnod : (es.toList.map (·.born)).Nodup)
    (hkeys : ∀ x ∈ es.toList, ∃ y : Leg, x.key = .agg #[.string y.key.car, .int .i64 y.key.num, .int .i64 y.day]) (hvals : ∀ x ∈ es.toList, ∃ z : Int, x.val = .int .i64 z) :
    SeqStopsK F n Tryz.prog 112 #[.pointer (some ⟨Bm, 0, none⟩)] (fun x : Leg => #[.agg #[.string x.key.car, .int .i64 x.key.num, .int .i64 x.day]]) KeepsWalks (fun xs => (xs.map legV).Perm (es.toList.map (·.key))) (fun _ => True) es.size w :=
  fun l J Jx W hW hJ _ hY h0 => keys1_any F n hf hro hn l Bm b es clock J Jx hY W hJ ((hW.cell (p := ⟨Bm, 0, none⟩) hBm).trans hm) ((hW.block b (Array.getElem?_eq_some_iff.1 hb).1).trans hb) hlt hnod hkeys hvals h0
theorem bx_own (Bs : Nat) (x : Leg) (f : Nat → Act) (a' : Act) : Go.Own (fun (_ : Unit) W => ∃ B', Bs < B' ∧ Bx W B' #[.string x.key.car, .int .i64 x.key.num, .int .i64 x.day] 27 ∧ a' = f B') := fun s X Y row hs hg hrow => by
  obtain ⟨B', h1, h2, h3⟩ := hs
  refine ⟨B', h1, (hg.block B' h2.lt fun e' => ?_).trans h2, h3⟩
  obtain ⟨o, ho, hc⟩ := hrow B' e'.symm
  rw [show X.heap[B']? = _ from h2] at ho
  cases ho
  cases hc
set_option maxRecDepth 100000 in
set_option maxHeartbeats 2000000 in
theorem appendSeq_any (F : Fence) (n : Nat) (hf0 : F.fn 142) (hf : F.fn 112) (hro : F.round = none) (hn : 3 ≤ n) (Bm b : Nat) (es : Array MapEntry) (clock : Nat) (w : World) (hBm : Bm < w.heap.size)
    (hm : w.cell? ⟨Bm, 0, none⟩ = some (.map (some b))) (hb : w.heap[b]? = some (.map es clock)) (hlt : ∀ x ∈ es.toList, x.born < clock) (hnod : (es.toList.map (·.born)).Nodup)
    (hkeys : ∀ x ∈ es.toList, ∃ y : Leg, x.key = .agg #[.string y.key.car, .int .i64 y.key.num, .int .i64 y.day]) (hvals : ∀ x ∈ es.toList, ∃ z : Int, x.val = .int .i64 z) (hsz : es.size ≤ 1000000) :
    CallsIn F n Tryz.prog 142 #[.slice none 0 0, .func (.func 112) #[] #[.pointer (some ⟨Bm, 0, none⟩)]] w fun e w' =>
      ∃ (v : Value) (xs : List Leg), e = .returned v ∧ (xs.map legV).Perm (es.toList.map (·.key)) ∧ w'.ownsRow w.heap.size 27 3 v xs.length (xs.flatMap tLeg.enc) ∧ Below w.heap.size w w' := by
  have h1 : 1 ≤ n := by omega
  obtain ⟨i0, hi, hz0, hz1, hz2⟩ := info_parts info_leg
  refine callsIn_of_wp_marks Tryz.func142 rfl hf0 ?_ hro
  simp only [Tryz.ntmps142, List.size_toArray, List.length_cons, List.length_nil, Nat.reduceAdd, Nat.reduceSub, Array.replicate_succ, Array.replicate_zero, List.push_toArray, List.append_toArray, List.nil_append, List.cons_append]
  have bO := Boxed.new w 48 (.slice none 0 0)
  have hB0 : Below w.heap.size w (w.alloc (.cells #[.slice none 0 0] 48)) := (Below.refl _ w).alloc (Nat.le_refl _) _
  gi_wp2
  refine wpIn_rangeFunc_ownH hro h1 (gf := 112) (lb := #[.pointer (some ⟨Bm, 0, none⟩)]) rfl hf (enters_of Tryz.func112 (by kernel_rfl) rfl)
    (keys_stops F (n - 1) hf hro (by omega) Bm b es clock _ (by simp; omega) ((hB0.cell (p := ⟨Bm, 0, none⟩) hBm).trans hm) ((hB0.block b (Array.getElem?_eq_some_iff.1 hb).1).trans hb) hlt hnod hkeys hvals) walksK_t walksK_b (Below.refl _ _) (fun _ => rfl)
    (fun pre W => (∃ v, Boxed W w.heap.size 48 v ∧ W.ownsRow w.heap.size 27 3 v pre.length (pre.flatMap tLeg.enc) ∧ True) ∧ Below w.heap.size w W)
    (fun _ _ _ => False)
    (OwnFrom.and (Go.Own.from (holdsRow_own w.heap.size w.heap.size 48 27 3 (fun pre : List Leg => pre.length) (fun pre => pre.flatMap tLeg.enc) (fun _ _ => True)) _) (ownFrom_below (Nat.le_refl _) (by simp)))
    (fun _ _ _ _ _ hs _ _ => hs)
    ⟨⟨_, bO, World.ownsRow_nil _ _ _ _, trivial⟩, hB0⟩
    (fun x a' W => ∃ B', w.heap.size < B' ∧ Bx W B' #[.string x.key.car, .int .i64 x.key.num, .int .i64 x.day] 27 ∧ a' = { tmps := #[.slice none 0 0, .func (.func 112) #[] #[.pointer (some ⟨Bm, 0, none⟩)], .pointer (some ⟨w.heap.size, 0, none⟩), undef, .slice none 0 0, .pointer (some ⟨B', 0, none⟩), .func (.func 112) #[] #[.pointer (some ⟨Bm, 0, none⟩)], .agg #[.string x.key.car, .int .i64 x.key.num, .int .i64 x.day], undef, undef, undef, undef, undef], defers := [] })
    (fun x a' => Go.Own.from (bx_own w.heap.size x _ a') _)
    ?assign ?body ?done ?stop
  case assign =>
    rintro l pre x W K ⟨⟨v, hv, hrow, _⟩, hB⟩ hK
    have hvl := hv.lt
    gi_wp2
    exact hK _ _ ((KeepsOthers.alloc _ _).from _) (KeepsWalks.alloc _ _) ⟨⟨v, hv.alloc _, hrow.alloc _, trivial⟩, hB.alloc hB.size _⟩ ⟨W.heap.size, hvl, Bx.new _ _ _, rfl⟩
  case body =>
    rintro l pre x a' W hl ⟨r, hr⟩ ⟨⟨v, hv, hrow, _⟩, hB⟩ ⟨B', hne, bx, rfl⟩ hlen
    have hc := hv.cell
    have c1 := bx.cells
    have hz := hB.size
    have hbl := bx.lt
    have hcc : ∀ j u, (tLeg.enc x)[j]? = some u → (W.alloc (.cells #[.string x.key.car, .int .i64 x.key.num, .int .i64 x.day] 27)).cell? ((⟨W.heap.size, 0, none⟩ : Addr).add j) = some u := by
      intro j u hu
      have hadd : (⟨W.heap.size, 0, none⟩ : Addr).add j = ⟨W.heap.size, j, none⟩ := by unfold Addr.add; split <;> simp_all
      rw [hadd, cell_of_row _ _ j _ _ (0, 0) (heap_alloc_new W _), ← hu]
      simp [tLeg]
    gi_wp2_with (gi_at_builtin; refine wpListIn_append_own _ rfl _ _ 48 rfl w.heap.size 27 i0 (.agg #[.string ⟨#[]⟩, .int .i64 0, .int .i64 0]) 3 32 Tryz.underlying48 hi hz0 hz1 hz2 rfl (by decide) _ _ _ rfl (hrow.alloc _) ⟨W.heap.size, 0, none⟩ 1 1 (tLeg.enc x) rfl rfl hcc (tLeg.one x) (by unfold maxLen; omega) (by omega) (by simp; omega) ?_; intro v' w1 hown' hgrow _; obtain ⟨g', cap', rfl⟩ := ownsRow_succ hown'; obtain ⟨hv1, hv2, hr2, hk2, hb2⟩ := hv.appended (by decide) hrow hz (Nat.le_refl _) hown' hgrow; have hc1 := hv1.cell; have hf1 := hv1.frozen)
    exact ⟨hk2.from _, ⟨hk2.size, fun k o hk ho => hk2.same k o hk (Obj.not_cells_of_walk ho)⟩, ⟨⟨_, hv2, by simpa using hr2, trivial⟩, hB.trans hb2⟩⟩
  case done =>
    rintro D xs W hD hS ⟨⟨v, hv, hrow, _⟩, hB⟩ hK
    have hc := hv.cell
    gi_wp2
    refine ⟨by simp, .inl ⟨_, _, rfl, run_takeDeferred hK, ?_⟩⟩
    exact ⟨_, results_tmp rfl _ _ _, v, xs, rfl, hS, ownsRow_putObj hrow _ hK rfl, hB.trans (belowK_b (w := w) (Nat.le_refl _) W D _ _ (by simp at hD; omega) hK rfl rfl)⟩
  case stop =>
    rintro D c pre W _ _ h _
    exact h.elim
instance : Inhabited Leg := ⟨⟨⟨⟨#[]⟩, 0⟩, 0⟩⟩
/-- A map whose keys are legs. -/
structure LgM (w : World) (b : Nat) (es : Array MapEntry) (clock : Nat) : Prop where
  hb : w.heap[b]? = some (.map es clock)
  lt : ∀ x ∈ es.toList, x.born < clock
  nod : (es.toList.map (·.born)).Nodup
  apart : (es.toList.map (·.key)).Nodup
  keys : ∀ x ∈ es.toList, ∃ y : Leg, y.ok ∧ x.key = .agg #[.string y.key.car, .int .i64 y.key.num, .int .i64 y.day]
  vals : ∀ x ∈ es.toList, ∃ z : Int, x.val = .int .i64 z
  most : es.size ≤ 1000000
theorem LgM.keep {w w' : World} {b : Nat} {es : Array MapEntry} {clock : Nat} (h : LgM w b es clock) (hb : Below w.heap.size w w') : LgM w' b es clock :=
  ⟨(hb.block b (Array.getElem?_eq_some_iff.1 h.hb).1).trans h.hb, h.lt, h.nod, h.apart, h.keys, h.vals, h.most⟩
theorem keys_any (b : Nat) (w : World) :
    Calls Tryz.prog 82 #[.map (some b)] w fun e w' => e = .returned (.func (.func 112) #[] #[.pointer (some ⟨w.heap.size, 0, none⟩)]) ∧ w'.cell? ⟨w.heap.size, 0, none⟩ = some (.map (some b)) ∧ w.heap.size < w'.heap.size ∧ Below w.heap.size w w' := by
  go_enter Tryz.func82, Tryz.ntmps82
  go_wp2
  go_ret
  exact ⟨rfl, (Bx.new w #[.map (some b)] 118).cells 0, by simp, (Below.refl _ _).alloc (Nat.le_refl _) _⟩
/-- What slices.Collect hands back of a map's keys. -/
def RetCo (w : World) (es : Array MapEntry) (e : Ending) (w' : World) : Prop :=
  ∃ A n c xs, e = .returned (.slice A n c) ∧ (xs.map legV).Perm (es.toList.map (·.key)) ∧ Own w' w.heap.size 27 tLeg (.slice A n c) xs ∧ Below w.heap.size w w'
set_option maxRecDepth 100000 in
theorem collect_any (Bm b : Nat) (es : Array MapEntry) (clock : Nat) (w : World) (hBm : Bm < w.heap.size) (hm : w.cell? ⟨Bm, 0, none⟩ = some (.map (some b))) (h : LgM w b es clock) :
    Calls Tryz.prog 110 #[.func (.func 112) #[] #[.pointer (some ⟨Bm, 0, none⟩)]] w (RetCo w es) := by
  have HC := Lib.hid (callsIn_wide.1 (appendSeq_any Fence.wide 9 trivial trivial rfl (by omega) Bm b es clock w hBm hm h.hb h.lt h.nod (fun x hx => by obtain ⟨y, _, e⟩ := h.keys x hx; exact ⟨y, e⟩) h.vals h.most))
  have HK := Lib.hid h.keys
  clear h hm
  go_enter Tryz.func110, Tryz.ntmps110
  go_wp2_with fail
  refine HC.out.mono ?_
  rintro e w1 ⟨v, xs, rfl, hp, hrow, hb⟩
  have ho : Own w1 w.heap.size 27 tLeg v xs := ⟨fun x hx => by
    obtain ⟨e, he, e1⟩ := List.mem_map.1 (hp.mem_iff.1 (List.mem_map_of_mem (f := legV) hx))
    obtain ⟨y, hy, e2⟩ := HK.out e he
    have e3 : legV y = legV x := e2.symm.trans e1
    rw [← legV_inj e3]
    exact hy, hrow⟩
  obtain ⟨A, c, rfl⟩ := ho.form
  go_wp2
  go_ret
  exact ⟨A, _, c, xs, rfl, hp, ho, hb⟩
/-- Legs in order, each once. -/
def RetG (w : World) (S : Leg → Prop) (e : Ending) (w' : World) : Prop :=
  ∃ A n c out, e = .returned (.slice A n c) ∧ Own w' w.heap.size 27 tLeg (.slice A n c) out ∧ RisL ltG out ∧ (∀ g, g ∈ out ↔ S g) ∧ Below w.heap.size w w'
theorem ris_keys {es : Array MapEntry} {xs out : List Leg} (hp : (xs.map legV).Perm (es.toList.map (·.key))) (hn : (es.toList.map (·.key)).Nodup) (hq : out.Perm xs) (hr : out.Pairwise fun x y => ltG y x = false) :
    RisL ltG out ∧ ∀ g, g ∈ out ↔ ∃ x ∈ es.toList, x.key = legV g := by
  have h1 : (xs.map legV).Nodup := hp.nodup_iff.2 hn
  have h2 : xs.Nodup := (List.pairwise_map.1 h1).imp fun h e => h (by rw [e])
  have h3 : out.Nodup := hq.nodup_iff.2 h2
  refine ⟨RisL.of_sorted hr (h3.imp fun h => ltG_or h), fun g => ?_⟩
  rw [hq.mem_iff]
  constructor
  · intro hg
    obtain ⟨e, he, e1⟩ := List.mem_map.1 (hp.mem_iff.1 (List.mem_map_of_mem (f := legV) hg))
    exact ⟨e, he, e1⟩
  · rintro ⟨e, he, e1⟩
    obtain ⟨x, hx, e2⟩ := List.mem_map.1 (hp.mem_iff.2 (List.mem_map_of_mem (f := (·.key)) he))
    rw [← legV_inj (e2.trans e1)]
    exact hx
set_option maxRecDepth 100000 in
theorem sortedF_any (Bm b : Nat) (es : Array MapEntry) (clock : Nat) (w : World) (hBm : Bm < w.heap.size) (hm : w.cell? ⟨Bm, 0, none⟩ = some (.map (some b))) (h : LgM w b es clock) :
    Calls Tryz.prog 81 #[.func (.func 112) #[] #[.pointer (some ⟨Bm, 0, none⟩)], .func (.func 94) #[] #[]] w (RetG w fun g => ∃ x ∈ es.toList, x.key = legV g) := by
  have HC := Lib.hid (collect_any Bm b es clock w hBm hm h)
  have HA := Lib.hid h.apart
  have HM := Lib.hid h.most
  clear h hm
  go_enter Tryz.func81, Tryz.ntmps81
  go_wp2_with fail
  refine HC.out.mono ?_
  rintro e w1 ⟨A, n, c, xs, rfl, hp, ho, hb⟩
  have hn : n ≤ 1000000 := by
    have h1 := hp.length_eq
    have h2 := ho.sl.len
    have h3 : es.size ≤ 1000000 := HM.out
    have h4 : es.toList.length = es.size := Array.length_toList
    rw [List.length_map, List.length_map] at h1
    omega
  have HP := Lib.hid hp
  have HO := Lib.hid ho
  clear hp ho
  go_wp2_with fail
  refine (sort_own sortLg tLeg Tryz.isAgg27 Tryz.sizeOf27 (lt := ltG) (cf := cmpG) cmpG_lt lts_g 94 (enters_of Tryz.func94 (by kernel_rfl) rfl) (fun x y w => rclos_any x y w) HO.out hn).mono ?_
  rintro e w2 ⟨rfl, out, hS⟩
  obtain ⟨r1, r2⟩ := ris_keys HP.out HA.out hS.perm hS.ris
  have hb2 := hb.grown hS.gr hb.size (fun k hk => (HO.out.lt k hk).1)
  have HS := Lib.hid hS.own
  clear hS
  go_wp2
  go_ret
  exact ⟨_, _, _, out, rfl, HS.out, r1, r2, hb2⟩
set_option maxRecDepth 100000 in
theorem rising_any (b : Nat) (es : Array MapEntry) (clock : Nat) (w : World) (h : LgM w b es clock) :
    Calls Tryz.prog 59 #[.map (some b)] w (RetG w fun g => ∃ x ∈ es.toList, x.key = legV g) := by
  have H := Lib.hid h
  clear h
  go_enter Tryz.func59, Tryz.ntmps59
  go_wp2_with fail
  refine (keys_any b w).mono ?_
  rintro e w1 ⟨rfl, hc, hz, hb⟩
  have HQ := Lib.hid (sortedF_any w.heap.size b es clock w1 hz hc (H.out.keep hb))
  clear hc hz
  go_wp2_with fail
  refine HQ.out.mono ?_
  rintro e w2 ⟨A, n, c, out, rfl, ho, r1, r2, hb2⟩
  have HO := Lib.hid ho
  clear ho
  go_wp2
  go_ret
  exact ⟨A, n, c, out, rfl, HO.out.more hb.size, r1, r2, hb.trans (hb2.mono hb.size)⟩
end Go.Proofs.YtlkdefmceghmnaaGreat
