/- Package strings: the lines of a text, one by one. -/
import Derived.Test.YtggomjfllbljeaaGreatDoorRf1
import Derived.Test.YtggomjfllbljeaaGreatDoorScI
import Derived.Shelf.Abstract
import Derived.Shelf.RegionOpen
import Derived.WalkKit
import Derived.OwnWalkIn
import Derived.TacticsInMore
import Derived.LoopNIn
import Derived.LoopIn
namespace Go.Proofs.YtggomjfllbljeaaGreatDoor
set_option linter.unusedVariables false
open Go Go.RowKit Go.Shelf
attribute [local go_sem] Oper.semAt_some
abbrev nlB : ByteArray := ⟨#[10]⟩
set_option maxRecDepth 100000 in
theorem idx2_any (s : ByteArray) (c : Int) (w : World) : Calls Tryz.prog 51 #[.string s, .int .u8 c] w fun e w' => e = .returned (.int .i64 (atI s c)) ∧ w = w' := by
  go_enter Tryz.func51, Tryz.ntmps51
  go_wp2
  rw [run_callFunc_extern Tryz.func87 (by kernel_rfl) (by kernel_rfl) (by kernel_rfl) (e := Extern.BytealgIndexByte.indexByte) (by kernel_rfl), run_indexByte_string s c w]
  simp only [Result.andThen]
  rw [Oper.upon_value]
  go_wp2
  go_ret
  exact ⟨rfl, rfl⟩
set_option maxRecDepth 100000 in
set_option maxHeartbeats 4000000 in
theorem indexs_any (s : ByteArray) (w : World) : Calls Tryz.prog 65 #[.string s, .string nlB] w fun e w' => e = .returned (.int .i64 (atI s 10)) ∧ w = w' := by
  have h2 : Calls Tryz.prog 113 #[.string s, .string nlB] w fun e w' => e = .returned (.int .i64 (atI s 10)) ∧ w = w' := by
    rcases hbb : (([10] : List UInt8) == s.toList) with _ | _
    · go_enter Tryz.func113, Tryz.ntmps113
      go_wp2_with fail
      refine (idx2_any s 10 _).mono ?_
      rintro e w' ⟨rfl, rfl⟩
      go_wp2
      go_ret
      exact ⟨rfl, rfl⟩
    · have hs : s = nlB := by
        have h1 : ([10] : List UInt8) = s.toList := by simpa using hbb
        rw [ByteArray.toList_eq] at h1
        apply ByteArray.ext
        apply Array.toList_inj.1
        exact h1.symm
      have h0 : (0 : Int) = atI s 10 := by rw [hs]; decide
      go_enter Tryz.func113, Tryz.ntmps113
      go_wp2
      go_ret
      exact ⟨ret_int h0, rfl⟩
  go_enter Tryz.func65, Tryz.ntmps65
  go_wp2_with fail
  refine h2.mono ?_
  rintro e w' ⟨rfl, rfl⟩
  go_wp2
  go_ret
  exact ⟨rfl, rfl⟩
/-- The lines of a text. -/
inductive Spl : ByteArray → List ByteArray → Prop
  | last {s : ByteArray} : atI s 10 < 0 → Spl s [s]
  | cut {s : ByteArray} {l : List ByteArray} (i : Nat) : atI s 10 = i → Spl (s.extract (i + 1) s.size) l → Spl s (s.extract 0 i :: l)
def strAt (w : World) (b : Nat) : Nat := match w.cell? ⟨b, 0, none⟩ with | some (.string r) => r.size | _ => 0
theorem strAt_bx {w : World} {b : Nat} {r : ByteArray} {t : TypeId} (h : Bx w b #[.string r] t) : strAt w b = r.size := by
  have := h.cells 0
  unfold strAt
  rw [this]
  rfl
set_option maxRecDepth 100000 in
set_option maxHeartbeats 4000000 in
theorem split_iter {W : World} {p b q n : Nat} {s : ByteArray} {xs : List ByteArray} {t1 t2 t3 : TypeId} (hp : Bx W p #[.string nlB] t1) (hb : Bx W b #[.string s] t2) (hq : Bx W q #[.int .i64 0] t3) (hpb : p ≠ b) (hqb : q ≠ b) (hx : Spl s xs) (hs : s.size ≤ 1000000) :
    IterB Fence.wide n Tryz.prog 63 #[.pointer (some ⟨p, 0, none⟩), .pointer (some ⟨b, 0, none⟩), .pointer (some ⟨q, 0, none⟩)] (fun x : ByteArray => #[.string x]) b [p, b, q] xs W := by
  intro l J W1 hW hJ hY h0
  have hp1 : Bx W1 p #[.string nlB] t1 := (hW p (by simp)).trans hp
  have hb1 : Bx W1 b #[.string s] t2 := (hW b (by simp)).trans hb
  have hq1 : Bx W1 q #[.int .i64 0] t3 := (hW q (by simp)).trans hq
  have HY := Lib.hid hY
  have HJ := Lib.hid hJ
  clear hY hJ hW
  have c1 := hp1.cells
  refine callsIn_of_wp Tryz.func63 rfl trivial ?_ rfl
  simp only [Tryz.ntmps63, List.size_toArray, List.length_cons, List.length_nil, Nat.reduceAdd, Nat.reduceSub, Array.replicate_succ, Array.replicate_zero, List.push_toArray, List.append_toArray, List.nil_append, List.cons_append]
  gi_wp2
  gi_loopw [7] (fun _ wr => ∃ (k : Nat) (r : ByteArray) (rest : List ByteArray), Bx wr b #[.string r] t2 ∧ Bx wr p #[.string nlB] t1 ∧ Bx wr q #[.int .i64 0] t3 ∧ Spl r rest ∧ Hid (xs.drop k = rest) ∧ J k wr ∧ r.size ≤ 1000000) (fun _ wr => strAt wr b)
  case atStart => exact ⟨0, s, xs, hb1, hp1, hq1, hx, rfl, h0, hs⟩
  case round =>
    clear c1
    obtain ⟨k, r, rest, hr, hpr, hqr, hsp, hdr, hJk, hrs⟩ := hrel
    have c1 := hpr.cells
    have c2 := hr.cells
    have c3 := hqr.cells
    have hbd := atI_bd r 10
    obtain ⟨v, hv⟩ : ∃ v, v = atI r 10 := ⟨_, rfl⟩
    rw [← hv] at hbd
    have HV := Lib.hid hv
    have HIX := Lib.hid (fun w => indexs_any r w)
    clear hv
    gi_wp2_with fail
    refine ⟨trivial, fun h => (by cases h), (callsIn_wide.2 (HIX.out wr)).mono ?_⟩
    rintro e V ⟨rfl, rfl⟩
    rw [← HV.out]
    have hget : ∀ (x : ByteArray) (l : List ByteArray), rest = x :: l → xs[k]? = some x ∧ xs.drop (k + 1) = l := fun x l h => by
      have h1 := hdr.out
      rw [h] at h1
      refine ⟨?_, ?_⟩
      · have h2 : (xs.drop k)[0]? = some x := by rw [h1]; rfl
        rw [List.getElem?_drop] at h2
        simpa using h2
      · rw [← List.drop_drop, h1]
        rfl
    cases hsp with
    | last hlt =>
      have hv0 : v < 0 := by rw [HV.out]; exact hlt
      obtain ⟨hx1, hx2⟩ := hget r [] rfl
      obtain ⟨fn, tmps, assign, body, hy, hR⟩ := HY.out k r wr hx1 hJk
      have hlen : xs.length = k + 1 := by
        have h1 : k < xs.length := (List.getElem?_eq_some_iff.1 hx1).1
        have h2 := congrArg List.length hx2
        rw [List.length_drop] at h2
        simp at h2
        omega
      clear hget hdr
      gi_wp2
      refine ⟨fun h => (by cases h), hR.mono ?_⟩
      rintro e W' ⟨rfl, hJ', hk⟩
      gi_wp2
      go_end0
      exact ⟨⟨_, rfl⟩, by rw [hlen]; exact hJ'⟩
    | cut i hi hsp' =>
      have hvi : v = i := by rw [HV.out]; exact hi
      subst hvi
      obtain ⟨hx1, hx2⟩ := hget _ _ rfl
      obtain ⟨fn, tmps, assign, body, hy, hR⟩ := HY.out k _ wr hx1 hJk
      have hi0 : (0 : Int) ≤ i := by omega
      have hir : (i : Int) ≤ r.size := by omega
      have hir1 : (i : Int) + 1 ≤ r.size := by omega
      clear hget hdr
      gi_wp2
      refine ⟨fun h => (by cases h), hR.mono ?_⟩
      rintro e W' ⟨rfl, hJ', hk⟩
      have hb2 : Bx W' b #[.string r] t2 := (hk b (by simp)).trans hr
      have hp2 : Bx W' p #[.string nlB] t1 := (hk p (by simp)).trans hpr
      have hq2 : Bx W' q #[.int .i64 0] t3 := (hk q (by simp)).trans hqr
      have d1 := hp2.cells
      have d2 := hb2.cells
      have f2 := hb2.free
      have d3 := hq2.cells
      clear c1 c2 c3
      have hsz : (r.extract (i + 1) r.size).size = r.size - (i + 1) := by rw [ByteArray.size_extract]; omega
      have hB : Bx (W'.setCell ⟨b, 0, none⟩ (.string (r.extract (i + 1) r.size))) b #[.string (r.extract (i + 1) r.size)] t2 := hb2.put 0 _
      gi_wp2
      exact ⟨⟨k + 1, _, _, hB, hp2.other hpb _, hq2.other hqb _, hsp', hx2, HJ.out _ _ _ hJ' ((Kp.refl (fun k => k = b) W').set (p := ⟨b, 0, none⟩) rfl _), by rw [hsz]; omega⟩, by rw [strAt_bx hB, strAt_bx hr, hsz]; omega⟩
/-- strings.SplitSeq: an iterator over the lines, in new memory. -/
theorem splitseq_any (W : World) (s : ByteArray) : Calls Tryz.prog 20 #[.string s, .string nlB] W fun e W' =>
    e = .returned (.func (.func 63) #[] #[.pointer (some ⟨W.heap.size + 1, 0, none⟩), .pointer (some ⟨W.heap.size, 0, none⟩), .pointer (some ⟨W.heap.size + 2, 0, none⟩)]) ∧
      Bx W' W.heap.size #[.string s] 9 ∧ Bx W' (W.heap.size + 1) #[.string nlB] 9 ∧ Bx W' (W.heap.size + 2) #[.int .i64 0] 3 ∧ Below W.heap.size W W' := by
  have q0 := ((Bx.new W #[.string s] 9).alloc (.cells #[.string nlB] 9)).alloc (.cells #[.int .i64 0] 3)
  have q1 := (Bx.new (W.alloc (.cells #[.string s] 9)) #[.string nlB] 9).alloc (.cells #[.int .i64 0] 3)
  have q2 := Bx.new ((W.alloc (.cells #[.string s] 9)).alloc (.cells #[.string nlB] 9)) #[.int .i64 0] 3
  have hb := ((((Below.refl W.heap.size W).alloc (Nat.le_refl _) (.cells #[.string s] 9)).alloc (by simp) (.cells #[.string nlB] 9)).alloc (by simp; omega) (.cells #[.int .i64 0] 3))
  rw [World.size_alloc] at q1
  rw [World.size_alloc, World.size_alloc] at q2
  have HR := Lib.hid (And.intro q0 (And.intro q1 (And.intro q2 hb)))
  clear q0 q1 q2 hb
  go_enter Tryz.func20, Tryz.ntmps20
  go_wp2_with fail
  refine (show Calls Tryz.prog 39 #[.string s, .string nlB, .int .i64 0] W fun e W' => e = .returned (.func (.func 63) #[] #[.pointer (some ⟨W.heap.size + 1, 0, none⟩), .pointer (some ⟨W.heap.size, 0, none⟩), .pointer (some ⟨W.heap.size + 2, 0, none⟩)]) ∧
      Bx W' W.heap.size #[.string s] 9 ∧ Bx W' (W.heap.size + 1) #[.string nlB] 9 ∧ Bx W' (W.heap.size + 2) #[.int .i64 0] 3 ∧ Below W.heap.size W W' from ?_).mono ?_
  · go_enter Tryz.func39, Tryz.ntmps39
    go_wp2
    go_ret
    exact ⟨rfl, HR.out⟩
  · rintro e V ⟨rfl, h⟩
    go_wp2
    go_ret
    exact ⟨rfl, h⟩
end Go.Proofs.YtggomjfllbljeaaGreatDoor
