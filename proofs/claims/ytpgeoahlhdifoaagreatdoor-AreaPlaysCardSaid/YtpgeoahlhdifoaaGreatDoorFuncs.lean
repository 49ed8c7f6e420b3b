/- slices.IndexFunc and DeleteFunc at places. -/
import Derived.Test.YtpgeoahlhdifoaaGreatDoorMOwnp
import Derived.Test.YtpgeoahlhdifoaaGreatDoorMCode
import Derived.Shelf.GgClosure.Gives
namespace Go.Proofs.YtpgeoahlhdifoaaGreatDoor
set_option linter.unusedVariables false
open Go Go.RowKit
/-- What is asked of a predicate that is handed to the library: in each later world, in which one row may have turned, it tells P, and leaves what was there. -/
def PredG (g : Nat) (lb : Array Value) (P : Plc → Bool) (w : World) (row : Option Nat) : Prop :=
  ∀ (W : World) (x : Plc), w.grownBy W row → Plc.ok x → Calls Tryz.prog g (#[.agg #[.int .i64 x.seg, .int .i64 x.pax, .int .i64 x.row, .int .u8 x.let_]] ++ lb) W (RetB W (P x))
theorem below_grown {w W : World} (h : Below w.heap.size w W) (row : Option Nat) : w.grownBy W row := ⟨h.os, h.tape, h.output, h.size, fun k hk _ => h.block k hk⟩
theorem grown_trans {a b c : World} {row : Option Nat} (h : a.grownBy b row) (k : b.grownBy c row) : a.grownBy c row :=
  ⟨k.os.trans h.os, k.tape.trans h.tape, k.output.trans h.output, Nat.le_trans h.size k.size, fun i hi hr => (k.block i (Nat.lt_of_lt_of_le hi h.size) hr).trans (h.block i hi hr)⟩
theorem PredG.later {g : Nat} {lb : Array Value} {P : Plc → Bool} {w W : World} {row : Option Nat} (h : PredG g lb P w row) (hg : w.grownBy W row) : PredG g lb P W row :=
  fun V x hv hx => h V x (grown_trans hg hv) hx
def idxF (P : Plc → Bool) (l : List Plc) : Int := match l.findIdx? P with | some i => i | none => -1
theorem any_no {P : Plc → Bool} {l : List Plc} {k : Nat} {x : Plc} (h : l[k]? = some x) (h0 : (l.take k).any P = false) (h1 : P x = false) : (l.take (k + 1)).any P = false := by
  rw [take_succ_of h, List.any_append, h0]; simp [h1]
theorem idxF_hit {P : Plc → Bool} {l : List Plc} {k : Nat} {x : Plc} (h : l[k]? = some x) (h0 : (l.take k).any P = false) (h1 : P x = true) : idxF P l = k := by
  have hk := lt_of_get h
  have : l.findIdx? P = some k := by
    rw [List.findIdx?_eq_some_iff_getElem]
    refine ⟨hk, by rw [(List.getElem?_eq_some_iff.1 h).2]; exact h1, fun j hj => ?_⟩
    have hm : l[j]'(by omega) ∈ l.take k := List.mem_take_iff_getElem.2 ⟨j, by omega, rfl⟩
    have := List.any_eq_false.1 h0 _ hm
    simpa using this
  unfold idxF
  rw [this]
theorem idxF_miss {P : Plc → Bool} {l : List Plc} (h0 : l.any P = false) : idxF P l = -1 := by
  have : l.findIdx? P = none := by
    rw [List.findIdx?_eq_none_iff]
    intro x hx
    have := List.any_eq_false.1 h0 x hx
    simpa using this
  unfold idxF
  rw [this]
set_option maxRecDepth 100000 in
set_option maxHeartbeats 1000000 in
theorem index_any (P : Plc → Bool) (g : Nat) (lb : Array Value) (l : List Plc) (A : Option Addr) (n c : Nat) (w : World) (lo hi : Nat) (hs : Sl w lo hi tPlc A n l) (hn : n ≤ 100000) (hhi : hi ≤ w.heap.size) (row : Option Nat) (hf : PredG g lb P w row) (eg : ∀ args w, (callFunc g args).run Tryz.prog w = .ok (.enter g args) w) :
    Calls Tryz.prog 85 #[.slice A n c, .func (.func g) #[] lb] w (fun e w' => e = .returned (.int .i64 (idxF P l)) ∧ Below w.heap.size w w') := by
  have HL := Lib.hid hs.len
  go_enter Tryz.func85, Tryz.ntmps85
  go_wp2
  go_loopw [8] (fun i wr => ∃ k : Nat, k ≤ n ∧ i = .int .i64 k ∧ Hid ((l.take k).any P = false) ∧ Below w.heap.size w wr) (fun i _ => n - (intOf i).toNat)
  case atStart => exact ⟨0, Nat.zero_le _, rfl, rfl, Below.refl _ _⟩
  case round =>
    obtain ⟨k, hk, rfl, hno, hbel⟩ := hrel
    by_cases hlt : k < n
    · obtain ⟨b, o, x, rfl, h1, h2, hx, hok, c0, c1, c2, c3⟩ := (hs.below hbel hhi).plc_ hlt
      obtain ⟨xs, xp, xr, xl⟩ := x
      dsimp only at c0 c1 c2 c3
      have hk0 : (0 : Int) ≤ k := by omega
      have hkl : (k : Int) < n := by omega
      have hcall := hf wr ⟨xs, xp, xr, xl⟩ (below_grown hbel row) hok
      clear hf
      rcases Bool.eq_false_or_eq_true (P ⟨xs, xp, xr, xl⟩) with hq | hq
      · have hidx := Lib.hid (idxF_hit hx.out hno.out hq)
        rw [hq] at hcall
        go_wp2_with (go_at_fn g; refine hcall.mono ?_; rintro e w' ⟨rfl, hb'⟩)
        go_ret
        exact ⟨ret_int hidx.out.symm, hbel.trans (hb'.mono hbel.size)⟩
      · have hnx := Lib.hid (any_no hx.out hno.out hq)
        rw [hq] at hcall
        go_wp2_with (go_at_fn g; refine hcall.mono ?_; rintro e w' ⟨rfl, hb'⟩)
        go_roundw
        case rel => exact ⟨k + 1, by omega, by go_num, hnx, hbel.trans (hb'.mono hbel.size)⟩
        case measure => simp [intOf]; omega
    · obtain rfl : n = k := by omega
      have hidx := Lib.hid (idxF_miss (P := P) (l := l) (by have := hno.out; rwa [List.take_of_length_le (Nat.le_of_eq HL.out)] at this))
      go_wp2
      go_ret
      exact ⟨ret_int hidx.out.symm, hbel⟩
/-! The list that DeleteFunc makes in place. -/
theorem idxF_get {P : Plc → Bool} {l : List Plc} {k : Nat} (h : idxF P l = k) : k < l.length ∧ (∃ x, l[k]? = some x ∧ P x = true) ∧ (l.take k).filter (fun x => !P x) = l.take k := by
  unfold idxF at h
  cases hf : l.findIdx? P with
  | none => rw [hf] at h; simp at h
  | some i =>
    rw [hf] at h
    have hik : i = k := by have h' : (i : Int) = k := h; omega
    subst hik
    obtain ⟨h1, h2, h3⟩ := List.findIdx?_eq_some_iff_getElem.1 hf
    refine ⟨h1, ⟨l[i], List.getElem?_eq_getElem h1, h2⟩, ?_⟩
    rw [List.filter_eq_self]
    intro x hx
    obtain ⟨j, hj, rfl⟩ := List.mem_take_iff_getElem.1 hx
    have := h3 j (by omega)
    simpa using this
theorem idxF_none {P : Plc → Bool} {l : List Plc} (h : idxF P l = -1) : l.filter (fun x => !P x) = l := by
  unfold idxF at h
  cases hf : l.findIdx? P with
  | some i => rw [hf] at h; have h' : (i : Int) = -1 := h; omega
  | none =>
    rw [List.filter_eq_self]
    intro x hx
    have := List.findIdx?_eq_none_iff.1 hf x hx
    simp [this]
theorem idxF_cases (P : Plc → Bool) (l : List Plc) : idxF P l = -1 ∨ ∃ k : Nat, idxF P l = k := by
  unfold idxF
  cases l.findIdx? P with
  | none => exact .inl rfl
  | some k => exact .inr ⟨k, rfl⟩
theorem set_take {m : List Plc} {i : Nat} {x : Plc} (hi : i < m.length) : (m.set i x).take (i + 1) = m.take i ++ [x] := by
  rw [List.set_eq_take_append_cons_drop, if_pos hi, List.take_append, List.length_take, Nat.min_eq_left (by omega), List.take_take]
  simp
theorem set_drop {m : List Plc} {i j : Nat} {x : Plc} (hi : i < j) : (m.set i x).drop j = m.drop j := by
  rw [List.drop_set, if_pos hi]
/-- Behind round j: the i that were kept stand ahead; from j on all is as it was. -/
structure Del (q : Plc → Bool) (l m : List Plc) (i j : Nat) : Prop where
  ij : i < j
  kept : m.take i = (l.take j).filter q
  rest : m.drop j = l.drop j
theorem Del.get {q : Plc → Bool} {l m : List Plc} {i j : Nat} (h : Del q l m i j) : m[j]? = l[j]? := by
  have := congrArg (fun t => t[0]?) h.rest
  simpa using this
theorem Del.yes {q : Plc → Bool} {l m : List Plc} {i j : Nat} (h : Del q l m i j) {x : Plc} (hx : l[j]? = some x) (hq : q x = true) (hi : i < m.length) : Del q l (m.set i x) (i + 1) (j + 1) := by
  have := h.ij
  refine ⟨by omega, ?_, ?_⟩
  · rw [set_take hi, h.kept, take_succ_of hx, List.filter_append]
    simp [hq]
  · rw [set_drop (by omega), ← List.drop_drop, ← List.drop_drop, h.rest]
theorem Del.no {q : Plc → Bool} {l m : List Plc} {i j : Nat} (h : Del q l m i j) {x : Plc} (hx : l[j]? = some x) (hq : q x = false) : Del q l m i (j + 1) := by
  have := h.ij
  refine ⟨by omega, ?_, ?_⟩
  · rw [h.kept, take_succ_of hx, List.filter_append]
    simp [hq]
  · rw [← List.drop_drop, ← List.drop_drop, h.rest]
theorem Del.start {P : Plc → Bool} {l : List Plc} {k : Nat} (h : idxF P l = k) : Del (fun x => !P x) l l k (k + 1) := by
  obtain ⟨h1, ⟨x, hx, hp⟩, h2⟩ := idxF_get h
  refine ⟨by omega, ?_, rfl⟩
  rw [take_succ_of hx, List.filter_append, h2]
  simp [hp]
theorem Del.fin {q : Plc → Bool} {l m : List Plc} {i j : Nat} (h : Del q l m i j) (hj : l.length ≤ j) (hi : i ≤ m.length) : m.take i = l.filter q ∧ i = (l.filter q).length := by
  have e : m.take i = l.filter q := by rw [h.kept, List.take_of_length_le hj]
  refine ⟨e, ?_⟩
  rw [← e, List.length_take, Nat.min_eq_left hi]
/-- The row cut to its first i elements, what stood behind them cleared. -/
theorem Own.cut {w : World} {B : Nat} {E : TypeId} {g n c : Nat} {m : List Plc} (h : Own w B E tPlc (.slice (some ⟨g, 0, none⟩) n c) m) {i : Nat} (hi : i ≤ n) {cur : Array Value} (hg : w.heap[g]? = some (.cells cur E (0, 0))) (zs : List Value) (hz : i * 4 + zs.length ≤ cur.size) :
    Own (w.setRow g (cur.toList.take (i * 4) ++ zs ++ cur.toList.drop (i * 4 + zs.length)).toArray) B E tPlc (.slice (some ⟨g, 0, none⟩) i c) (m.take i) := by
  obtain ⟨g', cur', hgg, hn, hB, hnc, hcm, hg', hcs, htake⟩ := h.open_
  injection hgg with hgg _ _
  subst hgg
  rw [hg] at hg'
  injection hg' with hg'
  injection hg' with hg' _ _
  subst hg'
  have hcs' : cur.size = c * 4 := hcs
  have htake' : cur.toList.take (n * 4) = m.flatMap tPlc.enc := htake
  refine Own.ofRow (setRow_heap w g cur _ E (0, 0) hg) hB (by rw [List.length_take]; omega) (by omega) hcm ?_ (fun x hx => h.wf x (List.mem_of_mem_take hx)) ?_
  · show _ = c * 4
    simp; omega
  · rw [flat_take, ← htake', List.take_take]
    show List.take (i * 4) _ = List.take (min (i * 4) (n * 4)) _
    rw [Nat.min_eq_left (by omega), List.append_assoc, List.take_append_of_le_length (by simp; omega), List.take_take, Nat.min_self]
theorem zero4_mem {n : Nat} : ∀ v ∈ (Builtin.zeroCells (Value.agg #[.int .i64 0, .int .i64 0, .int .i64 0, .int .u8 0]).cells n).toList, v.oneCell' = true := by
  intro v hv
  simp only [Builtin.zeroCells, Value.cells, Array.toList_map, List.mem_map] at hv
  obtain ⟨i, _, rfl⟩ := hv
  have h4 : i % 4 < 4 := Nat.mod_lt _ (by omega)
  show ((#[.int .i64 0, .int .i64 0, .int .i64 0, .int .u8 0] : Array Value)[i % 4]!).oneCell' = true
  generalize i % 4 = j at h4
  rcases j with _ | _ | _ | _ | j
  · rfl
  · rfl
  · rfl
  · rfl
  · omega
theorem grown_set {w W : World} {g : Nat} (h : w.grownBy W (some g)) (i : Nat) (u : Value) : w.grownBy (W.setCell ⟨g, i, none⟩ u) (some g) :=
  grown_trans h ⟨rfl, rfl, rfl, by simp, fun k _ hne => Below.heap_setCell W _ u k (fun e => hne (by rw [e]))⟩
theorem grown_row {w W : World} {g : Nat} (h : w.grownBy W (some g)) (cs : Array Value) : w.grownBy (W.setRow g cs) (some g) :=
  grown_trans h ⟨rfl, rfl, rfl, by simp, fun k _ hne => setRow_other W g k cs (fun e => hne (by rw [e]))⟩
set_option maxRecDepth 100000 in
set_option maxHeartbeats 4000000 in
theorem delete_any (P : Plc → Bool) (g : Nat) (lb : Array Value) (l : List Plc) (A : Option Addr) (n c : Nat) (w : World) (B : Nat) (hown : Own w B 87 tPlc (.slice A n c) l) (hn : n ≤ 100000) (hB : B ≤ w.heap.size) (hf : PredG g lb P w (bk A)) (eg : ∀ args w, (callFunc g args).run Tryz.prog w = .ok (.enter g args) w) :
    Calls Tryz.prog 69 #[.slice A n c, .func (.func g) #[] lb] w (fun e w' => e = .returned (.slice A (l.filter (fun x => !P x)).length c) ∧ Own w' B 87 tPlc (.slice A (l.filter (fun x => !P x)).length c) (l.filter (fun x => !P x)) ∧ w.grownBy w' (bk A)) := by
  have hlen : l.length = n := hown.sl.len
  have hix := index_any P g lb l A n c w B w.heap.size hown.sl hn (Nat.le_refl _) (bk A) hf eg
  rcases idxF_cases P l with hk | ⟨k, hk⟩
  · have hfil := Lib.hid (idxF_none hk)
    have HOwn := Lib.hid hown
    have HLen := Lib.hid hlen
    clear hown hlen hf
    rw [hk] at hix
    have HK := Lib.hid hk
    clear hk
    go_enter Tryz.func69, Tryz.ntmps69
    go_wp2_with fail
    refine hix.mono ?_
    rintro e w1 ⟨rfl, hb1⟩
    go_wp2
    go_ret
    rw [hfil.out, HLen.out]
    exact ⟨rfl, HOwn.out.keep hb1, below_grown hb1 _⟩
  · obtain ⟨hkl, ⟨x0, hx0, _⟩, _⟩ := idxF_get hk
    have hdel := Lib.hid (Del.start hk)
    cases A with
    | none =>
      rcases hown.row.2 with ⟨_, h2⟩ | ⟨_, _, _, h1, _⟩
      · omega
      · cases h1
    | some a =>
    obtain ⟨gr, _, rfl, _, hBg, _, _, hgr0, _, _⟩ := hown.open_
    have hgl := (Array.getElem?_eq_some_iff.1 hgr0).1
    clear hgr0
    have HOwn := Lib.hid hown
    have HF := Lib.hid hf
    have HLen := Lib.hid hlen
    have hk1 : ((k : Int) == -1) = false := by rw [beq_eq_false_iff_ne]; omega
    have hkn : k < n := by omega
    clear hown hf hlen hkl
    rw [hk] at hix
    have HK := Lib.hid hk
    clear hk
    go_enter Tryz.func69, Tryz.ntmps69
    go_wp2_with fail
    refine hix.mono ?_
    rintro e w1 ⟨rfl, hb1⟩
    go_wp2
    go_loopw [5, 6, 7] (fun s5 s6 _ wr => ∃ (i j : Nat) (m : List Plc), s5 = .int .i64 i ∧ s6 = .int .i64 j ∧ j ≤ n ∧ Hid (Del (fun x => !P x) l m i j) ∧ Own wr B 87 tPlc (.slice (some ⟨gr, 0, none⟩) n c) m ∧ w.grownBy wr (some gr)) (fun _ s6 _ _ => n - (intOf s6).toNat)
    case atStart => exact ⟨k, k + 1, l, rfl, by go_num, by omega, hdel, HOwn.out.keep hb1, below_grown hb1 _⟩
    case round =>
      obtain ⟨i, j, m, rfl, rfl, hj, hd, hown, hgw⟩ := hrel
      have hml : Hid (m.length = n) := hown.sl.len
      have hij := hd.out.ij
      have hsz := hgw.size
      by_cases hlt : j < n
      · obtain ⟨b, o, x, hbo, h1, h2, hx, hok, c0, c1, c2, c3⟩ := hown.sl.plc_ hlt
        injection hbo with hbo
        injection hbo with ee1 ee2 _
        subst ee1 ee2
        have hxl := Lib.hid (hd.out.get.symm.trans hx.out)
        clear hx
        simp only [Nat.zero_add] at c0 c1 c2 c3
        have hj0 : (0 : Int) ≤ j := by omega
        have hjl : (j : Int) < n := by omega
        have hgs : gr < wr.heap.size := by omega
        obtain ⟨xs, xp, xr, xl⟩ := x
        dsimp only at c0 c1 c2 c3
        have hgA : w.grownBy (wr.alloc (.cells #[.int .i64 xs, .int .i64 xp, .int .i64 xr, .int .u8 xl] 87)) (some gr) := grown_trans hgw (World.grownBy_alloc wr _ _)
        have hcall := HF.out (wr.alloc (.cells #[.int .i64 xs, .int .i64 xp, .int .i64 xr, .int .u8 xl] 87)) ⟨xs, xp, xr, xl⟩ hgA hok
        dsimp only at hcall
        have hbx := boxed_new wr #[.int .i64 xs, .int .i64 xp, .int .i64 xr, .int .u8 xl] 87
        rcases Bool.eq_false_or_eq_true (P ⟨xs, xp, xr, xl⟩) with hq | hq
        · have hd' := Lib.hid (hd.out.no hxl.out (show (!P ⟨xs, xp, xr, xl⟩) = false by rw [hq]; rfl))
          have hown2 := hown.alloc (.cells #[.int .i64 xs, .int .i64 xp, .int .i64 xr, .int .u8 xl] 87)
          rw [hq] at hcall
          clear hbx
          go_wp2_with (go_at_fn g; refine hcall.mono ?_; rintro e w' ⟨rfl, hb'⟩)
          go_roundw
          case rel => exact ⟨i, j + 1, m, rfl, by go_num, by omega, hd', hown2.keep hb', grown_trans hgA (below_grown hb' _)⟩
          case measure => simp [intOf]; omega
        · have hd' := Lib.hid (hd.out.yes hxl.out (show (!P ⟨xs, xp, xr, xl⟩) = true by rw [hq]; rfl) (by rw [hml.out]; omega))
          have hown2 := hown.alloc (.cells #[.int .i64 xs, .int .i64 xp, .int .i64 xr, .int .u8 xl] 87)
          rw [hq] at hcall
          go_upto_region 9 with (go_at_fn g; refine hcall.mono ?_; rintro e w' ⟨rfl, hb'⟩)
          have hsz' := hb'.size
          rw [World.size_alloc] at hsz'
          refine wp_world (fun W => Own W B 87 tPlc (.slice (some ⟨gr, 0, none⟩) n c) m ∧ w.grownBy W (some gr) ∧ (∀ i, W.cell? ⟨wr.heap.size, i, none⟩ = (#[.int .i64 xs, .int .i64 xp, .int .i64 xr, .int .u8 xl] : Array Value)[i]?) ∧ wr.heap.size < W.heap.size) ⟨hown2.keep hb', grown_trans hgA (below_grown hb' _), boxed_below hbx hb' (by simp), by omega⟩ ?_
          clear hown2 hb' hbx hgA hcall c0 c1 c2 c3 hown hgw hsz'
          rintro W ⟨hown, hgw, hbx, hsW⟩
          obtain ⟨b, o, y, hbo, h1', h2', hy, hoky, c0, c1, c2, c3⟩ := hown.sl.plc_ (show i < n by omega)
          injection hbo with hbo
          injection hbo with ee1 ee2 _
          subst ee1 ee2
          simp only [Nat.zero_add] at c0 c1 c2 c3
          have hfr := hown.unfrozen rfl
          have hi0 : (0 : Int) ≤ i := by omega
          have hil : (i : Int) < n := by omega
          have hset := hown.set4 (show i < n by omega) ⟨xs, xp, xr, xl⟩ hok
          dsimp only at hset
          clear hy
          go_wp2
          go_roundw
          case rel => exact ⟨i + 1, j + 1, m.set i ⟨xs, xp, xr, xl⟩, by go_num, by go_num, by omega, hd', hset, grown_set (grown_set (grown_set (grown_set hgw _ _) _ _) _ _) _ _⟩
          case measure => simp [intOf]; omega
      · obtain rfl : j = n := by omega
        obtain ⟨hf1, hf2⟩ := hd.out.fin (Nat.le_of_eq HLen.out) (by rw [hml.out]; omega)
        obtain ⟨gr', cur, hgg, _, _, hnc, hcm, hgc, hcs, _⟩ := hown.open_
        injection hgg with hgg _ _
        subst hgg
        have hcs' : cur.size = c * 4 := hcs
        have hzl : (Builtin.zeroCells (Value.agg #[.int .i64 0, .int .i64 0, .int .i64 0, .int .u8 0]).cells (j - i)).toList.length = (j - i) * 4 := by simp [Builtin.zeroCells, Value.cells]
        have hclr := fun ty => run_clear_sz wr 27 87 ty _ Tryz.underlying27 (Tryz.zeroValue87 wr) gr (i * 4) (j - i) (c - i) (by omega) cur _ hgc _ rfl (by rw [hzl]; omega) zero4_mem
        have hcut := hown.cut (show i ≤ j by omega) hgc (Builtin.zeroCells (Value.agg #[.int .i64 0, .int .i64 0, .int .i64 0, .int .u8 0]).cells (j - i)).toList (by rw [hzl]; omega)
        rw [hf1] at hcut
        have HF2 := Lib.hid hf2
        have hgw2 := grown_row hgw (cur.toList.take (i * 4) ++ (Builtin.zeroCells (Value.agg #[.int .i64 0, .int .i64 0, .int .i64 0, .int .u8 0]).cells (j - i)).toList ++ cur.toList.drop (i * 4 + (Builtin.zeroCells (Value.agg #[.int .i64 0, .int .i64 0, .int .i64 0, .int .u8 0]).cells (j - i)).toList.length)).toArray
        have hi0 : (0 : Int) ≤ i := by omega
        have hil : (i : Int) ≤ j := by omega
        have hic : ¬ (c = i) := by omega
        have hjc : j ≤ c := hnc
        clear hf1 hf2
        go_wp2
        go_ret
        refine ⟨?_, ?_, ?_⟩
        · show Ending.returned (.slice (some ⟨gr, 0, none⟩) i c) = _
          rw [← HF2.out]
        · rw [← HF2.out]
          simpa only [List.append_assoc, Array.length_toList, Value.cells] using hcut
        · show w.grownBy _ (some gr)
          simpa only [List.append_assoc, Array.length_toList, Value.cells] using hgw2
end Go.Proofs.YtpgeoahlhdifoaaGreatDoor
