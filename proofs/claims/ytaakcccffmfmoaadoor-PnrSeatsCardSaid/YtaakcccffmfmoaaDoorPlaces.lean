/- Seats: sound as the document says: the program's map of taken seats. -/
import Derived.Test.YtaakcccffmfmoaaDoorSegs
import Derived.Test.YtaakcccffmfmoaaDoorSeat
namespace Go.Proofs.YtaakcccffmfmoaaDoor
set_option linter.unusedVariables false
open Go Go.RowKit
open Go.WideMaps (KeyLaw)
def plcB (p : Pnr) (nn : Nat) (x : Plc) : Bool := liveN p.segs x.seg && (decide (1 ≤ x.pax) && (decide (x.pax ≤ nn) && seatB x.row x.let_))
/-- y, ahead of x, forbids x. -/
def forb (y x : Plc) : Bool := decide (x.seg < y.seg) || (decide (y.seg = x.seg) && (decide (x.pax ≤ y.pax) || (decide (y.row = x.row) && decide (y.let_ = x.let_))))
def stI (p : Pnr) (nn : Nat) (i : Nat) : Bool := match p.seats[i]? with | some x => plcB p nn x && !(p.seats.take i).any (fun y => forb y x) | none => false
def seatsB (p : Pnr) (nn : Nat) : Bool := allP (stI p nn) p.seats.length
theorem stI_at {p : Pnr} {nn i : Nat} {x : Plc} (h : p.seats[i]? = some x) : stI p nn i = (plcB p nn x && !(p.seats.take i).any (fun y => forb y x)) := by simp [stI, h]
theorem stI_bad {p : Pnr} {nn i : Nat} {x : Plc} (h : p.seats[i]? = some x) (hb : plcB p nn x = false) : stI p nn i = false := by rw [stI_at h, hb, Bool.false_and]
def samT (y s : Plc) : Bool := decide (y.seg = s.seg) && (decide (y.row = s.row) && decide (y.let_ = s.let_))
def cntS (l : List Plc) (s : Plc) : Nat := (l.filter fun y => samT y s).length
theorem takenV_iff {a b : Plc} : takenV a = takenV b ↔ a.seg = b.seg ∧ a.row = b.row ∧ a.let_ = b.let_ := by simp [takenV]
theorem samT_iff {a b : Plc} : samT a b = true ↔ takenV a = takenV b := by rw [takenV_iff]; simp [samT]
/-- What is known at the k-th seat: the counts, and the last one. -/
structure SeatI (l : List Plc) (k : Nat) (f : Value → Int) (ls lp : Int) : Prop where
  cnt : ∀ s, f (takenV s) = cntS (l.take k) s ∧ 0 ≤ f (takenV s) ∧ f (takenV s) ≤ 1
  ord : ∀ y ∈ l.take k, y.seg < ls ∨ (y.seg = ls ∧ y.pax ≤ lp)
  last : (k = 0 ∧ ls = 0 ∧ lp = 0) ∨ ∃ y ∈ l.take k, y.seg = ls ∧ y.pax = lp
theorem SeatI.zero (l : List Plc) : SeatI l 0 (fun _ => 0) 0 0 := ⟨fun s => by simp [cntS], by simp, .inl ⟨rfl, rfl, rfl⟩⟩
theorem cntS_succ {l : List Plc} {k : Nat} {x : Plc} (h : l[k]? = some x) (s : Plc) : cntS (l.take (k + 1)) s = cntS (l.take k) s + if samT x s then 1 else 0 := by
  rw [take_succ_of h]
  simp only [cntS, List.filter_append, List.length_append, List.filter_cons, List.filter_nil]
  split <;> simp
theorem forb_any {l : List Plc} {k : Nat} {f : Value → Int} {ls lp : Int} (H : SeatI l k f ls lp) (x : Plc) (h1 : 1 ≤ x.seg) :
    (l.take k).any (fun y => forb y x) = (decide (x.seg < ls) || (decide (x.seg = ls) && decide (x.pax ≤ lp)) || decide (f (takenV x) = 1)) := by
  rw [Bool.eq_iff_iff]
  simp only [List.any_eq_true, forb, Bool.or_eq_true, Bool.and_eq_true, decide_eq_true_eq]
  have hc := H.cnt x
  constructor
  · rintro ⟨y, hy, hf⟩
    have ho := H.ord y hy
    rcases hf with hf | ⟨h2, hf | ⟨h3, h4⟩⟩
    · exact .inl (.inl (by omega))
    · refine .inl ?_
      omega
    · refine .inr ?_
      have : 0 < cntS (l.take k) x := by
        refine List.length_pos_iff_exists_mem.2 ⟨y, List.mem_filter.2 ⟨hy, ?_⟩⟩
        simp [samT, h2, h3, h4]
      omega
  · intro hor
    have hlast : (x.seg < ls ∨ (x.seg = ls ∧ x.pax ≤ lp)) → ∃ y ∈ l.take k, x.seg < y.seg ∨ (y.seg = x.seg ∧ (x.pax ≤ y.pax ∨ (y.row = x.row ∧ y.let_ = x.let_))) := by
      intro h
      rcases H.last with ⟨_, h2, h3⟩ | ⟨y, hy, h2, h3⟩
      · omega
      · exact ⟨y, hy, by omega⟩
    rcases hor with h | h
    · exact hlast h
    · have : 0 < cntS (l.take k) x := by omega
      obtain ⟨y, hy⟩ := List.length_pos_iff_exists_mem.1 this
      obtain ⟨h2, h3⟩ := List.mem_filter.1 hy
      simp only [samT, Bool.and_eq_true, decide_eq_true_eq] at h3
      exact ⟨y, h2, .inr ⟨h3.1, .inr h3.2⟩⟩
theorem SeatI.next {l : List Plc} {k : Nat} {f : Value → Int} {ls lp : Int} {x : Plc} (H : SeatI l k f ls lp) (h : l[k]? = some x) (h0 : f (takenV x) = 0) (ho : ls < x.seg ∨ (x.seg = ls ∧ lp < x.pax)) :
    SeatI l (k + 1) (putK f (takenV x) (f (takenV x) + 1)) x.seg x.pax := by
  refine ⟨fun s => ?_, fun y hy => ?_, .inr ⟨x, ?_, rfl, rfl⟩⟩
  · rw [cntS_succ h]
    by_cases e : takenV s = takenV x
    · rw [if_pos (samT_iff.2 e.symm), e, putK_same]
      have := (H.cnt s).1
      rw [e] at this
      omega
    · rw [if_neg (fun h => e (samT_iff.1 h).symm), putK_other _ _ _ e]
      exact H.cnt s
  · rw [take_succ_of h] at hy
    rcases List.mem_append.1 hy with h1 | h1
    · have := H.ord y h1
      omega
    · rw [List.mem_singleton.1 h1]; omega
  · rw [take_succ_of h]; simp
theorem SeatI.back {p : Pnr} {nn k : Nat} {f : Value → Int} {ls lp : Int} {x : Plc} (H : SeatI p.seats k f ls lp) (h : p.seats[k]? = some x) (h1 : 1 ≤ x.seg) (ho : x.seg < ls ∨ (x.seg = ls ∧ x.pax ≤ lp)) : stI p nn k = false := by
  rw [stI_at h, forb_any H x h1]
  rcases ho with h2 | ⟨h2, h3⟩
  · simp [h2]
  · simp [h2, h3]
theorem SeatI.twice {p : Pnr} {nn k : Nat} {f : Value → Int} {ls lp : Int} {x : Plc} (H : SeatI p.seats k f ls lp) (h : p.seats[k]? = some x) (h1 : 1 ≤ x.seg) (ho : f (takenV x) = 1) : stI p nn k = false := by
  rw [stI_at h, forb_any H x h1]
  simp [ho]
theorem SeatI.good {p : Pnr} {nn k : Nat} {f : Value → Int} {ls lp : Int} {x : Plc} (H : SeatI p.seats k f ls lp) (h : p.seats[k]? = some x) (hb : plcB p nn x = true) (h1 : 1 ≤ x.seg) (h0 : f (takenV x) = 0) (ho : ls < x.seg ∨ (x.seg = ls ∧ lp < x.pax)) : stI p nn k = true := by
  rw [stI_at h, forb_any H x h1, hb, h0]
  have a1 : ¬ x.seg < ls := by omega
  have a2 : ¬ (x.seg = ls ∧ x.pax ≤ lp) := by omega
  rw [decide_eq_false a1]
  by_cases e : x.seg = ls
  · rw [decide_eq_false (show ¬ x.pax ≤ lp by omega)]; simp
  · rw [decide_eq_false e]; simp
theorem liveN_at {l : List Seg} {j : Nat} {y : Seg} (h : l[j]? = some y) : liveN l ((j : Int) + 1) = y.live := by
  have : ((j : Int) + 1 - 1).toNat = j := by omega
  simp only [liveN, this, lvI_at h]
  rw [decide_eq_true (by omega), Bool.true_and]
theorem liveN_low {l : List Seg} {n : Int} (h : ¬ 1 ≤ n) : liveN l n = false := by simp [liveN, h]
theorem liveN_high {l : List Seg} {n : Int} (h : (l.length : Int) < n) : liveN l n = false := by
  have : l[(n - 1).toNat]? = none := List.getElem?_eq_none (by omega)
  simp [liveN, lvI]
  intro _
  rw [show n.toNat - 1 = (n - 1).toNat by omega, this]
theorem plcB_live {p : Pnr} {nn : Nat} {x : Plc} (h : liveN p.segs x.seg = false) : plcB p nn x = false := by simp [plcB, h]
theorem plcB_pax {p : Pnr} {nn : Nat} {x : Plc} (h : ¬ (1 ≤ x.pax ∧ x.pax ≤ nn)) : plcB p nn x = false := by
  rcases Bool.eq_false_or_eq_true (plcB p nn x) with e | e
  · simp only [plcB, Bool.and_eq_true, decide_eq_true_eq] at e
    omega
  · exact e
theorem plcB_seat {p : Pnr} {nn : Nat} {x : Plc} (h : seatB x.row x.let_ = false) : plcB p nn x = false := by simp [plcB, h]
theorem plcB_yes {p : Pnr} {nn : Nat} {x : Plc} (h1 : liveN p.segs x.seg = true) (h2 : 1 ≤ x.pax) (h3 : x.pax ≤ nn) (h4 : seatB x.row x.let_ = true) : plcB p nn x = true := by simp [plcB, *]
open Go.MapKept Go.ChangeMaps in
theorem inc2 {P : Program} {k e t : TypeId} {w : World} {b : Nat} {f : Value → Int} {key : Value} {kl : Lit} (h : MapCnt P k w b f) (K : KeyLaw P k) (ht : P.underlying t = some (.map k e)) (hz : ∀ u : World, (zeroValue e).run P u = .ok (.int .i64 0) u) (hkey : keyOf P k key = some kl) :
    ∃ (st : Nat) (W1 W2 : World),
      (Instr.lookup t (.map (some b)) key false).run P w = .ok (.int .i64 (f key)) w ∧
      (Instr.mapEntry t (.map (some b)) key).run P w = .ok (.tuple #[.int .i64 (f key), goInt st]) W1 ∧
      (Instr.lookup t (.map (some b)) key false).run P W1 = .ok (.int .i64 (f key)) W1 ∧
      (Instr.entryStore t (.map (some b)) (goInt st) (.int .i64 (f key + 1))).run P W1 = .ok () W2 ∧
      MapCnt P k W2 b (putK f key (f key + 1)) ∧ (∀ B a, B ≤ b → Below B a w → Below B a W2) ∧ (∀ p : Addr, p.block ≠ b → W1.cell? p = w.cell? p ∧ W2.cell? p = w.cell? p) ∧ (∀ i, i ≠ b → W2.heap[i]? = w.heap[i]?) ∧ w.heap.size ≤ W2.heap.size := by
  obtain ⟨es, c, C⟩ := h
  obtain ⟨st, es1, c1, h1, C1, h2⟩ := C.entry K ht hz hkey
  obtain ⟨es2, h3, C2⟩ := h2 _ (f key + 1) (putK f key (f key + 1)) C1.heap (putK_same _ _ _) (fun v hv => putK_other _ _ _ hv)
  exact ⟨st, _, _, C.look K ht hz hkey, h1, C1.look K ht hz hkey, h3, ⟨_, _, C2⟩, fun B a hB hb => below_setBlock (below_setBlock hb hB _) hB _, fun p hp => ⟨cell_setBlock hp _, (cell_setBlock hp _).trans (cell_setBlock hp _)⟩, fun i hi => (heap_setBlock_other C1.heap _ hi).trans (heap_setBlock_other C.heap _ hi), by simp [setBlock]⟩
set_option maxRecDepth 100000 in
set_option maxHeartbeats 4000000 in
theorem seats_any (p : Pnr) (h : Hd) (w : World) (lo hi : Nat) (hp : PAt w lo hi p h) (hn : h.ne ≤ 100000) (hg : h.ng ≤ 100000) (hm : h.nn ≤ 100000) (hhi : hi ≤ w.heap.size) :
    Calls Tryd.prog 42 #[.agg #[.string p.loc, .string p.off, .slice h.an h.nn h.cn, .slice h.ag h.ng h.cg, .slice h.ap h.np h.cp, .int .i64 p.tik.kind, .int .i64 p.tik.day, .int .i64 p.tik.min, .string p.rc, .slice h.ar h.nr h.cr, .slice h.ae h.ne h.ce, .bool p.queued]] w (RetB w (seatsB p h.nn)) := by
  have hs := hp.seats
  have hgs := hp.segs
  have hlen := hs.len
  have hglen := hgs.len
  clear hp
  obtain ⟨an, nn, cn, ag, ng, cg, ap, np, cp, ar, nr, cr, ae, ne, ce⟩ := h
  dsimp only at *
  rw [show seatsB p nn = allP (stI p nn) ne by simp only [seatsB]; rw [hlen]]
  have hmm := @run_makeMap Tryd.prog
  go_enter Tryd.func42, Tryd.ntmps42
  go_wp2
  go_loopw [13] (fun i wr => ∃ k : Nat, k ≤ ne ∧ i = .int .i64 k ∧ Hid (allP (stI p nn) k = true) ∧ (∃ f ls lp lr ll, MapCnt Tryd.prog 94 wr (w.heap.size + 1) f ∧ Hid (SeatI p.seats k f ls lp) ∧
      wr.heap[w.heap.size + 1 + 1]? = some (.cells #[.int .i64 ls, .int .i64 lp, .int .i64 lr, .int .u8 ll] 67)) ∧ (∀ i, wr.cell? ⟨w.heap.size, i, none⟩ = (#[.string p.loc, .string p.off, .slice an nn cn, .slice ag ng cg, .slice ap np cp, .int .i64 p.tik.kind, .int .i64 p.tik.day, .int .i64 p.tik.min, .string p.rc, .slice ar nr cr, .slice ae ne ce, .bool p.queued] : Array Value)[i]?) ∧ Below w.heap.size w wr) (fun i _ => ne - (intOf i).toNat)
  case atStart =>
    have hz := MapCnt.made (P := Tryd.prog) (k := 94) (w.alloc (.cells #[.string p.loc, .string p.off, .slice an nn cn, .slice ag ng cg, .slice ap np cp, .int .i64 p.tik.kind, .int .i64 p.tik.day, .int .i64 p.tik.min, .string p.rc, .slice ar nr cr, .slice ae ne ce, .bool p.queued] 29))
    simp only [World.size_alloc] at hz
    have hz2 := heap_alloc_new ((w.alloc (.cells #[.string p.loc, .string p.off, .slice an nn cn, .slice ag ng cg, .slice ap np cp, .int .i64 p.tik.kind, .int .i64 p.tik.day, .int .i64 p.tik.min, .string p.rc, .slice ar nr cr, .slice ae ne ce, .bool p.queued] 29)).alloc (.map #[] 0)) (.cells #[.int .i64 0, .int .i64 0, .int .i64 0, .int .u8 0] 67)
    simp only [World.size_alloc] at hz2
    exact ⟨0, Nat.zero_le _, rfl, rfl, ⟨_, 0, 0, 0, 0, hz.alloc _, SeatI.zero _, hz2⟩, by (repeat (first | (with_reducible assumption) | (with_reducible exact boxed_new _ _ _) | (with_reducible refine boxed_drew ?_) | (with_reducible refine boxed_drewN ?_ _) | (with_reducible refine boxed_alloc ?_ (by first | (simp; done) | omega | (simp; omega)) _) | (with_reducible refine boxed_set ?_ _ (by first | (simp; done) | omega | (simp; omega)) _))), by (repeat (first | with_reducible exact Below.refl _ _ | (with_reducible refine Below.drew ?_) | (with_reducible refine below_drewN ?_ _) | (with_reducible refine Below.alloc ?_ (by first | (simp; done) | omega | (simp; omega)) _) | (with_reducible refine Below.setCell ?_ (by first | (simp; done) | omega | (simp; omega)) _) | with_reducible assumption))⟩
  case round =>
    obtain ⟨k, hk, rfl, hall, ⟨f, ls, lp, lr, ll, hmap, hsi, hla⟩, hbox, hbel⟩ := hrel
    have hsz := hbel.size
    have hms := hmap.size
    have hls := (Array.getElem?_eq_some_iff.1 hla).1
    by_cases hlt : k < ne
    · obtain ⟨b, o, x, rfl, h1, h2, hx, hok, c0, c1, c2, c3⟩ := (hs.below hbel hhi).plc_ hlt
      obtain ⟨sg, px, rr, lt⟩ := x
      simp only at c0 c1 c2 c3
      have hok0 := hok
      obtain ⟨k1, k2, k3, k4⟩ := hok
      simp only at k1 k2 k3 k4
      unfold okInt at k1 k2 k3
      unfold okByte at k4
      have hbad := fun (h : plcB p nn ⟨sg, px, rr, lt⟩ = false) => Lib.hid (allP_no ne hlt (stI_bad hx.out h))
      by_cases hs1 : 1 ≤ sg
      case neg =>
        have hB := hbad (plcB_live (liveN_low hs1))
        have hs1' : sg < 1 := by omega
        go_wp2
        go_ret
        exact ⟨ret_bool hB.out.symm, by (repeat (first | with_reducible exact Below.refl _ _ | (with_reducible refine Below.drew ?_) | (with_reducible refine below_drewN ?_ _) | (with_reducible refine Below.alloc ?_ (by first | (simp; done) | omega | (simp; omega)) _) | (with_reducible refine Below.setCell ?_ (by first | (simp; done) | omega | (simp; omega)) _) | with_reducible assumption))⟩
      have hb0 : w.heap.size < wr.heap.size := by omega
      have hbx := boxed_alloc hbox hb0 (.cells #[.int .i64 sg, .int .i64 px, .int .i64 rr, .int .u8 lt] 67)
      by_cases hs2 : sg ≤ ng
      case neg =>
        have hs2' : (ng : Int) < sg := by omega
        have hB := hbad (plcB_live (liveN_high (show (p.segs.length : Int) < sg by omega)))
        go_wp2
        go_ret
        exact ⟨ret_bool hB.out.symm, by (repeat (first | with_reducible exact Below.refl _ _ | (with_reducible refine Below.drew ?_) | (with_reducible refine below_drewN ?_ _) | (with_reducible refine Below.alloc ?_ (by first | (simp; done) | omega | (simp; omega)) _) | (with_reducible refine Below.setCell ?_ (by first | (simp; done) | omega | (simp; omega)) _) | with_reducible assumption))⟩
      obtain ⟨j, rfl⟩ : ∃ j : Nat, sg = (j : Int) + 1 := ⟨(sg - 1).toNat, by omega⟩
      obtain ⟨b2, o2, y, rfl, g1, g2, hy, hyok, d0, d1, d2, d3, d4⟩ := ((hgs.below hbel hhi).alloc (by omega) (.cells #[.int .i64 ((j : Int) + 1), .int .i64 px, .int .i64 rr, .int .u8 lt] 67)).seg_ (show j < ng by omega)
      have hlv := Lib.hid (liveN_at hy.out)
      rcases Bool.eq_false_or_eq_true y.live with hl | hl
      case inr =>
        have hB := hbad (plcB_live (hlv.out.trans hl))
        go_wp2
        go_ret
        exact ⟨ret_bool hB.out.symm, by (repeat (first | with_reducible exact Below.refl _ _ | (with_reducible refine Below.drew ?_) | (with_reducible refine below_drewN ?_ _) | (with_reducible refine Below.alloc ?_ (by first | (simp; done) | omega | (simp; omega)) _) | (with_reducible refine Below.setCell ?_ (by first | (simp; done) | omega | (simp; omega)) _) | with_reducible assumption))⟩
      have hl4 : ∀ i, wr.cell? ⟨w.heap.size + 1 + 1, i, none⟩ = (#[.int .i64 ls, .int .i64 lp, .int .i64 lr, .int .u8 ll] : Array Value)[i]? := fun i => by simp [World.cell?, hla]
      rcases Bool.eq_false_or_eq_true (seatB rr lt) with hB | hB
      case inr =>
        have hBB := hbad (plcB_seat hB)
        go_wp2_with (go_at_call 68; refine (ptext_any _ _ _ k4.1 k4.2).mono ?_; rintro e w1 ⟨t, rfl, ht, hb⟩; rw [hB] at ht)
        all_goals go_ret
        all_goals exact ⟨ret_bool hBB.out.symm, by (repeat (first | with_reducible exact Below.refl _ _ | (with_reducible refine Below.drew ?_) | (with_reducible refine below_drewN ?_ _) | (with_reducible refine Below.alloc ?_ (by first | (simp; done) | omega | (simp; omega)) _) | (with_reducible refine Below.setCell ?_ (by first | (simp; done) | omega | (simp; omega)) _) | (with_reducible refine Below.trans ?_ (Below.mono hb (by first | (simp; done) | omega | (simp; omega)))) | with_reducible assumption))⟩
      go_wp2_with (go_at_call 68; refine (ptext_any _ _ _ k4.1 k4.2).mono ?_; rintro e w1 ⟨t, rfl, ht, hb⟩; rw [hB] at ht; have hx6 := boxed_below (boxed_new wr #[.int .i64 ((j : Int) + 1), .int .i64 px, .int .i64 rr, .int .u8 lt] 67) hb (by simp); have hx4 := boxed_below (boxed_alloc hl4 hls (.cells #[.int .i64 ((j : Int) + 1), .int .i64 px, .int .i64 rr, .int .u8 lt] 67)) hb (by simp; omega))
      all_goals first
        | (exfalso; omega)
        | (go_ret; exact ⟨ret_bool (hbad (plcB_pax (by simp only; omega))).out.symm, by (repeat (first | with_reducible exact Below.refl _ _ | (with_reducible refine Below.drew ?_) | (with_reducible refine below_drewN ?_ _) | (with_reducible refine Below.alloc ?_ (by first | (simp; done) | omega | (simp; omega)) _) | (with_reducible refine Below.setCell ?_ (by first | (simp; done) | omega | (simp; omega)) _) | (with_reducible refine Below.trans ?_ (Below.mono hb (by first | (simp; done) | omega | (simp; omega)))) | with_reducible assumption))⟩)
        | (go_ret; exact ⟨ret_bool (Lib.hid (allP_no ne hlt (hsi.out.back hx.out (by simp only; omega) (by simp only; omega)))).out.symm, by (repeat (first | with_reducible exact Below.refl _ _ | (with_reducible refine Below.drew ?_) | (with_reducible refine below_drewN ?_ _) | (with_reducible refine Below.alloc ?_ (by first | (simp; done) | omega | (simp; omega)) _) | (with_reducible refine Below.setCell ?_ (by first | (simp; done) | omega | (simp; omega)) _) | (with_reducible refine Below.trans ?_ (Below.mono hb (by first | (simp; done) | omega | (simp; omega)))) | with_reducible assumption))⟩)
        | skip
      all_goals
        try (have he : (j : Int) + 1 = ls := by assumption
             subst he)
        have hgood : plcB p nn ⟨(j : Int) + 1, px, rr, lt⟩ = true := plcB_yes (hlv.out.trans hl) (by assumption) (by assumption) hB
        have hz1 := hb.size
        simp only [World.size_alloc] at hz1
        have hbL0 := ((Below.heap_alloc w1 (.cells #[.int .i64 ((j : Int) + 1), .int .i64 rr, .int .u8 lt] 94) (w.heap.size + 1 + 1) (by omega)).trans (hb.block _ (by simp; omega))).trans (Below.heap_alloc wr _ _ hls)
        refine wp_world (fun W => MapCnt Tryd.prog 94 W (w.heap.size + 1) f ∧ Below w.heap.size w W ∧ w1.heap.size < W.heap.size ∧ (∀ i, W.cell? ⟨w1.heap.size, i, none⟩ = (#[.int .i64 ((j : Int) + 1), .int .i64 rr, .int .u8 lt] : Array Value)[i]?) ∧
          (∀ i, W.cell? ⟨wr.heap.size, i, none⟩ = (#[.int .i64 ((j : Int) + 1), .int .i64 px, .int .i64 rr, .int .u8 lt] : Array Value)[i]?) ∧ W.heap[w.heap.size + 1 + 1]? = wr.heap[w.heap.size + 1 + 1]? ∧ (∀ i, W.cell? ⟨w.heap.size, i, none⟩ = wr.cell? ⟨w.heap.size, i, none⟩))
          ⟨((hmap.alloc _).below hb (by simp; omega)).alloc _, by (repeat (first | with_reducible exact Below.refl _ _ | (with_reducible refine Below.drew ?_) | (with_reducible refine below_drewN ?_ _) | (with_reducible refine Below.alloc ?_ (by first | (simp; done) | omega | (simp; omega)) _) | (with_reducible refine Below.setCell ?_ (by first | (simp; done) | omega | (simp; omega)) _) | (with_reducible refine Below.trans ?_ (Below.mono hb (by first | (simp; done) | omega | (simp; omega)))) | with_reducible assumption)), by simp, boxed_new w1 _ _, boxed_alloc hx6 (by omega) _, hbL0, fun i => ((World.cell?_alloc_lt w1 _ _ (by show w.heap.size < w1.heap.size; omega)).trans (hb.cell (by simp; omega))).trans (World.cell?_alloc_lt wr _ _ hb0)⟩ ?_
        rintro W ⟨hm, hbW, hszW, hbT, hbX, hbL, hbP⟩
        obtain ⟨kl, hkl⟩ := takenKey ⟨(j : Int) + 1, px, rr, lt⟩ hok0
        obtain ⟨st, W1, W2, e1, e2, e3, e4, hm2, hb2, hc2, hh2, hs2⟩ := inc2 hm.drew (t := 92) (e := 3) lawTaken Tryd.underlying92 zeroInt hkl
        have hbT1 : ∀ i, W1.cell? ⟨w1.heap.size, i, none⟩ = (#[.int .i64 ((j : Int) + 1), .int .i64 rr, .int .u8 lt] : Array Value)[i]? := fun i => ((hc2 ⟨w1.heap.size, i, none⟩ (by show w1.heap.size ≠ _; omega)).1).trans (hbT i)
        have hbT2 : ∀ i, W2.cell? ⟨w1.heap.size, i, none⟩ = (#[.int .i64 ((j : Int) + 1), .int .i64 rr, .int .u8 lt] : Array Value)[i]? := fun i => ((hc2 ⟨w1.heap.size, i, none⟩ (by show w1.heap.size ≠ _; omega)).2).trans (hbT i)
        have hbX2 : ∀ i, W2.cell? ⟨wr.heap.size, i, none⟩ = (#[.int .i64 ((j : Int) + 1), .int .i64 px, .int .i64 rr, .int .u8 lt] : Array Value)[i]? := fun i => ((hc2 ⟨wr.heap.size, i, none⟩ (by show wr.heap.size ≠ _; omega)).2).trans (hbX i)
        have hbP2 : Hid (∀ i, W2.cell? ⟨w.heap.size, i, none⟩ = wr.cell? ⟨w.heap.size, i, none⟩) := fun i => ((hc2 ⟨w.heap.size, i, none⟩ (by show w.heap.size ≠ _; omega)).2).trans (hbP i)
        have hl2 := ((hh2 (w.heap.size + 1 + 1) (by omega)).trans hbL).trans hla
        have hc4 : ∀ i, W2.cell? ⟨w.heap.size + 1 + 1, i, none⟩ = wr.cell? ⟨w.heap.size + 1 + 1, i, none⟩ := fun i => by simp [World.cell?, hl2, hla]
        have hf4 : ∀ i, W2.frozen? ⟨w.heap.size + 1 + 1, i, none⟩ = false := fun i => by simp [World.frozen?, hl2]
        have hL2 := Lib.hid hl2
        clear hc2 hh2 hl2 hbP hbL hbL0
        have e5 := hm2.look (t := 92) (e := 3) lawTaken Tryd.underlying92 zeroInt hkl
        rw [putK_same] at e5
        simp only [goInt] at e1 e2 e3 e4 e5
        rcases (show f (takenV ⟨(j : Int) + 1, px, rr, lt⟩) = 0 ∨ f (takenV ⟨(j : Int) + 1, px, rr, lt⟩) = 1 by have := hsi.out.cnt ⟨(j : Int) + 1, px, rr, lt⟩; omega) with h0 | h0
        · rw [h0] at e1 e2 e3 e4 e5
          simp only [takenV, Int.zero_add] at e1 e2 e3 e4 e5
          have hnx := hsi.out.next hx.out h0 (by first | (dsimp only; omega) | (simp; omega))
          rw [h0] at hm2 hnx
          go_region
          go_wp2
          have hne2 : w.heap.size + 1 + 1 ≠ w.heap.size + 1 := by omega
          have hbP3 := fun i => (hbP2.out i).trans (hbox i)
          have hbZ := hb2 _ _ (Nat.le_succ _) hbW.drew
          exact ⟨⟨k + 1, by omega, by go_num, allP_step hall.out (hsi.out.good hx.out hgood (by simp only; omega) h0 (by first | (dsimp only; omega) | (simp; omega))),
            ⟨_, _, px, rr, lt, (((hm2.setCell _ hne2 _).setCell _ hne2 _).setCell _ hne2 _).setCell _ hne2 _, hnx, heap_setCell_same _ _ 3 _ _ _ (heap_setCell_same _ _ 2 _ _ _ (heap_setCell_same _ _ 1 _ _ _ (heap_setCell_same _ _ 0 _ _ _ hL2.out)))⟩, by (repeat (first | (with_reducible assumption) | (with_reducible exact boxed_new _ _ _) | (with_reducible refine boxed_drew ?_) | (with_reducible refine boxed_drewN ?_ _) | (with_reducible refine boxed_alloc ?_ (by first | (simp; done) | omega | (simp; omega)) _) | (with_reducible refine boxed_set ?_ _ (by first | (simp; done) | omega | (simp; omega)) _))), by (repeat (first | with_reducible exact Below.refl _ _ | (with_reducible refine Below.drew ?_) | (with_reducible refine below_drewN ?_ _) | (with_reducible refine Below.alloc ?_ (by first | (simp; done) | omega | (simp; omega)) _) | (with_reducible refine Below.setCell ?_ (by first | (simp; done) | omega | (simp; omega)) _) | with_reducible assumption))⟩, by simp [intOf]; omega⟩
        · rw [h0] at e1 e2 e3 e4 e5
          simp only [takenV, show (1 : Int) + 1 = 2 from rfl] at e1 e2 e3 e4 e5
          go_region
          have hno := Lib.hid (allP_no ne hlt (hsi.out.twice (p := p) (nn := nn) hx.out (by simp only; omega) h0))
          go_wp2
          go_ret
          exact ⟨ret_bool hno.out.symm, hb2 _ _ (Nat.le_succ _) hbW.drew⟩
    · have e : k = ne := by omega
      subst e
      go_wp2
      go_ret
      exact ⟨ret_bool hall.out.symm, hbel⟩
end Go.Proofs.YtaakcccffmfmoaaDoor
