/- The document's edits of a PNR: a seat. -/
import Derived.Test.YtpgeoahlhdifoaaGreatDoorStep
import Derived.Deep.RegionLaw
import Derived.Deep.DrawnRows
import Derived.Deep.QuietTactic
import Derived.BigQuiet
namespace Go.Proofs.YtpgeoahlhdifoaaGreatDoor
set_option linter.unusedVariables false
open Go Go.RowKit
attribute [local go_sem ↓] Go.wp_at_zero Go.wp_at_succ
theorem insF_any (e : Edit) : ∀ (l m : List Plc), l.any (afterB e) = true → insF e (l ++ m) = insF e l ++ m
  | [], m, h => by simp at h
  | x :: t, m, h => by
    by_cases hx : afterB e x = true
    · simp [insF, hx]
    · have ht : t.any (afterB e) = true := by simpa [hx] using h
      simp [insF, hx, insF_any e t m ht]
theorem insF_none (e : Edit) : ∀ (l m : List Plc), l.any (afterB e) = false → insF e (l ++ m) = l ++ insF e m
  | [], m, h => rfl
  | x :: t, m, h => by
    simp only [List.any_cons, Bool.or_eq_false_iff] at h
    simp [insF, h.1, insF_none e t m h.2]
/-- What stands in the new list behind k of the places that are left; d: the new one is among them. -/
def InsAt (e : Edit) (l : List Plc) (k : Nat) (d : Bool) (acc : List Plc) : Prop :=
  (l.take k).any (afterB e) = d ∧ acc = if d then insF e (l.take k) else l.take k
theorem InsAt.done {e : Edit} {l acc : List Plc} {k : Nat} {x : Plc} (h : InsAt e l k true acc) (hx : l[k]? = some x) : InsAt e l (k + 1) true (acc ++ [x]) := by
  obtain ⟨h1, h2⟩ := h
  unfold InsAt
  rw [take_succ_of hx, List.any_append, h1, if_pos rfl, insF_any e _ _ h1]
  rw [if_pos rfl] at h2
  exact ⟨rfl, by rw [h2]⟩
theorem InsAt.hit {e : Edit} {l acc : List Plc} {k : Nat} {x : Plc} (h : InsAt e l k false acc) (hx : l[k]? = some x) (ha : afterB e x = true) : InsAt e l (k + 1) true ((acc ++ [mine e]) ++ [x]) := by
  obtain ⟨h1, h2⟩ := h
  unfold InsAt
  rw [take_succ_of hx, List.any_append, h1, if_pos rfl, insF_none e _ _ h1]
  rw [if_neg (by simp)] at h2
  exact ⟨by simp [ha], by rw [h2]; simp [insF, ha]⟩
theorem InsAt.miss {e : Edit} {l acc : List Plc} {k : Nat} {x : Plc} (h : InsAt e l k false acc) (hx : l[k]? = some x) (ha : afterB e x = false) : InsAt e l (k + 1) false (acc ++ [x]) := by
  obtain ⟨h1, h2⟩ := h
  unfold InsAt
  rw [take_succ_of hx, List.any_append, h1]
  rw [if_neg (by simp)] at h2 ⊢
  exact ⟨by simp [ha], by rw [h2]⟩
theorem InsAt.len {e : Edit} {l acc : List Plc} {k : Nat} {d : Bool} (h : InsAt e l k d acc) : acc.length ≤ k + 1 := by
  obtain ⟨h1, h2⟩ := h
  have := List.length_take_le k l
  rw [h2]
  split
  · rw [insF_len]; omega
  · omega
theorem InsAt.fin {e : Edit} {l acc : List Plc} {k : Nat} (hk : l.length = k) : (InsAt e l k true acc → acc = insF e l) ∧ (InsAt e l k false acc → acc ++ [mine e] = insF e l) := by
  have ht : l.take k = l := List.take_of_length_le (by omega)
  unfold InsAt
  rw [ht]
  refine ⟨fun h => by simpa using h.2, fun h => ?_⟩
  have h2 := h.2
  rw [if_neg (by simp)] at h2
  have := insF_none e l [] h.1
  rw [List.append_nil] at this
  rw [this, h2]
  rfl
theorem FR.seats {w : World} {p : Pnr} {h : Hd} {ec rc : Array Value} {v v' : Value} {W : World} (H : FR w #[.string p.loc, .string p.off, .slice h.an h.nn h.cn, .slice h.ag h.ng h.cg, .slice h.ap h.np h.cp, .int .i64 p.tik.kind, .int .i64 p.tik.day, .int .i64 p.tik.min, .string p.rc, .slice h.ar h.nr h.cr, v, .bool p.queued] ec rc W) : FR w #[.string p.loc, .string p.off, .slice h.an h.nn h.cn, .slice h.ag h.ng h.cg, .slice h.ap h.np h.cp, .int .i64 p.tik.kind, .int .i64 p.tik.day, .int .i64 p.tik.min, .string p.rc, .slice h.ar h.nr h.cr, v', .bool p.queued] ec rc (W.setCell ⟨w.heap.size, 10, none⟩ v') := H.put1 10 v'
theorem any_taken_step {e : Edit} {l : List Plc} {m : Nat} {x : Plc} (h : l[m]? = some x) (h0 : (l.take m).any (takenB e) = false) (h1 : takenB e x = false) : (l.take (m + 1)).any (takenB e) = false := by
  rw [take_succ_of h, List.any_append, h0]
  simp [h1]
theorem any_taken_hit {e : Edit} {l : List Plc} {m : Nat} {x : Plc} (h : l[m]? = some x) (h1 : takenB e x = true) : l.any (takenB e) = true :=
  List.any_eq_true.2 ⟨x, List.mem_of_getElem? h, h1⟩
theorem whoseF_three (p : Pnr) (e : Edit) : whoseF p e = 0 ∨ whoseF p e = 16 ∨ whoseF p e = 17 := by
  unfold whoseF
  split
  · split <;> simp
  · simp
def mineC (e : Edit) : Array Value := #[.int .i64 e.n, .int .i64 e.pax, .int .i64 e.row, .int .u8 e.let_]
/-- While the new list of places is made: what has been made (acc, the slice v in the PNR's box), what is left, the new place. -/
structure ST (w : World) (p : Pnr) (h : Hd) (ec : Array Value) (B lo : Nat) (A : Option Addr) (rest : List Plc) (e : Edit) (v : Value) (acc : List Plc) (W : World) : Prop where
  own : Own W (B + 1) 87 tPlc v acc
  fr : FR w #[.string p.loc, .string p.off, .slice h.an h.nn h.cn, .slice h.ag h.ng h.cg, .slice h.ap h.np h.cp, .int .i64 p.tik.kind, .int .i64 p.tik.day, .int .i64 p.tik.min, .string p.rc, .slice h.ar h.nr h.cr, v, .bool p.queued] ec zc W
  sl : Sl W lo B tPlc A rest.length rest
  mb : Bx W B (mineC e) 87
section
variable {w : World} {p : Pnr} {h : Hd} {ec : Array Value} {B lo : Nat} {A : Option Addr} {rest : List Plc} {e : Edit} {v : Value} {acc : List Plc} {W w' : World}
theorem ST.drewN (H : ST w p h ec B lo A rest e v acc W) (n : Nat) : ST w p h ec B lo A rest e v acc (W.drewN n) := ⟨H.own.drewN n, H.fr.drewN n, H.sl.drewN n, H.mb⟩
theorem ST.drew (H : ST w p h ec B lo A rest e v acc W) : ST w p h ec B lo A rest e v acc W.drew := H.drewN 1
theorem ST.alloc (H : ST w p h ec B lo A rest e v acc W) (o : Obj) : ST w p h ec B lo A rest e v acc (W.alloc o) := ⟨H.own.alloc o, H.fr.alloc o, H.sl.alloc (Nat.le_of_lt H.mb.lt) o, H.mb.alloc o⟩
theorem ST.row (H : ST w p h ec B lo A rest e v acc W) (hlo : w.heap.size + 1 + 1 < lo) (hB : lo ≤ B) : ∀ k, v.ownBlock = some k → w.heap.size + 1 + 1 < k ∧ B < k := fun k hk => by
  have := (H.own.lt k hk).1
  omega
theorem ST.mid (H : ST w p h ec B lo A rest e v acc W) (hlo : w.heap.size + 1 + 1 < lo) (hB : lo ≤ B) (hg : W.grownBy w' v.ownBlock) : FR w #[.string p.loc, .string p.off, .slice h.an h.nn h.cn, .slice h.ag h.ng h.cg, .slice h.ap h.np h.cp, .int .i64 p.tik.kind, .int .i64 p.tik.day, .int .i64 p.tik.min, .string p.rc, .slice h.ar h.nr h.cr, v, .bool p.queued] ec zc w' :=
  H.fr.grown hg fun k hk => (H.row hlo hB k hk).1
theorem ST.push (H : ST w p h ec B lo A rest e v acc W) (hlo : w.heap.size + 1 + 1 < lo) (hB : lo ≤ B) (hg : W.grownBy w' v.ownBlock) {v' : Value} {acc' : List Plc} (h1 : Own w' (B + 1) 87 tPlc v' acc') :
    ST w p h ec B lo A rest e v' acc' (w'.setCell ⟨w.heap.size, 10, none⟩ v') := by
  have hz := H.mb.lt
  refine ⟨h1.setCell (by simp; omega) _, (H.mid hlo hB hg).seats, (H.sl.grown hg (fun k hk => by have := (H.row hlo hB k hk).2; omega) (by omega)).setOther (.inl (by simp; omega)) _, (H.mb.grown hg fun e => by have := (H.row hlo hB _ e).2; omega).other (by simp; omega) _⟩
end
/-- Ahead of the k-th place that is left is laid down, behind the question. -/
def InsMid (e : Edit) (l : List Plc) (k : Nat) (x : Plc) (d : Bool) (acc : List Plc) : Prop := InsAt e l (k + 1) d (acc ++ [x]) ∧ acc.length ≤ k + 1
theorem InsAt.mid {e : Edit} {l acc : List Plc} {k : Nat} {x : Plc} {d : Bool} (h : InsAt e l k d acc) (hx : l[k]? = some x) (hq : (!d && afterB e x) = false) : InsMid e l k x d acc := by
  refine ⟨?_, h.len⟩
  cases d
  · exact h.miss hx (by simpa using hq)
  · exact h.done hx
theorem InsAt.midHit {e : Edit} {l acc : List Plc} {k : Nat} {x : Plc} {d : Bool} (h : InsAt e l k d acc) (hx : l[k]? = some x) (hq : (!d && afterB e x) = true) : InsMid e l k x true (acc ++ [mine e]) := by
  simp only [Bool.and_eq_true, Bool.not_eq_true'] at hq
  obtain ⟨rfl, ha⟩ := hq
  refine ⟨h.hit hx ha, ?_⟩
  have hl := h.2
  rw [if_neg (by simp)] at hl
  have := List.length_take_le k l
  rw [List.length_append, hl]
  simp only [List.length_cons, List.length_nil]
  omega
theorem InsMid.len {e : Edit} {l acc : List Plc} {k : Nat} {x : Plc} {d : Bool} (h : InsMid e l k x d acc) : acc.length ≤ k + 1 := h.2
set_option maxRecDepth 100000 in
set_option maxHeartbeats 4000000 in
theorem rseat_any (p : Pnr) (h : Hd) (e : Edit) (w : World) (S : Nat → Prop) (hp : PS w S p h) (hS : ∀ b, S b → b < w.heap.size) (hs : p.small 100000) (he : e.ok) :
    Calls Tryz.prog 79 #[.agg #[.string p.loc, .string p.off, .slice h.an h.nn h.cn, .slice h.ag h.ng h.cg, .slice h.ap h.np h.cp, .int .i64 p.tik.kind, .int .i64 p.tik.day, .int .i64 p.tik.min, .string p.rc, .slice h.ar h.nr h.cr, .slice h.ae h.ne h.ce, .bool p.queued], .agg #[.int .i64 e.kind, .string e.nam.last, .string e.nam.first, .string e.seg.car, .int .i64 e.seg.num, .int .i64 e.seg.day, .int .u8 e.seg.cls, .bool e.seg.live, .int .i64 e.tik.kind, .int .i64 e.tik.day, .int .i64 e.tik.min, .string e.text, .int .i64 e.n, .int .i64 e.pax, .int .i64 e.row, .int .u8 e.let_]] w (RetQ w S (seatF p e)) := by
  have HP := Lib.hid hp
  have HO := Lib.hid (hp.old hS)
  have HS := Lib.hid (hs.hd (hp.old hS))
  have HE := Lib.hid he
  have HB := Lib.hid hS
  clear hp hS hs
  obtain ⟨e1, e2, e3, e4, e5, e6, e7, e8, e9⟩ := he
  have hmine : Hid (Plc.ok (mine e)) := ⟨e6, e7, e8, e9⟩
  unfold okInt at e6 e7 e8
  unfold okByte at e9
  obtain ⟨an, nn, cn, ag, ng, cg, ap, np, cp, ar, nr, cr, ae, ne, ce⟩ := h
  dsimp only
  have hF := FR.start w #[.string p.loc, .string p.off, .slice an nn cn, .slice ag ng cg, .slice ap np cp, .int .i64 p.tik.kind, .int .i64 p.tik.day, .int .i64 p.tik.min, .string p.rc, .slice ar nr cr, .slice ae ne ce, .bool p.queued] #[.int .i64 e.kind, .string e.nam.last, .string e.nam.first, .string e.seg.car, .int .i64 e.seg.num, .int .i64 e.seg.day, .int .u8 e.seg.cls, .bool e.seg.live, .int .i64 e.tik.kind, .int .i64 e.tik.day, .int .i64 e.tik.min, .string e.text, .int .i64 e.n, .int .i64 e.pax, .int .i64 e.row, .int .u8 e.let_] zc
  unfold zc at hF
  rcases Bool.eq_false_or_eq_true (seatB e.row e.let_) with q1 | q1
  case inr =>
    have hfin : Hid (seatF p e = (p, 4)) := by show seatF p e = (p, 4); unfold seatF; rw [if_pos q1]
    go_enter Tryz.func79, Tryz.ntmps79
    go_wp2_with fail
    refine (rtext_any _ _ _ e9.1 e9.2).mono ?_
    rintro en w2 ⟨t, rfl, ht, hb2⟩
    rw [q1] at ht
    have hF2 := hF.step hb2
    clear hF hb2
    have x1 := hF2.c1
    have x2 := hF2.c2
    go_wp2_with (refine store_res rfl (.tmp 4) (.tmp 16) rfl #[.string p.loc, .string p.off, .slice an nn cn, .slice ag ng cg, .slice ap np cp, .int .i64 p.tik.kind, .int .i64 p.tik.day, .int .i64 p.tik.min, .string p.rc, .slice ar nr cr, .slice ae ne ce, .bool p.queued] rfl rfl hF2.r3 rfl rfl (by simp [Value.oneCell']) ?_)
    have hF3 := hF2.put3 #[.string p.loc, .string p.off, .slice an nn cn, .slice ag ng cg, .slice ap np cp, .int .i64 p.tik.kind, .int .i64 p.tik.day, .int .i64 p.tik.min, .string p.rc, .slice ar nr cr, .slice ae ne ce, .bool p.queued]
    refine ret_ct Tryz.results79 hF3.r3 rfl rfl rfl rfl ?_
    exact RetQ.mk' (h' := (Hd.mk an nn cn ag ng cg ap np cp ar nr cr ae ne ce)) hfin.out ((HP.out.below hF3.B HB.out).mono fun b hb => .inl hb) hF3.B
  rcases whoseF_three p e with q2 | q2
  case inr =>
    have hne : ¬ whoseF p e = 0 := by rcases q2 with q | q <;> rw [q] <;> omega
    have hfin : Hid (seatF p e = (p, whoseF p e)) := by show seatF p e = _; unfold seatF; rw [if_neg (by rw [q1]; simp), if_pos hne]
    have q3 : (whoseF p e != 0) = true := by rw [bne_iff_ne]; exact hne
    clear q2 hne
    go_enter Tryz.func79, Tryz.ntmps79
    go_wp2_with fail
    refine (rtext_any _ _ _ e9.1 e9.2).mono ?_
    rintro en w2 ⟨t, rfl, ht, hb2⟩
    rw [q1] at ht
    have hF2 := hF.step hb2
    clear hF hb2
    have x1 := hF2.c1
    have x2 := hF2.c2
    go_wp2_with fail
    refine (rwhose_any p (Hd.mk an nn cn ag ng cg ap np cp ar nr cr ae ne ce) e _ 0 w.heap.size (HO.out.below hF2.B (Nat.le_refl _)) HS.out (by have := hF2.z; omega) HE.out).mono ?_
    rintro en w3 ⟨rfl, hb3⟩
    have hF3 := hF2.step hb3
    have y1 := hF3.c1
    have y2 := hF3.c2
    go_wp2_with (refine store_res rfl (.tmp 4) (.tmp 22) rfl #[.string p.loc, .string p.off, .slice an nn cn, .slice ag ng cg, .slice ap np cp, .int .i64 p.tik.kind, .int .i64 p.tik.day, .int .i64 p.tik.min, .string p.rc, .slice ar nr cr, .slice ae ne ce, .bool p.queued] rfl rfl hF3.r3 rfl rfl (by simp [Value.oneCell']) ?_)
    have hF4 := hF3.put3 #[.string p.loc, .string p.off, .slice an nn cn, .slice ag ng cg, .slice ap np cp, .int .i64 p.tik.kind, .int .i64 p.tik.day, .int .i64 p.tik.min, .string p.rc, .slice ar nr cr, .slice ae ne ce, .bool p.queued]
    refine ret_ct Tryz.results79 hF4.r3 rfl rfl rfl rfl ?_
    exact RetQ.mk' (h' := (Hd.mk an nn cn ag ng cg ap np cp ar nr cr ae ne ce)) hfin.out ((HP.out.below hF4.B HB.out).mono fun b hb => .inl hb) hF4.B
  have hs1 : Hid (seatF p e = if p.seats.any (takenB e) = true then (p, 14) else ({ p with seats := insF e (placesF p.seats e.n e.pax) }, 0)) := by
    show seatF p e = _; unfold seatF; rw [if_neg (by rw [q1]; simp), if_neg (by rw [q2]; simp)]
  go_enter Tryz.func79, Tryz.ntmps79
  go_wp2_with fail
  refine (rtext_any _ _ _ e9.1 e9.2).mono ?_
  rintro en w2 ⟨t, rfl, ht, hb2⟩
  rw [q1] at ht
  have hF2 := hF.step hb2
  clear hF hb2
  have x1 := hF2.c1
  have x2 := hF2.c2
  go_wp2_with fail
  refine (rwhose_any p (Hd.mk an nn cn ag ng cg ap np cp ar nr cr ae ne ce) e _ 0 w.heap.size (HO.out.below hF2.B (Nat.le_refl _)) HS.out (by have := hF2.z; omega) HE.out).mono ?_
  rintro en w3 ⟨rfl, hb3⟩
  rw [q2]
  have hF3 := hF2.step hb3
  clear hF2 hb3 x1 x2 q2 q1 ht
  have y1 := hF3.c1
  have y2 := hF3.c2
  have hne5 := HS.out.ne
  dsimp only at hne5
  go_wp2
  go_loopw [7] (fun i wr => ∃ k : Nat, k ≤ ne ∧ i = .int .i64 k ∧ Hid ((p.seats.take k).any (takenB e) = false) ∧ FR w #[.string p.loc, .string p.off, .slice an nn cn, .slice ag ng cg, .slice ap np cp, .int .i64 p.tik.kind, .int .i64 p.tik.day, .int .i64 p.tik.min, .string p.rc, .slice ar nr cr, .slice ae ne ce, .bool p.queued] #[.int .i64 e.kind, .string e.nam.last, .string e.nam.first, .string e.seg.car, .int .i64 e.seg.num, .int .i64 e.seg.day, .int .u8 e.seg.cls, .bool e.seg.live, .int .i64 e.tik.kind, .int .i64 e.tik.day, .int .i64 e.tik.min, .string e.text, .int .i64 e.n, .int .i64 e.pax, .int .i64 e.row, .int .u8 e.let_] zc wr) (fun i _ => ne - (intOf i).toNat)
  case atStart => exact ⟨0, Nat.zero_le _, rfl, (by simp [Hid]), hF3⟩
  case round =>
    obtain ⟨k, hk, rfl, hany, hFr⟩ := hrel
    clear y1 y2
    have y1 := hFr.c1
    have y2 := hFr.c2
    by_cases hlt : k < ne
    · obtain ⟨b, o, x, rfl, h1, h2, hx, hok, c0, c1, c2, c3⟩ := (HO.out.below hFr.B (Nat.le_refl _)).seats.plc_ hlt
      obtain ⟨xs, xp, xr, xl⟩ := x
      dsimp only at c0 c1 c2 c3
      have heq := fun u => eql_seat xr e.row xl e.let_ u
      have htk : Hid (takenB e ⟨xs, xp, xr, xl⟩ = ((xs == e.n) && ((decide (xr = e.row) && decide (xl = e.let_)) && (xp != e.pax)))) := rfl
      generalize hb1 : (xs == e.n) = b1 at htk
      generalize hb2 : (decide (xr = e.row) && decide (xl = e.let_)) = b2 at htk heq
      clear hb2
      generalize hb3 : (xp != e.pax) = b3 at htk
      have hk0 : (0 : Int) ≤ k := by omega
      have hkl : (k : Int) < ne := by omega
      rcases b1 with _ | _ <;> rcases b2 with _ | _ <;> rcases b3 with _ | _
      case true.true.true =>
        have hfin := Lib.hid (show seatF p e = (p, 14) by rw [hs1.out, if_pos (any_taken_hit hx.out htk.out)])
        go_wp2
        go_quiet (fail)
        have hFq := hFr.drewN nq
        have z1 := hFq.c1
        go_wp2_with (refine store_res rfl (.tmp 4) (.tmp 62) rfl #[.string p.loc, .string p.off, .slice an nn cn, .slice ag ng cg, .slice ap np cp, .int .i64 p.tik.kind, .int .i64 p.tik.day, .int .i64 p.tik.min, .string p.rc, .slice ar nr cr, .slice (some ⟨b, o, none⟩) ne ce, .bool p.queued] rfl rfl hFq.r3 rfl rfl (by simp [Value.oneCell']) ?_)
        have hF4 := hFq.put3 #[.string p.loc, .string p.off, .slice an nn cn, .slice ag ng cg, .slice ap np cp, .int .i64 p.tik.kind, .int .i64 p.tik.day, .int .i64 p.tik.min, .string p.rc, .slice ar nr cr, .slice (some ⟨b, o, none⟩) ne ce, .bool p.queued]
        refine ret_ct Tryz.results79 hF4.r3 rfl rfl rfl rfl ?_
        exact RetQ.mk' (h' := (Hd.mk an nn cn ag ng cg ap np cp ar nr cr (some ⟨b, o, none⟩) ne ce)) hfin.out ((HP.out.below hF4.B HB.out).mono fun b hb => .inl hb) hF4.B
      all_goals
        have hno := Lib.hid (any_taken_step hx.out hany.out htk.out)
        go_wp2
        go_quiet (fail)
        go_wp2
        go_roundw
        case rel => exact ⟨k + 1, by omega, by go_num, hno, hFr.drewN _⟩
        case measure => simp [intOf]; omega
    · obtain rfl : ne = k := by omega
      have hs2 : Hid (seatF p e = ({ p with seats := insF e (placesF p.seats e.n e.pax) }, 0)) := by
        show seatF p e = _
        rw [hs1.out, if_neg (by
          have := hany.out
          rw [List.take_of_length_le (by have := HO.out.seats.len; dsimp only at this; omega)] at this
          rw [this]; simp)]
      clear hany hs1
      obtain ⟨wo, rfl⟩ : ∃ wo : World, wo = wr := ⟨_, rfl⟩
      have hplen := placesF_len p.seats e.n e.pax
      go_wp2_with fail
      refine (places_any p.seats ae ne ce e.n e.pax _ 0 w.heap.size (HO.out.below hFr.B (Nat.le_refl _)).seats hne5 (by have := hFr.z; omega)).mono ?_
      rintro en w5 ⟨A5, c5, rfl, hown5, hb5⟩
      have HL5 := Lib.hid (HO.out.seats.len)
      dsimp only at HL5
      rw [HL5.out] at hplen
      generalize placesF p.seats e.n e.pax = rest at hs2 hown5 hplen
      have hF5 := hFr.step hb5
      have z5 := hF5.z
      have zr := hFr.z
      have hsl5 := hown5.sl
      have hBz : w.heap.size + 1 + 1 < wo.heap.size := zr
      have hB5 := hb5.size
      clear hb5 hFr y1 y2 hown5
      have x1 := hF5.c1
      have x2 := hF5.c2
      have f1 := hF5.f1
      have z5a : w.heap.size < w5.heap.size := by omega
      have z5b : w.heap.size + 1 < w5.heap.size := by omega
      have hF6 := (hF5.put1 10 (.slice none 0 0)).alloc (.cells #[.int .i64 e.n, .int .i64 e.pax, .int .i64 e.row, .int .u8 e.let_] 87)
      have hMx := Bx.new (w5.setCell ⟨w.heap.size, 10, none⟩ (.slice none 0 0)) #[.int .i64 e.n, .int .i64 e.pax, .int .i64 e.row, .int .u8 e.let_] 87
      rw [World.size_setCell] at hMx
      have hsl6 := (hsl5.setOther (p := ⟨w.heap.size, 10, none⟩) (.inl (by simp; omega)) (.slice none 0 0)).alloc (by rw [World.size_setCell]; exact Nat.le_refl _) (.cells #[.int .i64 e.n, .int .i64 e.pax, .int .i64 e.row, .int .u8 e.let_] 87)
      go_wp2
      have hST : ST w p (Hd.mk an nn cn ag ng cg ap np cp ar nr cr ae ne ce) #[.int .i64 e.kind, .string e.nam.last, .string e.nam.first, .string e.seg.car, .int .i64 e.seg.num, .int .i64 e.seg.day, .int .u8 e.seg.cls, .bool e.seg.live, .int .i64 e.tik.kind, .int .i64 e.tik.day, .int .i64 e.tik.min, .string e.text, .int .i64 e.n, .int .i64 e.pax, .int .i64 e.row, .int .u8 e.let_] w5.heap.size wo.heap.size A5 rest e (.slice none 0 0) [] ((w5.setCell ⟨w.heap.size, 10, none⟩ (.slice none 0 0)).alloc (.cells #[.int .i64 e.n, .int .i64 e.pax, .int .i64 e.row, .int .u8 e.let_] 87)) := ⟨Own.nil_ _ _ _ _, hF6, hsl6, hMx⟩
      have hlo5 : wo.heap.size ≤ w5.heap.size := hB5
      clear hF6 hsl6 hMx x1 x2 f1 z5a z5b hF5 hsl5
      go_loopw [10, 11] (fun d i wr2 => ∃ (k : Nat) (dn : Bool) (acc : List Plc) (v : Value), k ≤ rest.length ∧ i = .int .i64 k ∧ d = .bool dn ∧ Hid (InsAt e rest k dn acc) ∧ ST w p (Hd.mk an nn cn ag ng cg ap np cp ar nr cr ae ne ce) #[.int .i64 e.kind, .string e.nam.last, .string e.nam.first, .string e.seg.car, .int .i64 e.seg.num, .int .i64 e.seg.day, .int .u8 e.seg.cls, .bool e.seg.live, .int .i64 e.tik.kind, .int .i64 e.tik.day, .int .i64 e.tik.min, .string e.text, .int .i64 e.n, .int .i64 e.pax, .int .i64 e.row, .int .u8 e.let_] w5.heap.size wo.heap.size A5 rest e v acc wr2) (fun _ i _ => rest.length - (intOf i).toNat)
      case atStart => exact ⟨0, false, [], .slice none 0 0, Nat.zero_le _, rfl, rfl, ⟨rfl, rfl⟩, hST⟩
      case round =>
        clear hST
        obtain ⟨k, dn, acc, v, hk, rfl, rfl, hins, hST⟩ := hrel
        have y2 := hST.fr.c2
        have y1 := hST.fr.c1
        dsimp only at y1
        have zz := hST.fr.z
        by_cases hlt : k < rest.length
        · obtain ⟨b, o, x, rfl, h1, h2, hx, hok, c0, c1, c2, c3⟩ := hST.sl.plc_ hlt
          obtain ⟨xs, xp, xr, xl⟩ := x
          dsimp only at c0 c1 c2 c3
          have hk0 : (0 : Int) ≤ k := by omega
          have hkl : (k : Int) < rest.length := by omega
          go_upto_region 18 with fail
          go_cut [115] (fun s w' => s = .bool (!dn && afterB e ⟨xs, xp, xr, xl⟩) ∧ ST w p (Hd.mk an nn cn ag ng cg ap np cp ar nr cr ae ne ce) #[.int .i64 e.kind, .string e.nam.last, .string e.nam.first, .string e.seg.car, .int .i64 e.seg.num, .int .i64 e.seg.day, .int .u8 e.seg.cls, .bool e.seg.live, .int .i64 e.tik.kind, .int .i64 e.tik.day, .int .i64 e.tik.min, .string e.text, .int .i64 e.n, .int .i64 e.pax, .int .i64 e.row, .int .u8 e.let_] w5.heap.size wo.heap.size (some ⟨b, o, none⟩) rest e v acc w')
          case first =>
            have hab : Hid (afterB e ⟨xs, xp, xr, xl⟩ = (decide (e.n < xs) || ((xs == e.n) && decide (e.pax < xp)))) := by
              show afterB e ⟨xs, xp, xr, xl⟩ = _
              unfold afterB
              rw [Bool.eq_iff_iff]
              simp
            generalize hb1 : decide (e.n < xs) = b1 at hab
            generalize hb2 : (xs == e.n) = b2 at hab
            generalize hb3 : decide (e.pax < xp) = b3 at hab
            rcases dn with _ | _
            · rcases b1 with _ | _ <;> rcases b2 with _ | _ <;> rcases b3 with _ | _
              all_goals
                go_quiet (fail)
                go_wp2
                go_meet
                exact ⟨congrArg Value.bool (by rw [hab.out]; rfl), hST.drewN _⟩
            · go_quiet (fail)
              go_wp2
              go_meet
              exact ⟨congrArg Value.bool (by simp), hST.drewN _⟩
          case rest =>
            obtain ⟨rfl, hS1⟩ := hcut
            clear hST y1 y2 zz c0 c1 c2 c3
            have y1 := hS1.fr.c1
            dsimp only at y1
            have y2 := hS1.fr.c2
            have m1 := hS1.mb.cells
            unfold mineC at m1
            have zz := hS1.fr.z
            have zm := hS1.mb.lt
            go_upto_if 115 with fail
            go_cut [10] (fun d w' => ∃ (dn' : Bool) (acc' : List Plc) (v' : Value), d = .bool dn' ∧ Hid (InsMid e rest k ⟨xs, xp, xr, xl⟩ dn' acc') ∧ ST w p (Hd.mk an nn cn ag ng cg ap np cp ar nr cr ae ne ce) #[.int .i64 e.kind, .string e.nam.last, .string e.nam.first, .string e.seg.car, .int .i64 e.seg.num, .int .i64 e.seg.day, .int .u8 e.seg.cls, .bool e.seg.live, .int .i64 e.tik.kind, .int .i64 e.tik.day, .int .i64 e.tik.min, .string e.text, .int .i64 e.n, .int .i64 e.pax, .int .i64 e.row, .int .u8 e.let_] w5.heap.size wo.heap.size (some ⟨b, o, none⟩) rest e v' acc' w')
            case first =>
              generalize hq : (!dn && afterB e ⟨xs, xp, xr, xl⟩) = bq
              have HQ := Lib.hid hq
              clear hq
              rcases bq with _ | _
              · have hm := Lib.hid (hins.out.mid hx.out HQ.out)
                go_wp2
                go_meet
                exact ⟨dn, acc, v, rfl, hm, hS1⟩
              · have hm := Lib.hid (hins.out.midHit hx.out HQ.out)
                have hlen := hins.out.len
                go_wp2_with (at_builtin; (refine push_told rfl (.tmp 117) (.tmp 119) rfl sl_plc rfl hS1.own (mine e) hmine _ rfl (by simp [Act.eval]) hS1.mb.lt (by omega) ?_); intro v' w' hown' hgr hb'; obtain ⟨A7, c7, hv7⟩ := hown'.form; rw [show (acc ++ [mine e]).length = acc.length + 1 by simp] at hv7; subst hv7; have hF' := hS1.mid hBz hlo5 hgr; have g1 := hF'.c1; dsimp only at g1; have g2 := hF'.f1; have g3 := hF'.z)
                go_meet
                exact ⟨true, acc ++ [mine e], _, rfl, hm, hS1.push hBz hlo5 hgr hown'⟩
            case rest =>
              clear hS1 y1 y2 m1 zz zm hins
              obtain ⟨dn', acc', v', rfl, hmid, hS2⟩ := hcut
              obtain ⟨A7, c7, rfl⟩ := hS2.own.form
              have y1 := hS2.fr.c1
              dsimp only at y1
              have y2 := hS2.fr.c2
              have zz := hS2.fr.z
              have zm := hS2.mb.lt
              obtain ⟨b9, o9, x9, hbo, h1', h2', hx', hok', d0, d1, d2, d3⟩ := hS2.sl.plc_ hlt
              injection hbo with hbo
              injection hbo with ee1 ee2 _
              subst ee1 ee2
              have ee3 := hx.out.symm.trans hx'.out
              injection ee3 with ee3
              subst ee3
              dsimp only at d0 d1 d2 d3
              have hlen := hmid.out.len
              have hbne : some b ≠ Value.ownBlock (.slice A7 acc'.length c7) := fun e => by have := (hS2.row hBz hlo5 b e.symm).2; omega
              have hrow := hS2.row hBz hlo5
              have z0 : w.heap.size < wc.heap.size := by omega
              go_wp2
              go_region_law ((refine step_push (T := tPlc) rfl (.tmp 123) (.tmp 128) (by rfl) sl_plc (by rfl) ((hS2.alloc _).drew).own (⟨xs, xp, xr, xl⟩ : Plc) hok (by exact heap_alloc_new _ _) (by rfl) (by rfl) (by simp; omega) (by omega) ?_; intro v' w' hown' hgr hb'; obtain ⟨A9, c9, hv9⟩ := hown'.form; rw [show (acc' ++ [(⟨xs, xp, xr, xl⟩ : Plc)]).length = acc'.length + 1 by simp] at hv9; subst hv9; have hF' := ST.mid ((hS2.alloc _).drew) hBz hlo5 hgr; have g1 := hF'.c1; dsimp only at g1; have g2 := hF'.f1; have g3 := hF'.z))
              all_goals
                go_wp2
                go_roundw
                case rel => exact ⟨k + 1, dn', _, _, by omega, by go_num, rfl, hmid.out.1, ST.push ((hS2.alloc _).drew) hBz hlo5 hgr hown'⟩
                case measure => simp [intOf]; omega
        · obtain rfl : rest.length = k := by omega
          have hfin := InsAt.fin (e := e) (l := rest) (acc := acc) (k := rest.length) rfl
          have y1 := hST.fr.c1
          dsimp only at y1
          have y2 := hST.fr.c2
          have m1 := hST.mb.cells
          unfold mineC at m1
          have zz := hST.fr.z
          have zm := hST.mb.lt
          have hlen := hins.out.len
          obtain ⟨A7, c7, rfl⟩ := hST.own.form
          rcases dn with _ | _
          · have hacc := hfin.2 hins.out
            clear hfin
            have HA := Lib.hid hacc
            clear hacc
            go_wp2_with (first | (at_builtin; refine push_told rfl (.tmp 134) (.tmp 136) rfl sl_plc rfl hST.own (mine e) hmine _ rfl (by simp [Act.eval]) hST.mb.lt (by omega) ?_; intro v' w' hown' hgr hb'; obtain ⟨A9, c9, hv9⟩ := hown'.form; rw [show (acc ++ [mine e]).length = acc.length + 1 by simp] at hv9; subst hv9; have hF' := hST.mid hBz hlo5 hgr; have g1 := hF'.c1; dsimp only at g1; have g2 := hF'.f1; have g3 := hF'.z; have hS9 := hST.push hBz hlo5 hgr hown') | (refine store_res rfl (.tmp 4) (.tmp 139) rfl #[.string p.loc, .string p.off, .slice an nn cn, .slice ag ng cg, .slice ap np cp, .int .i64 p.tik.kind, .int .i64 p.tik.day, .int .i64 p.tik.min, .string p.rc, .slice ar nr cr, .slice A9 (acc.length + 1) c9, .bool p.queued] rfl rfl hS9.fr.r3 rfl rfl (by simp [Value.oneCell']) ?_))
            have hacc := HA.out
            have hF9 := hS9.fr.put3 #[.string p.loc, .string p.off, .slice an nn cn, .slice ag ng cg, .slice ap np cp, .int .i64 p.tik.kind, .int .i64 p.tik.day, .int .i64 p.tik.min, .string p.rc, .slice ar nr cr, .slice A9 (acc.length + 1) c9, .bool p.queued]
            refine ret_ct Tryz.results79 hF9.r3 rfl rfl rfl rfl ?_
            have hO9 := (hS9.own).setRow (g := w.heap.size + 1 + 1) (by omega) #[.string p.loc, .string p.off, .slice an nn cn, .slice ag ng cg, .slice ap np cp, .int .i64 p.tik.kind, .int .i64 p.tik.day, .int .i64 p.tik.min, .string p.rc, .slice ar nr cr, .slice A9 (acc.length + 1) c9, .bool p.queued]
            exact RetQ.mk' (q := { p with seats := insF e rest }) (h' := (Hd.mk an nn cn ag ng cg ap np cp ar nr cr A9 (acc.length + 1) c9)) hs2.out (((HP.out.below hF9.B HB.out).mono fun b hb => .inl hb).withSeats (by rw [← hacc]; exact hO9.sls.mono fun b hb => .inr ⟨by omega, hb.2⟩)) hF9.B
          · have hacc := hfin.1 hins.out
            clear hfin
            have HA := Lib.hid hacc
            clear hacc
            go_wp2_with (refine store_res rfl (.tmp 4) (.tmp 139) rfl #[.string p.loc, .string p.off, .slice an nn cn, .slice ag ng cg, .slice ap np cp, .int .i64 p.tik.kind, .int .i64 p.tik.day, .int .i64 p.tik.min, .string p.rc, .slice ar nr cr, .slice A7 acc.length c7, .bool p.queued] rfl rfl hST.fr.r3 rfl rfl (by simp [Value.oneCell']) ?_)
            have hacc := HA.out
            have hF9 := hST.fr.put3 #[.string p.loc, .string p.off, .slice an nn cn, .slice ag ng cg, .slice ap np cp, .int .i64 p.tik.kind, .int .i64 p.tik.day, .int .i64 p.tik.min, .string p.rc, .slice ar nr cr, .slice A7 acc.length c7, .bool p.queued]
            refine ret_ct Tryz.results79 hF9.r3 rfl rfl rfl rfl ?_
            have hO9 := (hST.own).setRow (g := w.heap.size + 1 + 1) (by omega) #[.string p.loc, .string p.off, .slice an nn cn, .slice ag ng cg, .slice ap np cp, .int .i64 p.tik.kind, .int .i64 p.tik.day, .int .i64 p.tik.min, .string p.rc, .slice ar nr cr, .slice A7 acc.length c7, .bool p.queued]
            exact RetQ.mk' (q := { p with seats := insF e rest }) (h' := (Hd.mk an nn cn ag ng cg ap np cp ar nr cr A7 acc.length c7)) hs2.out (((HP.out.below hF9.B HB.out).mono fun b hb => .inl hb).withSeats (by rw [← hacc]; exact hO9.sls.mono fun b hb => .inr ⟨by omega, hb.2⟩)) hF9.B
end Go.Proofs.YtpgeoahlhdifoaaGreatDoor
