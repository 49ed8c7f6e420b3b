/- Rows of free texts; the ticketing field; which numbers are live segments. -/
import Derived.Test.YtpgeoahlhdifoaaGreatDoorFormed
import Derived.Test.YtpgeoahlhdifoaaGreatDoorLive
namespace Go.Proofs.YtpgeoahlhdifoaaGreatDoor
set_option linter.unusedVariables false
open Go Go.RowKit
def frI (l : List ByteArray) (i : Nat) : Bool := freeB (l[i]?.getD ⟨#[]⟩)
def textsB (l : List ByteArray) (most : Int) : Bool := decide ((l.length : Int) ≤ most) && allP (frI l) l.length
theorem frI_at {l : List ByteArray} {i : Nat} {x : ByteArray} (h : l[i]? = some x) : frI l i = freeB x := by simp [frI, h]
def ticketB (p : Pnr) : Bool := if p.tik.kind == 1 then momB p.tik.day p.tik.min else (!p.queued && (p.tik.day == 0 && (p.tik.min == 0 && (p.tik.kind == 2 || p.tik.kind == 0))))
/-- Is the segment of that number live? -/
def lvI (l : List Seg) (i : Nat) : Bool := match l[i]? with | some s => s.live | none => false
def liveN (l : List Seg) (n : Int) : Bool := decide (1 ≤ n) && lvI l (n - 1).toNat
theorem lvI_at {l : List Seg} {i : Nat} {x : Seg} (h : l[i]? = some x) : lvI l i = x.live := by simp [lvI, h]
theorem liveN_yes {l : List Seg} {n : Int} {k : Nat} {x : Seg} (h : l[k]? = some x) (hl : x.live = true) (e : (k : Int) = n - 1) : liveN l n = decide (n > 0) := by
  have h1 : (n - 1).toNat = k := by omega
  have h2 : 1 ≤ n := by omega
  simp only [liveN, h1, lvI_at h, hl, h2]
  simp; omega
theorem liveN_no {l : List Seg} {n : Int} (h : ∀ i, i < l.length → lvI l i = true → ¬ (i : Int) = n - 1) : liveN l n = false := by
  rcases Bool.eq_false_or_eq_true (liveN l n) with h1 | h1
  · simp only [liveN, Bool.and_eq_true, decide_eq_true_eq] at h1
    have hl : (n - 1).toNat < l.length := by
      rcases Nat.lt_or_ge (n - 1).toNat l.length with h2 | h2
      · exact h2
      · have : l[(n - 1).toNat]? = none := List.getElem?_eq_none h2
        have h3 := h1.2
        unfold lvI at h3
        rw [this] at h3
        exact absurd h3 (by simp)
    exact absurd (by omega) (h _ hl h1.2)
  · exact h1
set_option maxRecDepth 100000 in
set_option maxHeartbeats 1000000 in
theorem islive_any (p : Pnr) (h : Hd) (n : Int) (w : World) (lo hi : Nat) (hp : PAt w lo hi p h) (hn : h.ng ≤ 100000) (hhi : hi ≤ w.heap.size) (h0 : okInt n) :
    Calls Tryz.prog 76 #[.agg #[.string p.loc, .string p.off, .slice h.an h.nn h.cn, .slice h.ag h.ng h.cg, .slice h.ap h.np h.cp, .int .i64 p.tik.kind, .int .i64 p.tik.day, .int .i64 p.tik.min, .string p.rc, .slice h.ar h.nr h.cr, .slice h.ae h.ne h.ce, .bool p.queued], .int .i64 n] w (RetB w (liveN p.segs n)) := by
  have hsl := hp.segs
  have hlen := hsl.len
  clear hp
  unfold okInt at h0
  obtain ⟨an, nn, cn, ag, ng, cg, ap, np, cp, ar, nr, cr, ae, ne, ce⟩ := h
  dsimp only at *
  by_cases h1 : 1 ≤ n
  case neg =>
    rw [show liveN p.segs n = false by simp [liveN, h1]]
    have h1' : ¬ 0 < n := by omega
    go_enter Tryz.func76, Tryz.ntmps76
    go_wp2
    go_loopw [5] (fun i wr => ∃ k : Nat, k ≤ ng ∧ i = .int .i64 k ∧ wr = w.alloc (.cells #[.string p.loc, .string p.off, .slice an nn cn, .slice ag ng cg, .slice ap np cp, .int .i64 p.tik.kind, .int .i64 p.tik.day, .int .i64 p.tik.min, .string p.rc, .slice ar nr cr, .slice ae ne ce, .bool p.queued] 29)) (fun i _ => ng - (intOf i).toNat)
    case atStart => exact ⟨0, Nat.zero_le _, rfl, rfl⟩
    case round =>
      obtain ⟨k, hk, rfl, rfl⟩ := hrel
      by_cases hlt : k < ng
      · obtain ⟨b, o, x, rfl, h1, h2, hx, hok, c0, c1, c2, c3, c4⟩ := (hsl.alloc hhi (.cells #[.string p.loc, .string p.off, .slice an nn cn, .slice ag ng cg, .slice ap np cp, .int .i64 p.tik.kind, .int .i64 p.tik.day, .int .i64 p.tik.min, .string p.rc, .slice ar nr cr, .slice ae ne ce, .bool p.queued] 29)).seg_ hlt
        rcases Bool.eq_false_or_eq_true x.live with hl | hl
        · go_wp2
          · go_ret
            exact ⟨ret_bool (by simp [*]), by (repeat (first | with_reducible exact Below.refl _ _ | (with_reducible refine Below.drew ?_) | (with_reducible refine below_drewN ?_ _) | (with_reducible refine Below.alloc ?_ (by first | (simp; done) | omega | (simp; omega)) _) | (with_reducible refine Below.setCell ?_ (by first | (simp; done) | omega | (simp; omega)) _) | with_reducible assumption))⟩
          · exact ⟨⟨k + 1, by omega, by go_num, trivial⟩, by simp [intOf]; omega⟩
        · go_wp2
          exact ⟨⟨k + 1, by omega, by go_num, trivial⟩, by simp [intOf]; omega⟩
      · go_wp2
        go_ret
        exact ⟨rfl, by (repeat (first | with_reducible exact Below.refl _ _ | (with_reducible refine Below.drew ?_) | (with_reducible refine below_drewN ?_ _) | (with_reducible refine Below.alloc ?_ (by first | (simp; done) | omega | (simp; omega)) _) | (with_reducible refine Below.setCell ?_ (by first | (simp; done) | omega | (simp; omega)) _) | with_reducible assumption))⟩
  go_enter Tryz.func76, Tryz.ntmps76
  go_wp2
  go_loopw [5] (fun i wr => ∃ k : Nat, k ≤ ng ∧ i = .int .i64 k ∧ Hid (∀ i, i < k → lvI p.segs i = true → ¬ (i : Int) = n - 1) ∧ wr = w.alloc (.cells #[.string p.loc, .string p.off, .slice an nn cn, .slice ag ng cg, .slice ap np cp, .int .i64 p.tik.kind, .int .i64 p.tik.day, .int .i64 p.tik.min, .string p.rc, .slice ar nr cr, .slice ae ne ce, .bool p.queued] 29)) (fun i _ => ng - (intOf i).toNat)
  case atStart => exact ⟨0, Nat.zero_le _, rfl, (fun i hi => by omega), rfl⟩
  case round =>
    obtain ⟨k, hk, rfl, hall, rfl⟩ := hrel
    by_cases hlt : k < ng
    · obtain ⟨b, o, x, rfl, h1, h2, hx, hok, c0, c1, c2, c3, c4⟩ := (hsl.alloc hhi (.cells #[.string p.loc, .string p.off, .slice an nn cn, .slice ag ng cg, .slice ap np cp, .int .i64 p.tik.kind, .int .i64 p.tik.day, .int .i64 p.tik.min, .string p.rc, .slice ar nr cr, .slice ae ne ce, .bool p.queued] 29)).seg_ hlt
      have hnx : x.live = false ∨ ¬ (k : Int) = n - 1 → Hid (∀ i, i < k + 1 → lvI p.segs i = true → ¬ (i : Int) = n - 1) := fun hor i hi hl => by
        rcases Nat.lt_or_ge i k with h3 | h3
        · exact hall.out i h3 hl
        · have : i = k := by omega
          subst this
          rw [lvI_at hx.out] at hl
          rcases hor with h4 | h4
          · rw [h4] at hl; exact absurd hl (by simp)
          · exact h4
      rcases Bool.eq_false_or_eq_true x.live with hl | hl
      · go_wp2
        · rename_i hq
          go_ret
          exact ⟨ret_bool (liveN_yes hx.out hl (by simpa using hq)).symm, by (repeat (first | with_reducible exact Below.refl _ _ | (with_reducible refine Below.drew ?_) | (with_reducible refine below_drewN ?_ _) | (with_reducible refine Below.alloc ?_ (by first | (simp; done) | omega | (simp; omega)) _) | (with_reducible refine Below.setCell ?_ (by first | (simp; done) | omega | (simp; omega)) _) | with_reducible assumption))⟩
        · rename_i hq
          exact ⟨⟨k + 1, by omega, by go_num, hnx (.inr (by simpa using hq)), trivial⟩, by simp [intOf]; omega⟩
      · go_wp2
        go_roundw
        case rel => exact ⟨k + 1, by omega, by go_num, hnx (.inl hl), trivial⟩
        case measure => simp [intOf]; omega
    · have e : k = ng := by omega
      subst e
      have hno := Lib.hid (liveN_no (fun i hi => hall.out i (by omega)) : liveN p.segs n = false)
      go_wp2
      go_ret
      exact ⟨ret_bool hno.out.symm, by (repeat (first | with_reducible exact Below.refl _ _ | (with_reducible refine Below.drew ?_) | (with_reducible refine below_drewN ?_ _) | (with_reducible refine Below.alloc ?_ (by first | (simp; done) | omega | (simp; omega)) _) | (with_reducible refine Below.setCell ?_ (by first | (simp; done) | omega | (simp; omega)) _) | with_reducible assumption))⟩
end Go.Proofs.YtpgeoahlhdifoaaGreatDoor
