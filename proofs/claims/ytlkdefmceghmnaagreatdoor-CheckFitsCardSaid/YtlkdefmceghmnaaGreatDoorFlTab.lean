/- A table of flights in memory: its map, its list. -/
import Derived.Test.YtlkdefmceghmnaaGreatDoorFlSort
import Derived.Test.YtlkdefmceghmnaaGreatDoorMp
import Derived.Deep.RegionLaw
namespace Go.Proofs.YtlkdefmceghmnaaGreatDoor
set_option linter.unusedVariables false
open Go Go.RowKit Go.Sort
open Go.WideMaps (KeyLaw)
theorem laidOutF : laidOutB Tryz.prog = true := by kernel_rfl
theorem lawKey : KeyLaw Tryz.prog 52 := deep_law_laid laidOutF (m := 3) (by omega) (of_decide_eq_true (by kernel_rfl)) (by kernel_rfl) (by kernel_rfl)
theorem zeroInt (u : World) : (zeroValue 3).run Tryz.prog u = .ok (.int .i64 0) u := by kernel_rfl
def keyV (k : Key) : Value := .agg #[.string k.car, .int .i64 k.num]
theorem keyV_inj {a b : Key} (h : keyV a = keyV b) : a = b := by
  obtain ⟨a0, a1⟩ := a
  obtain ⟨b0, b1⟩ := b
  unfold keyV at h
  simp at h
  obtain ⟨h1, h2⟩ := h
  rw [h1, h2]
theorem szT : ∃ n, Tryz.prog.types.size + 1 = n + 4 := by
  have : (3 : Nat) ≤ Tryz.prog.types.size := of_decide_eq_true (by kernel_rfl)
  exact ⟨Tryz.prog.types.size - 3, by omega⟩
theorem cKey : Tryz.prog.cellsOf 52 = 2 := by kernel_rfl
theorem cStr : Tryz.prog.cellsOf 9 = 1 := by kernel_rfl
theorem cInt : Tryz.prog.cellsOf 3 = 1 := by kernel_rfl
set_option maxRecDepth 100000 in
theorem keyKey (k : Key) (h : k.ok) : ∃ l, keyOf Tryz.prog 52 (keyV k) = some l := by
  obtain ⟨h1, h2⟩ := h
  unfold okStr at h1
  unfold okInt at h2
  have w1 : k.car.size ≤ maxLen := by unfold maxLen; omega
  have w2 := WalkArith.wf_i64 h2
  have kt : Tryz.prog.keyType 52 = true := by kernel_rfl
  obtain ⟨n, hn⟩ := szT
  have hf : (keyV k).formed Tryz.prog 52 = true := by
    simp only [Value.formed, keyV, Tryz.underlying52, cKey]
    rfl
  have hL : ∃ l, Tryz.prog.keyLits (n + 4) 52 [.string k.car, .int .i64 k.num] = some l := by
    simp [Program.keyLits, Tryz.underlying52, Tryz.underlying9, Tryz.underlying3, cKey, cStr, cInt, w1, w2]
    try rw [if_pos (by intro i hi; rcases i with _ | _ | i <;> first | (simp; done) | omega)]
    try exact ⟨_, rfl⟩
  obtain ⟨l, hl⟩ := hL
  refine ⟨.string (keyBytes l), ?_⟩
  unfold keyOf
  rw [Tryz.underlying52]
  dsimp only
  rw [kt, hf, Bool.true_and, if_pos rfl, hn]
  show (Tryz.prog.keyLits (n + 4) 52 [.string k.car, .int .i64 k.num]).map _ = _
  rw [hl]
  rfl
/-- Where a key stands in a list, among the first n. -/
def idxR (rl : List FlR) (n : Nat) (k : Key) : Option Nat := (rl.take n).findIdx? fun r => decide (r.key = k)
theorem idxR_zero (rl : List FlR) (k : Key) : idxR rl 0 k = none := by simp [idxR]
theorem idxR_succ {rl : List FlR} {n : Nat} {r : FlR} (hx : rl[n]? = some r) (hn : idxR rl n r.key = none) (k : Key) : idxR rl (n + 1) k = if k = r.key then some n else idxR rl n k := by
  have hlen : (rl.take n).length = n := by rw [List.length_take]; have := (List.getElem?_eq_some_iff.1 hx).1; omega
  unfold idxR at *
  rw [take_snoc' hx, List.findIdx?_append, hlen]
  by_cases h : k = r.key
  · subst h
    rw [hn, if_pos rfl]
    simp
  · rw [if_neg h]
    have h' : ¬ r.key = k := fun e => h e.symm
    cases e : (rl.take n).findIdx? fun r => decide (r.key = k) with
    | some i => simp
    | none => simp [h']
theorem idxR_none {rl : List FlR} {n : Nat} {k : Key} (h : idxR rl n k = none) : noKey rl k n := by
  unfold idxR at h
  rw [List.findIdx?_eq_none_iff] at h
  intro j r hj hr
  have hm : r ∈ rl.take n := List.mem_iff_getElem?.2 ⟨j, by rw [List.getElem?_take, if_pos hj]; exact hr⟩
  simpa using h r hm
theorem idxR_some {rl : List FlR} {n i : Nat} {k : Key} (h : idxR rl n k = some i) : i < n ∧ ∃ r, rl[i]? = some r ∧ r.key = k := by
  unfold idxR at h
  rw [List.findIdx?_eq_some_iff_getElem] at h
  obtain ⟨h1, h2, _⟩ := h
  have h3 : i < n := by rw [List.length_take] at h1; omega
  refine ⟨h3, (rl.take n)[i], ?_, by simpa using h2⟩
  have := List.getElem?_eq_getElem h1
  rw [List.getElem?_take, if_pos h3] at this
  exact this
/-- The table at block p, all its blocks from lo on. -/
structure TB (W : World) (lo p : Nat) (rl : List FlR) : Prop where
  ex : ∃ mp A n c g, Bx W p #[.map (some mp), .slice A n c] 66 ∧ OwnF W 55 99 lo (.slice A n c) rl ∧ Mp Tryz.prog 52 W mp g ∧
    (∀ k, g (keyV k) = (idxR rl rl.length k).map fun i => .int .i64 (i : Nat)) ∧ lo ≤ p ∧ lo ≤ mp
  most : rl.length ≤ 64
  small : ∀ r ∈ rl, r.n ≤ 6
theorem Own.keepB {α : Type} {W W' : World} {B : Nat} {e : TypeId} {T : Ty α} {v : Value} {l : List α} (h : Own W B e T v l) (hk : ∀ k, B ≤ k → k < W.heap.size → W'.heap[k]? = W.heap[k]?) : Own W' B e T v l := by
  refine ⟨h.wf, h.row.1, ?_⟩
  rcases h.row.2 with hn | ⟨g, cap, cur, rfl, h1, hg, r⟩
  · exact .inl hn
  · exact .inr ⟨g, cap, cur, rfl, h1, (hk g h1 (Array.getElem?_eq_some_iff.1 hg).1).trans hg, r⟩
theorem OwnF.keepB {W W' : World} {EF EC : TypeId} {B : Nat} {v : Value} {rl : List FlR} (h : OwnF W EF EC B v rl) (hk : ∀ k, B ≤ k → k < W.heap.size → W'.heap[k]? = W.heap[k]?) : OwnF W' EF EC B v rl :=
  ⟨h.own.keepB hk, fun r hr => Own.keepB (h.cl r hr) hk, h.apt, h.off⟩
theorem TB.keepB {W W' : World} {lo p : Nat} {rl : List FlR} (h : TB W lo p rl) (hk : ∀ k, lo ≤ k → k < W.heap.size → W'.heap[k]? = W.heap[k]?) : TB W' lo p rl := by
  obtain ⟨⟨mp, A, n, c, g, hx, ho, hm, hg, h1, h2⟩, h3, h4⟩ := h
  exact ⟨⟨mp, A, n, c, g, (hk p h1 hx.lt).trans hx, ho.keepB hk, hm.keep (hk mp h2 hm.size), hg, h1, h2⟩, h3, h4⟩
theorem TB.keep {W W' : World} {lo p : Nat} {rl : List FlR} (h : TB W lo p rl) (hb : Below W.heap.size W W') : TB W' lo p rl := h.keepB fun k _ hk => hb.block k hk
theorem TB.lt {W : World} {lo p : Nat} {rl : List FlR} (h : TB W lo p rl) : p < W.heap.size := by
  obtain ⟨⟨mp, A, n, c, g, hx, _⟩, _⟩ := h
  exact hx.lt
section
variable {W V V' : World} {EF EC : TypeId} {B : Nat} {v v' : Value} {rl : List FlR} {s : FlR}
theorem ClOwn.lt {w : World} {E : TypeId} {r : FlR} (h : ClOwn w E B r) : ∀ k, r.blk = some k → B ≤ k ∧ k < w.heap.size := Own.lt h
theorem OwnF.push (h : OwnF W EF EC B v rl) (hk : Below W.heap.size W V) (hs : ClOwn V EC W.heap.size s) (hB : B ≤ W.heap.size) (ho : Own V' B EF tFl v' (rl ++ [s])) (hg : V.grownBy V' v.ownBlock) (hv : v'.ownBlock = v.ownBlock ∨ ∀ k, v'.ownBlock = some k → V.heap.size ≤ k) : OwnF V' EF EC B v' (rl ++ [s]) := by
  have hV := h.keep hk
  refine ⟨ho, fun r hr => ?_, ?_, fun r hr k hk' => ?_⟩
  · rcases List.mem_append.1 hr with h1 | h1
    · exact Own.kept (hV.cl r h1) hg fun k hk2 hv2 => h.off r h1 k hv2 hk2
    · rw [List.mem_singleton.1 h1]
      refine Own.kept (Own.more hs hB) hg fun k hk2 hv2 => ?_
      have := (h.own.lt k hv2).2
      have := (hs.lt k hk2).1
      omega
  · refine List.pairwise_append.2 ⟨h.apt, List.pairwise_singleton _ _, fun r hr t ht k h1 h2 => ?_⟩
    rw [List.mem_singleton.1 ht] at h2
    have := ((h.cl r hr).lt k h1).2
    have := (hs.lt k h2).1
    omega
  · rcases hv with hv | hv
    · rw [hv] at hk'
      rcases List.mem_append.1 hr with h1 | h1
      · exact h.off r h1 k hk'
      · rw [List.mem_singleton.1 h1]
        intro e
        have := (h.own.lt k hk').2
        have := (hs.lt k e).1
        omega
    · have hk' := hv k hk'
      intro e
      rcases List.mem_append.1 hr with h1 | h1
      · have := ((h.cl r h1).lt k e).2
        have := hk.size
        omega
      · rw [List.mem_singleton.1 h1] at e
        have := (hs.lt k e).2
        omega
theorem OwnF.setCell (h : OwnF W EF EC B v rl) {p : Addr} (hp : p.block < B) (u : Value) : OwnF (W.setCell p u) EF EC B v rl :=
  ⟨h.own.setCell hp u, fun r hr => Own.setCell (h.cl r hr) hp u, h.apt, h.off⟩
theorem OwnF.alloc (h : OwnF W EF EC B v rl) (o : Obj) : OwnF (W.alloc o) EF EC B v rl := h.keep ((Below.refl _ _).alloc (Nat.le_refl _) o)
end
end Go.Proofs.YtlkdefmceghmnaaGreatDoor
