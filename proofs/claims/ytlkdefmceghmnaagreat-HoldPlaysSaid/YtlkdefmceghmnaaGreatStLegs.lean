/- Legs: those of which any seat is sold. -/
import Derived.Test.YtlkdefmceghmnaaGreatStS
import Derived.Test.YtlkdefmceghmnaaGreatStK
import Derived.Test.YtlkdefmceghmnaaGreatMapsK
namespace Go.Proofs.YtlkdefmceghmnaaGreat
set_option linter.unusedVariables false
open Go Go.RowKit Go.Sort
theorem nodup_le {α : Type} : ∀ {l m : List α}, l.Nodup → (∀ x ∈ l, x ∈ m) → l.length ≤ m.length
  | [], m, _, _ => Nat.zero_le _
  | a :: l, m, hn, hs => by
    obtain ⟨s, t, rfl⟩ := List.append_of_mem (hs a (List.mem_cons_self ..))
    obtain ⟨h1, h2⟩ := List.nodup_cons.1 hn
    have ih := nodup_le (l := l) (m := s ++ t) h2 fun x hx => by
      have h3 := hs x (List.mem_cons_of_mem _ hx)
      have hne : x ≠ a := fun e => h1 (e ▸ hx)
      simp only [List.mem_append, List.mem_cons] at h3 ⊢
      rcases h3 with h3 | h3 | h3
      · exact .inl h3
      · exact absurd h3 hne
      · exact .inr h3
    simp only [List.length_append, List.length_cons] at ih ⊢
    omega
def popV : Value → Value
  | .agg a => .agg a.pop
  | v => v
theorem popV_cell (c : Cel) : popV (cellV c) = legV c.leg := by simp [popV, cellV, legV]
/-- While the legs of a stock's cells are counted. -/
structure CL (W : World) (bs : Nat) (ls : List MapEntry) (f : Value → Int) (wr : World) : Prop where
  cnt : CntK Tryz.prog 27 wr bs f fun v => ∃ x ∈ ls, ∃ c : Cel, c.ok ∧ x.key = cellV c ∧ v = legV c.leg
  pos : ∀ x ∈ ls, ∀ c : Cel, x.key = cellV c → 0 < f (legV c.leg)
  bound : ∀ v, 0 ≤ f v ∧ f v ≤ ls.length
theorem CL.next {W wr W2 : World} {bs : Nat} {ls : List MapEntry} {f : Value → Int} {x : MapEntry} {c : Cel} (hp : ∀ x ∈ ls, ∀ c : Cel, x.key = cellV c → 0 < f (legV c.leg)) (hb : ∀ v, 0 ≤ f v ∧ f v ≤ ls.length) (hok : c.ok) (hx : x.key = cellV c)
    (h : CntK Tryz.prog 27 W2 bs (putK f (legV c.leg) (f (legV c.leg) + 1)) fun v => v = legV c.leg ∨ ∃ x ∈ ls, ∃ c : Cel, c.ok ∧ x.key = cellV c ∧ v = legV c.leg) : CL W bs (ls ++ [x]) (putK f (legV c.leg) (f (legV c.leg) + 1)) W2 := by
  refine ⟨h.imp fun v hv => ?_, fun y hy d hd => ?_, fun v => ?_⟩
  · rcases hv with rfl | ⟨y, hy, d, h1, h2, h3⟩
    · exact ⟨x, by simp, c, hok, hx, rfl⟩
    · exact ⟨y, by simp [hy], d, h1, h2, h3⟩
  · by_cases e : legV d.leg = legV c.leg
    · rw [e, putK_same]
      have := (hb (legV c.leg)).1
      omega
    · rw [putK_other _ _ _ e]
      rcases List.mem_append.1 hy with h1 | h1
      · exact hp y h1 d hd
      · rw [List.mem_singleton.1 h1, hx] at hd
        exact absurd (by rw [cellV_inj hd]) e
  · have h1 := hb v
    have h2 := hb (legV c.leg)
    by_cases e : v = legV c.leg
    · rw [e, putK_same]
      simp
      omega
    · rw [putK_other _ _ _ e]
      simp
      omega
set_option maxRecDepth 100000 in
set_option maxHeartbeats 8000000 in
theorem legs_any {W : World} {lo hi t p b : Nat} {rs : List FlR} {q : Cel → Int} (h : SK W lo hi t p b rs q) (cs : List Cel) (hcs : cs.length ≤ 1000) (hq : ∀ c : Cel, c.ok → q c ≠ 0 → c ∈ cs) :
    Calls Tryz.prog 23 #[.pointer (some ⟨p, 0, none⟩)] W (RetG W fun g => ∃ c : Cel, c.ok ∧ q c ≠ 0 ∧ c.leg = g) := by
  obtain ⟨gm, ⟨es, clock, C⟩, hG⟩ := h.mp
  have cx := h.box.cells
  have zp := h.plt
  have HKO : Hid (∀ x ∈ es.toList, ∃ c : Cel, c.ok ∧ q c ≠ 0 ∧ x.key = cellV c ∧ x.val = .int .i64 (q c)) := fun x hx => by
    have h1 := C.val x hx
    obtain ⟨c, hc, hk⟩ := hG.dom _ _ h1
    have h2 := hG.at_ c hc
    rw [← hk, h1] at h2
    by_cases e : q c = 0
    · rw [if_pos e] at h2; cases h2
    · rw [if_neg e] at h2
      injection h2 with h2
      exact ⟨c, hc, e, hk, h2⟩
  have HAL : Hid (∀ c : Cel, c.ok → q c ≠ 0 → ∃ x ∈ es.toList, x.key = cellV c) := fun c hc hne => by
    have h2 := hG.at_ c hc
    rw [if_neg hne] at h2
    exact C.dom _ _ h2
  have HN := Lib.hid C.nod
  have HLT := Lib.hid C.lt
  have hes : es.size ≤ 1000 := by
    have h1 : (es.toList.map (·.key)).length ≤ (cs.map cellV).length := nodup_le C.apart fun v hv => by
      obtain ⟨x, hx, rfl⟩ := List.mem_map.1 hv
      obtain ⟨c, h1, h2, h3, _⟩ := HKO.out x hx
      rw [h3]
      exact List.mem_map_of_mem (hq c h1 h2)
    have h4 : es.toList.length = es.size := Array.length_toList
    rw [List.length_map, List.length_map] at h1
    omega
  have HHB : Hid ((W.alloc (.map #[] 0)).heap[b]? = some (.map es clock)) := (Below.heap_alloc _ _ _ (Array.getElem?_eq_some_iff.1 C.heap).1).trans C.heap
  have hbl : b < W.heap.size := (Array.getElem?_eq_some_iff.1 C.heap).1
  have HK : Hid (∀ x ∈ es.toList, ∃ c : Cel, x.key = .agg #[.string c.leg.key.car, .int .i64 c.leg.key.num, .int .i64 c.leg.day, .int .u8 c.cl]) := fun x hx => by obtain ⟨c, _, _, h, _⟩ := HKO.out x hx; exact ⟨c, h⟩
  have HV : Hid (∀ x ∈ es.toList, ∃ z : Int, x.val = .int .i64 z) := fun x hx => by obtain ⟨c, _, _, _, h⟩ := HKO.out x hx; exact ⟨_, h⟩
  have hmm := @run_makeMap Tryz.prog
  clear h C hG hq hcs
  go_enter Tryz.func23, Tryz.ntmps23
  go_wp2_with (first
    | (at_range; refine wpList_range_rg rfl _ rfl Tryz.underlying103 rfl HHB.out HLT.out ?_; intro w0 hrg0 hb0)
    | go_in)
  go_frame
  have hs0 : (W.alloc (.map #[] 0)).heap.size = W.heap.size + 1 := by simp
  rw [hs0] at hrg0 hb0
  have HS0 := Lib.hid hs0
  clear hs0
  have hc0 : CntK Tryz.prog 27 w0 W.heap.size (fun _ => 0) (fun v => ∃ x ∈ ([] : List MapEntry), ∃ c : Cel, c.ok ∧ x.key = cellV c ∧ v = legV c.leg) := (CntK.made W).keep (hb0.block _ (by omega))
  have hB0 : Below W.heap.size W w0 := ((Below.refl _ _).alloc (Nat.le_refl _) _).trans (hb0.mono (by omega))
  clear cx hmm
  go_loopw [4] (fun _ wr => ∃ (seen : Array Nat) (ls : List MapEntry) (f : Value → Int), Rg wr b (W.heap.size + 1) es clock seen ∧ Hid (Come es seen ls) ∧ CL W W.heap.size ls f wr ∧ Below W.heap.size W wr)
    (fun _ wr => (leftOf es (wr.iterSeen (W.heap.size + 1))).size)
  case atStart => exact ⟨_, [], fun _ => 0, hrg0, Come.start es, ⟨hc0, by simp, fun v => by simp⟩, hB0⟩
  case round =>
    clear hrg0 hb0 hc0 hB0
    obtain ⟨seen, ls, f, hrg, HC, hCL, hB⟩ := hrel
    have HCLp := Lib.hid hCL.pos
    have HCLb := Lib.hid hCL.bound
    have hcnt := hCL.cnt
    have hzr := hrg.rlt
    clear hCL
    go_wp2_with (first
      | (at_next; refine wpList_next_rg (r := W.heap.size + 1) rfl _ rfl (fun c : Cel => .agg #[.string c.leg.key.car, .int .i64 c.leg.key.num, .int .i64 c.leg.day, .int .u8 c.cl]) (Value.int .i64) (by rw [← HS0.out]; rfl) hrg HN.out HK.out HV.out ?_ ?_)
      | go_in)
    · intro hl0
      have hl0' : (leftOf es seen).size = 0 := by simpa using hl0
      have HP := Lib.hid (HC.out.all HN.out hl0')
      obtain ⟨e2, c2, C2, hD⟩ := hcnt
      have HD := Lib.hid hD
      have hM : LgM wr W.heap.size e2 c2 := by
        refine ⟨C2.heap, C2.lt, C2.nod, C2.apart, fun x hx => ?_, fun x hx => ⟨_, C2.val x hx⟩, ?_⟩
        · obtain ⟨y, hy, c, h1, h2, h3⟩ := HD.out x hx
          exact ⟨c.leg, h1.1, h3⟩
        · have h1 : (e2.toList.map (·.key)).length ≤ (ls.map fun x => popV x.key).length := nodup_le C2.apart fun v hv => by
            obtain ⟨x, hx, rfl⟩ := List.mem_map.1 hv
            obtain ⟨y, hy, c, h1, h2, h3⟩ := HD.out x hx
            exact List.mem_map.2 ⟨y, hy, by rw [h2, popV_cell, h3]⟩
          have h4 : e2.toList.length = e2.size := Array.length_toList
          have h5 := HP.out.length_eq
          have h6 : es.toList.length = es.size := Array.length_toList
          rw [List.length_map, List.length_map] at h1
          omega
      have HPS : Hid (∀ g : Leg, (∃ x ∈ e2.toList, x.key = legV g) ↔ ∃ c : Cel, c.ok ∧ q c ≠ 0 ∧ c.leg = g) := fun g => by
        constructor
        · rintro ⟨x, hx, hk⟩
          obtain ⟨y, hy, c, h1, h2, h3⟩ := HD.out x hx
          obtain ⟨c', h4, h5, h6, _⟩ := HKO.out y (HP.out.mem_iff.1 hy)
          rw [cellV_inj (h6.symm.trans h2)] at h5
          exact ⟨c, h1, h5, legV_inj (h3.symm.trans hk)⟩
        · rintro ⟨c, h1, h2, rfl⟩
          obtain ⟨y, hy, hk⟩ := HAL.out c h1 h2
          have h3 := HCLp.out y (HP.out.mem_iff.2 hy) c hk
          refine Classical.byContradiction fun hno => ?_
          have h4 := C2.zero (legV c.leg) fun x hx e => hno ⟨x, hx, e⟩
          omega
      clear hl0 hl0' HP C2 hD HC hrg
      go_wp2_with fail
      refine (rising_any W.heap.size e2 c2 wr hM).mono ?_
      rintro e w1 ⟨A, n, c, out, rfl, ho, r1, r2, hb1⟩
      have HO := Lib.hid ho
      have hzz := hB.size
      clear ho hM
      go_wp2
      go_ret
      exact ⟨A, n, c, out, rfl, HO.out.more hzz, r1, fun g => (r2 g).trans (HPS.out g), hB.trans (hb1.mono hzz)⟩
    · intro x c z w2 hx0 hkey hval hrg2 hg2 hs2 hen
      have hx : x ∈ (leftOf es seen).toList := by simpa using hx0
      have HC2 := Lib.hid (HC.out.step HN.out hx)
      have HX := Lib.hid (left_shrinks es seen x hx)
      have HSE := Lib.hid hrg.seen_eq
      have hll : ls.length < es.size := HC.out.len HN.out hx
      have hok : c.ok := by
        obtain ⟨c', h1, _, h3, _⟩ := HKO.out x (mem_left hx).1
        rw [← cellV_inj (h3.symm.trans hkey)]
        exact h1
      have HOK := Lib.hid hok
      have HKEY : Hid (x.key = cellV c) := hkey
      obtain ⟨⟨⟨kc, kn⟩, d⟩, cl⟩ := c
      have hcnt2 := hcnt.keep (hg2.block W.heap.size (by omega) (by simp))
      have hB2 : Below W.heap.size W w2 := hB.grown hg2 hB.size (fun k e => by cases e; omega)
      have hz2 := hB2.size
      have hzr2 := hrg2.rlt
      dsimp only
      clear hx0 hx hkey hval hs2 hcnt hg2 hrg HC hok
      go_upto_region 5 with fail
      refine wp_world (fun V => Bx V w2.heap.size #[.string kc, .int .i64 kn, .int .i64 d, .int .u8 cl] 108 ∧ Rg V b (W.heap.size + 1) es clock (seen.push x.born) ∧ CntK Tryz.prog 27 V W.heap.size f (fun v => ∃ x ∈ ls, ∃ c : Cel, c.ok ∧ x.key = cellV c ∧ v = legV c.leg) ∧ Below W.heap.size W V)
        ⟨Bx.new _ _ _, hrg2.keep (Below.heap_alloc _ _ _ hzr2) (Below.heap_alloc _ _ _ hrg2.blt), hcnt2.keep (Below.heap_alloc _ _ _ (by omega)), hB2.alloc hB2.size _⟩ ?_
      clear hrg2 hcnt2 hB2 hen
      rintro V ⟨bx, hrg, hcnt, hB⟩
      obtain ⟨kl, hkl⟩ := legKey ⟨⟨kc, kn⟩, d⟩ HOK.out.1
      obtain ⟨st, W1, W2, f1, f2, f3, f4, hm2, hg1, hg2, hsz⟩ := (hcnt.keep (w' := V.drew) rfl).inc (t := 118) (e := 3) lawLeg Tryz.underlying118 zeroInt hkl
      have hne : w2.heap.size ≠ W.heap.size := by omega
      have c1 := bx.cells
      have bx1 : Bx W1 w2.heap.size #[.string kc, .int .i64 kn, .int .i64 d, .int .u8 cl] 108 := (hg1.block _ bx.lt (by simp; omega)).trans bx
      have c2 := bx1.cells
      have HCL2 := Lib.hid (CL.next (W := W) (wr := V) (c := ⟨⟨⟨kc, kn⟩, d⟩, cl⟩) HCLp.out HCLb.out HOK.out HKEY.out hm2)
      have hrg3 : Rg W2 b (W.heap.size + 1) es clock (seen.push x.born) := hrg.keep ((hg2.block _ hrg.rlt (by simp))) ((hg2.block _ hrg.blt (by simp; omega)))
      have hB3 : Below W.heap.size W W2 := (hB.drew).grown hg2 hB.size (fun k e => by cases e; omega)
      have hfb := HCLb.out (legV ⟨⟨kc, kn⟩, d⟩)
      simp only [goInt] at f1 f2 f3 f4
      generalize hfm : f (legV ⟨⟨kc, kn⟩, d⟩) = fm at f1 f2 f3 f4 hfb
      simp only [legV] at f1 f2 f3 f4
      have HR3 := Lib.hid hrg3
      have HB3 := Lib.hid hB3
      clear hfm hm2 hg1 hg2 hsz hrg3 hB3 bx bx1 hcnt hrg hB hkl
      obtain ⟨hf0, hf1⟩ := hfb
      have hw : IntKind.i64.wrap (fm + 1) = fm + 1 := IntWalk.i64_in _ (by omega)
      go_region
      all_goals
        go_wp2
        exact ⟨⟨_, HR3.out, ls ++ [x], HC2, ⟨_, HCL2.out⟩, HB3.out⟩, by rw [HR3.out.seen_eq, HSE.out]; exact HX.out⟩
end Go.Proofs.YtlkdefmceghmnaaGreat
