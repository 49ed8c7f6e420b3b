/- The document's Find, Flies, Level, New. -/
import Derived.Test.YtlkdefmceghmnaaGreatDoorFlPut2
namespace Go.Proofs.YtlkdefmceghmnaaGreatDoor
set_option linter.unusedVariables false
open Go Go.RowKit Go.Sort
theorem one_zf : (zf.all fun v => v.oneCell') = true := by simp [zf, Value.oneCell']
def FlR.key (r : FlR) : Key := r.f.key
/-- The first row of a key. -/
def findR (rl : List FlR) (k : Key) : Option FlR := rl.find? fun r => decide (r.key = k)
theorem findR_f : ∀ (rl : List FlR) (k : Key), findF (rl.map (·.f)) k = (findR rl k).map (·.f)
  | [], k => rfl
  | r :: rl, k => by
    unfold findF findR
    rw [List.map_cons, List.find?_cons, List.find?_cons]
    by_cases h : r.f.key = k
    · rw [decide_eq_true h, show decide (r.key = k) = true from decide_eq_true h]; rfl
    · rw [decide_eq_false h, show decide (r.key = k) = false from decide_eq_false h]; exact findR_f rl k
/-- No row has the key, so far. -/
def noKey (rl : List FlR) (k : Key) (n : Nat) : Prop := ∀ j r, j < n → rl[j]? = some r → r.key ≠ k
theorem findR_at {rl : List FlR} {k : Key} {n : Nat} {r : FlR} (h : noKey rl k n) (hx : rl[n]? = some r) (hk : r.key = k) : findR rl k = some r := by
  unfold findR
  induction n generalizing rl with
  | zero =>
    cases rl with
    | nil => cases hx
    | cons a t =>
      simp only [List.getElem?_cons_zero, Option.some.injEq] at hx
      subst hx
      rw [List.find?_cons, decide_eq_true hk]
  | succ n ih =>
    cases rl with
    | nil => cases hx
    | cons a t =>
      rw [List.find?_cons, decide_eq_false (h 0 a (by omega) rfl)]
      exact ih (fun j s hj hs => h (j + 1) s (by omega) (by simpa using hs)) (by simpa using hx)
theorem findR_no {rl : List FlR} {k : Key} (h : noKey rl k rl.length) : findR rl k = none := by
  unfold findR
  rw [List.find?_eq_none]
  intro r hr
  obtain ⟨j, hj⟩ := List.mem_iff_getElem?.1 hr
  simpa using h j r (List.getElem?_eq_some_iff.1 hj).1 hj
/-- A row that was found, or the row of no flight. -/
def RetF (w : World) (o : Option FlR) (e : Ending) (w' : World) : Prop :=
  match o with
  | some r => e = .returned (.tuple #[.agg #[.string r.f.car, .int .i64 r.f.num, .string r.f.frm, .string r.f.to_, .int .u8 r.f.days, .int .i64 r.f.dep, .int .i64 r.f.arr, .slice r.A r.n r.c, .int .i64 r.f.pln], .bool true]) ∧ Below w.heap.size w w'
  | none => e = .returned (.tuple #[.agg zf, .bool false]) ∧ Below w.heap.size w w'
set_option maxRecDepth 100000 in
set_option maxHeartbeats 4000000 in
theorem rfind_any (rl : List FlR) (A : Option Addr) (n c : Nat) (k : Key) (w : World) (lo hi : Nat) (hs : FlS w lo hi A n rl) (hn : n ≤ 100000) (hhi : hi ≤ w.heap.size) :
    Calls Tryz.prog 58 #[.slice A n c, .agg #[.string k.car, .int .i64 k.num]] w (RetF w (findR rl k)) := by
  have HS := Lib.hid hs
  have HL := Lib.hid hs.sl.len
  obtain ⟨kc, kn⟩ := k
  dsimp only
  have HB := one_box w #[.string kc, .int .i64 kn] 52 zf 55
  clear hs
  go_enter Tryz.func58, Tryz.ntmps58
  go_upto_region 1 with fail
  refine wp_world (fun W => Bx W w.heap.size #[.string kc, .int .i64 kn] 52 ∧ Bx W (w.heap.size + 1) zf 55 ∧ Below w.heap.size w W) HB ?_
  clear HB
  rintro W ⟨b1, b2, hb⟩
  go_wp2
  go_loopw [6] (fun i wr => ∃ j : Nat, j ≤ n ∧ i = .int .i64 j ∧ Hid (noKey rl ⟨kc, kn⟩ j) ∧ Bx wr w.heap.size #[.string kc, .int .i64 kn] 52 ∧ Bx wr (w.heap.size + 1) zf 55 ∧ Below w.heap.size w wr) (fun i _ => n - (intOf i).toNat)
  case atStart => exact ⟨0, by omega, rfl, fun j r hj => absurd hj (by omega), b1, b2, hb⟩
  case round =>
    clear b1 b2 hb
    obtain ⟨j, hj, rfl, HN, b1, b2, hb⟩ := hrel
    by_cases hlt : j < n
    · obtain ⟨b0, o0, s, hA, _, _, hx, hok, hcl, d0, d1, d2, d3, d4, d5, d6, d7, d8⟩ := (HS.out.below hb hhi).at_ hlt
      subst hA
      have c1 := b1.cells
      have i0 : (0 : Int) ≤ j := by omega
      have i1 : (j : Int) < n := by omega
      have hk := fun u => eql_key s.f.car kc s.f.num kn u
      have hdec : (decide (s.f.car = kc) && (decide (s.f.num = kn))) = decide (s.key = ⟨kc, kn⟩) := by unfold FlR.key Flt.key; rw [Bool.eq_iff_iff]; simp
      rw [hdec] at hk
      clear hdec
      generalize hq : decide (s.key = ⟨kc, kn⟩) = q at hk
      have HQ := Lib.hid hq
      clear hq
      rcases q with _ | _
      · have hno := Lib.hid (show noKey rl ⟨kc, kn⟩ (j + 1) from fun i r hi hr => by
          rcases Nat.lt_succ_iff_lt_or_eq.1 hi with h | h
          · exact HN.out i r h hr
          · rw [h, hx.out] at hr
            injection hr with hr
            subst hr
            simpa using HQ.out)
        go_wp2
        go_quiet (fail)
        go_wp2
        go_roundw
        case rel => exact ⟨j + 1, by omega, by go_num, hno, b1.drewN _, b2.drewN _, below_drewN hb _⟩
        case measure => simp [intOf]; omega
      · have hf := Lib.hid (findR_at HN.out hx.out (by simpa using HQ.out))
        go_wp2
        go_quiet (fail)
        go_wp2_with ((refine store_rf rfl (.tmp 4) (.tmp 23) rfl #[.string s.f.car, .int .i64 s.f.num, .string s.f.frm, .string s.f.to_, .int .u8 s.f.days, .int .i64 s.f.dep, .int .i64 s.f.arr, .slice s.A s.n s.c, .int .i64 s.f.pln] rfl rfl (b2.drewN _) rfl rfl (one_fw _ _ _ _) ?_))
        refine ret_fb Tryz.results58 ((b2.drewN _).row _) rfl rfl rfl rfl ?_
        unfold RetF
        rw [hf.out]
        exact ⟨rfl, below_setRow (below_drewN hb _) (by omega) _⟩
    · obtain rfl : n = j := by omega
      have hf := Lib.hid (findR_no (rl := rl) (k := ⟨kc, kn⟩) (by rw [HL.out]; exact HN.out))
      go_wp2_with ((refine store_rf rfl (.tmp 4) (.tmp 24) rfl zf rfl rfl b2 rfl rfl one_zf ?_))
      refine ret_fb Tryz.results58 (b2.row _) rfl rfl rfl rfl ?_
      unfold RetF
      rw [hf.out]
      exact ⟨rfl, below_setRow hb (by omega) _⟩
theorem findR_mem {rl : List FlR} {k : Key} {r : FlR} (h : findR rl k = some r) : r ∈ rl ∧ r.key = k := ⟨List.mem_of_find?_eq_some h, by simpa using List.find?_some h⟩
theorem fliesF_some {rl : List FlR} {g : Leg} {r : FlR} (h : findR rl g.key = some r) : fliesF (rl.map (·.f)) g = onB r.f g.day := by unfold fliesF; rw [findR_f, h]; rfl
theorem fliesF_none {rl : List FlR} {g : Leg} (h : findR rl g.key = none) : fliesF (rl.map (·.f)) g = false := by unfold fliesF; rw [findR_f, h]; rfl
set_option maxRecDepth 100000 in
set_option maxHeartbeats 4000000 in
theorem rflies_any (rl : List FlR) (A : Option Addr) (n c : Nat) (g : Leg) (w : World) (lo hi : Nat) (hs : FlS w lo hi A n rl) (hn : n ≤ 100000) (hhi : hi ≤ w.heap.size) :
    Calls Tryz.prog 57 #[.slice A n c, .agg #[.string g.key.car, .int .i64 g.key.num, .int .i64 g.day]] w (RetB w (fliesF (rl.map (·.f)) g)) := by
  have HS := Lib.hid hs
  obtain ⟨⟨kc, kn⟩, d⟩ := g
  dsimp only
  have HB := box1 w #[.string kc, .int .i64 kn, .int .i64 d] 74
  go_enter Tryz.func57, Tryz.ntmps57
  go_upto_region 1 with fail
  refine wp_world (fun W => Bx W w.heap.size #[.string kc, .int .i64 kn, .int .i64 d] 74 ∧ Below w.heap.size w W) HB ?_
  clear HB
  rintro W ⟨b1, hb⟩
  have c1 := b1.cells
  have z1 := b1.lt
  go_wp2_with fail
  refine (rfind_any rl A n c ⟨kc, kn⟩ W lo hi (hs.below hb hhi) hn (Nat.le_trans hhi hb.size)).mono ?_
  generalize hfr : findR rl ⟨kc, kn⟩ = fr
  have HF := Lib.hid hfr
  clear hfr
  intro e w1 hfind
  rcases fr with _ | r
  · obtain ⟨rfl, h1⟩ := hfind
    have b1' := b1.below h1 z1
    have hb1 := hb.trans (h1.mono hb.size)
    have hno := Lib.hid (fliesF_none (g := ⟨⟨kc, kn⟩, d⟩) HF.out)
    clear c1
    unfold zf
    go_wp2
    go_ret
    exact ⟨ret_bool hno.out.symm, hb1.alloc hb1.size _⟩
  · obtain ⟨rfl, h1⟩ := hfind
    have b1' := b1.below h1 z1
    have hb1 := hb.trans (h1.mono hb.size)
    have hyes := Lib.hid (fliesF_some (g := ⟨⟨kc, kn⟩, d⟩) HF.out)
    have hm := Lib.hid (hs.sl.wf r (findR_mem HF.out).1)
    clear c1
    have c2 := b1'.cells
    have z2 := b1'.lt
    go_wp2_with (go_at_call 84; refine (on_any r d _ hm.out.f.days).mono ?_; rintro e w2 ⟨rfl, h2⟩)
    go_ret
    exact ⟨ret_bool hyes.out.symm, (hb1.alloc hb1.size _).trans (h2.mono (by have := hb1.size; simp; omega))⟩
end Go.Proofs.YtlkdefmceghmnaaGreatDoor
