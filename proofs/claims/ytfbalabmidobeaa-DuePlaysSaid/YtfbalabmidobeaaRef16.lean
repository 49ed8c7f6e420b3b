/- The document's list of law 16: Drop, Set, At, Ripe. -/
import Derived.Test.YtfbalabmidobeaaDueC
import Derived.Deep.DeepCutAuto
import Derived.Deep.QuietTactic
import Derived.BigQuiet
import Derived.BigGuardPart
namespace Go.Proofs.Ytfbalabmidobeaa
set_option linter.unusedVariables false
open Go Go.RowKit Go.Sort Go.Shelf
def It.ok (x : It) : Prop := okStr x.name ∧ okInt x.mom
def tItm : Ty It := ⟨fun x => [.string x.name, .int .i64 x.mom], 2, It.ok, fun _ => rfl, fun x u h => by simp at h; rcases h with h | h <;> subst h <;> rfl, by omega⟩
theorem sl_itm : SlT Try.prog 38 47 2 := SlT.mk' (z := .agg #[.string ⟨#[]⟩, .int .i64 0]) (b := 24) (by kernel_rfl) (by kernel_rfl) (by omega) rfl
theorem Sl.itm {w : World} {lo hi n : Nat} {A : Option Addr} {l : List It} (h : Sl w lo hi tItm A n l) {k : Nat} (hk : k < n) :
    ∃ b o x, A = some ⟨b, o, none⟩ ∧ lo ≤ b ∧ b < hi ∧ Hid (l[k]? = some x) ∧ It.ok x ∧ w.cell? ⟨b, o + k * 2, none⟩ = some (.string x.name) ∧ w.cell? ⟨b, o + k * 2 + 1, none⟩ = some (.int .i64 x.mom) := by
  obtain ⟨b, o, x, h1, h2, h3, h4, h5, hc⟩ := h.at_ hk
  exact ⟨b, o, x, h1, h2, h3, h4, h5, by simpa [tItm] using hc 0 _ rfl, by simpa [tItm] using hc 1 _ rfl⟩
theorem take_next {α : Type} {l : List α} {k : Nat} {x : α} (h : l[k]? = some x) : l.take (k + 1) = l.take k ++ [x] := by rw [List.take_add_one, h]; rfl
theorem dropF_next {l : List It} {k : Nat} {x : It} {s : ByteArray} (h : l[k]? = some x) : dropF (l.take (k + 1)) s = dropF (l.take k) s ++ (if x.name = s then [] else [x]) := by
  rw [take_next h]
  unfold dropF
  rw [List.filter_append]
  by_cases e : x.name = s <;> simp [e]
theorem hasF_next {l : List It} {k : Nat} {x : It} {s : ByteArray} (h : l[k]? = some x) : hasF (l.take (k + 1)) s = (hasF (l.take k) s || decide (x.name = s)) := by
  rw [take_next h]
  unfold hasF
  rw [List.any_append]
  simp
set_option maxRecDepth 100000 in
set_option maxHeartbeats 2000000 in
theorem rdrop_any (l : List It) (A : Option Addr) (n c : Nat) (s : ByteArray) (w : World) (lo hi : Nat) (hs : Sl w lo hi tItm A n l) (hn : n ≤ 100000) (hhi : hi ≤ w.heap.size) :
    Calls Try.prog 17 #[.slice A n c, .string s] w fun e w' => ∃ v, e = .returned (.tuple #[v, .bool (hasF l s)]) ∧ Own w' w.heap.size 47 tItm v (dropF l s) ∧ Below w.heap.size w w' := by
  have HS := Lib.hid hs
  have hl := hs.len
  clear hs
  go_enter Try.func17, Try.ntmps17
  go_wp2
  go_loopw [6, 7, 8] (fun v hv i wr => ∃ k : Nat, k ≤ n ∧ i = .int .i64 k ∧ hv = .bool (hasF (l.take k) s) ∧ Own wr w.heap.size 47 tItm v (dropF (l.take k) s) ∧ Below w.heap.size w wr) (fun _ _ i _ => n - (intOf i).toNat)
  case atStart => exact ⟨0, Nat.zero_le _, rfl, rfl, Own.nil_ _ _ _ _, Below.refl _ _⟩
  case round =>
    obtain ⟨k, hk, rfl, rfl, ho, hb⟩ := hrel
    have HO := Lib.hid ho
    have HB := Lib.hid hb
    have hBz := hb.size
    clear ho hb
    by_cases hlt : k < n
    · obtain ⟨b', o, x, rfl, _, hb', hx, hok, c0, c1⟩ := HS.out.itm hlt
      have hb2 : b' < w.heap.size := by omega
      replace c0 := (HB.out.cell (p := ⟨b', o + k * 2, none⟩) hb2).trans c0
      replace c1 := (HB.out.cell (p := ⟨b', o + k * 2 + 1, none⟩) hb2).trans c1
      have hk0 : (0 : Int) ≤ k := by omega
      have hk1 : (k : Int) < n := by omega
      have HD := Lib.hid (dropF_next (s := s) hx.out)
      have HH := Lib.hid (hasF_next (s := s) hx.out)
      have heq : (x.name.toList == s.toList) = decide (x.name = s) := eqL _ _
      have hle : (dropF (l.take k) s).length < 2147483640 := by
        have h1 : (dropF (l.take k) s).length ≤ (l.take k).length := List.length_filter_le _ _
        rw [List.length_take] at h1
        omega
      by_cases h : x.name = s
      · rw [decide_eq_true h] at heq HH
        rw [if_pos h, List.append_nil] at HD
        clear h
        go_wp2
        exact ⟨⟨k + 1, by omega, by go_num, by rw [HH.out, Bool.or_true], by rw [HD.out]; exact HO.out, HB.out⟩, by simp [intOf]; omega⟩
      · rw [decide_eq_false h] at heq HH
        rw [if_neg h] at HD
        clear h
        go_wp2_with (at_builtin; refine push_told rfl (.tmp 22) (.tmp 27) rfl sl_itm rfl HO.out x hok _ rfl (by simp [Act.eval]) hBz hle ?_; intro v' w1 ho2 hg hor; have HO2 := Lib.hid ho2; have HB2 := Lib.hid (HB.out.grown hg hBz (fun k e => (HO.out.lt k e).1)); clear ho2 hg hor)
        exact ⟨⟨k + 1, by omega, by go_num, by rw [HH.out, Bool.or_false], by rw [HD.out]; exact HO2.out, HB2.out⟩, by simp [intOf]; omega⟩
    · obtain rfl : n = k := by omega
      go_wp2
      go_ret2
      have ht : l.take n = l := List.take_of_length_le (by omega)
      rw [ht]
      exact ⟨_, rfl, by have h := HO.out; rw [ht] at h; exact h, HB.out⟩
theorem atF_at {l : List It} {s : ByteArray} {k : Nat} {x : It} (h : l[k]? = some x) (hn : ∀ y ∈ l.take k, y.name ≠ s) (hx : x.name = s) : atF l s = some x := by
  obtain ⟨hk, hxx⟩ := List.getElem?_eq_some_iff.1 h
  have h1 : l = l.take k ++ x :: l.drop (k + 1) := by
    rw [← hxx, ← List.drop_eq_getElem_cons hk, List.take_append_drop]
  unfold atF
  rw [h1, List.find?_append, List.find?_eq_none.2 (fun y hy => by simpa using hn y hy)]
  simp [hx]
set_option maxRecDepth 100000 in
set_option maxHeartbeats 2000000 in
theorem rat_any (l : List It) (A : Option Addr) (n c : Nat) (s : ByteArray) (w : World) (lo hi : Nat) (hs : Sl w lo hi tItm A n l) (hn : n ≤ 100000) {o : Option It} (ho : atF l s = o) :
    Calls Try.prog 20 #[.slice A n c, .string s] w fun e w' => e = .returned (.tuple #[.int .i64 (momF o), .bool o.isSome]) ∧ w = w' := by
  subst ho
  have HS := Lib.hid hs
  have hl := hs.len
  clear hs
  go_enter Try.func20, Try.ntmps20
  go_wp2
  go_loop [6] (fun i => ∃ k : Nat, k ≤ n ∧ i = .int .i64 k ∧ Hid (∀ y ∈ l.take k, y.name ≠ s)) (fun i => n - (intOf i).toNat)
  case atStart => exact ⟨0, Nat.zero_le _, rfl, fun y hy => by simp at hy⟩
  case round =>
    obtain ⟨k, hk, rfl, HN⟩ := hrel
    by_cases hlt : k < n
    · obtain ⟨b', o, x, rfl, _, hb', hx, hok, c0, c1⟩ := HS.out.itm hlt
      have hk0 : (0 : Int) ≤ k := by omega
      have hk1 : (k : Int) < n := by omega
      have heq : (x.name.toList == s.toList) = decide (x.name = s) := eqL _ _
      by_cases h : x.name = s
      · rw [decide_eq_true h] at heq
        have HA := Lib.hid (atF_at hx.out HN.out h)
        clear h
        go_wp2
        go_ret2
        rw [HA.out]
        exact ⟨rfl, rfl⟩
      · rw [decide_eq_false h] at heq
        have HN2 : Hid (∀ y ∈ l.take (k + 1), y.name ≠ s) := fun y hy => by
          rw [take_next hx.out, List.mem_append, List.mem_singleton] at hy
          rcases hy with hy | rfl
          · exact HN.out y hy
          · exact h
        clear h
        go_wp2
        exact ⟨⟨k + 1, by omega, by go_num, HN2⟩, by simp [intOf]; omega⟩
    · obtain rfl : n = k := by omega
      have HA : Hid (atF l s = none) := atF_none fun y hy => HN.out y (by rw [List.take_of_length_le (by omega)]; exact hy)
      go_wp2
      go_ret2
      rw [HA.out]
      exact ⟨rfl, rfl⟩
theorem ripe_stop {l : List It} {now : Int} {k : Nat} {x : It} (hx : l[k]? = some x) (hp : ∀ y ∈ l.take k, y.mom ≤ now) (h : now < x.mom) : ripeF l now = l.take k ∧ restF l now = l.drop k := by
  obtain ⟨hk, hxx⟩ := List.getElem?_eq_some_iff.1 hx
  obtain ⟨h1, h2⟩ := ripe_app now (l.drop k) (l.take k) hp
  rw [List.take_append_drop] at h1 h2
  have h3 := (restF_cons x (l.drop (k + 1)) now).2 (by omega)
  rw [← hxx, ← List.drop_eq_getElem_cons hk] at h3
  rw [h1, h2, h3.1, h3.2, List.append_nil]
  exact ⟨rfl, rfl⟩
theorem ripe_full {l : List It} {now : Int} (hp : ∀ y ∈ l, y.mom ≤ now) : ripeF l now = l ∧ restF l now = [] := by
  obtain ⟨h1, h2⟩ := ripe_app now [] l hp
  rw [List.append_nil] at h1 h2
  exact ⟨h1.trans (List.append_nil l), h2⟩
/-- What Ripe hands back. -/
def RipeQ (w : World) (lo hi : Nat) (l : List It) (now : Int) (e : Ending) (w' : World) : Prop :=
  ∃ v A n c, e = .returned (.tuple #[v, .slice A n c]) ∧ Own w' w.heap.size 9 tStr v ((ripeF l now).map (·.name)) ∧ Sl w lo hi tItm A n (restF l now) ∧ n ≤ c ∧ c ≤ maxLen ∧ (A = none → c = 0) ∧ Below w.heap.size w w'
set_option maxRecDepth 100000 in
set_option maxHeartbeats 2000000 in
theorem rripe_any (l : List It) (A : Option Addr) (n c : Nat) (now : Int) (w : World) (lo hi : Nat) (hs : Sl w lo hi tItm A n l) (hn : n ≤ 100000) (hhi : hi ≤ w.heap.size) (hc : n ≤ c) (hc2 : c ≤ maxLen) :
    Calls Try.prog 18 #[.slice A n c, .int .i64 now] w (RipeQ w lo hi l now) := by
  have HS := Lib.hid hs
  have hl := hs.len
  have hc3 : (c : Int) ≤ 9223372036854775807 := by unfold maxLen at hc2; omega
  clear hs
  go_enter Try.func18, Try.ntmps18
  go_wp2
  go_loopw [6, 7] (fun v i wr => ∃ k : Nat, k ≤ n ∧ i = .int .i64 k ∧ Hid (∀ y ∈ l.take k, y.mom ≤ now) ∧ Own wr w.heap.size 9 tStr v ((l.take k).map (·.name)) ∧ Below w.heap.size w wr) (fun _ i _ => n - (intOf i).toNat)
  case atStart => exact ⟨0, Nat.zero_le _, rfl, fun y hy => by simp at hy, Own.nil_ _ _ _ _, Below.refl _ _⟩
  case round =>
    obtain ⟨k, hk, rfl, HP, ho, hb⟩ := hrel
    have HO := Lib.hid ho
    have HB := Lib.hid hb
    have hBz := hb.size
    clear ho hb
    by_cases hlt : k < n
    · obtain ⟨b', o, x, rfl, _, hb', hx, hok, c0, c1⟩ := HS.out.itm hlt
      have hb2 : b' < w.heap.size := by omega
      replace c0 := (HB.out.cell (p := ⟨b', o + k * 2, none⟩) hb2).trans c0
      replace c1 := (HB.out.cell (p := ⟨b', o + k * 2 + 1, none⟩) hb2).trans c1
      have hk0 : (0 : Int) ≤ k := by omega
      have hk1 : (k : Int) < n := by omega
      have hkc : (k : Int) ≤ c := by omega
      have hkn : (k : Int) ≤ n := by omega
      have hle : ((l.take k).map (·.name)).length < 2147483640 := by rw [List.length_map, List.length_take]; omega
      by_cases h : now < x.mom
      · have HR := Lib.hid (ripe_stop hx.out HP.out h)
        have hck : ¬ c = k := by omega
        go_wp2
        go_quiet (fail)
        go_wp2
        go_ret2
        exact ⟨_, _, n - k, c - k, rfl, by rw [HR.out.1]; exact HO.out.keep (below_drewN (Below.refl _ _) _), by rw [HR.out.2]; exact HS.out.drop_ (by omega), by omega, by omega, (fun h => by cases h), below_drewN HB.out _⟩
      · have HP2 : Hid (∀ y ∈ l.take (k + 1), y.mom ≤ now) := fun y hy => by
          rw [take_next hx.out, List.mem_append, List.mem_singleton] at hy
          rcases hy with hy | rfl
          · exact HP.out y hy
          · omega
        have HT : Hid ((l.take (k + 1)).map (·.name) = (l.take k).map (·.name) ++ [x.name]) := by show _ = _; rw [take_next hx.out, List.map_append]; rfl
        go_wp2_with (at_builtin; refine push_told rfl (.tmp 25) (.tmp 31) rfl sl_str rfl HO.out x.name hok.1 #[.string x.name] rfl (by simp [Act.eval]) hBz hle ?_; intro v' w1 ho2 hg hor; have HO2 := Lib.hid ho2; have HB2 := Lib.hid (HB.out.grown hg hBz (fun k e => (HO.out.lt k e).1)); clear ho2 hg hor)
        exact ⟨⟨k + 1, by omega, by go_num, HP2, by rw [HT.out]; exact HO2.out, HB2.out⟩, by simp [intOf]; omega⟩
    · obtain rfl : n = k := by omega
      have ht : l.take n = l := List.take_of_length_le (by omega)
      have HR := Lib.hid (ripe_full (l := l) (now := now) fun y hy => HP.out y (by rw [ht]; exact hy))
      replace ht := Lib.hid ht
      go_wp2
      go_ret2
      have h := HO.out
      rw [ht.out] at h
      exact ⟨_, none, 0, 0, rfl, by rw [HR.out.1]; exact h, by rw [HR.out.2]; exact ⟨rfl, fun x hx => absurd hx List.not_mem_nil, fun h => absurd h (Nat.lt_irrefl _)⟩, Nat.le_refl _, Nat.zero_le _, fun _ => rfl, HB.out⟩
set_option maxRecDepth 100000 in
theorem rset_bad (A : Option Addr) (n c : Nat) (s : ByteArray) (m : Int) (w : World) (hm : isMom m = false) :
    Calls Try.prog 16 #[.slice A n c, .string s, .int .i64 m] w fun e w' => e = .returned (.tuple #[.slice A n c, .bool false]) ∧ w = w' := by
  have h : m < 0 ∨ ¬ m < 0 ∧ 527039 < m := by
    by_cases h1 : m < 0
    · exact .inl h1
    · refine .inr ⟨h1, ?_⟩
      simp [isMom] at hm
      omega
  rcases h with h | ⟨h, h2⟩
  · go_enter Try.func16, Try.ntmps16
    go_wp2
    go_ret2
    exact ⟨rfl, rfl⟩
  · go_enter Try.func16, Try.ntmps16
    go_wp2
    go_ret2
    exact ⟨rfl, rfl⟩
theorem ins_step (x y : It) (l t acc : List It) (d : Bool) {k : Nat} (hx : t[k]? = some y) (h : l = acc ++ (if d then t.drop k else insF x (t.drop k))) :
    l = (acc ++ (if (!d && ltI x y) then [x, y] else [y])) ++ (if (d || ltI x y) then t.drop (k + 1) else insF x (t.drop (k + 1))) := by
  obtain ⟨hk, hxx⟩ := List.getElem?_eq_some_iff.1 hx
  rw [h, List.drop_eq_getElem_cons hk, hxx]
  cases d
  · simp only [insF]
    cases ltI x y <;> simp
  · simp
set_option maxRecDepth 100000 in
set_option maxHeartbeats 4000000 in
theorem rset_any (l : List It) (A : Option Addr) (n c : Nat) (s : ByteArray) (m : Int) (w : World) (lo hi : Nat) (hs : Sl w lo hi tItm A n l) (hn : n ≤ 100000) (hhi : hi ≤ w.heap.size) (hok : okStr s) (hm : isMom m = true) :
    Calls Try.prog 16 #[.slice A n c, .string s, .int .i64 m] w fun e w' => ∃ v, e = .returned (.tuple #[v, .bool true]) ∧ Own w' w.heap.size 47 tItm v (setF l s m) ∧ Below w.heap.size w w' := by
  have hmm : 0 ≤ m ∧ m ≤ 527039 := by simpa [isMom] using hm
  have HOX : Hid (It.ok ⟨s, m⟩) := ⟨hok, by unfold okInt; show _ ≤ m ∧ m ≤ _; omega⟩
  have hln : (dropF l s).length ≤ n := by
    have h := hs.len
    have h1 : (dropF l s).length ≤ l.length := List.length_filter_le _ _
    omega
  have HS := Lib.hid hs
  have HI : Hid (setF l s m = insF ⟨s, m⟩ (dropF l s)) := rfl
  clear hs hm hok
  have hm1 : ¬ m < 0 := by omega
  have hm2 : ¬ (527039 : Int) < m := by omega
  go_enter Try.func16, Try.ntmps16
  go_wp2_with fail
  refine (rdrop_any l A n c s w lo hi HS.out hn hhi).mono ?_
  rintro e w2 ⟨v, rfl, ho, hb⟩
  generalize dropF l s = L at *
  obtain ⟨A1, c1, rfl⟩ := ho.form
  have S2 := Lib.hid ho.sl
  have B2 := Lib.hid hb
  have hz := hb.size
  have hA1 := Lib.hid (own_le ho)
  clear ho hb HS hm1 hm2
  generalize hnL : L.length = nL at *
  replace hnL := Lib.hid hnL
  go_wp2
  go_loopw [8, 9, 10] (fun v dn i wr => ∃ (k : Nat) (d : Bool) (acc : List It), k ≤ nL ∧ i = .int .i64 k ∧ dn = .bool d ∧ Hid (insF ⟨s, m⟩ L = acc ++ (if d then L.drop k else insF ⟨s, m⟩ (L.drop k))) ∧ acc.length ≤ 2 * k ∧ Own wr w2.heap.size 47 tItm v acc ∧ Below w2.heap.size w2 wr) (fun _ _ i _ => nL - (intOf i).toNat)
  case atStart => exact ⟨0, false, [], Nat.zero_le _, rfl, rfl, rfl, Nat.le_refl _, Own.nil_ _ _ _ _, Below.refl _ _⟩
  case round =>
    obtain ⟨k, d, acc, hk, rfl, rfl, HQ, hacc, ho, hb⟩ := hrel
    have HO := Lib.hid ho
    have HB := Lib.hid hb
    have hBz := hb.size
    clear ho hb
    by_cases hlt : k < nL
    · obtain ⟨b', o, y, rfl, _, hb', hx, hok, c0, c1'⟩ := S2.out.itm hlt
      have hb2 : b' < w2.heap.size := by omega
      replace c0 := (HB.out.cell (p := ⟨b', o + k * 2, none⟩) hb2).trans c0
      replace c1' := (HB.out.cell (p := ⟨b', o + k * 2 + 1, none⟩) hb2).trans c1'
      have hk0 : (0 : Int) ≤ k := by omega
      have hk1 : (k : Int) < nL := by omega
      have HST := Lib.hid (ins_step ⟨s, m⟩ y _ L acc d hx.out HQ.out)
      have HOK := Lib.hid hok
      have HLI := Lib.hid (show ltI ⟨s, m⟩ y = _ from rfl)
      clear hok hx
      go_upto_region 9 with fail
      go_cut [58] (fun sv w' => sv = .bool (!d && ltI ⟨s, m⟩ y) ∧ wr = w')
      case first =>
        cases d with
        | true =>
          go_wp2
          go_meet
          exact ⟨rfl, rfl⟩
        | false =>
          by_cases h1 : m < y.mom
          · have hl : ltI ⟨s, m⟩ y = true := (ltI_iff _ _).2 (.inl h1)
            replace hl := Lib.hid hl
            go_wp2
            go_meet
            exact ⟨by rw [hl.out]; rfl, rfl⟩
          · by_cases h2 : m = y.mom
            · have q2 : (m == y.mom) = true := beq_iff_eq.2 h2
              have q3 : Op.bytesLess s.toList y.name.toList = ltI ⟨s, m⟩ y := by
                show ltS s y.name = _
                unfold ltI
                simp [h2]
              cases hl : ltI ⟨s, m⟩ y with
              | true =>
                rw [hl] at q3
                replace hl := Lib.hid hl
                clear h2
                go_wp2
                go_meet
                exact ⟨by rw [hl.out]; rfl, rfl⟩
              | false =>
                rw [hl] at q3
                replace hl := Lib.hid hl
                clear h2
                go_wp2
                go_meet
                exact ⟨by rw [hl.out]; rfl, rfl⟩
            · have q2 : (m == y.mom) = false := beq_eq_false_iff_ne.2 h2
              have hl : ltI ⟨s, m⟩ y = false := by rw [ltI_no]; exact .inl (by show y.mom < m; omega)
              replace hl := Lib.hid hl
              clear h2
              go_wp2
              go_meet
              exact ⟨by rw [hl.out]; rfl, rfl⟩
      obtain ⟨rfl, rfl⟩ := hcut
      have hl1 : acc.length < 2147483640 := by omega
      have hl2 : (acc ++ [(⟨s, m⟩ : It)]).length < 2147483640 := by rw [List.length_append, List.length_singleton]; omega
      generalize hb1 : (!d && ltI ⟨s, m⟩ y) = b1 at *
      cases b1 with
      | true =>
        have HD : Hid ((d || ltI ⟨s, m⟩ y) = true) := by
          show _ = _
          have := hb1
          simp at this
          simp [this]
        have HS2 := HST.out
        rw [if_pos rfl, HD.out] at HS2
        replace HS2 := Lib.hid HS2
        replace hb1 := Lib.hid hb1
        clear HST
        go_wp2_with (first
          | (at_builtin; refine push_told rfl (.tmp 59) (.tmp 63) rfl sl_itm rfl HO.out ⟨s, m⟩ HOX.out _ rfl (by simp [Act.eval]) hBz hl1 ?_; intro v' w1 ho2 hg hor; have HO2 := Lib.hid ho2; have HB2 := Lib.hid (HB.out.grown hg hBz (fun k e => (HO.out.lt k e).1)); have hBz2 := HB2.out.size; replace c0 := (HB2.out.cell (p := ⟨b', o + k * 2, none⟩) hb2).trans ((HB.out.cell (p := ⟨b', o + k * 2, none⟩) hb2).symm.trans c0); replace c1' := (HB2.out.cell (p := ⟨b', o + k * 2 + 1, none⟩) hb2).trans ((HB.out.cell (p := ⟨b', o + k * 2 + 1, none⟩) hb2).symm.trans c1'); clear ho2 hg hor)
          | (at_builtin; refine push_told rfl (.tmp 65) (.tmp 70) rfl sl_itm rfl HO2.out y HOK.out _ rfl (by simp [Act.eval]) hBz2 hl2 ?_; intro v'' w3 ho3 hg3 hor3; have HO3 := Lib.hid ho3; have HB3 := Lib.hid (HB2.out.grown hg3 hBz2 (fun k e => (HO2.out.lt k e).1)); clear ho3 hg3 hor3))
        exact ⟨⟨k + 1, true, _, by omega, by go_num, rfl, HS2.out, by simp; omega, by have h := HO3.out; rw [List.append_assoc] at h; exact h, HB3.out⟩, by simp [intOf]; omega⟩
      | false =>
        have HD : Hid ((d || ltI ⟨s, m⟩ y) = d) := by
          show _ = _
          have := hb1
          cases d
          · simpa using this
          · rfl
        have HS2 := HST.out
        rw [if_neg (by simp), HD.out] at HS2
        replace HS2 := Lib.hid HS2
        clear HST
        go_wp2_with (at_builtin; refine push_told rfl (.tmp 65) (.tmp 70) rfl sl_itm rfl HO.out y HOK.out _ rfl (by simp [Act.eval]) hBz hl1 ?_; intro v' w1 ho2 hg hor; have HO2 := Lib.hid ho2; have HB2 := Lib.hid (HB.out.grown hg hBz (fun k e => (HO.out.lt k e).1)); clear ho2 hg hor)
        exact ⟨⟨k + 1, d, _, by omega, by go_num, rfl, HS2.out, by simp; omega, HO2.out, HB2.out⟩, by simp [intOf]; omega⟩
    · obtain rfl : nL = k := by omega
      have ht : L.drop nL = [] := List.drop_of_length_le (by rw [hnL.out]; exact Nat.le_refl _)
      have HQ2 := HQ.out
      rw [ht] at HQ2
      have hl1 : acc.length < 2147483640 := by omega
      cases d with
      | true =>
        have HE : Hid (setF l s m = acc) := by show _ = _; rw [HI.out, HQ2]; simp
        clear ht HQ2
        go_wp2
        go_ret2
        exact ⟨_, rfl, by rw [HE.out]; exact HO.out.more hz, B2.out.trans (HB.out.mono hz)⟩
      | false =>
        have HE : Hid (setF l s m = acc ++ [⟨s, m⟩]) := by show _ = _; rw [HI.out, HQ2]; simp [insF]
        clear ht HQ2
        go_wp2_with (at_builtin; refine push_told rfl (.tmp 74) (.tmp 78) rfl sl_itm rfl HO.out ⟨s, m⟩ HOX.out _ rfl (by simp [Act.eval]) hBz hl1 ?_; intro v' w1 ho2 hg hor; have HO2 := Lib.hid ho2; have HB2 := Lib.hid (HB.out.grown hg hBz (fun k e => (HO.out.lt k e).1)); clear ho2 hg hor)
        go_ret2
        exact ⟨_, rfl, by rw [HE.out]; exact HO2.out.more hz, B2.out.trans (HB2.out.mono hz)⟩
end Go.Proofs.Ytfbalabmidobeaa
