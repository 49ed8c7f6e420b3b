/- DuePlays: the walk. -/
import Derived.Test.YtfbalabmidobeaaRef16
import Derived.StillTailTactics
import Derived.IntWalk
import Derived.Deep.CutBlock
namespace Go.Proofs.Ytfbalabmidobeaa
set_option linter.unusedVariables false
open Go Go.RowKit Go.Sort Go.Shelf
/-- The due and the document's list side by side. -/
structure PL (w : World) (D : Nat) (S : Nat → Prop) (L : List It) (A : Option Addr) (n c k : Nat) (W : World) : Prop where
  d : DW W S D L
  s : ∀ b, S b → w.heap.size ≤ b ∧ b < W.heap.size
  m : ∃ lo hi, Sl W lo hi tItm A n L ∧ hi ≤ W.heap.size ∧ ∀ b, lo ≤ b → b < hi → ¬ S b
  c1 : n ≤ c
  c2 : c ≤ maxLen
  c3 : A = none → c = 0
  len : L.length ≤ k
  ok : ∀ x ∈ L, okStr x.name ∧ isMom x.mom = true
  b : Below w.heap.size w W
theorem Sl.kept {α : Type} {T : Ty α} {W W1 : World} {lo hi n : Nat} {A : Option Addr} {l : List α} (h : Sl W lo hi T A n l) (hb : Below W.heap.size W W1) (hz : hi ≤ W.heap.size) : Sl W1 lo hi T A n l :=
  h.kp (S := fun _ => False) (Kp.of hb) hz fun _ _ _ h => h
theorem PL.step {w W W1 : World} {D : Nat} {S : Nat → Prop} {L : List It} {A : Option Addr} {n c k : Nat} (h : PL w D S L A n c k W) (hb : Below W.heap.size W W1) : PL w D S L A n c k W1 := by
  obtain ⟨lo, hi, h1, h2, h3⟩ := h.m
  exact ⟨h.d.step hb, fun b hs => ⟨(h.s b hs).1, Nat.lt_of_lt_of_le (h.s b hs).2 hb.size⟩, ⟨lo, hi, h1.kept hb h2, Nat.le_trans h2 hb.size, h3⟩, h.c1, h.c2, h.c3, h.len, h.ok, RetB.step h.b hb⟩
/-- Both have taken a step; the list lies in a row of its own, made before the due's step. -/
theorem PL.own {w W W2 W3 : World} {D : Nat} {S S' : Nat → Prop} {L L' : List It} {A A' : Option Addr} {n c n' c' k : Nat} (h : PL w D S L A n c k W) (ho : Own W2 W.heap.size 47 tItm (.slice A' n' c') L') (hb : Below W.heap.size W W2)
    (hd : DW W3 S' D L') (hk : Kp S W2 W3) (hS : ∀ b, S' b → S b ∨ (W2.heap.size ≤ b ∧ b < W3.heap.size)) (hlen : L'.length ≤ k + 1) (hok : ∀ x ∈ L', okStr x.name ∧ isMom x.mom = true) : PL w D S' L' A' n' c' (k + 1) W3 := by
  obtain ⟨q1, q2, q3, _⟩ := own_le ho
  have z1 := hb.size
  have z2 := hk.size
  refine ⟨hd, fun b hb' => ?_, ⟨_, _, ho.sl.kp hk (Nat.le_refl _) (fun b h1 h2 h3 => by have := (h.s b h3).2; omega), z2, fun b h1 h2 h3 => ?_⟩, q1, q2, q3, hlen, hok, hk.below (RetB.step h.b hb) (Nat.le_refl _) fun b _ h3 => (h.s b h3).1⟩
  · rcases hS b hb' with h3 | h3
    · have := h.s b h3; omega
    · have := h.b.size; omega
  · rcases hS b h3 with h4 | h4
    · have := (h.s b h4).2; omega
    · omega
/-- The due alone has taken a step. -/
theorem PL.due {w W W3 : World} {D : Nat} {S S' : Nat → Prop} {L L' : List It} {A A' : Option Addr} {n c n' c' k : Nat} {lo hi : Nat} (h : PL w D S L A n c k W) (hs : Sl W lo hi tItm A' n' L') (hz : hi ≤ W.heap.size) (hn : ∀ b, lo ≤ b → b < hi → ¬ S b) (q1 : n' ≤ c') (q2 : c' ≤ maxLen) (q3 : A' = none → c' = 0)
    (hd : DW W3 S' D L') (hk : Kp S W W3) (hS : ∀ b, S' b → S b ∨ (W.heap.size ≤ b ∧ b < W3.heap.size)) (hlen : L'.length ≤ k + 1) (hok : ∀ x ∈ L', okStr x.name ∧ isMom x.mom = true) : PL w D S' L' A' n' c' (k + 1) W3 := by
  have z2 := hk.size
  refine ⟨hd, fun b hb' => ?_, ⟨lo, hi, hs.kp hk hz hn, by omega, fun b h1 h2 h3 => ?_⟩, q1, q2, q3, hlen, hok, hk.below h.b (Nat.le_refl _) fun b _ h3 => (h.s b h3).1⟩
  · rcases hS b hb' with h3 | h3
    · have := h.s b h3; omega
    · have := h.b.size; omega
  · rcases hS b h3 with h4 | h4
    · exact hn b h1 h2 h4
    · omega
theorem More.or {S : Nat → Prop} {W W1 : World} : ∀ b, More S W W1 b → S b ∨ (W.heap.size ≤ b ∧ b < W1.heap.size) := fun _ h => h
set_option maxRecDepth 100000 in
set_option maxHeartbeats 8000000 in
theorem duePlays_any (l : List DAct) (A : Option Addr) (n c : Nat) (w : World) (hs : Sl w 0 w.heap.size tDAct A n l) :
    Calls Try.prog 4 #[.slice A n c] w (RetB w true) := by
  have HS := Lib.hid hs
  clear hs
  by_cases hbig : 200 < n
  · have h1 : (200 : Int) < n := by omega
    clear hbig
    go_enter Try.func4, Try.ntmps4
    go_wp2_with fail
    refine (awake16_any _).mono ?_
    rintro e w1 ⟨rfl, hb1⟩
    go_wp2
    go_ret
    exact ⟨rfl, hb1⟩
  · have h1 : ¬ (200 : Int) < n := by omega
    go_enter Try.func4, Try.ntmps4
    go_wp2_with fail
    refine (awake16_any _).mono ?_
    rintro e w1 ⟨rfl, hb1⟩
    go_wp2_with fail
    refine (new_db hb1).mono ?_
    rintro e w2 ⟨D, rfl, h2⟩
    have H2 : Hid (PL w D (SB w.heap.size w2) [] none 0 0 0 w2) := ⟨h2.d, fun b h => h, ⟨0, 0, ⟨rfl, fun x hx => absurd hx List.not_mem_nil, fun h => absurd h (Nat.lt_irrefl _)⟩, Nat.zero_le _, fun b h3 h4 => by omega⟩, Nat.le_refl _, Nat.zero_le _, fun _ => rfl, Nat.le_refl _, fun x hx => absurd hx List.not_mem_nil, h2.b⟩
    clear h2 hb1
    go_wp2
    go_loopw [4, 5] (fun mv i wr => ∃ (k : Nat) (S : Nat → Prop) (L : List It) (Am : Option Addr) (nm cm : Nat), k ≤ n ∧ i = .int .i64 k ∧ mv = .slice Am nm cm ∧ PL w D S L Am nm cm k wr) (fun _ i _ => n - (intOf i).toNat)
    case atStart => exact ⟨0, _, [], none, 0, 0, Nat.zero_le _, rfl, rfl, H2.out⟩
    case round =>
      clear H2
      obtain ⟨k, S, L, Am, nm, cm, hk, rfl, rfl, hpl⟩ := hrel
      have HP := Lib.hid hpl
      clear hpl
      by_cases hlt : k < n
      · obtain ⟨b', o, x, rfl, _, hb, hx, hok, c0, c1, c2⟩ := HS.out.dact hlt
        have HB := Lib.hid HP.out.b
        replace c0 := (HB.out.cell (p := ⟨b', o + k * 3, none⟩) hb).trans c0
        replace c1 := (HB.out.cell (p := ⟨b', o + k * 3 + 1, none⟩) hb).trans c1
        replace c2 := (HB.out.cell (p := ⟨b', o + k * 3 + 2, none⟩) hb).trans c2
        have hk0 : (0 : Int) ≤ k := by omega
        have hk1 : (k : Int) < n := by omega
        replace hok := Lib.hid hok
        clear hx HB
        go_upto_region 10 with fail
        go_cut [6] (fun sv w' => sv = .pointer (some ⟨wr.heap.size, 0, none⟩) ∧ Bx w' wr.heap.size #[.int .i64 x.kind, .int .i64 x.mom, .string x.name] 27 ∧ Below wr.heap.size wr w')
        case first =>
          go_wp2
          go_meet
          exact ⟨rfl, Bx.new _ _ _, (Below.refl _ _).alloc (Nat.le_refl _) _⟩
        case rest =>
          clear c0 c1 c2
          obtain ⟨rfl, hbx, hbl⟩ := hcut
          have HBX := Lib.hid hbx
          have HP1 := Lib.hid (HP.out.step hbl)
          have HG : Hid (¬ S wr.heap.size) := fun h => Nat.lt_irrefl _ (HP.out.s _ h).2
          have hgz := hbx.lt
          generalize wr.heap.size = g at *
          clear hbx hbl HP
          have hmD := HP1.out.m
          obtain ⟨mlo, mhi, hm1, hm2, hm3⟩ := hmD
          have HM1 := Lib.hid hm1
          have HM3 := Lib.hid hm3
          have hnm : nm ≤ 200 := by have h1 := hm1.len; have h2 := HP1.out.len; omega
          have hLl : L.length ≤ 200 := by have h2 := HP1.out.len; omega
          have HOKL : Hid (∀ x ∈ L, okStr x.name) := fun x hx => (HP1.out.ok x hx).1
          have HSZ : Hid (∀ b, S b → b < wc.heap.size) := fun b h => (HP1.out.s b h).2
          have kb := HBX.out.cells
          clear hm1 hm3
          go_upto_block 2 with fail
          go_cut [4] (fun mv w' => ∃ (S : Nat → Prop) (L : List It) (Am : Option Addr) (nm cm : Nat), mv = .slice Am nm cm ∧ PL w D S L Am nm cm (k + 1) w' ∧ Bx w' g #[.int .i64 x.kind, .int .i64 x.mom, .string x.name] 27 ∧ ¬ S g)
          case first =>
            by_cases e0 : x.kind = 0
            · have q0 : (x.kind == 0) = true := beq_iff_eq.2 e0
              clear e0
              cases hmm : isMom x.mom with
              | false =>
                have HMM := Lib.hid hmm
                have HST : Hid (stF L x.name x.mom = L) := by show _ = _; unfold stF; rw [hmm]; rfl
                clear hmm
                go_wp2_with fail
                refine (rset_bad Am nm cm x.name x.mom wc HMM.out).mono ?_
                rintro e w3 ⟨rfl, rfl⟩
                go_wp2_with fail
                refine (set_any (c := 1) HP1.out.d HSZ.out (by omega) x.name hok.out.2.2 x.mom (by rw [HMM.out]; simp)).mono ?_
                rintro e w3 ⟨rfl, h3, k3⟩
                rw [HST.out] at h3
                have HN := Lib.hid (HP1.out.due (k := k) HM1.out hm2 HM3.out HP1.out.c1 HP1.out.c2 HP1.out.c3 h3 k3 More.or (by have := HP1.out.len; omega) HP1.out.ok)
                have HX3 := Lib.hid (k3.bx HBX.out HG.out)
                have HG3 : Hid (¬ More S wc w3 g) := fun h => by rcases h with h | h; exact HG.out h; omega
                clear h3 k3 kb
                go_wp2
                go_meet
                exact ⟨_, _, _, _, _, rfl, HN.out, HX3.out, HG3.out⟩
              | true =>
                have HMM := Lib.hid hmm
                have HST : Hid (stF L x.name x.mom = setF L x.name x.mom) := by show _ = _; unfold stF; rw [hmm]; rfl
                have HLN := Lib.hid (stF_len L x.name x.mom)
                have HMS : Hid (∀ y ∈ stF L x.name x.mom, okStr y.name ∧ isMom y.mom = true) := fun y hy => mem_stF hy hok.out.2.2 HP1.out.ok
                clear hmm
                go_wp2_with fail
                refine (rset_any L Am nm cm x.name x.mom wc mlo mhi HM1.out (by omega) hm2 hok.out.2.2 HMM.out).mono ?_
                rintro e w3 ⟨v, rfl, h3, b3⟩
                obtain ⟨A3, c3, rfl⟩ := h3.form
                have HO3 := Lib.hid h3
                have HB3 := Lib.hid b3
                have HX3 := Lib.hid (HBX.out.below b3 hgz)
                have kb3 := HX3.out.cells
                have z3 := b3.size
                clear kb h3 b3
                go_wp2_with fail
                refine (set_any (c := 0) (HP1.out.d.step HB3.out) (fun b h => Nat.lt_of_lt_of_le (HSZ.out b h) z3) (by omega) x.name hok.out.2.2 x.mom (by rw [HMM.out]; simp)).mono ?_
                rintro e w4 ⟨rfl, h4, k4⟩
                rw [HST.out] at h4
                have HLN2 := HLN.out
                have HMS2 := HMS.out
                rw [HST.out] at HLN2 HMS2
                have HN := Lib.hid (HP1.out.own HO3.out HB3.out h4 k4 More.or (by have := HP1.out.len; omega) HMS2)
                have HX4 := Lib.hid (k4.bx HX3.out HG.out)
                have HG4 : Hid (¬ More S w3 w4 g) := fun h => by rcases h with h | h; exact HG.out h; omega
                clear h4 k4 kb3 HLN2 HMS2
                go_wp2
                go_meet
                exact ⟨_, _, _, _, _, rfl, HN.out, HX4.out, HG4.out⟩
            · have q0 : (x.kind == 0) = false := beq_eq_false_iff_ne.2 e0
              clear e0
              by_cases e1 : x.kind = 1
              · have q1 : (x.kind == 1) = true := beq_iff_eq.2 e1
                clear e1
                go_wp2_with fail
                refine (rdrop_any L Am nm cm x.name wc mlo mhi HM1.out (by omega) hm2).mono ?_
                rintro e w3 ⟨v, rfl, h3, b3⟩
                obtain ⟨A3, c3, rfl⟩ := h3.form
                have HO3 := Lib.hid h3
                have HB3 := Lib.hid b3
                have HX3 := Lib.hid (HBX.out.below b3 hgz)
                have kb3 := HX3.out.cells
                have z3 := b3.size
                clear kb h3 b3
                go_wp2_with fail
                refine (drop_any (HP1.out.d.step HB3.out) (by omega) x.name hok.out.2.2).mono ?_
                rintro e w4 ⟨rfl, h4, k4⟩
                have hdl : (dropF L x.name).length ≤ L.length := List.length_filter_le _ _
                have HN := Lib.hid (HP1.out.own HO3.out HB3.out h4 k4 (fun b h => .inl h) (by have := HP1.out.len; omega) (fun y hy => HP1.out.ok y (mem_dropF.1 hy).1))
                have HX4 := Lib.hid (k4.bx HX3.out HG.out)
                clear h4 k4 kb3
                generalize hasF L x.name = bq
                cases bq
                · go_wp2
                  go_meet
                  exact ⟨_, _, _, _, _, rfl, HN.out, HX4.out, HG.out⟩
                · go_wp2
                  go_meet
                  exact ⟨_, _, _, _, _, rfl, HN.out, HX4.out, HG.out⟩
              · have q1 : (x.kind == 1) = false := beq_eq_false_iff_ne.2 e1
                clear e1
                by_cases e2 : x.kind = 2
                · have q2 : (x.kind == 2) = true := beq_iff_eq.2 e2
                  clear e2
                  go_wp2_with fail
                  refine (rripe_any L Am nm cm x.mom wc mlo mhi HM1.out (by omega) hm2 HP1.out.c1 HP1.out.c2).mono ?_
                  rintro e w3 ⟨v, A3, n3, c3, rfl, h3, s3, q3, q4, q5, b3⟩
                  obtain ⟨A4, c4, rfl⟩ := h3.form
                  have HO3 := Lib.hid h3
                  have HS3 := Lib.hid s3
                  have HQ3 := Lib.hid (And.intro q3 (And.intro q4 q5))
                  have HB3 := Lib.hid b3
                  have HX3 := Lib.hid (HBX.out.below b3 hgz)
                  have kb3 := HX3.out.cells
                  have z3 := b3.size
                  have HP3 := Lib.hid (HP1.out.step b3)
                  clear kb h3 b3 s3 q3 q4 q5
                  go_wp2_with fail
                  refine (take_n HP3.out.d (fun b h => (HP3.out.s b h).2) (by omega) HOKL.out x.mom rfl rfl rfl).mono ?_
                  rintro e w4 ⟨A5, c5, rfl, h4, d4, k4⟩
                  have hrl : (ripeF L x.mom).length ≤ L.length := (List.takeWhile_sublist _).length_le
                  have hrr : (restF L x.mom).length ≤ L.length := (List.dropWhile_sublist _).length_le
                  have HN := Lib.hid (HP3.out.due (k := k) (HS3.out.kept HB3.out hm2) (Nat.le_trans hm2 z3) HM3.out HQ3.out.1 HQ3.out.2.1 HQ3.out.2.2 d4 k4 (fun b h => .inl h) (by have := HP1.out.len; omega) (fun y hy => HP1.out.ok y ((List.dropWhile_sublist _).subset hy)))
                  have HX4 := Lib.hid (k4.bx HX3.out HG.out)
                  have HT4 := Lib.hid (HO3.out.sl.kp k4 (Nat.le_refl _) fun b h5 h6 h7 => by have := HSZ.out b h7; omega)
                  have HR4 := Lib.hid h4.sl
                  have z4 := k4.size
                  clear h4 d4 k4 kb3
                  rw [List.length_map] at *
                  go_wp2_with fail
                  refine (texts_same HR4.out HT4.out (by omega) (Nat.le_refl _) z4).mono ?_
                  rintro e w5 ⟨rfl, b5⟩
                  have HN5 := Lib.hid (HN.out.step b5)
                  have HX5 := Lib.hid (HX4.out.below b5 HX4.out.lt)
                  clear b5
                  go_wp2
                  go_meet
                  exact ⟨_, _, _, _, _, rfl, HN5.out, HX5.out, HG.out⟩
                · have q2 : (x.kind == 2) = false := beq_eq_false_iff_ne.2 e2
                  clear e2
                  have HN : Hid (PL w D S L Am nm cm (k + 1) wc) := { HP1.out with len := by have := HP1.out.len; omega }
                  go_wp2
                  go_meet
                  exact ⟨_, _, _, _, _, rfl, HN.out, HBX.out, HG.out⟩
          case rest =>
            clear HBX HP1 HG hgz HM1 HM3 hm2 HSZ HOKL hLl hnm kb
            obtain ⟨S, L, Am, nm, cm, rfl, hpl, hbx, hng⟩ := hcut
            obtain ⟨mlo, mhi, hm1, hm2, hm3⟩ := hpl.m
            have HP := Lib.hid hpl
            have HBX := Lib.hid hbx
            have hbxl := hbx.lt
            have HM := Lib.hid hm1
            have HLN := Lib.hid hm1.len
            have hnm : nm ≤ 200 := by have h1 := hm1.len; have h2 := hpl.len; omega
            have hnmi : (nm : Int) ≤ 200 := by omega
            have kb := hbx.cells
            have HOKL : Hid (∀ x ∈ L, okStr x.name) := fun x hx => (HP.out.ok x hx).1
            clear hpl hbx hng hm1 hm3
            go_wp2_with fail
            refine (rripe_any L Am nm cm x.mom wc mlo mhi HM.out (by omega) hm2 HP.out.c1 HP.out.c2).mono ?_
            rintro e w3 ⟨v, A3, n3, c3, rfl, h3, _, _, _, _, b3⟩
            obtain ⟨A4, c4, rfl⟩ := h3.form
            have HO3 := Lib.hid h3
            have HX3 := Lib.hid (HBX.out.below b3 hbxl)
            have HP3 := Lib.hid (HP.out.step b3)
            have HM3 := Lib.hid (HM.out.kept b3 hm2)
            have kb3 := HX3.out.cells
            have z3 := b3.size
            clear kb h3 b3 HP HBX HM
            generalize hnx : (L.headD ⟨⟨#[]⟩, 0⟩).mom = nx
            generalize hnb : decide (0 < L.length) = nb
            generalize hoo : atF L x.name = oo
            generalize hrl : ((ripeF L x.mom).map (·.name)).length = rl at *
            have hrl2 : rl ≤ 200 := by
              have h1 : (ripeF L x.mom).length ≤ L.length := (List.takeWhile_sublist _).length_le
              have h2 := HLN.out
              rw [List.length_map] at hrl
              omega
            replace hnx := Lib.hid hnx
            replace hnb := Lib.hid hnb
            replace hoo := Lib.hid hoo
            replace hrl := Lib.hid hrl
            go_wp2_with fail
            refine (next_n HP3.out.d (by have := HLN.out; omega) hnx.out hnb.out).mono ?_
            rintro e w4 ⟨rfl, rfl⟩
            go_wp2_with fail
            refine (show Calls Try.prog 19 #[.pointer (some ⟨D, 0, none⟩), .string x.name] w3 (fun e w' => e = .returned (.tuple #[.int .i64 (momF oo), .bool oo.isSome]) ∧ w3 = w') from by have h := at_any HP3.out.d x.name hok.out.2.2; rw [hoo.out] at h; exact h).mono ?_
            rintro e w4 ⟨rfl, rfl⟩
            go_wp2_with fail
            refine (rat_any L Am nm cm x.name w3 mlo mhi HM3.out (by omega) hoo.out).mono ?_
            rintro e w4 ⟨rfl, rfl⟩
            go_wp2_with fail
            refine (ripe_n (n := rl) HP3.out.d (fun b h => (HP3.out.s b h).2) (by have := HLN.out; omega) HOKL.out x.mom rfl ((List.length_map (fun y : It => y.name)).symm.trans hrl.out)).mono ?_
            rintro e w4 ⟨A5, c5, rfl, h5, b4⟩
            have HR4 := Lib.hid h5.sl
            have HO4 := Lib.hid (HO3.out.keep b4).sl
            have HP4 := Lib.hid (HP3.out.step b4)
            have HM4 := Lib.hid (HM3.out.kept b4 (Nat.le_trans hm2 z3))
            have z4 := b4.size
            clear h5 b4 HO3 HX3 HP3 HM3 kb3
            go_wp2_with fail
            refine (texts_same HR4.out HO4.out (by omega) (Nat.le_refl _) (Nat.le_refl _)).mono ?_
            rintro e w5 ⟨rfl, b5⟩
            have HP5 := Lib.hid (HP4.out.step b5)
            have HM5 := Lib.hid (HM4.out.kept b5 (Nat.le_trans (Nat.le_trans hm2 z3) z4))
            have z5 := b5.size
            clear b5 HR4 HO4 HP4 HM4
            go_wp2_with fail
            refine (len_n HP5.out.d (by have := HLN.out; omega) HLN.out).mono ?_
            rintro e w6 ⟨rfl, rfl⟩
            have p1 : ((nm : Int) != (nm : Int)) = false := by simp
            generalize momF oo = mo
            generalize oo.isSome = io
            have p2 : (mo != mo) = false := by simp
            have p3 : (io != io) = false := by simp
            by_cases h0 : nm = 0
            · subst h0
              obtain rfl : L = [] := List.eq_nil_of_length_eq_zero HLN.out
              obtain rfl : 0 = nx := hnx.out
              obtain rfl : false = nb := hnb.out
              go_wp2
              exact ⟨⟨k + 1, S, [], Am, 0, cm, by omega, by go_num, rfl, HP5.out⟩, by simp [intOf]; omega⟩
            · obtain ⟨b0, o0, x0, rfl, _, _, hx0, hok0, c0, c1⟩ := HM5.out.itm (k := 0) (by omega)
              obtain rfl : true = nb := by rw [← hnb.out]; exact (decide_eq_true (by have := HLN.out; omega)).symm
              obtain rfl : x0.mom = nx := by
                have h := hnx.out
                have h2 := hx0.out
                cases L with
                | nil => cases h2
                | cons y t => rw [← h]; exact congrArg It.mom (Option.some.inj h2).symm
              rw [Nat.zero_mul, Nat.add_zero] at c0 c1
              have hp0 : (0 : Int) < nm := by omega
              have hp1 : ¬ (nm : Int) = 0 := by omega
              have p4 : (x0.mom != x0.mom) = false := by simp
              clear hx0
              go_wp2
              exact ⟨⟨k + 1, S, L, _, nm, cm, by omega, by go_num, rfl, HP5.out⟩, by simp [intOf]; omega⟩
      · obtain rfl : n = k := by omega
        go_wp2
        go_ret
        exact ⟨rfl, HP.out.b⟩
end Go.Proofs.Ytfbalabmidobeaa
