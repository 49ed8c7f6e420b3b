/- Package due: Ripe, Take. -/
import Derived.Test.YtfbalabmidobeaaDue7
namespace Go.Proofs.Ytfbalabmidobeaa
set_option linter.unusedVariables false
open Go Go.RowKit Go.Sort Go.Shelf
theorem sl_ptr : SlT Try.prog 52 56 1 := SlT.mk' (z := .pointer none) (b := 8) (by kernel_rfl) (by kernel_rfl) (by omega) rfl
theorem sl_str : SlT Try.prog 31 9 1 := SlT.mk' (z := .string ⟨#[]⟩) (b := 16) (by kernel_rfl) (by kernel_rfl) (by omega) rfl
theorem ripeB_yes {f : Nat → Nd} {now : Int} {k : Nat} (h : (f k).it.mom ≤ now) : ripeB f now (k + 1) = ripeB f now k ++ [(f k).blk] := by
  unfold ripeB; rw [ripeI_succ, if_pos h]; simp
theorem ripeB_no {f : Nat → Nd} {now : Int} {k : Nat} (h : ¬ (f k).it.mom ≤ now) : ripeB f now (k + 1) = ripeB f now k := by
  unfold ripeB; rw [ripeI_succ, if_neg h]; simp
theorem ripeB_le (f : Nat → Nd) (now : Int) (k : Nat) : (ripeB f now k).length ≤ k := by
  unfold ripeB ripeI
  rw [List.length_map]
  exact Nat.le_trans (List.length_filter_le _ _) (by simp)
theorem ripe_len {W : World} {S : Nat → Prop} {D : Nat} {L : List It} {M : Nat} {rv : Value} {n : Nat} {f : Nat → Nd} {g : Value → Option Value} (h : DI W S D L M rv n f g) (now : Int) : (ripeB f now n).length = (ripeF L now).length := by
  rw [← ripeN_len, ← sortN_its h now, List.length_map]
  exact ((List.mergeSort_perm _ _).length_eq).symm
theorem below_both {W W1 W2 : World} {B : Nat} (h : Below B W W1) (h2 : Below W1.heap.size W1 W2) (hB : B ≤ W.heap.size) : Below B W W2 := h.trans (h2.mono (Nat.le_trans hB h.size))
set_option maxRecDepth 100000 in
set_option maxHeartbeats 4000000 in
theorem ripe_any {W : World} {S : Nat → Prop} {D : Nat} {L : List It} (h : DW W S D L) (hS : ∀ b, S b → b < W.heap.size) (hn : L.length ≤ 100000) (hok : ∀ x ∈ L, okStr x.name) (now : Int) :
    Calls Try.prog 11 #[.pointer (some ⟨D, 0, none⟩), .int .i64 now] W (RetOwn W 9 tStr ((ripeF L now).map (·.name))) := by
  obtain ⟨M, rv, n, f, g, h⟩ := h
  have HI := Lib.hid h
  have HS_ := Lib.hid hS
  have HOK := Lib.hid hok
  have hln := h.len
  have hD := h.ho.d.lt
  have c1 := h.ho.d.cells
  have HLEN := Lib.hid (ripe_len h now)
  by_cases h0 : n = 0
  · obtain ⟨A, c, hv⟩ := h.ho.own.form
    rw [blks_len] at hv
    subst hv h0
    have HL : Hid (ripeF L now = []) := by
      have : L = [] := List.eq_nil_of_length_eq_zero h.len
      rw [this]; rfl
    clear h hS hok hln HI HLEN HS_ HOK
    go_enter Try.func11, Try.ntmps11
    go_wp2
    refine wp_loop_rounds 1 ?_
    rw [rounds_succ]
    go_wp2_with fail
    refine (show Calls Try.prog 25 _ _ _ from AnyF.slices_SortFunc_none { sortIt with } _ _ _ _).mono ?_
    rintro e w2 ⟨rfl, rfl⟩
    go_wp2
    refine wp_loop_rounds 1 ?_
    rw [rounds_succ]
    go_wp2
    go_ret
    rw [HL.out]
    exact RetOwn.mk' (Own.nil_ _ _ _ _) (Below.refl _ _)
  · obtain ⟨R, c, rfl, hr⟩ := h.ho.hr (by omega)
    have HR_ := Lib.hid hr
    have hn0 : (0 : Int) < n := by omega
    have hn1 : n ≤ 100000 := by omega
    have hRz : R < W.heap.size := by obtain ⟨cs, hx, _⟩ := hr.r; exact hx.lt
    clear h hS hok hln hr
    go_enter Try.func11, Try.ntmps11
    go_wp2
    go_loopw [5, 7, 16] (fun v _ i wr => ∃ k : Nat, k ≤ n ∧ i = .int .i64 k ∧ Own wr W.heap.size 56 tPt v (ripeB f now k) ∧ Below W.heap.size W wr) (fun _ _ i _ => n - (intOf i).toNat)
    case atStart => exact ⟨0, Nat.zero_le _, rfl, Own.nil_ _ _ _ _, Below.refl _ _⟩
    case round =>
      obtain ⟨k, hk, rfl, ho, hbel⟩ := hrel
      by_cases hlt : k < n
      · have hk0 : (0 : Int) ≤ k := by omega
        have hk1 : (k : Int) < n := by omega
        have e1 := (hbel.cell (p := ⟨R, k, none⟩) hRz).trans (HR_.out.cell hlt)
        have hzb : (f k).blk < W.heap.size := (HR_.out.it k hlt).lt
        have e2 := ((HR_.out.it k hlt).below hbel hzb).cells
        have HY := Lib.hid (fun h => ripeB_yes (f := f) (now := now) (k := k) h)
        have HNO := Lib.hid (fun h => ripeB_no (f := f) (now := now) (k := k) h)
        have hle := ripeB_le f now k
        have hlt2 : (ripeB f now k).length < 2147483640 := by omega
        have HO := Lib.hid ho
        have HB := Lib.hid hbel
        have hBz := hbel.size
        clear hle hk ho hbel
        by_cases hm : (f k).it.mom ≤ now
        · generalize f k = x at *
          go_wp2_with (at_builtin; refine push_told rfl (.tmp 26) (.tmp 28) rfl sl_ptr rfl HO.out x.blk trivial #[.pointer (some ⟨x.blk, 0, none⟩)] rfl (by simp [Act.eval]) hBz hlt2 ?_; intro v' w1 ho2 hg hor; have HO2 := Lib.hid ho2; have HB2 := Lib.hid (HB.out.grown hg hBz (fun k e => (HO.out.lt k e).1)); clear ho2 hg hor)
          exact ⟨⟨k + 1, by omega, by go_num, by rw [HY.out hm]; exact HO2.out, HB2.out⟩, by simp [intOf]; omega⟩
        · go_wp2
          exact ⟨⟨k + 1, by omega, by go_num, by rw [HNO.out hm]; exact HO.out, HB.out⟩, by simp [intOf]; omega⟩
      · obtain rfl : n = k := by omega
        obtain ⟨A, c', hv⟩ := ho.form
        subst hv
        have HO := Lib.hid ho
        have HB := Lib.hid hbel
        have hle := ripeB_le f now n
        clear ho hbel
        by_cases hr0 : (ripeB f now n).length = 0
        · have HZ : Hid (ripeF L now = []) := List.eq_nil_of_length_eq_zero (HLEN.out.symm.trans hr0)
          rw [hr0]
          clear hr0 hle HLEN
          go_wp2_with fail
          refine (show Calls Try.prog 25 _ _ _ from AnyF.slices_SortFunc_none { sortIt with } _ _ _ _).mono ?_
          rintro e w2 ⟨rfl, rfl⟩
          go_wp2
          refine wp_loop_rounds 1 ?_
          rw [rounds_succ]
          go_wp2
          go_ret
          rw [HZ.out]
          exact RetOwn.mk' (Own.nil_ _ _ _ _) HB.out
        · have hr1 : (0 : Int) < (ripeB f now n).length := by omega
          have hr2 : ((ripeB f now n).length : Int) ≤ 100000 := by omega
          clear hr0 hle
          obtain ⟨R', hv⟩ : ∃ R', A = some ⟨R', 0, none⟩ := by
            cases A with
            | none =>
              rcases HO.out.row.2 with ⟨_, h1⟩ | ⟨g', cap, cur, h1, _⟩
              · omega
              · cases h1
            | some a =>
              obtain ⟨g', cur, h1, _⟩ := HO.out.open_
              exact ⟨g', congrArg some h1⟩
          subst hv
          go_wp2_with fail
          refine (sort_ripe HI.out HS_.out (by omega) hn1 now HB.out HO.out).mono ?_
          rintro e w2 ⟨rfl, hb2, hnames⟩
          have HB2 := Lib.hid hb2
          have HNM := Lib.hid hnames
          have HLN := Lib.hid HLEN.out
          have HOK2 : Hid (∀ x ∈ (ripeF L now).map (·.name), okStr x) := fun x hx => by
            obtain ⟨y, hy, rfl⟩ := List.mem_map.1 hx
            exact HOK.out y ((List.takeWhile_sublist _).subset hy)
          have HL2 : Hid (((ripeF L now).map (·.name)).length = (ripeB f now n).length) := by rw [List.length_map]; exact HLEN.out.symm
          clear hb2 hnames HO HB HLEN HOK
          generalize hnq : (ripeF L now).map (·.name) = names at *
          replace hnq := Lib.hid hnq
          generalize (ripeB f now n).length = m at *
          go_wp2
          go_loopw [8, 10, 35] (fun v _ i wr => ∃ j : Nat, j ≤ m ∧ i = .int .i64 j ∧ Own wr w2.heap.size 9 tStr v (names.take j) ∧ Below w2.heap.size w2 wr) (fun _ _ i _ => m - (intOf i).toNat)
          case atStart => exact ⟨0, Nat.zero_le _, rfl, Own.nil_ _ _ _ _, Below.refl _ _⟩
          case round =>
            obtain ⟨j, hj, rfl, ho, hbel⟩ := hrel
            by_cases hjm : j < m
            · have hx : names[j]? = some (names[j]'(by have := HL2.out; omega)) := List.getElem?_eq_getElem _
              have hokx := HOK2.out _ (List.mem_of_getElem? hx)
              obtain ⟨b, q1, q2, q3⟩ := HNM.out j _ hx
              have HT := Lib.hid (show names.take (j + 1) = names.take j ++ [names[j]'(by have := HL2.out; omega)] by rw [List.take_add_one, hx]; rfl)
              have hR2 : R' < w2.heap.size := by obtain ⟨cs, e, fr, h9, _⟩ := cells_of_cell? q1; exact (Array.getElem?_eq_some_iff.1 h9).1
              have hz2 := HB2.out.size
              have e1 := (hbel.cell (p := ⟨R', j, none⟩) hR2).trans q1
              have e2 := (hbel.cell (p := ⟨b, 0, none⟩) (by show b < _; omega)).trans ((HB2.out.cell (p := ⟨b, 0, none⟩) q3).trans q2)
              have hlen : (names.take j).length < 2147483640 := by rw [List.length_take]; omega
              have hj0 : (0 : Int) ≤ j := by omega
              have hj1 : (j : Int) < m := by omega
              generalize names[j]'(by have := HL2.out; omega) = x at *
              have HO := Lib.hid ho
              have HB := Lib.hid hbel
              have hBz := hbel.size
              have HOKX := Lib.hid hokx
              clear hx hokx q1 q2 ho hbel
              go_wp2_with (at_builtin; refine push_told rfl (.tmp 39) (.tmp 44) rfl sl_str rfl HO.out x HOKX.out #[.string x] rfl (by simp [Act.eval]) hBz hlen ?_; intro v' w1 ho2 hg hor; have HO2 := Lib.hid ho2; have HB3 := Lib.hid (HB.out.grown hg hBz (fun k e => (HO.out.lt k e).1)); clear ho2 hg hor)
              exact ⟨⟨j + 1, by omega, by go_num, by rw [HT.out]; exact HO2.out, HB3.out⟩, by simp [intOf]; omega⟩
            · obtain rfl : m = j := by omega
              have HO := Lib.hid ho
              have HB := Lib.hid hbel
              clear ho hbel
              go_wp2
              go_ret
              have h5 := HO.out
              rw [List.take_of_length_le (by rw [HL2.out]; exact Nat.le_refl _)] at h5
              rw [hnq.out]
              exact RetOwn.mk' (h5.more HB2.out.size) (HB2.out.trans (HB.out.mono HB2.out.size))
/-- What Take leaves and hands back. -/
def TakeQ (W : World) (S : Nat → Prop) (D : Nat) (L : List It) (now : Int) (e : Ending) (w' : World) : Prop :=
  ∃ v, e = .returned v ∧ Own w' W.heap.size 9 tStr v ((ripeF L now).map (·.name)) ∧ DW w' S D (restF L now) ∧ Kp S W w'
theorem restF_cons (x : It) (t : List It) (now : Int) : (x.mom ≤ now → ripeF (x :: t) now = x :: ripeF t now ∧ restF (x :: t) now = restF t now) ∧ (¬ x.mom ≤ now → ripeF (x :: t) now = [] ∧ restF (x :: t) now = x :: t) := by
  unfold ripeF restF
  constructor <;> intro h <;> simp [h]
theorem ripe_app (now : Int) (L1 : List It) : ∀ P : List It, (∀ x ∈ P, x.mom ≤ now) → ripeF (P ++ L1) now = P ++ ripeF L1 now ∧ restF (P ++ L1) now = restF L1 now := by
  intro P
  induction P with
  | nil => intro _; exact ⟨rfl, rfl⟩
  | cons x t ih =>
    intro h
    obtain ⟨h1, h2⟩ := ih fun y hy => h y (List.mem_cons_of_mem _ hy)
    obtain ⟨h3, h4⟩ := (restF_cons x (t ++ L1) now).1 (h x List.mem_cons_self)
    exact ⟨by rw [List.cons_append, h3, h1]; rfl, by rw [List.cons_append, h4, h2]⟩
theorem Own.kp {α : Type} {T : Ty α} {W W1 : World} {S : Nat → Prop} {B : Nat} {e : TypeId} {v : Value} {l : List α} (h : Own W B e T v l) (hk : Kp S W W1) (hS : ∀ b, S b → b < B) : Own W1 B e T v l := by
  refine ⟨h.wf, h.row.1, ?_⟩
  rcases h.row.2 with ⟨rfl, h1⟩ | ⟨b, cap, cur, rfl, h1, h2, h3⟩
  · exact .inl ⟨rfl, h1⟩
  · exact .inr ⟨b, cap, cur, rfl, h1, (hk.block b (Array.getElem?_eq_some_iff.1 h2).1 (fun e => by have := hS b e; omega)).trans h2, h3⟩
theorem dropF_head {x : It} {t : List It} (h : Once (x :: t)) : dropF (x :: t) x.name = t := by
  have h1 := (List.nodup_cons.1 h).1
  have h2 : dropF (x :: t) x.name = dropF t x.name := by simp [dropF]
  rw [h2]
  refine dropF_none ?_
  rw [← Bool.not_eq_true]
  intro h3
  obtain ⟨y, hy, h4⟩ := List.any_eq_true.1 h3
  exact h1 (List.mem_map.2 ⟨y, hy, by simpa using h4⟩)
set_option maxRecDepth 100000 in
set_option maxHeartbeats 4000000 in
theorem take_any {W : World} {S : Nat → Prop} {D : Nat} {L : List It} (h : DW W S D L) (hS : ∀ b, S b → b < W.heap.size) (hn : L.length ≤ 100000) (hok : ∀ x ∈ L, okStr x.name) (now : Int) :
    Calls Try.prog 14 #[.pointer (some ⟨D, 0, none⟩), .int .i64 now] W (TakeQ W S D L now) := by
  have H0 := Lib.hid h
  have HS_ := Lib.hid hS
  have HOK := Lib.hid hok
  clear h hS hok
  go_enter Try.func14, Try.ntmps14
  go_wp2
  go_loopg [5, 6] L.length (fun gk v _ wr => ∃ (P L1 : List It), L1.length = gk ∧ Hid (L = P ++ L1 ∧ ∀ x ∈ P, x.mom ≤ now) ∧ DW wr S D L1 ∧ Own wr W.heap.size 9 tStr v (P.map (·.name)) ∧ Kp S W wr)
  case atStart => exact ⟨[], L, rfl, ⟨rfl, fun x h => absurd h List.not_mem_nil⟩, H0.out, Own.nil_ _ _ _ _, Kp.refl _ _⟩
  case round =>
    obtain ⟨P, L1, hlen, HP, hd, ho, hk⟩ := hrel
    obtain ⟨M, rv, n, f, g, h⟩ := hd
    have HI := Lib.hid h
    have HO := Lib.hid ho
    have HK := Lib.hid hk
    have c1 := h.ho.d.cells
    have hln : L1.length ≤ 100000 := by have := congrArg List.length HP.out.1; simp at this; omega
    have hln2 := h.len
    have hz := hk.size
    have HGK := Lib.hid hlen
    clear hlen
    by_cases h0 : n = 0
    · obtain ⟨A, c, hv⟩ := h.ho.own.form
      rw [blks_len] at hv
      subst hv h0
      have HL : Hid (L1 = []) := List.eq_nil_of_length_eq_zero h.len
      clear h ho hk hln hln2
      go_wp2
      go_ret
      have hL : L = P := by rw [HP.out.1, HL.out, List.append_nil]
      have hr : ripeF L now = P ∧ restF L now = [] := by
        obtain ⟨h1, h2⟩ := ripe_app now [] P HP.out.2
        rw [List.append_nil] at h1 h2
        rw [hL]
        exact ⟨h1.trans (List.append_nil P), h2⟩
      refine ⟨_, rfl, by rw [hr.1]; exact HO.out, ?_, HK.out⟩
      rw [hr.2]
      have := HI.out
      rw [HL.out] at this
      exact ⟨_, _, _, _, _, this⟩
    · obtain ⟨R, c, rfl, hr⟩ := h.ho.hr (by omega)
      obtain ⟨t, ht⟩ := h.first (by omega)
      have HT := Lib.hid ht
      have k1 := hr.cell (i := 0) (by omega)
      have k2 := (hr.it 0 (by omega)).cells
      have hn0 : (0 : Int) < n := by omega
      have hok0 : okStr (f 0).it.name := HOK.out _ (by rw [HP.out.1, ht]; simp)
      have HOK0 := Lib.hid hok0
      have hn00 : 0 < n := by omega
      have HDI := Lib.hid (fun (W : World) (h : DI W S D L1 M (.slice (some ⟨R, 0, none⟩) n c) n f g) => drop_di h hln hn00 hok0)
      have HB0 : Hid ((f 0).blk < W.heap.size ∨ True) := .inr trivial
      clear h ho hk ht hr hln2 hok0
      by_cases hm : (f 0).it.mom ≤ now
      · go_wp2_with fail
        refine (HDI.out _ HI.out).mono ?_
        rintro e w2 ⟨rfl, h2, k3, hc⟩
        have HO2 := Lib.hid (HO.out.kp k3 HS_.out)
        have H2 := Lib.hid h2
        have K2 := Lib.hid (HK.out.trans k3 fun _ _ e => e)
        have hlen : (P.map (·.name)).length < 2147483640 := by have := congrArg List.length HP.out.1; simp at this ⊢; omega
        have hBz : W.heap.size ≤ w2.heap.size := K2.out.size
        have HS2 := Lib.hid (fun b e => Nat.lt_of_lt_of_le (HS_.out b e) hBz)
        clear h2 k3 k1 k2 c1 HO HDI
        go_wp2_with (at_builtin; refine push_told rfl (.tmp 38) (.tmp 43) rfl sl_str rfl HO2.out (f 0).it.name HOK0.out #[.string (f 0).it.name] rfl (by simp [Act.eval]) hBz hlen ?_; intro v' w3 ho3 hg hor; have HO3 := Lib.hid ho3; have HG3 : Hid (w2.grownBy w3 u5.ownBlock) := hg; clear ho3 hg hor)
        have hold : ∀ k, u5.ownBlock = some k → ¬ S k := fun k e h => by
          have h1 := (HO2.out.lt k e).1
          have h2 := HS_.out k h
          omega
        have hon : Once L1 := HI.out.once
        have h9 : DW w3 S D t := by
          have h1 := H2.out.keep (W1 := w3) (fun k hk hs => HG3.out.block k hk (fun e => hold k e.symm hs)) HG3.out.size
          rw [HT.out] at h1 hon
          rw [dropF_head hon] at h1
          exact h1
        have h8 : Kp S W w3 := ⟨HG3.out.os.trans K2.out.os, HG3.out.tape.trans K2.out.tape, HG3.out.output.trans K2.out.output, Nat.le_trans K2.out.size HG3.out.size, fun k hk hs => (HG3.out.block k (by omega) (fun e => by have := (HO2.out.lt k e.symm).1; omega)).trans (K2.out.block k hk hs)⟩
        have h7 : t.length + 1 = gk := by rw [← HGK.out, HT.out]; rfl
        go_roundg t.length
        case rel => exact ⟨P ++ [(f 0).it], t, rfl, ⟨by rw [HP.out.1, HT.out]; simp, fun x hx => by rcases List.mem_append.1 hx with hx | hx; exact HP.out.2 x hx; rw [List.mem_singleton.1 hx]; exact hm⟩, h9, by rw [List.map_append]; exact HO3.out, h8⟩
        case measure => omega
      · have HL : Hid (ripeF L now = P ∧ restF L now = L1) := by
          obtain ⟨h1, h2⟩ := ripe_app now L1 P HP.out.2
          obtain ⟨h3, h4⟩ := (restF_cons (f 0).it t now).2 hm
          rw [← HT.out] at h3 h4
          show _ ∧ _
          rw [HP.out.1]
          exact ⟨by rw [h1, h3, List.append_nil], by rw [h2, h4]⟩
        go_wp2
        go_ret
        exact ⟨_, rfl, by rw [HL.out.1]; exact HO.out, by rw [HL.out.2]; exact ⟨_, _, _, _, _, HI.out⟩, HK.out⟩
end Go.Proofs.Ytfbalabmidobeaa
