/- CheckMends: the walk. -/
import Derived.Test.YtaakcccffmfmoaaDoorCheckSound
import Derived.Test.YtaakcccffmfmoaaDoorRapply
import Derived.Test.YtaakcccffmfmoaaDoorOkF
namespace Go.Proofs.YtaakcccffmfmoaaDoor
set_option linter.unusedVariables false
open Go Go.RowKit
attribute [local go_sem ↓] Go.wp_at_zero Go.wp_at_succ
def amongB (l : List Int) (x : Int) : Bool := l.any fun y => y == x
theorem amongB_iff {l : List Int} {x : Int} : amongB l x = true ↔ x ∈ l := by
  unfold amongB
  rw [List.any_eq_true]
  constructor
  · rintro ⟨y, hy, e⟩
    rw [beq_iff_eq] at e
    rwa [← e]
  · exact fun h => ⟨x, h, by simp⟩
set_option maxRecDepth 100000 in
set_option maxHeartbeats 1000000 in
theorem among_any (l : List Int) (A : Option Addr) (n c : Nat) (x : Int) (w : World) (lo hi : Nat) (hs : Sl w lo hi tInt A n l) (hn : n ≤ 100000) :
    Calls Tryd.prog 22 #[.slice A n c, .int .i64 x] w (fun e w' => e = .returned (.bool (amongB l x)) ∧ w = w') := by
  have HL := Lib.hid hs.len
  go_enter Tryd.func22, Tryd.ntmps22
  go_wp2
  go_loop [5] (fun i => ∃ k : Nat, k ≤ n ∧ i = .int .i64 k ∧ Hid (amongB (l.take k) x = false)) (fun i => n - (intOf i).toNat)
  case atStart => exact ⟨0, Nat.zero_le _, rfl, rfl⟩
  case round =>
    obtain ⟨k, hk, rfl, hno⟩ := hrel
    by_cases hlt : k < n
    · obtain ⟨b, o, y, rfl, h1, h2, hy, hok, c0⟩ := hs.int_ hlt
      generalize hq : (y == x) = bq
      have HQ := Lib.hid hq
      rcases bq with _ | _
      · have hnx : Hid (amongB (l.take (k + 1)) x = false) := by
          have := hno.out
          show amongB _ x = false
          unfold amongB at this ⊢
          rw [take_succ_of hy.out, List.any_append, this]
          simp only [List.any_cons, List.any_nil, HQ.out]
          rfl
        go_wp2
        go_round
        case rel => exact ⟨k + 1, by omega, by go_num, hnx⟩
        case measure => simp [intOf]; omega
      · have hyes := Lib.hid (show amongB l x = true from List.any_eq_true.2 ⟨y, List.mem_of_getElem? hy.out, HQ.out⟩)
        go_wp2
        go_ret
        exact ⟨ret_bool hyes.out.symm, rfl⟩
    · obtain rfl : n = k := by omega
      have hfin := Lib.hid (show amongB l x = false by have := hno.out; rwa [List.take_of_length_le (Nat.le_of_eq HL.out)] at this)
      go_wp2
      go_ret
      exact ⟨ret_bool hfin.out.symm, rfl⟩
structure CM (w : World) (p : Pnr) (h : Hd) (e : Edit) (q : Pnr) (h1 : Hd) (g : Nat) (W : World) : Prop where
  B : Below w.heap.size w W
  box1 : ∀ i, W.cell? ⟨w.heap.size, i, none⟩ = (#[.string p.loc, .string p.off, .slice h.an h.nn h.cn, .slice h.ag h.ng h.cg, .slice h.ap h.np h.cp, .int .i64 p.tik.kind, .int .i64 p.tik.day, .int .i64 p.tik.min, .string p.rc, .slice h.ar h.nr h.cr, .slice h.ae h.ne h.ce, .bool p.queued] : Array Value)[i]?
  box2 : ∀ i, W.cell? ⟨w.heap.size + 1, i, none⟩ = (#[.int .i64 e.kind, .string e.nam.last, .string e.nam.first, .string e.seg.car, .int .i64 e.seg.num, .int .i64 e.seg.day, .int .u8 e.seg.cls, .bool e.seg.live, .int .i64 e.tik.kind, .int .i64 e.tik.day, .int .i64 e.tik.min, .string e.text, .int .i64 e.n, .int .i64 e.pax, .int .i64 e.row, .int .u8 e.let_] : Array Value)[i]?
  box5 : ∀ i, W.cell? ⟨g, i, none⟩ = (#[.string q.loc, .string q.off, .slice h1.an h1.nn h1.cn, .slice h1.ag h1.ng h1.cg, .slice h1.ap h1.np h1.cp, .int .i64 q.tik.kind, .int .i64 q.tik.day, .int .i64 q.tik.min, .string q.rc, .slice h1.ar h1.nr h1.cr, .slice h1.ae h1.ne h1.ce, .bool q.queued] : Array Value)[i]?
  P : PAt W 0 w.heap.size p h
  Q : PAt W 0 g q h1
  z : w.heap.size + 1 < g
  z5 : g < W.heap.size
theorem CM.step {w : World} {p : Pnr} {h : Hd} {e : Edit} {q : Pnr} {h1 : Hd} {g : Nat} {W W1 : World} (H : CM w p h e q h1 g W) (hb : Below W.heap.size W W1) : CM w p h e q h1 g W1 :=
  ⟨H.B.trans (hb.mono (by have := H.z; have := H.z5; omega)), boxed_below H.box1 hb (by have := H.z; have := H.z5; omega), boxed_below H.box2 hb (by have := H.z; have := H.z5; omega), boxed_below H.box5 hb H.z5, H.P.below hb (by have := H.z; have := H.z5; omega), H.Q.below hb (Nat.le_of_lt H.z5), H.z, Nat.lt_of_lt_of_le H.z5 hb.size⟩
theorem CM.drew {w : World} {p : Pnr} {h : Hd} {e : Edit} {q : Pnr} {h1 : Hd} {g : Nat} {W : World} (H : CM w p h e q h1 g W) : CM w p h e q h1 g W.drew := H.step ((Below.refl _ _).drew)
structure CX (w : World) (e : Edit) (l m : List Int) (A : Option Addr) (c : Nat) (A' : Option Addr) (c' : Nat) (W : World) : Prop where
  B : Below w.heap.size w W
  oL : Own W (w.heap.size + 1 + 1) 36 tInt (.slice A l.length c) l
  oR : Own W (w.heap.size + 1 + 1) 36 tInt (.slice A' m.length c') m
  box2 : ∀ i, W.cell? ⟨w.heap.size + 1, i, none⟩ = (#[.int .i64 e.kind, .string e.nam.last, .string e.nam.first, .string e.seg.car, .int .i64 e.seg.num, .int .i64 e.seg.day, .int .u8 e.seg.cls, .bool e.seg.live, .int .i64 e.tik.kind, .int .i64 e.tik.day, .int .i64 e.tik.min, .string e.text, .int .i64 e.n, .int .i64 e.pax, .int .i64 e.row, .int .u8 e.let_] : Array Value)[i]?
set_option maxRecDepth 100000 in
set_option maxHeartbeats 8000000 in
theorem checkMends_any (p : Pnr) (h : Hd) (e : Edit) (w : World) (hp : PAt w 0 w.heap.size p h) (hc : Caps h) (he : e.ok) :
    Calls Tryd.prog 5 #[.agg #[.string p.loc, .string p.off, .slice h.an h.nn h.cn, .slice h.ag h.ng h.cg, .slice h.ap h.np h.cp, .int .i64 p.tik.kind, .int .i64 p.tik.day, .int .i64 p.tik.min, .string p.rc, .slice h.ar h.nr h.cr, .slice h.ae h.ne h.ce, .bool p.queued], .agg #[.int .i64 e.kind, .string e.nam.last, .string e.nam.first, .string e.seg.car, .int .i64 e.seg.num, .int .i64 e.seg.day, .int .u8 e.seg.cls, .bool e.seg.live, .int .i64 e.tik.kind, .int .i64 e.tik.day, .int .i64 e.tik.min, .string e.text, .int .i64 e.n, .int .i64 e.pax, .int .i64 e.row, .int .u8 e.let_]] w (RetB w true) := by
  have HP := Lib.hid hp
  have HC := Lib.hid hc
  have HE := Lib.hid he
  clear hc he
  have hS := SWE.start w p h e 29 49
  rcases Bool.eq_false_or_eq_true (smallB h) with hsb | hsb
  case inr =>
    clear hp
    go_enter Tryd.func5, Tryd.ntmps5
    go_wp2_with fail
    refine (awake13_any _).mono ?_
    rintro en w1 ⟨rfl, hb1⟩
    have hS1 := hS.step hb1
    clear hb1
    have x1 := hS1.box1
    go_wp2_with fail
    refine (small_any p h _).mono ?_
    rintro en w2 ⟨rfl, hb2⟩
    rw [hsb]
    have hS2 := hS1.step hb2
    go_wp2
    go_ret
    exact ⟨rfl, hS2.B⟩
  have hsm := smallB_hd hsb
  obtain ⟨s1, s2, s3, s4, s5⟩ := smallB_yes hsb
  have hps : p.small 100000 := ⟨by rw [hp.names.len]; omega, by rw [hp.segs.len]; omega, by rw [hp.phones.len]; omega, by rw [hp.remarks.len]; omega, by rw [hp.seats.len]; omega⟩
  have HSM := Lib.hid hps
  clear hps hp
  rcases Bool.eq_false_or_eq_true (soundB p h.nn) with hsd | hsd
  all_goals
    go_enter Tryd.func5, Tryd.ntmps5
    go_wp2_with fail
    refine (awake13_any _).mono ?_
    rintro en w1 ⟨rfl, hb1⟩
    have hS1 := hS.step hb1
    clear hb1
    have x1 := hS1.box1
    go_wp2_with fail
    refine (small_any p h _).mono ?_
    rintro en w2 ⟨rfl, hb2⟩
    rw [hsb]
    have hS2 := hS1.step hb2
    clear hb2 x1
    have x1 := hS2.box1
    have x2 := hS2.box2
    go_wp2_with fail
    refine (sound_any p h _ 0 w.heap.size (HP.out.below hS2.B (Nat.le_refl _)) hsm (by have := hS2.z; omega)).mono ?_
    rintro en w3 ⟨rfl, hb3⟩
    rw [hsd]
    have hS3 := hS2.step hb3
    clear hb3 x1 x2
  rotate_left
  · go_wp2
    go_ret
    exact ⟨rfl, hS3.B⟩
  have x1 := hS3.box1
  have x2 := hS3.box2
  have z3 := hS3.z
  go_wp2_with fail
  refine (rapply_any p h e _ (fun b => 0 ≤ b ∧ b < w.heap.size) ((HP.out.below hS3.B (Nat.le_refl _)).ps HC.out) (fun b hb => by omega) HSM.out HE.out).mono ?_
  rintro en w4 ⟨h1, rfl, hP4, hb4⟩
  have hS4 := hS3.step hb4
  have hq4 := hb4.size
  have hQ := PS.at (lo := 0) (hi := w4.heap.size) hP4 fun b hb => by
    rcases hb with hb | hb <;> omega
  have hqs : ∀ q n, applyF p e = (q, n) → n = 0 → Hid (OkF p e q) := fun q n h0 h1 => applyF_ok (by rw [h0, h1])
  have hsq : (applyF p e).1.small 100000 := by
    unfold applyF
    split
    · exact ⟨by simp [pnr0], by simp [pnr0], by simp [pnr0], by simp [pnr0], by simp [pnr0]⟩
    · have hs99 : p.small 200 := ⟨by rw [HP.out.names.len]; omega, by rw [HP.out.segs.len]; omega, by rw [HP.out.phones.len]; omega, by rw [HP.out.remarks.len]; omega, by rw [HP.out.seats.len]; omega⟩
      exact (changeF_small hs99).mono (by omega)
  generalize hr : applyF p e = r at hQ hqs hsq
  clear hr hP4
  obtain ⟨q, n⟩ := r
  dsimp only at hQ hsq
  dsimp only
  have hbx5 := boxed_new w4 #[.string q.loc, .string q.off, .slice h1.an h1.nn h1.cn, .slice h1.ag h1.ng h1.cg, .slice h1.ap h1.np h1.cp, .int .i64 q.tik.kind, .int .i64 q.tik.day, .int .i64 q.tik.min, .string q.rc, .slice h1.ar h1.nr h1.cr, .slice h1.ae h1.ne h1.ce, .bool q.queued] 29
  clear x1 x2
  by_cases hn : n = 0
  case neg =>
    have hn2 : (n != 0) = true := by rw [bne_iff_ne]; exact hn
    clear hn hqs
    go_wp2
    go_ret
    exact ⟨rfl, hS4.B.alloc (by have := hS4.z; omega) _⟩
  have HOK := hqs q n rfl hn
  have hn2 : (n != 0) = false := by rw [bne_eq_false_iff_eq]; exact hn
  clear hn hqs
  go_upto_region 8 with fail
  have z4 := hS4.z
  refine wp_world (CM w p h e q h1 w4.heap.size) ⟨hS4.B.alloc (by omega) _, boxed_alloc hS4.box1 (by omega) _, boxed_alloc hS4.box2 z4 _, hbx5, (HP.out.below hS4.B (Nat.le_refl _)).alloc (by omega) _, hQ.alloc (Nat.le_refl _) _, z4, by simp⟩ ?_
  intro W hM
  have hsh := hsq.hd hM.Q
  have L1 := fun V (hP : PAt V 0 w.heap.size p h) (hh : w.heap.size ≤ V.heap.size) => lacks_any p h V 0 w.heap.size hP hsm.ng hh
  have L2 := fun V (hP : PAt V 0 w4.heap.size q h1) (hh : w4.heap.size ≤ V.heap.size) => lacks_any q h1 V 0 w4.heap.size hP hsh.ng hh
  have M1 : ∀ c, c ∈ lacksF p h → amongB (lacksF q h1) c = !(e.kind == c - 19) := fun c hc => by
    have hm := mends HOK.out c ((lacks_mem hM.P c).1 hc)
    rw [Bool.eq_iff_iff, amongB_iff, lacks_mem hM.Q, hm]
    simp
  have M2 : ∀ c, c ∈ lacksF q h1 → amongB (lacksF p h) c = true ∨ (c = 21 ∧ e.kind = 7) := fun c hc => by
    rcases mends_new HOK.out c ((lacks_mem hM.Q c).1 hc) with h | h
    · exact .inl (amongB_iff.2 ((lacks_mem hM.P c).2 h))
    · exact .inr h
  have M3 : ∀ c, c ∈ lacksF p h → c = 20 ∨ c = 21 ∨ c = 22 ∨ c = 23 ∨ c = 24 := fun c hc => by
    have := (lacks_mem hM.P c).1 hc
    unfold lackP at this
    omega
  have N1 : (lacksF p h).length ≤ 5 := by have := picks_len (lackT ((h.nn : Int) == 0) (((liveF 0 p.segs).length : Int) == 0) ((h.np : Int) == 0) (p.tik.kind == 0) p.rc.toList.isEmpty); simpa [lacksF, lackT] using this
  have N2 : (lacksF q h1).length ≤ 5 := by have := picks_len (lackT ((h1.nn : Int) == 0) (((liveF 0 q.segs).length : Int) == 0) ((h1.np : Int) == 0) (q.tik.kind == 0) q.rc.toList.isEmpty); simpa [lacksF, lackT] using this
  generalize lacksF p h = l at L1 M1 M2 M3 N1
  generalize lacksF q h1 = m at L2 M1 M2 N2
  have HL1 := Lib.hid L1
  have HL2 := Lib.hid L2
  have HM1 := Lib.hid M1
  have HM2 := Lib.hid M2
  have HM3 := Lib.hid M3
  clear L1 L2 M1 M2 M3 hS4 hS3 hS2 hS1 hS hQ hbx5
  have zz := hM.z5
  have zy := hM.z
  have x1 := hM.box1
  have x5 := hM.box5
  have tok1 : True := trivial
  go_region_held3 (fun w' => (∀ i : Nat, w'.cell? ⟨w.heap.size, i, none⟩ = (#[.string p.loc, .string p.off, .slice h.an h.nn h.cn, .slice h.ag h.ng h.cg, .slice h.ap h.np h.cp, .int .i64 p.tik.kind, .int .i64 p.tik.day, .int .i64 p.tik.min, .string p.rc, .slice h.ar h.nr h.cr, .slice h.ae h.ne h.ce, .bool p.queued] : Array Value)[i]?) ∧ (∀ i : Nat, w'.cell? ⟨w4.heap.size, i, none⟩ = (#[.string q.loc, .string q.off, .slice h1.an h1.nn h1.cn, .slice h1.ag h1.ng h1.cg, .slice h1.ap h1.np h1.cp, .int .i64 q.tik.kind, .int .i64 q.tik.day, .int .i64 q.tik.min, .string q.rc, .slice h1.ar h1.nr h1.cr, .slice h1.ae h1.ne h1.ce, .bool q.queued] : Array Value)[i]?)) (refine ⟨?_, ?_⟩ <;> first | (exact (CM.box1 hMR)) | (exact (CM.box5 hMR)) | (exact (CM.box1 hML)) | (exact (CM.box5 hML)) | (exact (CM.box1 hM.drew)) | (exact (CM.box5 hM.drew)))
    (first | (go_at_call 16; have _t := tok1; refine (HL1.out _ hM.drew.P (by simp; omega)).mono ?_; rintro en wL ⟨A, c, rfl, hownL, hbL⟩; have hML := hM.drew.step hbL; clear tok1) | (go_at_call 16; refine (HL2.out _ hML.Q (Nat.le_of_lt hML.z5)).mono ?_; rintro en wR ⟨A', c', rfl, hownR, hbR⟩; have hMR := hML.step hbR))
  go_upto_region 9 with fail
  refine wp_world (CX w e l m A c A' c') ⟨hMR.B, (hownL.keep hbR).more (by simp; omega), hownR.more (by have := hML.z5; omega), hMR.box2⟩ ?_
  clear hMR hML hM x1 x5 zz zy hownL hownR hbL hbR HP HC hb4
  intro W0 hX0
  go_wp2
  go_loopw [9] (fun i wr => ∃ k : Nat, k ≤ l.length ∧ i = .int .i64 k ∧ CX w e l m A c A' c' wr) (fun i _ => l.length - (intOf i).toNat)
  case atStart => exact ⟨0, Nat.zero_le _, rfl, hX0⟩
  case round =>
    obtain ⟨k, hk, rfl, hX⟩ := hrel
    have x2 := hX.box2
    by_cases hlt : k < l.length
    · obtain ⟨b, o, x, rfl, g1, g2, hx, hok, c0⟩ := hX.oL.sl.int_ hlt
      have hmem := List.mem_of_getElem? hx.out
      have hk0 : (0 : Int) ≤ k := by omega
      have hkl : (k : Int) < l.length := by omega
      go_upto_region 12 with fail
      go_cut [10] (fun s w' => s = .bool (e.kind == x - 19) ∧ CX w e l m (some ⟨b, o, none⟩) c A' c' w')
      case first =>
        clear hx
        rcases HM3.out x hmem with rfl | rfl | rfl | rfl | rfl
        · generalize hq : (e.kind == 1) = bq
          have HQ := Lib.hid hq
          rcases bq with _ | _
          all_goals
            go_wp2
            go_meet
            exact ⟨congrArg Value.bool (show _ = (e.kind == 1) from HQ.out.symm), hX⟩
        · generalize hq : (e.kind == 2) = bq
          have HQ := Lib.hid hq
          rcases bq with _ | _
          all_goals
            go_wp2
            go_meet
            exact ⟨congrArg Value.bool (show _ = (e.kind == 2) from HQ.out.symm), hX⟩
        · generalize hq : (e.kind == 3) = bq
          have HQ := Lib.hid hq
          rcases bq with _ | _
          all_goals
            go_wp2
            go_meet
            exact ⟨congrArg Value.bool (show _ = (e.kind == 3) from HQ.out.symm), hX⟩
        · generalize hq : (e.kind == 4) = bq
          have HQ := Lib.hid hq
          rcases bq with _ | _
          all_goals
            go_wp2
            go_meet
            exact ⟨congrArg Value.bool (show _ = (e.kind == 4) from HQ.out.symm), hX⟩
        · generalize hq : (e.kind == 5) = bq
          have HQ := Lib.hid hq
          rcases bq with _ | _
          all_goals
            go_wp2
            go_meet
            exact ⟨congrArg Value.bool (show _ = (e.kind == 5) from HQ.out.symm), hX⟩
      case rest =>
        clear hX x2 c0
        obtain ⟨rfl, hX⟩ := hcut
        obtain ⟨b9, o9, x9, hbo, g1', g2', hx', hok', c0⟩ := hX.oL.sl.int_ hlt
        injection hbo with hbo
        injection hbo with ee1 ee2 _
        subst ee1 ee2
        have ee3 := hx.out.symm.trans hx'.out
        injection ee3 with ee3
        subst ee3
        have hmm := HM1.out x hmem
        generalize (e.kind == x - 19) = bq at hmm
        have HMM := Lib.hid hmm
        clear hmm
        go_wp2_with fail
        refine (among_any m _ _ _ x _ _ _ hX.oR.sl (by omega)).mono ?_
        rintro en w9 ⟨rfl, rfl⟩
        rw [HMM.out]
        rcases bq with _ | _
        all_goals
          go_wp2
          go_roundw
          case rel => exact ⟨k + 1, by omega, by go_num, hX⟩
          case measure => simp [intOf]; omega
    · obtain rfl : l.length = k := by omega
      go_wp2
      go_loopw [11] (fun i wr => ∃ k : Nat, k ≤ m.length ∧ i = .int .i64 k ∧ CX w e l m A c A' c' wr) (fun i _ => m.length - (intOf i).toNat)
      case atStart => exact ⟨0, Nat.zero_le _, rfl, hX⟩
      case round =>
        clear hX x2
        obtain ⟨k, hk, rfl, hX⟩ := hrel
        have x2 := hX.box2
        by_cases hlt : k < m.length
        · obtain ⟨b, o, x, rfl, g1, g2, hx, hok, c0⟩ := hX.oR.sl.int_ hlt
          have hmem := List.mem_of_getElem? hx.out
          have hk0 : (0 : Int) ≤ k := by omega
          have hkl : (k : Int) < m.length := by omega
          have hcs := HM2.out x hmem
          generalize hq : amongB l x = ba at hcs
          have HQ := Lib.hid hq
          clear hq hx
          rcases ba with _ | _
          · obtain ⟨rfl, hkd⟩ : x = 21 ∧ e.kind = 7 := by simpa using hcs
            have q7 : (e.kind != 7) = false := by rw [hkd]; rfl
            clear hkd hcs
            go_wp2_with fail
            refine (among_any l _ _ _ 21 _ _ _ hX.oL.sl (by omega)).mono ?_
            rintro en w9 ⟨rfl, rfl⟩
            rw [HQ.out]
            go_wp2
            go_roundw
            case rel => exact ⟨k + 1, by omega, by go_num, hX⟩
            case measure => simp [intOf]; omega
          · clear hcs
            go_wp2_with fail
            refine (among_any l _ _ _ x _ _ _ hX.oL.sl (by omega)).mono ?_
            rintro en w9 ⟨rfl, rfl⟩
            rw [HQ.out]
            go_wp2
            go_roundw
            case rel => exact ⟨k + 1, by omega, by go_num, hX⟩
            case measure => simp [intOf]; omega
        · go_wp2
          go_ret
          exact ⟨rfl, hX.B⟩
end Go.Proofs.YtaakcccffmfmoaaDoor
