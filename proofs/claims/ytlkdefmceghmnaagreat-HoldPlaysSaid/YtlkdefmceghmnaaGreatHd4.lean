/- Package hold: Copy, Legs: the walks. By program. -/
import Derived.Test.YtlkdefmceghmnaaGreatMHd
import Derived.Shelf.SlMaps.Clone
import Derived.Deep.RegionHeld3
namespace Go.Proofs.YtlkdefmceghmnaaGreat
set_option linter.unusedVariables false
open Go Go.RowKit Go.Sort
set_option maxRecDepth 100000 in
theorem hclos_any (r s : Leg) (w : World) :
    Calls Tryz.prog 83 #[.agg #[.string r.key.car, .int .i64 r.key.num, .int .i64 r.day], .agg #[.string s.key.car, .int .i64 s.key.num, .int .i64 s.day]] w fun e w' => e = .returned (.int .i64 (cmpG r s)) ∧ Gr w w' := by
  have H := Lib.hid (or_cmpG r s)
  have HB := two_boxes w #[.string r.key.car, .int .i64 r.key.num, .int .i64 r.day] #[.string s.key.car, .int .i64 s.key.num, .int .i64 s.day] 27 27
  go_enter Tryz.func83, Tryz.ntmps83
  go_wp2_with fail
  refine wp_world (fun W => Bx W w.heap.size #[.string r.key.car, .int .i64 r.key.num, .int .i64 r.day] 27 ∧ Bx W (w.heap.size + 1) #[.string s.key.car, .int .i64 s.key.num, .int .i64 s.day] 27 ∧ Gr w W) HB ?_
  clear HB
  rintro W ⟨b1, b2, hg⟩
  have c1 := b1.cells
  have c2 := b2.cells
  have z1 := b1.lt
  have z2 := b2.lt
  go_region_held3 (fun w' => (∀ i : Nat, w'.cell? ⟨w.heap.size, i, none⟩ = (#[.string r.key.car, .int .i64 r.key.num, .int .i64 r.day] : Array Value)[i]?) ∧ (∀ i : Nat, w'.cell? ⟨w.heap.size + 1, i, none⟩ = (#[.string s.key.car, .int .i64 s.key.num, .int .i64 s.day] : Array Value)[i]?)) (refine ⟨?_, ?_⟩ <;> (repeat (first | (with_reducible assumption) | (with_reducible exact boxed_new _ _ _) | (with_reducible refine boxed_drew ?_) | (with_reducible refine boxed_drewN ?_ _) | (with_reducible refine boxed_alloc ?_ (by first | (simp; done) | omega | (simp; omega)) _) | (with_reducible refine boxed_set ?_ _ (by first | (simp; done) | omega | (simp; omega)) _))))
    (first
      | (go_at_call 79; refine (compare_int _ _ _).mono ?_; rintro e w' ⟨rfl, rfl⟩)
      | (go_at_call 84; refine (compare_str _ _ _).mono ?_; rintro e w' ⟨rfl, rfl⟩)
      | (go_at_call 78; refine (or3 _ _ _ _ _ (boxed_drew (boxed_new _ _ _))).mono ?_; rintro e w' ⟨rfl, rfl⟩))
  go_wp2
  go_ret
  exact ⟨ret_int H.out, hg.drew.alloc _⟩
set_option maxRecDepth 100000 in
theorem sortedH_any (Bm b : Nat) (es : Array MapEntry) (clock : Nat) (w : World) (hBm : Bm < w.heap.size) (hm : w.cell? ⟨Bm, 0, none⟩ = some (.map (some b))) (h : LgM w b es clock) :
    Calls Tryz.prog 81 #[.func (.func 112) #[] #[.pointer (some ⟨Bm, 0, none⟩)], .func (.func 83) #[] #[]] w (RetG w fun g => ∃ x ∈ es.toList, x.key = legV g) := by
  have HC := Lib.hid (collect_any Bm b es clock w hBm hm h)
  have HA := Lib.hid h.apart
  have HM := Lib.hid h.most
  clear h hm
  go_enter Tryz.func81, Tryz.ntmps81
  go_wp2_with fail
  refine HC.out.mono ?_
  rintro e w1 ⟨A, n, c, xs, rfl, hp, ho, hb⟩
  have hn : n ≤ 1000000 := by
    have h1 := hp.length_eq
    have h2 := ho.sl.len
    have h3 : es.size ≤ 1000000 := HM.out
    have h4 : es.toList.length = es.size := Array.length_toList
    rw [List.length_map, List.length_map] at h1
    omega
  have HP := Lib.hid hp
  have HO := Lib.hid ho
  clear hp ho
  go_wp2_with fail
  refine (sort_own sortLg tLeg Tryz.isAgg27 Tryz.sizeOf27 (lt := ltG) (cf := cmpG) cmpG_lt lts_g 83 (enters_of Tryz.func83 (by kernel_rfl) rfl) (fun x y w => hclos_any x y w) HO.out hn).mono ?_
  rintro e w2 ⟨rfl, out, hS⟩
  obtain ⟨r1, r2⟩ := ris_keys HP.out HA.out hS.perm hS.ris
  have hb2 := hb.grown hS.gr hb.size (fun k hk => (HO.out.lt k hk).1)
  have HS := Lib.hid hS.own
  clear hS
  go_wp2
  go_ret
  exact ⟨_, _, _, out, rfl, HS.out, r1, r2, hb2⟩
set_option maxRecDepth 100000 in
set_option maxHeartbeats 2000000 in
theorem hclone_any (b : Nat) (es : Array MapEntry) (clock : Nat) (w : World) (hb : w.heap[b]? = some (.map es clock)) :
    Calls Tryz.prog 85 #[.map (some b)] w fun e w' => e = .returned (.map (some w.heap.size)) ∧ w' = w.alloc (.map es clock) := by
  have hq := fun w => run_eql_map_nil_sl (P := Tryz.prog) w 151 _ _ (some b) Tryz.underlying151
  go_enter Tryz.func85, Tryz.ntmps85
  go_wp2
  rw [run_callFunc_extern Tryz.func91 (by kernel_rfl) (by kernel_rfl) (by kernel_rfl) (e := Extern.MapsClone.clone) (by kernel_rfl), run_maps_clone_sl w 151 hb]
  simp only [Result.andThen]
  rw [Oper.upon_value]
  go_wp2
  rw [run_typeAssert_map_sl _ 151 _ _ _ _ Tryz.underlying151]
  simp only [Result.andThen]
  rw [Oper.upon_value]
  go_wp2
  go_ret
  exact ⟨rfl, rfl⟩
theorem Mp.cloneH {w w' : World} {b b' : Nat} {g : Value → Option Value} {k : TypeId} {P : Program} {es : Array MapEntry} {clock : Nat} (C : Mq P k w b g es clock) (h : w'.heap[b']? = some (.map es clock)) : Mp P k w' b' g :=
  ⟨es, clock, h, C.keys, C.lt, C.nod, C.apart, C.val, C.dom⟩
set_option maxRecDepth 100000 in
set_option maxHeartbeats 4000000 in
theorem hcopy_any {W : World} {lo hi t p b : Nat} {rs : List FlR} {ps : List PlM} {q : Hpl → Option Hol} (h : HK W lo hi t p b rs ps q) :
    Calls Tryz.prog 44 #[.pointer (some ⟨p, 0, none⟩)] W fun e w' => ∃ p' b', e = .returned (.pointer (some ⟨p', 0, none⟩)) ∧ HK w' lo hi t p' b' rs ps q ∧ W.heap.size ≤ p' ∧ W.heap.size ≤ b' ∧ Below W.heap.size W w' := by
  obtain ⟨g, ⟨es, clock, C⟩, hG⟩ := h.mp
  have HS := Lib.hid h
  obtain ⟨A, n, c, hst, hx⟩ := h.ex
  have HST := Lib.hid hst
  have cx := hx.cells
  have hc := C.heap
  have zp := h.plt
  clear hst
  go_enter Tryz.func44, Tryz.ntmps44
  go_upto_region 1 with fail
  have HC := Lib.hid (fun (V : World) (hV : Below W.heap.size W V) => hclone_any b es clock V ((hV.block b HS.out.blt).trans hc))
  have hxd : Bx W.drew p #[.pointer (some ⟨t, 0, none⟩), .slice A n c, .map (some b)] 153 := hx
  have c0 := hxd.cells
  have hx1 : Bx (W.alloc (.map es clock)).drew p #[.pointer (some ⟨t, 0, none⟩), .slice A n c, .map (some b)] 153 := hx.alloc _
  have c1 := hx1.cells
  have hx2 : Bx ((W.alloc (.map es clock)).alloc (.cells #[.pointer (some ⟨t, 0, none⟩), .slice A n c, .map (some W.heap.size)] 153)).drew p #[.pointer (some ⟨t, 0, none⟩), .slice A n c, .map (some b)] 153 := (hx.alloc _).alloc _
  have c2 := hx2.cells
  go_region_held3 (fun w' => ∀ i : Nat, w'.cell? ⟨p, i, none⟩ = (#[.pointer (some ⟨t, 0, none⟩), .slice A n c, .map (some b)] : Array Value)[i]?) (first | (with_reducible exact c0) | (with_reducible exact c1) | exact c2) (first | (go_at_call 85; (with_reducible refine (HC.out _ (Below.refl _ _).drew).mono ?_); rintro e w1 ⟨rfl, rfl⟩))
  go_wp2
  have hW : Below W.heap.size W ((W.alloc (.map es clock)).alloc (.cells #[.pointer (some ⟨t, 0, none⟩), .slice A n c, .map (some W.heap.size)] 153)).drew := (((Below.refl _ _).alloc (Nat.le_refl _) _).alloc (by simp) _).drew
  have hb : Bx ((W.alloc (.map es clock)).alloc (.cells #[.pointer (some ⟨t, 0, none⟩), .slice A n c, .map (some W.heap.size)] 153)).drew (W.heap.size + 1) #[.pointer (some ⟨t, 0, none⟩), .slice A n c, .map (some W.heap.size)] 153 := by
    have h5 := Bx.new (W.alloc (.map es clock)) #[.pointer (some ⟨t, 0, none⟩), .slice A n c, .map (some W.heap.size)] 153
    rw [World.size_alloc] at h5
    exact h5
  have hz := HS.out.hp
  obtain ⟨w3, q1, q2, q3, q4⟩ := HST.out
  go_ret
  exact ⟨_, W.heap.size, rfl, ⟨⟨A, n, c, ⟨w3, q1, q2, q3, fun k k1 k2 => (hW.block k (by omega)).trans (q4 k k1 k2)⟩, hb⟩, ⟨g, ((Mp.cloneH C (heap_alloc_new W (.map es clock))).alloc _).drew, hG⟩, by omega, by omega, by omega⟩, by omega, Nat.le_refl _, hW⟩
def legP : Value → Value
  | .agg a => .agg a.pop.pop
  | v => v
theorem legP_hpl (c : Hpl) : legP (hplV c) = legV c.leg := by simp [legP, hplV, legV]
/-- While the legs of a book's seats are counted. -/
structure CLh (W : World) (bs : Nat) (ls : List MapEntry) (f : Value → Int) (wr : World) : Prop where
  cnt : CntK Tryz.prog 27 wr bs f fun v => ∃ x ∈ ls, ∃ c : Hpl, c.ok ∧ x.key = hplV c ∧ v = legV c.leg
  pos : ∀ x ∈ ls, ∀ c : Hpl, x.key = hplV c → 0 < f (legV c.leg)
  bound : ∀ v, 0 ≤ f v ∧ f v ≤ ls.length
theorem CLh.next {W wr W2 : World} {bs : Nat} {ls : List MapEntry} {f : Value → Int} {x : MapEntry} {c : Hpl} (hp : ∀ x ∈ ls, ∀ c : Hpl, x.key = hplV c → 0 < f (legV c.leg)) (hb : ∀ v, 0 ≤ f v ∧ f v ≤ ls.length) (hok : c.ok) (hx : x.key = hplV c)
    (h : CntK Tryz.prog 27 W2 bs (putK f (legV c.leg) (f (legV c.leg) + 1)) fun v => v = legV c.leg ∨ ∃ x ∈ ls, ∃ c : Hpl, c.ok ∧ x.key = hplV c ∧ v = legV c.leg) : CLh W bs (ls ++ [x]) (putK f (legV c.leg) (f (legV c.leg) + 1)) W2 := by
  refine ⟨h.imp fun v hv => ?_, fun y hy d hd => ?_, fun v => ?_⟩
  · rcases hv with rfl | ⟨y, hy, d, h1, h2, h3⟩
    · exact ⟨x, by simp, c, hok, hx, rfl⟩
    · exact ⟨y, by simp [hy], d, h1, h2, h3⟩
  · by_cases e : legV d.leg = legV c.leg
    · rw [e, putK_same]
      have := (hb (legV c.leg)).1
      omega
    · rw [putK_other _ _ _ e]
      rcases List.mem_append.1 hy with h1 | h1
      · exact hp y h1 d hd
      · rw [List.mem_singleton.1 h1, hx] at hd
        exact absurd (by rw [hplV_inj hd]) e
  · have h1 := hb v
    have h2 := hb (legV c.leg)
    by_cases e : v = legV c.leg
    · rw [e, putK_same]
      simp
      omega
    · rw [putK_other _ _ _ e]
      simp
      omega
set_option maxRecDepth 100000 in
set_option maxHeartbeats 8000000 in
theorem hlegs_any {W : World} {lo hi t p b : Nat} {rs : List FlR} {ps : List PlM} {q : Hpl → Option Hol} (h : HK W lo hi t p b rs ps q) (cs : List Hpl) (hcs : cs.length ≤ 1000) (hq : ∀ c : Hpl, q c ≠ none → c ∈ cs) :
    Calls Tryz.prog 42 #[.pointer (some ⟨p, 0, none⟩)] W (RetG W fun g => ∃ c : Hpl, q c ≠ none ∧ c.leg = g) := by
  obtain ⟨gm, ⟨es, clock, C⟩, hG⟩ := h.mp
  obtain ⟨A0, n0, c0, _, hbx⟩ := h.ex
  have cx := hbx.cells
  have zp := h.plt
  have HKO : Hid (∀ x ∈ es.toList, ∃ (c : Hpl) (y : Hol), c.ok ∧ q c = some y ∧ x.key = hplV c ∧ x.val = holV y) := fun x hx => by
    have h1 := C.val x hx
    obtain ⟨c, hc, hk⟩ := hG.dom _ _ h1
    have h2 := hG.at_ c hc
    rw [← hk, h1] at h2
    cases e : q c with
    | none => rw [e] at h2; cases h2
    | some y => rw [e] at h2; injection h2 with h2; exact ⟨c, y, hc, e, hk, h2⟩
  have HAL : Hid (∀ c : Hpl, q c ≠ none → ∃ x ∈ es.toList, x.key = hplV c) := fun c hne => by
    cases e : q c with
    | none => exact absurd e hne
    | some y =>
      have h2 := hG.at_ c (hG.hok c y e).1
      rw [e] at h2
      exact C.dom _ _ h2
  have HN := Lib.hid C.nod
  have HLT := Lib.hid C.lt
  have hes : es.size ≤ 1000 := by
    have h1 : (es.toList.map (·.key)).length ≤ (cs.map hplV).length := nodup_le C.apart fun v hv => by
      obtain ⟨x, hx, rfl⟩ := List.mem_map.1 hv
      obtain ⟨c, y, h1, h2, h3, _⟩ := HKO.out x hx
      rw [h3]
      exact List.mem_map_of_mem (hq c (by rw [h2]; simp))
    have h4 : es.toList.length = es.size := Array.length_toList
    rw [List.length_map, List.length_map] at h1
    omega
  have HHB : Hid ((W.alloc (.map #[] 0)).heap[b]? = some (.map es clock)) := (Below.heap_alloc _ _ _ (Array.getElem?_eq_some_iff.1 C.heap).1).trans C.heap
  have hbl : b < W.heap.size := (Array.getElem?_eq_some_iff.1 C.heap).1
  have HK : Hid (∀ x ∈ es.toList, ∃ c : Hpl, x.key = .agg #[.string c.leg.key.car, .int .i64 c.leg.key.num, .int .i64 c.leg.day, .int .i64 c.seat.row, .int .u8 c.seat.let_]) := fun x hx => by obtain ⟨c, _, _, _, h, _⟩ := HKO.out x hx; exact ⟨c, h⟩
  have HV : Hid (∀ x ∈ es.toList, ∃ z : Hol, x.val = holV z) := fun x hx => by obtain ⟨c, y, _, _, _, h⟩ := HKO.out x hx; exact ⟨_, h⟩
  have hmm := @run_makeMap Tryz.prog
  clear h C hG hq hcs
  go_enter Tryz.func42, Tryz.ntmps42
  go_wp2_with (first
    | (at_range; refine wpList_range_rg rfl _ rfl Tryz.underlying151 rfl HHB.out HLT.out ?_; intro w0 hrg0 hb0)
    | go_in)
  go_frame
  have hs0 : (W.alloc (.map #[] 0)).heap.size = W.heap.size + 1 := by simp
  rw [hs0] at hrg0 hb0
  have HS0 := Lib.hid hs0
  clear hs0
  have hc0 : CntK Tryz.prog 27 w0 W.heap.size (fun _ => 0) (fun v => ∃ x ∈ ([] : List MapEntry), ∃ c : Hpl, c.ok ∧ x.key = hplV c ∧ v = legV c.leg) := (CntK.made W).keep (hb0.block _ (by omega))
  have hB0 : Below W.heap.size W w0 := ((Below.refl _ _).alloc (Nat.le_refl _) _).trans (hb0.mono (by omega))
  clear cx hmm
  go_loopw [4] (fun _ wr => ∃ (seen : Array Nat) (ls : List MapEntry) (f : Value → Int), Rg wr b (W.heap.size + 1) es clock seen ∧ Hid (Come es seen ls) ∧ CLh W W.heap.size ls f wr ∧ Below W.heap.size W wr)
    (fun _ wr => (leftOf es (wr.iterSeen (W.heap.size + 1))).size)
  case atStart => exact ⟨_, [], fun _ => 0, hrg0, Come.start es, ⟨hc0, by simp, fun v => by simp⟩, hB0⟩
  case round =>
    clear hrg0 hb0 hc0 hB0
    obtain ⟨seen, ls, f, hrg, HC, hCL, hB⟩ := hrel
    have HCLp := Lib.hid hCL.pos
    have HCLb := Lib.hid hCL.bound
    have hcnt := hCL.cnt
    have hzr := hrg.rlt
    clear hCL
    go_wp2_with (first
      | (at_next; refine wpList_next_rg (r := W.heap.size + 1) rfl _ rfl (fun c : Hpl => .agg #[.string c.leg.key.car, .int .i64 c.leg.key.num, .int .i64 c.leg.day, .int .i64 c.seat.row, .int .u8 c.seat.let_]) holV (by rw [← HS0.out]; rfl) hrg HN.out HK.out HV.out ?_ ?_)
      | go_in)
    · intro hl0
      have hl0' : (leftOf es seen).size = 0 := by simpa using hl0
      have HP := Lib.hid (HC.out.all HN.out hl0')
      obtain ⟨e2, c2, C2, hD⟩ := hcnt
      have HD := Lib.hid hD
      have hM : LgM wr W.heap.size e2 c2 := by
        refine ⟨C2.heap, C2.lt, C2.nod, C2.apart, fun x hx => ?_, fun x hx => ⟨_, C2.val x hx⟩, ?_⟩
        · obtain ⟨y, hy, c, h1, h2, h3⟩ := HD.out x hx
          exact ⟨c.leg, h1.1, h3⟩
        · have h1 : (e2.toList.map (·.key)).length ≤ (ls.map fun x => legP x.key).length := nodup_le C2.apart fun v hv => by
            obtain ⟨x, hx, rfl⟩ := List.mem_map.1 hv
            obtain ⟨y, hy, c, h1, h2, h3⟩ := HD.out x hx
            exact List.mem_map.2 ⟨y, hy, by rw [h2, legP_hpl, h3]⟩
          have h4 : e2.toList.length = e2.size := Array.length_toList
          have h5 := HP.out.length_eq
          have h6 : es.toList.length = es.size := Array.length_toList
          rw [List.length_map, List.length_map] at h1
          omega
      have HPS : Hid (∀ g : Leg, (∃ x ∈ e2.toList, x.key = legV g) ↔ ∃ c : Hpl, q c ≠ none ∧ c.leg = g) := fun g => by
        constructor
        · rintro ⟨x, hx, hk⟩
          obtain ⟨y, hy, c, h1, h2, h3⟩ := HD.out x hx
          obtain ⟨c', y', h4, h5, h6, _⟩ := HKO.out y (HP.out.mem_iff.1 hy)
          rw [hplV_inj (h6.symm.trans h2)] at h5
          exact ⟨c, by rw [h5]; simp, legV_inj (h3.symm.trans hk)⟩
        · rintro ⟨c, h2, rfl⟩
          obtain ⟨y, hy, hk⟩ := HAL.out c h2
          have h3 := HCLp.out y (HP.out.mem_iff.2 hy) c hk
          refine Classical.byContradiction fun hno => ?_
          have h4 := C2.zero (legV c.leg) fun x hx e => hno ⟨x, hx, e⟩
          omega
      clear hl0 hl0' HP C2 hD HC hrg
      go_wp2_with fail
      refine (keys_any W.heap.size wr).mono ?_
      rintro e w1 ⟨rfl, hc, hz, hb⟩
      have HQ := Lib.hid (sortedH_any wr.heap.size W.heap.size e2 c2 w1 hz hc (hM.keep hb))
      have hzz := hB.size
      clear hc hz hM
      go_wp2_with fail
      refine HQ.out.mono ?_
      rintro e w2 ⟨A, n, c, out, rfl, ho, r1, r2, hb2⟩
      have HO := Lib.hid ho
      clear ho
      go_wp2
      go_ret
      exact ⟨A, n, c, out, rfl, (HO.out.more hb.size).more hzz, r1, fun g => (r2 g).trans (HPS.out g), hB.trans ((hb.trans (hb2.mono hb.size)).mono hzz)⟩
    · intro x c z w2 hx0 hkey hval hrg2 hg2 hs2 hen
      have hx : x ∈ (leftOf es seen).toList := by simpa using hx0
      have HC2 := Lib.hid (HC.out.step HN.out hx)
      have HX := Lib.hid (left_shrinks es seen x hx)
      have HSE := Lib.hid hrg.seen_eq
      have hll : ls.length < es.size := HC.out.len HN.out hx
      have hok : c.ok := by
        obtain ⟨c', y', h1, _, h3, _⟩ := HKO.out x (mem_left hx).1
        rw [← hplV_inj (h3.symm.trans hkey)]
        exact h1
      have HOK := Lib.hid hok
      have HKEY : Hid (x.key = hplV c) := hkey
      obtain ⟨⟨⟨kc, kn⟩, d⟩, ⟨sr, sl⟩⟩ := c
      have hcnt2 := hcnt.keep (hg2.block W.heap.size (by omega) (by simp))
      have hB2 : Below W.heap.size W w2 := hB.grown hg2 hB.size (fun k e => by cases e; omega)
      have hz2 := hB2.size
      have hzr2 := hrg2.rlt
      dsimp only
      clear hx0 hx hkey hval hs2 hcnt hg2 hrg HC hok
      go_upto_region 5 with fail
      refine wp_world (fun V => Bx V w2.heap.size #[.string kc, .int .i64 kn, .int .i64 d, .int .i64 sr, .int .u8 sl] 150 ∧ Rg V b (W.heap.size + 1) es clock (seen.push x.born) ∧ CntK Tryz.prog 27 V W.heap.size f (fun v => ∃ x ∈ ls, ∃ c : Hpl, c.ok ∧ x.key = hplV c ∧ v = legV c.leg) ∧ Below W.heap.size W V)
        ⟨Bx.new _ _ _, hrg2.keep (Below.heap_alloc _ _ _ hzr2) (Below.heap_alloc _ _ _ hrg2.blt), hcnt2.keep (Below.heap_alloc _ _ _ (by omega)), hB2.alloc hB2.size _⟩ ?_
      clear hrg2 hcnt2 hB2 hen
      rintro V ⟨bx, hrg, hcnt, hB⟩
      obtain ⟨kl, hkl⟩ := legKey ⟨⟨kc, kn⟩, d⟩ HOK.out.1
      obtain ⟨st, W1, W2, f1, f2, f3, f4, hm2, hg1, hg2, hsz⟩ := (hcnt.keep (w' := V.drew) rfl).inc (t := 118) (e := 3) lawLeg Tryz.underlying118 zeroInt hkl
      have hne : w2.heap.size ≠ W.heap.size := by omega
      have c1 := bx.cells
      have bx1 : Bx W1 w2.heap.size #[.string kc, .int .i64 kn, .int .i64 d, .int .i64 sr, .int .u8 sl] 150 := (hg1.block _ bx.lt (by simp; omega)).trans bx
      have c2 := bx1.cells
      have HCL2 := Lib.hid (CLh.next (W := W) (wr := V) (c := ⟨⟨⟨kc, kn⟩, d⟩, ⟨sr, sl⟩⟩) HCLp.out HCLb.out HOK.out HKEY.out hm2)
      have hrg3 : Rg W2 b (W.heap.size + 1) es clock (seen.push x.born) := hrg.keep ((hg2.block _ hrg.rlt (by simp))) ((hg2.block _ hrg.blt (by simp; omega)))
      have hB3 : Below W.heap.size W W2 := (hB.drew).grown hg2 hB.size (fun k e => by cases e; omega)
      have hfb := HCLb.out (legV ⟨⟨kc, kn⟩, d⟩)
      simp only [goInt] at f1 f2 f3 f4
      generalize hfm : f (legV ⟨⟨kc, kn⟩, d⟩) = fm at f1 f2 f3 f4 hfb
      simp only [legV] at f1 f2 f3 f4
      have HR3 := Lib.hid hrg3
      have HB3 := Lib.hid hB3
      clear hfm hm2 hg1 hg2 hsz hrg3 hB3 bx bx1 hcnt hrg hB hkl
      obtain ⟨hf0, hf1⟩ := hfb
      have hw : IntKind.i64.wrap (fm + 1) = fm + 1 := IntWalk.i64_in _ (by omega)
      go_region
      all_goals
        go_wp2
        exact ⟨⟨_, HR3.out, ls ++ [x], HC2, ⟨_, HCL2.out⟩, HB3.out⟩, by rw [HR3.out.seen_eq, HSE.out]; exact HX.out⟩
end Go.Proofs.YtlkdefmceghmnaaGreat
