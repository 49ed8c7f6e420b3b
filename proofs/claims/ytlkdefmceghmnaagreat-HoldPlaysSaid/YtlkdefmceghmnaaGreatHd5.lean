/- Package hold: On: the seats of a leg that are somebody's: the walk. By program. -/
import Derived.Test.YtlkdefmceghmnaaGreatHd4
import Derived.Test.YtlkdefmceghmnaaGreatMSort
import Derived.Test.YtlkdefmceghmnaaGreatLegEq
namespace Go.Proofs.YtlkdefmceghmnaaGreat
set_option linter.unusedVariables false
open Go Go.RowKit Go.Sort
theorem isnan_byte (a : Int) (w : World) : Calls Tryz.prog 109 #[.int .u8 a] w fun e w' => e = .returned (.bool false) ∧ w = w' := by
  have h : (a != a) = false := by simp
  go_enter Tryz.func109, Tryz.ntmps109
  go_wp2
  go_ret
  exact ⟨rfl, rfl⟩
theorem compare_byte (a b : Int) (w : World) : Calls Tryz.prog 80 #[.int .u8 a, .int .u8 b] w fun e w' => e = .returned (.int .i64 (cmpN a b)) ∧ w = w' := by
  rcases Int.lt_trichotomy a b with h | h | h
  · have e : cmpN a b = -1 := by unfold cmpN; rw [if_pos h]
    rw [e]
    clear e
    go_enter Tryz.func80, Tryz.ntmps80
    go_wp2_with (go_at_call 109; refine (isnan_byte _ _).mono ?_; rintro e w' ⟨rfl, rfl⟩)
    go_ret
    exact ⟨rfl, rfl⟩
  · have e : cmpN a b = 0 := by unfold cmpN; rw [if_neg (by omega), if_neg (by omega)]
    rw [e]
    clear e
    subst h
    have h2 : ¬ a < a := by omega
    go_enter Tryz.func80, Tryz.ntmps80
    go_wp2_with (go_at_call 109; refine (isnan_byte _ _).mono ?_; rintro e w' ⟨rfl, rfl⟩)
    go_ret
    exact ⟨rfl, rfl⟩
  · have e : cmpN a b = 1 := by unfold cmpN; rw [if_neg (by omega), if_pos h]
    have h2 : ¬ a < b := by omega
    rw [e]
    clear e
    go_enter Tryz.func80, Tryz.ntmps80
    go_wp2_with (go_at_call 109; refine (isnan_byte _ _).mono ?_; rintro e w' ⟨rfl, rfl⟩)
    go_ret
    exact ⟨rfl, rfl⟩
/-- A seat, and whose it is. -/
structure Hld where
  seat : Sit
  hol : Hol
instance : Inhabited Hld := ⟨⟨⟨0, 0⟩, hol0⟩⟩
def Hld.ok (x : Hld) : Prop := x.seat.ok ∧ x.hol.ok
def tHld : Ty Hld := ⟨fun x => [.int .i64 x.seat.row, .int .u8 x.seat.let_, .string x.hol.loc, .int .i64 x.hol.pax], 4, Hld.ok, fun _ => rfl, fun x u h => by simp at h; rcases h with h | h | h | h <;> subst h <;> rfl, by omega⟩
theorem sl_hld : SlT Tryz.prog 82 89 4 := SlT.mk' (z := .agg #[.int .i64 0, .int .u8 0, .string ⟨#[]⟩, .int .i64 0]) (b := 40) (by kernel_rfl) (by kernel_rfl) (by omega) rfl
/-- The order of seats: by row, by letter. -/
def ltHd : Hld → Hld → Bool := ltX (·.seat.row) (ltX (·.seat.let_) ltNo)
theorem lts_hd : Lts ltHd := lts_x (lts_x lts_no _) _
def cmpHd : Hld → Hld → Int := cmpX (·.seat.row) (cmpX (·.seat.let_) fun _ _ => 0)
theorem cmpHd_lt (a b : Hld) : decide (cmpHd a b < 0) = ltHd a b := cmpX_lt (cmpX_lt (fun _ _ => rfl) _) _ _ _
theorem or_cmpHd (a b : Hld) : orF [cmpN a.seat.row b.seat.row, cmpN a.seat.let_ b.seat.let_] = cmpHd a b := by
  unfold cmpHd cmpX orF orF orF
  dsimp only
theorem ltHd_or {a b : Hld} (h : a.seat ≠ b.seat) : ltHd a b = true ∨ ltHd b a = true := by
  obtain ⟨⟨a0, a1⟩, _⟩ := a
  obtain ⟨⟨b0, b1⟩, _⟩ := b
  unfold ltHd ltX ltNo
  simp only [Bool.or_eq_true, Bool.and_eq_true, decide_eq_true_eq, Bool.and_false, Bool.or_false]
  dsimp only at h
  have h2 : a0 ≠ b0 ∨ a1 ≠ b1 := by
    refine Classical.byContradiction fun hn => ?_
    apply h
    have h3 : a0 = b0 := Classical.byContradiction fun e => hn (.inl e)
    have h4 : a1 = b1 := Classical.byContradiction fun e => hn (.inr e)
    rw [h3, h4]
  omega
set_option maxRecDepth 100000 in
theorem hd_clos (r s : Hld) (w : World) :
    Calls Tryz.prog 77 #[.agg #[.int .i64 r.seat.row, .int .u8 r.seat.let_, .string r.hol.loc, .int .i64 r.hol.pax], .agg #[.int .i64 s.seat.row, .int .u8 s.seat.let_, .string s.hol.loc, .int .i64 s.hol.pax]] w fun e w' => e = .returned (.int .i64 (cmpHd r s)) ∧ Gr w w' := by
  have H := Lib.hid (or_cmpHd r s)
  have HB := two_boxes w #[.int .i64 r.seat.row, .int .u8 r.seat.let_, .string r.hol.loc, .int .i64 r.hol.pax] #[.int .i64 s.seat.row, .int .u8 s.seat.let_, .string s.hol.loc, .int .i64 s.hol.pax] 89 89
  go_enter Tryz.func77, Tryz.ntmps77
  go_wp2_with fail
  refine wp_world (fun W => Bx W w.heap.size #[.int .i64 r.seat.row, .int .u8 r.seat.let_, .string r.hol.loc, .int .i64 r.hol.pax] 89 ∧ Bx W (w.heap.size + 1) #[.int .i64 s.seat.row, .int .u8 s.seat.let_, .string s.hol.loc, .int .i64 s.hol.pax] 89 ∧ Gr w W) HB ?_
  clear HB
  rintro W ⟨b1, b2, hg⟩
  have c1 := b1.cells
  have c2 := b2.cells
  have z1 := b1.lt
  have z2 := b2.lt
  go_region_held3 (fun w' => (∀ i : Nat, w'.cell? ⟨w.heap.size, i, none⟩ = (#[.int .i64 r.seat.row, .int .u8 r.seat.let_, .string r.hol.loc, .int .i64 r.hol.pax] : Array Value)[i]?) ∧ (∀ i : Nat, w'.cell? ⟨w.heap.size + 1, i, none⟩ = (#[.int .i64 s.seat.row, .int .u8 s.seat.let_, .string s.hol.loc, .int .i64 s.hol.pax] : Array Value)[i]?)) (refine ⟨?_, ?_⟩ <;> (repeat (first | (with_reducible assumption) | (with_reducible exact boxed_new _ _ _) | (with_reducible refine boxed_drew ?_) | (with_reducible refine boxed_drewN ?_ _) | (with_reducible refine boxed_alloc ?_ (by first | (simp; done) | omega | (simp; omega)) _) | (with_reducible refine boxed_set ?_ _ (by first | (simp; done) | omega | (simp; omega)) _))))
    (first
      | (go_at_call 79; refine (compare_int _ _ _).mono ?_; rintro e w' ⟨rfl, rfl⟩)
      | (go_at_call 80; refine (compare_byte _ _ _).mono ?_; rintro e w' ⟨rfl, rfl⟩)
      | (go_at_call 78; refine (or2 _ _ _ _ (boxed_drew (boxed_new _ _ _))).mono ?_; rintro e w' ⟨rfl, rfl⟩))
  go_wp2
  go_ret
  exact ⟨ret_int H.out, hg.drew.alloc _⟩
/-- The seats of leg g that are somebody's, of the entries ls. -/
structure OnL (g : Leg) (ls : List MapEntry) (out : List Hld) : Prop where
  src : ∀ y ∈ out, ∃ x ∈ ls, x.key = hplV ⟨g, y.seat⟩ ∧ x.val = holV y.hol
  all : ∀ x ∈ ls, ∀ y : Hld, x.key = hplV ⟨g, y.seat⟩ → x.val = holV y.hol → y ∈ out
  apart : out.Pairwise fun a b => a.seat ≠ b.seat
  len : out.length ≤ ls.length
theorem OnL.skip {g : Leg} {ls : List MapEntry} {out : List Hld} {x : MapEntry} {c : Hpl} (h : OnL g ls out) (hk : x.key = hplV c) (hne : c.leg ≠ g) : OnL g (ls ++ [x]) out :=
  ⟨fun y hy => by obtain ⟨z, h1, h2⟩ := h.src y hy; exact ⟨z, by simp [h1], h2⟩, fun z hz y h1 h2 => by
    rcases List.mem_append.1 hz with h3 | h3
    · exact h.all z h3 y h1 h2
    · rw [List.mem_singleton.1 h3, hk] at h1
      exact absurd (by rw [hplV_inj h1]) hne, h.apart, by have := h.len; simp; omega⟩
theorem OnL.take {g : Leg} {ls : List MapEntry} {out : List Hld} {x : MapEntry} {c : Hpl} {y : Hol} (h : OnL g ls out) (hk : x.key = hplV c) (hv : x.val = holV y) (he : c.leg = g) (hn : ∀ z ∈ ls, z.key ≠ x.key) : OnL g (ls ++ [x]) (out ++ [⟨c.seat, y⟩]) := by
  obtain ⟨cg, cs⟩ := c
  dsimp only at he
  subst he
  refine ⟨fun z hz => ?_, fun z hz u h1 h2 => ?_, ?_, by have := h.len; simp; omega⟩
  · rcases List.mem_append.1 hz with h3 | h3
    · obtain ⟨v, h1, h2⟩ := h.src z h3
      exact ⟨v, by simp [h1], h2⟩
    · rw [List.mem_singleton.1 h3]
      exact ⟨x, by simp, hk, hv⟩
  · rcases List.mem_append.1 hz with h3 | h3
    · exact List.mem_append.2 (.inl (h.all z h3 u h1 h2))
    · rw [List.mem_singleton.1 h3] at h1 h2
      obtain ⟨us, uh⟩ := u
      have e1 := hplV_inj (hk.symm.trans h1)
      have e2 := holV_inj (hv.symm.trans h2)
      dsimp only at e1 e2
      injection e1 with _ e1
      subst e1 e2
      simp
  · refine List.pairwise_append.2 ⟨h.apart, List.pairwise_singleton _ _, fun z hz u hu e => ?_⟩
    rw [List.mem_singleton.1 hu] at e
    obtain ⟨v, h1, h2, _⟩ := h.src z hz
    refine hn v h1 ?_
    rw [h2, hk, e]
theorem key_inj {es : List MapEntry} (h : (es.map (·.key)).Nodup) {x y : MapEntry} (hx : x ∈ es) (hy : y ∈ es) (e : x.key = y.key) : x = y := by
  induction es with
  | nil => cases hx
  | cons a t ih =>
    rw [List.map_cons, List.nodup_cons] at h
    rcases List.mem_cons.1 hx with rfl | hx2 <;> rcases List.mem_cons.1 hy with rfl | hy2
    · rfl
    · exact absurd (by rw [e]; exact List.mem_map_of_mem (f := (·.key)) hy2) h.1
    · exact absurd (by rw [← e]; exact List.mem_map_of_mem (f := (·.key)) hx2) h.1
    · exact ih h.2 hx2 hy2
/-- What On hands back: seats in order, each once; those that S tells. -/
def RetOn (w : World) (S : Hld → Prop) (e : Ending) (w' : World) : Prop :=
  ∃ A n c out, e = .returned (.slice A n c) ∧ Own w' w.heap.size 89 tHld (.slice A n c) out ∧ RisL ltHd out ∧ (∀ x, x ∈ out ↔ S x) ∧ Below w.heap.size w w'
set_option maxRecDepth 100000 in
set_option maxHeartbeats 8000000 in
theorem hon_any {W : World} {lo hi t p b : Nat} {rs : List FlR} {ps : List PlM} {q : Hpl → Option Hol} (h : HK W lo hi t p b rs ps q) (g : Leg) (cs : List Hpl) (hcs : cs.length ≤ 1000) (hq : ∀ c : Hpl, q c ≠ none → c ∈ cs) :
    Calls Tryz.prog 40 #[.pointer (some ⟨p, 0, none⟩), .agg #[.string g.key.car, .int .i64 g.key.num, .int .i64 g.day]] W (RetOn W fun x => q ⟨g, x.seat⟩ = some x.hol) := by
  obtain ⟨gm, ⟨es, clock, C⟩, hG⟩ := h.mp
  have zp := h.plt
  have HKO : Hid (∀ x ∈ es.toList, ∃ (c : Hpl) (y : Hol), c.ok ∧ y.ok ∧ q c = some y ∧ x.key = hplV c ∧ x.val = holV y) := fun x hx => by
    have h1 := C.val x hx
    obtain ⟨c, hc, hk⟩ := hG.dom _ _ h1
    have h2 := hG.at_ c hc
    rw [← hk, h1] at h2
    cases e : q c with
    | none => rw [e] at h2; cases h2
    | some y => rw [e] at h2; injection h2 with h2; exact ⟨c, y, hc, (hG.hok c y e).2, e, hk, h2⟩
  have HAL : Hid (∀ (c : Hpl) (y : Hol), q c = some y → ∃ x ∈ es.toList, x.key = hplV c ∧ x.val = holV y) := fun c y e => by
    have h2 := hG.at_ c (hG.hok c y e).1
    rw [e] at h2
    obtain ⟨x, hx, hk⟩ := C.dom _ _ h2
    refine ⟨x, hx, hk, ?_⟩
    have h3 := C.val x hx
    rw [hk, h2] at h3
    injection h3 with h3
    exact h3.symm
  have HN := Lib.hid C.nod
  have HLT := Lib.hid C.lt
  have HAP := Lib.hid C.apart
  have hes : es.size ≤ 1000 := by
    have h1 : (es.toList.map (·.key)).length ≤ (cs.map hplV).length := nodup_le C.apart fun v hv => by
      obtain ⟨x, hx, rfl⟩ := List.mem_map.1 hv
      obtain ⟨c, y, h1, _, h2, h3, _⟩ := HKO.out x hx
      rw [h3]
      exact List.mem_map_of_mem (hq c (by rw [h2]; simp))
    have h4 : es.toList.length = es.size := Array.length_toList
    rw [List.length_map, List.length_map] at h1
    omega
  obtain ⟨A0, n0, c0, _, hbx⟩ := h.ex
  have hbl : b < W.heap.size := (Array.getElem?_eq_some_iff.1 C.heap).1
  have HK' : Hid (∀ x ∈ es.toList, ∃ c : Hpl, x.key = .agg #[.string c.leg.key.car, .int .i64 c.leg.key.num, .int .i64 c.leg.day, .int .i64 c.seat.row, .int .u8 c.seat.let_]) := fun x hx => by obtain ⟨c, _, _, _, _, h, _⟩ := HKO.out x hx; exact ⟨c, h⟩
  have HV : Hid (∀ x ∈ es.toList, ∃ z : Hol, x.val = .agg #[.string z.loc, .int .i64 z.pax]) := fun x hx => by obtain ⟨c, y, _, _, _, _, h⟩ := HKO.out x hx; exact ⟨y, h⟩
  obtain ⟨⟨gc, gn⟩, gd⟩ := g
  dsimp only
  have HB := And.intro (box1 W #[.string gc, .int .i64 gn, .int .i64 gd] 27) (And.intro (hbx.below ((Below.refl W.heap.size W).alloc (Nat.le_refl _) (.cells #[.string gc, .int .i64 gn, .int .i64 gd] 27)) zp) ((Below.heap_alloc _ (.cells #[.string gc, .int .i64 gn, .int .i64 gd] 27) _ hbl).trans C.heap))
  clear h C hG hq hcs hbx
  go_enter Tryz.func40, Tryz.ntmps40
  go_upto_region 2 with fail
  refine wp_world (fun V => (Bx V W.heap.size #[.string gc, .int .i64 gn, .int .i64 gd] 27 ∧ Below W.heap.size W V) ∧ Bx V p #[.pointer (some ⟨t, 0, none⟩), .slice A0 n0 c0, .map (some b)] 153 ∧ V.heap[b]? = some (.map es clock)) HB ?_
  clear HB
  rintro V ⟨⟨b1, hb⟩, bx, hvb⟩
  have cx := bx.cells
  have z1 := b1.lt
  have zp2 := bx.lt
  have HHB := Lib.hid hvb
  have HBV := Lib.hid hb
  have hz := hb.size
  have hbl2 : b < V.heap.size := by omega
  obtain ⟨vs, hvs⟩ : ∃ vs, vs = V.heap.size := ⟨_, rfl⟩
  clear hvb hb
  go_wp2_with (first
    | (at_range; refine wpList_range_rg rfl _ rfl Tryz.underlying151 rfl HHB.out HLT.out ?_; intro w0 hrg0 hb0)
    | go_in)
  go_frame
  have bg0 := b1.below hb0 z1
  have hB0 := HBV.out.trans (hb0.mono hz)
  have z0 := hrg0.rlt
  rw [← hvs] at hrg0
  have HVS : Hid (vs = V.heap.size) := hvs
  have zvs : W.heap.size < vs ∧ b < vs := by rw [hvs]; exact ⟨z1, hbl2⟩
  have zv0 : vs < w0.heap.size := by rw [hvs]; exact z0
  clear cx bx b1 hvs hb0 z0 HHB HBV
  go_loopw [5, 6, 7] (fun v _ _ wr => ∃ (seen : Array Nat) (ls : List MapEntry) (out : List Hld) (A : Option Addr) (n c : Nat), Rg wr b vs es clock seen ∧ Hid (Come es seen ls) ∧ Hid (OnL ⟨⟨gc, gn⟩, gd⟩ ls out) ∧ v = .slice A n c ∧ Own wr (vs + 1) 89 tHld (.slice A n c) out ∧ Bx wr W.heap.size #[.string gc, .int .i64 gn, .int .i64 gd] 27 ∧ Below W.heap.size W wr)
    (fun _ _ _ wr => (leftOf es (wr.iterSeen vs)).size)
  case atStart => exact ⟨_, [], [], none, 0, 0, hrg0, Come.start es, ⟨by simp, by simp, List.Pairwise.nil, Nat.zero_le _⟩, rfl, Own.nil_ _ _ _ _, bg0, hB0⟩
  case round =>
    clear hrg0 bg0 hB0 zv0
    obtain ⟨seen, ls, out, A, n, c, hrg, HC, HOL, rfl, hO, bg, hB⟩ := hrel
    go_wp2_with (first
      | (at_next; refine wpList_next_rg (r := vs) rfl _ rfl (fun c : Hpl => .agg #[.string c.leg.key.car, .int .i64 c.leg.key.num, .int .i64 c.leg.day, .int .i64 c.seat.row, .int .u8 c.seat.let_]) (fun z : Hol => .agg #[.string z.loc, .int .i64 z.pax]) (by rw [HVS.out]; rfl) hrg HN.out HK'.out HV.out ?_ ?_)
      | go_in)
    · intro hl0
      have hl0' : (leftOf es seen).size = 0 := by simpa using hl0
      have HP := Lib.hid (HC.out.all HN.out hl0')
      have HO := Lib.hid hO
      have hno : n ≤ 1000000 := by
        have h1 := hO.sl.len
        have h2 := HOL.out.len
        have h3 := HP.out.length_eq
        have h4 : es.toList.length = es.size := Array.length_toList
        omega
      have HB := Lib.hid hB
      have hzz := hB.size
      clear hl0 hl0' hO bg hB hrg HC
      go_wp2_with fail
      refine (sort_own sortHd tHld Tryz.isAgg89 Tryz.sizeOf89 (lt := ltHd) (cf := cmpHd) cmpHd_lt lts_hd 77 (enters_of Tryz.func77 (by kernel_rfl) rfl) (fun x y w => hd_clos x y w) HO.out hno).mono ?_
      rintro e w2 ⟨rfl, out2, hS⟩
      have hb2 := HB.out.grown hS.gr hzz (fun k hk => Nat.le_trans (by omega) (HO.out.lt k hk).1)
      have HS := Lib.hid hS
      clear hS
      go_wp2
      go_ret
      refine ⟨A, n, c, out2, rfl, HS.out.own.more (by omega), RisL.of_sorted HS.out.ris (((HS.out.perm.pairwise_iff (fun h e => h e.symm)).2 HOL.out.apart).imp fun h => ltHd_or h), fun x => ?_, hb2⟩
      rw [HS.out.perm.mem_iff]
      constructor
      · intro hx
        obtain ⟨y, hy, h1, h2⟩ := HOL.out.src x hx
        obtain ⟨c', y', _, _, h3, h4, h5⟩ := HKO.out y (HP.out.mem_iff.1 hy)
        rw [← hplV_inj (h4.symm.trans h1), h3, holV_inj (h5.symm.trans h2)]
      · intro hx
        obtain ⟨y, hy, h1, h2⟩ := HAL.out _ _ hx
        exact HOL.out.all y (HP.out.mem_iff.2 hy) x h1 h2
    · intro x cc z w2 hx0 hkey hval hrg2 hg2 hs2 hen
      have hx : x ∈ (leftOf es seen).toList := by simpa using hx0
      have HC2 := Lib.hid (HC.out.step HN.out hx)
      have HX := Lib.hid (left_shrinks es seen x hx)
      have HSE := Lib.hid hrg.seen_eq
      have hll : ls.length < es.size := HC.out.len HN.out hx
      have hll2 : out.length < 2147483640 := by have h2 := HOL.out.len; omega
      obtain ⟨hok, hzo⟩ : cc.ok ∧ z.ok := by
        obtain ⟨c', y', h1, h2, _, h3, h4⟩ := HKO.out x (mem_left hx).1
        rw [← hplV_inj (h3.symm.trans hkey), ← holV_inj (h4.symm.trans hval)]
        exact ⟨h1, h2⟩
      have HOK := Lib.hid hok
      have HZO := Lib.hid hzo
      have HKEY : Hid (x.key = hplV cc) := hkey
      have HVAL : Hid (x.val = holV z) := hval
      have HNE : Hid (∀ u ∈ ls, u.key ≠ x.key) := fun u hu e => by
        have h1 := (HC.out.mem u).1 hu
        have h2 := mem_left hx
        have h3 : u = x := key_inj HAP.out h1.1 h2.1 e
        rw [h3] at h1
        rw [h1.2] at h2
        exact absurd h2.2 (by simp)
      have hO2 := hO.kept hg2 (fun k hk e => by have h1 := (hO.lt k hk).1; cases e; omega)
      have hB2 : Below W.heap.size W w2 := hB.grown hg2 hB.size (fun k e => by cases e; omega)
      have bg2 := bg.grown hg2 (fun e => by cases e; omega)
      have hz2 := hB2.size
      have hzr2 := hrg2.rlt
      obtain ⟨⟨⟨kc, kn⟩, d⟩, ⟨sr, sl⟩⟩ := cc
      obtain ⟨hl, hx⟩ := z
      dsimp only
      rw [HVS.out] at hen
      dsimp only at hen
      clear hx0 hkey hval hs2 hg2 hrg HC hok hO hB bg
      go_upto_region 5 with fail
      refine wp_world (fun V => (Bx V w2.heap.size #[.string kc, .int .i64 kn, .int .i64 d, .int .i64 sr, .int .u8 sl] 150 ∧ Bx V (w2.heap.size + 1) #[.string hl, .int .i64 hx] 69) ∧ Rg V b vs es clock (seen.push x.born) ∧ Own V (vs + 1) 89 tHld (.slice A n c) out ∧ Bx V W.heap.size #[.string gc, .int .i64 gn, .int .i64 gd] 27 ∧ Below W.heap.size W V) ?_ ?_
      · have h3 := two_boxes w2 #[.string kc, .int .i64 kn, .int .i64 d, .int .i64 sr, .int .u8 sl] #[.string hl, .int .i64 hx] 150 69
        exact ⟨⟨h3.1, h3.2.1⟩, hrg2.keep (h3.2.2.below.block _ hzr2) (h3.2.2.below.block _ hrg2.blt), hO2.keep h3.2.2.below, bg2.below h3.2.2.below bg2.lt, hB2.trans (h3.2.2.below.mono hB2.size)⟩
      clear hrg2 hO2 hB2 bg2 hen
      rintro V2 ⟨⟨b2, b3⟩, hrg, hO, bg, hB⟩
      have c1 := b2.cells
      have c2 := b3.cells
      have cg := bg.cells
      have hk := fun u => eql_lg ⟨⟨kc, kn⟩, d⟩ ⟨⟨gc, gn⟩, gd⟩ u
      dsimp only at hk
      by_cases e0 : (⟨⟨kc, kn⟩, d⟩ : Leg) = ⟨⟨gc, gn⟩, gd⟩
      rotate_left
      · rw [decide_eq_false e0] at hk
        have HOL2 := Lib.hid (HOL.out.skip HKEY.out e0)
        have HR := Lib.hid hrg
        have HO := Lib.hid hO
        have BG := Lib.hid bg
        have HB := Lib.hid hB
        clear e0 hrg hO bg hB
        go_wp2
        go_roundw
        case rel => exact ⟨_, ls ++ [x], out, A, n, c, HR.out, HC2, HOL2, rfl, HO.out, BG.out, HB.out⟩
        case measure => rw [HR.out.seen_eq, HSE.out]; exact HX.out
      · rw [decide_eq_true e0] at hk
        have HOL2 := Lib.hid (HOL.out.take HKEY.out HVAL.out e0 HNE.out)
        have HR := Lib.hid hrg
        have HO := Lib.hid hO
        have BG := Lib.hid bg
        have HB := Lib.hid hB
        have hzb := hB.size
        have hzr := hrg.rlt
        have hzv : V2.heap.size ≥ vs + 1 := by omega
        clear e0 hrg hO bg hB
        go_wp2_with (at_builtin; refine push_told (T := tHld) (W := V2) rfl (.tmp 22) (.tmp 27) rfl sl_hld rfl HO.out ⟨⟨sr, sl⟩, ⟨hl, hx⟩⟩ ⟨HOK.out.2, HZO.out⟩ _ rfl rfl hzv hll2 ?_; intro v' w3 ho3 hg3 hor; have HR3 := Lib.hid (HR.out.keep (hg3.block _ HR.out.rlt (fun e => by have h1 := (HO.out.lt _ e.symm).1; omega)) (hg3.block _ HR.out.blt (fun e => by have h1 := (HO.out.lt _ e.symm).1; omega))); have BG3 := Lib.hid (BG.out.grown hg3 (fun e => by have h1 := (HO.out.lt _ e).1; omega)); have HB3 := Lib.hid (HB.out.grown hg3 hzb (fun k e => by have h1 := (HO.out.lt _ e).1; omega)); obtain ⟨A3, c3, rfl⟩ := ho3.form; have HO3 := Lib.hid ho3; clear ho3 hg3 hor)
        go_roundw
        case rel => exact ⟨_, ls ++ [x], out ++ [Hld.mk ⟨sr, sl⟩ ⟨hl, hx⟩], A3, _, c3, HR3.out, HC2, HOL2, rfl, by simpa using HO3.out, BG3.out, HB3.out⟩
        case measure => rw [HR3.out.seen_eq, HSE.out]; exact HX.out
end Go.Proofs.YtlkdefmceghmnaaGreat
