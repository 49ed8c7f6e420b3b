/- HoldApart is true of every input. By program. -/
import Derived.Test.YtlkdefmceghmnaaGreatHd11
import Derived.Deep.RegionHeld3
namespace Go.Proofs.YtlkdefmceghmnaaGreat
set_option linter.unusedVariables false
open Go Go.RowKit Go.Sort
set_option maxRecDepth 100000 in
set_option maxHeartbeats 64000000 in
theorem holdApart_any (rl : List FlR) (A : Option Addr) (n c : Nat) (pl : List PlR) (A2 : Option Addr) (n2 c2 : Nat) (w : World) (hs : FlS w 0 w.heap.size A n rl) (hp : PlS w 0 w.heap.size A2 n2 pl) (sc : List HAct) (A3 : Option Addr) (n3 c3 : Nat) (ha : Sl w 0 w.heap.size tHA A3 n3 sc) (a o : HAct) (haok : a.ok) (hook : o.ok) :
    Calls Tryz.prog 11 #[.agg #[.slice A n c, .slice A2 n2 c2], .slice A3 n3 c3, hactV a, hactV o] w (RetB w true) := by
  have HFS := Lib.hid hs
  have HPS := Lib.hid hp
  have HA := Lib.hid ha
  have HOK := Lib.hid hs.sl.wf
  have HAO := Lib.hid haok
  have HOO := Lib.hid hook
  have hnl := eql_bk
  have HB : (Bx (((w.alloc (.cells #[.slice A n c, .slice A2 n2 c2] 60)).alloc (.cells #[.int .i64 a.kind, .int .i64 a.fl, .string a.leg.key.car, .int .i64 a.leg.key.num, .int .i64 a.leg.day, .int .i64 a.seat.row, .int .u8 a.seat.let_, .string a.hol.loc, .int .i64 a.hol.pax] 71)).alloc (.cells #[.int .i64 o.kind, .int .i64 o.fl, .string o.leg.key.car, .int .i64 o.leg.key.num, .int .i64 o.leg.day, .int .i64 o.seat.row, .int .u8 o.seat.let_, .string o.hol.loc, .int .i64 o.hol.pax] 71)) w.heap.size #[.slice A n c, .slice A2 n2 c2] 60 ∧ Bx (((w.alloc (.cells #[.slice A n c, .slice A2 n2 c2] 60)).alloc (.cells #[.int .i64 a.kind, .int .i64 a.fl, .string a.leg.key.car, .int .i64 a.leg.key.num, .int .i64 a.leg.day, .int .i64 a.seat.row, .int .u8 a.seat.let_, .string a.hol.loc, .int .i64 a.hol.pax] 71)).alloc (.cells #[.int .i64 o.kind, .int .i64 o.fl, .string o.leg.key.car, .int .i64 o.leg.key.num, .int .i64 o.leg.day, .int .i64 o.seat.row, .int .u8 o.seat.let_, .string o.hol.loc, .int .i64 o.hol.pax] 71)) (w.heap.size + 1) #[.int .i64 a.kind, .int .i64 a.fl, .string a.leg.key.car, .int .i64 a.leg.key.num, .int .i64 a.leg.day, .int .i64 a.seat.row, .int .u8 a.seat.let_, .string a.hol.loc, .int .i64 a.hol.pax] 71 ∧ Bx (((w.alloc (.cells #[.slice A n c, .slice A2 n2 c2] 60)).alloc (.cells #[.int .i64 a.kind, .int .i64 a.fl, .string a.leg.key.car, .int .i64 a.leg.key.num, .int .i64 a.leg.day, .int .i64 a.seat.row, .int .u8 a.seat.let_, .string a.hol.loc, .int .i64 a.hol.pax] 71)).alloc (.cells #[.int .i64 o.kind, .int .i64 o.fl, .string o.leg.key.car, .int .i64 o.leg.key.num, .int .i64 o.leg.day, .int .i64 o.seat.row, .int .u8 o.seat.let_, .string o.hol.loc, .int .i64 o.hol.pax] 71)) (w.heap.size + 1 + 1) #[.int .i64 o.kind, .int .i64 o.fl, .string o.leg.key.car, .int .i64 o.leg.key.num, .int .i64 o.leg.day, .int .i64 o.seat.row, .int .u8 o.seat.let_, .string o.hol.loc, .int .i64 o.hol.pax] 71) ∧ Below w.heap.size w (((w.alloc (.cells #[.slice A n c, .slice A2 n2 c2] 60)).alloc (.cells #[.int .i64 a.kind, .int .i64 a.fl, .string a.leg.key.car, .int .i64 a.leg.key.num, .int .i64 a.leg.day, .int .i64 a.seat.row, .int .u8 a.seat.let_, .string a.hol.loc, .int .i64 a.hol.pax] 71)).alloc (.cells #[.int .i64 o.kind, .int .i64 o.fl, .string o.leg.key.car, .int .i64 o.leg.key.num, .int .i64 o.leg.day, .int .i64 o.seat.row, .int .u8 o.seat.let_, .string o.hol.loc, .int .i64 o.hol.pax] 71)) := by
    have h2 := two_boxes w #[.slice A n c, .slice A2 n2 c2] #[.int .i64 a.kind, .int .i64 a.fl, .string a.leg.key.car, .int .i64 a.leg.key.num, .int .i64 a.leg.day, .int .i64 a.seat.row, .int .u8 a.seat.let_, .string a.hol.loc, .int .i64 a.hol.pax] 60 71
    have h3 := Bx.new ((w.alloc (.cells #[.slice A n c, .slice A2 n2 c2] 60)).alloc (.cells #[.int .i64 a.kind, .int .i64 a.fl, .string a.leg.key.car, .int .i64 a.leg.key.num, .int .i64 a.leg.day, .int .i64 a.seat.row, .int .u8 a.seat.let_, .string a.hol.loc, .int .i64 a.hol.pax] 71)) #[.int .i64 o.kind, .int .i64 o.fl, .string o.leg.key.car, .int .i64 o.leg.key.num, .int .i64 o.leg.day, .int .i64 o.seat.row, .int .u8 o.seat.let_, .string o.hol.loc, .int .i64 o.hol.pax] 71
    rw [World.size_alloc, World.size_alloc] at h3
    exact ⟨⟨h2.1.alloc _, h2.2.1.alloc _, h3⟩, h2.2.2.below.alloc (by simp; omega) _⟩
  unfold hactV
  clear hs hp ha haok hook
  go_enter Tryz.func11, Tryz.ntmps11
  go_upto_region 1 with fail
  refine wp_world (fun V => (Bx V w.heap.size #[.slice A n c, .slice A2 n2 c2] 60 ∧ Bx V (w.heap.size + 1) #[.int .i64 a.kind, .int .i64 a.fl, .string a.leg.key.car, .int .i64 a.leg.key.num, .int .i64 a.leg.day, .int .i64 a.seat.row, .int .u8 a.seat.let_, .string a.hol.loc, .int .i64 a.hol.pax] 71 ∧ Bx V (w.heap.size + 1 + 1) #[.int .i64 o.kind, .int .i64 o.fl, .string o.leg.key.car, .int .i64 o.leg.key.num, .int .i64 o.leg.day, .int .i64 o.seat.row, .int .u8 o.seat.let_, .string o.hol.loc, .int .i64 o.hol.pax] 71) ∧ Below w.heap.size w V) HB ?_
  clear HB
  rintro V0 ⟨bW, hb0⟩
  have BW0 : Hid (Bx V0 w.heap.size #[.slice A n c, .slice A2 n2 c2] 60 ∧ Bx V0 (w.heap.size + 1) #[.int .i64 a.kind, .int .i64 a.fl, .string a.leg.key.car, .int .i64 a.leg.key.num, .int .i64 a.leg.day, .int .i64 a.seat.row, .int .u8 a.seat.let_, .string a.hol.loc, .int .i64 a.hol.pax] 71 ∧ Bx V0 (w.heap.size + 1 + 1) #[.int .i64 o.kind, .int .i64 o.fl, .string o.leg.key.car, .int .i64 o.leg.key.num, .int .i64 o.leg.day, .int .i64 o.seat.row, .int .u8 o.seat.let_, .string o.hol.loc, .int .i64 o.hol.pax] 71) := bW
  have HB0 := Lib.hid hb0
  have z0 := hb0.size
  clear bW hb0
  go_wp2_with fail
  refine (awake11_any V0).mono ?_
  rintro e w1 ⟨rfl, h1⟩
  have BW1 : Hid (Bx w1 w.heap.size #[.slice A n c, .slice A2 n2 c2] 60 ∧ Bx w1 (w.heap.size + 1) #[.int .i64 a.kind, .int .i64 a.fl, .string a.leg.key.car, .int .i64 a.leg.key.num, .int .i64 a.leg.day, .int .i64 a.seat.row, .int .u8 a.seat.let_, .string a.hol.loc, .int .i64 a.hol.pax] 71 ∧ Bx w1 (w.heap.size + 1 + 1) #[.int .i64 o.kind, .int .i64 o.fl, .string o.leg.key.car, .int .i64 o.leg.key.num, .int .i64 o.leg.day, .int .i64 o.seat.row, .int .u8 o.seat.let_, .string o.hol.loc, .int .i64 o.hol.pax] 71) := ⟨BW0.out.1.below h1 BW0.out.1.lt, BW0.out.2.1.below h1 BW0.out.2.1.lt, BW0.out.2.2.below h1 BW0.out.2.2.lt⟩
  have H1 := Lib.hid (HB0.out.trans (h1.mono z0))
  have z1 := H1.out.size
  have zW1 := BW1.out.2.2.lt
  clear h1 BW0 HB0
  have cc1 := BW1.out.1.cells
  go_wp2_with fail
  refine (hbegun_any rl A n c pl A2 n2 c2 w1 0 w.heap.size (HFS.out.below H1.out (Nat.le_refl _)) (HPS.out.below H1.out (Nat.le_refl _)) z1).mono ?_
  rintro e w2 ⟨h2, hq⟩
  have BW2 : Hid (Bx w2 w.heap.size #[.slice A n c, .slice A2 n2 c2] 60 ∧ Bx w2 (w.heap.size + 1) #[.int .i64 a.kind, .int .i64 a.fl, .string a.leg.key.car, .int .i64 a.leg.key.num, .int .i64 a.leg.day, .int .i64 a.seat.row, .int .u8 a.seat.let_, .string a.hol.loc, .int .i64 a.hol.pax] 71 ∧ Bx w2 (w.heap.size + 1 + 1) #[.int .i64 o.kind, .int .i64 o.fl, .string o.leg.key.car, .int .i64 o.leg.key.num, .int .i64 o.leg.day, .int .i64 o.seat.row, .int .u8 o.seat.let_, .string o.hol.loc, .int .i64 o.hol.pax] 71) := ⟨BW1.out.1.below h2 BW1.out.1.lt, BW1.out.2.1.below h2 BW1.out.2.1.lt, BW1.out.2.2.below h2 BW1.out.2.2.lt⟩
  have H2 := Lib.hid (H1.out.trans (h2.mono z1))
  have z2 := H2.out.size
  have z12 := h2.size
  clear h2 cc1 BW1
  rcases hq with ⟨_, rfl⟩ | ⟨hnew, lo, hi, t, p, b, rs, ps, rfl, hHK, hz, htab, hks⟩
  · go_wp2
    go_ret
    exact ⟨rfl, H2.out⟩
  have HR := Lib.hid htab.right_rs
  have HFO := Lib.hid (show ∀ f ∈ rl.map (·.f), f.ok from fun f hf => by obtain ⟨r, hr, rfl⟩ := List.mem_map.1 hf; exact (HOK.out r hr).f)
  have HHK := Lib.hid hHK
  have zb := hHK.hb
  have zbb := hHK.blt
  have zpp := hHK.plt
  clear htab hHK hnew hks
  by_cases hm : 100 < n3
  · have hm' : (100 : Int) < n3 := by omega
    go_wp2
    go_ret
    exact ⟨rfl, H2.out⟩
  have hm' : (n3 : Int) ≤ 100 := by omega
  have hwb : w.heap.size + 1 + 1 < b := by omega
  go_wp2
  go_loopw [11] (fun i wr => ∃ (k : Nat) (E : List Hpl), k ≤ n3 ∧ i = .int .i64 k ∧ ∃ q, HK wr lo hi t p b rs ps q ∧ Hid (En q E) ∧ E.length ≤ k ∧ (Bx wr w.heap.size #[.slice A n c, .slice A2 n2 c2] 60 ∧ Bx wr (w.heap.size + 1) #[.int .i64 a.kind, .int .i64 a.fl, .string a.leg.key.car, .int .i64 a.leg.key.num, .int .i64 a.leg.day, .int .i64 a.seat.row, .int .u8 a.seat.let_, .string a.hol.loc, .int .i64 a.hol.pax] 71 ∧ Bx wr (w.heap.size + 1 + 1) #[.int .i64 o.kind, .int .i64 o.fl, .string o.leg.key.car, .int .i64 o.leg.key.num, .int .i64 o.leg.day, .int .i64 o.seat.row, .int .u8 o.seat.let_, .string o.hol.loc, .int .i64 o.hol.pax] 71) ∧ Below w.heap.size w wr) (fun i _ => n3 - (intOf i).toNat)
  case atStart => exact ⟨0, [], Nat.zero_le _, rfl, _, HHK.out, En.zero, Nat.le_refl _, BW2.out, H2.out⟩
  case round =>
    clear HHK zbb zpp BW2
    obtain ⟨k, E, hk, rfl, q, hHK, HEN, hEk, bW, hb⟩ := hrel
    have HHK := Lib.hid hHK
    have HB := Lib.hid hb
    have BW : Hid (Bx wr w.heap.size #[.slice A n c, .slice A2 n2 c2] 60 ∧ Bx wr (w.heap.size + 1) #[.int .i64 a.kind, .int .i64 a.fl, .string a.leg.key.car, .int .i64 a.leg.key.num, .int .i64 a.leg.day, .int .i64 a.seat.row, .int .u8 a.seat.let_, .string a.hol.loc, .int .i64 a.hol.pax] 71 ∧ Bx wr (w.heap.size + 1 + 1) #[.int .i64 o.kind, .int .i64 o.fl, .string o.leg.key.car, .int .i64 o.leg.key.num, .int .i64 o.leg.day, .int .i64 o.seat.row, .int .u8 o.seat.let_, .string o.hol.loc, .int .i64 o.hol.pax] 71) := bW
    have zw := hb.size
    have zbb := hHK.blt
    clear hHK bW
    by_cases hlt : k < n3
    · obtain ⟨b0, o0, x, hA, _, hb1, hx1, hok, d0, d1, d2, d3, d4, d5, d6, d7, d8⟩ := (Sl.below HA.out hb (Nat.le_refl _)).ha_ hlt
      subst hA
      have i0 : (0 : Int) ≤ k := by omega
      have i1 : (k : Int) < n3 := by omega
      have hb0w : b0 < wr.heap.size := by omega
      have hb0b : b0 ≠ b := by omega
      have HOA := Lib.hid hok
      clear hb hx1 hok
      by_cases k0 : x.kind = 0
      · have HLEG := Lib.hid (fun (V : World) (hV : Below w.heap.size w V) => (hleg_any rl A n c A2 n2 c2 V 0 w.heap.size (HFS.out.below hV (Nat.le_refl _)) hV.size x))
        have HG := Lib.hid (legH_ok HOA.out HFO.out)
        unfold hactV at HLEG
        generalize legH (rl.map (·.f)) x = g at HLEG HG
        have HTAKE := Lib.hid (fun (W : World) (hW : Below wr.heap.size wr W) => take_is (HHK.out.keep hW) HR.out g x.seat x.hol HG.out HOA.out.seat HOA.out.hol)
        rw [k0] at HLEG d0
        clear k0
        have X0 : Hid ((∀ i : Nat, wr.cell? ⟨w.heap.size, i, none⟩ = (#[.slice A n c, .slice A2 n2 c2] : Array Value)[i]?) ∧ wr.cell? ⟨b0, o0 + k * 9, none⟩ = some (.int .i64 0) ∧ wr.cell? ⟨b0, o0 + k * 9 + 1, none⟩ = some (.int .i64 x.fl) ∧ wr.cell? ⟨b0, o0 + k * 9 + 2, none⟩ = some (.string x.leg.key.car) ∧ wr.cell? ⟨b0, o0 + k * 9 + 3, none⟩ = some (.int .i64 x.leg.key.num) ∧ wr.cell? ⟨b0, o0 + k * 9 + 4, none⟩ = some (.int .i64 x.leg.day) ∧ wr.cell? ⟨b0, o0 + k * 9 + 5, none⟩ = some (.int .i64 x.seat.row) ∧ wr.cell? ⟨b0, o0 + k * 9 + 6, none⟩ = some (.int .u8 x.seat.let_) ∧ wr.cell? ⟨b0, o0 + k * 9 + 7, none⟩ = some (.string x.hol.loc) ∧ wr.cell? ⟨b0, o0 + k * 9 + 8, none⟩ = some (.int .i64 x.hol.pax)) := ⟨BW.out.1.cells, d0, d1, d2, d3, d4, d5, d6, d7, d8⟩
        go_upto_region 10 with fail
        have XD : Hid ((∀ i : Nat, wr.drew.cell? ⟨w.heap.size, i, none⟩ = (#[.slice A n c, .slice A2 n2 c2] : Array Value)[i]?) ∧ wr.drew.cell? ⟨b0, o0 + k * 9, none⟩ = some (.int .i64 0) ∧ wr.drew.cell? ⟨b0, o0 + k * 9 + 1, none⟩ = some (.int .i64 x.fl) ∧ wr.drew.cell? ⟨b0, o0 + k * 9 + 2, none⟩ = some (.string x.leg.key.car) ∧ wr.drew.cell? ⟨b0, o0 + k * 9 + 3, none⟩ = some (.int .i64 x.leg.key.num) ∧ wr.drew.cell? ⟨b0, o0 + k * 9 + 4, none⟩ = some (.int .i64 x.leg.day) ∧ wr.drew.cell? ⟨b0, o0 + k * 9 + 5, none⟩ = some (.int .i64 x.seat.row) ∧ wr.drew.cell? ⟨b0, o0 + k * 9 + 6, none⟩ = some (.int .u8 x.seat.let_) ∧ wr.drew.cell? ⟨b0, o0 + k * 9 + 7, none⟩ = some (.string x.hol.loc) ∧ wr.drew.cell? ⟨b0, o0 + k * 9 + 8, none⟩ = some (.int .i64 x.hol.pax)) := X0.out
        clear d0 d1 d2 d3 d4 d5 d6 d7 d8
        go_region_held3 (fun w' => (∀ i : Nat, w'.cell? ⟨w.heap.size, i, none⟩ = (#[.slice A n c, .slice A2 n2 c2] : Array Value)[i]?) ∧ w'.cell? ⟨b0, o0 + k * 9, none⟩ = some (.int .i64 0) ∧ w'.cell? ⟨b0, o0 + k * 9 + 1, none⟩ = some (.int .i64 x.fl) ∧ w'.cell? ⟨b0, o0 + k * 9 + 2, none⟩ = some (.string x.leg.key.car) ∧ w'.cell? ⟨b0, o0 + k * 9 + 3, none⟩ = some (.int .i64 x.leg.key.num) ∧ w'.cell? ⟨b0, o0 + k * 9 + 4, none⟩ = some (.int .i64 x.leg.day) ∧ w'.cell? ⟨b0, o0 + k * 9 + 5, none⟩ = some (.int .i64 x.seat.row) ∧ w'.cell? ⟨b0, o0 + k * 9 + 6, none⟩ = some (.int .u8 x.seat.let_) ∧ w'.cell? ⟨b0, o0 + k * 9 + 7, none⟩ = some (.string x.hol.loc) ∧ w'.cell? ⟨b0, o0 + k * 9 + 8, none⟩ = some (.int .i64 x.hol.pax)) (first | (with_reducible exact XD.out) | (with_reducible exact X1.out) | (with_reducible exact X2.out)) (first
          | (go_at_call 30; (with_reducible refine (HLEG.out _ HB.out.drew).mono ?_); rintro e w3 ⟨rfl, h3⟩; have h3' : Below wr.heap.size wr w3 := ((Below.refl wr.heap.size wr).drew).trans h3; have H3 := Lib.hid h3'; have X1 : Hid ((∀ i : Nat, w3.cell? ⟨w.heap.size, i, none⟩ = (#[.slice A n c, .slice A2 n2 c2] : Array Value)[i]?) ∧ w3.cell? ⟨b0, o0 + k * 9, none⟩ = some (.int .i64 0) ∧ w3.cell? ⟨b0, o0 + k * 9 + 1, none⟩ = some (.int .i64 x.fl) ∧ w3.cell? ⟨b0, o0 + k * 9 + 2, none⟩ = some (.string x.leg.key.car) ∧ w3.cell? ⟨b0, o0 + k * 9 + 3, none⟩ = some (.int .i64 x.leg.key.num) ∧ w3.cell? ⟨b0, o0 + k * 9 + 4, none⟩ = some (.int .i64 x.leg.day) ∧ w3.cell? ⟨b0, o0 + k * 9 + 5, none⟩ = some (.int .i64 x.seat.row) ∧ w3.cell? ⟨b0, o0 + k * 9 + 6, none⟩ = some (.int .u8 x.seat.let_) ∧ w3.cell? ⟨b0, o0 + k * 9 + 7, none⟩ = some (.string x.hol.loc) ∧ w3.cell? ⟨b0, o0 + k * 9 + 8, none⟩ = some (.int .i64 x.hol.pax)) := ⟨(BW.out.1.below h3' BW.out.1.lt).cells, (h3.cell (p := ⟨b0, o0 + k * 9, none⟩) hb0w).trans XD.out.2.1, (h3.cell (p := ⟨b0, o0 + k * 9 + 1, none⟩) hb0w).trans XD.out.2.2.1, (h3.cell (p := ⟨b0, o0 + k * 9 + 2, none⟩) hb0w).trans XD.out.2.2.2.1, (h3.cell (p := ⟨b0, o0 + k * 9 + 3, none⟩) hb0w).trans XD.out.2.2.2.2.1, (h3.cell (p := ⟨b0, o0 + k * 9 + 4, none⟩) hb0w).trans XD.out.2.2.2.2.2.1, (h3.cell (p := ⟨b0, o0 + k * 9 + 5, none⟩) hb0w).trans XD.out.2.2.2.2.2.2.1, (h3.cell (p := ⟨b0, o0 + k * 9 + 6, none⟩) hb0w).trans XD.out.2.2.2.2.2.2.2.1, (h3.cell (p := ⟨b0, o0 + k * 9 + 7, none⟩) hb0w).trans XD.out.2.2.2.2.2.2.2.2.1, (h3.cell (p := ⟨b0, o0 + k * 9 + 8, none⟩) hb0w).trans XD.out.2.2.2.2.2.2.2.2.2⟩; clear h3 h3')
          | (go_at_call 33; (with_reducible refine (HTAKE.out _ H3.out).mono ?_); rintro e w4 ⟨kk, q2, rfl, hS4, hK4, HCS⟩; have HS4 := Lib.hid hS4; have HK4 := Lib.hid hK4; have hb0w3 : b0 < w3.heap.size := Nat.lt_of_lt_of_le hb0w H3.out.size; have X2 : Hid ((∀ i : Nat, w4.cell? ⟨w.heap.size, i, none⟩ = (#[.slice A n c, .slice A2 n2 c2] : Array Value)[i]?) ∧ w4.cell? ⟨b0, o0 + k * 9, none⟩ = some (.int .i64 0) ∧ w4.cell? ⟨b0, o0 + k * 9 + 1, none⟩ = some (.int .i64 x.fl) ∧ w4.cell? ⟨b0, o0 + k * 9 + 2, none⟩ = some (.string x.leg.key.car) ∧ w4.cell? ⟨b0, o0 + k * 9 + 3, none⟩ = some (.int .i64 x.leg.key.num) ∧ w4.cell? ⟨b0, o0 + k * 9 + 4, none⟩ = some (.int .i64 x.leg.day) ∧ w4.cell? ⟨b0, o0 + k * 9 + 5, none⟩ = some (.int .i64 x.seat.row) ∧ w4.cell? ⟨b0, o0 + k * 9 + 6, none⟩ = some (.int .u8 x.seat.let_) ∧ w4.cell? ⟨b0, o0 + k * 9 + 7, none⟩ = some (.string x.hol.loc) ∧ w4.cell? ⟨b0, o0 + k * 9 + 8, none⟩ = some (.int .i64 x.hol.pax)) := ⟨((BW.out.1.below H3.out BW.out.1.lt).kb hK4 (by omega)).cells, (World.cell?_of_block (hK4.block _ hb0w3 hb0b)).trans X1.out.2.1, (World.cell?_of_block (hK4.block _ hb0w3 hb0b)).trans X1.out.2.2.1, (World.cell?_of_block (hK4.block _ hb0w3 hb0b)).trans X1.out.2.2.2.1, (World.cell?_of_block (hK4.block _ hb0w3 hb0b)).trans X1.out.2.2.2.2.1, (World.cell?_of_block (hK4.block _ hb0w3 hb0b)).trans X1.out.2.2.2.2.2.1, (World.cell?_of_block (hK4.block _ hb0w3 hb0b)).trans X1.out.2.2.2.2.2.2.1, (World.cell?_of_block (hK4.block _ hb0w3 hb0b)).trans X1.out.2.2.2.2.2.2.2.1, (World.cell?_of_block (hK4.block _ hb0w3 hb0b)).trans X1.out.2.2.2.2.2.2.2.2.1, (World.cell?_of_block (hK4.block _ hb0w3 hb0b)).trans X1.out.2.2.2.2.2.2.2.2.2⟩; clear hS4 hK4))
        have z34 := H3.out.size
        have HBF := Lib.hid (HK4.out.below (HB.out.trans (H3.out.mono zw)) (by omega) (Nat.le_trans zw H3.out.size))
        have BW3 : Hid (Bx w3 w.heap.size #[.slice A n c, .slice A2 n2 c2] 60 ∧ Bx w3 (w.heap.size + 1) #[.int .i64 a.kind, .int .i64 a.fl, .string a.leg.key.car, .int .i64 a.leg.key.num, .int .i64 a.leg.day, .int .i64 a.seat.row, .int .u8 a.seat.let_, .string a.hol.loc, .int .i64 a.hol.pax] 71 ∧ Bx w3 (w.heap.size + 1 + 1) #[.int .i64 o.kind, .int .i64 o.fl, .string o.leg.key.car, .int .i64 o.leg.key.num, .int .i64 o.leg.day, .int .i64 o.seat.row, .int .u8 o.seat.let_, .string o.hol.loc, .int .i64 o.hol.pax] 71) := ⟨BW.out.1.below H3.out BW.out.1.lt, BW.out.2.1.below H3.out BW.out.2.1.lt, BW.out.2.2.below H3.out BW.out.2.2.lt⟩
        have BWF : Hid (Bx w4 w.heap.size #[.slice A n c, .slice A2 n2 c2] 60 ∧ Bx w4 (w.heap.size + 1) #[.int .i64 a.kind, .int .i64 a.fl, .string a.leg.key.car, .int .i64 a.leg.key.num, .int .i64 a.leg.day, .int .i64 a.seat.row, .int .u8 a.seat.let_, .string a.hol.loc, .int .i64 a.hol.pax] 71 ∧ Bx w4 (w.heap.size + 1 + 1) #[.int .i64 o.kind, .int .i64 o.fl, .string o.leg.key.car, .int .i64 o.leg.key.num, .int .i64 o.leg.day, .int .i64 o.seat.row, .int .u8 o.seat.let_, .string o.hol.loc, .int .i64 o.hol.pax] 71) := ⟨BW3.out.1.kb HK4.out (by omega), BW3.out.2.1.kb HK4.out (by omega), BW3.out.2.2.kb HK4.out (by omega)⟩
        go_wp2
        rcases HCS.out with ⟨rfl, hw, hq, rfl⟩ | ⟨hk0, rfl⟩
        · go_roundw
          case rel => exact ⟨k + 1, _, by omega, by go_num, _, HS4.out, HEN.out.cons hq x.hol, by simp; omega, BWF.out, HBF.out⟩
          case measure => simp [intOf]; omega
        · go_roundw
          case rel => exact ⟨k + 1, _, by omega, by go_num, _, HS4.out, HEN, by omega, BWF.out, HBF.out⟩
          case measure => simp [intOf]; omega
      · have te : (x.kind == 0) = false := by simp [k0]
        go_wp2
        go_roundw
        case rel => exact ⟨k + 1, _, by omega, by go_num, _, HHK.out, HEN, by omega, BW.out, HB.out⟩
        case measure => simp [intOf]; omega
    · obtain rfl : n3 = k := by omega
      clear hb
      have cc1 := BW.out.2.1.cells
      have y1 := HHK.out.blt
      have y5 := HHK.out.plt
      have y6 := HHK.out.hb
      have y7 := HHK.out.hp
      go_wp2_with fail
      refine (hcopy_any HHK.out).mono ?_
      rintro e w3 ⟨p5, b5, rfl, hC3, hp5, hb5, h3⟩
      have HC3 := Lib.hid hC3
      have HS3 := Lib.hid (HHK.out.keep h3)
      have HB3 := Lib.hid (HB.out.trans (h3.mono zw))
      have BW3 : Hid (Bx w3 w.heap.size #[.slice A n c, .slice A2 n2 c2] 60 ∧ Bx w3 (w.heap.size + 1) #[.int .i64 a.kind, .int .i64 a.fl, .string a.leg.key.car, .int .i64 a.leg.key.num, .int .i64 a.leg.day, .int .i64 a.seat.row, .int .u8 a.seat.let_, .string a.hol.loc, .int .i64 a.hol.pax] 71 ∧ Bx w3 (w.heap.size + 1 + 1) #[.int .i64 o.kind, .int .i64 o.fl, .string o.leg.key.car, .int .i64 o.leg.key.num, .int .i64 o.leg.day, .int .i64 o.seat.row, .int .u8 o.seat.let_, .string o.hol.loc, .int .i64 o.hol.pax] 71) := ⟨BW.out.1.below h3 BW.out.1.lt, BW.out.2.1.below h3 BW.out.2.1.lt, BW.out.2.2.below h3 BW.out.2.2.lt⟩
      have z3 := HB3.out.size
      have zz3 := h3.size
      have y3 := hC3.plt
      have y4 := hC3.blt
      have y8 := hC3.hb
      have y9 := hC3.ne
      have y10 := HHK.out.ne
      clear hC3 h3 HHK HB BW cc1
      have HLEG13 := Lib.hid (fun (V : World) (hV : Below w3.heap.size w3 V) => (hleg_any rl A n c A2 n2 c2 V 0 w.heap.size (HFS.out.below (HB3.out.trans (hV.mono z3)) (Nat.le_refl _)) (Nat.le_trans z3 hV.size) a))
      have HLEG14 := Lib.hid (fun (V : World) (hV : Below w3.heap.size w3 V) => (hleg_any rl A n c A2 n2 c2 V 0 w.heap.size (HFS.out.below (HB3.out.trans (hV.mono z3)) (Nat.le_refl _)) (Nat.le_trans z3 hV.size) o))
      have HXO := Lib.hid (legH_ok HAO.out HFO.out)
      have HYO := Lib.hid (legH_ok HOO.out HFO.out)
      unfold hactV at HLEG13 HLEG14
      generalize legH (rl.map (·.f)) a = x at HLEG13 HXO
      generalize legH (rl.map (·.f)) o = y at HLEG14 HYO
      have HSK := Lib.hid (fun (V : World) (hV : Below w3.heap.size w3 V) => (⟨(BW3.out.1.below hV BW3.out.1.lt).cells, (BW3.out.2.1.below hV BW3.out.2.1.lt).cells, (BW3.out.2.2.below hV BW3.out.2.2.lt).cells⟩ : (∀ i : Nat, V.cell? ⟨w.heap.size, i, none⟩ = (#[.slice A n c, .slice A2 n2 c2] : Array Value)[i]?) ∧ (∀ i : Nat, V.cell? ⟨w.heap.size + 1, i, none⟩ = (#[.int .i64 a.kind, .int .i64 a.fl, .string a.leg.key.car, .int .i64 a.leg.key.num, .int .i64 a.leg.day, .int .i64 a.seat.row, .int .u8 a.seat.let_, .string a.hol.loc, .int .i64 a.hol.pax] : Array Value)[i]?) ∧ (∀ i : Nat, V.cell? ⟨w.heap.size + 1 + 1, i, none⟩ = (#[.int .i64 o.kind, .int .i64 o.fl, .string o.leg.key.car, .int .i64 o.leg.key.num, .int .i64 o.leg.day, .int .i64 o.seat.row, .int .u8 o.seat.let_, .string o.hol.loc, .int .i64 o.hol.pax] : Array Value)[i]?)))
      go_upto_region 14 with fail
      go_cut [13, 14] (fun u v w' => ∃ g13 g14, u = .pointer (some ⟨g13, 0, none⟩) ∧ v = .pointer (some ⟨g14, 0, none⟩) ∧ Bx w' g13 #[.string x.key.car, .int .i64 x.key.num, .int .i64 x.day] 27 ∧ Bx w' g14 #[.string y.key.car, .int .i64 y.key.num, .int .i64 y.day] 27 ∧ Below w3.heap.size w3 w' ∧ w3.heap.size ≤ g13 ∧ w3.heap.size ≤ g14)
      case first =>
       as_aux_lemma =>
        have hB_0 := Below.refl w3.heap.size w3
        refine wp_region_held_drew (S := fun w' => (∀ i : Nat, w'.cell? ⟨w.heap.size, i, none⟩ = (#[.slice A n c, .slice A2 n2 c2] : Array Value)[i]?) ∧ (∀ i : Nat, w'.cell? ⟨w.heap.size + 1, i, none⟩ = (#[.int .i64 a.kind, .int .i64 a.fl, .string a.leg.key.car, .int .i64 a.leg.key.num, .int .i64 a.leg.day, .int .i64 a.seat.row, .int .u8 a.seat.let_, .string a.hol.loc, .int .i64 a.hol.pax] : Array Value)[i]?) ∧ (∀ i : Nat, w'.cell? ⟨w.heap.size + 1 + 1, i, none⟩ = (#[.int .i64 o.kind, .int .i64 o.fl, .string o.leg.key.car, .int .i64 o.leg.key.num, .int .i64 o.leg.day, .int .i64 o.seat.row, .int .u8 o.seat.let_, .string o.hol.loc, .int .i64 o.hol.pax] : Array Value)[i]?)) (by kernel_rfl) (HSK.out _ hB_0.drew) (fun hS => ?_)
        refine wpAnyH_take (i := 0) (oi := { dst := some 69, op := Op.load 60 (Operand.tmp 4), type := 60, pos := "law.go:235", after := #[], guard := none }) (v := ?_) rfl (by kernel_rfl) (by kernel_rfl) (by kernel_rfl) (fun _ _ _ h => h) (Or.inl ⟨by rfl, ?_⟩) hS ?_
        rotate_left
        · intro w9 hS9; have q1 := hS9.1; have q2 := hS9.2.1; have q3 := hS9.2.2; go_simp; try with_reducible rfl
        try simp only [Act.put]
        try simp only [List.setIfInBounds_toArray]
        try simp only [List.set_cons_zero]
        try simp only [List.set_cons_succ, List.set_cons_zero]
        refine wpAnyH_take (i := 1) (oi := { dst := some 70, op := Op.load 71 (Operand.tmp 6), type := 71, pos := "law.go:235", after := #[], guard := none }) (v := ?_) rfl (by kernel_rfl) (by kernel_rfl) (by kernel_rfl) (fun _ _ _ h => h) (Or.inl ⟨by rfl, ?_⟩) hS ?_
        rotate_left
        · intro w9 hS9; have q1 := hS9.1; have q2 := hS9.2.1; have q3 := hS9.2.2; go_simp; try with_reducible rfl
        try simp only [Act.put]
        try simp only [List.setIfInBounds_toArray]
        try simp only [List.set_cons_zero]
        try simp only [List.set_cons_succ, List.set_cons_zero]
        refine wpAnyH_take (i := 3) (oi := { dst := some 72, op := Op.load 60 (Operand.tmp 4), type := 60, pos := "law.go:235", after := #[], guard := none }) (v := ?_) rfl (by kernel_rfl) (by kernel_rfl) (by kernel_rfl) (fun _ _ _ h => h) (Or.inl ⟨by rfl, ?_⟩) hS ?_
        rotate_left
        · intro w9 hS9; have q1 := hS9.1; have q2 := hS9.2.1; have q3 := hS9.2.2; go_simp; try with_reducible rfl
        try simp only [Act.put]
        try simp only [List.setIfInBounds_toArray]
        try simp only [List.set_cons_zero]
        try simp only [List.set_cons_succ, List.set_cons_zero]
        refine wpAnyH_take (i := 4) (oi := { dst := some 73, op := Op.load 71 (Operand.tmp 7), type := 71, pos := "law.go:235", after := #[], guard := none }) (v := ?_) rfl (by kernel_rfl) (by kernel_rfl) (by kernel_rfl) (fun _ _ _ h => h) (Or.inl ⟨by rfl, ?_⟩) hS ?_
        rotate_left
        · intro w9 hS9; have q1 := hS9.1; have q2 := hS9.2.1; have q3 := hS9.2.2; go_simp; try with_reducible rfl
        try simp only [Act.put]
        try simp only [List.setIfInBounds_toArray]
        try simp only [List.set_cons_zero]
        try simp only [List.set_cons_succ, List.set_cons_zero]
        refine wpAnyH_ready (rs := [2, 6, 7]) (by kernel_rfl) (by simp) ?_
        refine AllReadyH.cons (o := { dst := some 71, op := Op.call { callee := Callee.value (Operand.func 30), args := #[Operand.tmp 69, Operand.tmp 70], argTypes := #[60, 71] }, type := 27, pos := "law.go:235", after := #[{ on := 0, ground := Ground.data }, { on := 1, ground := Ground.data }], guard := none }) rfl (fun K9 hK9 => ?_) ?_
        · go_simp
          refine (HLEG13.out _ (hB_0.drew)).mono ?_
          rintro e v1 ⟨rfl, h1⟩
          have hB_1 : Below w3.heap.size w3 v1 := (hB_0.drew).trans (h1.mono (hB_0.drew).size)
          have hS_1 := HSK.out _ hB_1
          refine hK9.out _ _ hS_1 (fun hS => ?_)
          clear hK9 K9
          try simp only [Act.put]
          try simp only [List.setIfInBounds_toArray]
          try simp only [List.set_cons_zero]
          try simp only [List.set_cons_succ, List.set_cons_zero]
          refine wpAnyH_ready (rs := [5, 6, 7]) (by kernel_rfl) (by simp) ?_
          refine AllReadyH.cons (o := { dst := some 74, op := Op.call { callee := Callee.value (Operand.func 30), args := #[Operand.tmp 72, Operand.tmp 73], argTypes := #[60, 71] }, type := 27, pos := "law.go:235", after := #[{ on := 3, ground := Ground.data }, { on := 4, ground := Ground.data }, { on := 2, ground := Ground.chain }], guard := none }) rfl (fun K9 hK9 => ?_) ?_
          · go_simp
            refine (HLEG14.out _ (hB_1)).mono ?_
            rintro e v2 ⟨rfl, h2⟩
            have hB_2 : Below w3.heap.size w3 v2 := (hB_1).trans (h2.mono (hB_1).size)
            have hS_2 := HSK.out _ hB_2
            refine hK9.out _ _ hS_2 (fun hS => ?_)
            clear hK9 K9
            try simp only [Act.put]
            try simp only [List.setIfInBounds_toArray]
            try simp only [List.set_cons_zero]
            try simp only [List.set_cons_succ, List.set_cons_zero]
            refine wpAnyH_ready (rs := [6, 7]) (by kernel_rfl) (by simp) ?_
            refine AllReadyH.cons (o := { dst := some 13, op := Op.alloc 27, type := 0, pos := "law.go:235", after := #[], guard := none }) rfl (fun K9 hK9 => ?_) ?_
            · have hB_3 : Below w3.heap.size w3 (v2.alloc (.cells #[.string ⟨#[]⟩, .int .i64 0, .int .i64 0] 27)) := hB_2.alloc hB_2.size _
              have hX13_3 : ∃ g, Bx (v2.alloc (.cells #[.string ⟨#[]⟩, .int .i64 0, .int .i64 0] 27)) g #[.string ⟨#[]⟩, .int .i64 0, .int .i64 0] 27 ∧ g = v2.heap.size := ⟨_, Bx.new v2 #[.string ⟨#[]⟩, .int .i64 0, .int .i64 0] 27, rfl⟩
              obtain ⟨g13, hX13_3, hg13⟩ := hX13_3
              repeat (first | rw [World.size_alloc] at hg13 | rw [size_setRow] at hg13)
              have hl13 : w3.heap.size ≤ g13 := by have := hB_2.size; (repeat (first | rw [World.size_alloc] at this | rw [size_setRow] at this)); omega
              have hS_3 := HSK.out _ (hB_3)
              go_simp
              refine hK9.out _ _ hS_3 (fun hS => ?_)
              clear hK9 K9
              try simp only [Act.put]
              try simp only [List.setIfInBounds_toArray]
              try simp only [List.set_cons_zero]
              try simp only [List.set_cons_succ, List.set_cons_zero]
              refine wpAnyH_ready (rs := [7]) (by kernel_rfl) (by simp) ?_
              refine AllReadyH.cons (o := { dst := some 14, op := Op.alloc 27, type := 0, pos := "law.go:235", after := #[], guard := none }) rfl (fun K9 hK9 => ?_) AllReadyH.nil
              have hB_4 : Below w3.heap.size w3 ((v2.alloc (.cells #[.string ⟨#[]⟩, .int .i64 0, .int .i64 0] 27)).alloc (.cells #[.string ⟨#[]⟩, .int .i64 0, .int .i64 0] 27)) := hB_3.alloc hB_3.size _
              have hX14_4 : ∃ g, Bx ((v2.alloc (.cells #[.string ⟨#[]⟩, .int .i64 0, .int .i64 0] 27)).alloc (.cells #[.string ⟨#[]⟩, .int .i64 0, .int .i64 0] 27)) g #[.string ⟨#[]⟩, .int .i64 0, .int .i64 0] 27 ∧ g = (v2.alloc (.cells #[.string ⟨#[]⟩, .int .i64 0, .int .i64 0] 27)).heap.size := ⟨_, Bx.new (v2.alloc (.cells #[.string ⟨#[]⟩, .int .i64 0, .int .i64 0] 27)) #[.string ⟨#[]⟩, .int .i64 0, .int .i64 0] 27, rfl⟩
              obtain ⟨g14, hX14_4, hg14⟩ := hX14_4
              have hne : g13 ≠ g14 := by have h1 := hX13_3.lt; rw [hg14]; intro h2; omega
              repeat (first | rw [World.size_alloc] at hg14 | rw [size_setRow] at hg14)
              have hl14 : w3.heap.size ≤ g14 := by have := hB_3.size; (repeat (first | rw [World.size_alloc] at this | rw [size_setRow] at this)); omega
              have hX13_4 := hX13_3.alloc (.cells #[.string ⟨#[]⟩, .int .i64 0, .int .i64 0] 27)
              have hS_4 := HSK.out _ (hB_4)
              go_simp
              refine hK9.out _ _ hS_4 (fun hS => ?_)
              clear hK9 K9
              try simp only [Act.put]
              try simp only [List.setIfInBounds_toArray]
              try simp only [List.set_cons_zero]
              try simp only [List.set_cons_succ, List.set_cons_zero]
              refine wpAnyH_ready (rs := [8]) (by kernel_rfl) (by simp) ?_
              refine AllReadyH.cons (o := { dst := none, op := Op.store 27 (Operand.tmp 13) (Operand.tmp 71), type := 0, pos := "law.go:235", after := #[{ on := 6, ground := Ground.data }, { on := 2, ground := Ground.data }, { on := 5, ground := Ground.chain }, { on := 0, ground := Ground.phase }, { on := 1, ground := Ground.phase }, { on := 2, ground := Ground.phase }, { on := 3, ground := Ground.textOnly Departure.lateStores }, { on := 4, ground := Ground.textOnly Departure.lateStores }, { on := 5, ground := Ground.textOnly Departure.lateStoresUnsure }, { on := 6, ground := Ground.phase }, { on := 7, ground := Ground.phase }], guard := none }) rfl (fun K9 hK9 => ?_) AllReadyH.nil
              have hB_5 : Below w3.heap.size w3 (((v2.alloc (.cells #[.string ⟨#[]⟩, .int .i64 0, .int .i64 0] 27)).alloc (.cells #[.string ⟨#[]⟩, .int .i64 0, .int .i64 0] 27)).setRow g13 #[.string x.key.car, .int .i64 x.key.num, .int .i64 x.day]) := below_setRow (hB_4) hl13 #[.string x.key.car, .int .i64 x.key.num, .int .i64 x.day]
              have hX13_5 : Bx (((v2.alloc (.cells #[.string ⟨#[]⟩, .int .i64 0, .int .i64 0] 27)).alloc (.cells #[.string ⟨#[]⟩, .int .i64 0, .int .i64 0] 27)).setRow g13 #[.string x.key.car, .int .i64 x.key.num, .int .i64 x.day]) g13 #[.string x.key.car, .int .i64 x.key.num, .int .i64 x.day] 27 := Bx.row (w := ((v2.alloc (.cells #[.string ⟨#[]⟩, .int .i64 0, .int .i64 0] 27)).alloc (.cells #[.string ⟨#[]⟩, .int .i64 0, .int .i64 0] 27))) hX13_4 #[.string x.key.car, .int .i64 x.key.num, .int .i64 x.day]
              have hne_5 : g14 ≠ g13 := fun e => hne e.symm
              have hX14_5 : Bx (((v2.alloc (.cells #[.string ⟨#[]⟩, .int .i64 0, .int .i64 0] 27)).alloc (.cells #[.string ⟨#[]⟩, .int .i64 0, .int .i64 0] 27)).setRow g13 #[.string x.key.car, .int .i64 x.key.num, .int .i64 x.day]) g14 #[.string ⟨#[]⟩, .int .i64 0, .int .i64 0] 27 := Bx.rowOther (w := ((v2.alloc (.cells #[.string ⟨#[]⟩, .int .i64 0, .int .i64 0] 27)).alloc (.cells #[.string ⟨#[]⟩, .int .i64 0, .int .i64 0] 27))) hX14_4 hne_5 #[.string x.key.car, .int .i64 x.key.num, .int .i64 x.day]
              have hS_5 := HSK.out _ hB_5
              refine step_store_any 27 rfl (.tmp 13) (.tmp 71) (by rfl) #[.string x.key.car, .int .i64 x.key.num, .int .i64 x.day] (by rw [hg13]; rfl) (by rfl) hX13_4 info_lg rfl (by simp [Value.oneCell']) ?_
              refine hK9.out _ _ hS_5 (fun hS => ?_)
              clear hK9 K9
              try simp only [Act.put]
              try simp only [List.setIfInBounds_toArray]
              try simp only [List.set_cons_zero]
              try simp only [List.set_cons_succ, List.set_cons_zero]
              refine wpAnyH_ready (rs := [9]) (by kernel_rfl) (by simp) ?_
              refine AllReadyH.cons (o := { dst := none, op := Op.store 27 (Operand.tmp 14) (Operand.tmp 74), type := 0, pos := "law.go:235", after := #[{ on := 7, ground := Ground.data }, { on := 5, ground := Ground.data }, { on := 8, ground := Ground.chain }, { on := 0, ground := Ground.phase }, { on := 1, ground := Ground.phase }, { on := 2, ground := Ground.phase }, { on := 3, ground := Ground.phase }, { on := 4, ground := Ground.phase }, { on := 5, ground := Ground.phase }, { on := 6, ground := Ground.phase }, { on := 7, ground := Ground.phase }, { on := 8, ground := Ground.phase }], guard := none }) rfl (fun K9 hK9 => ?_) AllReadyH.nil
              have hB_6 : Below w3.heap.size w3 ((((v2.alloc (.cells #[.string ⟨#[]⟩, .int .i64 0, .int .i64 0] 27)).alloc (.cells #[.string ⟨#[]⟩, .int .i64 0, .int .i64 0] 27)).setRow g13 #[.string x.key.car, .int .i64 x.key.num, .int .i64 x.day]).setRow g14 #[.string y.key.car, .int .i64 y.key.num, .int .i64 y.day]) := below_setRow (hB_5) hl14 #[.string y.key.car, .int .i64 y.key.num, .int .i64 y.day]
              have hX14_6 : Bx ((((v2.alloc (.cells #[.string ⟨#[]⟩, .int .i64 0, .int .i64 0] 27)).alloc (.cells #[.string ⟨#[]⟩, .int .i64 0, .int .i64 0] 27)).setRow g13 #[.string x.key.car, .int .i64 x.key.num, .int .i64 x.day]).setRow g14 #[.string y.key.car, .int .i64 y.key.num, .int .i64 y.day]) g14 #[.string y.key.car, .int .i64 y.key.num, .int .i64 y.day] 27 := Bx.row (w := (((v2.alloc (.cells #[.string ⟨#[]⟩, .int .i64 0, .int .i64 0] 27)).alloc (.cells #[.string ⟨#[]⟩, .int .i64 0, .int .i64 0] 27)).setRow g13 #[.string x.key.car, .int .i64 x.key.num, .int .i64 x.day])) hX14_5 #[.string y.key.car, .int .i64 y.key.num, .int .i64 y.day]
              have hne_6 : g13 ≠ g14 := hne
              have hX13_6 : Bx ((((v2.alloc (.cells #[.string ⟨#[]⟩, .int .i64 0, .int .i64 0] 27)).alloc (.cells #[.string ⟨#[]⟩, .int .i64 0, .int .i64 0] 27)).setRow g13 #[.string x.key.car, .int .i64 x.key.num, .int .i64 x.day]).setRow g14 #[.string y.key.car, .int .i64 y.key.num, .int .i64 y.day]) g13 #[.string x.key.car, .int .i64 x.key.num, .int .i64 x.day] 27 := Bx.rowOther (w := (((v2.alloc (.cells #[.string ⟨#[]⟩, .int .i64 0, .int .i64 0] 27)).alloc (.cells #[.string ⟨#[]⟩, .int .i64 0, .int .i64 0] 27)).setRow g13 #[.string x.key.car, .int .i64 x.key.num, .int .i64 x.day])) hX13_5 hne_6 #[.string y.key.car, .int .i64 y.key.num, .int .i64 y.day]
              have hS_6 := HSK.out _ hB_6
              refine step_store_any 27 rfl (.tmp 14) (.tmp 74) (by rfl) #[.string y.key.car, .int .i64 y.key.num, .int .i64 y.day] (by rw [hg14]; rfl) (by rfl) hX14_5 info_lg rfl (by simp [Value.oneCell']) ?_
              refine hK9.out _ _ hS_6 (fun hS => ?_)
              clear hK9 K9
              try simp only [Act.put]
              try simp only [List.setIfInBounds_toArray]
              try simp only [List.set_cons_zero]
              try simp only [List.set_cons_succ, List.set_cons_zero]
              refine wpAnyH_done (by kernel_rfl) ?_ _
              go_wp2
              go_meet
              subst hg13
              subst hg14
              exact ⟨_, _, rfl, rfl, hX13_6, hX14_6, hB_6, hl13, hl14⟩
            refine AllReadyH.cons (o := { dst := some 14, op := Op.alloc 27, type := 0, pos := "law.go:235", after := #[], guard := none }) rfl (fun K9 hK9 => ?_) AllReadyH.nil
            have hB_3 : Below w3.heap.size w3 (v2.alloc (.cells #[.string ⟨#[]⟩, .int .i64 0, .int .i64 0] 27)) := hB_2.alloc hB_2.size _
            have hX14_3 : ∃ g, Bx (v2.alloc (.cells #[.string ⟨#[]⟩, .int .i64 0, .int .i64 0] 27)) g #[.string ⟨#[]⟩, .int .i64 0, .int .i64 0] 27 ∧ g = v2.heap.size := ⟨_, Bx.new v2 #[.string ⟨#[]⟩, .int .i64 0, .int .i64 0] 27, rfl⟩
            obtain ⟨g14, hX14_3, hg14⟩ := hX14_3
            repeat (first | rw [World.size_alloc] at hg14 | rw [size_setRow] at hg14)
            have hl14 : w3.heap.size ≤ g14 := by have := hB_2.size; (repeat (first | rw [World.size_alloc] at this | rw [size_setRow] at this)); omega
            have hS_3 := HSK.out _ (hB_3)
            go_simp
            refine hK9.out _ _ hS_3 (fun hS => ?_)
            clear hK9 K9
            try simp only [Act.put]
            try simp only [List.setIfInBounds_toArray]
            try simp only [List.set_cons_zero]
            try simp only [List.set_cons_succ, List.set_cons_zero]
            refine wpAnyH_ready (rs := [6]) (by kernel_rfl) (by simp) ?_
            refine AllReadyH.cons (o := { dst := some 13, op := Op.alloc 27, type := 0, pos := "law.go:235", after := #[], guard := none }) rfl (fun K9 hK9 => ?_) AllReadyH.nil
            have hB_4 : Below w3.heap.size w3 ((v2.alloc (.cells #[.string ⟨#[]⟩, .int .i64 0, .int .i64 0] 27)).alloc (.cells #[.string ⟨#[]⟩, .int .i64 0, .int .i64 0] 27)) := hB_3.alloc hB_3.size _
            have hX13_4 : ∃ g, Bx ((v2.alloc (.cells #[.string ⟨#[]⟩, .int .i64 0, .int .i64 0] 27)).alloc (.cells #[.string ⟨#[]⟩, .int .i64 0, .int .i64 0] 27)) g #[.string ⟨#[]⟩, .int .i64 0, .int .i64 0] 27 ∧ g = (v2.alloc (.cells #[.string ⟨#[]⟩, .int .i64 0, .int .i64 0] 27)).heap.size := ⟨_, Bx.new (v2.alloc (.cells #[.string ⟨#[]⟩, .int .i64 0, .int .i64 0] 27)) #[.string ⟨#[]⟩, .int .i64 0, .int .i64 0] 27, rfl⟩
            obtain ⟨g13, hX13_4, hg13⟩ := hX13_4
            have hne : g13 ≠ g14 := by have h1 := hX14_3.lt; rw [hg13]; intro h2; omega
            repeat (first | rw [World.size_alloc] at hg13 | rw [size_setRow] at hg13)
            have hl13 : w3.heap.size ≤ g13 := by have := hB_3.size; (repeat (first | rw [World.size_alloc] at this | rw [size_setRow] at this)); omega
            have hX14_4 := hX14_3.alloc (.cells #[.string ⟨#[]⟩, .int .i64 0, .int .i64 0] 27)
            have hS_4 := HSK.out _ (hB_4)
            go_simp
            refine hK9.out _ _ hS_4 (fun hS => ?_)
            clear hK9 K9
            try simp only [Act.put]
            try simp only [List.setIfInBounds_toArray]
            try simp only [List.set_cons_zero]
            try simp only [List.set_cons_succ, List.set_cons_zero]
            refine wpAnyH_ready (rs := [8]) (by kernel_rfl) (by simp) ?_
            refine AllReadyH.cons (o := { dst := none, op := Op.store 27 (Operand.tmp 13) (Operand.tmp 71), type := 0, pos := "law.go:235", after := #[{ on := 6, ground := Ground.data }, { on := 2, ground := Ground.data }, { on := 5, ground := Ground.chain }, { on := 0, ground := Ground.phase }, { on := 1, ground := Ground.phase }, { on := 2, ground := Ground.phase }, { on := 3, ground := Ground.textOnly Departure.lateStores }, { on := 4, ground := Ground.textOnly Departure.lateStores }, { on := 5, ground := Ground.textOnly Departure.lateStoresUnsure }, { on := 6, ground := Ground.phase }, { on := 7, ground := Ground.phase }], guard := none }) rfl (fun K9 hK9 => ?_) AllReadyH.nil
            have hB_5 : Below w3.heap.size w3 (((v2.alloc (.cells #[.string ⟨#[]⟩, .int .i64 0, .int .i64 0] 27)).alloc (.cells #[.string ⟨#[]⟩, .int .i64 0, .int .i64 0] 27)).setRow g13 #[.string x.key.car, .int .i64 x.key.num, .int .i64 x.day]) := below_setRow (hB_4) hl13 #[.string x.key.car, .int .i64 x.key.num, .int .i64 x.day]
            have hX13_5 : Bx (((v2.alloc (.cells #[.string ⟨#[]⟩, .int .i64 0, .int .i64 0] 27)).alloc (.cells #[.string ⟨#[]⟩, .int .i64 0, .int .i64 0] 27)).setRow g13 #[.string x.key.car, .int .i64 x.key.num, .int .i64 x.day]) g13 #[.string x.key.car, .int .i64 x.key.num, .int .i64 x.day] 27 := Bx.row (w := ((v2.alloc (.cells #[.string ⟨#[]⟩, .int .i64 0, .int .i64 0] 27)).alloc (.cells #[.string ⟨#[]⟩, .int .i64 0, .int .i64 0] 27))) hX13_4 #[.string x.key.car, .int .i64 x.key.num, .int .i64 x.day]
            have hne_5 : g14 ≠ g13 := fun e => hne e.symm
            have hX14_5 : Bx (((v2.alloc (.cells #[.string ⟨#[]⟩, .int .i64 0, .int .i64 0] 27)).alloc (.cells #[.string ⟨#[]⟩, .int .i64 0, .int .i64 0] 27)).setRow g13 #[.string x.key.car, .int .i64 x.key.num, .int .i64 x.day]) g14 #[.string ⟨#[]⟩, .int .i64 0, .int .i64 0] 27 := Bx.rowOther (w := ((v2.alloc (.cells #[.string ⟨#[]⟩, .int .i64 0, .int .i64 0] 27)).alloc (.cells #[.string ⟨#[]⟩, .int .i64 0, .int .i64 0] 27))) hX14_4 hne_5 #[.string x.key.car, .int .i64 x.key.num, .int .i64 x.day]
            have hS_5 := HSK.out _ hB_5
            refine step_store_any 27 rfl (.tmp 13) (.tmp 71) (by rfl) #[.string x.key.car, .int .i64 x.key.num, .int .i64 x.day] (by rw [hg13]; rfl) (by rfl) hX13_4 info_lg rfl (by simp [Value.oneCell']) ?_
            refine hK9.out _ _ hS_5 (fun hS => ?_)
            clear hK9 K9
            try simp only [Act.put]
            try simp only [List.setIfInBounds_toArray]
            try simp only [List.set_cons_zero]
            try simp only [List.set_cons_succ, List.set_cons_zero]
            refine wpAnyH_ready (rs := [9]) (by kernel_rfl) (by simp) ?_
            refine AllReadyH.cons (o := { dst := none, op := Op.store 27 (Operand.tmp 14) (Operand.tmp 74), type := 0, pos := "law.go:235", after := #[{ on := 7, ground := Ground.data }, { on := 5, ground := Ground.data }, { on := 8, ground := Ground.chain }, { on := 0, ground := Ground.phase }, { on := 1, ground := Ground.phase }, { on := 2, ground := Ground.phase }, { on := 3, ground := Ground.phase }, { on := 4, ground := Ground.phase }, { on := 5, ground := Ground.phase }, { on := 6, ground := Ground.phase }, { on := 7, ground := Ground.phase }, { on := 8, ground := Ground.phase }], guard := none }) rfl (fun K9 hK9 => ?_) AllReadyH.nil
            have hB_6 : Below w3.heap.size w3 ((((v2.alloc (.cells #[.string ⟨#[]⟩, .int .i64 0, .int .i64 0] 27)).alloc (.cells #[.string ⟨#[]⟩, .int .i64 0, .int .i64 0] 27)).setRow g13 #[.string x.key.car, .int .i64 x.key.num, .int .i64 x.day]).setRow g14 #[.string y.key.car, .int .i64 y.key.num, .int .i64 y.day]) := below_setRow (hB_5) hl14 #[.string y.key.car, .int .i64 y.key.num, .int .i64 y.day]
            have hX14_6 : Bx ((((v2.alloc (.cells #[.string ⟨#[]⟩, .int .i64 0, .int .i64 0] 27)).alloc (.cells #[.string ⟨#[]⟩, .int .i64 0, .int .i64 0] 27)).setRow g13 #[.string x.key.car, .int .i64 x.key.num, .int .i64 x.day]).setRow g14 #[.string y.key.car, .int .i64 y.key.num, .int .i64 y.day]) g14 #[.string y.key.car, .int .i64 y.key.num, .int .i64 y.day] 27 := Bx.row (w := (((v2.alloc (.cells #[.string ⟨#[]⟩, .int .i64 0, .int .i64 0] 27)).alloc (.cells #[.string ⟨#[]⟩, .int .i64 0, .int .i64 0] 27)).setRow g13 #[.string x.key.car, .int .i64 x.key.num, .int .i64 x.day])) hX14_5 #[.string y.key.car, .int .i64 y.key.num, .int .i64 y.day]
            have hne_6 : g13 ≠ g14 := hne
            have hX13_6 : Bx ((((v2.alloc (.cells #[.string ⟨#[]⟩, .int .i64 0, .int .i64 0] 27)).alloc (.cells #[.string ⟨#[]⟩, .int .i64 0, .int .i64 0] 27)).setRow g13 #[.string x.key.car, .int .i64 x.key.num, .int .i64 x.day]).setRow g14 #[.string y.key.car, .int .i64 y.key.num, .int .i64 y.day]) g13 #[.string x.key.car, .int .i64 x.key.num, .int .i64 x.day] 27 := Bx.rowOther (w := (((v2.alloc (.cells #[.string ⟨#[]⟩, .int .i64 0, .int .i64 0] 27)).alloc (.cells #[.string ⟨#[]⟩, .int .i64 0, .int .i64 0] 27)).setRow g13 #[.string x.key.car, .int .i64 x.key.num, .int .i64 x.day])) hX13_5 hne_6 #[.string y.key.car, .int .i64 y.key.num, .int .i64 y.day]
            have hS_6 := HSK.out _ hB_6
            refine step_store_any 27 rfl (.tmp 14) (.tmp 74) (by rfl) #[.string y.key.car, .int .i64 y.key.num, .int .i64 y.day] (by rw [hg14]; rfl) (by rfl) hX14_5 info_lg rfl (by simp [Value.oneCell']) ?_
            refine hK9.out _ _ hS_6 (fun hS => ?_)
            clear hK9 K9
            try simp only [Act.put]
            try simp only [List.setIfInBounds_toArray]
            try simp only [List.set_cons_zero]
            try simp only [List.set_cons_succ, List.set_cons_zero]
            refine wpAnyH_done (by kernel_rfl) ?_ _
            go_wp2
            go_meet
            subst hg13
            subst hg14
            exact ⟨_, _, rfl, rfl, hX13_6, hX14_6, hB_6, hl13, hl14⟩
          refine AllReadyH.cons (o := { dst := some 13, op := Op.alloc 27, type := 0, pos := "law.go:235", after := #[], guard := none }) rfl (fun K9 hK9 => ?_) ?_
          · have hB_2 : Below w3.heap.size w3 (v1.alloc (.cells #[.string ⟨#[]⟩, .int .i64 0, .int .i64 0] 27)) := hB_1.alloc hB_1.size _
            have hX13_2 : ∃ g, Bx (v1.alloc (.cells #[.string ⟨#[]⟩, .int .i64 0, .int .i64 0] 27)) g #[.string ⟨#[]⟩, .int .i64 0, .int .i64 0] 27 ∧ g = v1.heap.size := ⟨_, Bx.new v1 #[.string ⟨#[]⟩, .int .i64 0, .int .i64 0] 27, rfl⟩
            obtain ⟨g13, hX13_2, hg13⟩ := hX13_2
            repeat (first | rw [World.size_alloc] at hg13 | rw [size_setRow] at hg13)
            have hl13 : w3.heap.size ≤ g13 := by have := hB_1.size; (repeat (first | rw [World.size_alloc] at this | rw [size_setRow] at this)); omega
            have hS_2 := HSK.out _ (hB_2)
            go_simp
            refine hK9.out _ _ hS_2 (fun hS => ?_)
            clear hK9 K9
            try simp only [Act.put]
            try simp only [List.setIfInBounds_toArray]
            try simp only [List.set_cons_zero]
            try simp only [List.set_cons_succ, List.set_cons_zero]
            refine wpAnyH_ready (rs := [5, 7]) (by kernel_rfl) (by simp) ?_
            refine AllReadyH.cons (o := { dst := some 74, op := Op.call { callee := Callee.value (Operand.func 30), args := #[Operand.tmp 72, Operand.tmp 73], argTypes := #[60, 71] }, type := 27, pos := "law.go:235", after := #[{ on := 3, ground := Ground.data }, { on := 4, ground := Ground.data }, { on := 2, ground := Ground.chain }], guard := none }) rfl (fun K9 hK9 => ?_) ?_
            · go_simp
              refine (HLEG14.out _ (hB_2)).mono ?_
              rintro e v3 ⟨rfl, h3⟩
              have hX13_3 := Bx.below (w := (v1.alloc (.cells #[.string ⟨#[]⟩, .int .i64 0, .int .i64 0] 27))) hX13_2 h3 hX13_2.lt
              have hB_3 : Below w3.heap.size w3 v3 := (hB_2).trans (h3.mono (hB_2).size)
              have hS_3 := HSK.out _ hB_3
              refine hK9.out _ _ hS_3 (fun hS => ?_)
              clear hK9 K9
              try simp only [Act.put]
              try simp only [List.setIfInBounds_toArray]
              try simp only [List.set_cons_zero]
              try simp only [List.set_cons_succ, List.set_cons_zero]
              refine wpAnyH_ready (rs := [7]) (by kernel_rfl) (by simp) ?_
              refine AllReadyH.cons (o := { dst := some 14, op := Op.alloc 27, type := 0, pos := "law.go:235", after := #[], guard := none }) rfl (fun K9 hK9 => ?_) AllReadyH.nil
              have hB_4 : Below w3.heap.size w3 (v3.alloc (.cells #[.string ⟨#[]⟩, .int .i64 0, .int .i64 0] 27)) := hB_3.alloc hB_3.size _
              have hX14_4 : ∃ g, Bx (v3.alloc (.cells #[.string ⟨#[]⟩, .int .i64 0, .int .i64 0] 27)) g #[.string ⟨#[]⟩, .int .i64 0, .int .i64 0] 27 ∧ g = v3.heap.size := ⟨_, Bx.new v3 #[.string ⟨#[]⟩, .int .i64 0, .int .i64 0] 27, rfl⟩
              obtain ⟨g14, hX14_4, hg14⟩ := hX14_4
              have hne : g13 ≠ g14 := by have h1 := hX13_3.lt; rw [hg14]; intro h2; omega
              repeat (first | rw [World.size_alloc] at hg14 | rw [size_setRow] at hg14)
              have hl14 : w3.heap.size ≤ g14 := by have := hB_3.size; (repeat (first | rw [World.size_alloc] at this | rw [size_setRow] at this)); omega
              have hX13_4 := hX13_3.alloc (.cells #[.string ⟨#[]⟩, .int .i64 0, .int .i64 0] 27)
              have hS_4 := HSK.out _ (hB_4)
              go_simp
              refine hK9.out _ _ hS_4 (fun hS => ?_)
              clear hK9 K9
              try simp only [Act.put]
              try simp only [List.setIfInBounds_toArray]
              try simp only [List.set_cons_zero]
              try simp only [List.set_cons_succ, List.set_cons_zero]
              refine wpAnyH_ready (rs := [8]) (by kernel_rfl) (by simp) ?_
              refine AllReadyH.cons (o := { dst := none, op := Op.store 27 (Operand.tmp 13) (Operand.tmp 71), type := 0, pos := "law.go:235", after := #[{ on := 6, ground := Ground.data }, { on := 2, ground := Ground.data }, { on := 5, ground := Ground.chain }, { on := 0, ground := Ground.phase }, { on := 1, ground := Ground.phase }, { on := 2, ground := Ground.phase }, { on := 3, ground := Ground.textOnly Departure.lateStores }, { on := 4, ground := Ground.textOnly Departure.lateStores }, { on := 5, ground := Ground.textOnly Departure.lateStoresUnsure }, { on := 6, ground := Ground.phase }, { on := 7, ground := Ground.phase }], guard := none }) rfl (fun K9 hK9 => ?_) AllReadyH.nil
              have hB_5 : Below w3.heap.size w3 ((v3.alloc (.cells #[.string ⟨#[]⟩, .int .i64 0, .int .i64 0] 27)).setRow g13 #[.string x.key.car, .int .i64 x.key.num, .int .i64 x.day]) := below_setRow (hB_4) hl13 #[.string x.key.car, .int .i64 x.key.num, .int .i64 x.day]
              have hX13_5 : Bx ((v3.alloc (.cells #[.string ⟨#[]⟩, .int .i64 0, .int .i64 0] 27)).setRow g13 #[.string x.key.car, .int .i64 x.key.num, .int .i64 x.day]) g13 #[.string x.key.car, .int .i64 x.key.num, .int .i64 x.day] 27 := Bx.row (w := (v3.alloc (.cells #[.string ⟨#[]⟩, .int .i64 0, .int .i64 0] 27))) hX13_4 #[.string x.key.car, .int .i64 x.key.num, .int .i64 x.day]
              have hne_5 : g14 ≠ g13 := fun e => hne e.symm
              have hX14_5 : Bx ((v3.alloc (.cells #[.string ⟨#[]⟩, .int .i64 0, .int .i64 0] 27)).setRow g13 #[.string x.key.car, .int .i64 x.key.num, .int .i64 x.day]) g14 #[.string ⟨#[]⟩, .int .i64 0, .int .i64 0] 27 := Bx.rowOther (w := (v3.alloc (.cells #[.string ⟨#[]⟩, .int .i64 0, .int .i64 0] 27))) hX14_4 hne_5 #[.string x.key.car, .int .i64 x.key.num, .int .i64 x.day]
              have hS_5 := HSK.out _ hB_5
              refine step_store_any 27 rfl (.tmp 13) (.tmp 71) (by rfl) #[.string x.key.car, .int .i64 x.key.num, .int .i64 x.day] (by rw [hg13]; rfl) (by rfl) hX13_4 info_lg rfl (by simp [Value.oneCell']) ?_
              refine hK9.out _ _ hS_5 (fun hS => ?_)
              clear hK9 K9
              try simp only [Act.put]
              try simp only [List.setIfInBounds_toArray]
              try simp only [List.set_cons_zero]
              try simp only [List.set_cons_succ, List.set_cons_zero]
              refine wpAnyH_ready (rs := [9]) (by kernel_rfl) (by simp) ?_
              refine AllReadyH.cons (o := { dst := none, op := Op.store 27 (Operand.tmp 14) (Operand.tmp 74), type := 0, pos := "law.go:235", after := #[{ on := 7, ground := Ground.data }, { on := 5, ground := Ground.data }, { on := 8, ground := Ground.chain }, { on := 0, ground := Ground.phase }, { on := 1, ground := Ground.phase }, { on := 2, ground := Ground.phase }, { on := 3, ground := Ground.phase }, { on := 4, ground := Ground.phase }, { on := 5, ground := Ground.phase }, { on := 6, ground := Ground.phase }, { on := 7, ground := Ground.phase }, { on := 8, ground := Ground.phase }], guard := none }) rfl (fun K9 hK9 => ?_) AllReadyH.nil
              have hB_6 : Below w3.heap.size w3 (((v3.alloc (.cells #[.string ⟨#[]⟩, .int .i64 0, .int .i64 0] 27)).setRow g13 #[.string x.key.car, .int .i64 x.key.num, .int .i64 x.day]).setRow g14 #[.string y.key.car, .int .i64 y.key.num, .int .i64 y.day]) := below_setRow (hB_5) hl14 #[.string y.key.car, .int .i64 y.key.num, .int .i64 y.day]
              have hX14_6 : Bx (((v3.alloc (.cells #[.string ⟨#[]⟩, .int .i64 0, .int .i64 0] 27)).setRow g13 #[.string x.key.car, .int .i64 x.key.num, .int .i64 x.day]).setRow g14 #[.string y.key.car, .int .i64 y.key.num, .int .i64 y.day]) g14 #[.string y.key.car, .int .i64 y.key.num, .int .i64 y.day] 27 := Bx.row (w := ((v3.alloc (.cells #[.string ⟨#[]⟩, .int .i64 0, .int .i64 0] 27)).setRow g13 #[.string x.key.car, .int .i64 x.key.num, .int .i64 x.day])) hX14_5 #[.string y.key.car, .int .i64 y.key.num, .int .i64 y.day]
              have hne_6 : g13 ≠ g14 := hne
              have hX13_6 : Bx (((v3.alloc (.cells #[.string ⟨#[]⟩, .int .i64 0, .int .i64 0] 27)).setRow g13 #[.string x.key.car, .int .i64 x.key.num, .int .i64 x.day]).setRow g14 #[.string y.key.car, .int .i64 y.key.num, .int .i64 y.day]) g13 #[.string x.key.car, .int .i64 x.key.num, .int .i64 x.day] 27 := Bx.rowOther (w := ((v3.alloc (.cells #[.string ⟨#[]⟩, .int .i64 0, .int .i64 0] 27)).setRow g13 #[.string x.key.car, .int .i64 x.key.num, .int .i64 x.day])) hX13_5 hne_6 #[.string y.key.car, .int .i64 y.key.num, .int .i64 y.day]
              have hS_6 := HSK.out _ hB_6
              refine step_store_any 27 rfl (.tmp 14) (.tmp 74) (by rfl) #[.string y.key.car, .int .i64 y.key.num, .int .i64 y.day] (by rw [hg14]; rfl) (by rfl) hX14_5 info_lg rfl (by simp [Value.oneCell']) ?_
              refine hK9.out _ _ hS_6 (fun hS => ?_)
              clear hK9 K9
              try simp only [Act.put]
              try simp only [List.setIfInBounds_toArray]
              try simp only [List.set_cons_zero]
              try simp only [List.set_cons_succ, List.set_cons_zero]
              refine wpAnyH_done (by kernel_rfl) ?_ _
              go_wp2
              go_meet
              subst hg13
              subst hg14
              exact ⟨_, _, rfl, rfl, hX13_6, hX14_6, hB_6, hl13, hl14⟩
            refine AllReadyH.cons (o := { dst := some 14, op := Op.alloc 27, type := 0, pos := "law.go:235", after := #[], guard := none }) rfl (fun K9 hK9 => ?_) AllReadyH.nil
            have hB_3 : Below w3.heap.size w3 ((v1.alloc (.cells #[.string ⟨#[]⟩, .int .i64 0, .int .i64 0] 27)).alloc (.cells #[.string ⟨#[]⟩, .int .i64 0, .int .i64 0] 27)) := hB_2.alloc hB_2.size _
            have hX14_3 : ∃ g, Bx ((v1.alloc (.cells #[.string ⟨#[]⟩, .int .i64 0, .int .i64 0] 27)).alloc (.cells #[.string ⟨#[]⟩, .int .i64 0, .int .i64 0] 27)) g #[.string ⟨#[]⟩, .int .i64 0, .int .i64 0] 27 ∧ g = (v1.alloc (.cells #[.string ⟨#[]⟩, .int .i64 0, .int .i64 0] 27)).heap.size := ⟨_, Bx.new (v1.alloc (.cells #[.string ⟨#[]⟩, .int .i64 0, .int .i64 0] 27)) #[.string ⟨#[]⟩, .int .i64 0, .int .i64 0] 27, rfl⟩
            obtain ⟨g14, hX14_3, hg14⟩ := hX14_3
            have hne : g13 ≠ g14 := by have h1 := hX13_2.lt; rw [hg14]; intro h2; omega
            repeat (first | rw [World.size_alloc] at hg14 | rw [size_setRow] at hg14)
            have hl14 : w3.heap.size ≤ g14 := by have := hB_2.size; (repeat (first | rw [World.size_alloc] at this | rw [size_setRow] at this)); omega
            have hX13_3 := hX13_2.alloc (.cells #[.string ⟨#[]⟩, .int .i64 0, .int .i64 0] 27)
            have hS_3 := HSK.out _ (hB_3)
            go_simp
            refine hK9.out _ _ hS_3 (fun hS => ?_)
            clear hK9 K9
            try simp only [Act.put]
            try simp only [List.setIfInBounds_toArray]
            try simp only [List.set_cons_zero]
            try simp only [List.set_cons_succ, List.set_cons_zero]
            refine wpAnyH_ready (rs := [5]) (by kernel_rfl) (by simp) ?_
            refine AllReadyH.cons (o := { dst := some 74, op := Op.call { callee := Callee.value (Operand.func 30), args := #[Operand.tmp 72, Operand.tmp 73], argTypes := #[60, 71] }, type := 27, pos := "law.go:235", after := #[{ on := 3, ground := Ground.data }, { on := 4, ground := Ground.data }, { on := 2, ground := Ground.chain }], guard := none }) rfl (fun K9 hK9 => ?_) AllReadyH.nil
            go_simp
            refine (HLEG14.out _ (hB_3)).mono ?_
            rintro e v4 ⟨rfl, h4⟩
            have hX13_4 := Bx.below (w := ((v1.alloc (.cells #[.string ⟨#[]⟩, .int .i64 0, .int .i64 0] 27)).alloc (.cells #[.string ⟨#[]⟩, .int .i64 0, .int .i64 0] 27))) hX13_3 h4 hX13_3.lt
            have hX14_4 := Bx.below (w := ((v1.alloc (.cells #[.string ⟨#[]⟩, .int .i64 0, .int .i64 0] 27)).alloc (.cells #[.string ⟨#[]⟩, .int .i64 0, .int .i64 0] 27))) hX14_3 h4 hX14_3.lt
            have hB_4 : Below w3.heap.size w3 v4 := (hB_3).trans (h4.mono (hB_3).size)
            have hS_4 := HSK.out _ hB_4
            refine hK9.out _ _ hS_4 (fun hS => ?_)
            clear hK9 K9
            try simp only [Act.put]
            try simp only [List.setIfInBounds_toArray]
            try simp only [List.set_cons_zero]
            try simp only [List.set_cons_succ, List.set_cons_zero]
            refine wpAnyH_ready (rs := [8]) (by kernel_rfl) (by simp) ?_
            refine AllReadyH.cons (o := { dst := none, op := Op.store 27 (Operand.tmp 13) (Operand.tmp 71), type := 0, pos := "law.go:235", after := #[{ on := 6, ground := Ground.data }, { on := 2, ground := Ground.data }, { on := 5, ground := Ground.chain }, { on := 0, ground := Ground.phase }, { on := 1, ground := Ground.phase }, { on := 2, ground := Ground.phase }, { on := 3, ground := Ground.textOnly Departure.lateStores }, { on := 4, ground := Ground.textOnly Departure.lateStores }, { on := 5, ground := Ground.textOnly Departure.lateStoresUnsure }, { on := 6, ground := Ground.phase }, { on := 7, ground := Ground.phase }], guard := none }) rfl (fun K9 hK9 => ?_) AllReadyH.nil
            have hB_5 : Below w3.heap.size w3 (v4.setRow g13 #[.string x.key.car, .int .i64 x.key.num, .int .i64 x.day]) := below_setRow (hB_4) hl13 #[.string x.key.car, .int .i64 x.key.num, .int .i64 x.day]
            have hX13_5 : Bx (v4.setRow g13 #[.string x.key.car, .int .i64 x.key.num, .int .i64 x.day]) g13 #[.string x.key.car, .int .i64 x.key.num, .int .i64 x.day] 27 := Bx.row (w := v4) hX13_4 #[.string x.key.car, .int .i64 x.key.num, .int .i64 x.day]
            have hne_5 : g14 ≠ g13 := fun e => hne e.symm
            have hX14_5 : Bx (v4.setRow g13 #[.string x.key.car, .int .i64 x.key.num, .int .i64 x.day]) g14 #[.string ⟨#[]⟩, .int .i64 0, .int .i64 0] 27 := Bx.rowOther (w := v4) hX14_4 hne_5 #[.string x.key.car, .int .i64 x.key.num, .int .i64 x.day]
            have hS_5 := HSK.out _ hB_5
            refine step_store_any 27 rfl (.tmp 13) (.tmp 71) (by rfl) #[.string x.key.car, .int .i64 x.key.num, .int .i64 x.day] (by rw [hg13]; rfl) (by rfl) hX13_4 info_lg rfl (by simp [Value.oneCell']) ?_
            refine hK9.out _ _ hS_5 (fun hS => ?_)
            clear hK9 K9
            try simp only [Act.put]
            try simp only [List.setIfInBounds_toArray]
            try simp only [List.set_cons_zero]
            try simp only [List.set_cons_succ, List.set_cons_zero]
            refine wpAnyH_ready (rs := [9]) (by kernel_rfl) (by simp) ?_
            refine AllReadyH.cons (o := { dst := none, op := Op.store 27 (Operand.tmp 14) (Operand.tmp 74), type := 0, pos := "law.go:235", after := #[{ on := 7, ground := Ground.data }, { on := 5, ground := Ground.data }, { on := 8, ground := Ground.chain }, { on := 0, ground := Ground.phase }, { on := 1, ground := Ground.phase }, { on := 2, ground := Ground.phase }, { on := 3, ground := Ground.phase }, { on := 4, ground := Ground.phase }, { on := 5, ground := Ground.phase }, { on := 6, ground := Ground.phase }, { on := 7, ground := Ground.phase }, { on := 8, ground := Ground.phase }], guard := none }) rfl (fun K9 hK9 => ?_) AllReadyH.nil
            have hB_6 : Below w3.heap.size w3 ((v4.setRow g13 #[.string x.key.car, .int .i64 x.key.num, .int .i64 x.day]).setRow g14 #[.string y.key.car, .int .i64 y.key.num, .int .i64 y.day]) := below_setRow (hB_5) hl14 #[.string y.key.car, .int .i64 y.key.num, .int .i64 y.day]
            have hX14_6 : Bx ((v4.setRow g13 #[.string x.key.car, .int .i64 x.key.num, .int .i64 x.day]).setRow g14 #[.string y.key.car, .int .i64 y.key.num, .int .i64 y.day]) g14 #[.string y.key.car, .int .i64 y.key.num, .int .i64 y.day] 27 := Bx.row (w := (v4.setRow g13 #[.string x.key.car, .int .i64 x.key.num, .int .i64 x.day])) hX14_5 #[.string y.key.car, .int .i64 y.key.num, .int .i64 y.day]
            have hne_6 : g13 ≠ g14 := hne
            have hX13_6 : Bx ((v4.setRow g13 #[.string x.key.car, .int .i64 x.key.num, .int .i64 x.day]).setRow g14 #[.string y.key.car, .int .i64 y.key.num, .int .i64 y.day]) g13 #[.string x.key.car, .int .i64 x.key.num, .int .i64 x.day] 27 := Bx.rowOther (w := (v4.setRow g13 #[.string x.key.car, .int .i64 x.key.num, .int .i64 x.day])) hX13_5 hne_6 #[.string y.key.car, .int .i64 y.key.num, .int .i64 y.day]
            have hS_6 := HSK.out _ hB_6
            refine step_store_any 27 rfl (.tmp 14) (.tmp 74) (by rfl) #[.string y.key.car, .int .i64 y.key.num, .int .i64 y.day] (by rw [hg14]; rfl) (by rfl) hX14_5 info_lg rfl (by simp [Value.oneCell']) ?_
            refine hK9.out _ _ hS_6 (fun hS => ?_)
            clear hK9 K9
            try simp only [Act.put]
            try simp only [List.setIfInBounds_toArray]
            try simp only [List.set_cons_zero]
            try simp only [List.set_cons_succ, List.set_cons_zero]
            refine wpAnyH_done (by kernel_rfl) ?_ _
            go_wp2
            go_meet
            subst hg13
            subst hg14
            exact ⟨_, _, rfl, rfl, hX13_6, hX14_6, hB_6, hl13, hl14⟩
          refine AllReadyH.cons (o := { dst := some 14, op := Op.alloc 27, type := 0, pos := "law.go:235", after := #[], guard := none }) rfl (fun K9 hK9 => ?_) AllReadyH.nil
          have hB_2 : Below w3.heap.size w3 (v1.alloc (.cells #[.string ⟨#[]⟩, .int .i64 0, .int .i64 0] 27)) := hB_1.alloc hB_1.size _
          have hX14_2 : ∃ g, Bx (v1.alloc (.cells #[.string ⟨#[]⟩, .int .i64 0, .int .i64 0] 27)) g #[.string ⟨#[]⟩, .int .i64 0, .int .i64 0] 27 ∧ g = v1.heap.size := ⟨_, Bx.new v1 #[.string ⟨#[]⟩, .int .i64 0, .int .i64 0] 27, rfl⟩
          obtain ⟨g14, hX14_2, hg14⟩ := hX14_2
          repeat (first | rw [World.size_alloc] at hg14 | rw [size_setRow] at hg14)
          have hl14 : w3.heap.size ≤ g14 := by have := hB_1.size; (repeat (first | rw [World.size_alloc] at this | rw [size_setRow] at this)); omega
          have hS_2 := HSK.out _ (hB_2)
          go_simp
          refine hK9.out _ _ hS_2 (fun hS => ?_)
          clear hK9 K9
          try simp only [Act.put]
          try simp only [List.setIfInBounds_toArray]
          try simp only [List.set_cons_zero]
          try simp only [List.set_cons_succ, List.set_cons_zero]
          refine wpAnyH_ready (rs := [5, 6]) (by kernel_rfl) (by simp) ?_
          refine AllReadyH.cons (o := { dst := some 74, op := Op.call { callee := Callee.value (Operand.func 30), args := #[Operand.tmp 72, Operand.tmp 73], argTypes := #[60, 71] }, type := 27, pos := "law.go:235", after := #[{ on := 3, ground := Ground.data }, { on := 4, ground := Ground.data }, { on := 2, ground := Ground.chain }], guard := none }) rfl (fun K9 hK9 => ?_) ?_
          · go_simp
            refine (HLEG14.out _ (hB_2)).mono ?_
            rintro e v3 ⟨rfl, h3⟩
            have hX14_3 := Bx.below (w := (v1.alloc (.cells #[.string ⟨#[]⟩, .int .i64 0, .int .i64 0] 27))) hX14_2 h3 hX14_2.lt
            have hB_3 : Below w3.heap.size w3 v3 := (hB_2).trans (h3.mono (hB_2).size)
            have hS_3 := HSK.out _ hB_3
            refine hK9.out _ _ hS_3 (fun hS => ?_)
            clear hK9 K9
            try simp only [Act.put]
            try simp only [List.setIfInBounds_toArray]
            try simp only [List.set_cons_zero]
            try simp only [List.set_cons_succ, List.set_cons_zero]
            refine wpAnyH_ready (rs := [6]) (by kernel_rfl) (by simp) ?_
            refine AllReadyH.cons (o := { dst := some 13, op := Op.alloc 27, type := 0, pos := "law.go:235", after := #[], guard := none }) rfl (fun K9 hK9 => ?_) AllReadyH.nil
            have hB_4 : Below w3.heap.size w3 (v3.alloc (.cells #[.string ⟨#[]⟩, .int .i64 0, .int .i64 0] 27)) := hB_3.alloc hB_3.size _
            have hX13_4 : ∃ g, Bx (v3.alloc (.cells #[.string ⟨#[]⟩, .int .i64 0, .int .i64 0] 27)) g #[.string ⟨#[]⟩, .int .i64 0, .int .i64 0] 27 ∧ g = v3.heap.size := ⟨_, Bx.new v3 #[.string ⟨#[]⟩, .int .i64 0, .int .i64 0] 27, rfl⟩
            obtain ⟨g13, hX13_4, hg13⟩ := hX13_4
            have hne : g13 ≠ g14 := by have h1 := hX14_3.lt; rw [hg13]; intro h2; omega
            repeat (first | rw [World.size_alloc] at hg13 | rw [size_setRow] at hg13)
            have hl13 : w3.heap.size ≤ g13 := by have := hB_3.size; (repeat (first | rw [World.size_alloc] at this | rw [size_setRow] at this)); omega
            have hX14_4 := hX14_3.alloc (.cells #[.string ⟨#[]⟩, .int .i64 0, .int .i64 0] 27)
            have hS_4 := HSK.out _ (hB_4)
            go_simp
            refine hK9.out _ _ hS_4 (fun hS => ?_)
            clear hK9 K9
            try simp only [Act.put]
            try simp only [List.setIfInBounds_toArray]
            try simp only [List.set_cons_zero]
            try simp only [List.set_cons_succ, List.set_cons_zero]
            refine wpAnyH_ready (rs := [8]) (by kernel_rfl) (by simp) ?_
            refine AllReadyH.cons (o := { dst := none, op := Op.store 27 (Operand.tmp 13) (Operand.tmp 71), type := 0, pos := "law.go:235", after := #[{ on := 6, ground := Ground.data }, { on := 2, ground := Ground.data }, { on := 5, ground := Ground.chain }, { on := 0, ground := Ground.phase }, { on := 1, ground := Ground.phase }, { on := 2, ground := Ground.phase }, { on := 3, ground := Ground.textOnly Departure.lateStores }, { on := 4, ground := Ground.textOnly Departure.lateStores }, { on := 5, ground := Ground.textOnly Departure.lateStoresUnsure }, { on := 6, ground := Ground.phase }, { on := 7, ground := Ground.phase }], guard := none }) rfl (fun K9 hK9 => ?_) AllReadyH.nil
            have hB_5 : Below w3.heap.size w3 ((v3.alloc (.cells #[.string ⟨#[]⟩, .int .i64 0, .int .i64 0] 27)).setRow g13 #[.string x.key.car, .int .i64 x.key.num, .int .i64 x.day]) := below_setRow (hB_4) hl13 #[.string x.key.car, .int .i64 x.key.num, .int .i64 x.day]
            have hX13_5 : Bx ((v3.alloc (.cells #[.string ⟨#[]⟩, .int .i64 0, .int .i64 0] 27)).setRow g13 #[.string x.key.car, .int .i64 x.key.num, .int .i64 x.day]) g13 #[.string x.key.car, .int .i64 x.key.num, .int .i64 x.day] 27 := Bx.row (w := (v3.alloc (.cells #[.string ⟨#[]⟩, .int .i64 0, .int .i64 0] 27))) hX13_4 #[.string x.key.car, .int .i64 x.key.num, .int .i64 x.day]
            have hne_5 : g14 ≠ g13 := fun e => hne e.symm
            have hX14_5 : Bx ((v3.alloc (.cells #[.string ⟨#[]⟩, .int .i64 0, .int .i64 0] 27)).setRow g13 #[.string x.key.car, .int .i64 x.key.num, .int .i64 x.day]) g14 #[.string ⟨#[]⟩, .int .i64 0, .int .i64 0] 27 := Bx.rowOther (w := (v3.alloc (.cells #[.string ⟨#[]⟩, .int .i64 0, .int .i64 0] 27))) hX14_4 hne_5 #[.string x.key.car, .int .i64 x.key.num, .int .i64 x.day]
            have hS_5 := HSK.out _ hB_5
            refine step_store_any 27 rfl (.tmp 13) (.tmp 71) (by rfl) #[.string x.key.car, .int .i64 x.key.num, .int .i64 x.day] (by rw [hg13]; rfl) (by rfl) hX13_4 info_lg rfl (by simp [Value.oneCell']) ?_
            refine hK9.out _ _ hS_5 (fun hS => ?_)
            clear hK9 K9
            try simp only [Act.put]
            try simp only [List.setIfInBounds_toArray]
            try simp only [List.set_cons_zero]
            try simp only [List.set_cons_succ, List.set_cons_zero]
            refine wpAnyH_ready (rs := [9]) (by kernel_rfl) (by simp) ?_
            refine AllReadyH.cons (o := { dst := none, op := Op.store 27 (Operand.tmp 14) (Operand.tmp 74), type := 0, pos := "law.go:235", after := #[{ on := 7, ground := Ground.data }, { on := 5, ground := Ground.data }, { on := 8, ground := Ground.chain }, { on := 0, ground := Ground.phase }, { on := 1, ground := Ground.phase }, { on := 2, ground := Ground.phase }, { on := 3, ground := Ground.phase }, { on := 4, ground := Ground.phase }, { on := 5, ground := Ground.phase }, { on := 6, ground := Ground.phase }, { on := 7, ground := Ground.phase }, { on := 8, ground := Ground.phase }], guard := none }) rfl (fun K9 hK9 => ?_) AllReadyH.nil
            have hB_6 : Below w3.heap.size w3 (((v3.alloc (.cells #[.string ⟨#[]⟩, .int .i64 0, .int .i64 0] 27)).setRow g13 #[.string x.key.car, .int .i64 x.key.num, .int .i64 x.day]).setRow g14 #[.string y.key.car, .int .i64 y.key.num, .int .i64 y.day]) := below_setRow (hB_5) hl14 #[.string y.key.car, .int .i64 y.key.num, .int .i64 y.day]
            have hX14_6 : Bx (((v3.alloc (.cells #[.string ⟨#[]⟩, .int .i64 0, .int .i64 0] 27)).setRow g13 #[.string x.key.car, .int .i64 x.key.num, .int .i64 x.day]).setRow g14 #[.string y.key.car, .int .i64 y.key.num, .int .i64 y.day]) g14 #[.string y.key.car, .int .i64 y.key.num, .int .i64 y.day] 27 := Bx.row (w := ((v3.alloc (.cells #[.string ⟨#[]⟩, .int .i64 0, .int .i64 0] 27)).setRow g13 #[.string x.key.car, .int .i64 x.key.num, .int .i64 x.day])) hX14_5 #[.string y.key.car, .int .i64 y.key.num, .int .i64 y.day]
            have hne_6 : g13 ≠ g14 := hne
            have hX13_6 : Bx (((v3.alloc (.cells #[.string ⟨#[]⟩, .int .i64 0, .int .i64 0] 27)).setRow g13 #[.string x.key.car, .int .i64 x.key.num, .int .i64 x.day]).setRow g14 #[.string y.key.car, .int .i64 y.key.num, .int .i64 y.day]) g13 #[.string x.key.car, .int .i64 x.key.num, .int .i64 x.day] 27 := Bx.rowOther (w := ((v3.alloc (.cells #[.string ⟨#[]⟩, .int .i64 0, .int .i64 0] 27)).setRow g13 #[.string x.key.car, .int .i64 x.key.num, .int .i64 x.day])) hX13_5 hne_6 #[.string y.key.car, .int .i64 y.key.num, .int .i64 y.day]
            have hS_6 := HSK.out _ hB_6
            refine step_store_any 27 rfl (.tmp 14) (.tmp 74) (by rfl) #[.string y.key.car, .int .i64 y.key.num, .int .i64 y.day] (by rw [hg14]; rfl) (by rfl) hX14_5 info_lg rfl (by simp [Value.oneCell']) ?_
            refine hK9.out _ _ hS_6 (fun hS => ?_)
            clear hK9 K9
            try simp only [Act.put]
            try simp only [List.setIfInBounds_toArray]
            try simp only [List.set_cons_zero]
            try simp only [List.set_cons_succ, List.set_cons_zero]
            refine wpAnyH_done (by kernel_rfl) ?_ _
            go_wp2
            go_meet
            subst hg13
            subst hg14
            exact ⟨_, _, rfl, rfl, hX13_6, hX14_6, hB_6, hl13, hl14⟩
          refine AllReadyH.cons (o := { dst := some 13, op := Op.alloc 27, type := 0, pos := "law.go:235", after := #[], guard := none }) rfl (fun K9 hK9 => ?_) AllReadyH.nil
          have hB_3 : Below w3.heap.size w3 ((v1.alloc (.cells #[.string ⟨#[]⟩, .int .i64 0, .int .i64 0] 27)).alloc (.cells #[.string ⟨#[]⟩, .int .i64 0, .int .i64 0] 27)) := hB_2.alloc hB_2.size _
          have hX13_3 : ∃ g, Bx ((v1.alloc (.cells #[.string ⟨#[]⟩, .int .i64 0, .int .i64 0] 27)).alloc (.cells #[.string ⟨#[]⟩, .int .i64 0, .int .i64 0] 27)) g #[.string ⟨#[]⟩, .int .i64 0, .int .i64 0] 27 ∧ g = (v1.alloc (.cells #[.string ⟨#[]⟩, .int .i64 0, .int .i64 0] 27)).heap.size := ⟨_, Bx.new (v1.alloc (.cells #[.string ⟨#[]⟩, .int .i64 0, .int .i64 0] 27)) #[.string ⟨#[]⟩, .int .i64 0, .int .i64 0] 27, rfl⟩
          obtain ⟨g13, hX13_3, hg13⟩ := hX13_3
          have hne : g13 ≠ g14 := by have h1 := hX14_2.lt; rw [hg13]; intro h2; omega
          repeat (first | rw [World.size_alloc] at hg13 | rw [size_setRow] at hg13)
          have hl13 : w3.heap.size ≤ g13 := by have := hB_2.size; (repeat (first | rw [World.size_alloc] at this | rw [size_setRow] at this)); omega
          have hX14_3 := hX14_2.alloc (.cells #[.string ⟨#[]⟩, .int .i64 0, .int .i64 0] 27)
          have hS_3 := HSK.out _ (hB_3)
          go_simp
          refine hK9.out _ _ hS_3 (fun hS => ?_)
          clear hK9 K9
          try simp only [Act.put]
          try simp only [List.setIfInBounds_toArray]
          try simp only [List.set_cons_zero]
          try simp only [List.set_cons_succ, List.set_cons_zero]
          refine wpAnyH_ready (rs := [5]) (by kernel_rfl) (by simp) ?_
          refine AllReadyH.cons (o := { dst := some 74, op := Op.call { callee := Callee.value (Operand.func 30), args := #[Operand.tmp 72, Operand.tmp 73], argTypes := #[60, 71] }, type := 27, pos := "law.go:235", after := #[{ on := 3, ground := Ground.data }, { on := 4, ground := Ground.data }, { on := 2, ground := Ground.chain }], guard := none }) rfl (fun K9 hK9 => ?_) AllReadyH.nil
          go_simp
          refine (HLEG14.out _ (hB_3)).mono ?_
          rintro e v4 ⟨rfl, h4⟩
          have hX13_4 := Bx.below (w := ((v1.alloc (.cells #[.string ⟨#[]⟩, .int .i64 0, .int .i64 0] 27)).alloc (.cells #[.string ⟨#[]⟩, .int .i64 0, .int .i64 0] 27))) hX13_3 h4 hX13_3.lt
          have hX14_4 := Bx.below (w := ((v1.alloc (.cells #[.string ⟨#[]⟩, .int .i64 0, .int .i64 0] 27)).alloc (.cells #[.string ⟨#[]⟩, .int .i64 0, .int .i64 0] 27))) hX14_3 h4 hX14_3.lt
          have hB_4 : Below w3.heap.size w3 v4 := (hB_3).trans (h4.mono (hB_3).size)
          have hS_4 := HSK.out _ hB_4
          refine hK9.out _ _ hS_4 (fun hS => ?_)
          clear hK9 K9
          try simp only [Act.put]
          try simp only [List.setIfInBounds_toArray]
          try simp only [List.set_cons_zero]
          try simp only [List.set_cons_succ, List.set_cons_zero]
          refine wpAnyH_ready (rs := [8]) (by kernel_rfl) (by simp) ?_
          refine AllReadyH.cons (o := { dst := none, op := Op.store 27 (Operand.tmp 13) (Operand.tmp 71), type := 0, pos := "law.go:235", after := #[{ on := 6, ground := Ground.data }, { on := 2, ground := Ground.data }, { on := 5, ground := Ground.chain }, { on := 0, ground := Ground.phase }, { on := 1, ground := Ground.phase }, { on := 2, ground := Ground.phase }, { on := 3, ground := Ground.textOnly Departure.lateStores }, { on := 4, ground := Ground.textOnly Departure.lateStores }, { on := 5, ground := Ground.textOnly Departure.lateStoresUnsure }, { on := 6, ground := Ground.phase }, { on := 7, ground := Ground.phase }], guard := none }) rfl (fun K9 hK9 => ?_) AllReadyH.nil
          have hB_5 : Below w3.heap.size w3 (v4.setRow g13 #[.string x.key.car, .int .i64 x.key.num, .int .i64 x.day]) := below_setRow (hB_4) hl13 #[.string x.key.car, .int .i64 x.key.num, .int .i64 x.day]
          have hX13_5 : Bx (v4.setRow g13 #[.string x.key.car, .int .i64 x.key.num, .int .i64 x.day]) g13 #[.string x.key.car, .int .i64 x.key.num, .int .i64 x.day] 27 := Bx.row (w := v4) hX13_4 #[.string x.key.car, .int .i64 x.key.num, .int .i64 x.day]
          have hne_5 : g14 ≠ g13 := fun e => hne e.symm
          have hX14_5 : Bx (v4.setRow g13 #[.string x.key.car, .int .i64 x.key.num, .int .i64 x.day]) g14 #[.string ⟨#[]⟩, .int .i64 0, .int .i64 0] 27 := Bx.rowOther (w := v4) hX14_4 hne_5 #[.string x.key.car, .int .i64 x.key.num, .int .i64 x.day]
          have hS_5 := HSK.out _ hB_5
          refine step_store_any 27 rfl (.tmp 13) (.tmp 71) (by rfl) #[.string x.key.car, .int .i64 x.key.num, .int .i64 x.day] (by rw [hg13]; rfl) (by rfl) hX13_4 info_lg rfl (by simp [Value.oneCell']) ?_
          refine hK9.out _ _ hS_5 (fun hS => ?_)
          clear hK9 K9
          try simp only [Act.put]
          try simp only [List.setIfInBounds_toArray]
          try simp only [List.set_cons_zero]
          try simp only [List.set_cons_succ, List.set_cons_zero]
          refine wpAnyH_ready (rs := [9]) (by kernel_rfl) (by simp) ?_
          refine AllReadyH.cons (o := { dst := none, op := Op.store 27 (Operand.tmp 14) (Operand.tmp 74), type := 0, pos := "law.go:235", after := #[{ on := 7, ground := Ground.data }, { on := 5, ground := Ground.data }, { on := 8, ground := Ground.chain }, { on := 0, ground := Ground.phase }, { on := 1, ground := Ground.phase }, { on := 2, ground := Ground.phase }, { on := 3, ground := Ground.phase }, { on := 4, ground := Ground.phase }, { on := 5, ground := Ground.phase }, { on := 6, ground := Ground.phase }, { on := 7, ground := Ground.phase }, { on := 8, ground := Ground.phase }], guard := none }) rfl (fun K9 hK9 => ?_) AllReadyH.nil
          have hB_6 : Below w3.heap.size w3 ((v4.setRow g13 #[.string x.key.car, .int .i64 x.key.num, .int .i64 x.day]).setRow g14 #[.string y.key.car, .int .i64 y.key.num, .int .i64 y.day]) := below_setRow (hB_5) hl14 #[.string y.key.car, .int .i64 y.key.num, .int .i64 y.day]
          have hX14_6 : Bx ((v4.setRow g13 #[.string x.key.car, .int .i64 x.key.num, .int .i64 x.day]).setRow g14 #[.string y.key.car, .int .i64 y.key.num, .int .i64 y.day]) g14 #[.string y.key.car, .int .i64 y.key.num, .int .i64 y.day] 27 := Bx.row (w := (v4.setRow g13 #[.string x.key.car, .int .i64 x.key.num, .int .i64 x.day])) hX14_5 #[.string y.key.car, .int .i64 y.key.num, .int .i64 y.day]
          have hne_6 : g13 ≠ g14 := hne
          have hX13_6 : Bx ((v4.setRow g13 #[.string x.key.car, .int .i64 x.key.num, .int .i64 x.day]).setRow g14 #[.string y.key.car, .int .i64 y.key.num, .int .i64 y.day]) g13 #[.string x.key.car, .int .i64 x.key.num, .int .i64 x.day] 27 := Bx.rowOther (w := (v4.setRow g13 #[.string x.key.car, .int .i64 x.key.num, .int .i64 x.day])) hX13_5 hne_6 #[.string y.key.car, .int .i64 y.key.num, .int .i64 y.day]
          have hS_6 := HSK.out _ hB_6
          refine step_store_any 27 rfl (.tmp 14) (.tmp 74) (by rfl) #[.string y.key.car, .int .i64 y.key.num, .int .i64 y.day] (by rw [hg14]; rfl) (by rfl) hX14_5 info_lg rfl (by simp [Value.oneCell']) ?_
          refine hK9.out _ _ hS_6 (fun hS => ?_)
          clear hK9 K9
          try simp only [Act.put]
          try simp only [List.setIfInBounds_toArray]
          try simp only [List.set_cons_zero]
          try simp only [List.set_cons_succ, List.set_cons_zero]
          refine wpAnyH_done (by kernel_rfl) ?_ _
          go_wp2
          go_meet
          subst hg13
          subst hg14
          exact ⟨_, _, rfl, rfl, hX13_6, hX14_6, hB_6, hl13, hl14⟩
        refine AllReadyH.cons (o := { dst := some 13, op := Op.alloc 27, type := 0, pos := "law.go:235", after := #[], guard := none }) rfl (fun K9 hK9 => ?_) ?_
        · have hB_1 : Below w3.heap.size w3 (w3.alloc (.cells #[.string ⟨#[]⟩, .int .i64 0, .int .i64 0] 27)) := hB_0.alloc hB_0.size _
          have hX13_1 : ∃ g, Bx (w3.alloc (.cells #[.string ⟨#[]⟩, .int .i64 0, .int .i64 0] 27)) g #[.string ⟨#[]⟩, .int .i64 0, .int .i64 0] 27 ∧ g = w3.heap.size := ⟨_, Bx.new w3 #[.string ⟨#[]⟩, .int .i64 0, .int .i64 0] 27, rfl⟩
          obtain ⟨g13, hX13_1, hg13⟩ := hX13_1
          repeat (first | rw [World.size_alloc] at hg13 | rw [size_setRow] at hg13)
          have hl13 : w3.heap.size ≤ g13 := by have := hB_0.size; (repeat (first | rw [World.size_alloc] at this | rw [size_setRow] at this)); omega
          have hS_1 := HSK.out _ (hB_1.drew)
          go_simp
          refine hK9.out _ _ hS_1 (fun hS => ?_)
          clear hK9 K9
          try simp only [Act.put]
          try simp only [List.setIfInBounds_toArray]
          try simp only [List.set_cons_zero]
          try simp only [List.set_cons_succ, List.set_cons_zero]
          refine wpAnyH_ready (rs := [2, 7]) (by kernel_rfl) (by simp) ?_
          refine AllReadyH.cons (o := { dst := some 71, op := Op.call { callee := Callee.value (Operand.func 30), args := #[Operand.tmp 69, Operand.tmp 70], argTypes := #[60, 71] }, type := 27, pos := "law.go:235", after := #[{ on := 0, ground := Ground.data }, { on := 1, ground := Ground.data }], guard := none }) rfl (fun K9 hK9 => ?_) ?_
          · go_simp
            refine (HLEG13.out _ (hB_1.drew)).mono ?_
            rintro e v2 ⟨rfl, h2⟩
            have hX13_2 := Bx.below (w := (w3.alloc (.cells #[.string ⟨#[]⟩, .int .i64 0, .int .i64 0] 27)).drew) hX13_1 h2 hX13_1.lt
            have hB_2 : Below w3.heap.size w3 v2 := (hB_1.drew).trans (h2.mono (hB_1.drew).size)
            have hS_2 := HSK.out _ hB_2
            refine hK9.out _ _ hS_2 (fun hS => ?_)
            clear hK9 K9
            try simp only [Act.put]
            try simp only [List.setIfInBounds_toArray]
            try simp only [List.set_cons_zero]
            try simp only [List.set_cons_succ, List.set_cons_zero]
            refine wpAnyH_ready (rs := [5, 7]) (by kernel_rfl) (by simp) ?_
            refine AllReadyH.cons (o := { dst := some 74, op := Op.call { callee := Callee.value (Operand.func 30), args := #[Operand.tmp 72, Operand.tmp 73], argTypes := #[60, 71] }, type := 27, pos := "law.go:235", after := #[{ on := 3, ground := Ground.data }, { on := 4, ground := Ground.data }, { on := 2, ground := Ground.chain }], guard := none }) rfl (fun K9 hK9 => ?_) ?_
            · go_simp
              refine (HLEG14.out _ (hB_2)).mono ?_
              rintro e v3 ⟨rfl, h3⟩
              have hX13_3 := Bx.below (w := v2) hX13_2 h3 hX13_2.lt
              have hB_3 : Below w3.heap.size w3 v3 := (hB_2).trans (h3.mono (hB_2).size)
              have hS_3 := HSK.out _ hB_3
              refine hK9.out _ _ hS_3 (fun hS => ?_)
              clear hK9 K9
              try simp only [Act.put]
              try simp only [List.setIfInBounds_toArray]
              try simp only [List.set_cons_zero]
              try simp only [List.set_cons_succ, List.set_cons_zero]
              refine wpAnyH_ready (rs := [7]) (by kernel_rfl) (by simp) ?_
              refine AllReadyH.cons (o := { dst := some 14, op := Op.alloc 27, type := 0, pos := "law.go:235", after := #[], guard := none }) rfl (fun K9 hK9 => ?_) AllReadyH.nil
              have hB_4 : Below w3.heap.size w3 (v3.alloc (.cells #[.string ⟨#[]⟩, .int .i64 0, .int .i64 0] 27)) := hB_3.alloc hB_3.size _
              have hX14_4 : ∃ g, Bx (v3.alloc (.cells #[.string ⟨#[]⟩, .int .i64 0, .int .i64 0] 27)) g #[.string ⟨#[]⟩, .int .i64 0, .int .i64 0] 27 ∧ g = v3.heap.size := ⟨_, Bx.new v3 #[.string ⟨#[]⟩, .int .i64 0, .int .i64 0] 27, rfl⟩
              obtain ⟨g14, hX14_4, hg14⟩ := hX14_4
              have hne : g13 ≠ g14 := by have h1 := hX13_3.lt; rw [hg14]; intro h2; omega
              repeat (first | rw [World.size_alloc] at hg14 | rw [size_setRow] at hg14)
              have hl14 : w3.heap.size ≤ g14 := by have := hB_3.size; (repeat (first | rw [World.size_alloc] at this | rw [size_setRow] at this)); omega
              have hX13_4 := hX13_3.alloc (.cells #[.string ⟨#[]⟩, .int .i64 0, .int .i64 0] 27)
              have hS_4 := HSK.out _ (hB_4)
              go_simp
              refine hK9.out _ _ hS_4 (fun hS => ?_)
              clear hK9 K9
              try simp only [Act.put]
              try simp only [List.setIfInBounds_toArray]
              try simp only [List.set_cons_zero]
              try simp only [List.set_cons_succ, List.set_cons_zero]
              refine wpAnyH_ready (rs := [8]) (by kernel_rfl) (by simp) ?_
              refine AllReadyH.cons (o := { dst := none, op := Op.store 27 (Operand.tmp 13) (Operand.tmp 71), type := 0, pos := "law.go:235", after := #[{ on := 6, ground := Ground.data }, { on := 2, ground := Ground.data }, { on := 5, ground := Ground.chain }, { on := 0, ground := Ground.phase }, { on := 1, ground := Ground.phase }, { on := 2, ground := Ground.phase }, { on := 3, ground := Ground.textOnly Departure.lateStores }, { on := 4, ground := Ground.textOnly Departure.lateStores }, { on := 5, ground := Ground.textOnly Departure.lateStoresUnsure }, { on := 6, ground := Ground.phase }, { on := 7, ground := Ground.phase }], guard := none }) rfl (fun K9 hK9 => ?_) AllReadyH.nil
              have hB_5 : Below w3.heap.size w3 ((v3.alloc (.cells #[.string ⟨#[]⟩, .int .i64 0, .int .i64 0] 27)).setRow g13 #[.string x.key.car, .int .i64 x.key.num, .int .i64 x.day]) := below_setRow (hB_4) hl13 #[.string x.key.car, .int .i64 x.key.num, .int .i64 x.day]
              have hX13_5 : Bx ((v3.alloc (.cells #[.string ⟨#[]⟩, .int .i64 0, .int .i64 0] 27)).setRow g13 #[.string x.key.car, .int .i64 x.key.num, .int .i64 x.day]) g13 #[.string x.key.car, .int .i64 x.key.num, .int .i64 x.day] 27 := Bx.row (w := (v3.alloc (.cells #[.string ⟨#[]⟩, .int .i64 0, .int .i64 0] 27))) hX13_4 #[.string x.key.car, .int .i64 x.key.num, .int .i64 x.day]
              have hne_5 : g14 ≠ g13 := fun e => hne e.symm
              have hX14_5 : Bx ((v3.alloc (.cells #[.string ⟨#[]⟩, .int .i64 0, .int .i64 0] 27)).setRow g13 #[.string x.key.car, .int .i64 x.key.num, .int .i64 x.day]) g14 #[.string ⟨#[]⟩, .int .i64 0, .int .i64 0] 27 := Bx.rowOther (w := (v3.alloc (.cells #[.string ⟨#[]⟩, .int .i64 0, .int .i64 0] 27))) hX14_4 hne_5 #[.string x.key.car, .int .i64 x.key.num, .int .i64 x.day]
              have hS_5 := HSK.out _ hB_5
              refine step_store_any 27 rfl (.tmp 13) (.tmp 71) (by rfl) #[.string x.key.car, .int .i64 x.key.num, .int .i64 x.day] (by rw [hg13]; rfl) (by rfl) hX13_4 info_lg rfl (by simp [Value.oneCell']) ?_
              refine hK9.out _ _ hS_5 (fun hS => ?_)
              clear hK9 K9
              try simp only [Act.put]
              try simp only [List.setIfInBounds_toArray]
              try simp only [List.set_cons_zero]
              try simp only [List.set_cons_succ, List.set_cons_zero]
              refine wpAnyH_ready (rs := [9]) (by kernel_rfl) (by simp) ?_
              refine AllReadyH.cons (o := { dst := none, op := Op.store 27 (Operand.tmp 14) (Operand.tmp 74), type := 0, pos := "law.go:235", after := #[{ on := 7, ground := Ground.data }, { on := 5, ground := Ground.data }, { on := 8, ground := Ground.chain }, { on := 0, ground := Ground.phase }, { on := 1, ground := Ground.phase }, { on := 2, ground := Ground.phase }, { on := 3, ground := Ground.phase }, { on := 4, ground := Ground.phase }, { on := 5, ground := Ground.phase }, { on := 6, ground := Ground.phase }, { on := 7, ground := Ground.phase }, { on := 8, ground := Ground.phase }], guard := none }) rfl (fun K9 hK9 => ?_) AllReadyH.nil
              have hB_6 : Below w3.heap.size w3 (((v3.alloc (.cells #[.string ⟨#[]⟩, .int .i64 0, .int .i64 0] 27)).setRow g13 #[.string x.key.car, .int .i64 x.key.num, .int .i64 x.day]).setRow g14 #[.string y.key.car, .int .i64 y.key.num, .int .i64 y.day]) := below_setRow (hB_5) hl14 #[.string y.key.car, .int .i64 y.key.num, .int .i64 y.day]
              have hX14_6 : Bx (((v3.alloc (.cells #[.string ⟨#[]⟩, .int .i64 0, .int .i64 0] 27)).setRow g13 #[.string x.key.car, .int .i64 x.key.num, .int .i64 x.day]).setRow g14 #[.string y.key.car, .int .i64 y.key.num, .int .i64 y.day]) g14 #[.string y.key.car, .int .i64 y.key.num, .int .i64 y.day] 27 := Bx.row (w := ((v3.alloc (.cells #[.string ⟨#[]⟩, .int .i64 0, .int .i64 0] 27)).setRow g13 #[.string x.key.car, .int .i64 x.key.num, .int .i64 x.day])) hX14_5 #[.string y.key.car, .int .i64 y.key.num, .int .i64 y.day]
              have hne_6 : g13 ≠ g14 := hne
              have hX13_6 : Bx (((v3.alloc (.cells #[.string ⟨#[]⟩, .int .i64 0, .int .i64 0] 27)).setRow g13 #[.string x.key.car, .int .i64 x.key.num, .int .i64 x.day]).setRow g14 #[.string y.key.car, .int .i64 y.key.num, .int .i64 y.day]) g13 #[.string x.key.car, .int .i64 x.key.num, .int .i64 x.day] 27 := Bx.rowOther (w := ((v3.alloc (.cells #[.string ⟨#[]⟩, .int .i64 0, .int .i64 0] 27)).setRow g13 #[.string x.key.car, .int .i64 x.key.num, .int .i64 x.day])) hX13_5 hne_6 #[.string y.key.car, .int .i64 y.key.num, .int .i64 y.day]
              have hS_6 := HSK.out _ hB_6
              refine step_store_any 27 rfl (.tmp 14) (.tmp 74) (by rfl) #[.string y.key.car, .int .i64 y.key.num, .int .i64 y.day] (by rw [hg14]; rfl) (by rfl) hX14_5 info_lg rfl (by simp [Value.oneCell']) ?_
              refine hK9.out _ _ hS_6 (fun hS => ?_)
              clear hK9 K9
              try simp only [Act.put]
              try simp only [List.setIfInBounds_toArray]
              try simp only [List.set_cons_zero]
              try simp only [List.set_cons_succ, List.set_cons_zero]
              refine wpAnyH_done (by kernel_rfl) ?_ _
              go_wp2
              go_meet
              subst hg13
              subst hg14
              exact ⟨_, _, rfl, rfl, hX13_6, hX14_6, hB_6, hl13, hl14⟩
            refine AllReadyH.cons (o := { dst := some 14, op := Op.alloc 27, type := 0, pos := "law.go:235", after := #[], guard := none }) rfl (fun K9 hK9 => ?_) AllReadyH.nil
            have hB_3 : Below w3.heap.size w3 (v2.alloc (.cells #[.string ⟨#[]⟩, .int .i64 0, .int .i64 0] 27)) := hB_2.alloc hB_2.size _
            have hX14_3 : ∃ g, Bx (v2.alloc (.cells #[.string ⟨#[]⟩, .int .i64 0, .int .i64 0] 27)) g #[.string ⟨#[]⟩, .int .i64 0, .int .i64 0] 27 ∧ g = v2.heap.size := ⟨_, Bx.new v2 #[.string ⟨#[]⟩, .int .i64 0, .int .i64 0] 27, rfl⟩
            obtain ⟨g14, hX14_3, hg14⟩ := hX14_3
            have hne : g13 ≠ g14 := by have h1 := hX13_2.lt; rw [hg14]; intro h2; omega
            repeat (first | rw [World.size_alloc] at hg14 | rw [size_setRow] at hg14)
            have hl14 : w3.heap.size ≤ g14 := by have := hB_2.size; (repeat (first | rw [World.size_alloc] at this | rw [size_setRow] at this)); omega
            have hX13_3 := hX13_2.alloc (.cells #[.string ⟨#[]⟩, .int .i64 0, .int .i64 0] 27)
            have hS_3 := HSK.out _ (hB_3)
            go_simp
            refine hK9.out _ _ hS_3 (fun hS => ?_)
            clear hK9 K9
            try simp only [Act.put]
            try simp only [List.setIfInBounds_toArray]
            try simp only [List.set_cons_zero]
            try simp only [List.set_cons_succ, List.set_cons_zero]
            refine wpAnyH_ready (rs := [5]) (by kernel_rfl) (by simp) ?_
            refine AllReadyH.cons (o := { dst := some 74, op := Op.call { callee := Callee.value (Operand.func 30), args := #[Operand.tmp 72, Operand.tmp 73], argTypes := #[60, 71] }, type := 27, pos := "law.go:235", after := #[{ on := 3, ground := Ground.data }, { on := 4, ground := Ground.data }, { on := 2, ground := Ground.chain }], guard := none }) rfl (fun K9 hK9 => ?_) AllReadyH.nil
            go_simp
            refine (HLEG14.out _ (hB_3)).mono ?_
            rintro e v4 ⟨rfl, h4⟩
            have hX13_4 := Bx.below (w := (v2.alloc (.cells #[.string ⟨#[]⟩, .int .i64 0, .int .i64 0] 27))) hX13_3 h4 hX13_3.lt
            have hX14_4 := Bx.below (w := (v2.alloc (.cells #[.string ⟨#[]⟩, .int .i64 0, .int .i64 0] 27))) hX14_3 h4 hX14_3.lt
            have hB_4 : Below w3.heap.size w3 v4 := (hB_3).trans (h4.mono (hB_3).size)
            have hS_4 := HSK.out _ hB_4
            refine hK9.out _ _ hS_4 (fun hS => ?_)
            clear hK9 K9
            try simp only [Act.put]
            try simp only [List.setIfInBounds_toArray]
            try simp only [List.set_cons_zero]
            try simp only [List.set_cons_succ, List.set_cons_zero]
            refine wpAnyH_ready (rs := [8]) (by kernel_rfl) (by simp) ?_
            refine AllReadyH.cons (o := { dst := none, op := Op.store 27 (Operand.tmp 13) (Operand.tmp 71), type := 0, pos := "law.go:235", after := #[{ on := 6, ground := Ground.data }, { on := 2, ground := Ground.data }, { on := 5, ground := Ground.chain }, { on := 0, ground := Ground.phase }, { on := 1, ground := Ground.phase }, { on := 2, ground := Ground.phase }, { on := 3, ground := Ground.textOnly Departure.lateStores }, { on := 4, ground := Ground.textOnly Departure.lateStores }, { on := 5, ground := Ground.textOnly Departure.lateStoresUnsure }, { on := 6, ground := Ground.phase }, { on := 7, ground := Ground.phase }], guard := none }) rfl (fun K9 hK9 => ?_) AllReadyH.nil
            have hB_5 : Below w3.heap.size w3 (v4.setRow g13 #[.string x.key.car, .int .i64 x.key.num, .int .i64 x.day]) := below_setRow (hB_4) hl13 #[.string x.key.car, .int .i64 x.key.num, .int .i64 x.day]
            have hX13_5 : Bx (v4.setRow g13 #[.string x.key.car, .int .i64 x.key.num, .int .i64 x.day]) g13 #[.string x.key.car, .int .i64 x.key.num, .int .i64 x.day] 27 := Bx.row (w := v4) hX13_4 #[.string x.key.car, .int .i64 x.key.num, .int .i64 x.day]
            have hne_5 : g14 ≠ g13 := fun e => hne e.symm
            have hX14_5 : Bx (v4.setRow g13 #[.string x.key.car, .int .i64 x.key.num, .int .i64 x.day]) g14 #[.string ⟨#[]⟩, .int .i64 0, .int .i64 0] 27 := Bx.rowOther (w := v4) hX14_4 hne_5 #[.string x.key.car, .int .i64 x.key.num, .int .i64 x.day]
            have hS_5 := HSK.out _ hB_5
            refine step_store_any 27 rfl (.tmp 13) (.tmp 71) (by rfl) #[.string x.key.car, .int .i64 x.key.num, .int .i64 x.day] (by rw [hg13]; rfl) (by rfl) hX13_4 info_lg rfl (by simp [Value.oneCell']) ?_
            refine hK9.out _ _ hS_5 (fun hS => ?_)
            clear hK9 K9
            try simp only [Act.put]
            try simp only [List.setIfInBounds_toArray]
            try simp only [List.set_cons_zero]
            try simp only [List.set_cons_succ, List.set_cons_zero]
            refine wpAnyH_ready (rs := [9]) (by kernel_rfl) (by simp) ?_
            refine AllReadyH.cons (o := { dst := none, op := Op.store 27 (Operand.tmp 14) (Operand.tmp 74), type := 0, pos := "law.go:235", after := #[{ on := 7, ground := Ground.data }, { on := 5, ground := Ground.data }, { on := 8, ground := Ground.chain }, { on := 0, ground := Ground.phase }, { on := 1, ground := Ground.phase }, { on := 2, ground := Ground.phase }, { on := 3, ground := Ground.phase }, { on := 4, ground := Ground.phase }, { on := 5, ground := Ground.phase }, { on := 6, ground := Ground.phase }, { on := 7, ground := Ground.phase }, { on := 8, ground := Ground.phase }], guard := none }) rfl (fun K9 hK9 => ?_) AllReadyH.nil
            have hB_6 : Below w3.heap.size w3 ((v4.setRow g13 #[.string x.key.car, .int .i64 x.key.num, .int .i64 x.day]).setRow g14 #[.string y.key.car, .int .i64 y.key.num, .int .i64 y.day]) := below_setRow (hB_5) hl14 #[.string y.key.car, .int .i64 y.key.num, .int .i64 y.day]
            have hX14_6 : Bx ((v4.setRow g13 #[.string x.key.car, .int .i64 x.key.num, .int .i64 x.day]).setRow g14 #[.string y.key.car, .int .i64 y.key.num, .int .i64 y.day]) g14 #[.string y.key.car, .int .i64 y.key.num, .int .i64 y.day] 27 := Bx.row (w := (v4.setRow g13 #[.string x.key.car, .int .i64 x.key.num, .int .i64 x.day])) hX14_5 #[.string y.key.car, .int .i64 y.key.num, .int .i64 y.day]
            have hne_6 : g13 ≠ g14 := hne
            have hX13_6 : Bx ((v4.setRow g13 #[.string x.key.car, .int .i64 x.key.num, .int .i64 x.day]).setRow g14 #[.string y.key.car, .int .i64 y.key.num, .int .i64 y.day]) g13 #[.string x.key.car, .int .i64 x.key.num, .int .i64 x.day] 27 := Bx.rowOther (w := (v4.setRow g13 #[.string x.key.car, .int .i64 x.key.num, .int .i64 x.day])) hX13_5 hne_6 #[.string y.key.car, .int .i64 y.key.num, .int .i64 y.day]
            have hS_6 := HSK.out _ hB_6
            refine step_store_any 27 rfl (.tmp 14) (.tmp 74) (by rfl) #[.string y.key.car, .int .i64 y.key.num, .int .i64 y.day] (by rw [hg14]; rfl) (by rfl) hX14_5 info_lg rfl (by simp [Value.oneCell']) ?_
            refine hK9.out _ _ hS_6 (fun hS => ?_)
            clear hK9 K9
            try simp only [Act.put]
            try simp only [List.setIfInBounds_toArray]
            try simp only [List.set_cons_zero]
            try simp only [List.set_cons_succ, List.set_cons_zero]
            refine wpAnyH_done (by kernel_rfl) ?_ _
            go_wp2
            go_meet
            subst hg13
            subst hg14
            exact ⟨_, _, rfl, rfl, hX13_6, hX14_6, hB_6, hl13, hl14⟩
          refine AllReadyH.cons (o := { dst := some 14, op := Op.alloc 27, type := 0, pos := "law.go:235", after := #[], guard := none }) rfl (fun K9 hK9 => ?_) AllReadyH.nil
          have hB_2 : Below w3.heap.size w3 ((w3.alloc (.cells #[.string ⟨#[]⟩, .int .i64 0, .int .i64 0] 27)).alloc (.cells #[.string ⟨#[]⟩, .int .i64 0, .int .i64 0] 27)) := hB_1.alloc hB_1.size _
          have hX14_2 : ∃ g, Bx ((w3.alloc (.cells #[.string ⟨#[]⟩, .int .i64 0, .int .i64 0] 27)).alloc (.cells #[.string ⟨#[]⟩, .int .i64 0, .int .i64 0] 27)) g #[.string ⟨#[]⟩, .int .i64 0, .int .i64 0] 27 ∧ g = (w3.alloc (.cells #[.string ⟨#[]⟩, .int .i64 0, .int .i64 0] 27)).heap.size := ⟨_, Bx.new (w3.alloc (.cells #[.string ⟨#[]⟩, .int .i64 0, .int .i64 0] 27)) #[.string ⟨#[]⟩, .int .i64 0, .int .i64 0] 27, rfl⟩
          obtain ⟨g14, hX14_2, hg14⟩ := hX14_2
          have hne : g13 ≠ g14 := by have h1 := hX13_1.lt; rw [hg14]; intro h2; omega
          repeat (first | rw [World.size_alloc] at hg14 | rw [size_setRow] at hg14)
          have hl14 : w3.heap.size ≤ g14 := by have := hB_1.size; (repeat (first | rw [World.size_alloc] at this | rw [size_setRow] at this)); omega
          have hX13_2 := hX13_1.alloc (.cells #[.string ⟨#[]⟩, .int .i64 0, .int .i64 0] 27)
          have hS_2 := HSK.out _ (hB_2.drew)
          go_simp
          refine hK9.out _ _ hS_2 (fun hS => ?_)
          clear hK9 K9
          try simp only [Act.put]
          try simp only [List.setIfInBounds_toArray]
          try simp only [List.set_cons_zero]
          try simp only [List.set_cons_succ, List.set_cons_zero]
          refine wpAnyH_ready (rs := [2]) (by kernel_rfl) (by simp) ?_
          refine AllReadyH.cons (o := { dst := some 71, op := Op.call { callee := Callee.value (Operand.func 30), args := #[Operand.tmp 69, Operand.tmp 70], argTypes := #[60, 71] }, type := 27, pos := "law.go:235", after := #[{ on := 0, ground := Ground.data }, { on := 1, ground := Ground.data }], guard := none }) rfl (fun K9 hK9 => ?_) AllReadyH.nil
          go_simp
          refine (HLEG13.out _ (hB_2.drew)).mono ?_
          rintro e v3 ⟨rfl, h3⟩
          have hX13_3 := Bx.below (w := ((w3.alloc (.cells #[.string ⟨#[]⟩, .int .i64 0, .int .i64 0] 27)).alloc (.cells #[.string ⟨#[]⟩, .int .i64 0, .int .i64 0] 27)).drew) hX13_2 h3 hX13_2.lt
          have hX14_3 := Bx.below (w := ((w3.alloc (.cells #[.string ⟨#[]⟩, .int .i64 0, .int .i64 0] 27)).alloc (.cells #[.string ⟨#[]⟩, .int .i64 0, .int .i64 0] 27)).drew) hX14_2 h3 hX14_2.lt
          have hB_3 : Below w3.heap.size w3 v3 := (hB_2.drew).trans (h3.mono (hB_2.drew).size)
          have hS_3 := HSK.out _ hB_3
          refine hK9.out _ _ hS_3 (fun hS => ?_)
          clear hK9 K9
          try simp only [Act.put]
          try simp only [List.setIfInBounds_toArray]
          try simp only [List.set_cons_zero]
          try simp only [List.set_cons_succ, List.set_cons_zero]
          refine wpAnyH_ready (rs := [5]) (by kernel_rfl) (by simp) ?_
          refine AllReadyH.cons (o := { dst := some 74, op := Op.call { callee := Callee.value (Operand.func 30), args := #[Operand.tmp 72, Operand.tmp 73], argTypes := #[60, 71] }, type := 27, pos := "law.go:235", after := #[{ on := 3, ground := Ground.data }, { on := 4, ground := Ground.data }, { on := 2, ground := Ground.chain }], guard := none }) rfl (fun K9 hK9 => ?_) AllReadyH.nil
          go_simp
          refine (HLEG14.out _ (hB_3)).mono ?_
          rintro e v4 ⟨rfl, h4⟩
          have hX13_4 := Bx.below (w := v3) hX13_3 h4 hX13_3.lt
          have hX14_4 := Bx.below (w := v3) hX14_3 h4 hX14_3.lt
          have hB_4 : Below w3.heap.size w3 v4 := (hB_3).trans (h4.mono (hB_3).size)
          have hS_4 := HSK.out _ hB_4
          refine hK9.out _ _ hS_4 (fun hS => ?_)
          clear hK9 K9
          try simp only [Act.put]
          try simp only [List.setIfInBounds_toArray]
          try simp only [List.set_cons_zero]
          try simp only [List.set_cons_succ, List.set_cons_zero]
          refine wpAnyH_ready (rs := [8]) (by kernel_rfl) (by simp) ?_
          refine AllReadyH.cons (o := { dst := none, op := Op.store 27 (Operand.tmp 13) (Operand.tmp 71), type := 0, pos := "law.go:235", after := #[{ on := 6, ground := Ground.data }, { on := 2, ground := Ground.data }, { on := 5, ground := Ground.chain }, { on := 0, ground := Ground.phase }, { on := 1, ground := Ground.phase }, { on := 2, ground := Ground.phase }, { on := 3, ground := Ground.textOnly Departure.lateStores }, { on := 4, ground := Ground.textOnly Departure.lateStores }, { on := 5, ground := Ground.textOnly Departure.lateStoresUnsure }, { on := 6, ground := Ground.phase }, { on := 7, ground := Ground.phase }], guard := none }) rfl (fun K9 hK9 => ?_) AllReadyH.nil
          have hB_5 : Below w3.heap.size w3 (v4.setRow g13 #[.string x.key.car, .int .i64 x.key.num, .int .i64 x.day]) := below_setRow (hB_4) hl13 #[.string x.key.car, .int .i64 x.key.num, .int .i64 x.day]
          have hX13_5 : Bx (v4.setRow g13 #[.string x.key.car, .int .i64 x.key.num, .int .i64 x.day]) g13 #[.string x.key.car, .int .i64 x.key.num, .int .i64 x.day] 27 := Bx.row (w := v4) hX13_4 #[.string x.key.car, .int .i64 x.key.num, .int .i64 x.day]
          have hne_5 : g14 ≠ g13 := fun e => hne e.symm
          have hX14_5 : Bx (v4.setRow g13 #[.string x.key.car, .int .i64 x.key.num, .int .i64 x.day]) g14 #[.string ⟨#[]⟩, .int .i64 0, .int .i64 0] 27 := Bx.rowOther (w := v4) hX14_4 hne_5 #[.string x.key.car, .int .i64 x.key.num, .int .i64 x.day]
          have hS_5 := HSK.out _ hB_5
          refine step_store_any 27 rfl (.tmp 13) (.tmp 71) (by rfl) #[.string x.key.car, .int .i64 x.key.num, .int .i64 x.day] (by rw [hg13]; rfl) (by rfl) hX13_4 info_lg rfl (by simp [Value.oneCell']) ?_
          refine hK9.out _ _ hS_5 (fun hS => ?_)
          clear hK9 K9
          try simp only [Act.put]
          try simp only [List.setIfInBounds_toArray]
          try simp only [List.set_cons_zero]
          try simp only [List.set_cons_succ, List.set_cons_zero]
          refine wpAnyH_ready (rs := [9]) (by kernel_rfl) (by simp) ?_
          refine AllReadyH.cons (o := { dst := none, op := Op.store 27 (Operand.tmp 14) (Operand.tmp 74), type := 0, pos := "law.go:235", after := #[{ on := 7, ground := Ground.data }, { on := 5, ground := Ground.data }, { on := 8, ground := Ground.chain }, { on := 0, ground := Ground.phase }, { on := 1, ground := Ground.phase }, { on := 2, ground := Ground.phase }, { on := 3, ground := Ground.phase }, { on := 4, ground := Ground.phase }, { on := 5, ground := Ground.phase }, { on := 6, ground := Ground.phase }, { on := 7, ground := Ground.phase }, { on := 8, ground := Ground.phase }], guard := none }) rfl (fun K9 hK9 => ?_) AllReadyH.nil
          have hB_6 : Below w3.heap.size w3 ((v4.setRow g13 #[.string x.key.car, .int .i64 x.key.num, .int .i64 x.day]).setRow g14 #[.string y.key.car, .int .i64 y.key.num, .int .i64 y.day]) := below_setRow (hB_5) hl14 #[.string y.key.car, .int .i64 y.key.num, .int .i64 y.day]
          have hX14_6 : Bx ((v4.setRow g13 #[.string x.key.car, .int .i64 x.key.num, .int .i64 x.day]).setRow g14 #[.string y.key.car, .int .i64 y.key.num, .int .i64 y.day]) g14 #[.string y.key.car, .int .i64 y.key.num, .int .i64 y.day] 27 := Bx.row (w := (v4.setRow g13 #[.string x.key.car, .int .i64 x.key.num, .int .i64 x.day])) hX14_5 #[.string y.key.car, .int .i64 y.key.num, .int .i64 y.day]
          have hne_6 : g13 ≠ g14 := hne
          have hX13_6 : Bx ((v4.setRow g13 #[.string x.key.car, .int .i64 x.key.num, .int .i64 x.day]).setRow g14 #[.string y.key.car, .int .i64 y.key.num, .int .i64 y.day]) g13 #[.string x.key.car, .int .i64 x.key.num, .int .i64 x.day] 27 := Bx.rowOther (w := (v4.setRow g13 #[.string x.key.car, .int .i64 x.key.num, .int .i64 x.day])) hX13_5 hne_6 #[.string y.key.car, .int .i64 y.key.num, .int .i64 y.day]
          have hS_6 := HSK.out _ hB_6
          refine step_store_any 27 rfl (.tmp 14) (.tmp 74) (by rfl) #[.string y.key.car, .int .i64 y.key.num, .int .i64 y.day] (by rw [hg14]; rfl) (by rfl) hX14_5 info_lg rfl (by simp [Value.oneCell']) ?_
          refine hK9.out _ _ hS_6 (fun hS => ?_)
          clear hK9 K9
          try simp only [Act.put]
          try simp only [List.setIfInBounds_toArray]
          try simp only [List.set_cons_zero]
          try simp only [List.set_cons_succ, List.set_cons_zero]
          refine wpAnyH_done (by kernel_rfl) ?_ _
          go_wp2
          go_meet
          subst hg13
          subst hg14
          exact ⟨_, _, rfl, rfl, hX13_6, hX14_6, hB_6, hl13, hl14⟩
        refine AllReadyH.cons (o := { dst := some 14, op := Op.alloc 27, type := 0, pos := "law.go:235", after := #[], guard := none }) rfl (fun K9 hK9 => ?_) AllReadyH.nil
        have hB_1 : Below w3.heap.size w3 (w3.alloc (.cells #[.string ⟨#[]⟩, .int .i64 0, .int .i64 0] 27)) := hB_0.alloc hB_0.size _
        have hX14_1 : ∃ g, Bx (w3.alloc (.cells #[.string ⟨#[]⟩, .int .i64 0, .int .i64 0] 27)) g #[.string ⟨#[]⟩, .int .i64 0, .int .i64 0] 27 ∧ g = w3.heap.size := ⟨_, Bx.new w3 #[.string ⟨#[]⟩, .int .i64 0, .int .i64 0] 27, rfl⟩
        obtain ⟨g14, hX14_1, hg14⟩ := hX14_1
        repeat (first | rw [World.size_alloc] at hg14 | rw [size_setRow] at hg14)
        have hl14 : w3.heap.size ≤ g14 := by have := hB_0.size; (repeat (first | rw [World.size_alloc] at this | rw [size_setRow] at this)); omega
        have hS_1 := HSK.out _ (hB_1.drew)
        go_simp
        refine hK9.out _ _ hS_1 (fun hS => ?_)
        clear hK9 K9
        try simp only [Act.put]
        try simp only [List.setIfInBounds_toArray]
        try simp only [List.set_cons_zero]
        try simp only [List.set_cons_succ, List.set_cons_zero]
        refine wpAnyH_ready (rs := [2, 6]) (by kernel_rfl) (by simp) ?_
        refine AllReadyH.cons (o := { dst := some 71, op := Op.call { callee := Callee.value (Operand.func 30), args := #[Operand.tmp 69, Operand.tmp 70], argTypes := #[60, 71] }, type := 27, pos := "law.go:235", after := #[{ on := 0, ground := Ground.data }, { on := 1, ground := Ground.data }], guard := none }) rfl (fun K9 hK9 => ?_) ?_
        · go_simp
          refine (HLEG13.out _ (hB_1.drew)).mono ?_
          rintro e v2 ⟨rfl, h2⟩
          have hX14_2 := Bx.below (w := (w3.alloc (.cells #[.string ⟨#[]⟩, .int .i64 0, .int .i64 0] 27)).drew) hX14_1 h2 hX14_1.lt
          have hB_2 : Below w3.heap.size w3 v2 := (hB_1.drew).trans (h2.mono (hB_1.drew).size)
          have hS_2 := HSK.out _ hB_2
          refine hK9.out _ _ hS_2 (fun hS => ?_)
          clear hK9 K9
          try simp only [Act.put]
          try simp only [List.setIfInBounds_toArray]
          try simp only [List.set_cons_zero]
          try simp only [List.set_cons_succ, List.set_cons_zero]
          refine wpAnyH_ready (rs := [5, 6]) (by kernel_rfl) (by simp) ?_
          refine AllReadyH.cons (o := { dst := some 74, op := Op.call { callee := Callee.value (Operand.func 30), args := #[Operand.tmp 72, Operand.tmp 73], argTypes := #[60, 71] }, type := 27, pos := "law.go:235", after := #[{ on := 3, ground := Ground.data }, { on := 4, ground := Ground.data }, { on := 2, ground := Ground.chain }], guard := none }) rfl (fun K9 hK9 => ?_) ?_
          · go_simp
            refine (HLEG14.out _ (hB_2)).mono ?_
            rintro e v3 ⟨rfl, h3⟩
            have hX14_3 := Bx.below (w := v2) hX14_2 h3 hX14_2.lt
            have hB_3 : Below w3.heap.size w3 v3 := (hB_2).trans (h3.mono (hB_2).size)
            have hS_3 := HSK.out _ hB_3
            refine hK9.out _ _ hS_3 (fun hS => ?_)
            clear hK9 K9
            try simp only [Act.put]
            try simp only [List.setIfInBounds_toArray]
            try simp only [List.set_cons_zero]
            try simp only [List.set_cons_succ, List.set_cons_zero]
            refine wpAnyH_ready (rs := [6]) (by kernel_rfl) (by simp) ?_
            refine AllReadyH.cons (o := { dst := some 13, op := Op.alloc 27, type := 0, pos := "law.go:235", after := #[], guard := none }) rfl (fun K9 hK9 => ?_) AllReadyH.nil
            have hB_4 : Below w3.heap.size w3 (v3.alloc (.cells #[.string ⟨#[]⟩, .int .i64 0, .int .i64 0] 27)) := hB_3.alloc hB_3.size _
            have hX13_4 : ∃ g, Bx (v3.alloc (.cells #[.string ⟨#[]⟩, .int .i64 0, .int .i64 0] 27)) g #[.string ⟨#[]⟩, .int .i64 0, .int .i64 0] 27 ∧ g = v3.heap.size := ⟨_, Bx.new v3 #[.string ⟨#[]⟩, .int .i64 0, .int .i64 0] 27, rfl⟩
            obtain ⟨g13, hX13_4, hg13⟩ := hX13_4
            have hne : g13 ≠ g14 := by have h1 := hX14_3.lt; rw [hg13]; intro h2; omega
            repeat (first | rw [World.size_alloc] at hg13 | rw [size_setRow] at hg13)
            have hl13 : w3.heap.size ≤ g13 := by have := hB_3.size; (repeat (first | rw [World.size_alloc] at this | rw [size_setRow] at this)); omega
            have hX14_4 := hX14_3.alloc (.cells #[.string ⟨#[]⟩, .int .i64 0, .int .i64 0] 27)
            have hS_4 := HSK.out _ (hB_4)
            go_simp
            refine hK9.out _ _ hS_4 (fun hS => ?_)
            clear hK9 K9
            try simp only [Act.put]
            try simp only [List.setIfInBounds_toArray]
            try simp only [List.set_cons_zero]
            try simp only [List.set_cons_succ, List.set_cons_zero]
            refine wpAnyH_ready (rs := [8]) (by kernel_rfl) (by simp) ?_
            refine AllReadyH.cons (o := { dst := none, op := Op.store 27 (Operand.tmp 13) (Operand.tmp 71), type := 0, pos := "law.go:235", after := #[{ on := 6, ground := Ground.data }, { on := 2, ground := Ground.data }, { on := 5, ground := Ground.chain }, { on := 0, ground := Ground.phase }, { on := 1, ground := Ground.phase }, { on := 2, ground := Ground.phase }, { on := 3, ground := Ground.textOnly Departure.lateStores }, { on := 4, ground := Ground.textOnly Departure.lateStores }, { on := 5, ground := Ground.textOnly Departure.lateStoresUnsure }, { on := 6, ground := Ground.phase }, { on := 7, ground := Ground.phase }], guard := none }) rfl (fun K9 hK9 => ?_) AllReadyH.nil
            have hB_5 : Below w3.heap.size w3 ((v3.alloc (.cells #[.string ⟨#[]⟩, .int .i64 0, .int .i64 0] 27)).setRow g13 #[.string x.key.car, .int .i64 x.key.num, .int .i64 x.day]) := below_setRow (hB_4) hl13 #[.string x.key.car, .int .i64 x.key.num, .int .i64 x.day]
            have hX13_5 : Bx ((v3.alloc (.cells #[.string ⟨#[]⟩, .int .i64 0, .int .i64 0] 27)).setRow g13 #[.string x.key.car, .int .i64 x.key.num, .int .i64 x.day]) g13 #[.string x.key.car, .int .i64 x.key.num, .int .i64 x.day] 27 := Bx.row (w := (v3.alloc (.cells #[.string ⟨#[]⟩, .int .i64 0, .int .i64 0] 27))) hX13_4 #[.string x.key.car, .int .i64 x.key.num, .int .i64 x.day]
            have hne_5 : g14 ≠ g13 := fun e => hne e.symm
            have hX14_5 : Bx ((v3.alloc (.cells #[.string ⟨#[]⟩, .int .i64 0, .int .i64 0] 27)).setRow g13 #[.string x.key.car, .int .i64 x.key.num, .int .i64 x.day]) g14 #[.string ⟨#[]⟩, .int .i64 0, .int .i64 0] 27 := Bx.rowOther (w := (v3.alloc (.cells #[.string ⟨#[]⟩, .int .i64 0, .int .i64 0] 27))) hX14_4 hne_5 #[.string x.key.car, .int .i64 x.key.num, .int .i64 x.day]
            have hS_5 := HSK.out _ hB_5
            refine step_store_any 27 rfl (.tmp 13) (.tmp 71) (by rfl) #[.string x.key.car, .int .i64 x.key.num, .int .i64 x.day] (by rw [hg13]; rfl) (by rfl) hX13_4 info_lg rfl (by simp [Value.oneCell']) ?_
            refine hK9.out _ _ hS_5 (fun hS => ?_)
            clear hK9 K9
            try simp only [Act.put]
            try simp only [List.setIfInBounds_toArray]
            try simp only [List.set_cons_zero]
            try simp only [List.set_cons_succ, List.set_cons_zero]
            refine wpAnyH_ready (rs := [9]) (by kernel_rfl) (by simp) ?_
            refine AllReadyH.cons (o := { dst := none, op := Op.store 27 (Operand.tmp 14) (Operand.tmp 74), type := 0, pos := "law.go:235", after := #[{ on := 7, ground := Ground.data }, { on := 5, ground := Ground.data }, { on := 8, ground := Ground.chain }, { on := 0, ground := Ground.phase }, { on := 1, ground := Ground.phase }, { on := 2, ground := Ground.phase }, { on := 3, ground := Ground.phase }, { on := 4, ground := Ground.phase }, { on := 5, ground := Ground.phase }, { on := 6, ground := Ground.phase }, { on := 7, ground := Ground.phase }, { on := 8, ground := Ground.phase }], guard := none }) rfl (fun K9 hK9 => ?_) AllReadyH.nil
            have hB_6 : Below w3.heap.size w3 (((v3.alloc (.cells #[.string ⟨#[]⟩, .int .i64 0, .int .i64 0] 27)).setRow g13 #[.string x.key.car, .int .i64 x.key.num, .int .i64 x.day]).setRow g14 #[.string y.key.car, .int .i64 y.key.num, .int .i64 y.day]) := below_setRow (hB_5) hl14 #[.string y.key.car, .int .i64 y.key.num, .int .i64 y.day]
            have hX14_6 : Bx (((v3.alloc (.cells #[.string ⟨#[]⟩, .int .i64 0, .int .i64 0] 27)).setRow g13 #[.string x.key.car, .int .i64 x.key.num, .int .i64 x.day]).setRow g14 #[.string y.key.car, .int .i64 y.key.num, .int .i64 y.day]) g14 #[.string y.key.car, .int .i64 y.key.num, .int .i64 y.day] 27 := Bx.row (w := ((v3.alloc (.cells #[.string ⟨#[]⟩, .int .i64 0, .int .i64 0] 27)).setRow g13 #[.string x.key.car, .int .i64 x.key.num, .int .i64 x.day])) hX14_5 #[.string y.key.car, .int .i64 y.key.num, .int .i64 y.day]
            have hne_6 : g13 ≠ g14 := hne
            have hX13_6 : Bx (((v3.alloc (.cells #[.string ⟨#[]⟩, .int .i64 0, .int .i64 0] 27)).setRow g13 #[.string x.key.car, .int .i64 x.key.num, .int .i64 x.day]).setRow g14 #[.string y.key.car, .int .i64 y.key.num, .int .i64 y.day]) g13 #[.string x.key.car, .int .i64 x.key.num, .int .i64 x.day] 27 := Bx.rowOther (w := ((v3.alloc (.cells #[.string ⟨#[]⟩, .int .i64 0, .int .i64 0] 27)).setRow g13 #[.string x.key.car, .int .i64 x.key.num, .int .i64 x.day])) hX13_5 hne_6 #[.string y.key.car, .int .i64 y.key.num, .int .i64 y.day]
            have hS_6 := HSK.out _ hB_6
            refine step_store_any 27 rfl (.tmp 14) (.tmp 74) (by rfl) #[.string y.key.car, .int .i64 y.key.num, .int .i64 y.day] (by rw [hg14]; rfl) (by rfl) hX14_5 info_lg rfl (by simp [Value.oneCell']) ?_
            refine hK9.out _ _ hS_6 (fun hS => ?_)
            clear hK9 K9
            try simp only [Act.put]
            try simp only [List.setIfInBounds_toArray]
            try simp only [List.set_cons_zero]
            try simp only [List.set_cons_succ, List.set_cons_zero]
            refine wpAnyH_done (by kernel_rfl) ?_ _
            go_wp2
            go_meet
            subst hg13
            subst hg14
            exact ⟨_, _, rfl, rfl, hX13_6, hX14_6, hB_6, hl13, hl14⟩
          refine AllReadyH.cons (o := { dst := some 13, op := Op.alloc 27, type := 0, pos := "law.go:235", after := #[], guard := none }) rfl (fun K9 hK9 => ?_) AllReadyH.nil
          have hB_3 : Below w3.heap.size w3 (v2.alloc (.cells #[.string ⟨#[]⟩, .int .i64 0, .int .i64 0] 27)) := hB_2.alloc hB_2.size _
          have hX13_3 : ∃ g, Bx (v2.alloc (.cells #[.string ⟨#[]⟩, .int .i64 0, .int .i64 0] 27)) g #[.string ⟨#[]⟩, .int .i64 0, .int .i64 0] 27 ∧ g = v2.heap.size := ⟨_, Bx.new v2 #[.string ⟨#[]⟩, .int .i64 0, .int .i64 0] 27, rfl⟩
          obtain ⟨g13, hX13_3, hg13⟩ := hX13_3
          have hne : g13 ≠ g14 := by have h1 := hX14_2.lt; rw [hg13]; intro h2; omega
          repeat (first | rw [World.size_alloc] at hg13 | rw [size_setRow] at hg13)
          have hl13 : w3.heap.size ≤ g13 := by have := hB_2.size; (repeat (first | rw [World.size_alloc] at this | rw [size_setRow] at this)); omega
          have hX14_3 := hX14_2.alloc (.cells #[.string ⟨#[]⟩, .int .i64 0, .int .i64 0] 27)
          have hS_3 := HSK.out _ (hB_3)
          go_simp
          refine hK9.out _ _ hS_3 (fun hS => ?_)
          clear hK9 K9
          try simp only [Act.put]
          try simp only [List.setIfInBounds_toArray]
          try simp only [List.set_cons_zero]
          try simp only [List.set_cons_succ, List.set_cons_zero]
          refine wpAnyH_ready (rs := [5]) (by kernel_rfl) (by simp) ?_
          refine AllReadyH.cons (o := { dst := some 74, op := Op.call { callee := Callee.value (Operand.func 30), args := #[Operand.tmp 72, Operand.tmp 73], argTypes := #[60, 71] }, type := 27, pos := "law.go:235", after := #[{ on := 3, ground := Ground.data }, { on := 4, ground := Ground.data }, { on := 2, ground := Ground.chain }], guard := none }) rfl (fun K9 hK9 => ?_) AllReadyH.nil
          go_simp
          refine (HLEG14.out _ (hB_3)).mono ?_
          rintro e v4 ⟨rfl, h4⟩
          have hX13_4 := Bx.below (w := (v2.alloc (.cells #[.string ⟨#[]⟩, .int .i64 0, .int .i64 0] 27))) hX13_3 h4 hX13_3.lt
          have hX14_4 := Bx.below (w := (v2.alloc (.cells #[.string ⟨#[]⟩, .int .i64 0, .int .i64 0] 27))) hX14_3 h4 hX14_3.lt
          have hB_4 : Below w3.heap.size w3 v4 := (hB_3).trans (h4.mono (hB_3).size)
          have hS_4 := HSK.out _ hB_4
          refine hK9.out _ _ hS_4 (fun hS => ?_)
          clear hK9 K9
          try simp only [Act.put]
          try simp only [List.setIfInBounds_toArray]
          try simp only [List.set_cons_zero]
          try simp only [List.set_cons_succ, List.set_cons_zero]
          refine wpAnyH_ready (rs := [8]) (by kernel_rfl) (by simp) ?_
          refine AllReadyH.cons (o := { dst := none, op := Op.store 27 (Operand.tmp 13) (Operand.tmp 71), type := 0, pos := "law.go:235", after := #[{ on := 6, ground := Ground.data }, { on := 2, ground := Ground.data }, { on := 5, ground := Ground.chain }, { on := 0, ground := Ground.phase }, { on := 1, ground := Ground.phase }, { on := 2, ground := Ground.phase }, { on := 3, ground := Ground.textOnly Departure.lateStores }, { on := 4, ground := Ground.textOnly Departure.lateStores }, { on := 5, ground := Ground.textOnly Departure.lateStoresUnsure }, { on := 6, ground := Ground.phase }, { on := 7, ground := Ground.phase }], guard := none }) rfl (fun K9 hK9 => ?_) AllReadyH.nil
          have hB_5 : Below w3.heap.size w3 (v4.setRow g13 #[.string x.key.car, .int .i64 x.key.num, .int .i64 x.day]) := below_setRow (hB_4) hl13 #[.string x.key.car, .int .i64 x.key.num, .int .i64 x.day]
          have hX13_5 : Bx (v4.setRow g13 #[.string x.key.car, .int .i64 x.key.num, .int .i64 x.day]) g13 #[.string x.key.car, .int .i64 x.key.num, .int .i64 x.day] 27 := Bx.row (w := v4) hX13_4 #[.string x.key.car, .int .i64 x.key.num, .int .i64 x.day]
          have hne_5 : g14 ≠ g13 := fun e => hne e.symm
          have hX14_5 : Bx (v4.setRow g13 #[.string x.key.car, .int .i64 x.key.num, .int .i64 x.day]) g14 #[.string ⟨#[]⟩, .int .i64 0, .int .i64 0] 27 := Bx.rowOther (w := v4) hX14_4 hne_5 #[.string x.key.car, .int .i64 x.key.num, .int .i64 x.day]
          have hS_5 := HSK.out _ hB_5
          refine step_store_any 27 rfl (.tmp 13) (.tmp 71) (by rfl) #[.string x.key.car, .int .i64 x.key.num, .int .i64 x.day] (by rw [hg13]; rfl) (by rfl) hX13_4 info_lg rfl (by simp [Value.oneCell']) ?_
          refine hK9.out _ _ hS_5 (fun hS => ?_)
          clear hK9 K9
          try simp only [Act.put]
          try simp only [List.setIfInBounds_toArray]
          try simp only [List.set_cons_zero]
          try simp only [List.set_cons_succ, List.set_cons_zero]
          refine wpAnyH_ready (rs := [9]) (by kernel_rfl) (by simp) ?_
          refine AllReadyH.cons (o := { dst := none, op := Op.store 27 (Operand.tmp 14) (Operand.tmp 74), type := 0, pos := "law.go:235", after := #[{ on := 7, ground := Ground.data }, { on := 5, ground := Ground.data }, { on := 8, ground := Ground.chain }, { on := 0, ground := Ground.phase }, { on := 1, ground := Ground.phase }, { on := 2, ground := Ground.phase }, { on := 3, ground := Ground.phase }, { on := 4, ground := Ground.phase }, { on := 5, ground := Ground.phase }, { on := 6, ground := Ground.phase }, { on := 7, ground := Ground.phase }, { on := 8, ground := Ground.phase }], guard := none }) rfl (fun K9 hK9 => ?_) AllReadyH.nil
          have hB_6 : Below w3.heap.size w3 ((v4.setRow g13 #[.string x.key.car, .int .i64 x.key.num, .int .i64 x.day]).setRow g14 #[.string y.key.car, .int .i64 y.key.num, .int .i64 y.day]) := below_setRow (hB_5) hl14 #[.string y.key.car, .int .i64 y.key.num, .int .i64 y.day]
          have hX14_6 : Bx ((v4.setRow g13 #[.string x.key.car, .int .i64 x.key.num, .int .i64 x.day]).setRow g14 #[.string y.key.car, .int .i64 y.key.num, .int .i64 y.day]) g14 #[.string y.key.car, .int .i64 y.key.num, .int .i64 y.day] 27 := Bx.row (w := (v4.setRow g13 #[.string x.key.car, .int .i64 x.key.num, .int .i64 x.day])) hX14_5 #[.string y.key.car, .int .i64 y.key.num, .int .i64 y.day]
          have hne_6 : g13 ≠ g14 := hne
          have hX13_6 : Bx ((v4.setRow g13 #[.string x.key.car, .int .i64 x.key.num, .int .i64 x.day]).setRow g14 #[.string y.key.car, .int .i64 y.key.num, .int .i64 y.day]) g13 #[.string x.key.car, .int .i64 x.key.num, .int .i64 x.day] 27 := Bx.rowOther (w := (v4.setRow g13 #[.string x.key.car, .int .i64 x.key.num, .int .i64 x.day])) hX13_5 hne_6 #[.string y.key.car, .int .i64 y.key.num, .int .i64 y.day]
          have hS_6 := HSK.out _ hB_6
          refine step_store_any 27 rfl (.tmp 14) (.tmp 74) (by rfl) #[.string y.key.car, .int .i64 y.key.num, .int .i64 y.day] (by rw [hg14]; rfl) (by rfl) hX14_5 info_lg rfl (by simp [Value.oneCell']) ?_
          refine hK9.out _ _ hS_6 (fun hS => ?_)
          clear hK9 K9
          try simp only [Act.put]
          try simp only [List.setIfInBounds_toArray]
          try simp only [List.set_cons_zero]
          try simp only [List.set_cons_succ, List.set_cons_zero]
          refine wpAnyH_done (by kernel_rfl) ?_ _
          go_wp2
          go_meet
          subst hg13
          subst hg14
          exact ⟨_, _, rfl, rfl, hX13_6, hX14_6, hB_6, hl13, hl14⟩
        refine AllReadyH.cons (o := { dst := some 13, op := Op.alloc 27, type := 0, pos := "law.go:235", after := #[], guard := none }) rfl (fun K9 hK9 => ?_) AllReadyH.nil
        have hB_2 : Below w3.heap.size w3 ((w3.alloc (.cells #[.string ⟨#[]⟩, .int .i64 0, .int .i64 0] 27)).alloc (.cells #[.string ⟨#[]⟩, .int .i64 0, .int .i64 0] 27)) := hB_1.alloc hB_1.size _
        have hX13_2 : ∃ g, Bx ((w3.alloc (.cells #[.string ⟨#[]⟩, .int .i64 0, .int .i64 0] 27)).alloc (.cells #[.string ⟨#[]⟩, .int .i64 0, .int .i64 0] 27)) g #[.string ⟨#[]⟩, .int .i64 0, .int .i64 0] 27 ∧ g = (w3.alloc (.cells #[.string ⟨#[]⟩, .int .i64 0, .int .i64 0] 27)).heap.size := ⟨_, Bx.new (w3.alloc (.cells #[.string ⟨#[]⟩, .int .i64 0, .int .i64 0] 27)) #[.string ⟨#[]⟩, .int .i64 0, .int .i64 0] 27, rfl⟩
        obtain ⟨g13, hX13_2, hg13⟩ := hX13_2
        have hne : g13 ≠ g14 := by have h1 := hX14_1.lt; rw [hg13]; intro h2; omega
        repeat (first | rw [World.size_alloc] at hg13 | rw [size_setRow] at hg13)
        have hl13 : w3.heap.size ≤ g13 := by have := hB_1.size; (repeat (first | rw [World.size_alloc] at this | rw [size_setRow] at this)); omega
        have hX14_2 := hX14_1.alloc (.cells #[.string ⟨#[]⟩, .int .i64 0, .int .i64 0] 27)
        have hS_2 := HSK.out _ (hB_2.drew)
        go_simp
        refine hK9.out _ _ hS_2 (fun hS => ?_)
        clear hK9 K9
        try simp only [Act.put]
        try simp only [List.setIfInBounds_toArray]
        try simp only [List.set_cons_zero]
        try simp only [List.set_cons_succ, List.set_cons_zero]
        refine wpAnyH_ready (rs := [2]) (by kernel_rfl) (by simp) ?_
        refine AllReadyH.cons (o := { dst := some 71, op := Op.call { callee := Callee.value (Operand.func 30), args := #[Operand.tmp 69, Operand.tmp 70], argTypes := #[60, 71] }, type := 27, pos := "law.go:235", after := #[{ on := 0, ground := Ground.data }, { on := 1, ground := Ground.data }], guard := none }) rfl (fun K9 hK9 => ?_) AllReadyH.nil
        go_simp
        refine (HLEG13.out _ (hB_2.drew)).mono ?_
        rintro e v3 ⟨rfl, h3⟩
        have hX13_3 := Bx.below (w := ((w3.alloc (.cells #[.string ⟨#[]⟩, .int .i64 0, .int .i64 0] 27)).alloc (.cells #[.string ⟨#[]⟩, .int .i64 0, .int .i64 0] 27)).drew) hX13_2 h3 hX13_2.lt
        have hX14_3 := Bx.below (w := ((w3.alloc (.cells #[.string ⟨#[]⟩, .int .i64 0, .int .i64 0] 27)).alloc (.cells #[.string ⟨#[]⟩, .int .i64 0, .int .i64 0] 27)).drew) hX14_2 h3 hX14_2.lt
        have hB_3 : Below w3.heap.size w3 v3 := (hB_2.drew).trans (h3.mono (hB_2.drew).size)
        have hS_3 := HSK.out _ hB_3
        refine hK9.out _ _ hS_3 (fun hS => ?_)
        clear hK9 K9
        try simp only [Act.put]
        try simp only [List.setIfInBounds_toArray]
        try simp only [List.set_cons_zero]
        try simp only [List.set_cons_succ, List.set_cons_zero]
        refine wpAnyH_ready (rs := [5]) (by kernel_rfl) (by simp) ?_
        refine AllReadyH.cons (o := { dst := some 74, op := Op.call { callee := Callee.value (Operand.func 30), args := #[Operand.tmp 72, Operand.tmp 73], argTypes := #[60, 71] }, type := 27, pos := "law.go:235", after := #[{ on := 3, ground := Ground.data }, { on := 4, ground := Ground.data }, { on := 2, ground := Ground.chain }], guard := none }) rfl (fun K9 hK9 => ?_) AllReadyH.nil
        go_simp
        refine (HLEG14.out _ (hB_3)).mono ?_
        rintro e v4 ⟨rfl, h4⟩
        have hX13_4 := Bx.below (w := v3) hX13_3 h4 hX13_3.lt
        have hX14_4 := Bx.below (w := v3) hX14_3 h4 hX14_3.lt
        have hB_4 : Below w3.heap.size w3 v4 := (hB_3).trans (h4.mono (hB_3).size)
        have hS_4 := HSK.out _ hB_4
        refine hK9.out _ _ hS_4 (fun hS => ?_)
        clear hK9 K9
        try simp only [Act.put]
        try simp only [List.setIfInBounds_toArray]
        try simp only [List.set_cons_zero]
        try simp only [List.set_cons_succ, List.set_cons_zero]
        refine wpAnyH_ready (rs := [8]) (by kernel_rfl) (by simp) ?_
        refine AllReadyH.cons (o := { dst := none, op := Op.store 27 (Operand.tmp 13) (Operand.tmp 71), type := 0, pos := "law.go:235", after := #[{ on := 6, ground := Ground.data }, { on := 2, ground := Ground.data }, { on := 5, ground := Ground.chain }, { on := 0, ground := Ground.phase }, { on := 1, ground := Ground.phase }, { on := 2, ground := Ground.phase }, { on := 3, ground := Ground.textOnly Departure.lateStores }, { on := 4, ground := Ground.textOnly Departure.lateStores }, { on := 5, ground := Ground.textOnly Departure.lateStoresUnsure }, { on := 6, ground := Ground.phase }, { on := 7, ground := Ground.phase }], guard := none }) rfl (fun K9 hK9 => ?_) AllReadyH.nil
        have hB_5 : Below w3.heap.size w3 (v4.setRow g13 #[.string x.key.car, .int .i64 x.key.num, .int .i64 x.day]) := below_setRow (hB_4) hl13 #[.string x.key.car, .int .i64 x.key.num, .int .i64 x.day]
        have hX13_5 : Bx (v4.setRow g13 #[.string x.key.car, .int .i64 x.key.num, .int .i64 x.day]) g13 #[.string x.key.car, .int .i64 x.key.num, .int .i64 x.day] 27 := Bx.row (w := v4) hX13_4 #[.string x.key.car, .int .i64 x.key.num, .int .i64 x.day]
        have hne_5 : g14 ≠ g13 := fun e => hne e.symm
        have hX14_5 : Bx (v4.setRow g13 #[.string x.key.car, .int .i64 x.key.num, .int .i64 x.day]) g14 #[.string ⟨#[]⟩, .int .i64 0, .int .i64 0] 27 := Bx.rowOther (w := v4) hX14_4 hne_5 #[.string x.key.car, .int .i64 x.key.num, .int .i64 x.day]
        have hS_5 := HSK.out _ hB_5
        refine step_store_any 27 rfl (.tmp 13) (.tmp 71) (by rfl) #[.string x.key.car, .int .i64 x.key.num, .int .i64 x.day] (by rw [hg13]; rfl) (by rfl) hX13_4 info_lg rfl (by simp [Value.oneCell']) ?_
        refine hK9.out _ _ hS_5 (fun hS => ?_)
        clear hK9 K9
        try simp only [Act.put]
        try simp only [List.setIfInBounds_toArray]
        try simp only [List.set_cons_zero]
        try simp only [List.set_cons_succ, List.set_cons_zero]
        refine wpAnyH_ready (rs := [9]) (by kernel_rfl) (by simp) ?_
        refine AllReadyH.cons (o := { dst := none, op := Op.store 27 (Operand.tmp 14) (Operand.tmp 74), type := 0, pos := "law.go:235", after := #[{ on := 7, ground := Ground.data }, { on := 5, ground := Ground.data }, { on := 8, ground := Ground.chain }, { on := 0, ground := Ground.phase }, { on := 1, ground := Ground.phase }, { on := 2, ground := Ground.phase }, { on := 3, ground := Ground.phase }, { on := 4, ground := Ground.phase }, { on := 5, ground := Ground.phase }, { on := 6, ground := Ground.phase }, { on := 7, ground := Ground.phase }, { on := 8, ground := Ground.phase }], guard := none }) rfl (fun K9 hK9 => ?_) AllReadyH.nil
        have hB_6 : Below w3.heap.size w3 ((v4.setRow g13 #[.string x.key.car, .int .i64 x.key.num, .int .i64 x.day]).setRow g14 #[.string y.key.car, .int .i64 y.key.num, .int .i64 y.day]) := below_setRow (hB_5) hl14 #[.string y.key.car, .int .i64 y.key.num, .int .i64 y.day]
        have hX14_6 : Bx ((v4.setRow g13 #[.string x.key.car, .int .i64 x.key.num, .int .i64 x.day]).setRow g14 #[.string y.key.car, .int .i64 y.key.num, .int .i64 y.day]) g14 #[.string y.key.car, .int .i64 y.key.num, .int .i64 y.day] 27 := Bx.row (w := (v4.setRow g13 #[.string x.key.car, .int .i64 x.key.num, .int .i64 x.day])) hX14_5 #[.string y.key.car, .int .i64 y.key.num, .int .i64 y.day]
        have hne_6 : g13 ≠ g14 := hne
        have hX13_6 : Bx ((v4.setRow g13 #[.string x.key.car, .int .i64 x.key.num, .int .i64 x.day]).setRow g14 #[.string y.key.car, .int .i64 y.key.num, .int .i64 y.day]) g13 #[.string x.key.car, .int .i64 x.key.num, .int .i64 x.day] 27 := Bx.rowOther (w := (v4.setRow g13 #[.string x.key.car, .int .i64 x.key.num, .int .i64 x.day])) hX13_5 hne_6 #[.string y.key.car, .int .i64 y.key.num, .int .i64 y.day]
        have hS_6 := HSK.out _ hB_6
        refine step_store_any 27 rfl (.tmp 14) (.tmp 74) (by rfl) #[.string y.key.car, .int .i64 y.key.num, .int .i64 y.day] (by rw [hg14]; rfl) (by rfl) hX14_5 info_lg rfl (by simp [Value.oneCell']) ?_
        refine hK9.out _ _ hS_6 (fun hS => ?_)
        clear hK9 K9
        try simp only [Act.put]
        try simp only [List.setIfInBounds_toArray]
        try simp only [List.set_cons_zero]
        try simp only [List.set_cons_succ, List.set_cons_zero]
        refine wpAnyH_done (by kernel_rfl) ?_ _
        go_wp2
        go_meet
        subst hg13
        subst hg14
        exact ⟨_, _, rfl, rfl, hX13_6, hX14_6, hB_6, hl13, hl14⟩
      case rest =>
       as_aux_lemma =>
        clear HSK HLEG13 HLEG14
        obtain ⟨gx, gy, rfl, rfl, b13, b14, hbc, hl13, hl14⟩ := hcut
        have zgx : b5 < gx := by omega
        have zgxl := b13.lt
        have zgyl := b14.lt
        have zgy : b5 < gy := by omega
        have HSA := Lib.hid (HS3.out.keep hbc)
        have HCA := Lib.hid (HC3.out.keep hbc)
        have H4A : Hid (H4 wc (w.heap.size + 1) (w.heap.size + 1 + 1) gx gy a o x y) := ⟨BW3.out.2.1.below hbc BW3.out.2.1.lt, BW3.out.2.2.below hbc BW3.out.2.2.lt, b13, b14⟩
        have HBA := Lib.hid (HB3.out.trans (hbc.mono z3))
        have zA := HBA.out.size
        have zcA := hbc.size
        clear b13 b14 hbc HS3 HC3 BW3 HB3
        have cc1 := H4A.out.ba.cells
        have cc2 := H4A.out.bo.cells
        have cc3 := H4A.out.bx.cells
        have cc4 := H4A.out.by_.cells
        -- whose the other seat was
        obtain ⟨hy0, by0, hyq1, hyq2⟩ : ∃ (h : Hol) (bb : Bool), (q ⟨y, o.seat⟩).getD hol0 = h ∧ (q ⟨y, o.seat⟩).isSome = bb := ⟨_, _, rfl, rfl⟩
        have HYQ1 := Lib.hid hyq1
        have HYQ2 := Lib.hid hyq2
        have hwho := fun (V : World) (p1 b1 : Nat) (hK : HK V lo hi t p1 b1 rs ps q) => who_any hK y o.seat HYO.out HOO.out.seat
        rw [hyq1, hyq2] at hwho
        unfold holV at hwho
        have HWHO := Lib.hid hwho
        clear hyq1 hyq2 hwho
        go_wp2_with fail
        refine (HWHO.out _ _ _ HSA.out).mono ?_
        rintro e w5 ⟨rfl, h5⟩
        clear cc1 cc2 cc3 cc4
        have HSB := Lib.hid (HSA.out.keep h5)
        have HCB := Lib.hid (HCA.out.keep h5)
        have H4B := Lib.hid (H4A.out.below h5)
        have HBB := Lib.hid (HBA.out.trans (h5.mono zA))
        have zB := HBB.out.size
        have zzB := (h5).size
        clear HSA HCA H4A HBA
        have cc1 := H4B.out.ba.cells
        have cc2 := H4B.out.bo.cells
        have cc3 := H4B.out.bx.cells
        have cc4 := H4B.out.by_.cells
        clear h5
        go_upto_region 16 with fail
        refine wp_world (fun V5 => ∃ gw, (gw = w5.heap.size ∧ Bx V5 gw #[.string hy0.loc, .int .i64 hy0.pax] 69) ∧ H4 V5 (w.heap.size + 1) (w.heap.size + 1 + 1) gx gy a o x y ∧ HK V5 lo hi t p b rs ps q ∧ HK V5 lo hi t p5 b5 rs ps q ∧ Below w.heap.size w V5 ∧ w5.heap.size ≤ V5.heap.size) ⟨_, ⟨rfl, Bx.new _ _ _⟩, H4B.out.below ((Below.refl _ _).alloc (Nat.le_refl _) _), HSB.out.keep ((Below.refl _ _).alloc (Nat.le_refl _) _), HCB.out.keep ((Below.refl _ _).alloc (Nat.le_refl _) _), HBB.out.alloc zB _, by simp⟩ ?_
        clear cc1 cc2 cc3 cc4
        clear HSB HCB H4B HBB
        rintro V5 ⟨gw, ⟨hgw, bw⟩, h4, hS, hC, hB, hz5⟩
        try rw [← hgw]
        have zgw : b5 < gw := by omega
        have HSC := Lib.hid hS
        have HCC := Lib.hid hC
        have H4C := Lib.hid h4
        have HBC := Lib.hid hB
        have WBC := Lib.hid bw
        have zC := hB.size
        clear bw h4 hS hC hB hgw
        have cc1 := H4C.out.ba.cells
        have cc2 := H4C.out.bo.cells
        have cc3 := H4C.out.bx.cells
        have cc4 := H4C.out.by_.cells
        go_wp2_with fail
        refine (hon_any HSC.out x E (by omega) (fun d hd => (HEN.out.mem d).1 hd)).mono ?_
        rintro e w6 ⟨A6, n6, c6, on6, rfl, hO6, hr6, hm6, h6⟩
        have hl6 : on6.length = n6 := hO6.sl.len
        have hcnt := on_len HEN.out hr6 hm6
        have hn6 : n6 ≤ 100 := by
          have h1 : (E.filter fun d => decide (d.leg = x)).length ≤ E.length := List.length_filter_le _ _
          omega
        have SLD : Hid (Sl w6 V5.heap.size w6.heap.size tHld A6 n6 on6) := hO6.sl
        have ZHD : Hid (w6.heap.size ≤ w6.heap.size) := Nat.le_refl _
        have zlo : b5 < V5.heap.size := by omega
        have HR6 := Lib.hid hr6
        have HM6 : Hid (∀ x_1, x_1 ∈ on6 ↔ q ⟨x, x_1.seat⟩ = some x_1.hol) := hm6
        have HCNT := Lib.hid hcnt
        clear cc1 cc2 cc3 cc4
        have HSD := Lib.hid (HSC.out.keep h6)
        have HCD := Lib.hid (HCC.out.keep h6)
        have H4D := Lib.hid (H4C.out.below h6)
        have HBD := Lib.hid (HBC.out.trans (h6.mono zC))
        have zD := HBD.out.size
        have zzD := (h6).size
        have WBD := Lib.hid (WBC.out.below h6 WBC.out.lt)
        clear HSC HCC H4C HBC WBC
        have cc1 := H4D.out.ba.cells
        have cc2 := H4D.out.bo.cells
        have cc3 := H4D.out.bx.cells
        have cc4 := H4D.out.by_.cells
        clear h6 hO6 hcnt hr6 hm6
        go_wp2_with fail
        refine (take_is HCD.out HR.out x a.seat a.hol HXO.out HAO.out.seat HAO.out.hol).mono ?_
        rintro e w7 ⟨kk, q2, rfl, hS7, hK7, HCS⟩
        have HCE := Lib.hid hS7
        have HSE := Lib.hid (HSD.out.kb hK7 (by omega) (by omega) (by omega))
        have H4E := Lib.hid (H4D.out.kb hK7 (by omega) (by omega) (by omega) (by omega))
        have HBE := Lib.hid (hK7.below HBD.out (by omega) zD)
        have zE := HBE.out.size
        have zzE := hK7.size
        have WBE := Lib.hid (WBD.out.kb hK7 (by omega))
        have SLE := Lib.hid (Sl.kb SLD.out hK7 zlo ZHD.out)
        have ZHE := Lib.hid (Nat.le_trans ZHD.out hK7.size)
        clear cc1 cc2 cc3 cc4
        clear hS7 hK7 HCD HSD H4D HBD WBD SLD ZHD
        have cc1 := H4E.out.ba.cells
        have cc2 := H4E.out.bo.cells
        have cc3 := H4E.out.bx.cells
        have cc4 := H4E.out.by_.cells
        go_wp2_with fail
        refine (HWHO.out _ _ _ HSE.out).mono ?_
        rintro e w8 ⟨rfl, h8⟩
        clear cc1 cc2 cc3 cc4
        have HSF := Lib.hid (HSE.out.keep h8)
        have HCF := Lib.hid (HCE.out.keep h8)
        have H4F := Lib.hid (H4E.out.below h8)
        have HBF := Lib.hid (HBE.out.trans (h8.mono zE))
        have zF := HBF.out.size
        have zzF := (h8).size
        have WBF := Lib.hid (WBE.out.below h8 WBE.out.lt)
        have SLF := Lib.hid (Sl.below SLE.out (h8) ZHE.out)
        have ZHF := Lib.hid (Nat.le_trans ZHE.out (h8).size)
        clear HSE HCE H4E HBE WBE SLE ZHE
        clear h8
        go_upto_region 19 with fail
        refine wp_world (fun V8 => ∃ gn, (gn = w8.heap.size ∧ Bx V8 gn #[.string hy0.loc, .int .i64 hy0.pax] 69) ∧ Below w8.heap.size w8 V8) ⟨_, ⟨rfl, Bx.new _ _ _⟩, (Below.refl _ _).alloc (Nat.le_refl _) _⟩ ?_
        rintro V8 ⟨gn, ⟨hgn, bn⟩, h8⟩
        try rw [← hgn]
        have zgn : w8.heap.size ≤ gn := Nat.le_of_eq hgn.symm
        have zgnw : gw < gn := by have := WBF.out.lt; omega
        have HSG := Lib.hid (HSF.out.keep h8)
        have HCG := Lib.hid (HCF.out.keep h8)
        have H4G := Lib.hid (H4F.out.below h8)
        have HBG := Lib.hid (HBF.out.trans (h8.mono zF))
        have zG := HBG.out.size
        have zzG := (h8).size
        have WBG := Lib.hid (WBF.out.below h8 WBF.out.lt)
        have SLG := Lib.hid (Sl.below SLF.out (h8) ZHF.out)
        have ZHG := Lib.hid (Nat.le_trans ZHF.out (h8).size)
        clear HSF HCF H4F HBF WBF SLF ZHF
        have NBG := Lib.hid bn
        clear h8 bn hgn
        have cc1 := H4G.out.ba.cells
        have cc2 := H4G.out.bo.cells
        have cc3 := H4G.out.bx.cells
        have cc4 := H4G.out.by_.cells
        have cw := WBG.out.cells
        have cn := NBG.out.cells
        have hne := fun u => neq_hol hy0.loc hy0.loc hy0.pax hy0.pax u
        rw [decide_eq_true (rfl : (⟨hy0.loc, hy0.pax⟩ : Hol) = ⟨hy0.loc, hy0.pax⟩)] at hne
        have tby : (by0 != by0) = false := by simp
        go_wp2_with fail
        refine (hon_any HSG.out x E (by omega) (fun d hd => (HEN.out.mem d).1 hd)).mono ?_
        rintro e w9 ⟨A9, n9, c9, on9, rfl, hO9, hr9, hm9, h9⟩
        obtain rfl : on9 = on6 := on_eq HR6.out hr9 HM6.out hm9
        obtain rfl : n6 = n9 := by have h1 := hO9.sl.len; omega
        have SL9 := Lib.hid hO9.sl
        clear cc1 cc2 cc3 cc4
        clear cw cn
        have HSH := Lib.hid (HSG.out.keep h9)
        have HCH := Lib.hid (HCG.out.keep h9)
        have H4H := Lib.hid (H4G.out.below h9)
        have HBH := Lib.hid (HBG.out.trans (h9.mono zG))
        have zH := HBH.out.size
        have zzH := (h9).size
        have WBH := Lib.hid (WBG.out.below h9 WBG.out.lt)
        have SLH := Lib.hid (Sl.below SLG.out (h9) ZHG.out)
        have ZHH := Lib.hid (Nat.le_trans ZHG.out (h9).size)
        have NBH := Lib.hid (NBG.out.below h9 NBG.out.lt)
        clear HSG HCG H4G HBG WBG SLG ZHG NBG
        have cc1 := H4H.out.ba.cells
        have cc2 := H4H.out.bo.cells
        have cc3 := H4H.out.bx.cells
        have cc4 := H4H.out.by_.cells
        clear h9 hO9 hr9 hm9
        go_wp2_with fail
        refine (hsame_any on9 A9 n6 c9 A6 c6 w9 _ _ _ _ SL9.out SLH.out (Nat.le_refl _) ZHH.out (by omega)).mono ?_
        rintro e w10 ⟨rfl, h10⟩
        clear cc1 cc2 cc3 cc4
        have HSI := Lib.hid (HSH.out.keep h10)
        have HCI := Lib.hid (HCH.out.keep h10)
        have H4I := Lib.hid (H4H.out.below h10)
        have HBI := Lib.hid (HBH.out.trans (h10.mono zH))
        have zI := HBI.out.size
        have zzI := (h10).size
        have WBI := Lib.hid (WBH.out.below h10 WBH.out.lt)
        have SLI := Lib.hid (Sl.below SLH.out (h10) ZHH.out)
        have ZHI := Lib.hid (Nat.le_trans ZHH.out (h10).size)
        have NBI := Lib.hid (NBH.out.below h10 NBH.out.lt)
        clear HSH HCH H4H HBH WBH SLH ZHH NBH
        have cc1 := H4I.out.ba.cells
        have cc2 := H4I.out.bo.cells
        have cc3 := H4I.out.bx.cells
        have cc4 := H4I.out.by_.cells
        clear h10 SL9
        -- whose the other seat is on the copy
        obtain ⟨hn0, bn0, hnq1, hnq2⟩ : ∃ (h : Hol) (bb : Bool), (q2 ⟨y, o.seat⟩).getD hol0 = h ∧ (q2 ⟨y, o.seat⟩).isSome = bb := ⟨_, _, rfl, rfl⟩
        have hwho2 := fun (V : World) (hK : HK V lo hi t p5 b5 rs ps q2) => who_any hK y o.seat HYO.out HOO.out.seat
        rw [hnq1, hnq2] at hwho2
        unfold holV at hwho2
        have HNQ1 := Lib.hid hnq1
        have HNQ2 := Lib.hid hnq2
        clear hnq1 hnq2
        go_wp2_with fail
        refine (hwho2 _ HCI.out).mono ?_
        rintro e w11 ⟨rfl, h11⟩
        clear hwho2
        clear cc1 cc2 cc3 cc4
        have HSJ := Lib.hid (HSI.out.keep h11)
        have HCJ := Lib.hid (HCI.out.keep h11)
        have H4J := Lib.hid (H4I.out.below h11)
        have HBJ := Lib.hid (HBI.out.trans (h11.mono zI))
        have zJ := HBJ.out.size
        have zzJ := (h11).size
        have WBJ := Lib.hid (WBI.out.below h11 WBI.out.lt)
        have SLJ := Lib.hid (Sl.below SLI.out (h11) ZHI.out)
        have ZHJ := Lib.hid (Nat.le_trans ZHI.out (h11).size)
        have NBJ := Lib.hid (NBI.out.below h11 NBI.out.lt)
        clear HSI HCI H4I HBI WBI SLI ZHI NBI
        clear h11
        have fn := NBJ.out.free
        have cn0 := NBJ.out.cells
        go_upto_region 22 with fail
        refine wp_world (fun V11 => Bx V11 gn #[.string hn0.loc, .int .i64 hn0.pax] 69 ∧ Kb gn w11 V11) ⟨(NBJ.out.put 0 (.string hn0.loc)).put 1 (.int .i64 hn0.pax), (Kb.cell gn w11 0 _).trans (Kb.cell gn _ 1 _)⟩ ?_
        rintro V11 ⟨bn, hk⟩
        have HSK_ := Lib.hid (HSJ.out.kb hk (by omega) (by omega) (by omega))
        have HCK_ := Lib.hid (HCJ.out.kb hk (by omega) (by omega) (by omega))
        have H4K_ := Lib.hid (H4J.out.kb hk (by omega) (by omega) (by omega) (by omega))
        have HBK_ := Lib.hid (hk.below HBJ.out (by omega) zJ)
        have zK_ := HBK_.out.size
        have WBK_ := Lib.hid (WBJ.out.kb hk (by omega))
        have zgnl : w6.heap.size ≤ gn := by omega
        have SLK_ := Lib.hid (Sl.kbx SLJ.out hk zgnl (by omega))
        have ZHK_ := Lib.hid (Nat.le_trans ZHJ.out hk.size)
        have NBK_ := Lib.hid bn
        clear fn cn0 bn hk HSJ HCJ H4J HBJ WBJ SLJ ZHJ NBJ
        have cc1 := H4K_.out.ba.cells
        have cc2 := H4K_.out.bo.cells
        have cc3 := H4K_.out.bx.cells
        have cc4 := H4K_.out.by_.cells
        have cw := WBK_.out.cells
        have cn := NBK_.out.cells
        have hxy := fun u => neq_lg x y u
        have hss := fun u => neq_sit a.seat.row o.seat.row a.seat.let_ o.seat.let_ u
        rw [dec_sit] at hss
        have hnw := fun u => neq_hol hn0.loc hy0.loc hn0.pax hy0.pax u
        have HSD2 : Hid ((⟨x, a.seat⟩ : Hpl) ≠ ⟨y, o.seat⟩ → hn0 = hy0 ∧ bn0 = by0) := fun hne => by
          have h1 : q2 ⟨y, o.seat⟩ = q ⟨y, o.seat⟩ := by
            rcases HCS.out with ⟨_, _, _, h⟩ | ⟨_, h⟩
            · rw [h]
              exact updH_other _ _ _ (fun e => hne e.symm)
            · rw [h]
          rw [← HNQ1.out, ← HNQ2.out, ← HYQ1.out, ← HYQ2.out, h1]
          exact ⟨rfl, rfl⟩
        go_cut [144] (fun u w' => u = .bool false ∧ w' = V11)
        case first =>
          by_cases e1 : x = y
          · rw [decide_eq_true e1] at hxy
            by_cases e2 : a.seat = o.seat
            · rw [decide_eq_true e2] at hss
              clear e1 e2 HSD2
              go_wp2
              go_meet
              exact ⟨rfl, rfl⟩
            · rw [decide_eq_false e2] at hss
              obtain ⟨rfl, rfl⟩ := HSD2.out (fun h => e2 (by injection h))
              rw [decide_eq_true (rfl : (⟨hn0.loc, hn0.pax⟩ : Hol) = ⟨hn0.loc, hn0.pax⟩)] at hnw
              have tby : (bn0 != bn0) = false := by simp
              clear e1 e2 HSD2
              go_wp2
              go_meet
              exact ⟨rfl, rfl⟩
          · rw [decide_eq_false e1] at hxy
            obtain ⟨rfl, rfl⟩ := HSD2.out (fun h => e1 (by injection h))
            rw [decide_eq_true (rfl : (⟨hn0.loc, hn0.pax⟩ : Hol) = ⟨hn0.loc, hn0.pax⟩)] at hnw
            have tby : (bn0 != bn0) = false := by simp
            clear e1 HSD2
            go_wp2
            go_meet
            exact ⟨rfl, rfl⟩
        case rest =>
          obtain ⟨rfl, rfl⟩ := hcut
          clear hxy hss hnw cw cn
          rcases HCS.out with ⟨rfl, hw, hq, rfl⟩ | ⟨hk0, rfl⟩
          · have HEN2 := Lib.hid (HEN.out.cons hq a.hol)
            have HW := Lib.hid hw
            have HQ := Lib.hid hq
            clear hw hq HCS HSD2
            go_wp2_with fail
            refine (hon_any HCK_.out x (⟨x, a.seat⟩ :: E) (by simp; omega) (fun d hd => (HEN2.out.mem d).1 hd)).mono ?_
            rintro e w12 ⟨A12, n12, c12, on12, rfl, hO12, hr12, hm12, h12⟩
            have hl12 : on12.length = n12 := hO12.sl.len
            have hc12 := on_len HEN2.out hr12 hm12
            rw [List.filter_cons_of_pos (by simp), List.length_cons, ← HCNT.out, hl12, hl6] at hc12
            subst hc12
            have hwr : IntKind.i64.wrap ((n6 : Int) + 1) = ((n6 + 1 : Nat) : Int) := by rw [IntKind.wrap_i64]; omega
            have teq : (((n6 + 1 : Nat) : Int) == (n6 : Int) + 1) = true := by simp
            clear cc1 cc2 cc3 cc4
            have HSL := Lib.hid (HSK_.out.keep h12)
            have HCL := Lib.hid (HCK_.out.keep h12)
            have H4L := Lib.hid (H4K_.out.below h12)
            have HBL := Lib.hid (HBK_.out.trans (h12.mono zK_))
            have zL := HBL.out.size
            have zzL := (h12).size
            have WBL := Lib.hid (WBK_.out.below h12 WBK_.out.lt)
            have SLL := Lib.hid (Sl.below SLK_.out (h12) ZHK_.out)
            have ZHL := Lib.hid (Nat.le_trans ZHK_.out (h12).size)
            have NBL := Lib.hid (NBK_.out.below h12 NBK_.out.lt)
            clear HSK_ HCK_ H4K_ HBK_ WBK_ SLK_ ZHK_ NBK_
            have cc1 := H4L.out.ba.cells
            have cc2 := H4L.out.bo.cells
            have cc3 := H4L.out.bx.cells
            have cc4 := H4L.out.by_.cells
            clear h12 hO12 hr12 hm12
            go_wp2_with fail
            refine (free_any HCL.out HR.out x a.seat a.hol HXO.out HAO.out.seat HAO.out.hol).mono ?_
            rintro e w13 h13
            obtain ⟨rfl, hS13, hK13⟩ := h13.is (k := 0) (o := none) (by
              rw [updH_same, HW.out]
              unfold freeF
              rw [if_neg (by decide)]
              simp)
            rw [updH_back _ _ _ HQ.out] at hS13
            have HCM := Lib.hid hS13
            have HSM := Lib.hid (HSL.out.kb hK13 (by omega) (by omega) (by omega))
            have H4M := Lib.hid (H4L.out.kb hK13 (by omega) (by omega) (by omega) (by omega))
            have HBM := Lib.hid (hK13.below HBL.out (by omega) zL)
            have zM := HBM.out.size
            have WBM := Lib.hid (WBL.out.kb hK13 (by omega))
            have SLM := Lib.hid (Sl.kb SLL.out hK13 zlo ZHL.out)
            have ZHM := Lib.hid (Nat.le_trans ZHL.out hK13.size)
            have NBM := Lib.hid (NBL.out.kb hK13 (by omega))
            clear h13 hS13 hK13 HCL HSL H4L HBL WBL SLL ZHL NBL
            clear cc1 cc2 cc3 cc4
            have cc1 := H4M.out.ba.cells
            have cc2 := H4M.out.bo.cells
            have cc3 := H4M.out.bx.cells
            have cc4 := H4M.out.by_.cells
            go_wp2_with fail
            refine (hon_any HCM.out x E (by omega) (fun d hd => (HEN.out.mem d).1 hd)).mono ?_
            rintro e w14 ⟨A14, n14, c14, on14, rfl, hO14, hr14, hm14, h14⟩
            obtain rfl : on14 = on9 := on_eq HR6.out hr14 HM6.out hm14
            obtain rfl : n6 = n14 := by have h1 := hO14.sl.len; omega
            have SL14 := Lib.hid hO14.sl
            clear cc1 cc2 cc3 cc4
            have HSN_ := Lib.hid (HSM.out.keep h14)
            have HCN_ := Lib.hid (HCM.out.keep h14)
            have H4N_ := Lib.hid (H4M.out.below h14)
            have HBN_ := Lib.hid (HBM.out.trans (h14.mono zM))
            have zN_ := HBN_.out.size
            have zzN_ := (h14).size
            have WBN_ := Lib.hid (WBM.out.below h14 WBM.out.lt)
            have SLN_ := Lib.hid (Sl.below SLM.out (h14) ZHM.out)
            have ZHN_ := Lib.hid (Nat.le_trans ZHM.out (h14).size)
            have NBN_ := Lib.hid (NBM.out.below h14 NBM.out.lt)
            clear HSM HCM H4M HBM WBM SLM ZHM NBM
            clear h14 hO14 hr14 hm14
            go_wp2_with fail
            refine (hsame_any on14 A14 n6 c14 A6 c6 w14 _ _ _ _ SL14.out SLN_.out (Nat.le_refl _) ZHN_.out (by omega)).mono ?_
            rintro e w15 ⟨rfl, h15⟩
            have HBP := Lib.hid (HBN_.out.trans (h15.mono zN_))
            clear h15
            go_wp2
            go_ret
            exact ⟨rfl, HBP.out⟩
          · have te : (kk != 0) = true := by simp [hk0]
            clear HCS HSD2
            go_wp2_with fail
            refine (hon_any HCK_.out x E (by omega) (fun d hd => (HEN.out.mem d).1 hd)).mono ?_
            rintro e w14 ⟨A14, n14, c14, on14, rfl, hO14, hr14, hm14, h14⟩
            obtain rfl : on14 = on9 := on_eq HR6.out hr14 HM6.out hm14
            obtain rfl : n6 = n14 := by have h1 := hO14.sl.len; omega
            have SL14 := Lib.hid hO14.sl
            clear cc1 cc2 cc3 cc4
            have HSN_ := Lib.hid (HSK_.out.keep h14)
            have HCN_ := Lib.hid (HCK_.out.keep h14)
            have H4N_ := Lib.hid (H4K_.out.below h14)
            have HBN_ := Lib.hid (HBK_.out.trans (h14.mono zK_))
            have zN_ := HBN_.out.size
            have zzN_ := (h14).size
            have WBN_ := Lib.hid (WBK_.out.below h14 WBK_.out.lt)
            have SLN_ := Lib.hid (Sl.below SLK_.out (h14) ZHK_.out)
            have ZHN_ := Lib.hid (Nat.le_trans ZHK_.out (h14).size)
            have NBN_ := Lib.hid (NBK_.out.below h14 NBK_.out.lt)
            clear HSK_ HCK_ H4K_ HBK_ WBK_ SLK_ ZHK_ NBK_
            clear h14 hO14 hr14 hm14
            go_wp2_with fail
            refine (hsame_any on14 A14 n6 c14 A6 c6 w14 _ _ _ _ SL14.out SLN_.out (Nat.le_refl _) ZHN_.out (by omega)).mono ?_
            rintro e w15 ⟨rfl, h15⟩
            have HBP := Lib.hid (HBN_.out.trans (h15.mono zN_))
            clear h15
            go_wp2
            go_ret
            exact ⟨rfl, HBP.out⟩
end Go.Proofs.YtlkdefmceghmnaaGreat
