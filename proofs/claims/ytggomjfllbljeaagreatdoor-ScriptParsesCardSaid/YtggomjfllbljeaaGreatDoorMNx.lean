/- Put together by program of: Nx1, Nx2, Nx3. -/
import Derived.Test.YtggomjfllbljeaaGreatDoorMNwE
namespace Go.Proofs.YtggomjfllbljeaaGreatDoor
set_option linter.unusedVariables false
open Go Go.RowKit
open Go.Maps
/-- The cells of an empty store. -/
abbrev stC (ar : Int) (l : Nat) : Array Value := #[.slice none 0 0, .int .i64 0, .int .u64 0, .int .i64 1, .int .i64 ar, .pointer (some ⟨l, 0, none⟩), .bool false]
theorem records_0 {W : World} {d l : Nat} {g u : Int} (hl : Bx W l (lgC d g u (.slice none 0 0)) 297) :
    Calls Tryz.prog 104 #[.pointer (some ⟨l, 0, none⟩)] W fun e W' => e = .returned (.slice none 0 0) ∧ W = W' := by
  have c1 := hl.cells
  go_enter Tryz.func104, Tryz.ntmps104
  go_wp2
  go_loop [3, 11] (fun s i => s = .slice none 0 0 ∧ i = .int .i64 0) (fun _ _ => 0)
  case atStart => exact ⟨rfl, rfl⟩
  case round =>
    obtain ⟨rfl, rfl⟩ := hrel
    go_wp2
    go_ret
    exact ⟨rfl, rfl⟩
/-- What opens: a store in new memory, and its log. -/
def RetSO (W : World) (d m : Nat) (n a : Int) (e : Ending) (W' : World) : Prop :=
  ∃ s l, e = .returned (.tuple #[.pointer (some ⟨s, 0, none⟩), .int .i64 0]) ∧ W.heap.size ≤ s ∧ W.heap.size ≤ l ∧ l ≠ s ∧ DkS W' d m n (a - 3) ∧ Bx W' l (lgC d 1 0 (.slice none 0 0)) 297 ∧ Bx W' s (stC ((n - 2) / 2) l) 215 ∧ Kp (Odm d m) W W'
set_option maxRecDepth 100000 in
set_option maxHeartbeats 8000000 in
theorem storeopen_0 {W : World} {d m : Nat} {n a : Int} {g : Value → Option Value} (h : Dk0 W d m n a g) (hdm : d ≠ m) (h0 : -90000 ≤ a) (h1 : a ≤ 90000) :
    Calls Tryz.prog 61 #[.pointer (some ⟨d, 0, none⟩)] W (RetSO W d m n a) := by
  have hd := h.d.lt
  have hm := h.m.size
  go_enter Tryz.func61, Tryz.ntmps61
  go_wp2_with fail
  refine (walopen_0 h hdm h0 h1).mono ?_
  rintro e V1 ⟨l, rfl, hl0, hD, hl, hK⟩
  have HK := Lib.hid hK
  have hz := hK.size
  have hll := hl.lt
  clear h hK
  go_wp2_with fail
  refine (size_any hD.bd).mono ?_
  rintro e V2 ⟨rfl, rfl⟩
  go_wp2_with fail
  refine (area_any n _ (by have := hD.lo; omega) hD.hi).mono ?_
  rintro e V3 ⟨rfl, rfl⟩
  generalize hq : (n - 2) / 2 = qa
  have HQ := Lib.hid hq
  clear hq
  have HB1 := Lib.hid (Bx.new V3 (stC qa l) 215)
  have HB2 := Lib.hid ((Below.refl V3.heap.size V3).alloc (Nat.le_refl _) (.cells (stC qa l) 215))
  go_upto_region 6 with fail
  refine wp_world (fun V => Bx V V3.heap.size (stC qa l) 215 ∧ Below V3.heap.size V3 V) ⟨HB1.out, HB2.out⟩ ?_
  clear HB1 HB2
  rintro V4 ⟨hs4, hb4⟩
  have hl4 := hl.below hb4 hll
  have hD4 := Lib.hid (hD.keep (Kp.of (S := fun _ => False) hb4) (fun h => h) (fun h => h))
  have hK4 := Lib.hid (HK.out.trans (S' := Odm d m) (Kp.of hb4) (fun _ _ e => e))
  clear hl hD
  go_wp2_with fail
  refine (records_0 hl4).mono ?_
  rintro e V5 ⟨rfl, rfl⟩
  go_wp2
  go_loop [33] (fun i => i = .int .i64 0) (fun _ => 0)
  case atStart => rfl
  case round =>
    obtain rfl := hrel
    go_wp2
    go_ret2
    exact ⟨_, l, rfl, by omega, by omega, by omega, hD4.out, hl4, by rw [HQ.out]; exact hs4, hK4.out⟩
theorem range_0 {W : World} {s l : Nat} {ar : Int} (hs : Bx W s (stC ar l) 215) (x y : ByteArray) :
    Calls Tryz.prog 110 #[.pointer (some ⟨s, 0, none⟩), .string x, .string y] W fun e W' => e = .returned (.slice none 0 0) ∧ W = W' := by
  have c1 := hs.cells
  go_enter Tryz.func110, Tryz.ntmps110
  go_wp2
  go_ret
  exact ⟨rfl, rfl⟩
theorem stocknew_any (W : World) (p : Option Addr) : Calls Tryz.prog 107 #[.pointer p] W fun e W' => ∃ q, e = .returned (.pointer q) ∧ Below W.heap.size W W' := by
  have hmm := @run_makeMap Tryz.prog
  go_enter Tryz.func107, Tryz.ntmps107
  go_wp2
  go_ret
  exact ⟨_, rfl, ((Below.refl _ _).alloc (Nat.le_refl _) _).alloc (by simp) _⟩
theorem eqlnil0 (t e : TypeId) (h : Tryz.prog.underlying t = some (.slice e)) (n c : Nat) (u : World) : (binOp .eql t (.slice none n c) (.slice none 0 0)).run Tryz.prog u = .ok (.bool true) u := by
  simp only [binOp]
  simp [Op.equal, Op.maxDepth, Lib.run_equalIn_slice_nil u 9999 t e none n c 0 0 h]
set_option maxRecDepth 100000 in
theorem holdnew_0 (W : World) (p : Option Addr) : Calls Tryz.prog 108 #[.pointer p, .slice none 0 0] W fun e W' => ∃ q, e = .returned (.pointer q) ∧ Below W.heap.size W W' := by
  have hmm := @run_makeMap Tryz.prog
  have he := eqlnil0 _ _ Tryz.underlying83 0 0
  go_enter Tryz.func108, Tryz.ntmps108
  go_wp2
  go_ret
  exact ⟨_, rfl, ((Below.refl _ _).alloc (Nat.le_refl _) _).alloc (by simp) _⟩
theorem duenew_any (W : World) : Calls Tryz.prog 109 #[] W fun e W' => ∃ q mp, e = .returned (.pointer (some ⟨q, 0, none⟩)) ∧ W.heap.size ≤ q ∧ Bx W' q #[.slice none 0 0, .map mp] 322 ∧ Below W.heap.size W W' := by
  have h := Bx.new (W.alloc (.map #[] 0)) #[.slice none 0 0, .map (some W.heap.size)] 322
  have HH := Lib.hid h
  clear h
  have hmm := @run_makeMap Tryz.prog
  go_enter Tryz.func109, Tryz.ntmps109
  go_wp2
  go_ret
  exact ⟨_, _, rfl, by simp, by simpa using HH.out, ((Below.refl _ _).alloc (Nat.le_refl _) _).alloc (by simp) _⟩
/-- The cells of a state. -/
abbrev xC (s pn qs : Nat) (k bk : Value) (now : Int) (du : Nat) : Array Value := #[.pointer (some ⟨s, 0, none⟩), .map (some pn), .map (some qs), k, bk, .int .i64 0, .int .i64 now, .pointer (some ⟨du, 0, none⟩)]
/-- What opens: a state in new memory. -/
def RetXO (W : World) (s : Nat) (e : Ending) (W' : World) : Prop :=
  ∃ x pn qs k bk du mp, e = .returned (.tuple #[.pointer (some ⟨x, 0, none⟩), .int .i64 0]) ∧ W.heap.size ≤ x ∧ W.heap.size ≤ du ∧ x ≠ du ∧ Bx W' x (xC s pn qs k bk 0 du) 231 ∧ Bx W' du #[.slice none 0 0, .map mp] 322 ∧ Below W.heap.size W W'
set_option maxRecDepth 100000 in
set_option maxHeartbeats 8000000 in
theorem settleopen_0 {W : World} {s l : Nat} {ar : Int} (p : Option Addr) (hs : Bx W s (stC ar l) 215) :
    Calls Tryz.prog 62 #[.pointer p, .slice none 0 0, .pointer (some ⟨s, 0, none⟩)] W (RetXO W s) := by
  have hmm := @run_makeMap Tryz.prog
  have hsl := hs.lt
  have hb1 : Below W.heap.size W ((W.alloc (.map #[] 0)).alloc (.map #[] 0)) := ((Below.refl _ _).alloc (Nat.le_refl _) _).alloc (by simp) _
  go_enter Tryz.func62, Tryz.ntmps62
  go_wp2_with fail
  refine (stocknew_any _ _).mono ?_
  rintro e V1 ⟨q, rfl, hb⟩
  have hb2 : Below W.heap.size W V1 := hb1.trans (hb.mono (by simp; omega))
  have hz2 := hb2.size
  clear hb hb1
  go_wp2_with fail
  refine (holdnew_0 _ _).mono ?_
  rintro e V2 ⟨bk, rfl, hb⟩
  have hb3 : Below W.heap.size W V2 := hb2.trans (hb.mono hz2)
  have hz3 := hb3.size
  clear hb hb2
  go_wp2_with fail
  refine (duenew_any _).mono ?_
  rintro e V3 ⟨du, mp, rfl, hdu, hbd, hb⟩
  have hb4 : Below W.heap.size W V3 := hb3.trans (hb.mono hz3)
  have hz4 := hb4.size
  have hdl := hbd.lt
  clear hb hb3
  have HX1 := Lib.hid (Bx.new V3 (xC s W.heap.size (W.heap.size + 1) (.pointer q) (.pointer bk) 0 du) 231)
  have HX2 := Lib.hid (hb4.alloc hz4 (.cells (xC s W.heap.size (W.heap.size + 1) (.pointer q) (.pointer bk) 0 du) 231))
  go_upto_region 2 with fail
  refine wp_world (fun V => Bx V V3.heap.size (xC s W.heap.size (W.heap.size + 1) (.pointer q) (.pointer bk) 0 du) 231 ∧ Bx V du #[.slice none 0 0, .map mp] 322 ∧ Below W.heap.size W V) ⟨HX1.out, hbd.alloc _, HX2.out⟩ ?_
  clear HX1 HX2 hmm
  rintro V4 ⟨hx4, hd4, hb5⟩
  go_wp2_with fail
  refine (range_0 (hs.below hb5 hsl) _ _).mono ?_
  rintro e V5 ⟨rfl, rfl⟩
  go_wp2
  go_loop [25] (fun i => i = .int .i64 0) (fun _ => 0)
  case atStart => rfl
  case round =>
    obtain rfl := hrel
    go_wp2
    go_ret2
    exact ⟨_, _, _, _, _, du, mp, rfl, by omega, by omega, by omega, hx4, hd4, hb5⟩
end Go.Proofs.YtggomjfllbljeaaGreatDoor
namespace Go.Proofs.YtggomjfllbljeaaGreatDoor
set_option linter.unusedVariables false
open Go Go.RowKit
open Go.Maps
set_option maxRecDepth 100000 in
set_option maxHeartbeats 4000000 in
theorem len64_0 (W : World) : Calls Tryz.prog 166 #[.int .u64 0] W fun e W' => e = .returned (.int .i64 0) ∧ W = W' := by
  have h8 : Lib.len8 0 = 0 := by decide +kernel
  go_enter Tryz.func166, Tryz.ntmps166
  go_wp2
  go_ret
  exact ⟨by first | rfl | (simp [h8, wrap64]; done) | (simp [h8]; decide), rfl⟩
set_option maxRecDepth 100000 in
theorem len_0 (W : World) : Calls Tryz.prog 97 #[.int .u64 0] W fun e W' => e = .returned (.int .i64 0) ∧ W = W' := by
  go_enter Tryz.func97, Tryz.ntmps97
  go_wp2_with fail
  refine (len64_0 _).mono ?_
  rintro e V ⟨rfl, rfl⟩
  go_wp2
  go_ret
  exact ⟨rfl, rfl⟩
def RetV (W : World) (e : Ending) (W' : World) : Prop := e = .returned (.tuple #[]) ∧ W = W'
set_option maxRecDepth 100000 in
theorem insert_0 (W : World) (f : Value) : Calls Tryz.prog 157 #[.slice none 0 0, .int .i64 0, .int .i64 0, f] W (RetV W) := by
  go_enter Tryz.func157, Tryz.ntmps157
  go_wp2
  go_loop [8] (fun i => i = .int .i64 1) (fun _ => 0)
  case atStart => rfl
  case round =>
    obtain rfl := hrel
    go_wp2
    first | refine bodyPost_ret (results_none rfl _ _ _) rfl ?_ | refine bodyPost_end (results_none rfl _ _ _) rfl ?_
    exact ⟨rfl, rfl⟩
set_option maxRecDepth 100000 in
set_option maxHeartbeats 4000000 in
theorem pdq_0 (W : World) (f : Value) : Calls Tryz.prog 96 #[.slice none 0 0, .int .i64 0, .int .i64 0, .int .i64 0, f] W (RetV W) := by
  go_enter Tryz.func96, Tryz.ntmps96
  go_wp2
  go_loop [1, 2] (fun a b => a = .int .i64 0 ∧ b = .int .i64 0) (fun _ _ => 0)
  case atStart => exact ⟨rfl, rfl⟩
  case round =>
    obtain ⟨rfl, rfl⟩ := hrel
    go_wp2_with fail
    refine (insert_0 _ _).mono ?_
    rintro e V ⟨rfl, rfl⟩
    go_wp2
    first | refine bodyPost_ret (results_none rfl _ _ _) rfl ?_ | refine bodyPost_end (results_none rfl _ _ _) rfl ?_
    exact ⟨rfl, rfl⟩
set_option maxRecDepth 100000 in
theorem sort_0 (W : World) (f : Value) : Calls Tryz.prog 59 #[.slice none 0 0, f] W (RetV W) := by
  go_enter Tryz.func59, Tryz.ntmps59
  go_wp2_with fail
  refine (len_0 _).mono ?_
  rintro e V ⟨rfl, rfl⟩
  go_wp2_with fail
  refine (pdq_0 _ _).mono ?_
  rintro e V ⟨rfl, rfl⟩
  go_wp2
  first | refine bodyPost_ret (results_none rfl _ _ _) rfl ?_ | refine bodyPost_end (results_none rfl _ _ _) rfl ?_
  exact ⟨rfl, rfl⟩
/-- A pointer, and no error, out of new memory. -/
def RetPE (W : World) (e : Ending) (W' : World) : Prop := ∃ q, e = .returned (.tuple #[.pointer q, .int .i64 0]) ∧ Below W.heap.size W W'
set_option maxRecDepth 100000 in
set_option maxHeartbeats 4000000 in
theorem flightnew_0 (W : World) : Calls Tryz.prog 36 #[.slice none 0 0] W (RetPE W) := by
  have hmm := @run_makeMap Tryz.prog
  have hb := Bx.new (W.alloc (.map #[] 0)) #[.map (some W.heap.size), .slice none 0 0] 126
  have hB : Below W.heap.size W ((W.alloc (.map #[] 0)).alloc (.cells #[.map (some W.heap.size), .slice none 0 0] 126)) := ((Below.refl _ _).alloc (Nat.le_refl _) _).alloc (by simp) _
  rw [World.size_alloc] at hb
  go_enter Tryz.func36, Tryz.ntmps36
  go_upto_region 4 with fail
  refine wp_world (fun V => Bx V (W.heap.size + 1) #[.map (some W.heap.size), .slice none 0 0] 126 ∧ Below W.heap.size W V) ⟨hb, hB⟩ ?_
  clear hb hB hmm
  rintro V ⟨hb, hB⟩
  have c1 := hb.cells
  go_wp2
  go_loop [20] (fun i => i = .int .i64 0) (fun _ => 0)
  case atStart => rfl
  case round =>
    obtain rfl := hrel
    go_wp2_with fail
    refine (sort_0 _ _).mono ?_
    rintro e V2 ⟨rfl, rfl⟩
    go_wp2
    go_loop [51] (fun i => i = .int .i64 0) (fun _ => 0)
    case atStart => rfl
    case round =>
      obtain rfl := hrel
      go_wp2
      go_ret2
      exact ⟨_, rfl, hB⟩
/-- A new disk. -/
def RetDk (W : World) (n : Int) (e : Ending) (W' : World) : Prop :=
  ∃ d m, e = .returned (.tuple #[.pointer (some ⟨d, 0, none⟩), .int .i64 0]) ∧ W.heap.size ≤ d ∧ W.heap.size ≤ m ∧ d ≠ m ∧ Dk0 W' d m n 0 (fun _ => none) ∧ Below W.heap.size W W'
set_option maxRecDepth 100000 in
theorem disknew_any (W : World) (n : Int) (h0 : 4 ≤ n) (h1 : n ≤ 4096) : Calls Tryz.prog 37 #[.int .i64 n] W (RetDk W n) := by
  have hmm := @run_makeMap Tryz.prog
  have h := Bx.new (W.alloc (.map #[] 0)) (dkC n W.heap.size (.slice none 0 0) 0) 139
  have hm : MpD ((W.alloc (.map #[] 0)).alloc (.cells (dkC n W.heap.size (.slice none 0 0) 0) 139)) W.heap.size (fun _ => none) := (Mp.made W).alloc _
  have hB : Below W.heap.size W ((W.alloc (.map #[] 0)).alloc (.cells (dkC n W.heap.size (.slice none 0 0) 0) 139)) := ((Below.refl _ _).alloc (Nat.le_refl _) _).alloc (by simp) _
  rw [World.size_alloc] at h
  have H := Lib.hid (show RetDk W n (.returned (.tuple #[.pointer (some ⟨W.heap.size + 1, 0, none⟩), .int .i64 0])) _ from ⟨_, _, rfl, by omega, Nat.le_refl _, by omega, ⟨h, hm, fun _ => rfl, h0, h1⟩, hB⟩)
  have t0 : ¬ n < 1 := by omega
  have t1 : ¬ 4096 < n := by omega
  clear h hm hB
  go_enter Tryz.func37, Tryz.ntmps37
  go_wp2
  go_ret2
  exact H.out
end Go.Proofs.YtggomjfllbljeaaGreatDoor
namespace Go.Proofs.YtggomjfllbljeaaGreatDoor
set_option linter.unusedVariables false
open Go Go.RowKit
open Go.Maps
/-- The cells of a host. -/
abbrev hC (t : Value) (d : Nat) (s x : Value) (st : Nat) : Array Value := #[.int .i64 0, .slice none 0 0, .slice none 0 0, .int .i64 0, t, .slice none 0 0, .pointer (some ⟨d, 0, none⟩), s, x, .slice (some ⟨st, 0, none⟩) 1 1, .bool false]
/-- The cells of an empty terminal: an area, lines, a page. -/
def arZ : Array Value := #[.string ⟨#[]⟩, .string ⟨#[]⟩, .bool false, .string ⟨#[]⟩, .string ⟨#[]⟩, .slice none 0 0, .slice none 0 0, .slice none 0 0, .int .i64 0, .int .i64 0, .int .i64 0, .string ⟨#[]⟩, .slice none 0 0, .slice none 0 0, .bool false, .int .u64 0, .slice none 0 0, .slice none 0 0, .bool false, .int .i64 0]
def tmZ : Array Value := arZ ++ #[.slice none 0 0, .int .i64 0]
theorem mk_term (W : World) : (Instr.makeSlice 81 (.int .i64 1) (.int .i64 1)).run Tryz.prog W = .ok (.slice (some ⟨W.heap.size, 0, none⟩) 1 1) (W.alloc (.cells tmZ 179)) := by
  obtain ⟨i, hi, h0, h1, h2⟩ := info_parts (show (Tryz.prog.info? 179).map (fun i => (i.zero, i.size, i.bytes)) = some (some (.agg tmZ), 22, 344) by kernel_rfl)
  have := run_makeSlice (P := Tryz.prog) W 81 179 i (.agg tmZ) Tryz.underlying81 hi h0 .i64 .i64 1 1 (by omega) (by omega) (by rw [h1]; decide) (by rw [h2]; decide) (by omega)
  rw [this, h1]
  have e : madeCells (Value.agg tmZ).cells (Int.toNat 1 * 22) = tmZ := by kernel_rfl
  rw [e]
  rfl
/-- A host in new memory: its blocks. -/
structure HW (W : World) (h d m s l x du st : Nat) (a : Int) : Prop where
  hb : ∃ t, Bx W h (hC t d (.pointer (some ⟨s, 0, none⟩)) (.pointer (some ⟨x, 0, none⟩)) st) 88
  dk : DkS W d m 20 a
  sb : Bx W s (stC 9 l) 215
  lb : Bx W l (lgC d 1 0 (.slice none 0 0)) 297
  xb : ∃ pn qs k bk, Bx W x (xC s pn qs k bk 0 du) 231
  db : ∃ mp, Bx W du #[.slice none 0 0, .map mp] 322
  tb : Bx W st tmZ 179
  nod : [h, d, m, s, l, x, du, st].Nodup
/-- What New hands back. -/
def RetHN (W : World) (e : Ending) (W' : World) : Prop :=
  ∃ h d m s l x du st, e = .returned (.tuple #[.pointer (some ⟨h, 0, none⟩), .int .i64 0]) ∧ HW W' h d m s l x du st (-3) ∧ (∀ k ∈ [h, d, m, s, l, x, du, st], W.heap.size ≤ k) ∧ Below W.heap.size W W'
/-- What the opening of a host's disk leaves. -/
def RetOp (W : World) (h d m st : Nat) (t : Value) (e : Ending) (W' : World) : Prop :=
  ∃ s l x du pn qs k bk mp, e = .returned (.int .i64 0) ∧ Bx W' h (hC t d (.pointer (some ⟨s, 0, none⟩)) (.pointer (some ⟨x, 0, none⟩)) st) 88 ∧ DkS W' d m 20 (-3) ∧ Bx W' s (stC 9 l) 215 ∧ Bx W' l (lgC d 1 0 (.slice none 0 0)) 297 ∧ Bx W' x (xC s pn qs k bk 0 du) 231 ∧ Bx W' du #[.slice none 0 0, .map mp] 322 ∧
    (∀ j ∈ [s, l, x, du], W.heap.size ≤ j) ∧ [s, l, x, du].Nodup ∧ Kp (fun j => j = h ∨ j = d ∨ j = m) W W'
set_option maxRecDepth 100000 in
set_option maxHeartbeats 8000000 in
theorem hostopen_0 {W : World} {h d m st : Nat} {p : Option Addr} (hh : Bx W h (hC (.pointer p) d (.pointer none) (.pointer none) st) 88) (hd : Dk0 W d m 20 0 (fun _ => none)) (hdm : d ≠ m) (hhd : h ≠ d) (hhm : h ≠ m) :
    Calls Tryz.prog 38 #[.pointer (some ⟨h, 0, none⟩)] W (RetOp W h d m st (.pointer p)) := by
  have c1 := hh.cells
  have hhl := hh.lt
  go_enter Tryz.func38, Tryz.ntmps38
  go_wp2_with fail
  refine (storeopen_0 hd hdm (by omega) (by omega)).mono ?_
  rintro e V1 ⟨s, l, rfl, hs0, hl0, hls, hD, hl, hs, hK⟩
  have hh1 := hK.bx hh (by rintro (e | e) <;> omega)
  have hz1 := hK.size
  have hsl := hs.lt
  have hll := hl.lt
  have e9 : ((20 : Int) - 2) / 2 = 9 := by decide
  rw [e9] at hs
  have e3 : (0 : Int) - 3 = -3 := by decide
  rw [e3] at hD
  clear c1 hh e9 e3
  go_upto_region 4 with fail
  have HXO := Lib.hid (fun (V : World) (hV : Bx V s (stC 9 l) 215) => settleopen_0 p hV)
  have HD1 := Lib.hid hD
  have HK1 := Lib.hid hK
  clear hD hK
  refine wp_region_held_drew (S := fun w => Bx w h (hC (.pointer p) d (.pointer none) (.pointer none) st) 88) (by kernel_rfl) hh1 (fun hS => ?_)
  refine tk (i := 0) (oi := { dst := some 18, op := .move (.tmp 0), type := 49, pos := "host.go:78", after := #[], guard := none }) (v := ?_) ?_ hS ?_
  rotate_left
  · intro w9 hS9; have q1 := hS9.cells; go_simp; try with_reducible rfl
  try simp only [Act.put]
  try simp only [List.setIfInBounds_toArray]
  try simp only [List.set_cons_zero]
  try simp only [List.set_cons_succ]
  try simp only [List.set_cons_zero]
  refine tk (i := 1) (oi := { dst := some 19, op := .nilCheck (.tmp 18), type := 0, pos := "host.go:78", after := #[⟨0, .data⟩], guard := none }) (v := ?_) ?_ hS ?_
  rotate_left
  · intro w9 hS9; have q1 := hS9.cells; go_simp; try with_reducible rfl
  try simp only [Act.put]
  try simp only [List.setIfInBounds_toArray]
  try simp only [List.set_cons_zero]
  try simp only [List.set_cons_succ]
  try simp only [List.set_cons_zero]
  refine tk (i := 2) (oi := { dst := some 20, op := .fieldAddr 88 (.tmp 19) 1, type := 0, pos := "host.go:78", after := #[⟨1, .data⟩], guard := none }) (v := ?_) ?_ hS ?_
  rotate_left
  · intro w9 hS9; have q1 := hS9.cells; go_simp; try with_reducible rfl
  try simp only [Act.put]
  try simp only [List.setIfInBounds_toArray]
  try simp only [List.set_cons_zero]
  try simp only [List.set_cons_succ]
  try simp only [List.set_cons_zero]
  refine tk (i := 3) (oi := { dst := some 21, op := .load 82 (.tmp 20), type := 82, pos := "host.go:78", after := #[⟨2, .data⟩], guard := none }) (v := ?_) ?_ hS ?_
  rotate_left
  · intro w9 hS9; have q1 := hS9.cells; go_simp; try with_reducible rfl
  try simp only [Act.put]
  try simp only [List.setIfInBounds_toArray]
  try simp only [List.set_cons_zero]
  try simp only [List.set_cons_succ]
  try simp only [List.set_cons_zero]
  refine tk (i := 4) (oi := { dst := some 22, op := .move (.tmp 0), type := 49, pos := "host.go:78", after := #[], guard := none }) (v := ?_) ?_ hS ?_
  rotate_left
  · intro w9 hS9; have q1 := hS9.cells; go_simp; try with_reducible rfl
  try simp only [Act.put]
  try simp only [List.setIfInBounds_toArray]
  try simp only [List.set_cons_zero]
  try simp only [List.set_cons_succ]
  try simp only [List.set_cons_zero]
  refine tk (i := 5) (oi := { dst := some 23, op := .nilCheck (.tmp 22), type := 0, pos := "host.go:78", after := #[⟨4, .data⟩], guard := none }) (v := ?_) ?_ hS ?_
  rotate_left
  · intro w9 hS9; have q1 := hS9.cells; go_simp; try with_reducible rfl
  try simp only [Act.put]
  try simp only [List.setIfInBounds_toArray]
  try simp only [List.set_cons_zero]
  try simp only [List.set_cons_succ]
  try simp only [List.set_cons_zero]
  refine tk (i := 6) (oi := { dst := some 24, op := .fieldAddr 88 (.tmp 23) 2, type := 0, pos := "host.go:78", after := #[⟨5, .data⟩], guard := none }) (v := ?_) ?_ hS ?_
  rotate_left
  · intro w9 hS9; have q1 := hS9.cells; go_simp; try with_reducible rfl
  try simp only [Act.put]
  try simp only [List.setIfInBounds_toArray]
  try simp only [List.set_cons_zero]
  try simp only [List.set_cons_succ]
  try simp only [List.set_cons_zero]
  refine tk (i := 7) (oi := { dst := some 25, op := .load 83 (.tmp 24), type := 83, pos := "host.go:78", after := #[⟨6, .data⟩], guard := none }) (v := ?_) ?_ hS ?_
  rotate_left
  · intro w9 hS9; have q1 := hS9.cells; go_simp; try with_reducible rfl
  try simp only [Act.put]
  try simp only [List.setIfInBounds_toArray]
  try simp only [List.set_cons_zero]
  try simp only [List.set_cons_succ]
  try simp only [List.set_cons_zero]
  refine tk (i := 8) (oi := { dst := some 26, op := .move (.tmp 3), type := 85, pos := "host.go:78", after := #[], guard := none }) (v := ?_) ?_ hS ?_
  rotate_left
  · intro w9 hS9; have q1 := hS9.cells; go_simp; try with_reducible rfl
  try simp only [Act.put]
  try simp only [List.setIfInBounds_toArray]
  try simp only [List.set_cons_zero]
  try simp only [List.set_cons_succ]
  try simp only [List.set_cons_zero]
  refine wpAnyH_ready (rs := [9]) (by kernel_rfl) (by simp) ?_
  refine AllReadyH.cons (o := { dst := some 27, op := .call { callee := .value (.func 62), args := #[.tmp 21, .tmp 25, .tmp 26], argTypes := #[82, 83, 85] }, type := 142, pos := "host.go:78", after := #[⟨3, .data⟩, ⟨7, .data⟩, ⟨8, .data⟩], guard := none }) rfl (fun K9 hK9 => ?_) AllReadyH.nil
  go_simp
  refine (HXO.out V1.drew hs).mono ?_
  rintro e V2 ⟨x, pn, qs, k, bk, du, mp, rfl, hx0, hdu0, hxd, hx, hdu, hb2⟩
  have hh2 := Bx.below (w := V1.drew) hh1 hb2 hh1.lt
  refine hK9.out _ _ hh2 (fun hS => ?_)
  clear hK9 K9
  try simp only [Act.put]
  try simp only [List.setIfInBounds_toArray]
  try simp only [List.set_cons_zero]
  try simp only [List.set_cons_succ]
  try simp only [List.set_cons_zero]
  refine tk (i := 10) (oi := { dst := some 17, op := .move (.tmp 27), type := 142, pos := "host.go:78", after := #[⟨9, .data⟩], guard := none }) (v := ?_) ?_ hS ?_
  rotate_left
  · intro w9 hS9; have q1 := hS9.cells; go_simp; try with_reducible rfl
  try simp only [Act.put]
  try simp only [List.setIfInBounds_toArray]
  try simp only [List.set_cons_zero]
  try simp only [List.set_cons_succ]
  try simp only [List.set_cons_zero]
  refine tk (i := 11) (oi := { dst := some 28, op := .extract (.tmp 17) 0, type := 86, pos := "host.go:78", after := #[⟨10, .data⟩], guard := none }) (v := ?_) ?_ hS ?_
  rotate_left
  · intro w9 hS9; have q1 := hS9.cells; go_simp; try with_reducible rfl
  try simp only [Act.put]
  try simp only [List.setIfInBounds_toArray]
  try simp only [List.set_cons_zero]
  try simp only [List.set_cons_succ]
  try simp only [List.set_cons_zero]
  refine tk (i := 12) (oi := { dst := some 29, op := .extract (.tmp 17) 1, type := 26, pos := "host.go:78", after := #[⟨10, .data⟩, ⟨13, .gcOnly .lateStores⟩], guard := none }) (v := ?_) ?_ hS ?_
  rotate_left
  · intro w9 hS9; have q1 := hS9.cells; go_simp; try with_reducible rfl
  try simp only [Act.put]
  try simp only [List.setIfInBounds_toArray]
  try simp only [List.set_cons_zero]
  try simp only [List.set_cons_succ]
  try simp only [List.set_cons_zero]
  refine tk (i := 13) (oi := { dst := some 5, op := .assign (.tmp 28), type := 86, pos := "host.go:78", after := #[⟨11, .data⟩, ⟨9, .chain⟩, ⟨0, .phase⟩, ⟨1, .phase⟩, ⟨2, .phase⟩, ⟨3, .phase⟩, ⟨4, .phase⟩, ⟨5, .phase⟩, ⟨6, .phase⟩, ⟨7, .phase⟩, ⟨8, .phase⟩, ⟨9, .phase⟩, ⟨10, .phase⟩, ⟨11, .phase⟩, ⟨12, .textOnly .lateStores⟩], guard := none }) (v := ?_) ?_ hS ?_
  rotate_left
  · intro w9 hS9; have q1 := hS9.cells; go_simp; try with_reducible rfl
  try simp only [Act.put]
  try simp only [List.setIfInBounds_toArray]
  try simp only [List.set_cons_zero]
  try simp only [List.set_cons_succ]
  try simp only [List.set_cons_zero]
  refine tk (i := 14) (oi := { dst := some 4, op := .assign (.tmp 29), type := 26, pos := "host.go:78", after := #[⟨12, .data⟩, ⟨13, .chain⟩, ⟨0, .phase⟩, ⟨1, .phase⟩, ⟨2, .phase⟩, ⟨3, .phase⟩, ⟨4, .phase⟩, ⟨5, .phase⟩, ⟨6, .phase⟩, ⟨7, .phase⟩, ⟨8, .phase⟩, ⟨9, .phase⟩, ⟨10, .phase⟩, ⟨11, .phase⟩, ⟨12, .phase⟩, ⟨13, .phase⟩], guard := none }) (v := ?_) ?_ hS ?_
  rotate_left
  · intro w9 hS9; have q1 := hS9.cells; go_simp; try with_reducible rfl
  try simp only [Act.put]
  try simp only [List.setIfInBounds_toArray]
  try simp only [List.set_cons_zero]
  try simp only [List.set_cons_succ]
  try simp only [List.set_cons_zero]
  refine wpAnyH_done (by kernel_rfl) ?_ _
  have hK2 : Kp (fun j => j = h ∨ j = d ∨ j = m) W V2 := (HK1.out.drew.mono (S' := fun j => j = h ∨ j = d ∨ j = m) (fun b e => .inr e)).trans (S' := fun _ => False) (Kp.of hb2) (fun _ _ e => e.elim)
  have hD2 : DkS V2 d m 20 (-3) := (HD1.out.keep ((Kp.refl (fun _ => False) V1).drew) (fun h => h) (fun h => h)).keep (Kp.of (S := fun _ => False) hb2) (fun h => h) (fun h => h)
  have hs2 := Bx.below (w := V1.drew) hs hb2 hs.lt
  have hl2 := Bx.below (w := V1.drew) hl hb2 hl.lt
  have hdd := hD2.bd
  have hhlt : h < V1.heap.size := hh1.lt
  have hx0' : V1.heap.size ≤ x := hx0
  have hdu0' : V1.heap.size ≤ du := hdu0
  have c2 := hh2.cells
  have f2 := hh2.free
  have H9 := (hh2.put 7 (.pointer (some ⟨s, 0, none⟩))).put 8 (.pointer (some ⟨x, 0, none⟩))
  have HD9 := Lib.hid hD2
  clear hD2 hdd
  go_wp2
  go_ret
  have q1 : Kp (fun j => j = h) V2 ((V2.setCell ⟨h, 7, none⟩ (.pointer (some ⟨s, 0, none⟩))).setCell ⟨h, 8, none⟩ (.pointer (some ⟨x, 0, none⟩))) := ((Kp.refl (fun j => j = h) V2).set (p := ⟨h, 7, none⟩) rfl _).set (p := ⟨h, 8, none⟩) rfl _
  refine ⟨s, l, x, du, pn, qs, k, bk, mp, rfl, H9, HD9.out.keep q1 (fun e => hhd e.symm) (fun e => hhm e.symm), q1.bx hs2 (by omega), q1.bx hl2 (by omega), q1.bx hx (by omega), q1.bx hdu (by omega), ?_, ?_, hK2.trans (S' := fun j => j = h) q1 (fun _ _ e => .inl e)⟩
  · intro j hj
    simp only [List.mem_cons, List.mem_nil_iff, or_false] at hj
    omega
  · simp only [List.nodup_cons, List.mem_cons, List.mem_nil_iff, or_false, not_or, List.nodup_nil, and_true, not_false_eq_true]
    omega
abbrev cfC : Array Value := #[.int .i64 20, .slice none 0 0, .slice none 0 0, .int .i64 1]
set_option maxRecDepth 100000 in
set_option maxHeartbeats 8000000 in
theorem hostnew_0 (W : World) : Calls Tryz.prog 19 #[.agg cfC] W (RetHN W) := by
  have hmt := mk_term
  have hB1 := Lib.hid (Bx.new W cfC 40)
  have hB2 := Lib.hid ((Below.refl W.heap.size W).alloc (Nat.le_refl _) (.cells cfC 40))
  have hT := Lib.hid (Bx.new (W.alloc (.cells cfC 40)) tmZ 179)
  have hH := Lib.hid (Bx.new ((W.alloc (.cells cfC 40)).alloc (.cells tmZ 179)) #[.int .i64 0, .slice none 0 0, .slice none 0 0, .int .i64 0, .pointer none, .slice none 0 0, .pointer none, .pointer none, .pointer none, .slice (some ⟨W.heap.size + 1, 0, none⟩) 1 1, .bool false] 88)
  go_enter Tryz.func19, Tryz.ntmps19
  go_upto_region 6 with fail
  refine wp_world (fun V => Bx V W.heap.size cfC 40 ∧ Bx V (W.heap.size + 1) tmZ 179 ∧ Bx V (W.heap.size + 1 + 1) #[.int .i64 0, .slice none 0 0, .slice none 0 0, .int .i64 0, .pointer none, .slice none 0 0, .pointer none, .pointer none, .pointer none, .slice (some ⟨W.heap.size + 1, 0, none⟩) 1 1, .bool false] 88 ∧ Below W.heap.size W V) ⟨(hB1.out.alloc _).alloc _, ?_, ?_, ?_⟩ ?_
  · have := hT.out.alloc (.cells #[.int .i64 0, .slice none 0 0, .slice none 0 0, .int .i64 0, .pointer none, .slice none 0 0, .pointer none, .pointer none, .pointer none, .slice (some ⟨W.heap.size + 1, 0, none⟩) 1 1, .bool false] 88)
    rw [World.size_alloc] at this
    exact this
  · have := hH.out
    rw [World.size_alloc, World.size_alloc] at this
    exact this
  · exact (hB2.out.alloc (by simp) _).alloc (by simp; omega) _
  clear hmt hB1 hB2 hT hH
  rintro V1 ⟨bc, bt, bh, hb1⟩
  have c1 := bc.cells
  have z1 := bh.lt
  go_wp2
  go_loop [34] (fun i => i = .int .i64 0) (fun _ => 0)
  case atStart => rfl
  case round =>
    obtain rfl := hrel
    go_wp2_with fail
    refine (flightnew_0 _).mono ?_
    rintro e V2 ⟨q, rfl, hb2⟩
    have bc2 := bc.below hb2 (by omega)
    have bt2 := bt.below hb2 (by omega)
    have bh2 := bh.below hb2 (by omega)
    have hbb2 : Below W.heap.size W V2 := hb1.trans (hb2.mono (by omega))
    clear c1 bc bt bh hb1 hb2
    have c2 := bh2.cells
    have f2 := bh2.free
    have c1 := bc2.cells
    have BH3 := Lib.hid (bh2.put 4 (.pointer q))
    have BC3 := Lib.hid (bc2.other (p := ⟨W.heap.size + 1 + 1, 4, none⟩) (by simp; omega) (.pointer q))
    have BT3 := Lib.hid (bt2.other (p := ⟨W.heap.size + 1 + 1, 4, none⟩) (by simp) (.pointer q))
    have HB3 := Lib.hid (hbb2.setCell (p := ⟨W.heap.size + 1 + 1, 4, none⟩) (by show W.heap.size ≤ W.heap.size + 1 + 1; omega) (.pointer q))
    go_upto_region 21 with fail
    refine wp_world (fun V => Bx V W.heap.size cfC 40 ∧ Bx V (W.heap.size + 1) tmZ 179 ∧ Bx V (W.heap.size + 1 + 1) #[.int .i64 0, .slice none 0 0, .slice none 0 0, .int .i64 0, .pointer q, .slice none 0 0, .pointer none, .pointer none, .pointer none, .slice (some ⟨W.heap.size + 1, 0, none⟩) 1 1, .bool false] 88 ∧ Below W.heap.size W V) ⟨BC3.out, BT3.out, BH3.out, HB3.out⟩ ?_
    clear c1 c2 f2 bc2 bt2 bh2 hbb2 BH3 BC3 BT3 HB3
    rintro V3 ⟨bc, bt, bh, hb3⟩
    have c1 := bc.cells
    have z3 := bh.lt
    go_wp2_with fail
    refine (disknew_any _ 20 (by omega) (by omega)).mono ?_
    rintro e V4 ⟨d, m, rfl, hd0, hm0, hdm, hD, hb4⟩
    have bt4 := bt.below hb4 (by omega)
    have bh4 := bh.below hb4 (by omega)
    have hbb4 : Below W.heap.size W V4 := hb3.trans (hb4.mono (by omega))
    clear c1 bc bt bh hb3 hb4
    have c2 := bh4.cells
    have f2 := bh4.free
    have BH5 := Lib.hid (bh4.put 6 (.pointer (some ⟨d, 0, none⟩)))
    have hk5 : Kp (fun j => j = W.heap.size + 1 + 1) V4 (V4.setCell ⟨W.heap.size + 1 + 1, 6, none⟩ (.pointer (some ⟨d, 0, none⟩))) := (Kp.refl (fun j => j = W.heap.size + 1 + 1) V4).set (p := ⟨W.heap.size + 1 + 1, 6, none⟩) rfl _
    have BT5 := Lib.hid (hk5.bx bt4 (by omega))
    have HB5 := Lib.hid (hbb4.setCell (p := ⟨W.heap.size + 1 + 1, 6, none⟩) (by show W.heap.size ≤ W.heap.size + 1 + 1; omega) (.pointer (some ⟨d, 0, none⟩)))
    have HD5 := Lib.hid (show Dk0 (V4.setCell ⟨W.heap.size + 1 + 1, 6, none⟩ (.pointer (some ⟨d, 0, none⟩))) d m 20 0 (fun _ => none) from ⟨hk5.bx hD.d (by omega), hD.m.keep (hk5.block m hD.m.size (by omega)), hD.g, hD.lo, hD.hi⟩)
    have hdl := hD.d.lt
    have hml := hD.m.size
    clear hD bt4 hbb4 hk5
    go_upto_region 24 with fail
    refine wp_world (fun V => Bx V (W.heap.size + 1) tmZ 179 ∧ Bx V (W.heap.size + 1 + 1) (hC (.pointer q) d (.pointer none) (.pointer none) (W.heap.size + 1)) 88 ∧ Dk0 V d m 20 0 (fun _ => none) ∧ Below W.heap.size W V) ⟨BT5.out, BH5.out, HD5.out, HB5.out⟩ ?_
    clear c2 f2 bh4 BT5 BH5 HD5 HB5
    rintro V5 ⟨bt, bh, hD, hb5⟩
    have z5 := bh.lt
    have zd := hD.d.lt
    have zm := hD.m.size
    go_wp2_with fail
    refine (hostopen_0 bh hD hdm (by omega) (by omega)).mono ?_
    rintro e V6 ⟨s, l, x, du, pn, qs, k, bk, mp, rfl, bh6, hD6, hs6, hl6, hx6, hdu6, hge, hnd, hK⟩
    have bt6 := hK.bx bt (by rintro (e | e | e) <;> omega)
    have HG := Lib.hid hge
    have HN := Lib.hid hnd
    have HD6 := Lib.hid hD6
    have hb6 : Below W.heap.size W V6 := hK.below hb5 (Nat.le_refl _) (fun b _ e => by rcases e with e | e | e <;> omega)
    clear hge hnd hD hD6 bt hK
    go_wp2
    go_ret2
    have h1 := HG.out s (by simp)
    have h2 := HG.out l (by simp)
    have h3 := HG.out x (by simp)
    have h4 := HG.out du (by simp)
    have hn := HN.out
    simp only [List.nodup_cons, List.mem_cons, List.mem_nil_iff, or_false, not_or, List.nodup_nil, and_true, not_false_eq_true] at hn
    refine ⟨W.heap.size + 1 + 1, d, m, s, l, x, du, W.heap.size + 1, rfl, ⟨⟨_, bh6⟩, HD6.out, hs6, hl6, ⟨pn, qs, k, bk, hx6⟩, ⟨mp, hdu6⟩, bt6, ?_⟩, ?_, hb6⟩
    · simp only [List.nodup_cons, List.mem_cons, List.mem_nil_iff, or_false, not_or, List.nodup_nil, and_true, not_false_eq_true]
      omega
    · intro j hj
      simp only [List.mem_cons, List.mem_nil_iff, or_false] at hj
      omega
end Go.Proofs.YtggomjfllbljeaaGreatDoor
