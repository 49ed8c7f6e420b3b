/- Package store: a batch of one write of a new key is right. Package wal: what room a log has. -/
import Derived.Test.YtggomjfllbljeaaGreatDoorTk2
import Derived.Test.YtggomjfllbljeaaGreatDoorMNwE
namespace Go.Proofs.YtggomjfllbljeaaGreatDoor
set_option linter.unusedVariables false
open Go Go.RowKit
open Go.Maps Go.ChangeMaps
open Go.WideMaps (KeyLaw)
theorem kl_str : KeyLaw Tryz.prog 9 := WideMaps.string_law (by kernel_rfl)
theorem key_str {s : ByteArray} (h : okStr s) : keyOf Tryz.prog 9 (.string s) = some (.string s.data.toList) := WideMaps.keyOf_string_mk (by kernel_rfl) h
theorem zero_int0 (u : World) : (zeroValue 3).run Tryz.prog u = .ok (.int .i64 0) u := (zero_of_info (show (Tryz.prog.info? 3).map (fun i => (i.zero, i.size)) = some (some (.int .i64 0), 1) by kernel_rfl)).1 u
theorem map_si : Tryz.prog.underlying 495 = some (.map 9 3) := by kernel_rfl
set_option maxRecDepth 100000 in
set_option maxHeartbeats 8000000 in
theorem wrong_1 {W : World} {s l g n c : Nat} {ar : Int} {A : Option Addr} {t : TypeId} (k : ByteArray) (hk0 : 0 < k.size) (hk : k.size ≤ 32) (hs : Bx W s (stC ar l) 215) (hg : Bx W g (wrC k A n c) t) (hn2 : n ≤ 100) :
    Calls Tryz.prog 239 #[.pointer (some ⟨s, 0, none⟩), .slice (some ⟨g, 0, none⟩) 1 1] W fun e W' => e = .returned (.int .i64 0) ∧ Below W.heap.size W W' := by
  have hmm := @run_makeMap Tryz.prog
  have hke : k.toList.isEmpty = false := by rw [isEmpty_size]; exact decide_eq_false (by omega)
  have hB0 := (Below.refl W.heap.size W).alloc (Nat.le_refl _) (.map #[] 0)
  have HI := Lib.hid (And.intro (hs.below hB0 hs.lt) (And.intro (hg.below hB0 hg.lt) (And.intro (Mp.made (P := Tryz.prog) (k := 9) W) hB0)))
  have zs := hs.lt
  have zg := hg.lt
  clear hs hg hB0
  go_enter Tryz.func239, Tryz.ntmps239
  go_upto_region 4 with fail
  refine wp_world (fun V => Bx V s (stC ar l) 215 ∧ Bx V g (wrC k A n c) t ∧ Mp Tryz.prog 9 V W.heap.size (fun _ => none) ∧ Below W.heap.size W V) HI.out ?_
  clear HI hmm
  rintro V0 HV
  have HW := Lib.hid HV
  clear HV
  go_wp2
  go_loopw [19] (fun i wr => (i = .int .i64 0 ∧ Hid (Bx wr s (stC ar l) 215 ∧ Bx wr g (wrC k A n c) t ∧ Mp Tryz.prog 9 wr W.heap.size (fun _ => none) ∧ Below W.heap.size W wr)) ∨ (i = .int .i64 1 ∧ Hid (Below W.heap.size W wr))) (fun i _ => 1 - (intOf i).toNat)
  case atStart => exact .inl ⟨rfl, HW⟩
  case round =>
    clear HW
    rcases hrel with ⟨rfl, HW⟩ | ⟨rfl, HW⟩
    · have x0 := HW.out.2.1.cells
      go_upto_region 7 with fail
      have q2 := Bx.new wr (wrC k A n c) 259
      have hbw := (Below.refl wr.heap.size wr).alloc (Nat.le_refl _) (.cells (wrC k A n c) 259)
      refine wp_world (fun V => Bx V wr.heap.size (wrC k A n c) 259 ∧ Below wr.heap.size wr V) ⟨q2, hbw⟩ ?_
      clear q2 hbw x0
      rintro V1 ⟨b7, hb1⟩
      have hm := HW.out.2.2.1.below hb1 HW.out.2.2.1.size
      have hlk := hm.look kl_str map_si zero_int0 (key_str (s := k) (by unfold okStr; omega)) true
      obtain ⟨V2, hpu, hm2, hwr⟩ := hm.put (v := .int .i64 0) kl_str map_si (key_str (s := k) (by unfold okStr; omega))
      simp only [Option.getD_none, Option.isSome_none, if_true] at hlk
      have hml := HW.out.2.2.1.size
      have b72 := b7.wr hwr (show wr.heap.size ≠ W.heap.size by omega)
      have s2 := (HW.out.1.below hb1 HW.out.1.lt).wr hwr (by omega)
      have hb2 := hwr.below (HW.out.2.2.2.trans (hb1.mono HW.out.2.2.2.size)) (Nat.le_refl _)
      have x7 := b7.cells
      clear hm hm2 hwr HW
      have x72 := b72.cells
      go_wp2_with fail
      refine (get_e s2 k).mono ?_
      rintro e V3 ⟨rfl, hb3⟩
      have b73 := b72.below hb3 b72.lt
      have HB := Lib.hid (hb2.trans (hb3.mono hb2.size))
      clear x7 x72 hlk hpu b7 b72 s2 hb1 hb2 hb3
      have x7 := b73.cells
      go_wp2
      go_roundw
      case rel => exact .inr ⟨by go_num, HB⟩
      case measure => simp [intOf]
    · go_wp2
      go_ret
      exact ⟨rfl, HW.out⟩
set_option maxRecDepth 100000 in
theorem room_1 {W : World} {d m l : Nat} {n a used : Int} {v : Value} (h : DkS W d m n a) (hl : Bx W l (lgC d 1 used v) 297) (h0 : 0 ≤ used) (h1 : used ≤ 4096) :
    Calls Tryz.prog 241 #[.pointer (some ⟨l, 0, none⟩)] W fun e W' => e = .returned (.int .i64 ((n - 2) / 2 - used)) ∧ Below W.heap.size W W' := by
  have hlo := h.lo
  have hhi := h.hi
  have c1 := hl.cells
  have z1 := hl.lt
  have HS := Lib.hid (fun (V : World) (hb : Below W.heap.size W V) => (size_any (h.bd.below hb h.bd.lt)).mono (R' := fun e W' => e = .returned (.int .i64 n) ∧ Below V.heap.size V W') (fun e W' hq => ⟨hq.1, by rw [hq.2]; exact Below.refl _ _⟩))
  have HA := Lib.hid (fun (V : World) => (area_any n V (by omega) hhi).mono (R' := fun e W' => e = .returned (.int .i64 ((n - 2) / 2)) ∧ Below V.heap.size V W') (fun e W' hq => ⟨hq.1, by rw [hq.2]; exact Below.refl _ _⟩))
  obtain ⟨qa, hqa⟩ : ∃ qa, qa = (n - 2) / 2 := ⟨_, rfl⟩
  have hqa0 : 0 ≤ qa ∧ qa ≤ 4096 := by omega
  rw [← hqa] at HA ⊢
  have HQ := Lib.hid hqa
  clear hqa
  go_enter Tryz.func241, Tryz.ntmps241
  go_upto_region 1 with fail
  refine wp_region_below (by kernel_rfl) (by kernel_rfl) ?_
  intro q9
  repeat
    (refine QH.step (fun K9 hK9 => ?_)
     go_simp
     first
     | (refine hK9 _ ?_; clear hK9 K9)
     | (apply Exists.intro
        refine ⟨fun _ => ?_, hK9 _ ?_⟩
        · first | (with_reducible exact Calls.blw _ (HS.out _ (Blw.b _))) | (with_reducible exact Calls.blw _ (HA.out _))
        clear hK9 K9))
  refine QH.nil_ ?_
  clear q9
  rintro ⟨V9, hV9⟩
  dsimp only
  go_wp2
  go_ret
  have hw : IntKind.i64.wrap (qa - used) = qa - used := IntWalk.i64_in _ (by omega)
  exact ⟨ret_int hw, hV9⟩
end Go.Proofs.YtggomjfllbljeaaGreatDoor
