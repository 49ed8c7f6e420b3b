/- The document's digits of a number. -/
import Derived.Test.YtodholjbefifeaaDoorFlRef3
import Derived.Lib.ItoaNum
import Derived.Laws.IdiomStrings
namespace Go.Proofs.YtodholjbefifeaaDoor
set_option linter.unusedVariables false
open Go Go.RowKit
def dgt (x : Int) : UInt8 := UInt8.ofNat (48 + x.toNat)
theorem conv_one (W : World) (x : Int) (h0 : 0 ≤ x) (h1 : x < 10) :
    (convert 86 9 (.slice (some ⟨W.heap.size, 0, none⟩) 1 1)).run Tryd.prog (W.alloc (.cells #[.int .u8 (48 + x)] 5)) = .ok (.string ⟨[dgt x].toArray⟩) (W.alloc (.cells #[.int .u8 (48 + x)] 5)) := by
  refine run_convert_bytes_back (W.alloc (.cells #[.int .u8 (48 + x)] 5)) 86 9 5 ⟨W.heap.size, 0, none⟩ 1 [dgt x] Tryd.underlying86 Tryd.underlying5 Tryd.underlying9 fun j hj => ?_
  obtain rfl : j = 0 := by simp at hj; omega
  have hadd : (⟨W.heap.size, 0, none⟩ : Addr).add 0 = ⟨W.heap.size, 0, none⟩ := rfl
  rw [hadd, cell_of_row _ _ 0 _ _ (0, 0) (heap_alloc_new W _)]
  have e : ((dgt x).toNat : Int) = 48 + x := by
    unfold dgt
    rw [UInt8.toNat_ofNat']
    omega
  simp [e]
theorem cat_one (a : UInt8) (t : List UInt8) : (⟨[a].toArray⟩ : ByteArray) ++ ⟨t.toArray⟩ = ⟨(a :: t).toArray⟩ := by
  apply ByteArray.ext
  simp
theorem dec_more {m : Nat} (h : 9 < m) : Lib.decDigits m = Lib.decDigits (m / 10) ++ [dgt ((m : Int) % 10)] := by
  rw [Lib.decDigits, dif_neg (by omega)]
  unfold dgt
  rw [show ((m : Int) % 10).toNat = m % 10 from by omega]
theorem dec_last {m : Nat} (h : ¬ 9 < m) : Lib.decDigits m = [dgt (m : Int)] := by
  rw [Lib.decDigits, dif_pos (by omega)]
  unfold dgt
  rw [Int.toNat_natCast]
set_option maxRecDepth 100000 in
set_option maxHeartbeats 4000000 in
theorem digits_any (u : Nat) (hu : u ≤ 9223372036854775807) (w : World) :
    Calls Tryd.prog 41 #[.int .i64 u] w fun e w' => e = .returned (.string ⟨(Lib.decDigits u).toArray⟩) ∧ Below w.heap.size w w' := by
  go_enter Tryd.func41, Tryd.ntmps41
  go_wp2
  go_loopw [0, 3] (fun v s wr => ∃ (m : Nat) (t : List UInt8), v = .int .i64 m ∧ s = .string ⟨t.toArray⟩ ∧ 9 * t.length + m ≤ u ∧ Hid (Lib.decDigits u = Lib.decDigits m ++ t) ∧ Below w.heap.size w wr) (fun v _ _ => (intOf v).toNat)
  case atStart => exact ⟨u, [], rfl, rfl, by simp, by show _ = _; simp, Below.refl _ _⟩
  case round =>
    obtain ⟨m, t, rfl, rfl, hm, HE, hb⟩ := hrel
    by_cases h9 : 9 < m
    · have t1 : decide ((m : Int) > 9) = true := by simp; omega
      have hc := conv_one wr ((m : Int) % 10) (by omega) (by omega)
      have hl : ¬ 9223372036854775807 < 1 + t.length := by omega
      have HE2 := Lib.hid (show Lib.decDigits u = Lib.decDigits (m / 10) ++ (dgt ((m : Int) % 10) :: t) by rw [HE.out, dec_more h9]; simp)
      have HS := Lib.hid (cat_one (dgt ((m : Int) % 10)) t)
      have hb2 := hb.alloc hb.size (.cells #[.int .u8 (48 + (m : Int) % 10)] 5)
      have H9 := Lib.hid h9
      clear h9 HE
      go_wp2
      go_roundw
      case rel => exact ⟨m / 10, dgt ((m : Int) % 10) :: t, by go_num, by exact congrArg Value.string HS.out, by have := H9.out; simp only [List.length_cons]; omega, HE2, hb2⟩
      case measure => have := H9.out; simp [intOf]; omega
    · have t1 : decide ((m : Int) > 9) = false := by simp; omega
      have hc := conv_one wr (m : Int) (by omega) (by omega)
      have hl : ¬ 9223372036854775807 < 1 + t.length := by omega
      have HE2 := Lib.hid (show Lib.decDigits u = dgt (m : Int) :: t by rw [HE.out, dec_last h9]; rfl)
      have HS := Lib.hid (cat_one (dgt (m : Int)) t)
      have hb2 := hb.alloc hb.size (.cells #[.int .u8 (48 + (m : Int))] 5)
      have h10 : m < 10 := by omega
      clear h9 HE
      go_wp2
      go_ret
      exact ⟨by rw [HE2.out]; exact congrArg (fun s => Ending.returned (Value.string s)) HS.out, hb2⟩
end Go.Proofs.YtodholjbefifeaaDoor
