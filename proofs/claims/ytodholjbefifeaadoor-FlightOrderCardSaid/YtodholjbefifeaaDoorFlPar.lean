/- A list of pairs of flights: the cells of each pair; a pair as a list of two. -/
import Derived.Test.YtodholjbefifeaaDoorFlLinks
namespace Go.Proofs.YtodholjbefifeaaDoor
set_option linter.unusedVariables false
open Go Go.RowKit Go.Sort
section
variable {w : World} {lo hi n k : Nat} {A : Option Addr} {l : List Par}
theorem Sl.par_ (h : Sl w lo hi tPar A n l) (hk : k < n) :
    ∃ b o x y, A = some ⟨b, o, none⟩ ∧ lo ≤ b ∧ b < hi ∧ Hid (l[k]? = some (x, y)) ∧ x.ok ∧ y.ok ∧
      w.cell? ⟨b, o + k * 18, none⟩ = some (.string x.f.car) ∧ w.cell? ⟨b, o + k * 18 + 1, none⟩ = some (.int .i64 x.f.num) ∧ w.cell? ⟨b, o + k * 18 + 2, none⟩ = some (.string x.f.frm) ∧ w.cell? ⟨b, o + k * 18 + 3, none⟩ = some (.string x.f.to_) ∧ w.cell? ⟨b, o + k * 18 + 4, none⟩ = some (.int .u8 x.f.days) ∧ w.cell? ⟨b, o + k * 18 + 5, none⟩ = some (.int .i64 x.f.dep) ∧ w.cell? ⟨b, o + k * 18 + 6, none⟩ = some (.int .i64 x.f.arr) ∧ w.cell? ⟨b, o + k * 18 + 7, none⟩ = some (.slice x.A x.n x.c) ∧ w.cell? ⟨b, o + k * 18 + 8, none⟩ = some (.int .i64 x.f.pln) ∧
      w.cell? ⟨b, o + k * 18 + 9, none⟩ = some (.string y.f.car) ∧ w.cell? ⟨b, o + k * 18 + 9 + 1, none⟩ = some (.int .i64 y.f.num) ∧ w.cell? ⟨b, o + k * 18 + 9 + 2, none⟩ = some (.string y.f.frm) ∧ w.cell? ⟨b, o + k * 18 + 9 + 3, none⟩ = some (.string y.f.to_) ∧ w.cell? ⟨b, o + k * 18 + 9 + 4, none⟩ = some (.int .u8 y.f.days) ∧ w.cell? ⟨b, o + k * 18 + 9 + 5, none⟩ = some (.int .i64 y.f.dep) ∧ w.cell? ⟨b, o + k * 18 + 9 + 6, none⟩ = some (.int .i64 y.f.arr) ∧ w.cell? ⟨b, o + k * 18 + 9 + 7, none⟩ = some (.slice y.A y.n y.c) ∧ w.cell? ⟨b, o + k * 18 + 9 + 8, none⟩ = some (.int .i64 y.f.pln) := by
  obtain ⟨b, o, ⟨x, y⟩, h1, h2, h3, h4, h5, hc⟩ := h.at_ hk
  exact ⟨b, o, x, y, h1, h2, h3, h4, h5.1, h5.2, by simpa [tPar] using hc 0 _ rfl, hc 1 _ rfl, hc 2 _ rfl, hc 3 _ rfl, hc 4 _ rfl, hc 5 _ rfl, hc 6 _ rfl, hc 7 _ rfl, hc 8 _ rfl,
    hc 9 _ rfl, hc 10 _ rfl, hc 11 _ rfl, hc 12 _ rfl, hc 13 _ rfl, hc 14 _ rfl, hc 15 _ rfl, hc 16 _ rfl, hc 17 _ rfl⟩
/-- A pair as a list of two, where it stands. -/
theorem Sl.two {x y : FlR} {b o : Nat} (h : Sl w lo hi tPar A n l) (hk : k < n) (hA : A = some ⟨b, o, none⟩) (hx : l[k]? = some (x, y)) :
    Sl w lo hi tFl (some ⟨b, o + k * 18, none⟩) 2 [x, y] := by
  obtain ⟨b', o', z, h1, h2, h3, h4, h5, hc⟩ := h.at_ hk
  rw [hA] at h1
  injection h1 with h1
  injection h1 with e1 e2
  subst e1 e2
  obtain rfl : z = (x, y) := by have := h4.out.symm.trans hx; injection this
  have e18 : (tPar).sz = 18 := rfl
  have e9 : (tFl).sz = 9 := rfl
  refine ⟨rfl, fun r hr => ?_, fun _ => ⟨b, o + k * 18, rfl, h2, h3, fun i r hr j u hu => ?_⟩⟩
  · rcases List.mem_cons.1 hr with rfl | hr
    · exact h5.1
    · rw [List.mem_singleton.1 hr]; exact h5.2
  · rcases i with _ | _ | i
    · injection hr with hr
      subst hr
      have hj : j < 9 := by have := (List.getElem?_eq_some_iff.1 hu).1; rw [tFl.len] at this; exact this
      have := hc j u (by show (tFl.enc x ++ tFl.enc y)[j]? = _; rw [List.getElem?_append_left (by rw [tFl.len]; exact hj)]; exact hu)
      rw [e18] at this
      simpa using this
    · injection hr with hr
      subst hr
      have := hc (9 + j) u (by show (tFl.enc x ++ tFl.enc y)[9 + j]? = _; rw [List.getElem?_append_right (by rw [tFl.len]; exact Nat.le_add_right _ _), tFl.len]; simpa [tFl] using hu)
      rw [e18, ← Nat.add_assoc] at this
      simpa [e9] using this
    · cases hr
end
end Go.Proofs.YtodholjbefifeaaDoor
