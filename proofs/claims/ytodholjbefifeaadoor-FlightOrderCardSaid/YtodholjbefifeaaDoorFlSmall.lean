/- What a call hands back of a table is small. -/
import Derived.Test.YtodholjbefifeaaDoorFlHas
import Derived.Test.YtodholjbefifeaaDoorFlLinkL
namespace Go.Proofs.YtodholjbefifeaaDoor
set_option linter.unusedVariables false
open Go Go.RowKit Go.Sort
/-- The classes of a copied row are few. -/
theorem small_of {W : World} {lo p : Nat} {rs : List FlR} (ht : TB W lo p rs) {r : FlR} (hw : r.ok) (hm : r.f ∈ rs.map (·.f)) : r.n ≤ 100000 := by
  obtain ⟨mp, A, n, c, g, hx, ho, _⟩ := ht.ex
  obtain ⟨r', hr', e'⟩ := List.mem_map.1 hm
  have h1 := hw.len
  have h2 := (ho.own.wf r' hr').len
  have h3 := ht.small r' hr'
  rw [e', h1] at h2
  omega
theorem len_le_of {rs out : List FlR} {L : List Flt} (h : out.map (·.f) = L) (hl : L.length ≤ rs.length) {n : Nat} (hn : out.length = n) (h64 : rs.length ≤ 64) : n ≤ 100000 := by
  have := congrArg List.length h
  rw [List.length_map] at this
  omega
theorem betw_len (l : List Flt) (d : Int) (a b : ByteArray) : (betwF l d a b).length ≤ l.length := by
  unfold betwF
  rw [len_allL]
  exact List.length_filter_le _ _
theorem FlS.below0 {W W' : World} {B n : Nat} {A : Option Addr} {l : List FlR} (h : FlS W B W.heap.size A n l) (hb : Below W.heap.size W W') : FlS W' B W.heap.size A n l := FlS.below h hb (Nat.le_refl _)
/-- A flight of Between is among what it hands back. -/
theorem has_tab {rs out : List FlR} {W w4 : World} {p lo lo' hi' n c B : Nat} {A : Option Addr} {x : FlR} {d : Int} {a b : ByteArray} (hnok : Nok (rs.map (·.f))) (ht : TB w4 lo p rs) (ho : OwnF W 26 54 B (.slice A n c) out) (hm : out.map (·.f) = betwF (rs.map (·.f)) d a b)
    (hx : x.f ∈ betwF (rs.map (·.f)) d a b) (hok : x.ok) (hc : ClAt W lo' hi' x) (hxn : x.n ≤ 100000) (hhi : hi' ≤ W.heap.size) :
    Calls Tryd.prog 23 #[.slice A n c, .agg #[.string x.f.car, .int .i64 x.f.num, .string x.f.frm, .string x.f.to_, .int .u8 x.f.days, .int .i64 x.f.dep, .int .i64 x.f.arr, .slice x.A x.n x.c, .int .i64 x.f.pln]] W (RetB W true) := by
  have h := has_any out A n c x W B W.heap.size lo' hi' ho.sl hok hc (len_le_of (rs := rs) hm (Nat.le_trans (betw_len _ _ _ _) (by rw [List.length_map]; exact Nat.le_refl _)) ho.own.sl.len ht.most) (fun r hr => small_of ht (ho.own.wf r hr) (by
      have : r.f ∈ betwF (rs.map (·.f)) d a b := by rw [← hm]; exact List.mem_map_of_mem hr
      exact ((mem_betw hnok).1 this).1)) hxn (Nat.le_refl _) hhi
  rw [hm, decide_eq_true hx] at h
  exact h
end Go.Proofs.YtodholjbefifeaaDoor
