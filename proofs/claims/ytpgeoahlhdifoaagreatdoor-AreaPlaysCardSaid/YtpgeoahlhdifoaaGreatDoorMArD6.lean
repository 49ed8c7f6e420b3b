/- Put together by program of: ArD6, ArD7. -/
import Derived.Test.YtpgeoahlhdifoaaGreatDoorMArD
import Derived.Test.YtpgeoahlhdifoaaGreatDoorArea6
import Derived.Test.YtpgeoahlhdifoaaGreatDoorMBoxes
import Derived.Deep.WholeRow
import Derived.Test.YtpgeoahlhdifoaaGreatDoorMArea11
import Derived.Deep.MidRow
import Derived.OrdersHeld
namespace Go.Proofs.YtpgeoahlhdifoaaGreatDoor
set_option linter.unusedVariables false
open Go Go.RowKit
/-- A whole area's load as one word. -/
noncomputable def loadD (v : Value) : Sem Value := Instr.loadAt 34 v
theorem loadD_eq (v : Value) : Instr.loadAt 34 v = loadD v := rfl
attribute [local go_sem ↓] loadD_eq
theorem ldaD_of {W : World} {g : Nat} {cs : Array Value} (hr : Bx W g cs 34) (h20 : cs.size = 20) : (loadD (.pointer (some ⟨g, 0, none⟩))).run Tryz.prog W = .ok (.agg cs) W := by
  unfold loadD
  simp only [Instr.loadAt, Instr.sureAddr, Sem.run_bind, Sem.run_pure, Result.andThen_ok, run_loadVar_row (P := Tryz.prog) W g 34 34 cs (0, 0) _ hr Tryz.underlying34 rfl (by rw [h20]; exact info_areaD)]
set_option maxRecDepth 100000 in
set_option maxHeartbeats 8000000 in
theorem redit_no (a : Ar) (h : AH) (e : Edit) (w : World) (S : Nat → Prop) (hp : AS w S a h) (hS : ∀ b, S b → b < w.heap.size) (hs : a.small 1000) (he : e.ok) (hno : noOne a = true) :
    Calls Tryz.prog 18 #[.agg #[.string a.agent, .string a.off, .bool a.open_, .string a.base.loc, .string a.base.off, .slice h.b.an h.b.nn h.b.cn, .slice h.b.ag h.b.ng h.b.cg, .slice h.b.ap h.b.np h.b.cp, .int .i64 a.base.tik.kind, .int .i64 a.base.tik.day, .int .i64 a.base.tik.min, .string a.base.rc, .slice h.b.ar h.b.nr h.b.cr, .slice h.b.ae h.b.ne h.b.ce, .bool a.base.queued, .int .u64 a.ver, .slice h.ad h.nd h.cd, .slice h.al h.nl h.cl, .bool a.working, .int .i64 a.queue], .agg #[.int .i64 e.kind, .string e.nam.last, .string e.nam.first, .string e.seg.car, .int .i64 e.seg.num, .int .i64 e.seg.day, .int .u8 e.seg.cls, .bool e.seg.live, .int .i64 e.tik.kind, .int .i64 e.tik.day, .int .i64 e.tik.min, .string e.text, .int .i64 e.n, .int .i64 e.pax, .int .i64 e.row, .int .u8 e.let_]] w (RetD w S (editF a e)) := by
  rw [show editF a e = (ar0, 50) by unfold editF; rw [hno, if_pos rfl]]
  have hnd := hp.edits.len.symm
  have HP := Lib.hid hp
  have HB := Lib.hid hS
  have HE := Lib.hid he
  have hq : a.agent.toList.isEmpty = noOne a := rfl
  have hF := F3.start w (aC a h) 34 #[.int .i64 e.kind, .string e.nam.last, .string e.nam.first, .string e.seg.car, .int .i64 e.seg.num, .int .i64 e.seg.day, .int .u8 e.seg.cls, .bool e.seg.live, .int .i64 e.tik.kind, .int .i64 e.tik.day, .int .i64 e.tik.min, .string e.text, .int .i64 e.n, .int .i64 e.pax, .int .i64 e.row, .int .u8 e.let_] 50 aZ 34
  have HW := Lib.hid (fun W => rwrong19_any a h false W hnd (q0 := 50) (by simp [wrongA, hno]))
  clear hnd hno hq hp hS hs he
  go_enter Tryz.func18, Tryz.ntmps18
  go_wp2_with (refine load_raD rfl (.tmp 2) rfl rfl hF.r1 rfl ?_)
  refine (HW.out _).mono ?_
  rintro en w1 ⟨rfl, hb1⟩
  have hF1 := hF.step hb1
  clear hF hb1 HW
  go_wp2_with (refine store_raD rfl (.tmp 4) (.tmp 14) rfl aZ rfl rfl hF1.r3 rfl rfl aZ_one ?_)
  have hF9 := hF1.row3 aZ
  refine ret_atD Tryz.results18 hF9.r3 rfl rfl rfl rfl ?_
  exact RetD.mk' (h' := ah0) rfl (ar0_as _ _) hF9.B
set_option maxRecDepth 100000 in
set_option maxHeartbeats 8000000 in
theorem redit_full (a : Ar) (h : AH) (e : Edit) (w : World) (S : Nat → Prop) (hp : AS w S a h) (hS : ∀ b, S b → b < w.heap.size) (hs : a.small 1000) (he : e.ok) (hno : noOne a = false) (hn : 100 ≤ a.edits.length) :
    Calls Tryz.prog 18 #[.agg #[.string a.agent, .string a.off, .bool a.open_, .string a.base.loc, .string a.base.off, .slice h.b.an h.b.nn h.b.cn, .slice h.b.ag h.b.ng h.b.cg, .slice h.b.ap h.b.np h.b.cp, .int .i64 a.base.tik.kind, .int .i64 a.base.tik.day, .int .i64 a.base.tik.min, .string a.base.rc, .slice h.b.ar h.b.nr h.b.cr, .slice h.b.ae h.b.ne h.b.ce, .bool a.base.queued, .int .u64 a.ver, .slice h.ad h.nd h.cd, .slice h.al h.nl h.cl, .bool a.working, .int .i64 a.queue], .agg #[.int .i64 e.kind, .string e.nam.last, .string e.nam.first, .string e.seg.car, .int .i64 e.seg.num, .int .i64 e.seg.day, .int .u8 e.seg.cls, .bool e.seg.live, .int .i64 e.tik.kind, .int .i64 e.tik.day, .int .i64 e.tik.min, .string e.text, .int .i64 e.n, .int .i64 e.pax, .int .i64 e.row, .int .u8 e.let_]] w (RetD w S (editF a e)) := by
  rw [show editF a e = (ar0, 18) by unfold editF; rw [hno, if_neg (by simp), if_pos hn]]
  have hnd := hp.edits.len.symm
  have HP := Lib.hid hp
  have HB := Lib.hid hS
  have HE := Lib.hid he
  have hq : a.agent.toList.isEmpty = noOne a := rfl
  have hF := F3.start w (aC a h) 34 #[.int .i64 e.kind, .string e.nam.last, .string e.nam.first, .string e.seg.car, .int .i64 e.seg.num, .int .i64 e.seg.day, .int .u8 e.seg.cls, .bool e.seg.live, .int .i64 e.tik.kind, .int .i64 e.tik.day, .int .i64 e.tik.min, .string e.text, .int .i64 e.n, .int .i64 e.pax, .int .i64 e.row, .int .u8 e.let_] 50 aZ 34
  have HW := Lib.hid (fun W => rwrong19_any a h false W hnd (q0 := 0) (by simp [wrongA, hno]))
  have hn1 : (100 : Int) ≤ h.nd := by rw [hnd]; omega
  clear hnd hno hq hp hS hs he hn
  go_enter Tryz.func18, Tryz.ntmps18
  go_wp2_with (refine load_raD rfl (.tmp 2) rfl rfl hF.r1 rfl ?_)
  refine (HW.out _).mono ?_
  rintro en w1 ⟨rfl, hb1⟩
  have hF1 := hF.step hb1
  clear hF hb1 HW
  have x1 := hF1.x1
  try dsimp only [aC] at x1
  try dsimp only [aZ] at x1
  have z3 := hF1.z
  go_wp2_with (refine store_raD rfl (.tmp 4) (.tmp 20) rfl aZ rfl rfl hF1.r3 rfl rfl aZ_one ?_)
  have hF9 := hF1.row3 aZ
  refine ret_atD Tryz.results18 hF9.r3 rfl rfl rfl rfl ?_
  exact RetD.mk' (h' := ah0) rfl (ar0_as _ _) hF9.B
set_option maxRecDepth 100000 in
set_option maxHeartbeats 8000000 in
theorem redit_do (a : Ar) (h : AH) (e : Edit) (w : World) (S : Nat → Prop) (hp : AS w S a h) (hS : ∀ b, S b → b < w.heap.size) (hs : a.small 1000) (he : e.ok) (hno : noOne a = false) (hn : ¬ 100 ≤ a.edits.length) :
    Calls Tryz.prog 18 #[.agg #[.string a.agent, .string a.off, .bool a.open_, .string a.base.loc, .string a.base.off, .slice h.b.an h.b.nn h.b.cn, .slice h.b.ag h.b.ng h.b.cg, .slice h.b.ap h.b.np h.b.cp, .int .i64 a.base.tik.kind, .int .i64 a.base.tik.day, .int .i64 a.base.tik.min, .string a.base.rc, .slice h.b.ar h.b.nr h.b.cr, .slice h.b.ae h.b.ne h.b.ce, .bool a.base.queued, .int .u64 a.ver, .slice h.ad h.nd h.cd, .slice h.al h.nl h.cl, .bool a.working, .int .i64 a.queue], .agg #[.int .i64 e.kind, .string e.nam.last, .string e.nam.first, .string e.seg.car, .int .i64 e.seg.num, .int .i64 e.seg.day, .int .u8 e.seg.cls, .bool e.seg.live, .int .i64 e.tik.kind, .int .i64 e.tik.day, .int .i64 e.tik.min, .string e.text, .int .i64 e.n, .int .i64 e.pax, .int .i64 e.row, .int .u8 e.let_]] w (RetD w S (editF a e)) := by
  have hnd := hp.edits.len.symm
  have HP := Lib.hid hp
  have HB := Lib.hid hS
  have HE := Lib.hid he
  have hq : a.agent.toList.isEmpty = noOne a := rfl
  have hF := F3.start w (aC a h) 34 #[.int .i64 e.kind, .string e.nam.last, .string e.nam.first, .string e.seg.car, .int .i64 e.seg.num, .int .i64 e.seg.day, .int .u8 e.seg.cls, .bool e.seg.live, .int .i64 e.tik.kind, .int .i64 e.tik.day, .int .i64 e.tik.min, .string e.text, .int .i64 e.n, .int .i64 e.pax, .int .i64 e.row, .int .u8 e.let_] 50 aZ 34
  have hfin : editF a e = if (applyF (pnrF a) e).2 ≠ 0 then (ar0, (applyF (pnrF a) e).2) else ({ a with open_ := true, edits := a.edits ++ [e] }, 0) := (by show editF a e = _; unfold editF; rw [hno, if_neg (by simp), if_neg hn])
  have HW := Lib.hid (fun W => rwrong19_any a h false W hnd (q0 := 0) (by simp [wrongA, hno]))
  have HPN := Lib.hid (fun (W : World) (o : AS W S a h) (h2 : ∀ b, S b → b < W.heap.size) => rpnr19_any a h W S o h2 hs (pnrF a) rfl)
  have hsm : (pnrF a).small 100000 := by
    have h1 := foldF_small9 a.edits a.base 1000 hs.base
    exact h1.mono (by have := hs.edits; omega)
  have hap := fun (W : World) (h1 : Hd) (o : PS W (fun b => b < W.heap.size) (pnrF a) h1) => rapply_any (pnrF a) h1 e W _ o (fun b hb => hb) hsm he
  generalize applyF (pnrF a) e = r at hap hfin
  generalize pnrF a = q at HPN hap
  obtain ⟨q3, f3⟩ := r
  dsimp only at hfin
  have HFIN := Lib.hid hfin
  have HAP := Lib.hid hap
  have hn1 : ¬ (100 : Int) ≤ h.nd := by rw [hnd]; omega
  have hlen := hs.edits
  clear hp hS hno hap hfin hsm he hn hq hnd
  go_enter Tryz.func18, Tryz.ntmps18
  go_wp2_with (refine load_raD rfl (.tmp 2) rfl rfl hF.r1 rfl ?_)
  refine (HW.out _).mono ?_
  rintro en w1 ⟨rfl, hb1⟩
  have hF1 := hF.step hb1
  clear hF hb1 HW
  go_upto_region 2 with fail
  refine wp_world (fun W => F3 w (aC a h) 34 #[.int .i64 e.kind, .string e.nam.last, .string e.nam.first, .string e.seg.car, .int .i64 e.seg.num, .int .i64 e.seg.day, .int .u8 e.seg.cls, .bool e.seg.live, .int .i64 e.tik.kind, .int .i64 e.tik.day, .int .i64 e.tik.min, .string e.text, .int .i64 e.n, .int .i64 e.pax, .int .i64 e.row, .int .u8 e.let_] 50 aZ 34 W) hF1 ?_
  clear hF1
  intro V hF
  have o1 := HP.out.below hF.B HB.out
  have x1 := hF.x1
  try dsimp only [aC] at x1
  try dsimp only [aZ] at x1
  have x2 := hF.x2
  try dsimp only [aC] at x2
  try dsimp only [aZ] at x2
  have z3 := hF.z
  have z1 : w.heap.size < V.heap.size := by omega
  have z2 : w.heap.size + 1 < V.heap.size := by omega
  have hSV : ∀ b, S b → b < V.heap.size := fun b hb => by have := HB.out b hb; omega
  go_upto_region 6 with fail
  clear x1
  go_cut [8] (fun s w' => s = .int .i64 f3 ∧ Below V.heap.size V w')
  case first =>
    have hFd := hF.drew
    have hFa := (hF.alloc (.cells #[.string ⟨#[]⟩, .string ⟨#[]⟩, .slice none 0 0, .slice none 0 0, .slice none 0 0, .int .i64 0, .int .i64 0, .int .i64 0, .string ⟨#[]⟩, .slice none 0 0, .slice none 0 0, .bool false] 29)).drew
    have kd := C20.of hFd.r1
    have kd' := hFd.x2
    have ka := C20.of hFa.r1
    have ka' := hFa.x2
    have od : AS V.drew S a h := o1.below ((Below.refl V.heap.size V).drew) hSV
    have oa : AS (V.alloc (.cells #[.string ⟨#[]⟩, .string ⟨#[]⟩, .slice none 0 0, .slice none 0 0, .slice none 0 0, .int .i64 0, .int .i64 0, .int .i64 0, .string ⟨#[]⟩, .slice none 0 0, .slice none 0 0, .bool false] 29)).drew S a h := o1.below (((Below.refl V.heap.size V).alloc (Nat.le_refl _) _).drew) hSV
    have bd : Below V.heap.size V V.drew := (Below.refl _ _).drew
    have ba : Below V.heap.size V (V.alloc (.cells #[.string ⟨#[]⟩, .string ⟨#[]⟩, .slice none 0 0, .slice none 0 0, .slice none 0 0, .int .i64 0, .int .i64 0, .int .i64 0, .string ⟨#[]⟩, .slice none 0 0, .slice none 0 0, .bool false] 29)).drew := ((Below.refl _ _).alloc (Nat.le_refl _) _).drew
    have sa : V.heap.size ≤ (V.alloc (.cells #[.string ⟨#[]⟩, .string ⟨#[]⟩, .slice none 0 0, .slice none 0 0, .slice none 0 0, .int .i64 0, .int .i64 0, .int .i64 0, .string ⟨#[]⟩, .slice none 0 0, .slice none 0 0, .bool false] 29)).drew.heap.size := ba.size
    have hb0 : Bx (V.alloc (.cells #[.string ⟨#[]⟩, .string ⟨#[]⟩, .slice none 0 0, .slice none 0 0, .slice none 0 0, .int .i64 0, .int .i64 0, .int .i64 0, .string ⟨#[]⟩, .slice none 0 0, .slice none 0 0, .bool false] 29)).drew V.heap.size #[.string ⟨#[]⟩, .string ⟨#[]⟩, .slice none 0 0, .slice none 0 0, .slice none 0 0, .int .i64 0, .int .i64 0, .int .i64 0, .string ⟨#[]⟩, .slice none 0 0, .slice none 0 0, .bool false] 29 := Bx.new V #[.string ⟨#[]⟩, .string ⟨#[]⟩, .slice none 0 0, .slice none 0 0, .slice none 0 0, .int .i64 0, .int .i64 0, .int .i64 0, .string ⟨#[]⟩, .slice none 0 0, .slice none 0 0, .bool false] 29
    go_region_held3 (fun w' => ((loadD (.pointer (some ⟨w.heap.size, 0, none⟩))).run Tryz.prog w' = .ok (.agg (aC a h)) w') ∧ (∀ i : Nat, w'.cell? ⟨w.heap.size + 1, i, none⟩ = (#[.int .i64 e.kind, .string e.nam.last, .string e.nam.first, .string e.seg.car, .int .i64 e.seg.num, .int .i64 e.seg.day, .int .u8 e.seg.cls, .bool e.seg.live, .int .i64 e.tik.kind, .int .i64 e.tik.day, .int .i64 e.tik.min, .string e.text, .int .i64 e.n, .int .i64 e.pax, .int .i64 e.row, .int .u8 e.let_] : Array Value)[i]?)) (refine ⟨?_, ?_⟩ <;> first | (refine ldaD_of ?_ rfl; (repeat (with_reducible refine Bx.other ?_ (by first | omega | (simp; done) | (simp; omega)) _)); first | with_reducible exact hFd.r1 | with_reducible exact hF3.r1 | with_reducible exact (hF3.alloc _).r1 | with_reducible exact hF2.r1 | with_reducible exact (hF2.alloc _).r1 | exact hFa.r1) | ((repeat (with_reducible refine boxed_set ?_ _ (by first | omega | (simp; done) | (simp; omega)) _)); first | with_reducible exact kd' | with_reducible exact k3' | with_reducible exact k3a' _ | with_reducible exact k2' | with_reducible exact k2a' _ | exact ka'))
      (first
        | (go_at_call 12; refine (HPN.out _ od (fun b hb => by have := hSV b hb; simpa using this)).mono ?_; rintro en w2 ⟨h2, rfl, o2, hb2⟩; have hF2 : F3 w (aC a h) 34 #[.int .i64 e.kind, .string e.nam.last, .string e.nam.first, .string e.seg.car, .int .i64 e.seg.num, .int .i64 e.seg.day, .int .u8 e.seg.cls, .bool e.seg.live, .int .i64 e.tik.kind, .int .i64 e.tik.day, .int .i64 e.tik.min, .string e.text, .int .i64 e.n, .int .i64 e.pax, .int .i64 e.row, .int .u8 e.let_] 50 aZ 34 w2 := hFd.step hb2; have hB2 : Below V.heap.size V w2 := bd.trans (hb2.mono (Nat.le_refl _)); have hs2 := hB2.size; have k2 := C20.of hF2.r1; have k2' := hF2.x2; have k2a := fun t => C20.of (hF2.alloc t).r1; have k2a' := fun t => (hF2.alloc t).x2; have z4 : w.heap.size < w2.heap.size := (by omega); have z5 : w.heap.size + 1 < w2.heap.size := (by omega); replace o2 := o2.mono (S' := fun b => b < w2.heap.size) (fun b hb => by rcases hb with hb | hb; (have := hSV b hb; omega); exact hb.2))
        | (go_at_call 12; refine (HPN.out _ oa (fun b hb => by have := hSV b hb; simp; omega)).mono ?_; rintro en w2 ⟨h2, rfl, o2, hb2⟩; have hF2 : F3 w (aC a h) 34 #[.int .i64 e.kind, .string e.nam.last, .string e.nam.first, .string e.seg.car, .int .i64 e.seg.num, .int .i64 e.seg.day, .int .u8 e.seg.cls, .bool e.seg.live, .int .i64 e.tik.kind, .int .i64 e.tik.day, .int .i64 e.tik.min, .string e.text, .int .i64 e.n, .int .i64 e.pax, .int .i64 e.row, .int .u8 e.let_] 50 aZ 34 w2 := hFa.step hb2; have hB2 : Below V.heap.size V w2 := ba.trans (hb2.mono sa); have hs2 := hB2.size; have k2 := C20.of hF2.r1; have k2' := hF2.x2; have k2a := fun t => C20.of (hF2.alloc t).r1; have k2a' := fun t => (hF2.alloc t).x2; have z4 : w.heap.size < w2.heap.size := (by omega); have z5 : w.heap.size + 1 < w2.heap.size := (by omega); replace o2 := o2.mono (S' := fun b => b < w2.heap.size) (fun b hb => by rcases hb with hb | hb; (have := hSV b hb; omega); exact hb.2); have hbx2 := hb0.below hb2 hb0.lt)
        | (go_at_call 44; have hbx2' := hbx2; refine (HAP.out _ h2 o2).mono ?_; rintro en w3 ⟨h3, rfl, o3, hb3⟩; have hF3 : F3 w (aC a h) 34 #[.int .i64 e.kind, .string e.nam.last, .string e.nam.first, .string e.seg.car, .int .i64 e.seg.num, .int .i64 e.seg.day, .int .u8 e.seg.cls, .bool e.seg.live, .int .i64 e.tik.kind, .int .i64 e.tik.day, .int .i64 e.tik.min, .string e.text, .int .i64 e.n, .int .i64 e.pax, .int .i64 e.row, .int .u8 e.let_] 50 aZ 34 w3 := hF2.step hb3; have hB3 : Below V.heap.size V w3 := hB2.trans (hb3.mono hs2); have hs3 := hB3.size; have k3 := C20.of hF3.r1; have k3' := hF3.x2; have k3a := fun t => C20.of (hF3.alloc t).r1; have k3a' := fun t => (hF3.alloc t).x2; have z6 : w.heap.size < w3.heap.size := (by omega); have z7 : w.heap.size + 1 < w3.heap.size := (by omega); have hbx3 := hbx2.below hb3 hbx2.lt; have q1 := Bx.cells hbx3; have q2 := Bx.free hbx3; have q3 := hbx3.lt)
        | (go_at_call 44; refine (HAP.out _ h2 ((o2.below ((Below.refl w2.heap.size w2).alloc (Nat.le_refl _) (.cells #[.string ⟨#[]⟩, .string ⟨#[]⟩, .slice none 0 0, .slice none 0 0, .slice none 0 0, .int .i64 0, .int .i64 0, .int .i64 0, .string ⟨#[]⟩, .slice none 0 0, .slice none 0 0, .bool false] 29)) (fun b hb => hb)).mono (fun b hb => by simp; omega))).mono ?_; rintro en w3 ⟨h3, rfl, o3, hb3⟩; have hF3 : F3 w (aC a h) 34 #[.int .i64 e.kind, .string e.nam.last, .string e.nam.first, .string e.seg.car, .int .i64 e.seg.num, .int .i64 e.seg.day, .int .u8 e.seg.cls, .bool e.seg.live, .int .i64 e.tik.kind, .int .i64 e.tik.day, .int .i64 e.tik.min, .string e.text, .int .i64 e.n, .int .i64 e.pax, .int .i64 e.row, .int .u8 e.let_] 50 aZ 34 w3 := (hF2.alloc _).step hb3; have hB3 : Below V.heap.size V w3 := (hB2.alloc hs2 _).trans (hb3.mono (by simp; omega)); have hs3 := hB3.size; have k3 := C20.of hF3.r1; have k3' := hF3.x2; have k3a := fun t => C20.of (hF3.alloc t).r1; have k3a' := fun t => (hF3.alloc t).x2; have z6 : w.heap.size < w3.heap.size := (by omega); have z7 : w.heap.size + 1 < w3.heap.size := (by omega); have hbx3 := (Bx.new w2 #[.string ⟨#[]⟩, .string ⟨#[]⟩, .slice none 0 0, .slice none 0 0, .slice none 0 0, .int .i64 0, .int .i64 0, .int .i64 0, .string ⟨#[]⟩, .slice none 0 0, .slice none 0 0, .bool false] 29).below hb3 (by simp); have q1 := Bx.cells hbx3; have q2 := Bx.free hbx3; have q3 := hbx3.lt)
        | (go_at_call 44; refine (HAP.out _ h2 o2).mono ?_; rintro en w3 ⟨h3, rfl, o3, hb3⟩; have hF3 : F3 w (aC a h) 34 #[.int .i64 e.kind, .string e.nam.last, .string e.nam.first, .string e.seg.car, .int .i64 e.seg.num, .int .i64 e.seg.day, .int .u8 e.seg.cls, .bool e.seg.live, .int .i64 e.tik.kind, .int .i64 e.tik.day, .int .i64 e.tik.min, .string e.text, .int .i64 e.n, .int .i64 e.pax, .int .i64 e.row, .int .u8 e.let_] 50 aZ 34 w3 := hF2.step hb3; have hB3 : Below V.heap.size V w3 := hB2.trans (hb3.mono hs2); have hs3 := hB3.size; have k3 := C20.of hF3.r1; have k3' := hF3.x2; have k3a := fun t => C20.of (hF3.alloc t).r1; have k3a' := fun t => (hF3.alloc t).x2; have z6 : w.heap.size < w3.heap.size := (by omega); have z7 : w.heap.size + 1 < w3.heap.size := (by omega)))
    all_goals
      go_wp2
      go_meet
      exact ⟨rfl, by (repeat (first | (with_reducible refine Below.setCell ?_ (by first | omega | (simp; done) | (simp; omega)) _) | (with_reducible refine Below.alloc ?_ (by first | omega | (simp; done) | (simp; omega)) _) | with_reducible exact hB3))⟩
  case rest =>
    obtain ⟨rfl, hBV⟩ := hcut
    have hG := hF.step hBV
    clear x2 z1 z2 z3 hF o1 hBV hSV
    by_cases hf : f3 = 0
    case neg =>
      have hne : (f3 != 0) = true := by rw [bne_iff_ne]; exact hf
      have hfin := HFIN.out
      rw [if_pos hf] at hfin
      have HFI2 := Lib.hid hfin
      clear hf hfin
      go_wp2_with (refine store_raD rfl (.tmp 4) (.tmp 30) rfl aZ rfl rfl hG.r3 rfl rfl aZ_one ?_)
      have hF9 := hG.row3 aZ
      refine ret_atD Tryz.results18 hF9.r3 rfl rfl rfl rfl ?_
      exact RetD.mk' (h' := ah0) HFI2.out (ar0_as _ _) hF9.B
    have hne : (f3 != 0) = false := by rw [bne_eq_false_iff_eq]; exact hf
    have hfin := HFIN.out
    rw [if_neg (by simpa using hf)] at hfin
    have HFI2 := Lib.hid hfin
    clear hf hfin
    have x1 := hG.x1
    try dsimp only [aC] at x1
    try dsimp only [aZ] at x1
    have y1 := hG.y1
    have z3 := hG.z
    have z1 : w.heap.size < wc.heap.size := by omega
    have hsl := HP.out.edits.sl (lo := 0) (hi := w.heap.size) (fun b hb => ⟨Nat.zero_le _, HB.out b hb⟩)
    have hsl := hsl.below hG.B (Nat.le_refl _)
    go_upto_region 11 with (at_builtin; refine append_law (T := tEdit) (v := .slice none 0 0) (l := []) (B := wc.heap.size) rfl (.tmp 32) (.tmp 34) rfl sl_edi rfl (Own.nil_ _ _ _ _) rfl hsl HP.out.edits.nil (Nat.le_refl _) (by simp; omega) ?_; intro v' w' hown' hgr hvb; rw [List.nil_append] at hown'; obtain ⟨A8, c8, rfl⟩ := hown'.form; have hG8 := hG.grown hgr (fun k hk => by cases hk))
    refine wp_world (fun W => F3 w (aC a h) 34 #[.int .i64 e.kind, .string e.nam.last, .string e.nam.first, .string e.seg.car, .int .i64 e.seg.num, .int .i64 e.seg.day, .int .u8 e.seg.cls, .bool e.seg.live, .int .i64 e.tik.kind, .int .i64 e.tik.day, .int .i64 e.tik.min, .string e.text, .int .i64 e.n, .int .i64 e.pax, .int .i64 e.row, .int .u8 e.let_] 50 aZ 34 W ∧ Own W (w.heap.size + 1 + 1 + 1) 50 tEdit (.slice A8 a.edits.length c8) a.edits) ⟨hG8, hown'.more (by omega)⟩ ?_
    clear x1 y1 z1 z3 hG hG8 hown' hgr hvb hsl
    rintro V2 ⟨hG, o4⟩
    have x1 := hG.x1
    try dsimp only [aC] at x1
    try dsimp only [aZ] at x1
    have x2 := hG.x2
    try dsimp only [aC] at x2
    try dsimp only [aZ] at x2
    have x3 := hG.y1
    have z3 := hG.z
    have z1 : w.heap.size < V2.heap.size := by omega
    have z2 : w.heap.size + 1 < V2.heap.size := by omega
    go_wp2_with (first
      | (refine wp_slice1 tEdit e HE.out sl_edi (by decide) rfl rfl rfl ?_; rintro C hsl; have hGc := hG.alloc (.cells C 50); have oc := o4.alloc (.cells C 50))
      | (at_builtin; refine append_law (l := a.edits) rfl (.tmp 36) (.tmp 38) rfl sl_edi rfl oc rfl hsl (fun h => by cases h) (by simp; omega) (by omega) ?_; intro v' w' hown' hgr hvb; obtain ⟨A9, c9, rfl⟩ := hown'.form; replace hgr : (V2.alloc (.cells C 50)).grownBy w' ((Value.slice A8 a.edits.length c8).ownBlock) := hgr; rw [ownBlock_bk] at hgr; have hG9 := hGc.grown hgr (fun k hk => by have := (oc.bk_lt k hk).1; omega); have y1 := hG9.x1; have y2 := hG9.y1; have y3 := hG9.z; have y4 : w.heap.size < w'.heap.size := (by omega))
      | (refine load_raD rfl (.tmp 2) rfl rfl ((hG9.put1 16 (.slice A9 (a.edits.length + 1) c9)).put1 2 (.bool true)).r1 rfl ?_)
      | refine store_raD rfl (.tmp 4) (.tmp 42) rfl #[.string a.agent, .string a.off, .bool true, .string a.base.loc, .string a.base.off, .slice h.b.an h.b.nn h.b.cn, .slice h.b.ag h.b.ng h.b.cg, .slice h.b.ap h.b.np h.b.cp, .int .i64 a.base.tik.kind, .int .i64 a.base.tik.day, .int .i64 a.base.tik.min, .string a.base.rc, .slice h.b.ar h.b.nr h.b.cr, .slice h.b.ae h.b.ne h.b.ce, .bool a.base.queued, .int .u64 a.ver, .slice A9 (a.edits.length + 1) c9, .slice h.al h.nl h.cl, .bool a.working, .int .i64 a.queue] rfl rfl ((hG9.put1 16 (.slice A9 (a.edits.length + 1) c9)).put1 2 (.bool true)).r3 rfl rfl (by simp [Value.oneCell']) ?_)
    have hF9 := ((hG9.put1 16 (.slice A9 (a.edits.length + 1) c9)).put1 2 (.bool true)).row3 #[.string a.agent, .string a.off, .bool true, .string a.base.loc, .string a.base.off, .slice h.b.an h.b.nn h.b.cn, .slice h.b.ag h.b.ng h.b.cg, .slice h.b.ap h.b.np h.b.cp, .int .i64 a.base.tik.kind, .int .i64 a.base.tik.day, .int .i64 a.base.tik.min, .string a.base.rc, .slice h.b.ar h.b.nr h.b.cr, .slice h.b.ae h.b.ne h.b.ce, .bool a.base.queued, .int .u64 a.ver, .slice A9 (a.edits.length + 1) c9, .slice h.al h.nl h.cl, .bool a.working, .int .i64 a.queue]
    refine ret_atD Tryz.results18 hF9.r3 rfl rfl rfl rfl ?_
    have o := (HP.out.below hF9.B HB.out).mono (S' := fun b => S b ∨ (w.heap.size ≤ b ∧ b < (((w'.setCell ⟨w.heap.size, 16, none⟩ (.slice A9 (a.edits.length + 1) c9)).setCell ⟨w.heap.size, 2, none⟩ (.bool true)).setRow (w.heap.size + 1 + 1) #[.string a.agent, .string a.off, .bool true, .string a.base.loc, .string a.base.off, .slice h.b.an h.b.nn h.b.cn, .slice h.b.ag h.b.ng h.b.cg, .slice h.b.ap h.b.np h.b.cp, .int .i64 a.base.tik.kind, .int .i64 a.base.tik.day, .int .i64 a.base.tik.min, .string a.base.rc, .slice h.b.ar h.b.nr h.b.cr, .slice h.b.ae h.b.ne h.b.ce, .bool a.base.queued, .int .u64 a.ver, .slice A9 (a.edits.length + 1) c9, .slice h.al h.nl h.cl, .bool a.working, .int .i64 a.queue]).heap.size)) (fun b hb => Or.inl hb)
    have q9 : Own w' (w.heap.size + 1 + 1 + 1) 50 tEdit (.slice A9 (a.edits.length + 1) c9) (a.edits ++ [e]) := (by have q9 := hown'; simp only [List.length_append, List.length_cons, List.length_nil] at q9; exact q9)
    have q9 := ((q9.setCell (p := ⟨w.heap.size, 16, none⟩) (by simp; omega) (.slice A9 (a.edits.length + 1) c9)).setCell (p := ⟨w.heap.size, 2, none⟩) (by simp; omega) (.bool true)).setRow (g := w.heap.size + 1 + 1) (by omega) #[.string a.agent, .string a.off, .bool true, .string a.base.loc, .string a.base.off, .slice h.b.an h.b.nn h.b.cn, .slice h.b.ag h.b.ng h.b.cg, .slice h.b.ap h.b.np h.b.cp, .int .i64 a.base.tik.kind, .int .i64 a.base.tik.day, .int .i64 a.base.tik.min, .string a.base.rc, .slice h.b.ar h.b.nr h.b.cr, .slice h.b.ae h.b.ne h.b.ce, .bool a.base.queued, .int .u64 a.ver, .slice A9 (a.edits.length + 1) c9, .slice h.al h.nl h.cl, .bool a.working, .int .i64 a.queue]
    exact RetD.mk' (a := { a with open_ := true, edits := a.edits ++ [e] }) (h' := (AH.mk h.b A9 (a.edits.length + 1) c9 h.al h.nl h.cl)) HFI2.out ⟨o.agent, o.off, o.ver, o.queue, o.base, q9.sls.mono (fun b hb => Or.inr ⟨by omega, hb.2⟩), o.legs⟩ hF9.B
theorem redit_any (a : Ar) (h : AH) (e : Edit) (w : World) (S : Nat → Prop) (hp : AS w S a h) (hS : ∀ b, S b → b < w.heap.size) (hs : a.small 1000) (he : e.ok) :
    Calls Tryz.prog 18 #[.agg #[.string a.agent, .string a.off, .bool a.open_, .string a.base.loc, .string a.base.off, .slice h.b.an h.b.nn h.b.cn, .slice h.b.ag h.b.ng h.b.cg, .slice h.b.ap h.b.np h.b.cp, .int .i64 a.base.tik.kind, .int .i64 a.base.tik.day, .int .i64 a.base.tik.min, .string a.base.rc, .slice h.b.ar h.b.nr h.b.cr, .slice h.b.ae h.b.ne h.b.ce, .bool a.base.queued, .int .u64 a.ver, .slice h.ad h.nd h.cd, .slice h.al h.nl h.cl, .bool a.working, .int .i64 a.queue], .agg #[.int .i64 e.kind, .string e.nam.last, .string e.nam.first, .string e.seg.car, .int .i64 e.seg.num, .int .i64 e.seg.day, .int .u8 e.seg.cls, .bool e.seg.live, .int .i64 e.tik.kind, .int .i64 e.tik.day, .int .i64 e.tik.min, .string e.text, .int .i64 e.n, .int .i64 e.pax, .int .i64 e.row, .int .u8 e.let_]] w (RetD w S (editF a e)) := by
  rcases Bool.eq_false_or_eq_true (noOne a) with hno | hno
  · exact redit_no a h e w S hp hS hs he hno
  by_cases hn : 100 ≤ a.edits.length
  · exact redit_full a h e w S hp hS hs he hno hn
  · exact redit_do a h e w S hp hS hs he hno hn
end Go.Proofs.YtpgeoahlhdifoaaGreatDoor
namespace Go.Proofs.YtpgeoahlhdifoaaGreatDoor
set_option linter.unusedVariables false
open Go Go.RowKit
/-- A whole area's store as one word. -/
noncomputable def storeA (p v : Value) : Sem Unit := Instr.storeAt 53 p v
theorem storeA_eq (p v : Value) : Instr.storeAt 53 p v = storeA p v := rfl
theorem sta_of {W : World} {g : Nat} {cs old : Array Value} (hr : Bx W g old 53) (h20 : cs.size = 20) (ho : old.size = 20) (h1 : (cs.all fun v => v.oneCell') = true) : (storeA (.pointer (some ⟨g, 0, none⟩)) (.agg cs)).run Tryz.prog W = .ok () (W.setRow g cs) := by
  unfold storeA
  simp only [Instr.storeAt, Instr.sureAddr, Sem.run_bind, Sem.run_pure, Result.andThen_ok, run_storeVar_row (P := Tryz.prog) W g 53 53 old cs hr (by rw [h20]; exact info_area) (by rw [h20, ho]) h1]
theorem sta_new (W : World) {cs zs : Array Value} (h20 : cs.size = 20) (ho : zs.size = 20) (h1 : (cs.all fun v => v.oneCell') = true) : (storeA (.pointer (some ⟨W.heap.size, 0, none⟩)) (.agg cs)).run Tryz.prog (W.alloc (.cells zs 53)) = .ok () (W.alloc (.cells cs 53)) :=
  run_storeAt_new W 53 zs cs (by rw [h20]; exact info_area) (by rw [h20, ho]) h1
/-- One PNR in two places. -/
theorem psame (p : Pnr) (h g : Hd) (W : World) (S S' : Nat → Prop) (h1 : PS W S p h) (h2 : PS W S' p g) (b1 : ∀ b, S b → b < W.heap.size) (b2 : ∀ b, S' b → b < W.heap.size) (hs : p.small 100000) :
    Calls Tryz.prog 10 #[.agg #[.string p.loc, .string p.off, .slice h.an h.nn h.cn, .slice h.ag h.ng h.cg, .slice h.ap h.np h.cp, .int .i64 p.tik.kind, .int .i64 p.tik.day, .int .i64 p.tik.min, .string p.rc, .slice h.ar h.nr h.cr, .slice h.ae h.ne h.ce, .bool p.queued], .agg #[.string p.loc, .string p.off, .slice g.an g.nn g.cn, .slice g.ag g.ng g.cg, .slice g.ap g.np g.cp, .int .i64 p.tik.kind, .int .i64 p.tik.day, .int .i64 p.tik.min, .string p.rc, .slice g.ar g.nr g.cr, .slice g.ae g.ne g.ce, .bool p.queued]] W (RetB W true) := by
  have t1 : PAt W 0 W.heap.size p h := h1.at fun b hb => ⟨Nat.zero_le _, b1 b hb⟩
  have t2 : PAt W 0 W.heap.size p g := h2.at fun b hb => ⟨Nat.zero_le _, b2 b hb⟩
  have key := rsame_any p p h g W 0 W.heap.size 0 W.heap.size t1 t2 (hs.hd t1) (hs.hd t2) (Nat.le_refl _) (Nat.le_refl _)
  rw [show decide (p = p) = true from decide_eq_true rfl] at key
  exact key
/-- An operation that only reads is taken first: what is told by rule is told here. -/
theorem tk {P : Program} {ops : Array Oper} {Q : Exit → Act → World → Prop} {md : Region.Mode} {S : World → Prop} {i : Nat} {oi : Oper} {v : Value} {fuel : Nat} {listed : Array Bool} {a : Act} {w : World}
    (hv : ∀ w, S w → (execOp a.eval oi).run P w = .ok (.value v) w) (hS : S w) (h : wpAnyH P md ops Q S fuel (listed.setIfInBounds i true) (a.put oi.dst v) w)
    (hi : ops[i]? = some oi := by rfl) (hs : Region.noSelect ops = true := by kernel_rfl) (hf : Region.free md ops listed i = true := by kernel_rfl) (hr : (Region.ready md ops listed).contains i = true := by kernel_rfl)
    (hQ : ∀ c a w, Q (.panic c) (a.put oi.dst v) w → Q (.panic c) a w := by exact fun _ _ _ h => h) (hw : Region.wanted oi (yielded ops a.tmps) = true := by rfl) : wpAnyH P md ops Q S (fuel + 1) listed a w :=
  wpAnyH_take hi hs hf hr hQ (.inl ⟨hw, hv⟩) hS h
set_option maxHeartbeats 1000000 in
theorem eqi_edit_self (d : Nat) (k i4 i5 b6 i8 i9 i10 i12 i13 i14 b15 : Int) (s1 s2 s3 s11 : ByteArray) (q7 : Bool) (u : World) : (Op.equalIn (d + 5) 50 (.agg #[.int .i64 k, .string s1, .string s2, .string s3, .int .i64 i4, .int .i64 i5, .int .u8 b6, .bool q7, .int .i64 i8, .int .i64 i9, .int .i64 i10, .string s11, .int .i64 i12, .int .i64 i13, .int .i64 i14, .int .u8 b15]) (.agg #[.int .i64 k, .string s1, .string s2, .string s3, .int .i64 i4, .int .i64 i5, .int .u8 b6, .bool q7, .int .i64 i8, .int .i64 i9, .int .i64 i10, .string s11, .int .i64 i12, .int .i64 i13, .int .i64 i14, .int .u8 b15])).run Tryz.prog u = .ok true u := by
  have ustr := Tryz.underlying9
  have uint := Tryz.underlying3
  have hS : Tryz.prog.underlying 50 = some (.struct (Tryz.prog.fieldsOf 50)) := by kernel_rfl
  have hp : Tryz.prog.stoodInHeld 50 = false := by kernel_rfl
  rw [run_equalIn_agg u (d + 4) _ _ _ hS hp]
  have e1 := fun u => eqi_name (d + 2) s1 s1 s2 s2 u
  have z1 := Tryz.sizeOf40
  have y1 := Tryz.isAgg40
  have e2 := fun u => eqi_segment (d + 0) s3 s3 i4 i4 i5 i5 b6 b6 q7 q7 u
  have z2 := Tryz.sizeOf46
  have y2 := Tryz.isAgg46
  have e3 := fun u => eqi_ticket (d + 2) i8 i8 i9 i9 i10 i10 u
  have z3 := Tryz.sizeOf26
  have y3 := Tryz.isAgg26
  have e4 := fun u => eqi_seat (d + 2) i14 i14 b15 b15 u
  have z4 := Tryz.sizeOf48
  have y4 := Tryz.isAgg48
  simp only [decide_true, Bool.and_self] at e1 e2 e3 e4
  simp only [Program.fieldsOf, Tryz.underlying50]
  go_simp
  try simp only [toL]
  try simp
theorem neq_edit_self (k i4 i5 b6 i8 i9 i10 i12 i13 i14 b15 : Int) (s1 s2 s3 s11 : ByteArray) (q7 : Bool) (u : World) : (binOp .neq 50 (.agg #[.int .i64 k, .string s1, .string s2, .string s3, .int .i64 i4, .int .i64 i5, .int .u8 b6, .bool q7, .int .i64 i8, .int .i64 i9, .int .i64 i10, .string s11, .int .i64 i12, .int .i64 i13, .int .i64 i14, .int .u8 b15]) (.agg #[.int .i64 k, .string s1, .string s2, .string s3, .int .i64 i4, .int .i64 i5, .int .u8 b6, .bool q7, .int .i64 i8, .int .i64 i9, .int .i64 i10, .string s11, .int .i64 i12, .int .i64 i13, .int .i64 i14, .int .u8 b15])).run Tryz.prog u = .ok (.bool false) u := by
  rw [run_neq_struct, show (10000 : Nat) = 9995 + 5 from rfl, eqi_edit_self]
  rfl
/-- A whole edit's load as one word. -/
noncomputable def loadE (v : Value) : Sem Value := Instr.loadAt 50 v
theorem loadE_eq (v : Value) : Instr.loadAt 50 v = loadE v := rfl
theorem lde_of {W : World} {lo hi n k : Nat} {A : Option Addr} {l : List Edit} {x : Edit} (h : Sl W lo hi tEdit A n l) (hk : k < n) (hx : l[k]? = some x) : ∃ b o, A = some ⟨b, o, none⟩ ∧ b < hi ∧ ∀ W' : World, (∀ j, W'.cell? ⟨b, j, none⟩ = W.cell? ⟨b, j, none⟩) → (loadE (.pointer (some ⟨b, o + k * 16, none⟩))).run Tryz.prog W' = .ok (.agg #[.int .i64 x.kind, .string x.nam.last, .string x.nam.first, .string x.seg.car, .int .i64 x.seg.num, .int .i64 x.seg.day, .int .u8 x.seg.cls, .bool x.seg.live, .int .i64 x.tik.kind, .int .i64 x.tik.day, .int .i64 x.tik.min, .string x.text, .int .i64 x.n, .int .i64 x.pax, .int .i64 x.row, .int .u8 x.let_]) W' := by
  obtain ⟨b, o, y, rfl, h1, h2, h3, h4, hc⟩ := h.at_ hk
  obtain rfl : x = y := by have e := hx.symm.trans h3.out; injection e
  refine ⟨b, o, rfl, h2, fun W' hW => ?_⟩
  have hr : W'.rangeAt b (o + k * 16) (#[.int .i64 x.kind, .string x.nam.last, .string x.nam.first, .string x.seg.car, .int .i64 x.seg.num, .int .i64 x.seg.day, .int .u8 x.seg.cls, .bool x.seg.live, .int .i64 x.tik.kind, .int .i64 x.tik.day, .int .i64 x.tik.min, .string x.text, .int .i64 x.n, .int .i64 x.pax, .int .i64 x.row, .int .u8 x.let_] : Array Value).toList := fun j v hj => (hW _).trans (hc j v hj)
  exact run_loadAt_mid W' b (o + k * 16) 50 _ _ hr Tryz.underlying50 rfl (by kernel_rfl)
attribute [local go_sem ↓] loadE_eq
set_option maxRecDepth 100000 in
set_option maxHeartbeats 8000000 in
theorem edits_same (l : List Edit) (A B : Option Addr) (n c n' c' : Nat) (w : World) (lo hi lo' hi' : Nat) (hs : Sl w lo hi tEdit A n l) (hs' : Sl w lo' hi' tEdit B n' l) (hn : n ≤ 100000) (hhi : hi ≤ w.heap.size) (hhi' : hi' ≤ w.heap.size) :
    Calls Tryz.prog 33 #[.slice A n c, .slice B n' c'] w (RetB w true) := by
  obtain rfl : n = n' := hs.len.symm.trans hs'.len
  have q1 : ((n : Int) != (n : Int)) = false := by simp
  go_enter Tryz.func33, Tryz.ntmps33
  go_wp2
  go_loopw [5] (fun i wr => ∃ k : Nat, k ≤ n ∧ i = .int .i64 k ∧ Below w.heap.size w wr) (fun i _ => n - (intOf i).toNat)
  case atStart => exact ⟨0, Nat.zero_le _, rfl, by (repeat (first | with_reducible exact Below.refl _ _ | (with_reducible refine Below.drew ?_) | (with_reducible refine below_drewN ?_ _) | (with_reducible refine Below.alloc ?_ (by first | (simp; done) | omega | (simp; omega)) _) | (with_reducible refine Below.setCell ?_ (by first | (simp; done) | omega | (simp; omega)) _) | with_reducible assumption))⟩
  case round =>
    obtain ⟨k, hk, rfl, hbel⟩ := hrel
    clear q1
    by_cases hlt : k < n
    · obtain ⟨x, hx⟩ : ∃ x, l[k]? = some x := ⟨l[k]'(by have := hs.len; omega), List.getElem?_eq_getElem _⟩
      obtain ⟨b, o, rfl, h2, hl⟩ := lde_of (hs.below hbel hhi) hlt hx
      obtain ⟨b', o', rfl, h2', hl'⟩ := lde_of (hs'.below hbel hhi') hlt hx
      have d1 := fun m => hl (wr.drewN m) (fun j => by simp)
      have d2 := fun m => hl' (wr.drewN m) (fun j => by simp)
      have hne := fun u => neq_edit_self x.kind x.seg.num x.seg.day x.seg.cls x.tik.kind x.tik.day x.tik.min x.n x.pax x.row x.let_ x.nam.last x.nam.first x.seg.car x.text x.seg.live u
      have hk0 : (0 : Int) ≤ k := by omega
      have hkl : (k : Int) < n := by omega
      clear hl hl' hx
      go_wp2
      go_quiet (fail)
      go_wp2
      go_roundw
      case rel => exact ⟨k + 1, by omega, by go_num, below_drewN hbel _⟩
      case measure => simp [intOf]; omega
    · obtain rfl : n = k := by omega
      go_wp2
      go_ret
      exact ⟨rfl, hbel⟩
theorem store_lg {ops : Array Oper} {rest : List Oper} {o : Oper} {a : Act} {W : World} {Q : Exit → Act → World → Prop} (hgd : o.guard = none) (x y : Operand) (ho : o.op = .store 44 x y) {g : Nat} (cells : Array Value) {old : Array Value}
    (hx : a.eval x = .pointer (some ⟨g, 0, none⟩)) (hy : a.eval y = .agg cells) (hr : Bx W g old 44) (h3 : cells.size = 3) (ho3 : old.size = 3) (h1 : (cells.all fun v => v.oneCell') = true)
    (h : wpList Tryz.prog ops Q rest (a.put o.dst undef) (W.setRow g cells)) : wpList Tryz.prog ops Q (o :: rest) a W :=
  wpList_store_row hgd _ x y ho g cells hx hy _ old hr (by rw [h3]; kernel_rfl) (by rw [ho3, h3]) h1 h
set_option maxRecDepth 100000 in
set_option maxHeartbeats 8000000 in
theorem rline_any (a : Ar) (h : AH) (n : Int) (w : World) (S : Nat → Prop) (hp : AS w S a h) (hS : ∀ b, S b → b < w.heap.size) (hs : a.small 1000) (hi : okInt n) :
    Calls Tryz.prog 28 #[.agg #[.string a.agent, .string a.off, .bool a.open_, .string a.base.loc, .string a.base.off, .slice h.b.an h.b.nn h.b.cn, .slice h.b.ag h.b.ng h.b.cg, .slice h.b.ap h.b.np h.b.cp, .int .i64 a.base.tik.kind, .int .i64 a.base.tik.day, .int .i64 a.base.tik.min, .string a.base.rc, .slice h.b.ar h.b.nr h.b.cr, .slice h.b.ae h.b.ne h.b.ce, .bool a.base.queued, .int .u64 a.ver, .slice h.ad h.nd h.cd, .slice h.al h.nl h.cl, .bool a.working, .int .i64 a.queue], .int .i64 n] w (RetLn w (lineF a n)) := by
  have hnl : a.legs.length = h.nl := hp.legs.len
  have hnl2 : h.nl ≤ 1000 := by have := hs.legs; omega
  have hnd := hp.edits.len.symm
  have HP := Lib.hid hp
  have HB := Lib.hid hS
  have HR := Lib.hid (show lineF a n = if noOne a then (lg0, 50) else if n < 1 ∨ a.legs.length < n then (lg0, 54) else ((a.legs[(n - 1).toNat]?).getD lg0, 0) from rfl)
  have HN := Lib.hid hnl
  have hF := F2.start w #[.string a.agent, .string a.off, .bool a.open_, .string a.base.loc, .string a.base.off, .slice h.b.an h.b.nn h.b.cn, .slice h.b.ag h.b.ng h.b.cg, .slice h.b.ap h.b.np h.b.cp, .int .i64 a.base.tik.kind, .int .i64 a.base.tik.day, .int .i64 a.base.tik.min, .string a.base.rc, .slice h.b.ar h.b.nr h.b.cr, .slice h.b.ae h.b.ne h.b.ce, .bool a.base.queued, .int .u64 a.ver, .slice h.ad h.nd h.cd, .slice h.al h.nl h.cl, .bool a.working, .int .i64 a.queue] 34 #[.string ⟨#[]⟩, .int .i64 0, .int .i64 0] 44
  rcases Bool.eq_false_or_eq_true (noOne a) with hno | hno
  · have hfin := HR.out
    rw [hno, if_pos rfl] at hfin
    rw [hfin]
    have HW := Lib.hid (fun W => rwrong19_any a h false W hnd (q0 := 50) (by simp [wrongA, hno]))
    clear hfin HR HN hp hS hs hi hnd hno hnl
    go_enter Tryz.func28, Tryz.ntmps28
    go_wp2_with (refine load_raD rfl (.tmp 2) rfl rfl hF.r1 rfl ?_)
    refine (HW.out _).mono ?_
    rintro en w1 ⟨rfl, hb1⟩
    have hF1 := hF.step hb1
    clear hF hb1 HW
    go_wp2_with (refine store_lg rfl (.tmp 4) (.tmp 12) rfl #[.string ⟨#[]⟩, .int .i64 0, .int .i64 0] rfl rfl hF1.r2 rfl rfl (by simp [Value.oneCell']) ?_)
    have hF9 := hF1.row2 #[.string ⟨#[]⟩, .int .i64 0, .int .i64 0]
    refine ret_lt Tryz.results28 hF9.r2 rfl rfl rfl rfl ?_
    exact ⟨rfl, hF9.B⟩
  have HW := Lib.hid (fun W => rwrong19_any a h false W hnd (q0 := 0) (by simp [wrongA, hno]))
  obtain ⟨m, hm⟩ : ∃ m, IntKind.i64.wrap (n - 1) = m := ⟨_, rfl⟩
  have hm2 : (0 < n ∧ m = n - 1) ∨ (n ≤ 0 ∧ (m < 0 ∨ 1000 < m)) := by
    unfold okInt at hi
    rw [IntKind.wrap_i64] at hm
    omega
  by_cases hn : n < 1 ∨ a.legs.length < n
  · have hfin := HR.out
    rw [hno, if_neg (by simp), if_pos hn] at hfin
    rw [hfin]
    rw [HN.out] at hn
    have hmk : ∀ k : Nat, k < h.nl → ((k : Int) == m) = false := fun k hk => by
      rw [beq_eq_false_iff_ne]
      intro e
      omega
    have HMK := Lib.hid hmk
    clear hfin HR HN hp hS hs hi hnd hno hnl hm2 hmk hn
    go_enter Tryz.func28, Tryz.ntmps28
    go_wp2_with (refine load_raD rfl (.tmp 2) rfl rfl hF.r1 rfl ?_)
    refine (HW.out _).mono ?_
    rintro en w1 ⟨rfl, hb1⟩
    have hF1 := hF.step hb1
    clear hF hb1 HW
    go_wp2
    go_loopw [7] (fun i wr => ∃ k : Nat, k ≤ h.nl ∧ i = .int .i64 k ∧ F2 w #[.string a.agent, .string a.off, .bool a.open_, .string a.base.loc, .string a.base.off, .slice h.b.an h.b.nn h.b.cn, .slice h.b.ag h.b.ng h.b.cg, .slice h.b.ap h.b.np h.b.cp, .int .i64 a.base.tik.kind, .int .i64 a.base.tik.day, .int .i64 a.base.tik.min, .string a.base.rc, .slice h.b.ar h.b.nr h.b.cr, .slice h.b.ae h.b.ne h.b.ce, .bool a.base.queued, .int .u64 a.ver, .slice h.ad h.nd h.cd, .slice h.al h.nl h.cl, .bool a.working, .int .i64 a.queue] 34 #[.string ⟨#[]⟩, .int .i64 0, .int .i64 0] 44 wr) (fun i _ => h.nl - (intOf i).toNat)
    case atStart => exact ⟨0, Nat.zero_le _, rfl, hF1⟩
    case round =>
      clear hF1
      obtain ⟨k, hk, rfl, hF⟩ := hrel
      have x1 := hF.x1
      try dsimp only [aC] at x1
      try dsimp only [aZ] at x1
      have z1 := hF.z
      by_cases hlt : k < h.nl
      · have hne := HMK.out k hlt
        have hk0 : (0 : Int) ≤ k := by omega
        have hkl : (k : Int) < h.nl := by omega
        go_wp2
        go_roundw
        case rel => exact ⟨k + 1, by omega, by go_num, hF⟩
        case measure => simp [intOf]; omega
      · obtain rfl : k = h.nl := by omega
        go_wp2_with (refine store_lg rfl (.tmp 4) (.tmp 34) rfl #[.string ⟨#[]⟩, .int .i64 0, .int .i64 0] rfl rfl hF.r2 rfl rfl (by simp [Value.oneCell']) ?_)
        have hF9 := hF.row2 #[.string ⟨#[]⟩, .int .i64 0, .int .i64 0]
        refine ret_lt Tryz.results28 hF9.r2 rfl rfl rfl rfl ?_
        exact ⟨rfl, hF9.B⟩
  · have hfin := HR.out
    rw [hno, if_neg (by simp), if_neg hn] at hfin
    rw [hfin]
    rw [HN.out] at hn
    obtain ⟨j, rfl⟩ : ∃ j : Nat, n = (j : Int) + 1 := ⟨(n - 1).toNat, by omega⟩
    have hlt : j < h.nl := by omega
    obtain ⟨x, hx⟩ : ∃ x, a.legs[j]? = some x := ⟨a.legs[j]'(by omega), List.getElem?_eq_getElem _⟩
    rw [show ((a.legs[((j : Int) + 1 - 1).toNat]?).getD lg0, (0 : Int)) = (x, 0) by rw [show ((j : Int) + 1 - 1).toNat = j by omega, hx]; rfl]
    obtain rfl : m = (j : Int) := by omega
    have hn0 : (0 : Int) < (j : Int) + 1 := by omega
    have HX := Lib.hid hx
    have HL := Lib.hid hp.legs
    clear hfin HR HN hp hS hs hi hnd hno hnl hm2 hn hx
    go_enter Tryz.func28, Tryz.ntmps28
    go_wp2_with (refine load_raD rfl (.tmp 2) rfl rfl hF.r1 rfl ?_)
    refine (HW.out _).mono ?_
    rintro en w1 ⟨rfl, hb1⟩
    have hF1 := hF.step hb1
    clear hF hb1 HW
    go_wp2
    go_loopw [7] (fun i wr => ∃ k : Nat, k ≤ j ∧ i = .int .i64 k ∧ F2 w #[.string a.agent, .string a.off, .bool a.open_, .string a.base.loc, .string a.base.off, .slice h.b.an h.b.nn h.b.cn, .slice h.b.ag h.b.ng h.b.cg, .slice h.b.ap h.b.np h.b.cp, .int .i64 a.base.tik.kind, .int .i64 a.base.tik.day, .int .i64 a.base.tik.min, .string a.base.rc, .slice h.b.ar h.b.nr h.b.cr, .slice h.b.ae h.b.ne h.b.ce, .bool a.base.queued, .int .u64 a.ver, .slice h.ad h.nd h.cd, .slice h.al h.nl h.cl, .bool a.working, .int .i64 a.queue] 34 #[.string ⟨#[]⟩, .int .i64 0, .int .i64 0] 44 wr) (fun i _ => j - (intOf i).toNat)
    case atStart => exact ⟨0, Nat.zero_le _, rfl, hF1⟩
    case round =>
      clear hF1
      obtain ⟨k, hk, rfl, hF⟩ := hrel
      have x1 := hF.x1
      try dsimp only [aC] at x1
      try dsimp only [aZ] at x1
      have z1 := hF.z
      have hk0 : (0 : Int) ≤ k := by omega
      have hkl : (k : Int) < h.nl := by omega
      by_cases hkj : k < j
      · have hne : ((k : Int) == (j : Int)) = false := by
          rw [beq_eq_false_iff_ne]
          omega
        go_wp2
        go_roundw
        case rel => exact ⟨k + 1, by omega, by go_num, hF⟩
        case measure => simp [intOf]; omega
      · obtain rfl : k = j := by omega
        obtain ⟨b, o, y, hA, g1, g2, hy, hok, c0, c1, c2⟩ := ((HL.out.below hF.B HB.out).sl (lo := 0) (hi := w.heap.size) fun b hb => ⟨Nat.zero_le _, HB.out b hb⟩).leg_ hlt
        obtain rfl : x = y := by have e := HX.out.symm.trans hy.out; injection e
        clear hy HX HL HB HP
        obtain ⟨hb, had, hnd, hcd, hal, hnl, hcl⟩ := h
        dsimp only at hA
        subst hA
        go_wp2_with (refine store_lg rfl (.tmp 4) (.tmp 33) rfl #[.string x.car, .int .i64 x.num, .int .i64 x.day] rfl rfl hF.r2 rfl rfl (by simp [Value.oneCell']) ?_)
        have hF9 := hF.row2 #[.string x.car, .int .i64 x.num, .int .i64 x.day]
        refine ret_lt Tryz.results28 hF9.r2 rfl rfl rfl rfl ?_
        exact ⟨rfl, hF9.B⟩
set_option maxRecDepth 100000 in
set_option maxHeartbeats 8000000 in
theorem same19_any (a : Ar) (h g : AH) (w : World) (S S' : Nat → Prop) (hp : AS w S a h) (hq : AS w S' a g) (hS : ∀ b, S b → b < w.heap.size) (hS' : ∀ b, S' b → b < w.heap.size) (hs : a.small 2000) :
    Calls Tryz.prog 9 #[.agg #[.string a.agent, .string a.off, .bool a.open_, .string a.base.loc, .string a.base.off, .slice h.b.an h.b.nn h.b.cn, .slice h.b.ag h.b.ng h.b.cg, .slice h.b.ap h.b.np h.b.cp, .int .i64 a.base.tik.kind, .int .i64 a.base.tik.day, .int .i64 a.base.tik.min, .string a.base.rc, .slice h.b.ar h.b.nr h.b.cr, .slice h.b.ae h.b.ne h.b.ce, .bool a.base.queued, .int .u64 a.ver, .slice h.ad h.nd h.cd, .slice h.al h.nl h.cl, .bool a.working, .int .i64 a.queue], .agg #[.string a.agent, .string a.off, .bool a.open_, .string a.base.loc, .string a.base.off, .slice g.b.an g.b.nn g.b.cn, .slice g.b.ag g.b.ng g.b.cg, .slice g.b.ap g.b.np g.b.cp, .int .i64 a.base.tik.kind, .int .i64 a.base.tik.day, .int .i64 a.base.tik.min, .string a.base.rc, .slice g.b.ar g.b.nr g.b.cr, .slice g.b.ae g.b.ne g.b.ce, .bool a.base.queued, .int .u64 a.ver, .slice g.ad g.nd g.cd, .slice g.al g.nl g.cl, .bool a.working, .int .i64 a.queue]] w (RetB w true) := by
  have HP := Lib.hid hp
  have HQ := Lib.hid hq
  have HB := Lib.hid hS
  have HB' := Lib.hid hS'
  have HSM := Lib.hid (hs.base.mono (M := 100000) (by omega))
  have hnd : h.nd ≤ 100000 := by have := hp.edits.len; have := hs.edits; omega
  have hnl : h.nl ≤ 100000 := by have := hp.legs.len; have := hs.legs; omega
  clear hp hq hS hS' hs
  have hF := F2.start w #[.string a.agent, .string a.off, .bool a.open_, .string a.base.loc, .string a.base.off, .slice h.b.an h.b.nn h.b.cn, .slice h.b.ag h.b.ng h.b.cg, .slice h.b.ap h.b.np h.b.cp, .int .i64 a.base.tik.kind, .int .i64 a.base.tik.day, .int .i64 a.base.tik.min, .string a.base.rc, .slice h.b.ar h.b.nr h.b.cr, .slice h.b.ae h.b.ne h.b.ce, .bool a.base.queued, .int .u64 a.ver, .slice h.ad h.nd h.cd, .slice h.al h.nl h.cl, .bool a.working, .int .i64 a.queue] 53 #[.string a.agent, .string a.off, .bool a.open_, .string a.base.loc, .string a.base.off, .slice g.b.an g.b.nn g.b.cn, .slice g.b.ag g.b.ng g.b.cg, .slice g.b.ap g.b.np g.b.cp, .int .i64 a.base.tik.kind, .int .i64 a.base.tik.day, .int .i64 a.base.tik.min, .string a.base.rc, .slice g.b.ar g.b.nr g.b.cr, .slice g.b.ae g.b.ne g.b.ce, .bool a.base.queued, .int .u64 a.ver, .slice g.ad g.nd g.cd, .slice g.al g.nl g.cl, .bool a.working, .int .i64 a.queue] 34
  go_enter Tryz.func9, Tryz.ntmps9
  go_wp2_with fail
  refine (psame a.base h.b g.b _ S S' (HP.out.base.below hF.B HB.out) (HQ.out.base.below hF.B HB'.out) (fun b hb => by have := HB.out b hb; have := hF.z; omega) (fun b hb => by have := HB'.out b hb; have := hF.z; omega) HSM.out).mono ?_
  rintro en w1 ⟨rfl, hb1⟩
  have hF1 := hF.step hb1
  have x1 := hF1.x1
  try dsimp only [aC] at x1
  try dsimp only [aZ] at x1
  have x2 := hF1.r2.cells
  try dsimp only [aC] at x2
  try dsimp only [aZ] at x2
  clear hF hb1 HSM
  go_wp2_with fail
  refine (edits_same a.edits h.ad g.ad h.nd h.cd g.nd g.cd _ 0 w.heap.size 0 w.heap.size ((HP.out.edits.below hF1.B HB.out).sl fun b hb => ⟨Nat.zero_le _, HB.out b hb⟩) ((HQ.out.edits.below hF1.B HB'.out).sl fun b hb => ⟨Nat.zero_le _, HB'.out b hb⟩) hnd (by have := hF1.z; omega) (by have := hF1.z; omega)).mono ?_
  rintro en w2 ⟨rfl, hb2⟩
  have hF2 := hF1.step hb2
  have y1 := hF2.x1
  try dsimp only [aC] at y1
  try dsimp only [aZ] at y1
  have y2 := hF2.r2.cells
  try dsimp only [aC] at y2
  try dsimp only [aZ] at y2
  clear hF1 hb2 x1 x2
  go_wp2_with fail
  refine (legs_same a.legs h.al g.al h.nl h.cl g.nl g.cl _ 0 w.heap.size 0 w.heap.size ((HP.out.legs.below hF2.B HB.out).sl fun b hb => ⟨Nat.zero_le _, HB.out b hb⟩) ((HQ.out.legs.below hF2.B HB'.out).sl fun b hb => ⟨Nat.zero_le _, HB'.out b hb⟩) hnl (by have := hF2.z; omega) (by have := hF2.z; omega)).mono ?_
  rintro en w3 ⟨rfl, hb3⟩
  have hF3 := hF2.step hb3
  have v1 := hF3.x1
  try dsimp only [aC] at v1
  try dsimp only [aZ] at v1
  have v2 := hF3.r2.cells
  try dsimp only [aC] at v2
  try dsimp only [aZ] at v2
  clear hF2 hb3 y1 y2
  go_wp2
  go_ret
  exact ⟨ret_bool (by simp), hF3.B⟩
end Go.Proofs.YtpgeoahlhdifoaaGreatDoor
